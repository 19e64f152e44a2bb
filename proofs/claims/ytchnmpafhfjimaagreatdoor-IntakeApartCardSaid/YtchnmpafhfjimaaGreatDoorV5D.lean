/- Lemmas for the statement of the last text of this claim. -/
import Derived.Test.YtchnmpafhfjimaaGreatDoorV5C
set_option linter.unusedSimpArgs false
set_option linter.unusedVariables false
namespace Go.Proofs.YtchnmpafhfjimaaGreatDoor.Fr
open Go Go.Abs Go.RowKit Go.Maps
theorem abT:Maps.Keyed Tryz.prog 9:=string_keyed Tryz.underlying9
set_option maxHeartbeats 6400000 in
set_option maxRecDepth 1000000 in
theorem TG(w:World)(a b:Int)(gs sl:Value)(l:List l6)(hsl:sl.oneCell'=true)(hv:PR w Ho gs (bN Kn l false))(hb:xG l=true):Calls Tryz.prog 47 #[.agg #[.int .i64 a,gs,sl,.int .i64 b]] w (Bv l w):=by
 have hmm:= @run_makeMap Tryz.prog;obtain⟨ga,gb,go,gcap,rfl,ha,hc⟩:=SE hv
 have H:Hid ((l≠ []→ga=some ⟨gb,go,none⟩)∧∀(p:Nat) (g:l6),l[p]?=some g→∃mv,w.cell? ⟨gb,go+p*5,none⟩=some (.int .i64 g.1)∧w.cell? ⟨gb,go+p*5+1,none⟩=some (.string g.2.1)∧
   w.cell? ⟨gb,go+p*5+2,none⟩=some mv∧w.cell? ⟨gb,go+p*5+3,none⟩=some (.int .i64 g.2.2.2.1)∧w.cell? ⟨gb,go+p*5+4,none⟩=some (.int .i64 g.2.2.2.2.1)∧mv.oneCell'=true∧PR w Ho mv (bN WT g.2.2.1 false)):=⟨ha,hc⟩
 have HB:Hid (xG l=true):=hb;have hpb:=(adG hb).len;clear ha hc hv hb;obtain⟨i9,hi9,hz9,hs9,hb9⟩:=info_parts (P:=Tryz.prog) (e:=9) (z:=.string ⟨#[]⟩) (size:=1) (bytes:=16) (by kernel_rfl);obtain⟨i51,hi51,hz51,hs51,hb51⟩:=info_parts (P:=Tryz.prog) (e:=51) (z:=.slice none 0 0) (size:=1) (bytes:=24) (by kernel_rfl)
 go_enter Tryz.func47,Tryz.ntmps47
 go_wp2
 go_loopg [4,18] l.length (fun g kv i wr=>∃(p:Nat) (kv':Value),p≤l.length∧g=l.length-p∧i= .int .i64 p∧kv'=kv∧Hid (FI w wr kv' (bT (l.take p))))
 case atStart=>
  refine⟨0,_,alj _,rfl,rfl,rfl,?_⟩;have h1:=World.ownsMap_made (H:=Value) (w.alloc (.cells #[.int .i64 a,.slice ga l.length gcap,sl,.int .i64 b] 40)) Tryz.prog 9 RV;simp only[World.size_alloc]at h1;exact FI.start ((fQ (fQ (World.Since.refl _ w) (akJ _) (World.grownBy_alloc _ _ none) (fun k e=>by cases e)) (by simp) (World.grownBy_alloc _ _ none) (fun k e=>by cases e))) (by simp) h1
 case round=>
  obtain⟨p,kv,hp,rfl,rfl,rfl,HF⟩:=hrel;by_cases hlt:p<l.length
  ·obtain⟨g,hg⟩:∃g,l[p]?=some g:=⟨_,akH hlt⟩
   have hne:l≠ []:=fun e=>by rw[e]at hlt;simp at hlt
   have:=H.out.1 hne;subst this;obtain⟨mv,c0,c1,c2,c3,c4,om,hmv⟩:=H.out.2 p g hg;have hgb:gb<w.heap.size:=World.block_lt_of_cell? _ _ c0;obtain⟨ma,mb,mo,mcap,rfl,hma,hmc⟩:=RA hmv;have hs:=HF.out.since;have k0:wr.cell? ⟨gb,go+p*5,none⟩=some (.int .i64 g.1):=by rw[hs.cell (a:=⟨gb,go+p*5,none⟩) hgb];exact c0
   have k1:wr.cell? ⟨gb,go+p*5+1,none⟩=some (.string g.2.1):=by rw[hs.cell (a:=⟨gb,go+p*5+1,none⟩) hgb];exact c1
   have k2:wr.cell? ⟨gb,go+p*5+2,none⟩=some (.slice ma g.2.2.1.length mcap):=by rw[hs.cell (a:=⟨gb,go+p*5+2,none⟩) hgb];exact c2
   have k3:wr.cell? ⟨gb,go+p*5+3,none⟩=some (.int .i64 g.2.2.2.1):=by rw[hs.cell (a:=⟨gb,go+p*5+3,none⟩) hgb];exact c3
   have k4:wr.cell? ⟨gb,go+p*5+4,none⟩=some (.int .i64 g.2.2.2.2.1):=by rw[hs.cell (a:=⟨gb,go+p*5+4,none⟩) hgb];exact c4
   have HM:Hid ((g.2.2.1≠ []→ma=some ⟨mb,mo,none⟩)∧∀(q:Nat) (m:jY),g.2.2.1[q]?=some m→∃lv,w.cell? ⟨mb,mo+q*6,none⟩=some (.string m.1)∧w.cell? ⟨mb,mo+q*6+1,none⟩=some lv∧
    w.cell? ⟨mb,mo+q*6+2,none⟩=some (.int .i64 m.2.2.1)∧w.cell? ⟨mb,mo+q*6+3,none⟩=some (.int .i64 m.2.2.2.1)∧w.cell? ⟨mb,mo+q*6+4,none⟩=some (.bool m.2.2.2.2.1)∧w.cell? ⟨mb,mo+q*6+5,none⟩=some (.bool m.2.2.2.2.2.1)∧lv.oneCell'=true∧PR w Ho lv (bN jr m.2.1 false)):=⟨hma,hmc⟩
   clear c0 c1 c2 c3 c4 om hmv hma hmc hs
   go_wp2
   have HG:Hid (FI w (wr.alloc (.cells #[.int .i64 g.1,.string g.2.1,.slice ma g.2.2.1.length mcap,.int .i64 g.2.2.2.1,.int .i64 g.2.2.2.2.1] 110)) kv (bT (l.take p))):=HF.out.same (World.grownBy_alloc _ _ none);have HT:Hid (l[p]?=some g):=hg;clear HF k0 k1 k2 k3 k4 hg
   go_loopg [4,25] g.2.2.1.length (fun c kx j wi=>∃(q:Nat) (kv':Value),q≤g.2.2.1.length∧c=g.2.2.1.length-q∧j= .int .i64 q∧kv'=kx∧Hid (FI w wi kv' (bT (l.take p)++(g.2.2.1.take q).filter fun m=>m.2.2.2.2.1)))
   case atStart=>exact⟨0,_,alj _,rfl,rfl,rfl,by rw[amq,List.filter_nil,alk];exact HG.out⟩
   case round=>
    clear HG;obtain⟨q,kx,hq,rfl,rfl,rfl,HI⟩:=hrel;by_cases hqt:q<g.2.2.1.length
    ·obtain⟨m,hm⟩:∃m,g.2.2.1[q]?=some m:=⟨_,akH hqt⟩
     have hne2:g.2.2.1≠ []:=fun e=>by rw[e]at hqt;simp at hqt
     have:=HM.out.1 hne2;subst this;obtain⟨lv,c0,c1,c2,c3,c4,c5,olv,hlv⟩:=HM.out.2 q m hm;obtain⟨la,lb,lo,lcap,rfl,_,_⟩:=wV hlv;have hmb:mb<w.heap.size:=World.block_lt_of_cell? _ _ c0;have hs:=HI.out.since;have k0:wr.cell? ⟨mb,mo+q*6,none⟩=some (.string m.1):=by rw[hs.cell (a:=⟨mb,mo+q*6,none⟩) hmb];exact c0
     have k1:wr.cell? ⟨mb,mo+q*6+1,none⟩=some (.slice la m.2.1.length lcap):=by rw[hs.cell (a:=⟨mb,mo+q*6+1,none⟩) hmb];exact c1
     have k2:wr.cell? ⟨mb,mo+q*6+2,none⟩=some (.int .i64 m.2.2.1):=by rw[hs.cell (a:=⟨mb,mo+q*6+2,none⟩) hmb];exact c2
     have k3:wr.cell? ⟨mb,mo+q*6+3,none⟩=some (.int .i64 m.2.2.2.1):=by rw[hs.cell (a:=⟨mb,mo+q*6+3,none⟩) hmb];exact c3
     have k4:wr.cell? ⟨mb,mo+q*6+4,none⟩=some (.bool m.2.2.2.2.1):=by rw[hs.cell (a:=⟨mb,mo+q*6+4,none⟩) hmb];exact c4
     have k5:wr.cell? ⟨mb,mo+q*6+5,none⟩=some (.bool m.2.2.2.2.2.1):=by rw[hs.cell (a:=⟨mb,mo+q*6+5,none⟩) hmb];exact c5
     clear c0 c1 c2 c3 c4 c5 hs;have hB:=adG HB.out;have hbm:=hB.mem g (akC HT.out) m (akC hm);have hql:g.2.2.1.length≤4294967296:=by exact alz (Zt HT.out) hB.all
     have hpl:=alz (KM HT.out q) hB.all;have hkl:=Ph (bT (l.take p)++(g.2.2.1.take q).filter fun m=>m.2.2.2.2.1) [];simp only[List.length_nil,aml]at hkl;have hkey:keyOf Tryz.prog 9 (.string m.1)=some (kl m.1):=WideMaps.keyOf_string_mk (P:=Tryz.prog) Tryz.underlying9 (by unfold maxLen;omega);obtain⟨D,d1,d2,d3⟩:=HI.out.map;have hx:=HI.out.keys;have hsz:=HI.out.size;have HR:Hid (PR w Ho (.slice la m.2.1.length lcap) (bN jr m.2.1 false)):=hlv;have HMm:Hid (g.2.2.1[q]?=some m):=hm;have HD2:Hid (∀k,Maps.has D (kl k)=(bP (bT (l.take p)++(g.2.2.1.take q).filter fun m=>m.2.2.2.2.1) []).any fun x=>decide (x=k)):=d2;have HD3:Hid (∀k∈bP (bT (l.take p)++(g.2.2.1.take q).filter fun m=>m.2.2.2.2.1) [],∃lv,D.atKey (kl k) zS= .held lv∧PR w Ho lv (bN jr (jm (bT (l.take p)++(g.2.2.1.take q).filter fun m=>m.2.2.2.2.1) k) false)):=d3
     obtain⟨pre,hpre⟩:∃pre,pre=bT (l.take p)++(g.2.2.1.take q).filter fun m=>m.2.2.2.2.1:=⟨_,rfl⟩
     rw[←hpre]at d1 hx hkl HD2 HD3 HI hpl;have HP:Hid (pre=bT (l.take p)++(g.2.2.1.take q).filter fun m=>m.2.2.2.2.1):=hpre;clear hlv hm d2 d3 hB hpre;generalize hhas:Maps.has D (kl m.1)=seen
     go_wp2_with (first
      |(at_lookup;refine wpList_lookup_own_ok _ rfl _ _ 154 rfl 9 51 abT Tryz.underlying154 RV (Tryz.zeroValue51 _) zS [] rfl (w.heap.size+1) _ D rfl (d1.alloc _) _ _ rfl hkey ?_;intro v ps hv;rw[hhas])
      | (at_mapUpdate;refine wpList_mapUpdate_own _ rfl _ _ _ 154 rfl 9 51 abT Tryz.underlying154 RV (w.heap.size+1) _ D rfl (d1.alloc _) (by unfold maxLen;omega) _ _ _ rfl rfl hkey (.held (.slice la m.2.1.length lcap)) [] rfl ?_;intro w1 hown1 hgrow1
         have k6:w1.cell? ⟨wr.heap.size,0,none⟩=some (.string m.1):=kN hgrow1 (by simp) (by intro e;have:=Option.some.inj e;omega) (Sk _ _ _ _);have hs1:=hgrow1.size)
      |(at_builtin;refine wpList_append_lies _ rfl _ _ 50 rfl (w.heap.size+2) 9 i9 (.string ⟨#[]⟩) 1 16 Tryz.underlying50 hi9 hz9 hs9 hb9 rfl (by decide) kx _ _ rfl (((hx.alloc _).kept hgrow1 (by cases hkb:kx.ownBlock with|none=>exact .inl rfl|some k=>exact .inr (by have:=(hx.lt k hkb).1;simp;omega))).alloc _) ⟨w1.heap.size,0,none⟩ 1 1 [.string m.1] rfl rfl NA (by intro u hu;simp at hu;subst hu;rfl) (by decide) (by unfold maxLen;omega) (by omega) (by simp at hs1 ⊢;omega) _ rfl ?_;intro g2 cap2 w2 hown2 hgrow2 hat2 hlt2))
     ·have hf:m.2.2.2.2.1=true:=by assumption
      have hno:m.1∉bP pre []:=fun c=>by
       have h1:=HD2.out m.1;rw[DY.2 c,hhas]at h1;have h2:(!seen)=true:=by assumption
       rw[h1]at h2;cases h2
      go_roundg (g.2.2.1.length-(q+1))
      case measure=>omega
      case rel=>
       refine⟨q+1,_,by omega,rfl,by go_num,rfl,?_⟩;rw[ug HMm.out,if_pos hf,←ale,←HP.out];exact HI.out.new hno d1 HD2.out HD3.out HR.out (World.grownBy_alloc _ _ none) hown1 hgrow1 (World.grownBy_alloc _ _ none) hgrow2 hown2
     ·have hf:m.2.2.2.2.1=true:=by assumption
      have hyes:m.1∈bP pre []:=by
       have h1:=HD2.out m.1;have h2:(!seen)=false:=by assumption
       rw[hhas]at h1;cases seen
       ·cases h2
       ·exact DY.1 h1.symm
      go_roundg (g.2.2.1.length-(q+1))
      case measure=>omega
      case rel=>
       refine⟨q+1,_,by omega,rfl,by go_num,rfl,?_⟩;rw[ug HMm.out,if_pos hf,←ale,←HP.out];exact(HI.out.same (World.grownBy_alloc _ _ none)).seen hyes
     ·have hf:m.2.2.2.2.1=false:=by
       have h:¬ m.2.2.2.2.1=true:=by assumption
       simpa using h
      go_roundg (g.2.2.1.length-(q+1))
      case measure=>omega
      case rel=>
       refine⟨q+1,_,by omega,rfl,by go_num,rfl,?_⟩;rw[ug HMm.out,if_neg (by rw[hf];simp),alk,←HP.out];exact HI.out.same (World.grownBy_alloc _ _ none)
    ·have hqe:q=g.2.2.1.length:=by omega
     have HE:Hid (FI w wr kx (bT (l.take (p+1)))):=by
      have:=HI.out;rw[hqe,alC,←WY HT.out]at this;exact this
     clear HI
     go_wp2
     go_roundg (l.length-(p+1))
     case measure=>omega
     case rel=>exact⟨p+1,_,by omega,rfl,by go_num,rfl,HE.out⟩
  ·have hpe:p=l.length:=by omega
   have HE:Hid (FI w wr kv (bT l)):=by
    have:=HF.out;rw[hpe,alC]at this;exact this
   have hB:=adG HB.out
   have hkl:(jZ l).length≤4294967296:=by
    have h1:=Ph (bT l) [];have h2:=Rm l;have h3:=hB.all;simp only[List.length_nil,aml]at h1;exact alz h1 (alz h2 h3)
   clear HF;have hsort:=OE HE.out.keys hkl;obtain⟨ka,kg,kcap,rfl,hka⟩:=V4 HE.out.keys;have HK:Hid ((jZ l).length≠0→ka=some ⟨kg,0,none⟩):=hka;clear hka;obtain⟨N,hN⟩:∃N,N=(jZ l).length:=⟨_,rfl⟩
   go_wp2_with (go_at_call 102;refine hsort.mono ?_;rintro e w1 ⟨rfl,hown1,hgrow1⟩)
   have HS:Hid (w.Since w.heap.size w1∧w1.ownsRow (w.heap.size+2) 9 1 (.slice ka (jZ l).length kcap) (jZ l).length ((sorted (jZ l)).map encStr)∧∃D,w1.ownsMap Tryz.prog 9 RV (w.heap.size+1) (bT l).length D∧
     ∀k∈jZ l,∃lv,D.atKey (kl k) zS= .held lv∧PR w Ho lv (bN jr (jm (bT l) k) false)):=by
    obtain⟨D,d1,d2,d3⟩:=HE.out.map;have hlt:=HE.out.keys.lt;have hsz:=HE.out.size;refine⟨fQ HE.out.since (by omega) hgrow1 (fun k e=>by have:=(hlt k e).1;omega),hown1,D,d1.kept hgrow1 ?_,d3⟩;intro e;have:=(hlt _ e.symm).1;omega
   clear HE hsort hown1 hgrow1
   go_loopg [11,58] (jZ l).length (fun c ov i wo=>∃(q:Nat) (ov':Value),q≤(jZ l).length∧c=(jZ l).length-q∧i= .int .i64 q∧ov'=ov∧Hid (OI l w1 wo ov' q))
   case atStart=>exact⟨0,_,alj _,rfl,rfl,rfl,OI.start l w1⟩
   case round=>
    obtain⟨q,ov,hq,rfl,rfl,rfl,HO⟩:=hrel;by_cases hqt:q<(jZ l).length
    ·have hkq:q<(sorted (jZ l)).length:=by rw[yJ];exact hqt
     obtain⟨k,hk⟩:∃k,(sorted (jZ l))[q]?=some k:=⟨_,akH hkq⟩
     have hmem:=Px (akC hk);obtain⟨gx,hgx,mx,hmx,emx⟩:=ZY hmem;have hkb:=(hB.mem gx hgx mx hmx).1;rw[emx]at hkb;have:=HK.out (by omega);subst this;obtain⟨s1,s2,D,s3,s4⟩:=HS.out
     have k0:wr.cell? ⟨kg,q,none⟩=some (.string ⟨k.toArray⟩):=by
      have h1:w1.cell? ⟨kg,q,none⟩=((sorted (jZ l)).map encStr)[q]?:=s2.cellAt q (by omega);rw[akE,hk]at h1;exact kN HO.out.grown (s2.lt kg rfl).2 (by simp) h1
     have hkey:keyOf Tryz.prog 9 (.string ⟨k.toArray⟩)=some (kl ⟨k.toArray⟩):=WideMaps.keyOf_string_mk (P:=Tryz.prog) Tryz.underlying9 (by unfold maxLen;omega);obtain⟨v,ps,hrun,hv⟩:=(s3.kept HO.out.grown (by simp)).lookup abT Tryz.underlying154 (Tryz.zeroValue51 _) (zd:=zS) (zp:=[]) rfl hkey;obtain⟨lv,e1,e2⟩:=s4 _ hmem;rw[e1]at hv;have hve:v=lv:=(show v=lv∧ps=[] by simpa[RV]using hv).1;subst hve;obtain⟨la,lb,lo,lcap,rfl,_,_⟩:=wV e2;have hsw:w.Since w.heap.size wr:=fQ s1 s1.size HO.out.grown (fun k e=>by cases e);have hclone:=LV (Ww e2 hsw) (aaI hB k);obtain⟨xs,hx,hr⟩:=HO.out.rows;have HR:Hid (∀(p:Nat) (y:Value),xs[p]?=some y→∃k,(sorted (jZ l))[p]?=some k∧lW wr w1.heap.size ov.ownBlock y (xg l k)):=hr;have HKQ:Hid ((sorted (jZ l))[q]?=some k):=hk;have hsz:=HO.out.grown.size;clear s1 s2 s3 s4 hv e2 hsw hr hk hmem emx hgx hmx
     go_wp2_with (first
      | (go_at_call 103;refine hclone.mono ?_;rintro e w2 ⟨v',rfl,hpr,ho,hbel⟩
         obtain⟨va,vb,vo,vcap,rfl,_,_⟩:=wV hpr;have hg2:=Mg hbel;have HL:Hid (lW w2 wr.heap.size none (.slice va (jm (bT l) ⟨k.toArray⟩).length vcap) (xg l k)):=acE hpr;have hsz2:=hg2.size)
      |(at_builtin;refine wpList_append_lies _ rfl _ _ 94 rfl w1.heap.size 51 i51 (.slice none 0 0) 1 24 Tryz.underlying94 hi51 hz51 hs51 hb51 rfl (by decide) ov q xs rfl ((hx.kept hg2 (by cases ov.ownBlock with|none=>exact .inl rfl|some k=>exact .inr (by simp))).alloc _) ⟨w2.heap.size,0,none⟩ 1 1 [.slice va (jm (bT l) ⟨k.toArray⟩).length vcap] rfl rfl NA (by intro u hu;simp at hu;subst hu;rfl) (by decide) (by unfold maxLen;omega) (by omega) (by simp;omega) _ rfl ?_;intro g3 cap3 w3 hown3 hgrow3 hat3 hlt3))
     go_roundg ((jZ l).length-(q+1))
     case measure=>omega
     case rel=>exact⟨q+1,_,by omega,rfl,by go_num,rfl,HO.out.step hx HR.out HKQ.out HL.out hg2 hgrow3 hown3 hat3⟩
    ·have hqe:q=(jZ l).length:=by omega
     have HD:Hid (OI l w1 wr ov (sorted (jZ l)).length):=by rw[yJ,←hqe];exact HO.out
     clear HO
     go_wp2
     go_ret
     exact HD.out.done HS.out.1
theorem adD:eH Tryz.prog 47 QH:=Zw (entered Tryz.func47 rfl (by decide)) TG
end Go.Proofs.YtchnmpafhfjimaaGreatDoor.Fr
namespace Go.Proofs.YtchnmpafhfjimaaGreatDoor
open Go Go.Abs
noncomputable section
abbrev aU:Abs.Ty:=.int .i64
abbrev rIz:Abs.Ty:=.row aU
abbrev DZ:Abs.Ty:=.row .str
abbrev Z9:Abs.Ty:=(.cons aU (.cons aU (.cons aU (.cons .str (.cons (.row .str) (.cons (.row .str) .unit))))))
abbrev jh:Type:=(List (ByteArray×ByteArray×Unit))
abbrev Eg:Type:=(Int×Int×Int×ByteArray×(List ByteArray)×(List ByteArray)×Unit)
abbrev Z15:Abs.Ty:=(.cons .str (.cons .str .unit))
abbrev Z7:Abs.Ty:=(.cons .str (.cons (.row Z15) (.cons aU (.cons aU (.cons .bool (.cons .bool .unit))))))
abbrev Z1:Abs.Ty:=(.cons aU (.cons .str (.cons (.row Z7) (.cons aU (.cons aU .unit)))))
abbrev JQ:Abs.Ty:=(.cons .str (.cons aU (.cons .str .unit)))
abbrev Z2:Abs.Ty:=(.cons aU (.cons (.row JQ) (.cons aU (.cons (.row .str) (.cons aU (.cons aU (.cons aU (.cons .bool .unit))))))))
abbrev Z4:Abs.Ty:=(.cons aU (.cons aU (.cons aU (.cons aU (.cons (.row JQ) .unit)))))
abbrev Z6:Abs.Ty:=(.cons (.row JQ) (.cons (.row JQ) (.cons (.row .str) .unit)))
abbrev Zn:Abs.Ty:=(.cons (.row Z2) (.cons (.row Z6) (.cons aU .unit)))
abbrev Co:Type:=((Int×ByteArray×Int×Int×Unit)×Unit)
abbrev Oe:Type:=((Int×Int×Int×ByteArray×Unit)×Unit)
abbrev Z20:Abs.Ty:=(.cons aU (.cons (.row Z1) (.cons (.row Z4) (.cons aU .unit))))
abbrev Z21:Abs.Ty:=(.cons (.row aU) (.cons aU .unit))
abbrev Bd:Type:=((Int×Int×Unit)×Unit)
abbrev iG:Type:=((Bool×Unit)×(Unit))
abbrev Ni:Type:=(ByteArray×Int×ByteArray×Unit)
abbrev Y3:Type:=(List Ni)
abbrev Y8:Type:=(Int×Y3×Int×(List ByteArray)×Int×Int×Int×Bool×Unit)
abbrev Bb:Type:=(List (Int×Int×Int×Int×Y3×Unit))
abbrev GN:Type:=(List (Y3×Y3×(List ByteArray)×Unit))
abbrev XG:Type:=((List Y8)×GN×Int×Unit)
abbrev XD:Type:=(((List Int)×Int×Unit)×Unit)
abbrev XF:Abs.Ty:=(.cons aU (.cons (.row Z15) (.cons .bool .unit)))
abbrev Ca:Type:=((ByteArray×Unit)×(Unit))
abbrev XE:Type:=(ByteArray×jh×Int×Int×Bool×Bool×Unit)
abbrev Y5:Type:=(List XE)
abbrev qM:Type:=(Int×ByteArray×Y5×Int×Int×Unit)
abbrev Y27:Type:=(Int×(List qM)×Bb×Int×Unit)
abbrev Ot:Type:=((List qM)×(XG×Unit)×Bd×Bb×Unit)
abbrev XB:Type:=(Y5×Oe×(List ByteArray)×(List ByteArray)×Unit)
abbrev KY:Type:=((Unit)×((List Int)×Unit))
abbrev Y34:Type:=((Eg×Unit)×(List Eg)×((Int×Unit)×Unit)×(List Y8)×GN×Unit)
abbrev dG:Abs.Sh:=(.dat aU .nil)
abbrev pI:Abs.Sh:=(.dat aU dG)
abbrev Qs4:Abs.Sh:=(.agg (.dat aU (.dat aU (.dat aU (.dat .str (.st .nil (.st .nil .nil)))))) .nil)
abbrev Qb5:Abs.iJ:=(.box 9 (.agg (.dat (.row Z2) (.dat (.row Z6) (.dat aU (.dat aU (.part Z1 (1,0) (.st (.own Z4 (2,0)) (.dat aU (.st (.own Z9 (3,0)) dG)))))))) .nil) (.arr Z1 false (.arr Z4 false (.arr Z9 false .nil))))
abbrev KV:Abs.Sh:=(.agg (.dat aU (.dat .str (.st .nil pI))) .nil)
abbrev gP:Abs.Sh:=(.dat .bool .nil)
abbrev LA:Abs.Sh:=(.agg (.dat aU (.st .nil (.st .nil dG))) .nil)
abbrev Zm:Abs.Sh:=(.agg (.dat aU (.dat aU (.dat aU (.dat .str (.st (.own .str (5,0)) (.st (.own .str (6,0)) .nil)))))) .nil)
abbrev Jk:Abs.iJ:=(.box 5 (.agg (.dat aU (.dat .str (.st (.own Z7 (1,0)) pI))) .nil) (.arr Z7 false .nil))
abbrev fD:Abs.Sh:=(.dat .str .nil)
abbrev rZ:Abs.oF:=(.ptr (0,0) 5 0 0)
abbrev U4:Abs.iJ:=(.box 6 (.dat Z9 .nil) (.arr Z9 false (.box 3 (.agg (.st (.own Z2 (3,0)) (.st (.own Z6 (4,0)) dG)) .nil) (.arr Z2 true (.arr Z6 true .nil)))))
abbrev aiQ:Abs.Sh:=(.agg (.dat aU (.dat aU (.dat aU (.dat .str (.st (.own .str (4,0)) (.st (.own .str (5,0)) .nil)))))) .nil)
abbrev wY:Abs.iJ:=(.arr aU false .nil)
abbrev oh:Abs.Sh:=(.dat (.row Z15) .nil)
abbrev YT:Abs.iJ:=(.box 6 (.dat Z9 .nil) (.box 3 (.agg (.st (.own Z2 (3,0)) (.st (.own Z6 (4,0)) dG)) .nil) (.arr Z9 false (.arr Z2 true (.arr Z6 true .nil)))))
abbrev EQ:Abs.iJ:=(.box 5 (.dat Z1 .nil) .nil)
abbrev l7:Abs.oF:=(.ptr (0,0) 4 0 0)
abbrev Kj:Abs.oF:=(.own aU (0,0))
abbrev DC:Abs.Sh:=(.dat aU pI)
abbrev sO:Abs.oF:=(.ptr (0,0) 6 0 0)
abbrev mH:Abs.oF:=(.ptr (0,0) 3 0 0)
abbrev Yx:Abs.iJ:=(.box 5 KV (.box 5 (.agg (.dat aU (.dat .str (.st (.own Z7 (2,0)) pI))) .nil) (.arr Z7 false .nil)))
abbrev ZM:Abs.Sh:=(.agg (.dat aU (.dat .str (.st (.own Z7 (0,0)) pI))) .nil)
abbrev qw:Abs.iJ:=(.arr Z15 false .nil)
abbrev Jw:Abs.oF:=(.ptr (0,0) 2 0 0)
abbrev aaJ:Abs.Sh:=(.dat aU (.st (.own Z1 (0,0)) (.st (.clo 132 [((1,0),3,0,0),((2,0),4,0,0)]) dG)))
abbrev Du:Abs.oF:=(.ptr (1,0) 6 0 0)
abbrev rE:Abs.oF:=(.ptr (1,0) 3 0 0)
abbrev Fj:Abs.Sh:=(.dat JQ .nil)
abbrev sN:Abs.Sh:=(.dat Z21 .nil)
abbrev sP:Abs.iJ:=(.box 2 sN .nil)
abbrev Ci:Abs.Sh:=(.dat Z2 .nil)
abbrev YB:Abs.iJ:=(.box 5 (.agg (.dat aU (.dat .str (.st (.own Z7 (3,0)) pI))) .nil) (.box 8 Ci (.box 5 KV (.arr Z7 false .nil))))
abbrev abW:Abs.iJ:=(.box 5 KV (.box 6 Qs4 (.box 6 Zm (.box 5 (.agg (.dat aU (.dat .str (.part Z7 (7,0) pI))) .nil) (.box 8 Ci (.arr .str false (.arr .str false (.arr Z7 false .nil))))))))
abbrev Dw:Abs.Sh:=(.dat aU fD)
abbrev Ad:Abs.oF:=(.ptr (1,0) 4 0 0)
abbrev zy:Abs.oF:=(.ptr (2,0) 3 0 0)
abbrev DI:Abs.iJ:=(.arr .str false .nil)
abbrev RZ:Abs.iJ:=(.arr .str false DI)
abbrev Qb6:Abs.iJ:=(.box 6 (.agg (.dat aU (.dat aU (.dat aU (.dat .str (.st (.own .str (2,0)) (.st (.own .str (3,0)) .nil)))))) .nil) RZ)
abbrev qI:Abs.Sh:=(.dat Zn .nil)
abbrev abX:Abs.iJ:=(.box 3 qI (.box 4 (.dat Z20 .nil) .nil))
abbrev qU:Abs.oF:=(.own Z9 (1,0))
abbrev BN:Abs.iJ:=(.arr Z4 false .nil)
abbrev X3:Abs.iJ:=(.arr Z1 false (.box 3 qI (.box 4 (.agg (.dat aU (.st (.own Z1 (0,0)) (.st (.own Z4 (3,0)) dG))) .nil) BN)))
abbrev YX:Abs.iJ:=(.box 4 LA (.box 4 (.agg (.dat aU (.st (.own Z1 (5,0)) (.st (.own Z4 (6,0)) dG))) .nil) (.box 3 (.dat XF .nil) (.box 3 qI (.arr aU false (.arr Z1 false BN))))))
abbrev TM:Abs.iJ:=(.box 4 (.agg (.dat aU (.st (.own Z1 (1,0)) (.st (.own Z4 (2,0)) dG))) .nil) (.arr Z1 false BN))
abbrev ac3:Abs.iJ:=(.box 4 (.agg (.dat aU (.part Z1 (2,0) (.st (.own Z4 (3,0)) dG))) .nil) (.arr Z9 false (.arr Z1 false BN)))
abbrev adR:Abs.Sh:=(.st (.own .bool (0,0)) (.st (.own .bool (1,0)) (.dat .str (.dat aU (.dat .str dG)))))
abbrev ML:Abs.oF:=(.ptr (1,0) 5 0 0)
abbrev KQ:Abs.Sh:=(.dat DZ .nil)
abbrev JZ:Abs.Sh:=(.dat aU gP)
abbrev EP:Abs.oF:=(.own Z15 (0,0))
abbrev LC:Abs.oF:=(.ptr (2,0) 5 0 0)
abbrev afm:Abs.Sh:=(.agg (.st (.own Z2 (4,0)) (.st (.own Z6 (5,0)) dG)) .nil)
abbrev ZE:Abs.Sh:=(.st (.clo 132 [((1,0),3,0,0),((2,0),4,0,0)]) .nil)
abbrev lJ:Type:=(Int×Unit)
abbrev Yq2:Type:=((((List Y8)×GN×Int×Int×(Nat×Nat)×Int×Int×Unit)×Unit)×(List qM)×Bb×(List Eg)×Unit)
abbrev Cc:Type:=((Unit)×(Unit))
abbrev Yq4:Type:=((Int×ByteArray×(Nat×Nat)×Int×Int×Unit)×Unit)
abbrev PL:Type:=(XG×Unit)
abbrev CF:Type:=(Int×Int×Unit)
abbrev Uk:Type:=(((List Y8)×Int×jh×Unit)×(Unit))
abbrev Qz:Type:=(ByteArray×ByteArray×Unit)
abbrev OW:Type:=(jh×Unit)
abbrev GD:Type:=(Int×jh×Bool×Unit)
abbrev ko:Type:=(lJ×(Unit))
abbrev ac7:Type:=(Y5×Oe×Oe×(Y8×Unit)×Co×(List ByteArray)×(List ByteArray)×Unit)
abbrev MB:Type:=(Ni×Unit)
abbrev acQ:Type:=(ByteArray×ByteArray×ByteArray×ByteArray×Unit)
abbrev V8:Type:=(Bd×Bd×(GD×Unit)×PL×(List Int)×(List qM)×Bb×Unit)
abbrev Lu:Type:=(qM×Unit)
abbrev Za:Type:=((Eg×Unit)×(lJ×Unit)×(List Eg)×(List Y8)×GN×Unit)
abbrev Bn:Type:=((List Int)×Unit)
abbrev XQ:Type:=(Y3×Y3×(List ByteArray)×Unit)
abbrev qY:Type:=(Bool×Unit)
abbrev Ud:Type:=(Int×ByteArray×Unit)
abbrev NU:Type:=((Int×Y3×Int×Unit)×(Unit))
abbrev agi:Type:=((Int×ByteArray×Bool×(List ByteArray)×(Nat×Nat)×Int×(List ByteArray)×Int×Int×Int×Int×Int×Int×Int×Unit)×((Eg×Unit)×(Eg×Unit)×(List Eg)×(lJ×Unit)×(List Y8)×GN×Unit))
abbrev V9:Type:=((List ByteArray)×Unit)
abbrev adE:Type:=((Int×(Nat×Nat)×Int×Unit)×Unit)
abbrev Ox:Type:=(Bd×(List qM)×Bb×Unit)
abbrev VZ:Type:=(Int×Int×Int×Int×Y3×Unit)
abbrev Xa:Type:=(XD×Unit)
abbrev adI:Type:=((Eg×Unit)×(lJ×Unit)×(List ByteArray)×(List Eg)×(List Y8)×GN×Unit)
abbrev UC:Type:=(Int×Y5×Int×Unit)
abbrev R8:Type:=((ByteArray×Int×Unit)×(Unit))
abbrev aeN:Type:=(Oe×Yq4×Y5×Co×Oe×(Y8×Unit)×(List ByteArray)×(List ByteArray)×Unit)
abbrev adB:Type:=(Co×Oe×Oe×Yq4×(Y8×Unit)×(List ByteArray)×(List ByteArray)×Y5×Unit)
abbrev ZH:Type:=((List Int)×(List Int)×Unit)
abbrev ac6:Type:=((ByteArray×Int×ByteArray×Int×Unit)×((List Bool)×(List Bool)×Unit))
abbrev agy:Type:=((Int×(List GD)×Int×Int×Unit)×(Bd×(((List Y8)×GN×Int×Int×(Nat×Nat)×Int×Int×Unit)×Unit)×PL×(List qM)×Bb×(List Eg)×Unit))
abbrev MV:Type:=(lJ×(Co×Y5×Unit))
abbrev Ou:Type:=(Int×Int×Int×Unit)
abbrev Mh:Type:=(Bool×Int×Unit)
abbrev Vr:Type:=(Y27×Unit)
abbrev acV:Type:=(PL×Vr×Unit)
abbrev VN:Type:=(Co×(Y8×Unit)×Co×Y5×Unit)
abbrev Xj:Type:=(XD×(List ByteArray)×Unit)
abbrev V6:Type:=(Lu×Unit)
abbrev aaC:Type:=((Int×ByteArray×Int×Unit)×(Unit))
abbrev Yz:Type:=((Int×jh×ByteArray×Unit)×(Unit))
abbrev acj:Type:=(CF×((lJ×Unit)×(List Eg)×(List Y8)×GN×Unit))
abbrev agA:Type:=((Int×(List qM)×Int×Unit)×acV)
abbrev ZO:Type:=((Int×Bool×Unit)×(Unit))
abbrev ad1:Type:=((List qM)×Bb×(List ByteArray)×Bd×PL×Unit)
abbrev Om:Type:=((Y8×Unit)×Unit)
abbrev Yy:Type:=(Int×ByteArray×ByteArray×Unit)
abbrev ah0:Type:=((List Eg)×Bd×PL×(List qM)×Bd×Bb×Unit)
abbrev afS:Type:=((ByteArray×Bool×Int×(Nat×Nat)×Int×(List ByteArray)×Int×Int×Int×Int×Int×Unit)×Y34)
abbrev ahA:Type:=(Int×(List jh)×Y5×Int×Unit)
abbrev acv:Type:=(Co×Co×Y5×Unit)
abbrev Sc:Type:=(ByteArray×Unit)
abbrev Ub:Type:=(MB×MB×Unit)
abbrev abV:Type:=(adE×(List Eg)×(List qM)×Bb×Unit)
abbrev aa5:Type:=(((List Y8)×Unit)×(Unit))
abbrev VL:Type:=(Bool×Int×Int×Unit)
abbrev agp:Type:=((Int×ByteArray×Int×ByteArray×Unit)×((List Bool)×(List Bool)×Unit))
abbrev K4:Type:=(Bb×Unit)
abbrev Kg:Type:=(lJ×Xa)
abbrev acp:Type:=(MB×MB×(List ByteArray)×Unit)
abbrev acZ:Type:=((Eg×Unit)×PL×(List Int)×Unit)
abbrev aav:Type:=(XD×(List GD)×Unit)
abbrev Zi:Type:=(Bool×ByteArray×Unit)
abbrev ad7:Type:=((List qM)×lJ×Unit)
abbrev afM:Type:=((Int×(List ByteArray)×(List ByteArray)×Int×Unit)×(Unit))
abbrev TT:Type:=(Ud×(Unit))
abbrev TP:Type:=((Unit)×Xa)
abbrev YR:Type:=(UC×(Unit))
abbrev YU:Type:=(XD×(List Y8)×Unit)
abbrev X0:Type:=(PL×Lu×Unit)
abbrev afZ:Type:=((Int×Int×Int×Int×ByteArray×ByteArray×Unit)×(Unit))
abbrev afl:Type:=((Int×(List ByteArray)×ByteArray×Int×Unit)×(Unit))
abbrev Xr:Type:=(XD×jh×Unit)
abbrev YO:Type:=((List Bool)×Unit)
abbrev Zv:Type:=(OW×OW×Unit)
abbrev afW:Type:=((Int×Int×(List ByteArray)×Int×Int×Int×Unit)×Y34)
abbrev acS:Type:=(Bool×ByteArray×Int×Unit)
abbrev afU:Type:=((Int×Bool×(List ByteArray)×Int×Int×Unit)×ac7)
abbrev ae1:Type:=((Bool×(List ByteArray)×Int×Int×Int×Unit)×ac7)
abbrev Td:Type:=(MB×Unit)
abbrev afv:Type:=((Int×Int×Bool×jh×Int×Bb×Int×Unit)×(Unit))
abbrev ahl:Type:=((Int×(List Y8)×(List Y8)×Int×Unit)×(Unit))
abbrev afI:Type:=((Int×Int×Bool×(List qM)×Int×Unit)×(Unit))
abbrev aiq:Type:=((qM×Y8×Int×(List ByteArray)×Unit)×(Unit))
abbrev af4:Type:=((jh×(List jh)×GN×Int×Int×Unit)×(Unit))
abbrev ab4:Type:=((Int×jh×(List jh)×GN×Int×Unit)×(Unit))
abbrev abe:Type:=(((List ByteArray)×ByteArray×Unit)×(Unit))
abbrev Nt:Type:=(OW×(Unit))
abbrev Ms:Type:=((Unit)×OW)
abbrev aaN:Type:=((Int×(List ByteArray)×jh×Int×Unit)×OW)
abbrev abf:Type:=((jh×(List ByteArray)×Int×Int×Unit)×OW)
abbrev Rt:Type:=(Int×acQ×Unit)
abbrev aby:Type:=((ByteArray×Y5×Int×Int×Int×Unit)×(Unit))
abbrev abk:Type:=((Bool×ByteArray×ByteArray×Unit)×(Unit))
abbrev ab9:Type:=((Int×(Nat×Nat)×Bool×Int×Int×Unit)×aeN)
abbrev aaX:Type:=(Ou×(PL×Bd×(List qM)×Bd×Bb×Unit))
abbrev abH:Type:=((Int×(Nat×Nat)×Int×Int×Int×Unit)×Za)
abbrev abw:Type:=((Unit)×((List qM)×Bb×Bd×adE×Unit))
abbrev abm:Type:=((Int×Int×(List Y8)×jh×Int×Unit)×ZH)
abbrev aaR:Type:=((Bool×ByteArray×Int×Int×Unit)×(Unit))
abbrev R6:Type:=(XD×GN×Unit)
abbrev Qn:Type:=(Int×jh×Unit)
abbrev ab1:Type:=((Int×(List ByteArray)×Int×Unit)×Zv)
abbrev aaV:Type:=((Int×ByteArray×jh×Int×Unit)×(Unit))
abbrev abd:Type:=((Int×jh×(List ByteArray)×Unit)×OW)
abbrev Xh:Type:=((XE×Unit)×(Unit))
abbrev aaZ:Type:=((jh×(List ByteArray)×Unit)×(Unit))
abbrev abD:Type:=((Int×(List ByteArray)×Unit)×(Unit))
abbrev abo:Type:=((CF×Ot)⊕((lJ×Ot)⊕((Unit)×Ot)))
abbrev aaO:Type:=((Int×(List jh)×Int×Int×Unit)×ah0)
abbrev Qy:Type:=(Y3×jh×Unit)
abbrev QN:Type:=(XD×Y3×Unit)
abbrev abp:Type:=(CF×(Bd×(List qM)×Bd×Bb×Unit))
abbrev Ro:Type:=(MB×(Unit))
abbrev WK:Type:=(Lu×(Unit))
abbrev aaT:Type:=((Int×Int×(List Y8)×Int×Unit)×Bn)
abbrev abh:Type:=((Unit)×V9)
abbrev aaK:Type:=((Int×Int×(List Y8)×jh×Unit)×ZH)
abbrev QG:Type:=((Unit)×acv)
abbrev ab7:Type:=((ByteArray×Int×Int×Int×Unit)×ad7)
abbrev abb:Type:=((Bool×Int×ByteArray×Unit)×(Unit))
abbrev aaW:Type:=((Bool×jh×(List Y8)×Unit)×(Unit))
abbrev M7:Type:=(OW×Unit)
abbrev QO:Type:=((XQ×Unit)×Unit)
abbrev ahc:Type:=((Int×jh×(List jh)×(List jh)×GN×Int×Int×Int×Unit)×QO)
abbrev Xw:Type:=((VZ×Unit)×Unit)
abbrev XC:Abs.mF:=(.one (.exit 0) ⟨[],.nil,.nil⟩)
abbrev rW:Abs.Ty:=(.row Z15)
abbrev Rb3:Abs.iJ:=(.box 6 (.agg (.dat aU (.dat aU (.dat aU (.dat .str (.st (.own .str (6,0)) (.st (.own .str (7,0)) .nil)))))) .nil) (.box 5 (.agg (.dat aU (.dat .str (.part Z7 (2,0) pI))) .nil) (.arr Z7 false (.box 5 KV (.box 6 Qs4 (.box 8 Ci RZ))))))
abbrev Ro4:Abs.mF:=(.more .ret ⟨[2],gP,.nil⟩ XC)
abbrev Ro5:Abs.mF:=(.more .ret ⟨[4],dG,.nil⟩ XC)
abbrev Rs7:Abs.Sh:=(.dat Z20 .nil)
abbrev Rb8:Abs.iJ:=(.arr Z2 true (.arr Z6 true .nil))
abbrev acw:Abs.iJ:=(.arr Z7 false (.box 6 Zm (.box 6 Qs4 (.box 8 Ci (.box 5 ZM RZ)))))
abbrev afw:Abs.iJ:=(.arr Z9 false (.box 4 (.agg (.dat aU (.st (.own Z1 (3,0)) (.st (.own Z4 (5,0)) dG))) .nil) (.box 3 qI (.arr Z1 false (.box 4 LA BN)))))
abbrev Pb:Abs.iJ:=(.box 3 Fj .nil)
abbrev Xl:Abs.oF:=(.ptr (3,0) 5 0 0)
abbrev zJ:Abs.Ty:=(.row Z2)
abbrev Dz:Abs.oF:=(.own Z9 (2,0))
abbrev Sy:Abs.Sh:=(.st (.ptr (0,0) 8 0 0) .nil)
abbrev Lg:Abs.oF:=(.own .str (2,0))
abbrev D9:Abs.Ty:=(.row Z7)
abbrev ahO:Abs.iJ:=(.arr Z1 false (.arr Z4 false (.box 4 LA (.box 4 (.agg (.dat aU (.part Z1 (0,0) (.st (.own Z4 (1,0)) dG))) .nil) .nil))))
abbrev NR:Abs.iJ:=(.arr JQ false .nil)
abbrev Zx:Abs.iJ:=(.arr .bool false .nil)
abbrev acs:Abs.Sh:=(.agg (.st (.own Z2 (2,0)) (.st (.own Z6 (3,0)) dG)) .nil)
abbrev af0:Abs.Sh:=(.agg (.dat aU (.dat aU (.dat aU (.dat .str (.st (.own .str (3,0)) (.st (.own .str (4,0)) .nil)))))) .nil)
abbrev Mf:Abs.Sh:=(.st rZ .nil)
abbrev Mj:Abs.iJ:=(.arr Z7 false Qb6)
abbrev KZ:Abs.oF:=(.ptr (3,0) 3 0 0)
abbrev NW:Abs.iJ:=(.box 8 Ci .nil)
abbrev MI:Abs.iJ:=(.box 1 oh .nil)
abbrev adi:Abs.Sh:=(.dat aU (.dat (.row JQ) (.st (.clo 189 []) dG)))
abbrev VF:Abs.Ty:=(.row Z1)
abbrev Cb:Abs.Ty:=(.row rW)
abbrev Js:Abs.oF:=(.own Z1 (0,0))
abbrev Rb9:Abs.iJ:=(.arr Z1 false (.arr Z4 false (.arr .str false (.box 4 (.agg (.dat aU (.st Js (.st (.own Z4 (1,0)) dG))) .nil) (.box 3 qI .nil)))))
abbrev Kb:Abs.Sh:=(.st Jw .nil)
abbrev Zl:Abs.Sh:=(.dat .str (.dat (.int .u8) .nil))
abbrev YN:Abs.Sh:=(.st rZ (.st ML .nil))
abbrev NJ:Abs.Sh:=(.dat .str fD)
abbrev Xk:Abs.oF:=(.ptr (1,0) 8 0 0)
abbrev Lv:Abs.Sh:=(.dat zJ .nil)
abbrev acH:Abs.oF:=(.own .str (0,0))
abbrev afy:Abs.Sh:=(.dat .bool (.st rZ (.st Du (.st LC (.dat aU (.st (.ptr (3,0) 8 0 0) KQ))))))
abbrev SL:Abs.Sh:=(.dat aU DC)
abbrev Jz:Abs.Sh:=(.st Kj .nil)
abbrev Ro6:Abs.mF:=(.one (.exit 0) ⟨[1,7],(.dat aU Jz),wY⟩)
abbrev Sz:Abs.iJ:=(.arr Z7 false .nil)
abbrev XJ:Abs.oF:=(.clo 183 [((1,0),6,0,0)])
abbrev Zj:Abs.Ty:=(.cons .str (.cons .str Z15))
abbrev afD:Abs.iJ:=(.box 6 (.dat Z9 .nil) (.box 6 (.dat Z9 .nil) (.arr Z9 false (.box 3 afm Rb8))))
abbrev YP:Abs.oF:=(.ptr (0,0) 9 0 0)
abbrev Yr:Abs.iJ:=(.box 3 (.dat Z6 .nil) .nil)
abbrev YW:Abs.Sh:=(.st (.own JQ (1,0)) .nil)
abbrev ahL:Abs.iJ:=(.box 6 (.dat Z9 .nil) (.box 3 afm (.arr .str false (.arr Z9 false Rb8))))
abbrev OQ:Abs.Sh:=(.dat .str dG)
abbrev Lp:Abs.oF:=(.own Z7 (0,0))
abbrev aeK:Abs.Sh:=(.agg (.dat aU (.st (.own Z1 (3,0)) (.st (.own Z4 (4,0)) dG))) .nil)
abbrev ag0:Abs.Sh:=(.dat .bool (.st rZ (.dat aU (.st Xk (.dat aU (.st LC .nil))))))
abbrev aeW:Abs.Sh:=(.st rZ (.dat aU (.st Xk (.dat aU (.dat D9 (.st LC pI))))))
abbrev Wz:Abs.Sh:=(.dat Z1 .nil)
abbrev Uv:Abs.iJ:=(.arr Z1 false BN)
abbrev RL:Abs.Sh:=(.st rZ dG)
abbrev acr:Abs.iJ:=(.box 1 dG .nil)
abbrev abK:Abs.mF:=(.one (.exit 0) ⟨[0],fD,.nil⟩)
abbrev adh:Abs.iJ:=(.box 2 sN (.arr XF false .nil))
abbrev Xi:Abs.oF:=(.ptr (2,0) 4 0 0)
abbrev PW:Abs.oF:=(.ptr (2,0) 6 0 0)
abbrev aho:Abs.Sh:=(.dat .bool (.st Du (.dat DZ (.st Lp (.st PW (.dat aU (.st (.ptr (3,0) 8 0 0) (.st (.ptr (4,0) 5 0 0) pI))))))))
abbrev agf:Abs.Sh:=(.st rZ (.st Du (.dat .bool (.st PW (.st Xl (.dat aU (.st (.ptr (4,0) 8 0 0) .nil)))))))
abbrev U3:Abs.oF:=(.ptr (3,0) 4 0 0)
abbrev adt:Abs.iJ:=(.box 2 sN (.arr Z2 false .nil))
abbrev adC:Abs.iJ:=(.box 2 sN (.arr Z6 false .nil))
abbrev R9:Abs.Sh:=(.dat zJ dG)
abbrev ahE:Abs.mF:=(.more .ret ⟨[4],dG,X3⟩ (.one (.exit 0) ⟨[],.nil,X3⟩))
abbrev Yp:Abs.iJ:=(.arr .bool false Zx)
abbrev UN:Abs.iJ:=(.box 3 Fj Pb)
abbrev af9:Abs.mF:=(.one (.exit 0) ⟨[5,0],(.dat aU (.st Js .nil)),X3⟩)
abbrev Gn:Abs.Ty:=(.row Z6)
abbrev SQ:Abs.Sh:=(.st Jw dG)
abbrev RF:Abs.Sh:=(.dat rW dG)
abbrev YE:Abs.Sh:=(.dat .bool dG)
abbrev VS:Abs.oF:=(.own JQ (0,0))
abbrev aa1:Abs.iJ:=(.arr aU false wY)
abbrev WV:Abs.oF:=(.own Z15 (1,0))
abbrev ad4:Abs.iJ:=(.box 5 (.dat Z4 .nil) .nil)
abbrev Gz:Abs.Ty:=(.row Z4)
abbrev ahk:Abs.iJ:=(.arr Z1 false (.arr Z4 false (.arr Z9 false .nil)))
abbrev Xt:Abs.oF:=(.own Z4 (0,0))
abbrev Xy:Abs.Sh:=(.st EP .nil)
abbrev UD:Abs.oF:=(.own Z1 (1,0))
abbrev acT:Abs.mF:=(.one .ret ⟨[4],dG,Qb5⟩)
abbrev afz:Abs.Sh:=(.dat D9 dG)
abbrev agG:Abs.Sh:=(.dat VF dG)
abbrev adJ:Abs.Sh:=(.dat .bool (.st YP pI))
abbrev ade:Abs.Sh:=(.st ML (.st LC .nil))
abbrev aht:Abs.oF:=(.ptr (2,0) 8 0 0)
abbrev YS:Abs.oF:=(.own .bool (0,0))
abbrev Vq:Abs.Sh:=(.dat aU (.dat aU SL))
def note:FuncId→Abs.Note
 |5=>⟨true,[0,2,3,4,6,7,8,9,10,11,12,13,15,16,18,20,22,25,40,46,47,48,49,100,106,107,108,109,147,150,151,152,153,158,159,160,161,165,166,167,168,194,198,199,200,201,230],false,fun|5=> [(0,2),(0,8),(2,8),(3,8)]|13=> [(2,4)]|_=> []⟩
 |9=>⟨true,[0,2],false,fun _=> []⟩
 |10=>⟨true,[0,1,2,4,5,6,7,8,9,10,11,12,13],false,fun|4=> [(0,1),(0,3),(1,3),(0,10),(1,10),(3,10),(5,10)]|_=> []⟩
 |11=>⟨true,[0,2],false,fun _=> []⟩
 |12=>⟨true,[0,1,4],false,fun _=> []⟩
 |13=>⟨true,[0,1,4,5,6,7,13],false,fun _=> []⟩
 |15=>⟨true,[0,1,2,3,6,7,8,9,10,12,13,14,17,22,27,39,40,41,42,50,67,76],false,fun|8=> [(0,1)]|22=> [(7,8)]|_=> []⟩
 |19=>⟨true,[0,1,4,12],false,fun _=> []⟩
 |20=>⟨true,[0,1,2,4,7],false,fun _=> []⟩
 |22=>⟨true,[0,2,3,4,5,6,7,9,25,36,40,60],false,fun _=> []⟩
 |23=>⟨true,[0,1,2,3,4,6,7,8,16,38],false,fun|5=> [(15,17)]|_=> []⟩
 |24=>⟨true,[0,2,3,4],false,fun _=> []⟩
 |25=>⟨true,[0,1,2,3,4,5,6,7,8,9,10,11,17,33],false,fun|13=> [(2,3)]|_=> []⟩
 |26=>⟨true,[0],false,fun _=> []⟩
 |27=>⟨true,[0,1,2,3,4,5,6,7,8,10,11,12,13,14,15,25,32,44,45,46,47,72,74,105,119],false,fun|15=> [(1,5),(1,6)]|16=> [(1,20),(4,20),(6,20),(9,20),(11,20),(13,20),(15,20),(16,20)]|_=> []⟩
 |28=>⟨true,[0,1,2,3,4,6,7,8,9,10,14,20],false,fun _=> []⟩
 |30=>⟨true,[0,1,2,3,4,5,7,9,10,11,12,27],false,fun _=> []⟩
 |32=>⟨true,[0,1,4],false,fun _=> []⟩
 |34=>⟨true,[0,1,2,3,4,9,15,24],false,fun _=> []⟩
 |36=>⟨true,[0,1,2,3,4,5,6,7,37,54,56,57,58,59,98,102],false,fun _=> []⟩
 |38=>⟨true,[0,1,4,5,19,40],false,fun _=> []⟩
 |39=>⟨true,[0,2,3,5,6,7,8,9,17],false,fun _=> []⟩
 |40=>⟨true,[0,1,4],false,fun _=> []⟩
 |47=>⟨true,[0,1,2,3,4,6,8,10,11,13,16,17,18,19,23,24,25,26,41,56,57,58,59],true,fun _=> []⟩
 |50=>⟨true,[0,1,4,5,6,7,16],false,fun _=> []⟩
 |51=>⟨true,[0,2,3,4,5,9],false,fun _=> []⟩
 |52=>⟨true,[0,1,4,5,6,7,8,23,35],false,fun|7=> [(3,19),(7,19),(13,19),(15,19)]|_=> []⟩
 |56=>⟨true,[0,2,3,4,7,10,14,47,54,61],false,fun _=> []⟩
 |57=>⟨true,[0,2,3,6,10,54],false,fun _=> []⟩
 |58=>⟨true,[0,1,2,6,7,8,9,16,29,47,50],false,fun _=> []⟩
 |59=>⟨true,[0,2,3,4,7,11,15],false,fun|9=> [(5,12)]|_=> []⟩
 |60=>⟨true,[0,1,4,5,6,7,11,17,29],false,fun _=> []⟩
 |61=>⟨true,[0,2,3,4,5,6,7,20,26,30],false,fun _=> []⟩
 |62=>⟨true,[0,2,3,5,6,7,8,11],false,fun _=> []⟩
 |63=>⟨true,[0,1,3,4,5,6,7,17],false,fun|1=> [(1,2),(1,3)]|_=> []⟩
 |64=>⟨true,[0,1,2,3,4,14,15,16,17],true,fun|1=> [(2,4)]|5=> [(1,4)]|_=> []⟩
 |65=>⟨true,[0,1,4,5,9,10,11,12,29],true,fun _=> []⟩
 |66=>⟨true,[0,2,3,4,7,8,9,10,11,44],false,fun _=> []⟩
 |67=>⟨true,[0,1,2,4,5,10],false,fun _=> []⟩
 |68=>⟨true,[0,1,4,12],false,fun _=> []⟩
 |69=>⟨true,[0,1,2,4,7],false,fun _=> []⟩
 |70=>⟨true,[0,1,2,4,6,7],true,fun _=> []⟩
 |71=>⟨true,[0,1,2,6,7,8,9,16,22,31,68],true,fun _=> []⟩
 |72=>⟨true,[0,1,4],false,fun _=> []⟩
 |73=>⟨true,[0,1,2,3,4,5,6,10,11,12,13,14,15,16,31,46,59,68],false,fun _=> []⟩
 |74=>⟨true,[0,1,2,3,4],true,fun _=> []⟩
 |75=>⟨true,[0,1,2,3,4,6,7,8,9,10,11,12,13,14,15,16,23,24,25,26,52,53,54,55,83],false,fun|6=> [(1,13)]|13=> [(0,12),(2,12),(4,12),(6,12),(0,19),(2,19),(4,19),(6,19),(8,19),(9,19),(10,19),(12,19),(13,19),(0,20),(2,20),(4,20),(6,20),(8,20),(9,20),(10,20),(12,20),(13,20),(19,20)]|_=> []⟩
 |78=>⟨true,[0,2,3,4,5,6,10,14,15,16,17,25,33],false,fun _=> []⟩
 |79=>⟨true,[0,2,4,5,8,9,10,11,12,18],false,fun _=> []⟩
 |81=>⟨true,[0,2,3,5,6,9,10,11,12,13,20],false,fun _=> []⟩
 |82=>⟨true,[0,1,2,3,4,25,27,28,29,30,52],false,fun _=> []⟩
 |83=>⟨true,[0,1,2,3,4,6],true,fun _=> []⟩
 |84=>⟨true,[0,1,2,3,6,10],false,fun _=> []⟩
 |85=>⟨true,[0,1,4],false,fun _=> []⟩
 |86=>⟨true,[0,1,2,3,4],true,fun|1=> [(8,10)]|_=> []⟩
 |97=>⟨true,[0,1,4,5,6,12],false,fun _=> []⟩
 |98=>⟨true,[0,2],false,fun|1=> [(0,2),(0,6),(4,6),(0,7),(2,7),(4,7),(6,7),(0,9),(4,9),(7,9),(0,11)]|_=> []⟩
 |102=>⟨true,[0,2],false,fun _=> []⟩
 |103=>⟨true,[0,2,4],false,fun _=> []⟩
 |104=>⟨true,[0,1,2,3,13,18,27,28,33],false,fun _=> []⟩
 |105=>⟨true,[0,2,3,21,25,55],false,fun _=> []⟩
 |106=>⟨true,[0,2,3,6,10,22],false,fun _=> []⟩
 |107=>⟨true,[0,1,4,5,6,10,19],false,fun _=> []⟩
 |108=>⟨true,[0,1,4,5,9,18],false,fun _=> []⟩
 |109=>⟨true,[0,2,3,4,8,20],false,fun _=> []⟩
 |110=>⟨true,[0,2,3,4,5,6,7,8,9,10,11,33,47,74,83,88,94,112],false,fun _=> []⟩
 |111=>⟨true,[0,2,3,4,8,9,10],false,fun _=> []⟩
 |112=>⟨true,[0,2,4],false,fun _=> []⟩
 |113=>⟨true,[0,1,2,3,10,11,12],true,fun|5=> [(1,9)]|_=> []⟩
 |114=>⟨true,[0,1,2],true,fun _=> []⟩
 |115=>⟨true,[0,2,3,4,21,23,24,25,47],false,fun _=> []⟩
 |116=>⟨true,[0,2,3,5,6,7,18],false,fun _=> []⟩
 |117=>⟨true,[0,1,2,6,7,9,12,13,14,15,25,37,41],false,fun _=> []⟩
 |118=>⟨true,[0,2,3,5,8,9,10,11,12],false,fun|7=> [(2,6)]|_=> []⟩
 |119=>⟨true,[0,1,4,5,7,8,9,10,11,17],false,fun _=> []⟩
 |120=>⟨true,[0,1,2,6,7,8,9,10,11,17,31],true,fun _=> []⟩
 |121=>⟨true,[0,1,2,3,5],true,fun _=> []⟩
 |123=>⟨true,[0,1],false,fun _=> []⟩
 |124=>⟨true,[0,1,2],false,fun _=> []⟩
 |125=>⟨true,[0,1,2,6],false,fun _=> []⟩
 |126=>⟨true,[0,1,2,4,5],false,fun _=> []⟩
 |127=>⟨true,[0,1,2,3,4,6,10,31,38,50],true,fun _=> []⟩
 |128=>⟨true,[0,1,2,6,7,8,9,16,22,31,68],true,fun _=> []⟩
 |129=>⟨true,[0,1,2,4,6,15,29],false,fun _=> []⟩
 |130=>⟨true,[0,1,2,4],true,fun _=> []⟩
 |131=>⟨true,[0,1,4,5,6,7,12,19,29],true,fun _=> []⟩
 |132=>⟨true,[0,1,2,3,4],true,fun _=> []⟩
 |133=>⟨true,[0,1,2,3,4,5,8,9,10,12,13,14,15,25,38,41,42,43,44,66],false,fun _=> []⟩
 |134=>⟨true,[0,1,2,3,4,5,8,9,10,11,12,13,14,15,16,17,18,29,45,56,65,66,67,68,101],false,fun|15=> [(1,10)]|23=> [(1,2),(2,4)]|_=> []⟩
 |135=>⟨true,[0,1,2,3,4,5,6,8,9,11,13,14,15,16,28],true,fun _=> []⟩
 |139=>⟨true,[0,1,2,4,5,28,39,49],false,fun _=> []⟩
 |140=>⟨true,[0,1,2,3,14,31],false,fun _=> []⟩
 |142=>⟨true,[0,2,3,7,31],false,fun _=> []⟩
 |143=>⟨true,[0,1,2,4,5,15,36,41,46],false,fun _=> []⟩
 |144=>⟨true,[0,1,2],false,fun|1=> [(6,8)]|_=> []⟩
 |145=>⟨true,[0,1,2],true,fun _=> []⟩
 |146=>⟨true,[0,1,4,5,6,11,12,13,16,19],false,fun _=> []⟩
 |147=>⟨true,[0,1,4,5,7,8,9,16],true,fun _=> []⟩
 |160=>⟨true,[0,1,2,3,8,9,10,11,12,13,14,15,16,17,18,23,29,35,50,68,72,87,113],false,fun _=> []⟩
 |161=>⟨true,[0,2],false,fun _=> []⟩
 |162=>⟨true,[0,1,2],false,fun _=> []⟩
 |163=>⟨true,[0,1,2,4,5,11,12,18,24,30],false,fun _=> []⟩
 |164=>⟨true,[0],false,fun _=> []⟩
 |165=>⟨true,[0,2,4],false,fun _=> []⟩
 |166=>⟨true,[0,2,4],false,fun _=> []⟩
 |167=>⟨true,[0,2,4],false,fun _=> []⟩
 |168=>⟨true,[0,1,4,5,6,7,8,9,10,11,18],false,fun _=> []⟩
 |169=>⟨true,[0,1,3,4],false,fun _=> []⟩
 |170=>⟨true,[0,2,3,4,7,8,9,20],false,fun _=> []⟩
 |171=>⟨true,[0,1,4,5,7,8,10,12,13,15,22,29,39,40,41,42,49,63,64,65,66],false,fun _=> []⟩
 |172=>⟨true,[0,1,4],false,fun _=> []⟩
 |173=>⟨true,[0,1],false,fun _=> []⟩
 |174=>⟨true,[0,1,2,6,7,8,9,10,11,17,31],false,fun _=> []⟩
 |175=>⟨true,[0,1,2,4],true,fun _=> []⟩
 |176=>⟨true,[0,1,2,6,7,16],true,fun _=> []⟩
 |178=>⟨true,[0,1],false,fun _=> []⟩
 |179=>⟨true,[0,2,4],false,fun _=> []⟩
 |180=>⟨true,[0,1,4,5,7,8,9,16],true,fun _=> []⟩
 |181=>⟨true,[0,1,2,3,4,5,8,9,10,11,13,14,24,25,26,27,37,42],true,fun|13=> [(7,11)]|_=> []⟩
 |182=>⟨true,[0,1,4,5,6,7,12,19,29],true,fun _=> []⟩
 |183=>⟨true,[0,1,2,3],true,fun _=> []⟩
 |184=>⟨true,[0,1,2],false,fun _=> []⟩
 |185=>⟨true,[0,1,2,3,4,10,12],false,fun _=> []⟩
 |186=>⟨true,[0,1,4],false,fun _=> []⟩
 |187=>⟨true,[0,1,2],false,fun _=> []⟩
 |188=>⟨true,[0,2,3,4,5,6,7,8,27],false,fun _=> []⟩
 |189=>⟨true,[0,1,2],false,fun _=> []⟩
 |190=>⟨true,[0,2],false,fun _=> []⟩
 |192=>⟨true,[0,1,2,6,7,12,30],false,fun _=> []⟩
 |193=>⟨true,[0,1,2,6,7,8,9,10,19,30],false,fun _=> []⟩
 |194=>⟨true,[0,1,2,6,7,8,9,10,15,33,43],false,fun _=> []⟩
 |195=>⟨true,[0,1,2,6,7,8,9,10,11,12,32,34,49,51,54],false,fun _=> []⟩
 |196=>⟨true,[0,1,2,6,7,13],false,fun _=> []⟩
 |197=>⟨true,[0,1,2,6,7,8,9,10,14,32,37,41,61,65,78,98,103,116],false,fun _=> []⟩
 |198=>⟨true,[0,1,4],false,fun _=> []⟩
 |199=>⟨true,[0,1,2,3,8,9,10,43,59,64],false,fun _=> []⟩
 |200=>⟨true,[0,1,2,3,8,9,10,11,43,60,65,112,129,134],false,fun _=> []⟩
 |201=>⟨true,[0,2,4,8],false,fun _=> []⟩
 |202=>⟨true,[0,2,4,8,14],false,fun _=> []⟩
 |203=>⟨true,[0,1,4,5,9,18],false,fun _=> []⟩
 |204=>⟨true,[0,1,4,5,6,7,8,18,28,34,54],false,fun _=> []⟩
 |205=>⟨true,[0,1,2,3],true,fun _=> []⟩
 |206=>⟨true,[0,1,2,4,5,11,12,18,24,30],false,fun _=> []⟩
 |207=>⟨true,[0,1,4],false,fun _=> []⟩
 |208=>⟨true,[0,2],false,fun _=> []⟩
 |209=>⟨true,[0,1,7,21],false,fun _=> []⟩
 |210=>⟨true,[0,1,4,5],false,fun _=> []⟩
 |211=>⟨true,[0,1,4,5,7,8,9,16],false,fun _=> []⟩
 |212=>⟨true,[0,2,3,9],true,fun _=> []⟩
 |213=>⟨true,[0,1],false,fun _=> []⟩
 |214=>⟨true,[0,1,2,6,7,9,10,11,12,13,41],false,fun _=> []⟩
 |215=>⟨true,[0,1,2,6,8,10,11,12,13,14,21,22,23,24,25,45],false,fun _=> []⟩
 |216=>⟨true,[0,1,4,5,7,8,9,16],false,fun _=> []⟩
 |217=>⟨true,[0,1,2],false,fun _=> []⟩
 |218=>⟨true,[0,2],false,fun _=> []⟩
 |219=>⟨true,[0,1,2,3,8,9,16,36,52],false,fun _=> []⟩
 |220=>⟨true,[0,2],false,fun _=> []⟩
 |221=>⟨true,[0,2],false,fun _=> []⟩
 |222=>⟨true,[0,1,2,6],false,fun _=> []⟩
 |223=>⟨true,[0,1,2,3,4,10],false,fun _=> []⟩
 |224=>⟨true,[0,1,4,6,7,8,9,10,16],false,fun _=> []⟩
 |225=>⟨true,[0,1,4,5,6,7,8,12,13,28,52],false,fun _=> []⟩
 |226=>⟨true,[0,6,19],false,fun _=> []⟩
 |227=>⟨true,[0,1,4],false,fun|0=> [(8,12)]|_=> []⟩
 |228=>⟨true,[0,2,3,9],true,fun _=> []⟩
 |229=>⟨true,[0,1,2,3,4,6],false,fun _=> []⟩
 |230=>⟨true,[0,1,2,3,8,9,18],false,fun _=> []⟩
 |231=>⟨true,[0,1,4,5,6,12,21,34],false,fun _=> []⟩
 |234=>⟨true,[0,1,4],false,fun _=> []⟩
 |235=>⟨true,[0,1,2,4],true,fun|1=> [(2,3)]|_=> []⟩
 |236=>⟨true,[0,1,4,13],false,fun _=> []⟩
 |237=>⟨true,[0,1,4,16],false,fun _=> []⟩
 |238=>⟨true,[0,2,3,4,5,9,16],false,fun _=> []⟩
 |239=>⟨true,[0,1,4,7,12],false,fun _=> []⟩
 |240=>⟨true,[0,1,4,7,15],false,fun _=> []⟩
 |241=>⟨true,[0,1,4,5,6,9,18],false,fun _=> []⟩
 |242=>⟨true,[0,1,4,5,6,9,17,26],false,fun _=> []⟩
 |243=>⟨true,[0,1,4,5,7,8,9,16],false,fun _=> []⟩
 |244=>⟨true,[0,1,4],false,fun _=> []⟩
 |245=>⟨true,[0,2,3,10],false,fun _=> []⟩
 |246=>⟨true,[0,1,4],false,fun _=> []⟩
 |247=>⟨true,[0,2,3,4,5,6,10,18,27,33,35,48],false,fun _=> []⟩
 |248=>⟨true,[0,2,3,4,5,6,7,8,9,10,11,12,16,23,45,57,59,75,77,98],false,fun _=> []⟩
 |249=>⟨true,[0,1,4,5,6,7,8,9,10,11,12,13,14,15,16,26,33,43,51,64,98,108,124,139,143,156,160,171,175,176,177,181,183],false,fun _=> []⟩
 |250=>⟨true,[0,2],false,fun _=> []⟩
 |251=>⟨true,[0,1,4],false,fun _=> []⟩
 |252=>⟨true,[0,2,3,10],false,fun _=> []⟩
 |253=>⟨true,[0,2],false,fun _=> []⟩
 |255=>⟨true,[0,1,4],false,fun _=> []⟩
 |_=>⟨false,[],false,fun _=> []⟩
theorem good:Abs.Good Tryz.prog note:=Abs.XR (by kernel_rfl)
theorem BM:(Tryz.prog).follows .mixedOrders=true:=by kernel_rfl
def Q8:FuncId→Option Nat:=Abs.ahI [(52,1)]
def WR:FuncId→Option Abs.gy:=Abs.Kk [(170,Abs.Ct Abs.J3),(171,Abs.Ct Abs.OO),(176,Abs.Ya Z7),(47,Abs.QH),(238,Abs.Bf),(240,Abs.Bf),(239,Abs.Bf),(242,Abs.Bf),(241,Abs.Bf),(71,Abs.wz Z1),(128,Abs.wz Z7)]
theorem JA:∀f q,WR f=some q→Abs.eH Tryz.prog f q:=Abs.Sq _ (by
 intro p hp;simp only[als,List.not_mem_nil,or_false]at hp;rcases hp with rfl|rfl|rfl|rfl|rfl|rfl|rfl|rfl|rfl|rfl|rfl
 ·exact XW
 ·exact Zd
 ·exact ZT Z7 rfl
 ·exact Fr.adD
 ·exact Abs.qK
 ·exact Abs.qK
 ·exact Abs.qK
 ·exact Abs.qK
 ·exact Abs.qK
 ·exact Ig.ace Z1 rfl
 ·exact aak Z7 rfl
)
abbrev dZ(f:FuncId)(s:Abs.Spec):Prop:=Abs.gq Tryz.prog f s
def bI{β:Type}:List (Nat×β)→Nat→Option β
 | [],_=>none
 |(k,x)::r,n=>bif n==k then some x else bI r n
def bJ{α β:Type}:α→Option β:=fun _=>none
def iF:Nat→Nat→Nat:=fun _ _=>0
def yS:Nat→Abs.gG:=fun _=>{}
theorem okW{l:List (FuncId×Abs.Spec)}(an:Nat→Abs.gG){f:FuncId}{sp:Abs.Spec}(hl:∀p∈l,dZ p.1 p.2)(hon:(note f).on=true:=by rfl)(h:∀v,(Abs.bodyC Tryz.prog note WR Q8 (Abs.uV l) an 12 f sp.keep sp.σi sp.σo v).mean=sp.m v:=by intro v;kernel_rfl):dZ f sp:=
 Abs.wM (C:=WR) (mv:=Q8) JA (n:=12) good BM (Abs.lC l hl) hon h
theorem eT:∀p∈([]:List (FuncId×Abs.Spec)),dZ p.1 p.2:=fun _ h=>by cases h
theorem bG{f:FuncId}{sp:Abs.Spec}{l:List (FuncId×Abs.Spec)}(h:dZ f sp)(t:∀p∈l,dZ p.1 p.2):∀p∈(f,sp)::l,dZ p.1 p.2:=List.forall_mem_cons.2 ⟨h,t⟩
def i9:Abs.Sg:=⟨[0],(.dat rIz .nil),.nil⟩
def m9(v:(Bn×Unit)):Option iG:=
some ((decide ((v.1.1.length:Int)≤500),()),())
def sp9:Abs.Spec:=⟨0,i9,⟨[2],gP,.nil⟩,m9⟩
theorem ok9:dZ 9 sp9:=okW yS eT
def uN(v:aaC):Option (aaC⊕(iG⊕Cc)):=
bif decide (v.1.1<v.1.2.2.1)then bif decide (0≤v.1.1∧v.1.1<v.1.2.1.size)then
((let b:=(decide (((((v.1.2.1[v.1.1.toNat]?.getD 0).toNat:Nat):Int):Int)<97))
bif b then let c:=(decide (((((v.1.2.1[v.1.1.toNat]?.getD 0).toNat:Nat):Int):Int)<48))
bif c then let d:=(((((v.1.2.1[v.1.1.toNat]?.getD 0).toNat:Nat):Int):Int) !=95)
some ((d,v.1.2.1,v.1.2.2.1,v.1.1,()),())
else let e:=(decide (((((v.1.2.1[v.1.1.toNat]?.getD 0).toNat:Nat):Int):Int)>57))
bif e then let f:=(((((v.1.2.1[v.1.1.toNat]?.getD 0).toNat:Nat):Int):Int) !=95)
some ((f,v.1.2.1,v.1.2.2.1,v.1.1,()),())
else some ((false,v.1.2.1,v.1.2.2.1,v.1.1,()),())
else let g:=(decide (((((v.1.2.1[v.1.1.toNat]?.getD 0).toNat:Nat):Int):Int)>122))
bif g then let h:=(decide (((((v.1.2.1[v.1.1.toNat]?.getD 0).toNat:Nat):Int):Int)<48))
bif h then let j:=(((((v.1.2.1[v.1.1.toNat]?.getD 0).toNat:Nat):Int):Int) !=95)
some ((j,v.1.2.1,v.1.2.2.1,v.1.1,()),())
else let k:=(decide (((((v.1.2.1[v.1.1.toNat]?.getD 0).toNat:Nat):Int):Int)>57))
bif k then let l:=(((((v.1.2.1[v.1.1.toNat]?.getD 0).toNat:Nat):Int):Int) !=95)
some ((l,v.1.2.1,v.1.2.2.1,v.1.1,()),())
else some ((false,v.1.2.1,v.1.2.2.1,v.1.1,()),())
else some ((false,v.1.2.1,v.1.2.2.1,v.1.1,()),())):Option aaR).bind fun a=>
bif a.1.1 then some (.inr (.inl ((false,()),())))
else some (.inl ((aQ (a.1.2.2.2.1+1),a.1.2.1,a.1.2.2.1,()),()))
else none
else(some (.inr (.inr ((),()))))
def Ue(v:Ca):Option iG:=
((bif v.1.1.toList==ByteArray.empty.toList then some ((true,v.1),())
else bif decide ((v.1.1.size:Int)>24)then some ((true,v.1),())
else bif decide ((0:Int)≤0∧(0:Int)<v.1.1.size)then
let b:=(decide (((((v.1.1[0]?.getD 0).toNat:Nat):Int):Int)<97))
bif b then some ((true,v.1),())
else bif decide ((0:Int)≤0∧(0:Int)<v.1.1.size)then
let c:=(decide (((((v.1.1[0]?.getD 0).toNat:Nat):Int):Int)>122))
some ((c,v.1),())
else none
else none):Option (Zi×Unit)).bind fun a=>
bif a.1.1 then some ((false,()),())
else((aB uN ((0,a.1.2.1,(a.1.2.1.size:Int),()),())).bind fun d=>
au d (fun e=>(some e)) (fun f=>(some ((true,()),()))))
def ahu:Abs.Spec:=⟨0,⟨[0],fD,.nil⟩,⟨[2],gP,.nil⟩,Ue⟩
def aes:Nat→Abs.gG
 |0=>.mk (bI [(7,⟨[47,0,23,24],(.dat .bool (.dat .str pI)),.nil⟩),(1,⟨[21,0],(.dat .bool fD),.nil⟩)]) bJ (bI [(4,⟨⟨[24,0,23],(.dat aU OQ),.nil⟩,Ro4⟩)]) iF
 |_=>{}
theorem X6:dZ 115 ahu:=okW aes eT
def vN(v:aaC):Option (aaC⊕(iG⊕Ca)):=
bif decide (v.1.1<v.1.2.2.1)then((bif decide (0≤v.1.1∧v.1.1<v.1.2.1.size)then
let b:=(decide (((((v.1.2.1[v.1.1.toNat]?.getD 0).toNat:Nat):Int):Int)<32))
bif b then some ((true,v.1.2.1,v.1.2.2.1,v.1.1,()),())
else bif decide (0≤v.1.1∧v.1.1<v.1.2.1.size)then
let c:=(decide (((((v.1.2.1[v.1.1.toNat]?.getD 0).toNat:Nat):Int):Int)>126))
some ((c,v.1.2.1,v.1.2.2.1,v.1.1,()),())
else none
else none):Option aaR).bind fun a=>
bif a.1.1 then some (.inr (.inl ((false,()),())))
else some (.inl ((aQ (a.1.2.2.2.1+1),a.1.2.1,a.1.2.2.1,()),()))
else(some (.inr (.inr ((v.1.2.1,()),()))))
def Wm(v:Ca):Option iG:=
(aB vN ((0,v.1.1,(v.1.1.size:Int),()),())).bind fun a=>
au a (fun b=>(some b)) (fun c=>(some ((decide ((c.1.1.size:Int)≤64),()),())))
def aeD:Abs.Spec:=⟨0,⟨[0],fD,.nil⟩,⟨[2],gP,.nil⟩,Wm⟩
def aer:Nat→Abs.gG
 |0=>.mk (bI [(4,⟨[18,0,5,6],(.dat .bool (.dat .str pI)),.nil⟩)]) bJ (bI [(2,⟨⟨[6,0,5],(.dat aU OQ),.nil⟩,(.more .ret ⟨[2],gP,.nil⟩ abK)⟩)]) iF
 |_=>{}
theorem abG:dZ 116 aeD:=okW aer eT
def Vx(v:Ro):Option iG:=
(((Ue ((v.1.1.1,()),())).bind fun a=>
bif a.1.1 then bif decide (v.1.1.2.1≥0)then bif decide (v.1.1.2.1≤3)then(Wm (v.1.1.2.2,())).bind fun b=>
some b
else some ((false,()),())
else some ((false,()),())
else some ((false,()),())):Option iG).bind fun c=>
some c
def ahF:Abs.Spec:=⟨0,⟨[0],Fj,.nil⟩,⟨[2],gP,.nil⟩,Vx⟩
def aeR:Nat→Abs.gG
 |0=>.mk (bI [(1,⟨[2],gP,.nil⟩)]) bJ bJ iF
 |_=>{}
theorem aaL:dZ 217 ahF:=okW aeR (bG X6 (bG abG eT))
def Yd(v:Ro):Option iG:=
(Vx v).bind fun a=>
some ((!a.1.1,()),())
def ah2:Abs.Spec:=⟨0,⟨[0],Fj,.nil⟩,⟨[2],gP,.nil⟩,Yd⟩
theorem aeY:dZ 187 ah2:=okW yS (bG aaL eT)
def ZN(v:Ca):Option iG:=
(Ue v).bind fun a=>
some a
def agR:Abs.Spec:=⟨0,⟨[0],fD,.nil⟩,⟨[2],gP,.nil⟩,ZN⟩
theorem agF:dZ 218 agR:=okW yS (bG X6 eT)
def vK(v:afM):Option (afM⊕(iG⊕Cc)):=
bif decide (v.1.1<v.1.2.2.2.1)then Abs.rowAt v.1.2.2.1 v.1.1 fun b _=>
(((ZN ((b,()),())).bind fun d=>
bif !d.1.1 then some ((true,v.1.2.1,v.1.2.2.1,v.1.2.2.2.1,v.1.1,()),())
else bif decide (v.1.1>0)then Abs.rowAt v.1.2.1 (aQ (v.1.1-1)) fun c _=>
some ((Op.bytesLess b.toList c.toList||b.toList==c.toList,v.1.2.1,v.1.2.2.1,v.1.2.2.2.1,v.1.1,()),())
else some ((false,v.1.2.1,v.1.2.2.1,v.1.2.2.2.1,v.1.1,()),())):Option ((Bool×List ByteArray×List ByteArray×Int×Int×Unit)×Unit)).bind fun a=>
bif a.1.1 then some (.inr (.inl ((false,()),())))
else some (.inl ((aQ (a.1.2.2.2.2.1+1),a.1.2.1,a.1.2.2.1,a.1.2.2.2.1,()),()))
else(some (.inr (.inr ((),()))))
def UK(v:(V9×Unit)):Option iG:=
(aB vK ((0,v.1.1,v.1.1,(v.1.1.length:Int),()),())).bind fun a=>
au a (fun b=>(some b)) (fun c=>(some ((true,()),())))
def ahJ:Abs.Spec:=⟨0,⟨[0],KQ,.nil⟩,⟨[2],gP,.nil⟩,UK⟩
def aep:Nat→Abs.gG
 |0=>.mk (bI [(4,⟨[27,0,5,6,7],(.dat .bool (.dat DZ (.dat DZ pI))),.nil⟩)]) bJ (bI [(2,⟨⟨[7,0,5,6],(.dat aU (.dat DZ (.dat DZ dG))),.nil⟩,Ro4⟩)]) iF
 |_=>{}
theorem aaS:dZ 188 ahJ:=okW aep (bG agF eT)
def uI(v:NU):Option (NU⊕(ko⊕Cc)):=
bif decide (v.1.1<v.1.2.2.1)then Abs.rowAt v.1.2.1 v.1.1 fun a _=>
(Yd ((a,()),())).bind fun b=>
bif b.1.1 then some (.inr (.inl ((v.1.1,()),())))
else some (.inl ((aQ (v.1.1+1),v.1.2),()))
else(some (.inr (.inr ((),()))))
def Ym(v:((Y8×Int×Unit)×Unit)):Option ko:=
((bif v.1.2.1==0 then bif v.1.1.1 !=(-1)then some ((true,()),(v.1.1,()),())
else bif decide (v.1.2.1>0)then bif decide (v.1.1.1<0)then some ((true,()),(v.1.1,()),())
else some ((decide (v.1.1.1≥v.1.2.1),()),(v.1.1,()),())
else some ((false,()),(v.1.1,()),())
else bif decide (v.1.2.1>0)then bif decide (v.1.1.1<0)then some ((true,()),(v.1.1,()),())
else some ((decide (v.1.1.1≥v.1.2.1),()),(v.1.1,()),())
else some ((false,()),(v.1.1,()),())):Option (qY×Om)).bind fun c=>
bif c.1.1 then some ((3,()),())
else(((let d:=(decide ((c.2.1.1.2.1.length:Int)>8))
bif d then some ((true,()),c.2)
else let e:=(decide ((c.2.1.1.2.2.2.1.length:Int)>12))
some ((e,()),c.2)):Option (qY×Om)).bind fun b=>
bif b.1.1 then some ((5,()),())
else(((((aB uI ((0,b.2.1.1.2.1,(b.2.1.1.2.1.length:Int),()),())).bind fun f=>
au f (fun g=>(some ((decide (g.1.1≥0),()),()))) (fun o=>(some ((false,()),())))):Option iG).bind fun h=>
bif h.1.1 then some ((true,()),b.2)
else(UK ((b.2.1.1.2.2.2.1,()),())).bind fun j=>
some ((!j.1.1,()),b.2)):Option (qY×Om)).bind fun a=>
bif a.1.1 then some ((8,()),())
else((bif decide (a.2.1.1.2.2.1<0)then some ((true,()),())
else bif decide (a.2.1.1.2.2.2.2.1<0)then some ((true,()),())
else let k:=(decide (a.2.1.1.2.2.2.2.1>a.2.1.1.2.2.2.2.2.1))
bif k then some ((true,()),())
else let l:=(decide (a.2.1.1.2.2.2.2.2.1>a.2.1.1.2.2.2.2.2.2.1))
bif l then some ((true,()),())
else let m:=(decide (a.2.1.1.2.2.2.2.2.2.1>604800))
bif m then some ((true,()),())
else some ((a.2.1.1.2.2.2.2.2.2.1==0,()),())):Option iG).bind fun n=>
bif n.1.1 then some ((1,()),())
else some ((0,()),()))
def ahi:Abs.Spec:=⟨0,⟨[0,1],(.dat Z2 dG),.nil⟩,⟨[4],dG,.nil⟩,Ym⟩
def ah1:Nat→Abs.gG
 |0=>.mk (bI [(7,⟨[49],gP,.nil⟩),(5,⟨[39,2],(.dat .bool Sy),NW⟩),(3,⟨[28,2],(.dat .bool Sy),NW⟩),(1,⟨[5,2],(.dat .bool Sy),NW⟩)]) bJ bJ (fun
  |5,2=>1
  |_,_=>0)
 |1=>.mk (bI [(1,⟨[4],gP,.nil⟩)]) bJ bJ (fun
  |1,2=>2
  |_,_=>0)
 |2=>.mk bJ bJ (bI [(2,⟨⟨[8,0,1,7],(.dat aU (.dat (.row JQ) (.st (.clo 187 []) dG))),.nil⟩,Ro5⟩)]) iF
 |_=>{}
theorem aem:dZ 139 ahi:=okW ah1 (bG aeY (bG aaS eT))
def En(v:ahl):Option (ahl⊕(ko⊕aa5)):=
bif decide (v.1.1<v.1.2.2.2.1)then Abs.rowAt v.1.2.1 v.1.1 fun b _=>
(Ym ((b,v.1.1,()),())).bind fun a=>
bif a.1.1 !=0 then some (.inr (.inl a))
else some (.inl ((aQ (v.1.1+1),v.1.2),()))
else(some (.inr (.inr ((v.1.2.2.1,()),()))))
def m78(v:aa5):Option ko:=
bif (v.1.1.length:Int)==0 then some ((7,()),())
else(bif decide ((v.1.1.length:Int)>24)then some ((5,()),())
else(aB En ((0,v.1.1,v.1.1,(v.1.1.length:Int),()),())).bind fun a=>
au a (fun b=>(some b)) (fun c=>(Abs.rowAt c.1.1 0 fun d _=>
bif decide ((d.2.1.length:Int)>0)then some ((8,()),())
else some ((0,()),()))))
def ajq:Abs.Spec:=⟨0,⟨[0],Lv,.nil⟩,⟨[2],dG,.nil⟩,m78⟩
def aiJ:Nat→Abs.gG
 |0=>.mk bJ bJ (bI [(6,⟨⟨[16,14,0,15],(.dat aU (.dat zJ R9)),.nil⟩,(.more .ret ⟨[2],dG,.nil⟩ (.one (.exit 1) ⟨[0],Lv,.nil⟩))⟩)]) iF
 |_=>{}
theorem acD:dZ 78 ajq:=okW aiJ (bG aem eT)
def Tz(v:Ro):Option iG:=
(Vx v).bind fun a=>
some ((!a.1.1,()),())
def ae5:Abs.Spec:=⟨0,⟨[0],Fj,.nil⟩,⟨[2],gP,.nil⟩,Tz⟩
theorem aaU:dZ 189 ae5:=okW yS (bG aaL eT)
def tu(v:NU):Option (NU⊕(ko⊕Cc)):=
bif decide (v.1.1<v.1.2.2.1)then Abs.rowAt v.1.2.1 v.1.1 fun a _=>
(Tz ((a,()),())).bind fun b=>
bif b.1.1 then some (.inr (.inl ((v.1.1,()),())))
else some (.inl ((aQ (v.1.1+1),v.1.2),()))
else(some (.inr (.inr ((),()))))
def uj(v:NU):Option (NU⊕(ko⊕Cc)):=
bif decide (v.1.1<v.1.2.2.1)then Abs.rowAt v.1.2.1 v.1.1 fun a _=>
(Tz ((a,()),())).bind fun b=>
bif b.1.1 then some (.inr (.inl ((v.1.1,()),())))
else some (.inl ((aQ (v.1.1+1),v.1.2),()))
else(some (.inr (.inr ((),()))))
def XL(v:((XQ×Unit)×Unit)):Option ko:=
((bif (v.1.1.1.length:Int)==0 then some ((true,()),v)
else some (((v.1.1.2.1.length:Int)==0,()),v)):Option (qY×QO)).bind fun a=>
bif a.1.1 then some ((7,()),())
else(((let c:=(decide ((a.2.1.1.1.length:Int)>8))
bif c then some ((true,()),a.2)
else let d:=(decide ((a.2.1.1.2.1.length:Int)>8))
bif d then some ((true,()),a.2)
else let e:=(decide ((a.2.1.1.2.2.1.length:Int)>12))
some ((e,()),a.2)):Option (qY×QO)).bind fun b=>
bif b.1.1 then some ((5,()),())
else(((((aB tu ((0,b.2.1.1.1,(b.2.1.1.1.length:Int),()),())).bind fun f=>
au f (fun g=>(some ((decide (g.1.1≥0),()),()))) (fun o=>(some ((false,()),())))):Option iG).bind fun h=>
bif h.1.1 then some ((true,()),())
else(((aB uj ((0,b.2.1.1.2.1,(b.2.1.1.2.1.length:Int),()),())).bind fun j=>
au j (fun k=>(some ((decide (k.1.1≥0),()),()))) (fun p=>(some ((false,()),())))):Option iG).bind fun l=>
bif l.1.1 then some ((true,()),())
else(UK (b.2.1.1.2.2,())).bind fun m=>
some ((!m.1.1,()),())):Option iG).bind fun n=>
bif n.1.1 then some ((8,()),())
else some ((0,()),()))
def agt:Abs.Spec:=⟨0,⟨[0],(.dat Z6 .nil),.nil⟩,⟨[2],dG,.nil⟩,XL⟩
def agN:Nat→Abs.gG
 |0=>.mk (bI [(5,⟨[31],gP,.nil⟩),(3,⟨[14,1],(.dat .bool (.st mH .nil)),Yr⟩),(1,⟨[3,1],(.dat .bool (.st mH .nil)),Yr⟩)]) bJ bJ (fun
  |5,6=>3
  |5,2=>1
  |_,_=>0)
 |1=>.mk (bI [(1,⟨[4],gP,.nil⟩)]) bJ bJ (fun
  |1,2=>2
  |_,_=>0)
 |2=>.mk bJ bJ (bI [(2,⟨⟨[8,0,1,7],adi,.nil⟩,Ro5⟩)]) iF
 |3=>.mk (bI [(1,⟨[4],gP,.nil⟩)]) bJ bJ (fun
  |1,2=>4
  |_,_=>0)
 |4=>.mk bJ bJ (bI [(2,⟨⟨[8,0,1,7],adi,.nil⟩,Ro5⟩)]) iF
 |_=>{}
theorem afG:dZ 140 agt:=okW agN (bG aaU (bG aaS eT))
def DL(v:((Int×GN×Int×Unit)×Unit)):Option (((Int×GN×Int×Unit)×Unit)⊕(ko⊕Cc)):=
bif decide (v.1.1<v.1.2.2.1)then Abs.rowAt v.1.2.1 v.1.1 fun b _=>
(XL ((b,()),())).bind fun a=>
bif a.1.1 !=0 then some (.inr (.inl a))
else some (.inl ((aQ (v.1.1+1),v.1.2),()))
else(some (.inr (.inr ((),()))))
def m79(v:((GN×Unit)×Unit)):Option ko:=
bif decide ((v.1.1.length:Int)>12)then some ((5,()),())
else((aB DL ((0,v.1.1,(v.1.1.length:Int),()),())).bind fun a=>
au a (fun b=>(some b)) (fun c=>(some ((0,()),()))))
def ajE:Abs.Spec:=⟨0,⟨[0],(.dat Gn .nil),.nil⟩,⟨[2],dG,.nil⟩,m79⟩
def aiD:Nat→Abs.gG
 |0=>.mk bJ bJ (bI [(4,⟨⟨[11,9,10],(.dat aU (.dat Gn dG)),.nil⟩,(.more .ret ⟨[2],dG,.nil⟩ XC)⟩)]) iF
 |_=>{}
theorem aj1:dZ 79 ajE:=okW aiD (bG afG eT)
def m34(v:(PL×Unit)):Option ko:=
(m78 ((v.1.1.1,()),())).bind fun a=>
bif a.1.1 !=0 then some a
else((m79 ((v.1.1.2.1,()),())).bind fun b=>
bif b.1.1 !=0 then some b
else((bif decide (v.1.1.2.2.1<0)then some ((true,()),())
else some ((decide (v.1.1.2.2.1>604800),()),())):Option iG).bind fun c=>
bif c.1.1 then some ((1,()),())
else some ((0,()),()))
def ain:Abs.Spec:=⟨0,⟨[0],qI,.nil⟩,⟨[2],dG,.nil⟩,m34⟩
def ai6:Nat→Abs.gG
 |0=>.mk (bI [(7,⟨[24],gP,.nil⟩)]) bJ bJ iF
 |_=>{}
theorem acU:dZ 34 ain:=okW ai6 (bG acD (bG aj1 eT))
def m26(v:Cc):Option (Unit×(Bd×Unit)):=
some ((),((0,1,()),()),())
def ais:Abs.Spec:=⟨0,⟨[],.nil,.nil⟩,⟨[0],(.st l7 .nil),(.box 4 LA .nil)⟩,m26⟩
theorem ae9:dZ 26 ais:=okW yS eT
def Ee(v:afI):Option (afI⊕(Mh×Unit)):=
bif decide (v.1.1<v.1.2.2.2.2.1)then((Abs.rowAt v.1.2.2.2.1 v.1.1 fun b _=>
((bif b.2.2.2.1 !=(-1)then bif !v.1.2.2.1 then some ((true,v.1.2.2.2.1,v.1.2.2.2.2.1,v.1.1,v.1.2.1,v.1.2.2.1,()),(b,()),())
else some ((decide (b.2.2.2.1<v.1.2.1),v.1.2.2.2.1,v.1.2.2.2.2.1,v.1.1,v.1.2.1,v.1.2.2.1,()),(b,()),())
else some ((false,v.1.2.2.2.1,v.1.2.2.2.2.1,v.1.1,v.1.2.1,v.1.2.2.1,()),(b,()),())):Option ((Bool×List qM×Int×Int×Int×Bool×Unit)×V6)).bind fun a=>
bif a.1.1 then some ((a.2.1.1.2.2.2.1,true,a.1.2.1,a.1.2.2.1,a.1.2.2.2.1,()),())
else some ((a.1.2.2.2.2.1,a.1.2.2.2.2.2.1,a.1.2.1,a.1.2.2.1,a.1.2.2.2.1,()),())):Option ((Int×Bool×List qM×Int×Int×Unit)×Unit)).bind fun c=>
some (.inl ((aQ (c.1.2.2.2.2.1+1),c.1.1,c.1.2.1,c.1.2.2.1,c.1.2.2.2.1,()),()))
else(some (.inr ((v.1.2.2.1,v.1.2.1,()),())))
def m30(v:(Vr×Unit)):Option ZO:=
(aB Ee ((0,0,false,v.1.1.2.1,(v.1.1.2.1.length:Int),()),())).bind fun a=>
some ((a.1.2.1,a.1.1,()),())
def ajU:Abs.Spec:=⟨0,⟨[0],Rs7,.nil⟩,⟨[2,3],JZ,.nil⟩,m30⟩
def ajl:Nat→Abs.gG
 |0=>.mk (bI [(5,⟨[27,9,10,11,7,4,5],(.dat .bool (.dat VF (.dat aU (.dat aU (.st rZ JZ))))),EQ⟩)]) (bI [(7,(⟨[4,5,9,10,11],(.dat aU (.dat .bool (.dat VF pI))),.nil⟩,none))]) (bI [(3,⟨⟨[11,4,5,9,10],(.dat aU (.dat aU (.dat .bool agG))),.nil⟩,(.one (.exit 0) ⟨[5,4],YE,.nil⟩)⟩)]) iF
 |_=>{}
theorem afY:dZ 30 ajU:=okW ajl eT
def ZP(v:((List qM×Unit)×Unit)):Option (Unit×(List qM×Unit)):=
bif decide (v.1.1.length≤4294967296)then some ((),v.1)else none
def afP:Abs.Spec:=⟨0,⟨[0],(.dat VF .nil),.nil⟩,⟨[2],(.st Js .nil),(.arr Z1 false .nil)⟩,ZP⟩
theorem agY:Abs.gq Tryz.prog 112 afP:=
 Abs.vg (N:=note) (t:=Z1) BM (Abs.qE (n:=12) (an:=fun _=>{}) (T:=Abs.uV []) good BM (Abs.lC _ (fun _ h=>by cases h)) rfl (by intro v;kernel_rfl)) (by kernel_rfl) (by kernel_rfl)
def acG(v:(K4×Unit)):Option (Unit×K4):=
bif decide (v.1.1.length≤4294967296)then some ((),v.1)else none
def af6:Abs.Spec:=⟨0,⟨[0],(.dat Gz .nil),.nil⟩,⟨[2],(.st Xt .nil),BN⟩,acG⟩
theorem ahz:Abs.gq Tryz.prog 165 af6:=
 Abs.vg (N:=note) (t:=Z4) BM (Abs.qE (n:=12) (an:=fun _=>{}) (T:=Abs.uV []) good BM (Abs.lC _ (fun _ h=>by cases h)) rfl (by intro v;kernel_rfl)) (by kernel_rfl) (by kernel_rfl)
def ady(v:((Y3×Unit)×Unit)):Option (Unit×(Y3×Unit)):=
bif decide (v.1.1.length≤4294967296)then some ((),v.1)else none
def ahd:Abs.Spec:=⟨0,⟨[0],(.dat (.row JQ) .nil),.nil⟩,⟨[2],(.st VS .nil),NR⟩,ady⟩
theorem afV:Abs.gq Tryz.prog 166 ahd:=
 Abs.vg (N:=note) (t:=JQ) BM (Abs.qE (n:=12) (an:=fun _=>{}) (T:=Abs.uV []) good BM (Abs.lC _ (fun _ h=>by cases h)) rfl (by intro v;kernel_rfl)) (by kernel_rfl) (by kernel_rfl)
def yZ(v:(CF×K4)):Option ((CF×K4)⊕(Unit×K4)):=
bif decide (v.1.1<v.1.2.1)then bif decide (0≤v.1.1∧v.1.1<v.2.1.length)then
(v.2.1[v.1.1.toNat]?).bind fun b=>
(ady (b.2.2.2.2,())).bind fun c=>
bif decide (0≤v.1.1∧v.1.1<v.2.1.length)then
(v.2.1[v.1.1.toNat]?).bind fun a=>
some (.inl ((aQ (v.1.1+1),v.1.2),v.2.1.set v.1.1.toNat (a.1,a.2.1,a.2.2.1,a.2.2.2.1,c.2),()))
else none
else none
else(some (.inr ((),v.2)))
def TK(v:(K4×Unit)):Option (Unit×K4):=
(acG v).bind fun a=>
(aB yZ ((0,((a.2.1.length:Nat):Int),()),a.2)).bind fun b=>
some ((),b.2)
def afX:Abs.Spec:=⟨0,⟨[0],(.dat Gz .nil),.nil⟩,⟨[2],(.st Xt .nil),BN⟩,TK⟩
def afF:Nat→Abs.gG
 |0=>.mk bJ bJ (bI [(3,⟨⟨[9,3,8],(.dat aU (.st Xt dG)),BN⟩,(.one (.exit 0) ⟨[3],(.st Xt .nil),BN⟩)⟩)]) iF
 |_=>{}
theorem abt:dZ 111 afX:=okW afF (bG ahz (bG afV eT))
def adk(v:((Y5×Unit)×Unit)):Option (Unit×(Y5×Unit)):=
bif decide (v.1.1.length≤4294967296)then some ((),v.1)else none
def afe:Abs.Spec:=⟨0,⟨[0],(.dat D9 .nil),.nil⟩,⟨[2],(.st Lp .nil),Sz⟩,adk⟩
theorem ahw:Abs.gq Tryz.prog 167 afe:=
 Abs.vg (N:=note) (t:=Z7) BM (Abs.qE (n:=12) (an:=fun _=>{}) (T:=Abs.uV []) good BM (Abs.lC _ (fun _ h=>by cases h)) rfl (by intro v;kernel_rfl)) (by kernel_rfl) (by kernel_rfl)
def Xe(v:Nt):Option Ms:=
bif decide (v.1.1.length≤4294967296)then some ((),v.1)else none
def agI:Abs.Spec:=⟨0,⟨[0],oh,.nil⟩,⟨[2],Xy,qw⟩,Xe⟩
theorem abr:Abs.gq Tryz.prog 103 agI:=
 Abs.vg (N:=note) (t:=Z15) BM (Abs.qE (n:=12) (an:=fun _=>{}) (T:=Abs.uV []) good BM (Abs.lC _ (fun _ h=>by cases h)) rfl (by intro v;kernel_rfl)) (by kernel_rfl) (by kernel_rfl)
def AJ(v:(CF×acv)):Option ((CF×acv)⊕QG):=
bif decide (v.1.1<v.1.2.1)then bif decide (0≤v.1.1∧v.1.1<v.2.2.2.1.length)then
(v.2.2.2.1[v.1.1.toNat]?).bind fun b=>
(Xe ((b.2.1,()),())).bind fun c=>
bif decide (0≤v.1.1∧v.1.1<v.2.2.2.1.length)then
(v.2.2.2.1[v.1.1.toNat]?).bind fun a=>
some (.inl ((aQ (v.1.1+1),v.1.2),v.2.1,v.2.2.1,v.2.2.2.1.set v.1.1.toNat (a.1,c.2.1,a.2.2),()))
else none
else none
else(some (.inr ((),v.2.2.1,v.2.1,v.2.2.2)))
def O8(v:WK):Option (Unit×(Co×Y5×Unit)):=
(adk ((v.1.1.2.2.1,()),())).bind fun a=>
(aB AJ ((0,((a.2.1.length:Nat):Int),()),((v.1.1.1,v.1.1.2.1,v.1.1.2.2.2),()),((0,ByteArray.empty,0,0,()),()),a.2)).bind fun b=>
some ((),b.2.2)
def aei:Abs.Spec:=⟨0,⟨[0],Wz,.nil⟩,⟨[2],Mf,Jk⟩,O8⟩
def af2:Nat→Abs.gG
 |0=>.mk bJ bJ (bI [(3,⟨⟨[11,1,2,10],(.dat aU (.st rZ (.st ML dG))),(.box 5 (.agg (.dat aU (.dat .str (.st (.own Z7 (2,0)) pI))) .nil) (.box 5 KV Sz))⟩,(.one (.exit 0) ⟨[2,1],YN,Yx⟩)⟩)]) iF
 |_=>{}
theorem Qv:dZ 113 aei:=okW af2 (bG ahw (bG abr eT))
def Ea(v:abp):Option (abp⊕(Unit×(Bd×Bd×List qM×Bb×Unit))):=
bif decide (v.1.1<v.1.2.1)then bif decide (0≤v.1.1∧v.1.1<v.2.2.1.length)then
(v.2.2.1[v.1.1.toNat]?).bind fun b=>
(O8 ((b,()),())).bind fun a=>
bif decide (0≤v.1.1∧v.1.1<v.2.2.1.length)then
bif decide (v.1.1.toNat<v.2.2.1.length)then
some (.inl ((aQ (v.1.1+1),v.1.2),v.2.1,v.2.2.1.set v.1.1.toNat (a.2.1.1.1,a.2.1.1.2.1,a.2.2.1,a.2.1.1.2.2),v.2.2.2))
else none
else none
else none
else(some (.inr ((),v.2.2.2.1,v.2.1,v.2.2.1,v.2.2.2.2)))
def i64:Abs.Sg:=⟨[0],Rs7,.nil⟩
def m64(v:(Vr×Unit)):Option (Unit×Ox):=
(ZP ((v.1.1.2.1,()),())).bind fun a=>
(TK ((v.1.1.2.2.1,()),())).bind fun b=>
(aB Ea ((0,((a.2.1.length:Nat):Int),()),((v.1.1.1,v.1.1.2.2.2),()),a.2.1,((0,0,()),()),b.2)).bind fun c=>
some ((),c.2.2)
def ajv:Abs.Spec:=⟨0,i64,⟨[2],(.st l7 .nil),TM⟩,m64⟩
def aiT:Nat→Abs.gG
 |0=>.mk bJ bJ (bI [(3,⟨⟨[16,1,14,2,15],(.dat aU (.st l7 (.st UD (.st Xi dG)))),(.box 4 (.agg (.dat aU (.st UD (.st (.own Z4 (3,0)) dG))) .nil) (.arr Z1 false (.box 4 LA BN)))⟩,(.one (.exit 0) ⟨[2,1],(.st l7 (.st Ad .nil)),(.box 4 LA (.box 4 (.agg (.dat aU (.st (.own Z1 (2,0)) (.st (.own Z4 (3,0)) dG))) .nil) Uv))⟩)⟩)]) iF
 |_=>{}
theorem adq:dZ 64 ajv:=okW aiT (bG agY (bG abt (bG Qv eT)))
def EZ(v:(Ou×Unit)):Option iG:=
((bif decide (v.1.1≥v.1.2.1)then some ((decide (v.1.1≤v.1.2.2.1),()),())
else some ((false,()),())):Option iG).bind fun a=>
some a
def ahj:Abs.Spec:=⟨0,⟨[0,1,2],DC,.nil⟩,⟨[6],gP,.nil⟩,EZ⟩
def ag2:Nat→Abs.gG
 |0=>.mk (bI [(1,⟨[6],gP,.nil⟩)]) bJ bJ iF
 |_=>{}
theorem N9:dZ 125 ahj:=okW ag2 eT
def Ar(v:((Int×jh×jh×Int×Unit)×Unit)):Option (((Int×jh×jh×Int×Unit)×Unit)⊕(iG⊕Cc)):=
bif decide (v.1.1<v.1.2.2.2.1)then Abs.rowAt v.1.2.2.1 v.1.1 fun a _=>
(((Ue ((a.1,()),())).bind fun d=>
bif !d.1.1 then some ((true,v.1.2.1,v.1.2.2.1,v.1.2.2.2.1,v.1.1,()),())
else(Wm (a.2,())).bind fun e=>
bif !e.1.1 then some ((true,v.1.2.1,v.1.2.2.1,v.1.2.2.2.1,v.1.1,()),())
else bif a.2.1.toList==ByteArray.empty.toList then some ((true,v.1.2.1,v.1.2.2.1,v.1.2.2.2.1,v.1.1,()),())
else bif decide (v.1.1>0)then Abs.rowAt v.1.2.1 (aQ (v.1.1-1)) fun c _=>
some ((Op.bytesLess a.1.toList c.1.toList||a.1.toList==c.1.toList,v.1.2.1,v.1.2.2.1,v.1.2.2.2.1,v.1.1,()),())
else some ((false,v.1.2.1,v.1.2.2.1,v.1.2.2.2.1,v.1.1,()),())):Option ((Bool×jh×jh×Int×Int×Unit)×Unit)).bind fun b=>
bif b.1.1 then some (.inr (.inl ((false,()),())))
else some (.inl ((aQ (b.1.2.2.2.2.1+1),b.1.2.1,b.1.2.2.1,b.1.2.2.2.1,()),()))
else(some (.inr (.inr ((),()))))
def m66(v:Nt):Option iG:=
bif decide ((v.1.1.length:Int)>12)then some ((false,()),())
else((aB Ar ((0,v.1.1,v.1.1,(v.1.1.length:Int),()),())).bind fun a=>
au a (fun b=>(some b)) (fun c=>(some ((true,()),()))))
def ajS:Abs.Spec:=⟨0,⟨[0],oh,.nil⟩,⟨[2],gP,.nil⟩,m66⟩
def aiG:Nat→Abs.gG
 |0=>.mk (bI [(6,⟨[44,0,8,9,10],(.dat .bool (.dat rW (.dat rW pI))),.nil⟩)]) bJ (bI [(4,⟨⟨[10,0,8,9],(.dat aU (.dat rW RF)),.nil⟩,Ro4⟩)]) iF
 |_=>{}
theorem Tj:dZ 66 ajS:=okW aiG (bG X6 (bG abG eT))
def uX(v:((Int×jh×Int×Unit)×V9)):Option (((Int×jh×Int×Unit)×V9)⊕abh):=
bif decide (v.1.1<v.1.2.2.1)then Abs.rowAt v.1.2.1 v.1.1 fun a _=>
bif decide (a.1.size+1≤4294967296)then
bif decide (a.2.1.size≤4294967296)then
bif decide ((a.1++(bs [61])).size+(kF a.2.1).size≤4294967296)then
bif decide (v.2.1.length+ [((a.1++(bs [61]))++(kF a.2.1))].length≤4294967296)then
let b:=(v.2.1++ [((a.1++(bs [61]))++(kF a.2.1))])
some (.inl ((aQ (v.1.1+1),v.1.2),b,()))
else none
else none
else none
else none
else(some (.inr ((),v.2)))
def TL(v:Nt):Option Ca:=
(m66 v).bind fun b=>
bif !b.1.1 then some ((ByteArray.empty,()),())
else((aB uX ((0,v.1.1,(v.1.1.length:Int),()),[],())).bind fun a=>
bif decide (List.length a.2.1≤4294967296∧(sJ a.2.1 (bs [44])).size≤140737488355328)then
bif decide (1+(sJ a.2.1 (bs [44])).size≤4294967296)then
bif decide (((bs [123])++(sJ a.2.1 (bs [44]))).size+1≤4294967296)then
let c:=(((bs [123])++(sJ a.2.1 (bs [44])))++(bs [125]))
some ((c,()),())
else none
else none
else none)
def ae3:Abs.Spec:=⟨0,⟨[0],oh,.nil⟩,⟨[2],fD,.nil⟩,TL⟩
def afh:Nat→Abs.gG
 |0=>.mk bJ bJ (bI [(5,⟨⟨[11,3,9,10],(.dat aU (.st acH RF)),DI⟩,(.one (.exit 0) ⟨[3],(.st acH .nil),DI⟩)⟩)]) iF
 |_=>{}
theorem WG:dZ 118 ae3:=okW afh (bG Tj eT)
def Ze(v:Xh):Option iG:=
(((m66 ((v.1.1.2.1,()),())).bind fun a=>
bif a.1.1 then(TL ((v.1.1.2.1,()),())).bind fun b=>
bif b.1.1.toList==v.1.1.1.toList then(EZ ((v.1.1.2.2.1,0,8589934592,()),())).bind fun c=>
bif c.1.1 then(EZ ((v.1.1.2.2.2.1,0,8589934592,()),())).bind fun d=>
bif d.1.1 then bif v.1.1.2.2.2.2.1 then some ((true,()),())
else some ((!v.1.1.2.2.2.2.2.1,()),())
else some ((false,()),())
else some ((false,()),())
else some ((false,()),())
else some ((false,()),())):Option iG).bind fun e=>
some e
def ag3:Abs.Spec:=⟨0,⟨[0],(.dat Z7 .nil),.nil⟩,⟨[2],gP,.nil⟩,Ze⟩
def afi:Nat→Abs.gG
 |0=>.mk (bI [(1,⟨[2],gP,.nil⟩)]) bJ bJ iF
 |_=>{}
theorem aeI:dZ 144 ag3:=okW afi (bG Tj (bG WG (bG N9 eT)))
def A7(v:(UC×V6)):Option ((UC×V6)⊕(iG⊕Cc)):=
bif decide (v.1.1<v.1.2.2.1)then Abs.rowAt v.1.2.1 v.1.1 fun b _=>
(((Ze ((b,()),())).bind fun d=>
bif !d.1.1 then some ((true,v.1.2.1,v.1.2.2.1,v.1.1,()),v.2)
else bif decide (v.1.1>0)then Abs.rowAt v.2.1.1.2.2.1 (aQ (v.1.1-1)) fun c _=>
some ((Op.bytesLess b.1.toList c.1.toList||b.1.toList==c.1.toList,v.1.2.1,v.1.2.2.1,v.1.1,()),v.2)
else some ((false,v.1.2.1,v.1.2.2.1,v.1.1,()),v.2)):Option ((Bool×Y5×Int×Int×Unit)×V6)).bind fun a=>
bif a.1.1 then some (.inr (.inl ((false,()),())))
else some (.inl ((aQ (a.1.2.2.2.1+1),a.1.2.1,a.1.2.2.1,()),a.2))
else(some (.inr (.inr ((),()))))
def m82(v:WK):Option iG:=
((let b:=(decide ((v.1.1.2.2.1.length:Int)>256))
bif b then some ((true,()),v)
else bif decide (v.1.1.1<0)then some ((true,()),v)
else(EZ ((v.1.1.2.2.2.1,-1,8589934592,()),())).bind fun c=>
bif !c.1.1 then some ((true,()),v)
else(EZ ((v.1.1.2.2.2.2.1,-1,8589934592,()),())).bind fun d=>
some ((!d.1.1,()),v)):Option (qY×V6)).bind fun a=>
bif a.1.1 then some ((false,()),())
else((aB A7 ((0,a.2.1.1.2.2.1,(a.2.1.1.2.2.1.length:Int),()),a.2)).bind fun e=>
au e (fun f=>(some f)) (fun g=>(some ((true,()),()))))
def akb:Abs.Spec:=⟨0,⟨[0],Wz,.nil⟩,⟨[2],gP,.nil⟩,m82⟩
def aiM:Nat→Abs.gG
 |0=>.mk (bI [(6,⟨[52,1,27,28,29],(.dat .bool (.st rZ (.dat D9 pI))),EQ⟩),(1,⟨[25,1],(.dat .bool Mf),EQ⟩)]) bJ (bI [(4,⟨⟨[29,1,27,28],(.dat aU (.st rZ afz)),EQ⟩,Ro4⟩)]) iF
 |_=>{}
theorem Zu:dZ 82 akb:=okW aiM (bG N9 (bG aeI eT))
def Tt(v:((Y8×Unit)×Unit)):Option iG:=
(m78 ((([(-1,[],v.1.1.2.2)]:List Y8),()),())).bind fun a=>
some ((a.1.1==0,()),())
def ag6:Abs.Spec:=⟨0,⟨[0],Ci,.nil⟩,⟨[2],gP,.nil⟩,Tt⟩
theorem V7:dZ 124 ag6:=okW yS (bG acD eT)
def Vt(v:Ca):Option iG:=
some ((!(v.1.1.toList==v.1.1.toList),()),())
def ahr:Abs.Spec:=⟨0,⟨[0],fD,.nil⟩,⟨[2],gP,.nil⟩,Vt⟩
theorem ae6:dZ 190 ahr:=okW yS eT
def Xm(v:(Qz×Unit)):Option ko:=
(Vt ((v.1.1,()),())).bind fun b=>
(Vt (v.1.2,())).bind fun a=>
bif b.1.1 then bif a.1.1 then some ((0,()),())
else some ((-1,()),())
else(bif a.1.1 then some ((1,()),())
else bif Op.bytesLess v.1.1.toList v.1.2.1.toList then some ((-1,()),())
else bif !(Op.bytesLess v.1.1.toList v.1.2.1.toList||v.1.1.toList==v.1.2.1.toList)then some ((1,()),())
else some ((0,()),()))
def ae7:Abs.Spec:=⟨0,⟨[0,1],NJ,.nil⟩,⟨[4],dG,.nil⟩,Xm⟩
theorem ab2:dZ 146 ae7:=okW yS (bG ae6 eT)
def Xv(v:((XE×ByteArray×Unit)×Unit)):Option ko:=
(Xm ((v.1.1.1,v.1.2),())).bind fun a=>
some a
def ahb:Abs.Spec:=⟨0,⟨[0,1],(.dat Z7 fD),.nil⟩,⟨[4],dG,.nil⟩,Xv⟩
theorem aeU:dZ 175 ahb:=okW yS (bG ab2 eT)
def nQ(v:aby):Option (aby⊕((ByteArray×Int×Y5×Int×Unit)×Unit)):=
bif decide (v.1.2.2.2.1<v.1.2.2.1)then let a:=(IntKind.wrap .u64 (aQ (v.1.2.2.2.1+v.1.2.2.1)))
bif decide ((0:Int)≤1)then
Abs.rowAt v.1.2.1 (aQ (Al .u64 (a) (1))) fun b _=>
(Xv ((b,v.1.1,()),())).bind fun c=>
bif decide (c.1.1<0)then some (.inl ((v.1.1,v.1.2.1,v.1.2.2.1,aQ ((aQ (Al .u64 (a) (1)))+1),v.1.2.2.2.2),()))
else some (.inl ((v.1.1,v.1.2.1,aQ (Al .u64 (a) (1)),v.1.2.2.2),()))
else none
else(some (.inr ((v.1.1,v.1.2.2.2.1,v.1.2.1,v.1.2.2.2.2),())))
def Mw(v:((qM×ByteArray×Unit)×Unit)):Option ZO:=
(aB nQ ((v.1.2.1,v.1.1.2.2.1,(v.1.1.2.2.1.length:Int),0,(v.1.1.2.2.1.length:Int),()),())).bind fun a=>
((bif decide (a.1.2.1<a.1.2.2.2.1)then Abs.rowAt a.1.2.2.1 a.1.2.1 fun b _=>
(Xv ((b,a.1.1,()),())).bind fun c=>
some ((a.1.2.1,c.1.1==0,()),())
else some ((a.1.2.1,false,()),())):Option ZO).bind fun d=>
some d
def aey:Abs.Spec:=⟨0,⟨[0,1],(.dat Z1 fD),.nil⟩,⟨[4,5],JZ,.nil⟩,Mw⟩
def aeM:Nat→Abs.gG
 |0=>.mk bJ bJ bJ (fun
  |1,3=>1
  |_,_=>0)
 |1=>.mk (bI [(8,⟨[6,7],JZ,.nil⟩)]) bJ (bI [(3,⟨⟨[1,0,2,10,9,8],(.dat .str (.dat D9 (.st (.clo 175 []) DC))),.nil⟩,(.one (.exit 0) ⟨[1,9,0,2,8],(.dat .str (.dat aU (.dat D9 (.st (.clo 175 []) dG)))),.nil⟩)⟩)]) iF
 |_=>{}
theorem abg:dZ 126 aey:=okW aeM (bG aeU eT)
def MH(v:ko):Option ko:=
bif decide (v.1.1>8589934592)then some ((-1,()),())
else(some v)
def agX:Abs.Spec:=⟨0,⟨[0],dG,.nil⟩,⟨[2],dG,.nil⟩,MH⟩
theorem WJ:dZ 179 agX:=okW yS eT
def abR(v:WK):Option iG:=
some (((v.1.1.2.2.1.length:Int)==0,()),())
def ah6:Abs.Spec:=⟨0,⟨[0],Wz,.nil⟩,⟨[2],gP,.nil⟩,abR⟩
theorem afr:dZ 145 ah6:=okW yS eT
def qj(v:((Int×Int×Int×Y5×Int×Unit)×VN)):Option (((Int×Int×Int×Y5×Int×Unit)×VN)⊕QG):=
bif decide (v.1.1<v.1.2.2.2.2.1)then((Abs.rowAt v.1.2.2.2.1 v.1.1 fun k _=>
(Mw (((v.2.1.1.1,v.2.1.1.2.1,v.2.2.2.2.1,v.2.1.1.2.2),k.1,()),())).bind fun j=>
((bif j.1.2.1 then bif k.2.2.2.2.1 then let n:=(decide (k.2.2.2.1≤(aQ (v.1.2.1-v.1.2.2.1))))
some ((n,v.1.2.1,v.1.2.2.1,v.1.2.2.2.1,v.1.2.2.2.2.1,v.1.1,j.1.1,()),v.2)
else some ((false,v.1.2.1,v.1.2.2.1,v.1.2.2.2.1,v.1.2.2.2.2.1,v.1.1,j.1.1,()),v.2)
else some ((false,v.1.2.1,v.1.2.2.1,v.1.2.2.2.1,v.1.2.2.2.2.1,v.1.1,j.1.1,()),v.2)):Option ((Bool×Int×Int×Y5×Int×Int×Int×Unit)×VN)).bind fun a=>
bif a.1.1 then((bif decide (0≤a.1.2.2.2.2.2.2.1∧a.1.2.2.2.2.2.2.1<a.2.2.2.2.1.length)then
(a.2.2.2.2.1[a.1.2.2.2.2.2.2.1.toNat]?).bind fun o=>
bif o.2.2.2.2.1==false then bif decide (a.2.2.2.2.1.length=a.2.2.2.2.1.length)&&true then
some ((a.1.2.1,a.1.2.2.1,a.1.2.2.2.1,a.1.2.2.2.2.1,a.1.2.2.2.2.2.1,()),a.2)
else none
else(a.2.2.2.2.1[a.1.2.2.2.2.2.2.1.toNat]?).bind fun p=>
bif !p.2.2.2.2.2.1 then bif decide (0≤a.1.2.2.2.2.2.2.1∧a.1.2.2.2.2.2.2.1<(aQ (a.1.2.2.2.2.2.2.1+1))∧((aQ (a.1.2.2.2.2.2.2.1+1)):Int)≤a.2.2.2.2.1.length∧a.2.2.2.2.1.length≤4294967296)then
bif decide (a.2.2.2.2.1.length=a.2.2.2.2.1.length)&&true then
bif decide (a.2.2.2.2.1.length=a.2.2.2.2.1.length)&&true then
some ((a.1.2.1,a.1.2.2.1,a.1.2.2.2.1,a.1.2.2.2.2.1,a.1.2.2.2.2.2.1,()),a.2.1,a.2.2.1,a.2.2.2.1,a.2.2.2.2.1.take a.1.2.2.2.2.2.2.1.toNat++a.2.2.2.2.1.drop (aQ (a.1.2.2.2.2.2.2.1+1)).toNat,())
else none
else none
else none
else(a.2.2.2.2.1[a.1.2.2.2.2.2.2.1.toNat]?).bind fun b=>
((a.2.2.2.2.1.set a.1.2.2.2.2.2.2.1.toNat (b.1,b.2.1,b.2.2.1,b.2.2.2.1,false,b.2.2.2.2.2))[a.1.2.2.2.2.2.2.1.toNat]?).bind fun c=>
(((a.2.2.2.2.1.set a.1.2.2.2.2.2.2.1.toNat (b.1,b.2.1,b.2.2.1,b.2.2.2.1,false,b.2.2.2.2.2)).set a.1.2.2.2.2.2.2.1.toNat (c.1,c.2.1,c.2.2.1,c.2.2.2.1,c.2.2.2.2.1,false,()))[a.1.2.2.2.2.2.2.1.toNat]?).bind fun e=>
((bif a.2.1.1.2.2.2.1 !=(-1)then let m:=(aQ (a.2.1.1.2.2.2.1+a.2.2.1.1.2.2.2.2.2.1))
let q:=(if m>a.1.2.1 then m else a.1.2.1)
some ((q,()),a.2.1,((a.2.2.2.2.1.set a.1.2.2.2.2.2.2.1.toNat (b.1,b.2.1,b.2.2.1,b.2.2.2.1,false,b.2.2.2.2.2)).set a.1.2.2.2.2.2.2.1.toNat (c.1,c.2.1,c.2.2.1,c.2.2.2.1,c.2.2.2.2.1,false,())).set a.1.2.2.2.2.2.2.1.toNat (e.1,e.2.1,a.1.2.1,e.2.2.2),())
else some ((aQ (a.1.2.1+a.2.2.1.1.2.2.2.2.1),()),a.2.1,((a.2.2.2.2.1.set a.1.2.2.2.2.2.2.1.toNat (b.1,b.2.1,b.2.2.1,b.2.2.2.1,false,b.2.2.2.2.2)).set a.1.2.2.2.2.2.2.1.toNat (c.1,c.2.1,c.2.2.1,c.2.2.2.1,c.2.2.2.2.1,false,())).set a.1.2.2.2.2.2.2.1.toNat (e.1,e.2.1,a.1.2.1,e.2.2.2),())):Option MV).bind fun f=>
((bif f.2.1.1.2.2.1 !=(-1)then let r:=(if f.2.1.1.2.2.1<f.1.1 then f.2.1.1.2.2.1 else f.1.1)
some ((r,()),f.2)
else some f):Option MV).bind fun g=>
(MH (g.1,())).bind fun s=>
bif decide (g.2.2.1.length=(((a.2.2.2.2.1.set a.1.2.2.2.2.2.2.1.toNat (b.1,b.2.1,b.2.2.1,b.2.2.2.1,false,b.2.2.2.2.2)).set a.1.2.2.2.2.2.2.1.toNat (c.1,c.2.1,c.2.2.1,c.2.2.2.1,c.2.2.2.2.1,false,())).set a.1.2.2.2.2.2.2.1.toNat (e.1,e.2.1,a.1.2.1,e.2.2.2)).length)&&true then
bif decide (g.2.2.1.length=a.2.2.2.2.1.length)&&true then
some ((a.1.2.1,a.1.2.2.1,a.1.2.2.2.1,a.1.2.2.2.2.1,a.1.2.2.2.2.2.1,()),((g.2.1.1.1,g.2.1.1.2.1,s.1.1,g.2.1.1.2.2.2),()),a.2.2.1,a.2.2.2.1,g.2.2)
else none
else none
else none):Option ((Int×Int×Y5×Int×Int×Unit)×VN)).bind fun d=>
((let t:=(((d.2.2.2.2.1.length:Nat):Int)==0)
bif decide (d.2.2.2.2.1.length=d.2.2.2.2.1.length)&&true then
bif t then some ((),d.2.2.2.2.1,((0,ByteArray.empty,0,0,()),()),((d.2.1.1.1,d.2.1.1.2.1,-1,d.2.1.1.2.2.2),()),())
else some ((),d.2.2.2.2.1,((0,ByteArray.empty,0,0,()),()),d.2.1,())
else none):Option (Unit×(Y5×Co×Co×Unit))).bind fun l=>
bif decide (l.2.1.length=d.2.2.2.2.1.length)&&true then
some (d.1,l.2.2.2.1,d.2.2.1,d.2.2.2.1,l.2.1,())
else none
else some ((a.1.2.1,a.1.2.2.1,a.1.2.2.2.1,a.1.2.2.2.2.1,a.1.2.2.2.2.2.1,()),a.2)):Option ((Int×Int×Y5×Int×Int×Unit)×VN)).bind fun h=>
some (.inl ((aQ (h.1.2.2.2.2.1+1),h.1.1,h.1.2.1,h.1.2.2.1,h.1.2.2.2.1,()),h.2))
else(some (.inr ((),v.2.2.2.1,v.2.1,v.2.2.2.2)))
def Y0(v:((qM×Y8×Int×Int×Unit)×Unit)):Option MV:=
(((m82 ((v.1.1,()),())).bind fun d=>
bif !d.1.1 then some ((true,v.1.2.2),((0,ByteArray.empty,0,0,()),()),(v.1.2.1,()),(v.1.1,()),())
else(Tt ((v.1.2.1,()),())).bind fun e=>
some ((!e.1.1,v.1.2.2),((0,ByteArray.empty,0,0,()),()),(v.1.2.1,()),(v.1.1,()),())):Option (VL×(Co×(Y8×Unit)×Lu×Unit))).bind fun b=>
bif b.1.1 then some ((8,()),((0,ByteArray.empty,0,0,()),()),[],())
else((((EZ ((b.1.2.1,0,8589934592,()),())).bind fun f=>
bif !f.1.1 then some ((true,b.1.2),b.2)
else(EZ ((b.1.2.2.1,0,604800,()),())).bind fun g=>
some ((!g.1.1,b.1.2),b.2)):Option (VL×(Co×(Y8×Unit)×Lu×Unit))).bind fun a=>
bif a.1.1 then some ((1,()),((0,ByteArray.empty,0,0,()),()),[],())
else(O8 a.2.2.2).bind fun c=>
bif a.1.2.2.1==0 then some ((0,()),c.2)
else(aB qj ((0,a.1.2.1,a.1.2.2.1,a.2.2.2.1.1.2.2.1,(a.2.2.2.1.1.2.2.1.length:Int),()),c.2.1,a.2.2.1,a.2.1,c.2.2)).bind fun h=>
some ((0,()),h.2.2))
def afH:Abs.Spec:=⟨0,⟨[0,1,2,3],(.dat Z1 (.dat Z2 pI)),.nil⟩,⟨[8,9],RL,Jk⟩,Y0⟩
def ae0:Nat→Abs.gG
 |0=>.mk (bI [(13,⟨[10,2,5,3,41,8,42,43],aeW,YB⟩),(12,⟨[66,10,2,5,3,41,8,42,43,13],(.dat .bool (.st rZ (.dat aU (.st Xk (.dat aU (.dat D9 (.st LC DC))))))),YB⟩),(3,⟨[25,8,2,5,3,4],ag0,(.box 5 KV (.box 8 Ci EQ))⟩),(1,⟨[15,8,2,5,3,4],ag0,(.box 5 KV (.box 8 Ci EQ))⟩)]) (bI [(15,(⟨[10,2,5,3,41,8,42,43],aeW,YB⟩,none))]) (bI [(9,⟨⟨[43,10,2,5,3,41,8,42],(.dat aU (.st rZ (.dat aU (.st Xk (.dat aU (.dat D9 (.st LC dG))))))),YB⟩,(.one (.exit 1) ⟨[8,10],YN,Yx⟩)⟩)]) (fun
  |14,1=>3
  |13,3=>1
  |_,_=>0)
 |1=>.mk bJ bJ bJ (fun
  |3,3=>2
  |_,_=>0)
 |2=>.mk bJ (bI [(6,(⟨[6,0],(.dat aU Mf),Jk⟩,none)),(4,(⟨[0,6],RL,Jk⟩,none))]) bJ iF
 |3=>.mk bJ (bI [(3,(⟨[2,1],ade,(.arr Z7 false (.box 5 KV (.box 5 ZM .nil)))⟩,none))]) bJ (fun
  |1,1=>4
  |_,_=>0)
 |_=>{}
theorem aeC:dZ 133 afH:=okW ae0 (bG Zu (bG V7 (bG N9 (bG Qv (bG abg (bG WJ eT))))))
def vE(v:aaV):Option (aaV⊕(Ca⊕Cc)):=
bif decide (v.1.1<v.1.2.2.2.1)then Abs.rowAt v.1.2.2.1 v.1.1 fun a _=>
bif a.1.toList==v.1.2.1.toList then some (.inr (.inl (a.2,())))
else some (.inl ((aQ (v.1.1+1),v.1.2),()))
else(some (.inr (.inr ((),()))))
def RO(v:((jh×ByteArray×Unit)×Unit)):Option Ca:=
(aB vE ((0,v.1.2.1,v.1.1,(v.1.1.length:Int),()),())).bind fun a=>
au a (fun b=>(some b)) (fun c=>(some ((ByteArray.empty,()),())))
def afk:Abs.Spec:=⟨0,⟨[0,1],(.dat rW fD),.nil⟩,⟨[4],fD,.nil⟩,RO⟩
def agH:Nat→Abs.gG
 |0=>.mk bJ bJ (bI [(2,⟨⟨[9,1,7,8],(.dat aU (.dat .str RF)),.nil⟩,(.more .ret ⟨[4],fD,.nil⟩ XC)⟩)]) iF
 |_=>{}
theorem abC:dZ 224 afk:=okW agH eT
def uZ(v:R8):Option (R8⊕Ca):=
((bif decide ((v.1.1.size:Int)>0)then bif decide ((0:Int)≤(aQ ((v.1.1.size:Int)-1))∧((aQ ((v.1.1.size:Int)-1)):Int)<v.1.1.size)then
let b:=(((((v.1.1[(aQ ((v.1.1.size:Int)-1)).toNat]?.getD 0).toNat:Nat):Int):Int)==v.1.2.1)
some ((b,v.1.2.1,v.1.1,()),())
else none
else some ((false,v.1.2.1,v.1.1,()),())):Option abb).bind fun a=>
bif a.1.1 then bif decide ((0:Int)≤(aQ ((a.1.2.2.1.size:Int)-1)))then
bif decide (0≤(aQ ((a.1.2.2.1.size:Int)-1)).toNat∧(aQ ((a.1.2.2.1.size:Int)-1)).toNat≤a.1.2.2.1.size)then
let c:=(a.1.2.2.1.extract 0 (aQ ((a.1.2.2.1.size:Int)-1)).toNat)
some (.inl ((c,a.1.2.1,()),()))
else none
else none
else(some (.inr (a.1.2.2,())))
def ZV(v:R8):Option Ca:=
(aB uZ v).bind fun a=>
some a
def ae4:Abs.Spec:=⟨0,⟨[0,1],Zl,.nil⟩,⟨[4],fD,.nil⟩,ZV⟩
def agK:Nat→Abs.gG
 |0=>.mk (bI [(1,⟨[16,1,0],(.dat .bool (.dat (.int .u8) fD)),.nil⟩)]) bJ (bI [(1,⟨⟨[0,1],Zl,.nil⟩,abK⟩)]) iF
 |_=>{}
theorem aex:dZ 237 ae4:=okW agK eT
def tK(v:R8):Option (R8⊕Ca):=
((bif decide ((v.1.1.size:Int)>0)then bif decide ((0:Int)≤0∧(0:Int)<v.1.1.size)then
let b:=(((((v.1.1[0]?.getD 0).toNat:Nat):Int):Int)==v.1.2.1)
some ((b,v.1.2.1,v.1.1,()),())
else none
else some ((false,v.1.2.1,v.1.1,()),())):Option abb).bind fun a=>
bif a.1.1 then bif decide (1≤a.1.2.2.1.size∧a.1.2.2.1.size≤a.1.2.2.1.size)then
some (.inl ((a.1.2.2.1.extract 1 a.1.2.2.1.size,a.1.2.1,()),()))
else none
else(some (.inr (a.1.2.2,())))
def aae(v:R8):Option Ca:=
(aB tK v).bind fun a=>
some a
def aeB:Abs.Spec:=⟨0,⟨[0,1],Zl,.nil⟩,⟨[4],fD,.nil⟩,aae⟩
def agC:Nat→Abs.gG
 |0=>.mk (bI [(1,⟨[13,1,0],(.dat .bool (.dat (.int .u8) fD)),.nil⟩)]) bJ (bI [(1,⟨⟨[0,1],Zl,.nil⟩,abK⟩)]) iF
 |_=>{}
theorem agd:dZ 236 aeB:=okW agC eT
def Uo(v:(Qz×Unit)):Option Ca:=
((bif v.1.1.toList==ByteArray.empty.toList then some ((true,v.1),())
else some ((v.1.2.1.toList==ByteArray.empty.toList,v.1),())):Option abk).bind fun a=>
bif a.1.1 then some ((a.1.2.1,()),())
else(((bif (a.1.2.2.1.size:Int)==1 then bif decide ((0:Int)≤0∧(0:Int)<a.1.2.2.1.size)then
let c:=(decide (((((a.1.2.2.1[0]?.getD 0).toNat:Nat):Int):Int)<128))
some ((c,a.1.2.2.1,a.1.2.1,()),())
else none
else some ((false,a.1.2.2.1,a.1.2.1,()),())):Option abk).bind fun b=>
bif b.1.1 then bif decide ((0:Int)≤0∧(0:Int)<b.1.2.1.size)then
(ZV ((b.1.2.2.1,(((b.1.2.1[0]?.getD 0).toNat:Nat):Int),()),())).bind fun d=>
bif decide ((0:Int)≤0∧(0:Int)<b.1.2.1.size)then
(aae ((d.1.1,(((b.1.2.1[0]?.getD 0).toNat:Nat):Int),()),())).bind fun e=>
some e
else none
else none
else none)
def agE:Abs.Spec:=⟨0,⟨[0,1],NJ,.nil⟩,⟨[4],fD,.nil⟩,Uo⟩
def ahQ:Nat→Abs.gG
 |0=>.mk (bI [(3,⟨[21,1,0],(.dat .bool NJ),.nil⟩),(1,⟨[12,0,1],(.dat .bool NJ),.nil⟩)]) bJ bJ iF
 |_=>{}
theorem afK:dZ 231 agE:=okW ahQ (bG aex (bG agd eT))
def gI(v:afZ):Option (afZ⊕(iG⊕TT)):=
let c:=(decide (v.1.2.1<(v.1.2.2.2.2.1.size:Int)))
bif c then((let d:=(decide (v.1.1<(v.1.2.2.2.2.2.1.size:Int)))
bif d then bif decide (0≤v.1.1∧v.1.1<v.1.2.2.2.2.2.1.size)then
let e:=(((((v.1.2.2.2.2.2.1[v.1.1.toNat]?.getD 0).toNat:Nat):Int):Int)==42)
some ((e,v.1.2.1,v.1.2.2.2.2.1,v.1.2.2.2.2.2.1,v.1.1,v.1.2.2.1,v.1.2.2.2.1,()),())
else none
else some ((false,v.1.2.1,v.1.2.2.2.2.1,v.1.2.2.2.2.2.1,v.1.1,v.1.2.2.1,v.1.2.2.2.1,()),())):Option ((Bool×Int×ByteArray×ByteArray×Int×Int×Int×Unit)×Unit)).bind fun a=>
bif a.1.1 then some (.inl ((aQ (a.1.2.2.2.2.1+1),a.1.2.1,a.1.2.2.2.2.1,a.1.2.1,a.1.2.2.1,a.1.2.2.2.1,()),()))
else((let f:=(decide (a.1.2.2.2.2.1<(a.1.2.2.2.1.size:Int)))
bif f then bif decide (0≤a.1.2.2.2.2.1∧a.1.2.2.2.2.1<a.1.2.2.2.1.size)then
let g:=(((((a.1.2.2.2.1[a.1.2.2.2.2.1.toNat]?.getD 0).toNat:Nat):Int):Int)==63)
bif g then some ((true,a.1.2.2.2.2.2.1,a.1.2.2.2.2.2.2.1,a.1.2.2.1,a.1.2.2.2.1,a.1.2.1,a.1.2.2.2.2.1,()),())
else bif decide (0≤a.1.2.2.2.2.1∧a.1.2.2.2.2.1<a.1.2.2.2.1.size)then
bif decide (0≤a.1.2.1∧a.1.2.1<a.1.2.2.1.size)then
let h:=(((((a.1.2.2.2.1[a.1.2.2.2.2.1.toNat]?.getD 0).toNat:Nat):Int):Int)==(((a.1.2.2.1[a.1.2.1.toNat]?.getD 0).toNat:Nat):Int))
some ((h,a.1.2.2.2.2.2.1,a.1.2.2.2.2.2.2.1,a.1.2.2.1,a.1.2.2.2.1,a.1.2.1,a.1.2.2.2.2.1,()),())
else none
else none
else none
else some ((false,a.1.2.2.2.2.2.1,a.1.2.2.2.2.2.2.1,a.1.2.2.1,a.1.2.2.2.1,a.1.2.1,a.1.2.2.2.2.1,()),())):Option ((Bool×Int×Int×ByteArray×ByteArray×Int×Int×Unit)×Unit)).bind fun b=>
bif b.1.1 then some (.inl ((aQ (b.1.2.2.2.2.2.2.1+1),aQ (b.1.2.2.2.2.2.1+1),b.1.2.1,b.1.2.2.1,b.1.2.2.2.1,b.1.2.2.2.2.1,()),()))
else bif decide (b.1.2.1≥0)then some (.inl ((aQ (b.1.2.1+1),aQ (b.1.2.2.1+1),b.1.2.1,aQ (b.1.2.2.1+1),b.1.2.2.2.1,b.1.2.2.2.2.1,()),()))
else some (.inr (.inl ((false,()),())))
else(some (.inr (.inr ((v.1.1,v.1.2.2.2.2.2),()))))
def Vn(v:(Qz×Unit)):Option iG:=
(aB gI ((0,0,-1,0,v.1.2.1,v.1.1,()),())).bind fun b=>
au b (fun c=>(some c)) (fun a=>(bif decide ((0:Int)≤a.1.1)then
bif decide (a.1.1.toNat≤a.1.2.1.size∧a.1.2.1.size≤a.1.2.1.size)then
(Uo ((a.1.2.1.extract a.1.1.toNat a.1.2.1.size,bs [42],()),())).bind fun d=>
some ((d.1.1.toList==ByteArray.empty.toList,()),())
else none
else none))
def agv:Abs.Spec:=⟨0,⟨[0,1],NJ,.nil⟩,⟨[4],gP,.nil⟩,Vn⟩
def agD:Nat→Abs.gG
 |0=>.mk (bI [(7,⟨[28,7,8,1,0,6,5],(.dat .bool (.dat aU (.dat aU (.dat .str (.dat .str pI))))),.nil⟩),(4,⟨[13,6,1,0,5,7,8],(.dat .bool (.dat aU (.dat .str (.dat .str DC)))),.nil⟩)]) bJ (bI [(2,⟨⟨[5,6,7,8,1,0],(.dat aU (.dat aU (.dat aU (.dat aU NJ)))),.nil⟩,(.more .ret ⟨[4],gP,.nil⟩ (.one (.exit 0) ⟨[5,0],Dw,.nil⟩))⟩)]) iF
 |_=>{}
theorem ahs:dZ 225 agv:=okW agD (bG afK eT)
def aax(v:((Ni×jh×Unit)×Unit)):Option iG:=
(RO ((v.1.2.1,v.1.1.1,()),())).bind fun a=>
bif v.1.1.2.1==0 then some ((a.1.1.toList==v.1.1.2.2.1.toList,()),())
else(bif v.1.1.2.1==1 then some ((!(a.1.1.toList==v.1.1.2.2.1.toList),()),())
else bif v.1.1.2.1==2 then(Vn ((v.1.1.2.2.1,a.1),())).bind fun b=>
some b
else bif v.1.1.2.1==3 then(Vn ((v.1.1.2.2.1,a.1),())).bind fun c=>
some ((!c.1.1,()),())
else some ((false,()),()))
def agj:Abs.Spec:=⟨0,⟨[0,1],(.dat JQ oh),.nil⟩,⟨[4],gP,.nil⟩,aax⟩
theorem aeO:dZ 206 agj:=okW yS (bG abC (bG ahs eT))
def qL(v:((Int×Y3×Int×Unit)×M7)):Option (((Int×Y3×Int×Unit)×M7)⊕((lJ×M7)⊕(Unit×M7))):=
bif decide (v.1.1<v.1.2.2.1)then Abs.rowAt v.1.2.1 v.1.1 fun a _=>
(aax ((a,v.2.1),())).bind fun b=>
bif !b.1.1 then some (.inr (.inl ((v.1.1,()),v.2)))
else some (.inl ((aQ (v.1.1+1),v.1.2),v.2))
else(some (.inr (.inr ((),v.2))))
def NE(v:(Qy×Unit)):Option iG:=
(((aB qL ((0,v.1.1,(v.1.1.length:Int),()),v.1.2,())).bind fun b=>
au b (fun a=>(some ((decide (a.1.1≥0),()),a.2))) (fun c=>(some ((false,()),c.2)))):Option (qY×M7)).bind fun d=>
some ((!d.1.1,()),())
def abF:Abs.Spec:=⟨0,⟨[0,1],(.dat (.row JQ) oh),.nil⟩,⟨[4],gP,.nil⟩,NE⟩
def aeV:Nat→Abs.gG
 |0=>.mk bJ bJ bJ (fun
  |1,2=>1
  |_,_=>0)
 |1=>.mk (bI [(1,⟨[4],gP,MI⟩)]) bJ bJ (fun
  |1,2=>2
  |_,_=>0)
 |2=>.mk bJ bJ (bI [(2,⟨⟨[8,0,1,7],(.dat aU (.dat (.row JQ) (.st (.clo 205 [((0,0),1,0,0)]) dG))),MI⟩,(.more .ret ⟨[4],dG,MI⟩ (.one (.exit 0) ⟨[],.nil,MI⟩))⟩)]) (fun
  |4,5=>3
  |_,_=>0)
 |_=>{}
theorem Xb:dZ 169 abF:=okW aeV (bG aeO eT)
def zb(v:afv):Option (afv⊕(Mh×Unit)):=
bif decide (v.1.1<v.1.2.2.2.2.2.2.1)then((Abs.rowAt v.1.2.2.2.2.2.1 v.1.1 fun b _=>
((bif decide (b.2.1≤v.1.2.2.2.2.1)then bif decide (v.1.2.2.2.2.1<b.2.2.1)then(NE ((b.2.2.2.2.1,v.1.2.2.2.1,()),())).bind fun d=>
bif d.1.1 then bif !v.1.2.2.1 then some ((true,v.1.2.2.2.1,v.1.2.2.2.2.1,v.1.2.2.2.2.2.1,v.1.2.2.2.2.2.2.1,v.1.1,v.1.2.1,v.1.2.2.1,()),(b,()),())
else some ((decide (b.1<v.1.2.1),v.1.2.2.2.1,v.1.2.2.2.2.1,v.1.2.2.2.2.2.1,v.1.2.2.2.2.2.2.1,v.1.1,v.1.2.1,v.1.2.2.1,()),(b,()),())
else some ((false,v.1.2.2.2.1,v.1.2.2.2.2.1,v.1.2.2.2.2.2.1,v.1.2.2.2.2.2.2.1,v.1.1,v.1.2.1,v.1.2.2.1,()),(b,()),())
else some ((false,v.1.2.2.2.1,v.1.2.2.2.2.1,v.1.2.2.2.2.2.1,v.1.2.2.2.2.2.2.1,v.1.1,v.1.2.1,v.1.2.2.1,()),(b,()),())
else some ((false,v.1.2.2.2.1,v.1.2.2.2.2.1,v.1.2.2.2.2.2.1,v.1.2.2.2.2.2.2.1,v.1.1,v.1.2.1,v.1.2.2.1,()),(b,()),())):Option ((Bool×jh×Int×Bb×Int×Int×Int×Bool×Unit)×Xw)).bind fun a=>
bif a.1.1 then some ((a.2.1.1.1,true,a.1.2.1,a.1.2.2.1,a.1.2.2.2.1,a.1.2.2.2.2.1,a.1.2.2.2.2.2.1,()),())
else some ((a.1.2.2.2.2.2.2.1,a.1.2.2.2.2.2.2.2.1,a.1.2.1,a.1.2.2.1,a.1.2.2.2.1,a.1.2.2.2.2.1,a.1.2.2.2.2.2.1,()),())):Option ((Int×Bool×jh×Int×Bb×Int×Int×Unit)×Unit)).bind fun c=>
some (.inl ((aQ (c.1.2.2.2.2.2.2.1+1),c.1.1,c.1.2.1,c.1.2.2.1,c.1.2.2.2.1,c.1.2.2.2.2.1,c.1.2.2.2.2.2.1,()),()))
else(some (.inr ((v.1.2.2.1,v.1.2.1,()),())))
def XM(v:((Bb×jh×Int×Unit)×Unit)):Option ZO:=
(aB zb ((0,0,false,v.1.2.1,v.1.2.2.1,v.1.1,(v.1.1.length:Int),()),())).bind fun a=>
some ((a.1.2.1,a.1.1,()),())
def ahf:Abs.Spec:=⟨0,⟨[0,1,2],(.dat Gz RF),.nil⟩,⟨[6,7],JZ,.nil⟩,XM⟩
def afC:Nat→Abs.gG
 |0=>.mk (bI [(4,⟨[41,1,2,10,11,12,9,6,7],(.dat .bool (.dat rW (.dat aU (.dat Gz (.dat aU (.dat aU (.st rZ JZ))))))),ad4⟩)]) (bI [(6,(⟨[6,7,1,2,10,11,12],(.dat aU (.dat .bool (.dat rW (.dat aU (.dat Gz pI))))),.nil⟩,none))]) (bI [(2,⟨⟨[12,6,7,1,2,10,11],(.dat aU (.dat aU (.dat .bool (.dat rW (.dat aU (.dat Gz dG)))))),.nil⟩,(.one (.exit 0) ⟨[7,6],YE,.nil⟩)⟩)]) iF
 |_=>{}
theorem ahB:dZ 214 ahf:=okW afC (bG Xb eT)
def pW(v:ab1):Option (ab1⊕((lJ×Zv)⊕(Unit×Zv))):=
bif decide (v.1.1<v.1.2.2.1)then Abs.rowAt v.1.2.1 v.1.1 fun a _=>
(RO ((v.2.1.1,a,()),())).bind fun b=>
(RO ((v.2.2.1.1,a,()),())).bind fun c=>
bif !(b.1.1.toList==c.1.1.toList)then some (.inr (.inl ((v.1.1,()),v.2)))
else some (.inl ((aQ (v.1.1+1),v.1.2),v.2))
else(some (.inr (.inr ((),v.2))))
def XO(v:((jh×jh×List ByteArray×Unit)×Unit)):Option iG:=
(((aB pW ((0,v.1.2.2.1,(v.1.2.2.1.length:Int),()),(v.1.1,()),(v.1.2.1,()),())).bind fun b=>
au b (fun a=>(some ((decide (a.1.1≥0),()),a.2))) (fun c=>(some ((false,()),c.2)))):Option (qY×Zv)).bind fun d=>
some ((!d.1.1,()),())
def afN:Abs.Spec:=⟨0,⟨[0,1,2],(.dat rW (.dat rW KQ)),.nil⟩,⟨[6],gP,.nil⟩,XO⟩
def agU:Nat→Abs.gG
 |0=>.mk bJ bJ bJ (fun
  |1,2=>1
  |_,_=>0)
 |1=>.mk (bI [(1,⟨[4],gP,(.box 1 oh MI)⟩)]) bJ bJ (fun
  |1,2=>2
  |_,_=>0)
 |2=>.mk bJ bJ (bI [(2,⟨⟨[8,0,1,7],(.dat aU (.dat DZ (.st (.clo 235 [((0,0),1,0,0),((1,0),1,0,0)]) dG))),(.box 1 oh MI)⟩,(.more .ret ⟨[4],dG,(.box 1 oh MI)⟩ (.one (.exit 0) ⟨[],.nil,(.box 1 oh MI)⟩))⟩)]) (fun
  |4,5=>3
  |_,_=>0)
 |_=>{}
theorem agL:dZ 229 afN:=okW agU (bG abC eT)
def qi(v:ahc):Option (ahc⊕(iG⊕af4)):=
bif decide (v.1.1<v.1.2.2.2.2.2.2.2.1)then Abs.rowAt v.1.2.2.1 v.1.1 fun b _=>
(((NE ((v.2.1.1.1,b,()),())).bind fun c=>
bif c.1.1 then(NE ((v.2.1.1.2.1,b,()),())).bind fun d=>
bif !d.1.1 then(XO ((v.1.2.1,b,v.2.1.1.2.2),())).bind fun e=>
some ((e.1.1,v.1.2.1,v.1.2.2.1,v.1.2.2.2.1,v.1.2.2.2.2.1,v.1.2.2.2.2.2.1,v.1.2.2.2.2.2.2.1,v.1.2.2.2.2.2.2.2.1,v.1.1,()),v.2)
else some ((false,v.1.2.1,v.1.2.2.1,v.1.2.2.2.1,v.1.2.2.2.2.1,v.1.2.2.2.2.2.1,v.1.2.2.2.2.2.2.1,v.1.2.2.2.2.2.2.2.1,v.1.1,()),v.2)
else some ((false,v.1.2.1,v.1.2.2.1,v.1.2.2.2.1,v.1.2.2.2.2.1,v.1.2.2.2.2.2.1,v.1.2.2.2.2.2.2.1,v.1.2.2.2.2.2.2.2.1,v.1.1,()),v.2)):Option ((Bool×jh×List jh×List jh×GN×Int×Int×Int×Int×Unit)×QO)).bind fun a=>
bif a.1.1 then some (.inr (.inl ((true,()),())))
else some (.inl ((aQ (a.1.2.2.2.2.2.2.2.2.1+1),a.1.2.1,a.1.2.2.1,a.1.2.2.2.1,a.1.2.2.2.2.1,a.1.2.2.2.2.2.1,a.1.2.2.2.2.2.2.1,a.1.2.2.2.2.2.2.2.1,()),a.2))
else(some (.inr (.inr ((v.1.2.1,v.1.2.2.2.1,v.1.2.2.2.2.1,v.1.2.2.2.2.2.1,v.1.2.2.2.2.2.2.1,()),()))))
def vT(v:ab4):Option (ab4⊕(iG⊕Cc)):=
bif decide (v.1.1<v.1.2.2.2.2.1)then((Abs.rowAt v.1.2.2.2.1 v.1.1 fun b _=>
(NE ((b.2.1,v.1.2.1,()),())).bind fun c=>
bif !c.1.1 then some (.inl ((v.1.2.1,v.1.2.2.1,v.1.2.2.2.1,v.1.2.2.2.2.1,v.1.1,()),()))
else(aB qi ((0,v.1.2.1,v.1.2.2.1,v.1.2.2.1,v.1.2.2.2.1,v.1.2.2.2.2.1,v.1.1,(v.1.2.2.1.length:Int),()),(b,()),())).bind fun d=>
au d (fun e=>(some (.inr e))) (fun f=>(some (.inl f)))):Option (af4⊕iG)).bind fun g=>
au g (fun a=>(some (.inl ((aQ (a.1.2.2.2.2.1+1),a.1.1,a.1.2.1,a.1.2.2.1,a.1.2.2.2.1,()),())))) (fun h=>(some (.inr (.inl h))))
else(some (.inr (.inr ((),()))))
def ZK(v:((GN×jh×List jh×Unit)×Unit)):Option iG:=
(aB vT ((0,v.1.2.1,v.1.2.2.1,v.1.1,(v.1.1.length:Int),()),())).bind fun a=>
au a (fun b=>(some b)) (fun c=>(some ((false,()),())))
def ahG:Abs.Spec:=⟨0,⟨[0,1,2],(.dat Gn (.dat rW (.dat Cb .nil))),.nil⟩,⟨[6],gP,.nil⟩,ZK⟩
def ah5:Nat→Abs.gG
 |0=>.mk (bI [(8,⟨[45,8,1,22,2,11,12,13,23,24],(.dat .bool (.st mH (.dat rW (.dat Cb (.dat Cb (.dat Gn SL)))))),Yr⟩)]) (bI [(11,(⟨[1,2,11,12,13],(.dat rW (.dat Cb (.dat Gn pI))),.nil⟩,some (.one .ret ⟨[6],gP,.nil⟩)))]) (bI [(2,⟨⟨[13,1,2,11,12],(.dat aU (.dat rW (.dat Cb (.dat Gn dG)))),.nil⟩,(.more .ret ⟨[6],gP,.nil⟩ XC)⟩),(6,⟨⟨[24,8,1,22,2,11,12,13,23],(.dat aU (.st mH (.dat rW (.dat Cb (.dat Cb (.dat Gn DC)))))),Yr⟩,(.more .ret ⟨[6],gP,.nil⟩ (.one (.exit 2) ⟨[1,2,11,12,13],(.dat rW (.dat Cb (.dat Gn pI))),.nil⟩))⟩)]) iF
 |_=>{}
theorem agz:dZ 215 ahG:=okW ah5 (bG Xb (bG agL eT))
def aal(v:((GN×Bb×jh×List jh×Int×Unit)×Unit)):Option iG:=
(XM ((v.1.2.1,v.1.2.2.1,v.1.2.2.2.2),())).bind fun a=>
((bif a.1.2.1 then some ((true,()),())
else(ZK ((v.1.1,v.1.2.2.1,v.1.2.2.2.1,()),())).bind fun b=>
some b):Option iG).bind fun c=>
some c
def afR:Abs.Spec:=⟨0,⟨[0,1,2,3,4],(.dat Gn (.dat Gz (.dat rW (.dat Cb dG)))),.nil⟩,⟨[10],gP,.nil⟩,aal⟩
def afn:Nat→Abs.gG
 |0=>.mk (bI [(2,⟨[10],gP,.nil⟩)]) bJ bJ iF
 |_=>{}
theorem ahK:dZ 185 afR:=okW afn (bG ahB (bG agz eT))
def zA(v:afl):Option (afl⊕(ko⊕Cc)):=
bif decide (v.1.1<v.1.2.2.2.1)then Abs.rowAt v.1.2.1 v.1.1 fun a _=>
bif v.1.2.2.1.toList==a.toList then some (.inr (.inl ((v.1.1,()),())))
else some (.inl ((aQ (v.1.1+1),v.1.2),()))
else(some (.inr (.inr ((),()))))
def aag(v:abe):Option ko:=
(aB zA ((0,v.1.1,v.1.2.1,(v.1.1.length:Int),()),())).bind fun a=>
au a (fun b=>(some b)) (fun c=>(some ((-1,()),())))
def ahN:Abs.Spec:=⟨0,⟨[0,1],(.dat DZ fD),.nil⟩,⟨[4],dG,.nil⟩,aag⟩
def afQ:Nat→Abs.gG
 |0=>.mk bJ bJ (bI [(2,⟨⟨[8,0,1,7],(.dat aU (.dat DZ OQ)),.nil⟩,Ro5⟩)]) iF
 |_=>{}
theorem aeJ:dZ 211 ahN:=okW afQ eT
def Jt(v:abe):Option iG:=
(aag v).bind fun a=>
some ((decide (a.1.1≥0),()),())
def ah8:Abs.Spec:=⟨0,⟨[0,1],(.dat DZ fD),.nil⟩,⟨[4],gP,.nil⟩,Jt⟩
theorem abI:dZ 172 ah8:=okW yS (bG aeJ eT)
def acO(v:Xh):Option iG:=
some ((!v.1.1.2.2.2.2.2.1,()),())
def aff:Abs.Spec:=⟨0,⟨[0],(.dat Z7 .nil),.nil⟩,⟨[2],gP,.nil⟩,acO⟩
theorem ahv:dZ 184 aff:=okW yS eT
def tO(v:afU):Option (afU⊕(Mh×ac7)):=
bif decide (v.1.1<v.1.2.2.2.2.1)then((bif decide (0≤v.1.1∧v.1.1<v.2.1.length)then
(v.2.1[v.1.1.toNat]?).bind fun a=>
(Jt ((v.1.2.2.1,a.1,()),())).bind fun c=>
bif c.1.1 then some ((v.1.2.1,v.1.2.2.1,v.1.2.2.2.1,v.1.2.2.2.2.1,v.1.1,()),v.2)
else bif a.2.2.2.2.1 then bif decide (v.2.2.2.2.2.2.1.length+ [a.1].length≤4294967296)then
((bif v.1.2.1 then some ((true,v.1.2.2.1,v.1.2.2.2.1,v.1.2.2.2.2.1,v.1.1,()),v.2.1,v.2.2.1,v.2.2.2.1,v.2.2.2.2.1,v.2.2.2.2.2.1,v.2.2.2.2.2.2.1++ [a.1],v.2.2.2.2.2.2.2)
else some ((!a.2.2.2.2.2.1,v.1.2.2.1,v.1.2.2.2.1,v.1.2.2.2.2.1,v.1.1,()),v.2.1,v.2.2.1,v.2.2.2.1,v.2.2.2.2.1,v.2.2.2.2.2.1,v.2.2.2.2.2.2.1++ [a.1],v.2.2.2.2.2.2.2)):Option ae1).bind fun d=>
some d
else none
else bif decide (v.2.2.2.2.2.2.2.1.length+ [a.1].length≤4294967296)then
some ((v.1.2.1,v.1.2.2.1,v.1.2.2.2.1,v.1.2.2.2.2.1,v.1.1,()),v.2.1,v.2.2.1,v.2.2.2.1,v.2.2.2.2.1,v.2.2.2.2.2.1,v.2.2.2.2.2.2.1,v.2.2.2.2.2.2.2.1++ [a.1],())
else none
else none):Option ae1).bind fun b=>
some (.inl ((aQ (b.1.2.2.2.2.1+1),b.1.1,b.1.2.1,b.1.2.2.1,b.1.2.2.2.1,()),b.2))
else(some (.inr ((v.1.2.1,v.1.2.2.2.1,()),v.2.1,v.2.2.2.1,v.2.2.1,v.2.2.2.2)))
def jH(v:(CF×XB)):Option ((CF×XB)⊕((lJ×XB)⊕(Unit×XB))):=
bif decide (v.1.1<v.1.2.1)then bif decide (0≤v.1.1∧v.1.1<v.2.1.length)then
(v.2.1[v.1.1.toNat]?).bind fun a=>
(Jt ((v.2.2.2.2.1,a.1,()),())).bind fun b=>
bif decide (v.2.2.2.1.length=v.2.2.2.1.length)&&(decide (v.2.2.2.2.1.length=v.2.2.2.2.1.length)&&true)then
bif b.1.1 then some (.inr (.inl ((v.1.1,()),v.2)))
else some (.inl ((aQ (v.1.1+1),v.1.2),v.2))
else none
else none
else(some (.inr (.inr ((),v.2))))
def oo(v:(CF×XB)):Option ((CF×XB)⊕(lJ×XB)):=
let c:=(decide (v.1.1<((v.2.1.length:Nat):Int)))
bif c then((bif decide (0≤v.1.1∧v.1.1<v.2.1.length)then
(v.2.1[v.1.1.toNat]?).bind fun b=>
(Jt ((v.2.2.2.2.1,b.1,()),())).bind fun d=>
bif decide (v.2.2.2.1.length=v.2.2.2.1.length)&&(decide (v.2.2.2.2.1.length=v.2.2.2.2.1.length)&&true)then
bif !d.1.1 then bif decide (0≤v.1.2.1∧v.1.2.1<v.2.1.length)then
bif decide (v.1.2.1.toNat<v.2.1.length)then
some ((aQ (v.1.2.1+1),v.1.1,()),v.2.1.set v.1.2.1.toNat b,v.2.2)
else none
else none
else some ((v.1.2.1,v.1.1,()),v.2)
else none
else none):Option (CF×XB)).bind fun a=>
some (.inl ((aQ (a.1.2.1+1),a.1.1,()),a.2))
else(some (.inr (v.1.2,v.2)))
def qg(v:ab9):Option (ab9⊕(Mh×adB)):=
bif decide (v.1.1<v.1.2.2.2.2.1)then bif decide (0≤v.1.1∧v.1.1<v.1.2.1.2)then
(v.2.2.2.1[(v.1.2.1.1+v.1.1.toNat)]?).bind fun d=>
((bif d.2.2.2.2.2.1 then bif decide (0≤v.1.1∧v.1.1<v.2.2.1.1.2.2.1.2)then
(v.2.2.2.1[(v.2.2.1.1.2.2.1.1+v.1.1.toNat)]?).bind fun b=>
some ((v.1.2.1,v.1.2.2.1,v.1.2.2.2.1,v.1.2.2.2.2.1,v.1.1,()),v.2.1,v.2.2.1,v.2.2.2.1.set (v.2.2.1.1.2.2.1.1+v.1.1.toNat) (b.1,b.2.1,b.2.2.1,b.2.2.2.1,b.2.2.2.2.1,true,()),v.2.2.2.2)
else none
else(Jt ((v.2.2.2.2.2.2.2.1,d.1,()),())).bind fun e=>
bif decide (0≤v.1.1∧v.1.1<v.2.2.1.1.2.2.1.2)then
(v.2.2.2.1[(v.2.2.1.1.2.2.1.1+v.1.1.toNat)]?).bind fun c=>
some ((v.1.2.1,v.1.2.2.1,v.1.2.2.2.1,v.1.2.2.2.2.1,v.1.1,()),v.2.1,v.2.2.1,v.2.2.2.1.set (v.2.2.1.1.2.2.1.1+v.1.1.toNat) (c.1,c.2.1,c.2.2.1,c.2.2.2.1,c.2.2.2.2.1,e.1),v.2.2.2.2)
else none):Option (((Nat×Nat)×Bool×Int×Int×Int×Unit)×aeN)).bind fun a=>
some (.inl ((aQ (a.1.2.2.2.2.1+1),a.1.1,a.1.2.1,a.1.2.2.1,a.1.2.2.2.1,()),a.2))
else none
else(some (.inr ((v.1.2.2.1,v.1.2.2.2.1,()),v.2.2.2.2.1,v.2.2.2.2.2.1,v.2.1,v.2.2.1,v.2.2.2.2.2.2.1,v.2.2.2.2.2.2.2.1,v.2.2.2.2.2.2.2.2.1,v.2.2.2.1,())))
def tH(v:YR):Option (YR⊕(ko⊕Cc)):=
bif decide (v.1.1<v.1.2.2.1)then Abs.rowAt v.1.2.1 v.1.1 fun a _=>
(acO ((a,()),())).bind fun b=>
bif b.1.1 then some (.inr (.inl ((v.1.1,()),())))
else some (.inl ((aQ (v.1.1+1),v.1.2),()))
else(some (.inr (.inr ((),()))))
def Y7(v:aiq):Option (Mh×(Yq4×Oe×Y5×List ByteArray×List ByteArray×Unit)):=
(((m82 ((v.1.1,()),())).bind fun s=>
bif !s.1.1 then some ((true,v.1.2.2),((0,ByteArray.empty,0,0,()),()),((0,0,0,ByteArray.empty,()),()),(v.1.1,()),(v.1.2.1,()),())
else(Tt ((v.1.2.1,()),())).bind fun t=>
some ((!t.1.1,v.1.2.2),((0,ByteArray.empty,0,0,()),()),((0,0,0,ByteArray.empty,()),()),(v.1.1,()),(v.1.2.1,()),())):Option ((Bool×Int×List ByteArray×Unit)×(Co×Oe×Lu×(Y8×Unit)×Unit))).bind fun h=>
bif h.1.1 then some ((false,8,()),((0,ByteArray.empty,(0,0),0,0,()),()),((0,0,0,ByteArray.empty,()),()),[],[],[],())
else((EZ ((h.1.2.1,0,8589934592,()),())).bind fun u=>
bif !u.1.1 then some ((false,1,()),((0,ByteArray.empty,(0,0),0,0,()),()),((0,0,0,ByteArray.empty,()),()),[],[],[],())
else(O8 (h.2.2.2.1,())).bind fun m=>
((bif m.2.1.1.2.2.1==(-1)then some ((true,h.1.2),h.2.1,h.2.2.1,m.2.1,h.2.2.2.2.1,m.2.2)
else some ((decide (m.2.1.1.2.2.1>h.1.2.1),h.1.2),h.2.1,h.2.2.1,m.2.1,h.2.2.2.2.1,m.2.2)):Option ((Bool×Int×List ByteArray×Unit)×(Co×Oe×Co×(Y8×Unit)×Y5×Unit))).bind fun a=>
bif a.1.1 then some ((false,0,()),((a.2.2.2.1.1.1,a.2.2.2.1.1.2.1,(0,a.2.2.2.2.2.1.length),a.2.2.2.1.1.2.2),()),((0,0,0,ByteArray.empty,()),()),a.2.2.2.2.2.1,[],[],())
else(aB tO ((0,false,a.1.2.2.1,a.1.2.1,((a.2.2.2.2.2.1.length:Nat):Int),()),a.2.2.2.2.2.1,((a.1.2.1,a.2.2.2.1.1.1,a.2.2.2.2.1.1.2.2.1,a.2.2.2.1.1.2.1,()),()),((0,0,0,ByteArray.empty,()),()),a.2.2.2.2.1,a.2.2.2.1,[],[],())).bind fun e=>
((let w:=(decide (((e.2.2.2.2.2.2.1.length:Nat):Int)>0))
bif w then bif e.2.2.2.2.2.1.1.2.2.2.1 !=(-1)then let x:=(aQ (e.2.2.2.2.2.1.1.2.2.2.1+e.2.2.2.2.1.1.2.2.2.2.2.2.1))
some ((decide (x≤e.1.2.1),e.1.1,()),e.2.1,e.2.2.1,e.2.2.2.1,e.2.2.2.2.2.2)
else some ((false,e.1.1,()),e.2.1,e.2.2.1,e.2.2.2.1,e.2.2.2.2.2.2)
else some ((false,e.1.1,()),e.2.1,e.2.2.1,e.2.2.2.1,e.2.2.2.2.2.2)):Option ((Bool×Bool×Unit)×(Y5×Oe×Oe×List ByteArray×List ByteArray×Unit))).bind fun l=>
((bif l.1.2.1 then some ((true,()),l.2.1,l.2.2.2)
else bif l.1.1 then some ((true,()),l.2.1,l.2.2.2)
else let y:=(decide (((l.2.2.2.2.2.1.length:Nat):Int)>0))
some ((y,()),l.2.1,l.2.2.2)):Option (qY×XB)).bind fun d=>
bif decide (d.2.1.length=a.2.2.2.2.2.1.length)&&true then
((bif d.1.1 then(((((aB jH ((0,((d.2.1.length:Nat):Int),()),d.2)).bind fun z=>
au z (fun n=>(bif decide (n.2.1.length=d.2.1.length)&&(decide (n.2.2.2.1.length=d.2.2.2.1.length)&&(decide (n.2.2.2.2.1.length=d.2.2.2.2.1.length)&&true))then
some n
else none)) (fun o=>(bif decide (o.2.1.length=d.2.1.length)&&(decide (o.2.2.2.1.length=d.2.2.2.1.length)&&(decide (o.2.2.2.2.1.length=d.2.2.2.2.1.length)&&true))then
some ((-1,()),o.2)
else none))):Option (lJ×XB)).bind fun j=>
bif j.1.1==(-1)then bif decide (j.2.1.length=d.2.1.length)&&(decide (j.2.2.2.1.length=d.2.2.2.1.length)&&(decide (j.2.2.2.2.1.length=d.2.2.2.2.1.length)&&true))then
some ((d.1.1,a.1.2.1,()),j.2.2.1,((a.2.2.2.1.1.1,a.2.2.2.1.1.2.1,(0,j.2.1.length),a.2.2.2.1.1.2.2.1,a.1.2.1,()),()),a.2.1,a.2.2.1,a.2.2.2.2.1,j.2.2.2.1,j.2.2.2.2.1,j.2.1,())
else none
else(aB oo ((aQ (j.1.1+1),j.1),j.2)).bind fun b=>
bif decide ((0:Int)≤b.1.1)then
bif decide (b.1.1.toNat≤b.2.1.length∧b.2.1.length≤b.2.1.length)then
bif decide (b.1.1.toNat+(b.2.1.length-b.1.1.toNat)≤b.2.1.length)then
let p:=(cu b.2.1 b.1.1.toNat (List.replicate (b.2.1.length-b.1.1.toNat) ((ByteArray.empty,[],0,0,false,false,()):XE)))
bif decide ((0:Int)≤b.1.1)then
bif decide (0≤b.1.1.toNat∧b.1.1.toNat≤p.length)then
bif decide (p.length=d.2.1.length)&&(decide (b.2.2.2.1.length=d.2.2.2.1.length)&&(decide (b.2.2.2.2.1.length=d.2.2.2.2.1.length)&&true))then
some ((d.1.1,a.1.2.1,()),b.2.2.1,((a.2.2.2.1.1.1,a.2.2.2.1.1.2.1,(0,b.1.1.toNat),a.2.2.2.1.1.2.2.1,a.1.2.1,()),()),a.2.1,a.2.2.1,a.2.2.2.2.1,b.2.2.2.1,b.2.2.2.2.1,p,())
else none
else none
else none
else none
else none
else none):Option (Mh×(Oe×Yq4×Co×Oe×(Y8×Unit)×List ByteArray×List ByteArray×Y5×Unit))).bind fun k=>
(aB qg ((0,k.2.2.1.1.2.2.1,k.1.1,k.1.2.1,((k.2.2.1.1.2.2.1.2:Nat):Int),()),k.2.1,k.2.2.1,k.2.2.2.2.2.2.2.2.1,k.2.2.2.1,k.2.2.2.2.1,k.2.2.2.2.2.1,k.2.2.2.2.2.2.1,k.2.2.2.2.2.2.2.1,())).bind fun aa=>
some aa
else some ((d.1.1,a.1.2.1,()),a.2.1,a.2.2.1,((0,0,0,ByteArray.empty,()),()),((a.2.2.2.1.1.1,a.2.2.2.1.1.2.1,(0,d.2.1.length),a.2.2.2.1.1.2.2),()),a.2.2.2.2.1,[],[],d.2.1,())):Option (Mh×adB)).bind fun f=>
bif decide (f.2.2.2.2.1.1.2.2.1.1+f.2.2.2.2.1.1.2.2.1.2≤f.2.2.2.2.2.2.2.2.1.length)then
(((aB tH ((0,(f.2.2.2.2.2.2.2.2.1.drop f.2.2.2.2.1.1.2.2.1.1).take f.2.2.2.2.1.1.2.2.1.2,(((f.2.2.2.2.2.2.2.2.1.drop f.2.2.2.2.1.1.2.2.1.1).take f.2.2.2.2.1.1.2.2.1.2).length:Int),()),())).bind fun ab=>
au ab (fun ac=>(some ((decide (ac.1.1≥0),()),()))) (fun ai=>(some ((false,()),())))):Option iG).bind fun ad=>
let q:=(aQ (f.2.2.2.2.1.1.2.2.2.2.1+f.2.2.2.2.2.1.1.2.2.2.2.2.2.1))
((((bif ad.1.1 then some ((true,f.1.1,f.1.2.1,q,()),f.2)
else some ((decide (q≤f.1.2.1),f.1.1,f.1.2.1,q,()),f.2)):Option ((Bool×Bool×Int×Int×Unit)×adB)).bind fun g=>
bif g.1.1 then let ae:=(aQ (g.1.2.2.1+g.2.2.2.2.2.1.1.2.2.2.2.2.1))
some ((g.1.2.1,g.1.2.2.1,ae,()),g.2.1,g.2.2.1,g.2.2.2.1,g.2.2.2.2.1,g.2.2.2.2.2.2)
else some (g.1.2,g.2.1,g.2.2.1,g.2.2.2.1,g.2.2.2.2.1,g.2.2.2.2.2.2)):Option (VL×(Co×Oe×Oe×Yq4×List ByteArray×List ByteArray×Y5×Unit))).bind fun c=>
let af:=(if((aQ (c.1.2.1+1)):Int)>c.1.2.2.1 then aQ (c.1.2.1+1)else c.1.2.2.1)
(MH ((af,()),())).bind fun ag=>
((let ah:=(((c.2.2.2.2.1.1.2.2.1.2:Nat):Int)==0)
bif decide (c.2.2.2.2.2.2.2.1.length=c.2.2.2.2.2.2.2.1.length)&&true then
bif ah then some ((),c.2.2.2.2.2.2.2.1,((0,ByteArray.empty,0,0,()),()),((c.2.2.2.2.1.1.1,c.2.2.2.2.1.1.2.1,c.2.2.2.2.1.1.2.2.1,-1,c.2.2.2.2.1.1.2.2.2.2),()),())
else some ((),c.2.2.2.2.2.2.2.1,((0,ByteArray.empty,0,0,()),()),((c.2.2.2.2.1.1.1,c.2.2.2.2.1.1.2.1,c.2.2.2.2.1.1.2.2.1,ag.1.1,c.2.2.2.2.1.1.2.2.2.2),()),())
else none):Option (Unit×(Y5×Co×Yq4×Unit))).bind fun r=>
bif decide (r.2.1.length=c.2.2.2.2.2.2.2.1.length)&&true then
some ((c.1.1,0,()),r.2.2.2.1,c.2.2.2.1,r.2.1,c.2.2.2.2.2.1,c.2.2.2.2.2.2.1,())
else none
else none
else none)
def aew:Abs.Spec:=⟨0,⟨[0,1,2,3],(.dat Z1 (.dat Z2 (.dat aU KQ))),.nil⟩,⟨[8,9,10,11],(.st rZ (.st Du YE)),(.box 5 (.agg (.dat aU (.dat .str (.part Z7 (2,0) pI))) .nil) (.box 6 af0 (.arr Z7 false RZ)))⟩,Y7⟩
def aeH:Nat→Abs.gG
 |0=>.mk (bI [(20,⟨[101,8,9,13,12,4,2,5,17],(.dat .bool (.st rZ (.st Du (.dat .bool (.st PW (.st Xl (.dat aU (.st (.ptr (4,0) 8 0 0) dG)))))))),abW⟩),(15,⟨[12,4,65,8,9,13,2,5,66,67],(.st sO (.st ML (.part Z7 (2,0) (.st Xl (.st (.ptr (4,0) 6 0 0) (.dat .bool (.dat aU (.st (.ptr (5,0) 8 0 0) pI)))))))),Rb3⟩),(11,⟨[12,4,8,9,13,2,5],(.st sO (.st ML (.st LC (.st (.ptr (3,0) 6 0 0) (.dat .bool (.dat aU (.st (.ptr (4,0) 8 0 0) .nil))))))),(.box 6 Zm (.box 5 (.agg (.dat aU (.dat .str (.part Z7 (7,0) pI))) .nil) (.box 5 KV (.box 6 Qs4 (.box 8 Ci (.arr .str false (.arr .str false Sz)))))))⟩),(6,⟨[45,8,9,4,2,5,3],afy,(.box 5 KV (.box 6 Qs4 (.box 5 (.agg (.dat aU (.dat .str (.st (.own Z7 (4,0)) pI))) .nil) (.box 8 Ci Sz))))⟩),(1,⟨[18,8,9,4,2,5,3],afy,(.box 5 KV (.box 6 Qs4 (.box 5 Wz NW)))⟩)]) (bI [(22,(⟨[8,9,13,12,4,2,17],(.st rZ (.st Du (.dat .bool (.st PW (.st Xl pI))))),(.box 5 KV (.box 6 Qs4 (.box 6 aiQ (.box 5 (.agg (.dat aU (.dat .str (.part Z7 (6,0) pI))) .nil) (.arr .str false (.arr .str false Sz))))))⟩,none)),(18,(⟨[8,9,13,12,4,2,5],agf,abW⟩,none))]) (bI [(13,⟨⟨[67,12,4,65,8,9,13,2,5,66],(.dat aU (.st sO (.st ML (.part Z7 (2,0) (.st Xl (.st (.ptr (4,0) 6 0 0) (.dat .bool (.dat aU (.st (.ptr (5,0) 8 0 0) dG))))))))),Rb3⟩,(.one (.exit 1) ⟨[8,9,13,12,4,2,5],agf,abW⟩)⟩)]) (fun
  |23,1=>8
  |18,2=>6
  |11,3=>2
  |8,4=>1
  |_,_=>0)
 |1=>.mk (bI [(13,⟨[8,9],(.st Du gP),Mj⟩),(12,⟨[8,10,14,11],(.st Du (.st PW (.dat .bool gP))),(.arr Z7 false (.box 6 Qs4 (.box 6 af0 RZ)))⟩),(10,⟨[11,10,3,24,8,2,5,4,25,26],aho,acw⟩)]) (bI [(11,(⟨[11,10,3,24,8,2,5,4,25,26],aho,acw⟩,none))]) (bI [(4,⟨⟨[26,11,10,3,24,8,2,5,4,25],(.dat aU (.dat .bool (.st Du (.dat DZ (.st Lp (.st PW (.dat aU (.st (.ptr (3,0) 8 0 0) (.st (.ptr (4,0) 5 0 0) dG))))))))),acw⟩,(.one (.exit 0) ⟨[8,10,11,2,5,4],(.st Du (.st PW (.dat .bool (.dat aU (.st (.ptr (3,0) 8 0 0) (.st (.ptr (4,0) 5 0 0) .nil)))))),(.arr Z7 false (.box 6 Qs4 (.box 6 Zm (.box 8 Ci (.box 5 ZM RZ)))))⟩)⟩)]) iF
 |2=>.mk (bI [(1,⟨[0,5,1],(.st Lp (.dat aU (.st XJ .nil))),Mj⟩)]) (bI [(6,(⟨[5,0,1,6],(.dat aU (.st Lp (.st XJ dG))),Mj⟩,none))]) (bI [(5,⟨⟨[6,5,0,1],(.dat aU (.dat aU (.st Lp (.st XJ .nil)))),Mj⟩,(.one (.exit 0) ⟨[5,0],(.dat aU (.st Lp .nil)),Mj⟩)⟩)]) (fun
  |8,2=>5
  |1,2=>3
  |_,_=>0)
 |3=>.mk bJ bJ (bI [(2,⟨⟨[8,0,1,7],(.dat aU (.st Lp (.st XJ dG))),Mj⟩,(.more .ret ⟨[4],dG,Mj⟩ (.one (.exit 0) ⟨[],.nil,Mj⟩))⟩)]) (fun
  |4,5=>4
  |_,_=>0)
 |6=>.mk (bI [(1,⟨[4],gP,.nil⟩)]) bJ bJ (fun
  |1,2=>7
  |_,_=>0)
 |7=>.mk bJ bJ (bI [(2,⟨⟨[8,0,1,7],(.dat aU (.dat D9 (.st (.clo 184 []) dG))),.nil⟩,Ro5⟩)]) iF
 |8=>.mk bJ (bI [(3,(⟨[2,1],ade,(.arr Z7 false (.box 5 KV (.box 5 (.agg (.dat aU (.dat .str (.part Z7 (0,0) pI))) .nil) .nil)))⟩,none))]) bJ (fun
  |1,1=>9
  |_,_=>0)
 |_=>{}
theorem ae2:dZ 134 aew:=okW aeH (bG Zu (bG V7 (bG N9 (bG Qv (bG abI (bG ahv (bG WJ eT)))))))
def ZU(v:((XG×qM×Int×Unit)×Unit)):Option iG:=
(((abR ((v.1.2.1,()),())).bind fun a=>
bif a.1.1 then bif v.1.2.1.2.2.2.2.1==(-1)then some ((true,()),())
else Abs.rowAt v.1.1.1 v.1.2.1.1 fun b _=>
let c:=(decide (((aQ (v.1.2.1.2.2.2.2.1+b.2.2.2.2.2.1)):Int)≤v.1.2.2.1))
some ((c,()),())
else some ((false,()),())):Option iG).bind fun d=>
some d
def ajD:Abs.Spec:=⟨0,⟨[0,1,2],(.dat Zn (.dat Z1 dG)),.nil⟩,⟨[6],gP,.nil⟩,ZU⟩
def aje:Nat→Abs.gG
 |0=>.mk (bI [(1,⟨[6],gP,.nil⟩)]) bJ bJ iF
 |_=>{}
theorem adU:dZ 83 ajD:=okW aje (bG afr eT)
def zw(v:aaX):Option (aaX⊕(lJ×(Bd×PL×Bd×List qM×Bb×Unit))):=
bif decide (v.1.1<v.1.2.2.1)then bif decide (0≤v.1.1∧v.1.1<v.2.2.2.1.length)then
(v.2.2.2.1[v.1.1.toNat]?).bind fun b=>
Abs.rowAt v.2.1.1.1 b.1 fun c _=>
(Y0 ((b,c,v.1.2.1,v.2.1.1.2.2),())).bind fun a=>
bif decide (0≤v.1.1∧v.1.1<v.2.2.2.1.length)then
bif decide (v.1.1.toNat<v.2.2.2.1.length)then
some (.inl ((aQ (v.1.1+1),v.1.2),v.2.1,v.2.2.1,v.2.2.2.1.set v.1.1.toNat (a.2.1.1.1,a.2.1.1.2.1,a.2.2.1,a.2.1.1.2.2),v.2.2.2.2))
else none
else none
else none
else(some (.inr ((v.1.2.1,()),v.2.2.1,v.2.1,v.2.2.2.2.1,v.2.2.2.1,v.2.2.2.2.2)))
def zo(v:(ahA×ad1)):Option ((ahA×ad1)⊕(Unit×(List qM×Bb×List ByteArray×Unit))):=
bif decide (v.1.1<v.1.2.2.2.1)then((Abs.rowAt v.1.2.2.1 v.1.1 fun b _=>
(aal ((v.2.2.2.2.2.1.1.2.1,v.2.2.1,b.2.1,v.1.2.1,v.2.2.2.2.1.1.1,()),())).bind fun c=>
bif c.1.1 then bif decide (v.2.2.2.1.length+ [b.1].length≤4294967296)then
some ((v.1.2.1,v.1.2.2.1,v.1.2.2.2.1,v.1.1,()),v.2.1,v.2.2.1,v.2.2.2.1++ [b.1],v.2.2.2.2)
else none
else some ((v.1.2.1,v.1.2.2.1,v.1.2.2.2.1,v.1.1,()),v.2)):Option ((List jh×Y5×Int×Int×Unit)×ad1)).bind fun a=>
some (.inl ((aQ (a.1.2.2.2.1+1),a.1.1,a.1.2.1,a.1.2.2.1,()),a.2))
else(some (.inr ((),v.2.1,v.2.2.1,v.2.2.2.1,())))
def uL(v:aaO):Option (aaO⊕(Unit×(Bd×List Eg×Bd×PL×List qM×Bb×Unit))):=
bif decide (v.1.1<v.1.2.2.2.1)then((bif decide (0≤v.1.1∧v.1.1<v.2.2.2.2.1.length)then
(v.2.2.2.2.1[v.1.1.toNat]?).bind fun d=>
Abs.rowAt v.2.2.2.1.1.1 d.1 fun e _=>
(aB zo ((0,v.1.2.1,d.2.2.1,(d.2.2.1.length:Int),()),v.2.2.2.2.1,v.2.2.2.2.2.2.1,[],v.2.2.1,v.2.2.2.1,())).bind fun b=>
bif decide (b.2.1.length=v.2.2.2.2.1.length)&&(decide (b.2.2.1.length=v.2.2.2.2.2.2.1.length)&&true)then
(Y7 ((d,e,v.1.2.2.1,b.2.2.2),())).bind fun a=>
bif decide (0≤v.1.1∧v.1.1<b.2.1.length)then
bif decide (a.2.1.1.2.2.1.1+a.2.1.1.2.2.1.2≤a.2.2.2.1.length)then
bif decide (v.1.1.toNat<b.2.1.length)then
bif a.1.1 then bif decide (v.2.1.length+([(a.2.2.1.1.1,a.2.2.1.1.2.1,a.2.2.1.1.2.2.1,a.2.2.1.1.2.2.2.1,a.2.2.2.2)]:List Eg).length≤4294967296)then
let f:=(v.2.1++([(a.2.2.1.1.1,a.2.2.1.1.2.1,a.2.2.1.1.2.2.1,a.2.2.1.1.2.2.2.1,a.2.2.2.2)]:List Eg))
some ((v.1.2.1,v.1.2.2.1,v.1.2.2.2.1,v.1.1,()),f,v.2.2.1,v.2.2.2.1,b.2.1.set v.1.1.toNat (a.2.1.1.1,a.2.1.1.2.1,(a.2.2.2.1.drop a.2.1.1.2.2.1.1).take a.2.1.1.2.2.1.2,a.2.1.1.2.2.2),v.2.2.2.2.2.1,b.2.2.1,())
else none
else some ((v.1.2.1,v.1.2.2.1,v.1.2.2.2.1,v.1.1,()),v.2.1,v.2.2.1,v.2.2.2.1,b.2.1.set v.1.1.toNat (a.2.1.1.1,a.2.1.1.2.1,(a.2.2.2.1.drop a.2.1.1.2.2.1.1).take a.2.1.1.2.2.1.2,a.2.1.1.2.2.2),v.2.2.2.2.2.1,b.2.2.1,())
else none
else none
else none
else none
else none):Option ((List jh×Int×Int×Int×Unit)×ah0)).bind fun c=>
some (.inl ((aQ (c.1.2.2.2.1+1),c.1.1,c.1.2.1,c.1.2.2.1,()),c.2))
else(some (.inr ((),v.2.2.2.2.2.1,v.2.1,v.2.2.1,v.2.2.2.1,v.2.2.2.2.1,v.2.2.2.2.2.2)))
def qO(v:(CF×Ot)):Option abo:=
bif decide (v.1.1<v.1.2.1)then bif decide (0≤v.1.1∧v.1.1<v.2.1.length)then
(v.2.1[v.1.1.toNat]?).bind fun a=>
(ZU ((v.2.2.1.1,a,v.2.2.2.1.1.1,()),())).bind fun b=>
bif decide (v.2.1.length=v.2.1.length)&&(decide (v.2.2.2.2.1.length=v.2.2.2.2.1.length)&&true)then
bif b.1.1 then some (.inr (.inl ((v.1.1,()),v.2)))
else some (.inl ((aQ (v.1.1+1),v.1.2),v.2))
else none
else none
else(some (.inr (.inr ((),v.2))))
def wB(v:(CF×Ot)):Option ((CF×Ot)⊕(lJ×Ot)):=
let c:=(decide (v.1.1<((v.2.1.length:Nat):Int)))
bif c then((bif decide (0≤v.1.1∧v.1.1<v.2.1.length)then
(v.2.1[v.1.1.toNat]?).bind fun b=>
(ZU ((v.2.2.1.1,b,v.2.2.2.1.1.1,()),())).bind fun d=>
bif decide (v.2.1.length=v.2.1.length)&&(decide (v.2.2.2.2.1.length=v.2.2.2.2.1.length)&&true)then
bif !d.1.1 then bif decide (0≤v.1.2.1∧v.1.2.1<v.2.1.length)then
bif decide (v.1.2.1.toNat<v.2.1.length)then
some ((aQ (v.1.2.1+1),v.1.1,()),v.2.1.set v.1.2.1.toNat b,v.2.2)
else none
else none
else some ((v.1.2.1,v.1.1,()),v.2)
else none
else none):Option (CF×Ot)).bind fun a=>
some (.inl ((aQ (a.1.2.1+1),a.1.1,()),a.2))
else(some (.inr (v.1.2,v.2)))
def m75(v:((XG×Y27×Int×Unit)×Unit)):Option (Unit×abV):=
(m64 ((v.1.2.1,()),())).bind fun f=>
(aB zw ((0,v.1.2.2.1,((f.2.2.1.length:Nat):Int),()),(v.1.1,()),((v.1.2.2.1,f.2.1.1.2),()),f.2.2.1,((0,0,()),()),f.2.2.2)).bind fun c=>
bif xG c.2.2.2.2.1 then
bif decide (c.2.2.2.2.1.length=c.2.2.2.2.1.length)&&(decide (c.2.2.2.2.2.1.length=c.2.2.2.2.2.1.length)&&true)then
(aB uL ((0,pu c.2.2.2.2.1,c.1.1,((c.2.2.2.2.1.length:Nat):Int),()),[],c.2.1,c.2.2.1,c.2.2.2.2.1,c.2.2.2.1,c.2.2.2.2.2)).bind fun b=>
(((((aB qO ((0,((b.2.2.2.2.2.1.length:Nat):Int),()),b.2.2.2.2.2.1,b.2.2.2.2.1,b.2.2.2.1,b.2.2.2.2.2.2)).bind fun k=>
au k (fun g=>(bif decide (g.2.1.length=b.2.2.2.2.2.1.length)&&(decide (g.2.2.2.2.1.length=b.2.2.2.2.2.2.1.length)&&true)then
some g
else none)) (fun h=>(bif decide (h.2.1.length=b.2.2.2.2.2.1.length)&&(decide (h.2.2.2.2.1.length=b.2.2.2.2.2.2.1.length)&&true)then
some ((-1,()),h.2)
else none))):Option (lJ×Ot)).bind fun d=>
bif d.1.1==(-1)then bif decide (d.2.1.length=b.2.2.2.2.2.1.length)&&(decide (d.2.2.2.2.1.length=b.2.2.2.2.2.2.1.length)&&true)then
some ((),d.2.1,d.2.2.2.2.1,((0,0,()),()),((d.2.2.2.1.1.1,(0,d.2.1.length),d.2.2.2.1.1.2),()),())
else none
else(aB wB ((aQ (d.1.1+1),d.1),d.2)).bind fun a=>
bif decide ((0:Int)≤a.1.1)then
bif decide (a.1.1.toNat≤a.2.1.length∧a.2.1.length≤a.2.1.length)then
bif decide (a.1.1.toNat+(a.2.1.length-a.1.1.toNat)≤a.2.1.length)then
let j:=(cu a.2.1 a.1.1.toNat (List.replicate (a.2.1.length-a.1.1.toNat) ((0,ByteArray.empty,[],0,0,()):qM)))
bif decide ((0:Int)≤a.1.1)then
bif decide (0≤a.1.1.toNat∧a.1.1.toNat≤j.length)then
bif decide (j.length=b.2.2.2.2.2.1.length)&&(decide (a.2.2.2.2.1.length=b.2.2.2.2.2.2.1.length)&&true)then
some ((),j,a.2.2.2.2.1,((0,0,()),()),((a.2.2.2.1.1.1,(0,a.1.1.toNat),a.2.2.2.1.1.2),()),())
else none
else none
else none
else none
else none
else none):Option abw).bind fun e=>
bif decide (e.2.1.length=b.2.2.2.2.2.1.length)&&(decide (e.2.2.1.length=b.2.2.2.2.2.2.1.length)&&true)then
some ((),e.2.2.2.2.1,b.2.2.1,e.2.1,e.2.2.1,())
else none
else none
else none
def aiY:Abs.Spec:=⟨0,⟨[0,1,2],(.dat Zn (.dat Z20 dG)),.nil⟩,⟨[6,7],(.st l7 (.st qU .nil)),ac3⟩,m75⟩
def ail:Nat→Abs.gG
 |0=>.mk bJ (bI [(17,(⟨[11,4,10,3,2,52,6,53,54],(.st (.own Z9 (0,0)) (.st Ad (.dat Cb (.st zy (.dat aU (.st (.own Z1 (3,0)) (.st (.ptr (4,0) 4 0 0) pI))))))),afw⟩,none))]) (bI [(11,⟨⟨[54,11,4,10,3,2,52,6,53],(.dat aU (.st (.own Z9 (0,0)) (.st Ad (.dat Cb (.st zy (.dat aU (.st (.own Z1 (3,0)) (.st (.ptr (4,0) 4 0 0) dG)))))))),afw⟩,(.one (.exit 2) ⟨[6,11,4,3],(.st l7 (.st qU (.st Xi (.st KZ .nil)))),(.box 4 LA (.arr Z9 false (.box 4 (.agg (.dat aU (.st (.own Z1 (4,0)) (.st (.own Z4 (5,0)) dG))) .nil) (.box 3 qI Uv))))⟩)⟩),(4,⟨⟨[25,3,2,4,23,6,24],(.dat aU (.st mH (.dat aU (.st Ad (.st (.own Z1 (2,0)) (.st U3 dG)))))),(.box 3 qI (.box 4 (.agg (.dat aU (.st (.own Z1 (2,0)) (.st (.own Z4 (4,0)) dG))) .nil) (.arr Z1 false (.box 4 LA BN))))⟩,(.one (.exit 0) ⟨[4,3,2,6],(.st l7 (.st rE (.dat aU (.st Xi .nil)))),(.box 4 aeK (.box 3 qI (.box 4 LA Uv)))⟩)⟩)]) (fun
  |18,2=>2
  |13,12=>1
  |_,_=>0)
 |1=>.mk bJ (bI [(7,(⟨[9,5,3,4,13,14,15],(.st Lg (.st U3 (.dat Cb (.st (.ptr (4,0) 3 0 0) (.dat D9 pI))))),Rb9⟩,none))]) (bI [(3,⟨⟨[15,9,5,3,4,13,14],(.dat aU (.st Lg (.st U3 (.dat Cb (.st (.ptr (4,0) 3 0 0) afz))))),Rb9⟩,(.one (.exit 0) ⟨[9],(.st Lg .nil),(.arr Z1 false (.arr Z4 false DI))⟩)⟩)]) iF
 |2=>.mk (bI [(1,⟨[4,3],(.st Xi (.st U3 .nil)),ahO⟩)]) bJ bJ (fun
  |1,3=>3
  |_,_=>0)
 |3=>.mk (bI [(1,⟨[0,5,1],(.st Js (.dat aU ZE)),X3⟩)]) (bI [(6,(⟨[5,0,1,6],aaJ,X3⟩,none))]) (bI [(5,⟨⟨[6,5,0,1],(.dat aU (.dat aU (.st Js ZE))),X3⟩,af9⟩)]) (fun
  |8,2=>6
  |1,2=>4
  |_,_=>0)
 |4=>.mk bJ bJ (bI [(2,⟨⟨[8,0,1,7],aaJ,X3⟩,ahE⟩)]) (fun
  |4,5=>5
  |_,_=>0)
 |_=>{}
theorem agu:dZ 75 aiY:=okW ail (bG adq (bG aeC (bG ahK (bG ae2 (bG adU eT)))))
def uD(v:NU):Option (NU⊕(ko⊕Cc)):=
bif decide (v.1.1<v.1.2.2.1)then Abs.rowAt v.1.2.1 v.1.1 fun a _=>
(Tz ((a,()),())).bind fun b=>
bif b.1.1 then some (.inr (.inl ((v.1.1,()),())))
else some (.inl ((aQ (v.1.1+1),v.1.2),()))
else(some (.inr (.inr ((),()))))
def Zk(v:((VZ×Int×Unit)×Unit)):Option ko:=
((bif decide (v.1.1.1<1)then some ((true,()),(v.1.1,()),())
else some ((decide (v.1.1.1≤v.1.2.1),()),(v.1.1,()),())):Option (qY×Xw)).bind fun a=>
bif a.1.1 then some ((6,()),())
else(((bif decide (a.2.1.1.2.1<0)then some ((true,()),a.2)
else let c:=(decide (a.2.1.1.2.1≥a.2.1.1.2.2.1))
bif c then some ((true,()),a.2)
else bif decide (a.2.1.1.2.2.1>8589934592)then some ((true,()),a.2)
else some ((decide (a.2.1.1.2.2.2.1<0),()),a.2)):Option (qY×Xw)).bind fun b=>
bif b.1.1 then some ((1,()),())
else let d:=((b.2.1.1.2.2.2.2.1.length:Int)==0)
bif d then some ((7,()),())
else let e:=(decide ((b.2.1.1.2.2.2.2.1.length:Int)>8))
bif e then some ((5,()),())
else(((aB uD ((0,b.2.1.1.2.2.2.2.1,(b.2.1.1.2.2.2.2.1.length:Int),()),())).bind fun f=>
au f (fun g=>(some ((decide (g.1.1≥0),()),()))) (fun j=>(some ((false,()),())))):Option iG).bind fun h=>
bif h.1.1 then some ((8,()),())
else some ((0,()),()))
def afg:Abs.Spec:=⟨0,⟨[0,1],(.dat Z4 dG),.nil⟩,⟨[4],dG,.nil⟩,Zk⟩
def aeZ:Nat→Abs.gG
 |0=>.mk (bI [(3,⟨[15,2],(.dat .bool Mf),ad4⟩),(1,⟨[5,2],(.dat .bool Mf),ad4⟩)]) bJ bJ (fun
  |9,2=>1
  |_,_=>0)
 |1=>.mk (bI [(1,⟨[4],gP,.nil⟩)]) bJ bJ (fun
  |1,2=>2
  |_,_=>0)
 |2=>.mk bJ bJ (bI [(2,⟨⟨[8,0,1,7],adi,.nil⟩,Ro5⟩)]) iF
 |_=>{}
theorem aeS:dZ 143 afg:=okW aeZ (bG aaU eT)
def Eh(v:((Int×Int×Bb×Int×Unit)×Unit)):Option (((Int×Int×Bb×Int×Unit)×Unit)⊕(ko⊕Cc)):=
bif decide (v.1.1<v.1.2.2.2.1)then Abs.rowAt v.1.2.2.1 v.1.1 fun a _=>
(Zk ((a,v.1.2.1,()),())).bind fun b=>
bif b.1.1 !=0 then some (.inr (.inl b))
else some (.inl ((aQ (v.1.1+1),a.1,v.1.2.2),()))
else(some (.inr (.inr ((),()))))
def m81(v:(K4×Unit)):Option ko:=
bif decide ((v.1.1.length:Int)>24)then some ((5,()),())
else((aB Eh ((0,0,v.1.1,(v.1.1.length:Int),()),())).bind fun a=>
au a (fun b=>(some b)) (fun c=>(some ((0,()),()))))
def aio:Abs.Spec:=⟨0,⟨[0],(.dat Gz .nil),.nil⟩,⟨[2],dG,.nil⟩,m81⟩
def akg:Nat→Abs.gG
 |0=>.mk bJ bJ (bI [(5,⟨⟨[12,3,10,11],(.dat aU (.dat aU (.dat Gz dG))),.nil⟩,(.more .ret ⟨[2],dG,.nil⟩ XC)⟩)]) iF
 |_=>{}
theorem af5:dZ 81 aio:=okW akg (bG aeS eT)
def m84(v:((qM×Int×ByteArray×Unit)×Unit)):Option ko:=
bif v.1.1.1 !=v.1.2.1 then some ((aQ (v.1.1.1-v.1.2.1),()),())
else((Xm ((v.1.1.2.1,v.1.2.2),())).bind fun a=>
some a)
def ajA:Abs.Spec:=⟨0,⟨[0,1,2],(.dat Z1 Dw),.nil⟩,⟨[6],dG,.nil⟩,m84⟩
theorem ahH:dZ 84 ajA:=okW yS (bG ab2 eT)
def vH(v:aaN):Option (aaN⊕Ms):=
bif decide (v.1.1<v.1.2.2.2.1)then((Abs.rowAt v.1.2.2.1 v.1.1 fun b _=>
(Jt ((v.1.2.1,b.1,()),())).bind fun c=>
bif c.1.1 then bif decide (v.2.1.length+([b]:List Qz).length≤4294967296)then
let d:=(v.2.1++([b]:List Qz))
some ((v.1.2.1,v.1.2.2.1,v.1.2.2.2.1,v.1.1,()),d,())
else none
else some ((v.1.2.1,v.1.2.2.1,v.1.2.2.2.1,v.1.1,()),v.2)):Option ((List ByteArray×jh×Int×Int×Unit)×OW)).bind fun a=>
some (.inl ((aQ (a.1.2.2.2.1+1),a.1.1,a.1.2.1,a.1.2.2.1,()),a.2))
else(some (.inr ((),v.2)))
def aa6(v:aaZ):Option Ms:=
(aB vH ((0,v.1.2.1,v.1.1,(v.1.1.length:Int),()),[],())).bind fun a=>
some ((),a.2)
def aeA:Abs.Spec:=⟨0,⟨[0,1],(.dat rW KQ),.nil⟩,⟨[4],Xy,qw⟩,aa6⟩
def ahx:Nat→Abs.gG
 |0=>.mk bJ (bI [(7,(⟨[5,1,8,9,10],(.st EP (.dat DZ (.dat rW pI))),qw⟩,none))]) (bI [(3,⟨⟨[10,5,1,8,9],(.dat aU (.st EP (.dat DZ RF))),qw⟩,(.one (.exit 0) ⟨[5],Xy,qw⟩)⟩)]) iF
 |_=>{}
theorem ag4:dZ 119 aeA:=okW ahx (bG abI eT)
def m69(v:((Y8×jh×Unit)×Unit)):Option Ca:=
(m66 (v.1.2,())).bind fun a=>
bif !a.1.1 then some ((ByteArray.empty,()),())
else((aa6 ((v.1.2.1,v.1.1.2.2.2.1,()),())).bind fun b=>
(TL (b.2,())).bind fun c=>
some c)
def aiZ:Abs.Spec:=⟨0,⟨[0,1],(.dat Z2 oh),.nil⟩,⟨[4],fD,.nil⟩,m69⟩
theorem aeu:dZ 69 aiZ:=okW yS (bG Tj (bG ag4 (bG WG eT)))
def AP(v:(UC×X0)):Option ((UC×X0)⊕((lJ×X0)⊕(Unit×X0))):=
bif decide (v.1.1<v.1.2.2.1)then Abs.rowAt v.1.2.1 v.1.1 fun a _=>
Abs.rowAt v.2.1.1.1 v.2.2.1.1.1 fun b _=>
(m69 ((b,a.2.1,()),())).bind fun c=>
bif !(c.1.1.toList==v.2.2.1.1.2.1.toList)then some (.inr (.inl ((v.1.1,()),v.2)))
else some (.inl ((aQ (v.1.1+1),v.1.2),v.2))
else(some (.inr (.inr ((),v.2))))
def qR(v:agA):Option (agA⊕(iG⊕Cc)):=
bif decide (v.1.1<v.1.2.2.1)then Abs.rowAt v.1.2.1 v.1.1 fun a _=>
(((m82 ((a,()),())).bind fun e=>
bif !e.1.1 then some ((true,v.1.2.1,v.1.2.2.1,v.1.1,()),v.2.1,v.2.2.1,(a,()),())
else let f:=(decide (a.1≥(v.2.1.1.1.length:Int)))
bif f then some ((true,v.1.2.1,v.1.2.2.1,v.1.1,()),v.2.1,v.2.2.1,(a,()),())
else(ZU ((v.2.1.1,a,v.2.2.1.1.1,()),())).bind fun g=>
bif g.1.1 then some ((true,v.1.2.1,v.1.2.2.1,v.1.1,()),v.2.1,v.2.2.1,(a,()),())
else bif decide (v.1.1>0)then Abs.rowAt v.2.2.1.1.2.1 (aQ (v.1.1-1)) fun h _=>
(m84 ((h,a.1,a.2.1,()),())).bind fun j=>
some ((decide (j.1.1≥0),v.1.2.1,v.1.2.2.1,v.1.1,()),v.2.1,v.2.2.1,(a,()),())
else some ((false,v.1.2.1,v.1.2.2.1,v.1.1,()),v.2.1,v.2.2.1,(a,()),())):Option ((Bool×List qM×Int×Int×Unit)×(PL×Vr×Lu×Unit))).bind fun b=>
bif b.1.1 then some (.inr (.inl ((false,()),())))
else(((aB AP ((0,b.2.2.2.1.1.2.2.1,(b.2.2.2.1.1.2.2.1.length:Int),()),b.2.1,b.2.2.2)).bind fun k=>
au k (fun c=>(some ((decide (c.1.1≥0),()),c.2))) (fun l=>(some ((false,()),l.2)))):Option (qY×X0)).bind fun d=>
bif d.1.1 then some (.inr (.inl ((false,()),())))
else some (.inl ((aQ (b.1.2.2.2.1+1),b.1.2.1,b.1.2.2.1,()),d.2.1,b.2.2.1,()))
else(some (.inr (.inr ((),()))))
def m36(v:((XG×Y27×Unit)×Unit)):Option iG:=
(((m34 ((v.1.1,()),())).bind fun c=>
bif c.1.1 !=0 then some ((true,()),(v.1.1,()),v.1.2,())
else bif decide (v.1.2.1.1<0)then some ((true,()),(v.1.1,()),v.1.2,())
else bif decide (v.1.2.1.1>8589934592)then some ((true,()),(v.1.1,()),v.1.2,())
else let d:=(decide ((v.1.2.1.2.1.length:Int)>64))
bif d then some ((true,()),(v.1.1,()),v.1.2,())
else(m81 ((v.1.2.1.2.2.1,()),())).bind fun e=>
bif e.1.1 !=0 then some ((true,()),(v.1.1,()),v.1.2,())
else some ((decide (v.1.2.1.2.2.2.1<1),()),(v.1.1,()),v.1.2,())):Option (qY×acV)).bind fun a=>
bif a.1.1 then some ((false,()),())
else(((let f:=(decide ((a.2.2.1.1.2.2.1.length:Int)>0))
bif f then Abs.rowAt a.2.2.1.1.2.2.1 (aQ ((a.2.2.1.1.2.2.1.length:Int)-1)) fun g _=>
some ((decide (g.1≥a.2.2.1.1.2.2.2.1),()),a.2)
else some ((false,()),a.2)):Option (qY×acV)).bind fun b=>
bif b.1.1 then some ((false,()),())
else(aB qR ((0,b.2.2.1.1.2.1,(b.2.2.1.1.2.1.length:Int),()),b.2)).bind fun h=>
au h (fun j=>(some j)) (fun k=>(some ((true,()),()))))
def aix:Abs.Spec:=⟨0,⟨[0,1],(.dat Zn Rs7),.nil⟩,⟨[4],gP,.nil⟩,m36⟩
def ajw:Nat→Abs.gG
 |0=>.mk (bI [(9,⟨[98,2,3,56,57,58,7],(.dat .bool (.st mH (.st Ad (.dat VF (.dat aU (.dat aU (.st LC .nil))))))),(.box 3 qI (.box 4 Rs7 EQ))⟩),(4,⟨[54,2,3],(.dat .bool (.st mH (.st Ad .nil))),abX⟩),(1,⟨[37,2,3],(.dat .bool (.st mH (.st Ad .nil))),abX⟩)]) bJ (bI [(7,⟨⟨[58,2,3,56,57],(.dat aU (.st mH (.st Ad agG))),abX⟩,(.more .ret ⟨[4],gP,.nil⟩ XC)⟩)]) (fun
  |11,3=>1
  |_,_=>0)
 |1=>.mk (bI [(1,⟨[4],gP,(.box 3 qI EQ)⟩)]) bJ bJ (fun
  |1,2=>2
  |_,_=>0)
 |2=>.mk bJ bJ (bI [(2,⟨⟨[8,0,1,7],(.dat aU (.dat D9 (.st (.clo 86 [((0,0),3,0,0),((1,0),5,0,0)]) dG))),(.box 3 qI EQ)⟩,(.more .ret ⟨[4],dG,(.box 3 qI EQ)⟩ (.one (.exit 0) ⟨[],.nil,(.box 3 qI EQ)⟩))⟩)]) (fun
  |4,5=>3
  |_,_=>0)
 |_=>{}
theorem YH:dZ 36 aix:=okW ajw (bG acU (bG af5 (bG Zu (bG adU (bG ahH (bG aeu eT))))))
def m67(v:((Y27×Int×Unit)×Unit)):Option ko:=
bif decide (v.1.2.1<v.1.1.1)then some ((6,()),())
else(bif decide (v.1.2.1>8589934592)then some ((1,()),())
else some ((0,()),()))
def ajO:Abs.Spec:=⟨0,⟨[0,1],(.dat Z20 dG),.nil⟩,⟨[4],dG,.nil⟩,m67⟩
theorem ag7:dZ 67 ajO:=okW yS eT
def uy(v:aaT):Option (aaT⊕KY):=
bif decide (v.1.1<v.1.2.2.2.1)then((Abs.rowAt v.1.2.2.1 v.1.1 fun b _=>
bif b.1==v.1.2.1 then bif decide (v.2.1.length+ [v.1.1].length≤4294967296)then
some ((v.1.2.1,v.1.2.2.1,v.1.2.2.2.1,v.1.1,()),v.2.1++ [v.1.1],())
else none
else some ((v.1.2.1,v.1.2.2.1,v.1.2.2.2.1,v.1.1,()),v.2)):Option ((Int×List Y8×Int×Int×Unit)×Bn)).bind fun a=>
some (.inl ((aQ (a.1.2.2.2.1+1),a.1.1,a.1.2.1,a.1.2.2.1,()),a.2))
else(some (.inr ((),v.2)))
def ZC(v:((List Y8×Int×Unit)×Unit)):Option KY:=
(aB uy ((0,v.1.2.1,v.1.1,(v.1.1.length:Int),()),[],())).bind fun a=>
some ((),a.2)
def aaY:Abs.Spec:=⟨0,⟨[0,1],R9,.nil⟩,⟨[4],Jz,wY⟩,ZC⟩
def afq:Nat→Abs.gG
 |0=>.mk bJ (bI [(7,(⟨[5,1,8,9,10],(.st Kj (.dat aU (.dat zJ pI))),wY⟩,none))]) (bI [(3,⟨⟨[10,5,1,8,9],(.dat aU (.st Kj (.dat aU R9))),wY⟩,(.one (.exit 0) ⟨[5],Jz,wY⟩)⟩)]) iF
 |_=>{}
theorem ahD:dZ 168 aaY:=okW afq eT
def nW(rc:Uk→Option KY)(v:abm):Option (abm⊕(lJ×Bn)):=
bif decide (v.1.1<v.1.2.2.2.2.1)then((bif decide (0≤v.1.1∧v.1.1<v.2.2.1.length)then
(v.2.2.1[v.1.1.toNat]?).bind fun e47=>
Abs.rowAt v.1.2.2.1 e47 fun e48 _=>
(NE ((e48.2.1,v.1.2.2.2.1,()),())).bind fun u49=>
bif !u49.1.1 then some (.inl ((v.1.2.1,v.1.2.2.1,v.1.2.2.2.1,v.1.2.2.2.2.1,v.1.1,()),v.2.1,v.2.2.1,()))
else(rc ((v.1.2.2.1,e47,v.1.2.2.2.1,()),())).bind fun u50=>
bif decide (v.2.1.length+u50.2.1.length≤4294967296)then
Abs.rowAt v.1.2.2.1 e47 fun e51 _=>
bif !e51.2.2.2.2.2.2.2.1 then some (.inr ((v.1.2.1,()),v.2.1++u50.2.1,()))
else some (.inl ((v.1.2.1,v.1.2.2.1,v.1.2.2.2.1,v.1.2.2.2.2.1,v.1.1,()),v.2.1++u50.2.1,v.2.2.1,()))
else none
else none):Option (((Int×List Y8×jh×Int×Int×Unit)×ZH)⊕(lJ×Bn))).bind fun r54=>
au r54 (fun v52=>(some (.inl ((aQ (v52.1.2.2.2.2.1+1),v52.1.1,v52.1.2.1,v52.1.2.2.1,v52.1.2.2.2.1,()),v52.2.1,v52.2.2.1,())))) (fun d53=>(some (.inr ((d53.1.1,()),d53.2.1,()))))
else(some (.inr ((v.1.2.1,()),v.2.1,())))
def i117:Abs.Sg:=⟨[0,1,2],(.dat zJ (.dat aU oh)),.nil⟩
def ahp:Abs.Sg:=⟨[6],Jz,wY⟩
def WO(rc:Uk→Option KY)(v:Uk):Option KY:=
(ZC ((v.1.1,(v.1.2.1,())),())).bind fun u46=>
(aB (nW rc) ((0,(v.1.2.1,(v.1.1,(v.1.2.2.1,(((u46.2.1.length:Nat):Int),()))))),([],(u46.2.1,())))).bind fun d55=>
bif ((((d55.2.1.length:Nat):Int):Int)==0)then(some ((),([d55.1.1],())))
else(some ((),(d55.2.1,())))
def IZ(n:Nat):Uk→Option KY:=Nat.rec (motive:=fun _=>Uk→Option KY) (fun _=>none) (fun _ rc=>WO rc) n
def afs:Uk→Option KY:=IZ 400
def Vl(n:Nat):Abs.Spec:=⟨0,i117,ahp,IZ n⟩
def aef:Abs.Spec:=⟨0,i117,ahp,afs⟩
def afp:Nat→Abs.gG
 |0=>.mk bJ (bI [(8,(⟨[1,0,2,7,12,13,14],(.dat aU (.dat zJ (.dat rW (.st Kj (.st (.own aU (1,0)) pI))))),aa1⟩,some Ro6))]) (bI [(3,⟨⟨[14,1,0,2,7,12,13],(.dat aU (.dat aU (.dat zJ (.dat rW (.st Kj (.st (.own aU (1,0)) dG)))))),aa1⟩,Ro6⟩)]) iF
 |_=>{}
theorem Vv:∀n,Abs.gq Tryz.prog 117 (Vl n)
 |0=>fun _ _ _ _ _ _ h=>by cases h
 |n+1=>Abs.wM (C:=WR) (mv:=Q8) JA (n:=12) (an:=afp) (T:=Abs.uV [(117,Vl n),(168,aaY),(169,abF)]) good BM (Abs.lC _ (by simp only[List.forall_mem_cons];exact⟨Vv n,ahD,Xb,fun _ h=>by cases h⟩)) rfl (by intro v;kernel_rfl)
theorem aha:Abs.gq Tryz.prog 117 aef:=Vv 400
def m68(v:((List Y8×jh×Unit)×Unit)):Option KY:=
(((m78 ((v.1.1,()),())).bind fun b=>
bif b.1.1 !=0 then some ((true,v.1.2.1,v.1.1,()),())
else(m66 (v.1.2,())).bind fun c=>
some ((!c.1.1,v.1.2.1,v.1.1,()),())):Option aaW).bind fun a=>
bif a.1.1 then some ((),[],())
else((afs ((a.1.2.2.1,0,a.1.2.1,()),())).bind fun d=>
some ((),d.2.1,()))
def ajo:Abs.Spec:=⟨0,⟨[0,1],(.dat zJ oh),.nil⟩,⟨[4],Jz,wY⟩,m68⟩
def ajJ:Nat→Abs.gG
 |0=>.mk (bI [(1,⟨[12,1,0],(.dat .bool (.dat rW Lv)),.nil⟩)]) bJ bJ iF
 |_=>{}
theorem ajW:dZ 68 ajo:=okW ajJ (bG acD (bG Tj (bG aha eT)))
def m72(v:TT):Option (Unit×(Co×Unit)):=
some ((),((v.1.1,v.1.2.1,-1,-1,()),()),())
def ajh:Abs.Spec:=⟨0,⟨[0,1],Dw,.nil⟩,⟨[4],Mf,(.box 5 KV .nil)⟩,m72⟩
theorem akd:dZ 72 ajh:=okW yS eT
def m73(v:((qM×Y8×jh×Bool×Int×Unit)×Unit)):Option MV:=
(((m82 ((v.1.1,()),())).bind fun y=>
bif !y.1.1 then some ((true,v.1.2.2.2.2.1,v.1.2.2.2.1,v.1.2.2.1,()),((0,ByteArray.empty,0,0,()),()),(v.1.1,()),(v.1.2.1,()),())
else(Tt ((v.1.2.1,()),())).bind fun z=>
bif !z.1.1 then some ((true,v.1.2.2.2.2.1,v.1.2.2.2.1,v.1.2.2.1,()),((0,ByteArray.empty,0,0,()),()),(v.1.1,()),(v.1.2.1,()),())
else(m66 ((v.1.2.2.1,()),())).bind fun aa=>
some ((!aa.1.1,v.1.2.2.2.2.1,v.1.2.2.2.1,v.1.2.2.1,()),((0,ByteArray.empty,0,0,()),()),(v.1.1,()),(v.1.2.1,()),())):Option ((Bool×Int×Bool×jh×Unit)×(Co×Lu×(Y8×Unit)×Unit))).bind fun c=>
bif c.1.1 then some ((8,()),((0,ByteArray.empty,0,0,()),()),[],())
else((EZ ((c.1.2.1,0,8589934592,()),())).bind fun ab=>
bif !ab.1.1 then some ((1,()),((0,ByteArray.empty,0,0,()),()),[],())
else(TL (c.1.2.2.2,())).bind fun s=>
(Mw ((c.2.2.1.1,s.1),())).bind fun b=>
(O8 (c.2.2.1,())).bind fun e=>
((bif b.1.2.1 then bif decide (0≤b.1.1∧b.1.1<e.2.2.1.length)then
(e.2.2.1[b.1.1.toNat]?).bind fun a=>
((bif decide (0≤b.1.1∧b.1.1<(e.2.2.1.set b.1.1.toNat (a.1,a.2.1,a.2.2.1,c.1.2.1,a.2.2.2.2)).length)then
((e.2.2.1.set b.1.1.toNat (a.1,a.2.1,a.2.2.1,c.1.2.1,a.2.2.2.2))[b.1.1.toNat]?).bind fun ac=>
bif ac.2.2.2.2.1==c.1.2.2.1 then bif decide ((e.2.2.1.set b.1.1.toNat (a.1,a.2.1,a.2.2.1,c.1.2.1,a.2.2.2.2)).length=(e.2.2.1.set b.1.1.toNat (a.1,a.2.1,a.2.2.1,c.1.2.1,a.2.2.2.2)).length)&&true then
some ((),c.2.1,e.2.1,e.2.2.1.set b.1.1.toNat (a.1,a.2.1,a.2.2.1,c.1.2.1,a.2.2.2.2),())
else none
else bif c.1.2.2.1 then((e.2.2.1.set b.1.1.toNat (a.1,a.2.1,a.2.2.1,c.1.2.1,a.2.2.2.2))[b.1.1.toNat]?).bind fun g=>
(((e.2.2.1.set b.1.1.toNat (a.1,a.2.1,a.2.2.1,c.1.2.1,a.2.2.2.2)).set b.1.1.toNat (g.1,g.2.1,g.2.2.1,g.2.2.2.1,true,g.2.2.2.2.2))[b.1.1.toNat]?).bind fun j=>
((((e.2.2.1.set b.1.1.toNat (a.1,a.2.1,a.2.2.1,c.1.2.1,a.2.2.2.2)).set b.1.1.toNat (g.1,g.2.1,g.2.2.1,g.2.2.2.1,true,g.2.2.2.2.2)).set b.1.1.toNat (j.1,j.2.1,j.2.2.1,j.2.2.2.1,j.2.2.2.2.1,true,()))[b.1.1.toNat]?).bind fun p=>
bif decide (((((e.2.2.1.set b.1.1.toNat (a.1,a.2.1,a.2.2.1,c.1.2.1,a.2.2.2.2)).set b.1.1.toNat (g.1,g.2.1,g.2.2.1,g.2.2.2.1,true,g.2.2.2.2.2)).set b.1.1.toNat (j.1,j.2.1,j.2.2.1,j.2.2.2.1,j.2.2.2.2.1,true,())).set b.1.1.toNat (p.1,p.2.1,c.1.2.1,p.2.2.2)).length=(e.2.2.1.set b.1.1.toNat (a.1,a.2.1,a.2.2.1,c.1.2.1,a.2.2.2.2)).length)&&true then
some ((),c.2.1,e.2.1,(((e.2.2.1.set b.1.1.toNat (a.1,a.2.1,a.2.2.1,c.1.2.1,a.2.2.2.2)).set b.1.1.toNat (g.1,g.2.1,g.2.2.1,g.2.2.2.1,true,g.2.2.2.2.2)).set b.1.1.toNat (j.1,j.2.1,j.2.2.1,j.2.2.2.1,j.2.2.2.2.1,true,())).set b.1.1.toNat (p.1,p.2.1,c.1.2.1,p.2.2.2),())
else none
else((e.2.2.1.set b.1.1.toNat (a.1,a.2.1,a.2.2.1,c.1.2.1,a.2.2.2.2))[b.1.1.toNat]?).bind fun ad=>
bif !ad.2.2.2.2.2.1 then bif decide (0≤b.1.1∧b.1.1<(aQ (b.1.1+1))∧((aQ (b.1.1+1)):Int)≤(e.2.2.1.set b.1.1.toNat (a.1,a.2.1,a.2.2.1,c.1.2.1,a.2.2.2.2)).length∧(e.2.2.1.set b.1.1.toNat (a.1,a.2.1,a.2.2.1,c.1.2.1,a.2.2.2.2)).length≤4294967296)then
bif decide ((e.2.2.1.set b.1.1.toNat (a.1,a.2.1,a.2.2.1,c.1.2.1,a.2.2.2.2)).length=(e.2.2.1.set b.1.1.toNat (a.1,a.2.1,a.2.2.1,c.1.2.1,a.2.2.2.2)).length)&&true then
bif decide ((e.2.2.1.set b.1.1.toNat (a.1,a.2.1,a.2.2.1,c.1.2.1,a.2.2.2.2)).length=(e.2.2.1.set b.1.1.toNat (a.1,a.2.1,a.2.2.1,c.1.2.1,a.2.2.2.2)).length)&&true then
some ((),c.2.1,e.2.1,(e.2.2.1.set b.1.1.toNat (a.1,a.2.1,a.2.2.1,c.1.2.1,a.2.2.2.2)).take b.1.1.toNat++(e.2.2.1.set b.1.1.toNat (a.1,a.2.1,a.2.2.1,c.1.2.1,a.2.2.2.2)).drop (aQ (b.1.1+1)).toNat,())
else none
else none
else none
else((e.2.2.1.set b.1.1.toNat (a.1,a.2.1,a.2.2.1,c.1.2.1,a.2.2.2.2))[b.1.1.toNat]?).bind fun f=>
(((e.2.2.1.set b.1.1.toNat (a.1,a.2.1,a.2.2.1,c.1.2.1,a.2.2.2.2)).set b.1.1.toNat (f.1,f.2.1,f.2.2.1,f.2.2.2.1,false,f.2.2.2.2.2))[b.1.1.toNat]?).bind fun h=>
((((e.2.2.1.set b.1.1.toNat (a.1,a.2.1,a.2.2.1,c.1.2.1,a.2.2.2.2)).set b.1.1.toNat (f.1,f.2.1,f.2.2.1,f.2.2.2.1,false,f.2.2.2.2.2)).set b.1.1.toNat (h.1,h.2.1,h.2.2.1,h.2.2.2.1,h.2.2.2.2.1,false,()))[b.1.1.toNat]?).bind fun l=>
((bif e.2.1.1.2.2.2.1 !=(-1)then let u:=(aQ (e.2.1.1.2.2.2.1+c.2.2.2.1.1.2.2.2.2.2.1))
let ae:=(if u>c.1.2.1 then u else c.1.2.1)
some ((ae,()),e.2.1,(((e.2.2.1.set b.1.1.toNat (a.1,a.2.1,a.2.2.1,c.1.2.1,a.2.2.2.2)).set b.1.1.toNat (f.1,f.2.1,f.2.2.1,f.2.2.2.1,false,f.2.2.2.2.2)).set b.1.1.toNat (h.1,h.2.1,h.2.2.1,h.2.2.2.1,h.2.2.2.2.1,false,())).set b.1.1.toNat (l.1,l.2.1,c.1.2.1,l.2.2.2),())
else some ((aQ (c.1.2.1+c.2.2.2.1.1.2.2.2.2.1),()),e.2.1,(((e.2.2.1.set b.1.1.toNat (a.1,a.2.1,a.2.2.1,c.1.2.1,a.2.2.2.2)).set b.1.1.toNat (f.1,f.2.1,f.2.2.1,f.2.2.2.1,false,f.2.2.2.2.2)).set b.1.1.toNat (h.1,h.2.1,h.2.2.1,h.2.2.2.1,h.2.2.2.2.1,false,())).set b.1.1.toNat (l.1,l.2.1,c.1.2.1,l.2.2.2),())):Option MV).bind fun m=>
((bif m.2.1.1.2.2.1 !=(-1)then let af:=(if m.2.1.1.2.2.1<m.1.1 then m.2.1.1.2.2.1 else m.1.1)
some ((af,()),m.2)
else some m):Option MV).bind fun n=>
(MH (n.1,())).bind fun ag=>
bif decide (n.2.2.1.length=((((e.2.2.1.set b.1.1.toNat (a.1,a.2.1,a.2.2.1,c.1.2.1,a.2.2.2.2)).set b.1.1.toNat (f.1,f.2.1,f.2.2.1,f.2.2.2.1,false,f.2.2.2.2.2)).set b.1.1.toNat (h.1,h.2.1,h.2.2.1,h.2.2.2.1,h.2.2.2.2.1,false,())).set b.1.1.toNat (l.1,l.2.1,c.1.2.1,l.2.2.2)).length)&&true then
bif decide (n.2.2.1.length=(e.2.2.1.set b.1.1.toNat (a.1,a.2.1,a.2.2.1,c.1.2.1,a.2.2.2.2)).length)&&true then
some ((),c.2.1,((n.2.1.1.1,n.2.1.1.2.1,ag.1.1,n.2.1.1.2.2.2),()),n.2.2)
else none
else none
else none):Option QG).bind fun ah=>
some (.inl ((),ah.2))
else none
else((bif c.1.2.2.1 then let ai:=(((e.2.2.1.length:Nat):Int)==256)
some ((ai,c.1.2.1,b.1.1,c.1.2.2.2.1,s.1.1,c.1.2.2.1,()),c.2.1,e.2.1,c.2.2.2.1,e.2.2)
else some ((false,c.1.2.1,b.1.1,c.1.2.2.2.1,s.1.1,c.1.2.2.1,()),c.2.1,e.2.1,c.2.2.2.1,e.2.2)):Option ((Bool×Int×Int×jh×ByteArray×Bool×Unit)×(Co×Co×(Y8×Unit)×Y5×Unit))).bind fun d=>
bif d.1.1 then some (.inr ((5,()),((0,ByteArray.empty,0,0,()),()),()))
else bif d.1.2.2.2.2.2.1 then(Xe ((d.1.2.2.2.1,()),())).bind fun q=>
bif decide (0≤d.1.2.2.1∧d.1.2.2.1≤d.2.2.2.2.1.length∧d.2.2.2.2.1.length≤4294967295∧([(d.1.2.2.2.2.1,q.2.1,d.1.2.1,d.1.2.1,true,false,())]:List XE).length=1)then
bif decide (d.2.2.2.2.1.length=d.2.2.2.2.1.length)&&(decide (([(d.1.2.2.2.2.1,q.2.1,d.1.2.1,d.1.2.1,true,false,())]:List XE).length=([(d.1.2.2.2.2.1,q.2.1,d.1.2.1,d.1.2.1,true,false,())]:List XE).length)&&true)then
((bif d.2.2.1.1.2.2.2.1 !=(-1)then let w:=(aQ (d.2.2.1.1.2.2.2.1+d.2.2.2.1.1.2.2.2.2.2.1))
let aj:=(if w>d.1.2.1 then w else d.1.2.1)
some ((aj,()),d.2.2.1,d.2.2.2.2.1.take d.1.2.2.1.toNat++([(d.1.2.2.2.2.1,q.2.1,d.1.2.1,d.1.2.1,true,false,())]:List XE)++d.2.2.2.2.1.drop d.1.2.2.1.toNat,())
else some ((aQ (d.1.2.1+d.2.2.2.1.1.2.2.2.2.1),()),d.2.2.1,d.2.2.2.2.1.take d.1.2.2.1.toNat++([(d.1.2.2.2.2.1,q.2.1,d.1.2.1,d.1.2.1,true,false,())]:List XE)++d.2.2.2.2.1.drop d.1.2.2.1.toNat,())):Option MV).bind fun o=>
((bif o.2.1.1.2.2.1 !=(-1)then let ak:=(if o.2.1.1.2.2.1<o.1.1 then o.2.1.1.2.2.1 else o.1.1)
some ((ak,()),o.2)
else some o):Option MV).bind fun r=>
(MH (r.1,())).bind fun al=>
bif decide (r.2.2.1.length=(d.2.2.2.2.1.take d.1.2.2.1.toNat++([(d.1.2.2.2.2.1,q.2.1,d.1.2.1,d.1.2.1,true,false,())]:List XE)++d.2.2.2.2.1.drop d.1.2.2.1.toNat).length)&&true then
some (.inl ((),d.2.1,((r.2.1.1.1,r.2.1.1.2.1,al.1.1,r.2.1.1.2.2.2),()),r.2.2))
else none
else none
else none
else some (.inl ((),d.2.1,d.2.2.1,d.2.2.2.2))):Option (QG⊕(lJ×(Co×Unit)))).bind fun am=>
au am (fun k=>(((let an:=(((k.2.2.2.1.length:Nat):Int)==0)
bif decide (k.2.2.2.1.length=k.2.2.2.1.length)&&true then
bif an then some ((),k.2.2.2.1,((0,ByteArray.empty,0,0,()),()),((k.2.2.1.1.1,k.2.2.1.1.2.1,-1,k.2.2.1.1.2.2.2),()),())
else some ((),k.2.2.2.1,((0,ByteArray.empty,0,0,()),()),k.2.2.1,())
else none):Option (Unit×(Y5×Co×Co×Unit))).bind fun t=>
bif decide (t.2.1.length=k.2.2.2.1.length)&&true then
some ((0,()),t.2.2.2.1,t.2.1,())
else none)) (fun x=>(some (x.1,x.2.1,[],()))))
def aj2:Abs.Spec:=⟨0,⟨[0,1,2,3,4],(.dat Z1 (.dat Z2 (.dat rW YE))),.nil⟩,⟨[10,11],RL,Jk⟩,m73⟩
def aiF:Nat→Abs.gG
 |0=>.mk (bI [(11,⟨[59,10,5,4,6,13,2,12,3],(.dat .bool (.st rZ (.st ML (.dat aU (.st aht (.dat aU (.dat rW (.dat .str gP)))))))),(.box 5 KV (.box 5 (.agg (.dat aU (.dat .str (.st (.own Z7 (3,0)) pI))) .nil) (.box 8 Ci Sz)))⟩),(10,⟨[10,5],YN,Yx⟩),(1,⟨[16,10,5,4,3,6,2],(.dat .bool (.st rZ (.st ML (.dat aU (.dat .bool (.st aht oh)))))),(.box 5 KV (.box 5 Wz NW))⟩)]) (bI [(17,(⟨[10,5],YN,Yx⟩,some (.one .ret ⟨[10,11],RL,(.box 5 KV .nil)⟩)))]) bJ (fun
  |17,1=>4
  |16,2=>3
  |10,4=>1
  |_,_=>0)
 |1=>.mk bJ bJ bJ (fun
  |3,3=>2
  |_,_=>0)
 |2=>.mk bJ (bI [(6,(⟨[6,0],(.dat aU Mf),Jk⟩,none)),(4,(⟨[0,6],RL,Jk⟩,none))]) bJ iF
 |3=>.mk bJ (bI [(6,(⟨[6,0],(.dat aU Mf),Jk⟩,none)),(4,(⟨[0,6],RL,Jk⟩,none))]) bJ iF
 |4=>.mk bJ (bI [(3,(⟨[2,1],ade,(.arr Z7 false (.box 5 KV (.box 5 ZM .nil)))⟩,none))]) bJ (fun
  |1,1=>5
  |_,_=>0)
 |_=>{}
theorem aiu:dZ 73 aj2:=okW aiF (bG Zu (bG V7 (bG Tj (bG N9 (bG WG (bG abg (bG Qv (bG WJ (bG abr eT)))))))))
def rX(v:ab7):Option (ab7⊕((ByteArray×Int×Int×Unit)×ad7)):=
bif decide (v.1.2.2.1<v.1.2.1)then let a:=(IntKind.wrap .u64 (aQ (v.1.2.2.1+v.1.2.1)))
bif decide ((0:Int)≤1)then
bif decide ((0:Int)≤(aQ (Al .u64 (a) (1)))∧((aQ (Al .u64 (a) (1))):Int)<v.2.1.length)then
(v.2.1[(aQ (Al .u64 (a) (1))).toNat]?).bind fun b=>
(m84 ((b,v.2.2.1.1,v.1.1,()),())).bind fun c=>
bif decide (c.1.1<0)then some (.inl ((v.1.1,v.1.2.1,aQ ((aQ (Al .u64 (a) (1)))+1),v.1.2.2.2),v.2))
else some (.inl ((v.1.1,aQ (Al .u64 (a) (1)),v.1.2.2),v.2))
else none
else none
else(some (.inr ((v.1.1,v.1.2.2),v.2)))
def wF(v:(CF×V8)):Option ((CF×V8)⊕((lJ×(Bd×Unit))⊕(Unit×(Bd×Bd×PL×List qM×Bb×Unit)))):=
bif decide (v.1.1<v.1.2.1)then((bif decide (0≤v.1.1∧v.1.1<v.2.2.2.2.2.1.length)then
(v.2.2.2.2.2.1[v.1.1.toNat]?).bind fun g=>
Abs.rowAt v.2.2.2.2.1.1.1 g fun k _=>
(m69 ((k,v.2.2.2.1.1.2.1,()),())).bind fun h=>
(aB rX ((h.1.1,((v.2.2.2.2.2.2.1.length:Nat):Int),0,((v.2.2.2.2.2.2.1.length:Nat):Int),()),v.2.2.2.2.2.2.1,(g,()),())).bind fun c=>
((bif decide (c.1.2.1<c.1.2.2.1)then bif decide (0≤c.1.2.1∧c.1.2.1<c.2.1.length)then
(c.2.1[c.1.2.1.toNat]?).bind fun l=>
(m84 ((l,c.2.2.1.1,c.1.1,()),())).bind fun m=>
some ((c.1.2.1,m.1.1==0,()),c.2)
else none
else some ((c.1.2.1,false,()),c.2)):Option ((Int×Bool×Unit)×ad7)).bind fun e=>
bif decide (e.2.1.length=v.2.2.2.2.2.2.1.length)&&true then
bif decide (e.2.1.length=v.2.2.2.2.2.2.1.length)&&true then
((bif !e.1.2.1 then some ((!v.2.2.2.1.1.2.2.1,v.1.2.1,v.1.1,e.1.1,g,h.1.1,e.1.2),v.2.1,v.2.2.1,v.2.2.2.1,v.2.2.2.2.1,v.2.2.2.2.2.1,e.2.1,v.2.2.2.2.2.2.2)
else some ((false,v.1.2.1,v.1.1,e.1.1,g,h.1.1,e.1.2),v.2.1,v.2.2.1,v.2.2.2.1,v.2.2.2.2.1,v.2.2.2.2.2.1,e.2.1,v.2.2.2.2.2.2.2)):Option ((Bool×Int×Int×Int×Int×ByteArray×Bool×Unit)×V8)).bind fun a=>
bif a.1.1 then some (.inl ((a.1.2.1,a.1.2.2.1,()),a.2))
else((bif !a.1.2.2.2.2.2.2.1 then(m72 ((a.1.2.2.2.2.1,a.1.2.2.2.2.2.1,()),())).bind fun d=>
bif decide (0≤a.1.2.2.2.1∧a.1.2.2.2.1≤a.2.2.2.2.2.2.1.length∧a.2.2.2.2.2.2.1.length≤4294967295∧([(d.2.1.1.1,d.2.1.1.2.1,[],d.2.1.1.2.2)]:List qM).length=1)then
bif decide (a.2.2.2.2.2.2.1.length=a.2.2.2.2.2.2.1.length)&&(decide (([(d.2.1.1.1,d.2.1.1.2.1,[],d.2.1.1.2.2)]:List qM).length=([(d.2.1.1.1,d.2.1.1.2.1,[],d.2.1.1.2.2)]:List qM).length)&&true)then
some ((a.1.2.1,a.1.2.2.1,a.1.2.2.2.1,a.1.2.2.2.2.1,()),a.2.1,a.2.2.1,a.2.2.2.1,a.2.2.2.2.1,a.2.2.2.2.2.1,a.2.2.2.2.2.2.1.take a.1.2.2.2.1.toNat++([(d.2.1.1.1,d.2.1.1.2.1,[],d.2.1.1.2.2)]:List qM)++a.2.2.2.2.2.2.1.drop a.1.2.2.2.1.toNat,a.2.2.2.2.2.2.2)
else none
else none
else some ((a.1.2.1,a.1.2.2.1,a.1.2.2.2.1,a.1.2.2.2.2.1,()),a.2)):Option ((Int×Int×Int×Int×Unit)×V8)).bind fun b=>
bif decide (0≤b.1.2.2.1∧b.1.2.2.1<b.2.2.2.2.2.2.1.length)then
(b.2.2.2.2.2.2.1[b.1.2.2.1.toNat]?).bind fun n=>
Abs.rowAt b.2.2.2.2.1.1.1 b.1.2.2.2.1 fun o _=>
(m73 ((n,o,b.2.2.2.1.1.2.1,b.2.2.2.1.1.2.2.1,b.2.2.2.1.1.1,()),())).bind fun f=>
bif f.1.1 !=0 then some (.inr ((5,()),((0,0,()),()),()))
else bif decide (0≤b.1.2.2.1∧b.1.2.2.1<b.2.2.2.2.2.2.1.length)then
bif decide (b.1.2.2.1.toNat<b.2.2.2.2.2.2.1.length)then
some (.inl ((b.1.1,b.1.2.1,()),b.2.1,b.2.2.1,b.2.2.2.1,b.2.2.2.2.1,b.2.2.2.2.2.1,b.2.2.2.2.2.2.1.set b.1.2.2.1.toNat (f.2.1.1.1,f.2.1.1.2.1,f.2.2.1,f.2.1.1.2.2),b.2.2.2.2.2.2.2))
else none
else none
else none
else none
else none
else none):Option ((CF×V8)⊕(lJ×(Bd×Unit)))).bind fun p=>
au p (fun j=>(some (.inl ((aQ (j.1.2.1+1),j.1.1,()),j.2)))) (fun q=>(some (.inr (.inl q))))
else(some (.inr (.inr ((),v.2.1,v.2.2.1,v.2.2.2.2.1,v.2.2.2.2.2.2))))
def R5(v:(CF×Ot)):Option abo:=
bif decide (v.1.1<v.1.2.1)then bif decide (0≤v.1.1∧v.1.1<v.2.1.length)then
(v.2.1[v.1.1.toNat]?).bind fun a=>
(ZU ((v.2.2.1.1,a,v.2.2.2.1.1.1,()),())).bind fun b=>
bif decide (v.2.1.length=v.2.1.length)&&(decide (v.2.2.2.2.1.length=v.2.2.2.2.1.length)&&true)then
bif b.1.1 then some (.inr (.inl ((v.1.1,()),v.2)))
else some (.inl ((aQ (v.1.1+1),v.1.2),v.2))
else none
else none
else(some (.inr (.inr ((),v.2))))
def QD(v:(CF×Ot)):Option ((CF×Ot)⊕(lJ×Ot)):=
let c:=(decide (v.1.1<((v.2.1.length:Nat):Int)))
bif c then((bif decide (0≤v.1.1∧v.1.1<v.2.1.length)then
(v.2.1[v.1.1.toNat]?).bind fun b=>
(ZU ((v.2.2.1.1,b,v.2.2.2.1.1.1,()),())).bind fun d=>
bif decide (v.2.1.length=v.2.1.length)&&(decide (v.2.2.2.2.1.length=v.2.2.2.2.1.length)&&true)then
bif !d.1.1 then bif decide (0≤v.1.2.1∧v.1.2.1<v.2.1.length)then
bif decide (v.1.2.1.toNat<v.2.1.length)then
some ((aQ (v.1.2.1+1),v.1.1,()),v.2.1.set v.1.2.1.toNat b,v.2.2)
else none
else none
else some ((v.1.2.1,v.1.1,()),v.2)
else none
else none):Option (CF×Ot)).bind fun a=>
some (.inl ((aQ (a.1.2.1+1),a.1.1,()),a.2))
else(some (.inr (v.1.2,v.2)))
def m27(v:((XG×Y27×GD×Unit)×Unit)):Option (lJ×(adE×List qM×Bb×Unit)):=
(((m36 ((v.1.1,v.1.2.1,()),())).bind fun n=>
bif !n.1.1 then some ((true,()),((0,0,()),()),(v.1.2.1,()),v.1.2.2,(v.1.1,()),())
else(m66 ((v.1.2.2.1.2.1,()),())).bind fun o=>
some ((!o.1.1,()),((0,0,()),()),(v.1.2.1,()),v.1.2.2,(v.1.1,()),())):Option (qY×(Bd×Vr×(GD×Unit)×PL×Unit))).bind fun d=>
bif d.1.1 then some ((8,()),((0,(0,0),0,()),()),[],[],())
else((m67 ((d.2.2.1.1,d.2.2.2.1.1.1,()),())).bind fun k=>
bif k.1.1 !=0 then some (k.1,((0,(0,0),0,()),()),[],[],())
else(m64 (d.2.2.1,())).bind fun l=>
(m68 ((d.2.2.2.2.1.1.1,d.2.2.2.1.1.2.1,()),())).bind fun m=>
(aB wF ((0,((m.2.1.length:Nat):Int),()),d.2.1,((d.2.2.2.1.1.1,l.2.1.1.2),()),d.2.2.2.1,d.2.2.2.2.1,m.2.1,l.2.2)).bind fun p=>
au p (fun f=>(some (f.1,((f.2.1.1.1,(0,0),f.2.1.1.2),()),[],[],()))) (fun b=>((((((aB R5 ((0,((b.2.2.2.2.1.length:Nat):Int),()),b.2.2.2.2.1,b.2.2.2.1,b.2.2.1,b.2.2.2.2.2)).bind fun q=>
au q (fun g=>(bif decide (g.2.1.length=b.2.2.2.2.1.length)&&(decide (g.2.2.2.2.1.length=b.2.2.2.2.2.1.length)&&true)then
some g
else none)) (fun h=>(bif decide (h.2.1.length=b.2.2.2.2.1.length)&&(decide (h.2.2.2.2.1.length=b.2.2.2.2.2.1.length)&&true)then
some ((-1,()),h.2)
else none))):Option (lJ×Ot)).bind fun c=>
bif c.1.1==(-1)then bif decide (c.2.1.length=b.2.2.2.2.1.length)&&(decide (c.2.2.2.2.1.length=b.2.2.2.2.2.1.length)&&true)then
some ((),c.2.1,c.2.2.2.2.1,((0,0,()),()),((c.2.2.2.1.1.1,(0,c.2.1.length),c.2.2.2.1.1.2),()),())
else none
else(aB QD ((aQ (c.1.1+1),c.1),c.2)).bind fun a=>
bif decide ((0:Int)≤a.1.1)then
bif decide (a.1.1.toNat≤a.2.1.length∧a.2.1.length≤a.2.1.length)then
bif decide (a.1.1.toNat+(a.2.1.length-a.1.1.toNat)≤a.2.1.length)then
let j:=(cu a.2.1 a.1.1.toNat (List.replicate (a.2.1.length-a.1.1.toNat) ((0,ByteArray.empty,[],0,0,()):qM)))
bif decide ((0:Int)≤a.1.1)then
bif decide (0≤a.1.1.toNat∧a.1.1.toNat≤j.length)then
bif decide (j.length=b.2.2.2.2.1.length)&&(decide (a.2.2.2.2.1.length=b.2.2.2.2.2.1.length)&&true)then
some ((),j,a.2.2.2.2.1,((0,0,()),()),((a.2.2.2.1.1.1,(0,a.1.1.toNat),a.2.2.2.1.1.2),()),())
else none
else none
else none
else none
else none
else none):Option abw).bind fun e=>
bif decide (e.2.1.length=b.2.2.2.2.1.length)&&(decide (e.2.2.1.length=b.2.2.2.2.2.1.length)&&true)then
let r:=(decide (((e.2.2.2.2.1.1.2.1.2:Nat):Int)>64))
bif r then some ((5,()),((0,(0,0),0,()),()),[],[],())
else some ((0,()),e.2.2.2.2.1,e.2.1,e.2.2.1,())
else none)))
def ai1:Abs.Spec:=⟨0,⟨[0,1,2],(.dat Zn (.dat Z20 (.dat XF .nil))),.nil⟩,⟨[6,7],(.st l7 dG),(.box 4 (.agg (.dat aU (.part Z1 (1,0) (.st (.own Z4 (2,0)) dG))) .nil) Uv)⟩,m27⟩
def ajQ:Nat→Abs.gG
 |0=>.mk (bI [(13,⟨[72,6,4,5,3,44,45,46,12,10,11,13],(.dat .bool (.st l7 (.st Ad (.st zy (.st KZ (.st (.own aU (4,0)) (.dat aU (.dat aU (.dat aU (.dat aU (.dat .str gP))))))))))),YX⟩),(1,⟨[25,6,4,5,3],(.dat .bool (.st l7 (.st Ad (.st zy (.st KZ .nil))))),(.box 4 LA (.box 4 Rs7 (.box 3 (.dat XF .nil) (.box 3 qI .nil))))⟩)]) (bI [(20,(⟨[6,4,5,3,44,45,46],(.st l7 (.st Ad (.st zy (.st KZ (.st (.own aU (4,0)) pI))))),YX⟩,some (.one .ret ⟨[6,7],(.st l7 dG),(.box 4 LA .nil)⟩))),(16,(⟨[6,4,5,3,44,45,46,12,10],(.st l7 (.st Ad (.st zy (.st KZ (.st (.own aU (4,0)) SL))))),YX⟩,none))]) (bI [(9,⟨⟨[46,6,4,5,3,44,45],(.dat aU (.st l7 (.st Ad (.st zy (.st KZ (.st (.own aU (4,0)) dG)))))),YX⟩,(.more .ret ⟨[6,7],(.st l7 dG),(.box 4 LA .nil)⟩ (.one (.exit 0) ⟨[6,4,3],(.st l7 (.st Ad (.st zy .nil))),(.box 4 LA (.box 4 aeK (.box 3 qI Uv)))⟩))⟩)]) (fun
  |21,2=>5
  |12,4=>1
  |_,_=>0)
 |1=>.mk bJ bJ bJ (fun
  |1,3=>2
  |_,_=>0)
 |2=>.mk (bI [(8,⟨[6,7],JZ,(.arr Z1 false acr)⟩)]) bJ (bI [(3,⟨⟨[1,0,2,10,9,8],(.dat .str (.st Js (.st (.clo 121 [((1,0),1,0,0)]) DC))),(.arr Z1 false acr)⟩,(.one (.exit 0) ⟨[1,9,0,2,8],(.dat .str (.dat aU (.st Js (.st (.clo 121 [((1,0),1,0,0)]) dG)))),(.arr Z1 false acr)⟩)⟩)]) (fun
  |8,11=>4
  |5,6=>3
  |_,_=>0)
 |5=>.mk (bI [(1,⟨[4,3],(.st Xi (.st U3 .nil)),ahO⟩)]) bJ bJ (fun
  |1,3=>6
  |_,_=>0)
 |6=>.mk (bI [(1,⟨[0,5,1],(.st Js (.dat aU ZE)),X3⟩)]) (bI [(6,(⟨[5,0,1,6],aaJ,X3⟩,none))]) (bI [(5,⟨⟨[6,5,0,1],(.dat aU (.dat aU (.st Js ZE))),X3⟩,af9⟩)]) (fun
  |8,2=>9
  |1,2=>7
  |_,_=>0)
 |7=>.mk bJ bJ (bI [(2,⟨⟨[8,0,1,7],aaJ,X3⟩,ahE⟩)]) (fun
  |4,5=>8
  |_,_=>0)
 |_=>{}
theorem afO:dZ 27 ai1:=okW ajQ (bG YH (bG Tj (bG ag7 (bG adq (bG ajW (bG aeu (bG ahH (bG akd (bG aiu (bG adU eT))))))))))
def mY(v:(lJ×Yq2)):Option ((lJ×Yq2)⊕(lJ×Yq2)):=
bif decide (v.2.1.1.2.2.2.2.1.1+v.2.1.1.2.2.2.2.1.2≤v.2.2.1.length)then
(m30 (((v.2.1.1.2.2.2.1,(v.2.2.1.drop v.2.1.1.2.2.2.2.1.1).take v.2.1.1.2.2.2.2.1.2,v.2.2.2.1,v.2.1.1.2.2.2.2.2.1,()),()),())).bind fun c=>
((bif !c.1.2.1 then some ((true,v.1.1,c.1.1,()),v.2)
else some ((decide (c.1.1≥v.1.1),v.1.1,c.1.1,()),v.2)):Option (VL×Yq2)).bind fun a=>
bif a.1.1 then some (.inr ((0,()),a.2))
else let d:=(decide (((aQ (a.2.1.1.2.2.2.2.2.2.1+1)):Int)>1000))
bif d then some (.inr ((5,()),((a.2.1.1.1,a.2.1.1.2.1,a.2.1.1.2.2.1,a.2.1.1.2.2.2.1,a.2.1.1.2.2.2.2.1,a.2.1.1.2.2.2.2.2.1,aQ (a.2.1.1.2.2.2.2.2.2.1+1),()),()),a.2.2))
else let e:=(if a.2.1.1.2.2.2.1>a.1.2.2.1 then a.2.1.1.2.2.2.1 else a.1.2.2.1)
bif decide (a.2.1.1.2.2.2.2.1.1+a.2.1.1.2.2.2.2.1.2≤a.2.2.1.length)then
(m75 (((a.2.1.1.1,a.2.1.1.2.1,a.2.1.1.2.2.1,()),(a.2.1.1.2.2.2.1,(a.2.2.1.drop a.2.1.1.2.2.2.2.1.1).take a.2.1.1.2.2.2.2.1.2,a.2.2.2.1,a.2.1.1.2.2.2.2.2.1,()),e,()),())).bind fun b=>
bif decide (a.2.2.2.2.1.length+b.2.2.1.length≤4294967296)then
some (.inl ((a.1.2.1,()),((a.2.1.1.1,a.2.1.1.2.1,a.2.1.1.2.2.1,b.2.1.1.1,b.2.1.1.2.1,b.2.1.1.2.2.1,aQ (a.2.1.1.2.2.2.2.2.2.1+1),()),()),b.2.2.2.1,b.2.2.2.2.1,a.2.2.2.2.1++b.2.2.1,()))
else none
else none
else none
def nU(v:agy):Option (agy⊕((lJ×(Bd×List Eg×Unit))⊕(lJ×(Bd×((List Y8×GN×Int×Int×(Nat×Nat)×Int×Int×Unit)×Unit)×List qM×Bb×List Eg×Unit)))):=
bif decide (v.1.1<v.1.2.2.2.1)then Abs.rowAt v.1.2.1 v.1.1 fun c _=>
(aB mY ((c.1,()),v.2.2.1,v.2.2.2.2)).bind fun a=>
bif decide (v.2.2.2.2.1.length=v.2.2.2.2.1.length)&&(decide (v.2.2.2.2.2.1.length=v.2.2.2.2.2.1.length)&&(decide (v.2.2.2.2.2.2.1.length=v.2.2.2.2.2.2.1.length)&&true))then
bif a.1.1 !=0 then some (.inr (.inl (a.1,((0,0,()),()),[],())))
else bif decide (a.2.1.1.2.2.2.2.1.1+a.2.1.1.2.2.2.2.1.2≤a.2.2.1.length)then
(m27 ((v.2.2.2.1.1,(a.2.1.1.2.2.2.1,(a.2.2.1.drop a.2.1.1.2.2.2.2.1.1).take a.2.1.1.2.2.2.2.1.2,a.2.2.2.1,a.2.1.1.2.2.2.2.2.1,()),c,()),())).bind fun b=>
bif b.1.1 !=0 then some (.inr (.inl (b.1,((0,0,()),()),[],())))
else some (.inl ((aQ (v.1.1+1),v.1.2),v.2.1,((a.2.1.1.1,a.2.1.1.2.1,a.2.1.1.2.2.1,b.2.1.1.1,b.2.1.1.2.1,b.2.1.1.2.2.1,a.2.1.1.2.2.2.2.2.2),()),v.2.2.2.1,b.2.2.1,b.2.2.2.1,a.2.2.2.2))
else none
else none
else(some (.inr (.inr ((v.1.2.2.1,()),v.2.1,v.2.2.1,v.2.2.2.2))))
def Q5(v:(lJ×Yq2)):Option ((lJ×Yq2)⊕(lJ×Yq2)):=
bif decide (v.2.1.1.2.2.2.2.1.1+v.2.1.1.2.2.2.2.1.2≤v.2.2.1.length)then
(m30 (((v.2.1.1.2.2.2.1,(v.2.2.1.drop v.2.1.1.2.2.2.2.1.1).take v.2.1.1.2.2.2.2.1.2,v.2.2.2.1,v.2.1.1.2.2.2.2.2.1,()),()),())).bind fun c=>
((bif !c.1.2.1 then some ((true,v.1.1,c.1.1,()),v.2)
else some ((decide (c.1.1≥v.1.1),v.1.1,c.1.1,()),v.2)):Option (VL×Yq2)).bind fun a=>
bif a.1.1 then some (.inr ((0,()),a.2))
else let d:=(decide (((aQ (a.2.1.1.2.2.2.2.2.2.1+1)):Int)>1000))
bif d then some (.inr ((5,()),((a.2.1.1.1,a.2.1.1.2.1,a.2.1.1.2.2.1,a.2.1.1.2.2.2.1,a.2.1.1.2.2.2.2.1,a.2.1.1.2.2.2.2.2.1,aQ (a.2.1.1.2.2.2.2.2.2.1+1),()),()),a.2.2))
else let e:=(if a.2.1.1.2.2.2.1>a.1.2.2.1 then a.2.1.1.2.2.2.1 else a.1.2.2.1)
bif decide (a.2.1.1.2.2.2.2.1.1+a.2.1.1.2.2.2.2.1.2≤a.2.2.1.length)then
(m75 (((a.2.1.1.1,a.2.1.1.2.1,a.2.1.1.2.2.1,()),(a.2.1.1.2.2.2.1,(a.2.2.1.drop a.2.1.1.2.2.2.2.1.1).take a.2.1.1.2.2.2.2.1.2,a.2.2.2.1,a.2.1.1.2.2.2.2.2.1,()),e,()),())).bind fun b=>
bif decide (a.2.2.2.2.1.length+b.2.2.1.length≤4294967296)then
some (.inl ((a.1.2.1,()),((a.2.1.1.1,a.2.1.1.2.1,a.2.1.1.2.2.1,b.2.1.1.1,b.2.1.1.2.1,b.2.1.1.2.2.1,aQ (a.2.1.1.2.2.2.2.2.2.1+1),()),()),b.2.2.2.1,b.2.2.2.2.1,a.2.2.2.2.1++b.2.2.1,()))
else none
else none
else none
def m15(v:((XG×List GD×Int×Unit)×Unit)):Option (lJ×abV):=
(m34 ((v.1.1,()),())).bind fun e=>
bif e.1.1 !=0 then some (e.1,((0,(0,0),0,()),()),[],[],[],())
else(bif decide ((v.1.2.1.length:Int)>256)then some ((5,()),((0,(0,0),0,()),()),[],[],[],())
else((bif decide (v.1.2.2.1<0)then some ((true,v.1.2.2.1,v.1.2.1,()),((0,0,()),()),(v.1.1,()),())
else some ((decide (v.1.2.2.1>8589934592),v.1.2.2.1,v.1.2.1,()),((0,0,()),()),(v.1.1,()),())):Option ((Bool×Int×List GD×Unit)×(Bd×PL×Unit))).bind fun a=>
bif a.1.1 then some ((1,()),((0,(0,0),0,()),()),[],[],[],())
else(m26 ((),())).bind fun f=>
(aB nU ((0,a.1.2.2.1,a.1.2.1,(a.1.2.2.1.length:Int),()),a.2.1,((a.2.2.1.1.1,a.2.2.1.1.2.1,a.2.2.1.1.2.2.1,f.2.1.1.1,(0,0),f.2.1.1.2.1,0,()),()),a.2.2.1,[],[],[],())).bind fun g=>
au g (fun d=>(some (d.1,((d.2.1.1.1,(0,0),d.2.1.1.2),()),d.2.2.1,[],[],()))) (fun b=>((aB Q5 ((aQ (b.1.1+1),()),b.2.2)).bind fun c=>
bif decide (b.2.2.2.1.length=b.2.2.2.1.length)&&(decide (b.2.2.2.2.1.length=b.2.2.2.2.1.length)&&(decide (b.2.2.2.2.2.1.length=b.2.2.2.2.2.1.length)&&true))then
bif c.1.1 !=0 then some (c.1,((0,(0,0),0,()),()),[],[],[],())
else some ((0,()),((c.2.1.1.2.2.2.1,c.2.1.1.2.2.2.2.1,c.2.1.1.2.2.2.2.2.1,()),()),c.2.2.2.2.1,c.2.2.1,c.2.2.2.1,())
else none)))
def akc:Abs.Spec:=⟨0,⟨[0,1,2],(.dat Zn (.dat (.row XF) dG)),.nil⟩,⟨[6,7,8],(.st l7 (.st qU dG)),ac3⟩,m15⟩
def ajN:Nat→Abs.gG
 |0=>.mk (bI [(6,⟨[27,6,3,2,1],(.dat .bool (.st l7 (.st rE (.dat aU (.dat (.row XF) .nil))))),(.box 4 LA (.box 3 qI .nil))⟩)]) bJ (bI [(10,⟨⟨[6,41,10,3,39,2,40],(.st l7 (.dat aU (.st (.ptr (1,0) 9 0 0) (.st zy (.dat (.row XF) pI))))),(.box 4 LA (.box 9 (.agg (.dat zJ (.dat Gn (.dat aU (.dat aU (.part Z1 (3,0) (.st (.own Z4 (4,0)) (.dat aU (.st (.own Z9 (5,0)) dG)))))))) .nil) (.box 3 qI ahk)))⟩,(.more .ret ⟨[6,7,8],(.st l7 (.st qU dG)),(.box 4 LA (.arr Z9 false .nil))⟩ (.one (.exit 1) ⟨[6,10,2],(.st l7 (.st (.ptr (1,0) 9 0 0) dG)),(.box 4 LA (.box 9 (.agg (.dat zJ (.dat Gn (.dat aU (.dat aU (.part Z1 (2,0) (.st (.own Z4 (3,0)) (.dat aU (.st (.own Z9 (4,0)) dG)))))))) .nil) ahk))⟩))⟩)]) (fun
  |19,3=>3
  |12,3=>2
  |_,_=>0)
 |1=>.mk (bI [(2,⟨[23,0,1,5],adJ,Qb5⟩)]) bJ (bI [(1,⟨⟨[0,1],(.st YP dG),Qb5⟩,acT⟩)]) iF
 |2=>.mk (bI [(2,⟨[23,0,1,5],adJ,Qb5⟩)]) bJ (bI [(1,⟨⟨[0,1],(.st YP dG),Qb5⟩,acT⟩)]) iF
 |3=>.mk (bI [(2,⟨[23,0,1,5],adJ,Qb5⟩)]) bJ (bI [(1,⟨⟨[0,1],(.st YP dG),Qb5⟩,acT⟩)]) iF
 |_=>{}
theorem agM:dZ 15 akc:=okW ajN (bG acU (bG ae9 (bG afY (bG agu (bG afO eT)))))
def m63(v:((Bb×VZ×Unit)×Unit)):Option (lJ×K4):=
(TK ((v.1.1,()),())).bind fun a=>
(TK ((([v.1.2.1]:List VZ),()),())).bind fun b=>
bif decide (a.2.1.length+b.2.1.length≤4294967296)then
(m81 ((a.2.1++b.2.1,()),())).bind fun c=>
bif c.1.1 !=0 then some (c.1,[],())
else some ((0,()),a.2.1++b.2.1,())
else none
def aiO:Abs.Spec:=⟨0,⟨[0,1],(.dat Gz (.dat Z4 .nil)),.nil⟩,⟨[4,5],(.st Xt dG),BN⟩,m63⟩
theorem ai4:dZ 63 aiO:=okW yS (bG abt (bG af5 eT))
def af3(v:Xh):Option iG:=
some ((!v.1.1.2.2.2.2.2.1,()),())
def ag8:Abs.Spec:=⟨0,⟨[0],(.dat Z7 .nil),.nil⟩,⟨[2],gP,.nil⟩,af3⟩
theorem aeL:dZ 114 ag8:=okW yS eT
def XI(v:YR):Option (YR⊕(ko⊕Cc)):=
bif decide (v.1.1<v.1.2.2.1)then Abs.rowAt v.1.2.1 v.1.1 fun a _=>
(af3 ((a,()),())).bind fun b=>
bif b.1.1 then some (.inr (.inl ((v.1.1,()),())))
else some (.inl ((aQ (v.1.1+1),v.1.2),()))
else(some (.inr (.inr ((),()))))
def aao(v:(Ou×Ox)):Option ((Ou×Ox)⊕(Unit×Ox)):=
bif decide (v.1.1<v.1.2.2.1)then((bif decide (0≤v.1.1∧v.1.1<v.2.2.1.length)then
(v.2.2.1[v.1.1.toNat]?).bind fun b=>
(((((aB XI ((0,b.2.2.1,(b.2.2.1.length:Int),()),())).bind fun e=>
au e (fun f=>(some ((decide (f.1.1≥0),()),()))) (fun h=>(some ((false,()),())))):Option iG).bind fun g=>
bif g.1.1 then bif b.2.2.2.1==(-1)then some ((true,v.1.2.1,v.1.2.2.1,v.1.1,v.1.1,()),v.2)
else some ((decide (b.2.2.2.1>v.1.2.1),v.1.2.1,v.1.2.2.1,v.1.1,v.1.1,()),v.2)
else some ((false,v.1.2.1,v.1.2.2.1,v.1.1,v.1.1,()),v.2)):Option ((Bool×Int×Int×Int×Int×Unit)×Ox)).bind fun a=>
bif a.1.1 then bif decide (0≤a.1.2.2.2.2.1∧a.1.2.2.2.2.1<a.2.2.1.length)then
(a.2.2.1[a.1.2.2.2.2.1.toNat]?).bind fun c=>
some ((a.1.2.1,a.1.2.2.1,a.1.2.2.2.1,()),a.2.1,a.2.2.1.set a.1.2.2.2.2.1.toNat (c.1,c.2.1,c.2.2.1,a.1.2.1,c.2.2.2.2),a.2.2.2)
else none
else some ((a.1.2.1,a.1.2.2.1,a.1.2.2.2.1,()),a.2)
else none):Option (Ou×Ox)).bind fun d=>
some (.inl ((aQ (d.1.2.2.1+1),d.1.1,d.1.2.1,()),d.2))
else(some (.inr ((),v.2)))
def m25(v:((XG×Y27×VZ×Unit)×Unit)):Option (CF×Ox):=
(m36 ((v.1.1,v.1.2.1,()),())).bind fun d=>
bif !d.1.1 then some ((0,8,()),((0,0,()),()),[],[],())
else(bif decide (v.1.2.1.2.2.2.1≥8589934592)then some ((0,5,()),((0,0,()),()),[],[],())
else(m63 ((v.1.2.1.2.2.1,(v.1.2.1.2.2.2.1,v.1.2.2.1.2),()),())).bind fun b=>
bif b.1.1 !=0 then some ((0,b.1),((0,0,()),()),[],[],())
else(m64 ((v.1.2.1,()),())).bind fun a=>
(aB aao ((0,v.1.2.2.1.2.2.1,((a.2.2.1.length:Nat):Int),()),((a.2.1.1.1,aQ (a.2.1.1.2.1+1),()),()),a.2.2.1,b.2)).bind fun c=>
bif decide (c.2.2.1.length=a.2.2.1.length)&&(decide (c.2.2.2.1.length=b.2.1.length)&&true)then
some ((v.1.2.1.2.2.2.1,0,()),c.2)
else none)
def air:Abs.Spec:=⟨0,⟨[0,1,2],(.dat Zn (.dat Z20 (.dat Z4 .nil))),.nil⟩,⟨[6,7,8],(.st l7 pI),TM⟩,m25⟩
def ajt:Nat→Abs.gG
 |0=>.mk bJ bJ bJ (fun
  |12,2=>1
  |_,_=>0)
 |1=>.mk (bI [(3,⟨[29,1,0,9,10,11,4],(.dat .bool (.dat aU (.st l7 (.st UD DC)))),TM⟩)]) (bI [(5,(⟨[1,0,9,10,11],(.dat aU (.st l7 (.st UD pI))),TM⟩,none))]) (bI [(1,⟨⟨[11,1,0,9,10],(.dat aU (.dat aU (.st l7 (.st UD dG)))),TM⟩,(.one (.exit 0) ⟨[],.nil,TM⟩)⟩)]) (fun
  |3,2=>2
  |_,_=>0)
 |2=>.mk (bI [(1,⟨[4],gP,.nil⟩)]) bJ bJ (fun
  |1,2=>3
  |_,_=>0)
 |3=>.mk bJ bJ (bI [(2,⟨⟨[8,0,1,7],(.dat aU (.dat D9 (.st (.clo 114 []) dG))),.nil⟩,Ro5⟩)]) iF
 |_=>{}
theorem aiy:dZ 25 air:=okW ajt (bG YH (bG ai4 (bG adq (bG aeL eT))))
def m28(v:((XG×Y27×Int×Unit)×Unit)):Option (lJ×abV):=
(m36 ((v.1.1,v.1.2.1,()),())).bind fun b=>
bif !b.1.1 then some ((8,()),((0,(0,0),0,()),()),[],[],[],())
else((m67 (v.1.2,())).bind fun a=>
bif a.1.1 !=0 then some (a.1,((0,(0,0),0,()),()),[],[],[],())
else(m75 v).bind fun c=>
some ((0,()),c.2))
def ajz:Abs.Spec:=⟨0,⟨[0,1,2],(.dat Zn (.dat Z20 dG)),.nil⟩,⟨[6,7,8],(.st l7 (.st qU dG)),ac3⟩,m28⟩
theorem ajP:dZ 28 ajz:=okW yS (bG YH (bG ag7 (bG agu eT)))
def m10(v:Cc):Option iG:=
(m15 (((([(-1,[],0,[],30,300,3600,false,())]:List Y8),[],0,()),([(100,([(bs [97],bs [120],())]:List Qz),true,())]:List GD),200,()),())).bind fun d=>
(m26 ((),())).bind fun e=>
(m25 (((([(-1,[],0,[],30,300,3600,false,())]:List Y8),[],0,()),(e.2.1.1.1,[],[],e.2.1.1.2),(0,0,1000,0,([(bs [97],0,bs [120],())]:List Ni),()),()),())).bind fun c=>
(m27 (((([(-1,[],0,[],30,300,3600,false,())]:List Y8),[],0,()),(c.2.1.1.1,c.2.2.1,c.2.2.2.1,c.2.1.1.2),(100,([(bs [97],bs [120],())]:List Qz),true,()),()),())).bind fun b=>
bif decide (b.2.1.1.2.1.1+b.2.1.1.2.1.2≤b.2.2.1.length)then
(m28 (((([(-1,[],0,[],30,300,3600,false,())]:List Y8),[],0,()),(b.2.1.1.1,(b.2.2.1.drop b.2.1.1.2.1.1).take b.2.1.1.2.1.2,b.2.2.2.1,b.2.1.1.2.2),130,()),())).bind fun a=>
bif decide (a.2.1.1.2.1.1+a.2.1.1.2.1.2≤a.2.2.2.1.length)then
(m30 (((a.2.1.1.1,(a.2.2.2.1.drop a.2.1.1.2.1.1).take a.2.1.1.2.1.2,a.2.2.2.2.1,a.2.1.1.2.2),()),())).bind fun f=>
((bif d.1.1==0 then bif c.1.2.1==0 then bif b.1.1==0 then bif a.1.1==0 then bif ((d.2.2.1.length:Nat):Int)==1 then bif decide ((0:Int)≤0∧(0:Int)<d.2.2.1.length)then
(d.2.2.1[0]?).bind fun g=>
bif g.1==130 then bif c.1.1==1 then bif ((a.2.2.1.length:Nat):Int)==0 then bif f.1.2.1 then bif f.1.1==430 then bif decide (a.2.1.1.2.1.1+a.2.1.1.2.1.2≤a.2.2.2.1.length)then
bif xG ((a.2.2.2.1.drop a.2.1.1.2.1.1).take a.2.1.1.2.1.2)then
bif decide (a.2.2.2.1.length=a.2.2.2.1.length)&&(decide (a.2.2.2.2.1.length=a.2.2.2.2.1.length)&&true)then
let h:=((((pu ((a.2.2.2.1.drop a.2.1.1.2.1.1).take a.2.1.1.2.1.2)).length:Int):Int)==1)
bif h then(m34 (((([(-1,[],0,[],30,300,3600,false,())]:List Y8),[],0,()),()),())).bind fun j=>
bif j.1.1==0 then bif decide (a.2.1.1.2.1.1+a.2.1.1.2.1.2≤a.2.2.2.1.length)then
(m36 (((([(-1,[],0,[],30,300,3600,false,())]:List Y8),[],0,()),(a.2.1.1.1,(a.2.2.2.1.drop a.2.1.1.2.1.1).take a.2.1.1.2.1.2,a.2.2.2.2.1,a.2.1.1.2.2),()),())).bind fun k=>
some k
else none
else some ((false,()),())
else some ((false,()),())
else none
else none
else none
else some ((false,()),())
else some ((false,()),())
else some ((false,()),())
else some ((false,()),())
else some ((false,()),())
else none
else some ((false,()),())
else some ((false,()),())
else some ((false,()),())
else some ((false,()),())
else some ((false,()),())):Option iG).bind fun l=>
some l
else none
else none
def ai0:Abs.Spec:=⟨0,⟨[],.nil,.nil⟩,⟨[0],gP,.nil⟩,m10⟩
def ajV:Nat→Abs.gG
 |0=>.mk (bI [(8,⟨[0],gP,.nil⟩)]) bJ bJ iF
 |_=>{}
theorem ai2:dZ 10 ai0:=okW ajV (bG agM (bG ae9 (bG aiy (bG afO (bG ajP (bG afY (bG acU (bG YH eT))))))))
def m11(v:(Bn×Unit)):Option TP:=
some ((),((v.1.1,0,()),()),())
def ajZ:Abs.Spec:=⟨0,⟨[0],(.dat rIz .nil),.nil⟩,⟨[2],Kb,sP⟩,m11⟩
theorem aj5:dZ 11 ajZ:=okW yS eT
def KU(v:Kg):Option Kg:=
((let c:=(decide (v.2.1.1.2.1≥(v.2.1.1.1.length:Int)))
bif c then some ((true,v.1),v.2)
else some ((decide (v.1.1<1),v.1),v.2)):Option (Mh×Xa)).bind fun a=>
bif a.1.1 then some ((0,()),a.2)
else(Abs.rowAt a.2.1.1.1 a.2.1.1.2.1 fun b _=>
bif decide (a.1.2.1≠(0:Int))then
((let d:=(decide ((((b:Int).tmod a.1.2.1):Int)<0))
bif d then some ((aQ (((b:Int).tmod a.1.2.1)+a.1.2.1),()),((a.2.1.1.1,aQ (a.2.1.1.2.1+1),()),()),())
else some (((b:Int).tmod a.1.2.1,()),((a.2.1.1.1,aQ (a.2.1.1.2.1+1),()),()),())):Option Kg).bind fun e=>
some e
else none)
def aji:Abs.Spec:=⟨1,⟨[0,1],SQ,sP⟩,⟨[4],dG,sP⟩,KU⟩
def aiV:Nat→Abs.gG
 |0=>.mk (bI [(1,⟨[19,1,0],(.dat .bool (.dat aU Kb)),sP⟩)]) (bI [(7,(⟨[5],dG,sP⟩,none))]) bJ iF
 |_=>{}
theorem JD:dZ 38 aji:=okW aiV eT
def m32(v:(Bn×Xa)):Option Kg:=
(KU (((v.1.1.length:Int),()),v.2)).bind fun a=>
Abs.rowAt v.1.1 a.1.1 fun b _=>
some ((b,()),a.2)
def ajR:Abs.Spec:=⟨1,⟨[0,1],(.st Jw (.dat rIz .nil)),sP⟩,⟨[4],dG,sP⟩,m32⟩
theorem ok32:dZ 32 ajR:=okW yS (bG JD eT)
def m40(v:Kg):Option (qY×Xa):=
(KU v).bind fun a=>
some ((a.1.1==(aQ (v.1.1-1)),()),a.2)
def ajm:Abs.Spec:=⟨1,⟨[0,1],SQ,sP⟩,⟨[4],gP,sP⟩,m40⟩
theorem ahg:dZ 40 ajm:=okW yS (bG JD eT)
def zW(v:(Rt×Xj)):Option ((Rt×Xj)⊕(Unit×Xj)):=
bif decide (v.1.1<4)then((Abs.rowAt ([v.1.2.1.1,v.1.2.1.2.1,v.1.2.1.2.2.1,v.1.2.1.2.2.2.1]:List ByteArray) v.1.1 fun c _=>
(m40 ((3,()),v.2.1,())).bind fun a=>
bif a.1.1 then bif decide (v.2.2.1.length+ [c].length≤4294967296)then
some ((v.1.2.1,v.1.1,()),a.2.1,v.2.2.1++ [c],())
else none
else some ((v.1.2.1,v.1.1,()),a.2.1,v.2.2)):Option ((acQ×Int×Unit)×Xj)).bind fun b=>
some (.inl ((aQ (b.1.2.1+1),b.1.1,()),b.2))
else(some (.inr ((),v.2)))
def m62(v:TP):Option (Unit×Xj):=
(aB zW ((0,(bs [97,112,112],bs [104,111,115,116],bs [115,101,118],bs [116,101,97,109],()),()),v.2.1,[],())).bind fun a=>
some ((),a.2)
def ai5:Abs.Spec:=⟨1,⟨[0],Kb,sP⟩,⟨[2],(.st (.own .str (1,0)) .nil),(.box 2 sN DI)⟩,m62⟩
def ajc:Nat→Abs.gG
 |0=>.mk bJ (bI [(7,(⟨[3,0,6,7],(.st (.own .str (1,0)) (.st Jw (.dat Zj dG))),(.box 2 sN DI)⟩,none))]) (bI [(3,⟨⟨[7,3,0,6],(.dat aU (.st (.own .str (1,0)) (.st Jw (.dat Zj .nil)))),(.box 2 sN DI)⟩,(.one (.exit 0) ⟨[3],(.st (.own .str (1,0)) .nil),(.box 2 sN DI)⟩)⟩)]) iF
 |_=>{}
theorem agn:dZ 62 ai5:=okW ajc (bG ahg eT)
def m24(v:TP):Option (Unit×(XD×((Int×Int×Int×Int×Int×Bool×Unit)×Unit)×List ByteArray×Unit)):=
(m32 (([0,30,10,60],()),v.2)).bind fun a=>
(m32 (([20,300,40],()),a.2)).bind fun b=>
(KU ((3,()),b.2)).bind fun c=>
(m62 ((),c.2)).bind fun d=>
(m32 (([0,3600,100],()),d.2.1,())).bind fun e=>
(m40 ((2,()),e.2)).bind fun f=>
some ((),f.2.1,((-1,c.1.1,a.1.1,aQ (a.1.1+b.1.1),aQ ((aQ (a.1.1+b.1.1))+e.1.1),f.1),()),d.2.2)
def ajj:Abs.Spec:=⟨1,⟨[0],Kb,sP⟩,⟨[2],(.st Xk .nil),(.box 2 sN (.box 8 (.agg (.dat aU (.st .nil (.dat aU (.st Lg (.dat aU (.dat aU JZ)))))) .nil) DI))⟩,m24⟩
theorem ake:dZ 24 ajj:=okW yS (bG ok32 (bG JD (bG agn (bG ahg eT))))
def m98(v:TP):Option (Unit×(XD×MB×Unit)):=
(KU ((5,()),v.2)).bind fun a=>
bif decide (0≤a.1.1∧a.1.1< [(bs [97,112,112]),bs [104,111,115,116],bs [115,101,118],bs [116,101,97,109],(bs [122,111,110,101])].length)then
([(bs [97,112,112]),bs [104,111,115,116],bs [115,101,118],bs [116,101,97,109],(bs [122,111,110,101])][a.1.1.toNat]?).bind fun d=>
(KU ((4,()),a.2)).bind fun c=>
(KU ((8,()),c.2)).bind fun b=>
bif decide (0≤b.1.1∧b.1.1< [(bs [97]),bs [98],ByteArray.empty,bs [42],bs [99,114,105,116],bs [63],bs [119,101,98,45,42],(bs [97,34,98,92])].length)then
([(bs [97]),bs [98],ByteArray.empty,bs [42],bs [99,114,105,116],bs [63],bs [119,101,98,45,42],(bs [97,34,98,92])][b.1.1.toNat]?).bind fun e=>
some ((),b.2.1,((d,c.1.1,e,()),()),())
else none
else none
def ajy:Abs.Spec:=⟨1,⟨[0],Kb,sP⟩,⟨[2],(.st rE .nil),(.box 2 sN Pb)⟩,m98⟩
theorem aeX:dZ 98 ajy:=okW yS (bG JD eT)
def DK(v:(lJ×QN)):Option ((lJ×QN)⊕(Unit×QN)):=
bif decide (v.1.1>0)then(m98 ((),v.2.1,())).bind fun a=>
bif decide (v.2.2.1.length+([a.2.2.1.1]:List Ni).length≤4294967296)then
let b:=(v.2.2.1++([a.2.2.1.1]:List Ni))
some (.inl ((aQ (v.1.1-1),()),a.2.1,b,()))
else none
else(some (.inr ((),v.2)))
def m97(v:Kg):Option (Unit×QN):=
(KU ((aQ (v.1.1+1),()),v.2)).bind fun a=>
(aB DK (a.1,a.2.1,[],())).bind fun b=>
some ((),b.2)
def ajX:Abs.Spec:=⟨1,⟨[0,1],SQ,sP⟩,⟨[4],YW,(.box 2 sN NR)⟩,m97⟩
def aj7:Nat→Abs.gG
 |0=>.mk bJ bJ (bI [(3,⟨⟨[6,0,5],(.dat aU (.st Jw YW)),(.box 2 sN NR)⟩,(.one (.exit 0) ⟨[5],YW,(.box 2 sN NR)⟩)⟩)]) iF
 |_=>{}
theorem aen:dZ 97 ajX:=okW aj7 (bG JD (bG aeX eT))
def DX(v:(lJ×YU)):Option ((lJ×YU)⊕(Unit×YU)):=
bif decide (v.1.1>0)then(m24 ((),v.2.1,())).bind fun a=>
(KU ((((v.2.2.1.length:Nat):Int),()),a.2.1,())).bind fun b=>
(m97 ((2,()),b.2)).bind fun c=>
bif decide (v.2.2.1.length+([(b.1.1,c.2.2.1,a.2.2.1.1.2.1,a.2.2.2.1,a.2.2.1.1.2.2)]:List Y8).length≤4294967296)then
let d:=(v.2.2.1++([(b.1.1,c.2.2.1,a.2.2.1.1.2.1,a.2.2.2.1,a.2.2.1.1.2.2)]:List Y8))
some (.inl ((aQ (v.1.1-1),()),c.2.1,d,()))
else none
else(some (.inr ((),v.2)))
def m50(v:Kg):Option (Unit×YU):=
(m24 ((),v.2)).bind fun a=>
(KU ((aQ (v.1.1+1),()),a.2.1,())).bind fun b=>
(aB DX (b.1,b.2.1,([(a.2.2.1.1.1,[],a.2.2.1.1.2.1,a.2.2.2.1,a.2.2.1.1.2.2)]:List Y8),())).bind fun c=>
some ((),c.2)
def aj3:Abs.Spec:=⟨1,⟨[0,1],SQ,sP⟩,⟨[4],(.st (.own Z2 (1,0)) .nil),adt⟩,m50⟩
def ajI:Nat→Abs.gG
 |0=>.mk bJ bJ (bI [(3,⟨⟨[6,5,0],(.dat aU (.st (.own Z2 (1,0)) Kb)),adt⟩,(.one (.exit 0) ⟨[5],(.st (.own Z2 (1,0)) .nil),adt⟩)⟩)]) iF
 |_=>{}
theorem aiw:dZ 50 aj3:=okW ajI (bG ake (bG JD (bG aen eT)))
def El(v:(lJ×R6)):Option ((lJ×R6)⊕(Unit×R6)):=
bif decide (v.1.1>0)then(m97 ((1,()),v.2.1,())).bind fun a=>
bif decide (a.2.2.1.length+([(bs [115,101,118],0,bs [99,114,105,116],())]:List Ni).length≤4294967296)then
let e:=(a.2.2.1++([(bs [115,101,118],0,bs [99,114,105,116],())]:List Ni))
(m97 ((1,()),a.2.1,())).bind fun b=>
(m98 ((),b.2.1,())).bind fun c=>
bif decide (b.2.2.1.length+([c.2.2.1.1]:List Ni).length≤4294967296)then
let f:=(b.2.2.1++([c.2.2.1.1]:List Ni))
(m62 ((),c.2.1,())).bind fun d=>
bif decide (v.2.2.1.length+([(e,f,d.2.2)]:List XQ).length≤4294967296)then
let g:=(v.2.2.1++([(e,f,d.2.2)]:List XQ))
some (.inl ((aQ (v.1.1-1),()),d.2.1,g,()))
else none
else none
else none
else(some (.inr ((),v.2)))
def i51:Abs.Sg:=⟨[0],Kb,sP⟩
def m51(v:TP):Option (Unit×R6):=
(KU ((3,()),v.2)).bind fun a=>
(aB El (a.1,a.2.1,[],())).bind fun b=>
some ((),b.2)
def aj4:Abs.Spec:=⟨1,i51,⟨[2],(.st (.own Z6 (1,0)) .nil),adC⟩,m51⟩
def aiK:Nat→Abs.gG
 |0=>.mk bJ bJ (bI [(3,⟨⟨[4,3,0],(.dat aU (.st (.own Z6 (1,0)) Kb)),adC⟩,(.one (.exit 0) ⟨[3],(.st (.own Z6 (1,0)) .nil),adC⟩)⟩)]) iF
 |_=>{}
theorem aiH:dZ 51 aj4:=okW aiK (bG JD (bG aen (bG aeX (bG agn eT))))
def m12(v:Kg):Option (Unit×(XD×(lJ×Unit)×List Y8×GN×Unit)):=
(m50 v).bind fun a=>
(m51 ((),a.2.1,())).bind fun b=>
(m32 (([0,0,200,1000],()),b.2.1,())).bind fun c=>
some ((),c.2.1,(c.1,()),a.2.2.1,b.2.2)
def aiI:Abs.Spec:=⟨1,⟨[0,1],SQ,sP⟩,⟨[4],(.st rE .nil),(.box 2 sN (.box 3 acs (.arr Z2 false (.arr Z6 false .nil))))⟩,m12⟩
theorem ajM:dZ 12 aiI:=okW yS (bG aiw (bG aiH (bG ok32 eT)))
def yX(v:(Rt×Xr)):Option ((Rt×Xr)⊕(Unit×Xr)):=
bif decide (v.1.1<4)then((Abs.rowAt ([v.1.2.1.1,v.1.2.1.2.1,v.1.2.1.2.2.1,v.1.2.1.2.2.2.1]:List ByteArray) v.1.1 fun d _=>
(KU ((6,()),v.2.1,())).bind fun a=>
bif decide (0≤a.1.1∧a.1.1< [ByteArray.empty,bs [97],bs [98],bs [99,114,105,116],bs [97,34,98,92],(bs [119,101,98,45,49])].length)then
([ByteArray.empty,bs [97],bs [98],bs [99,114,105,116],bs [97,34,98,92],(bs [119,101,98,45,49])][a.1.1.toNat]?).bind fun b=>
bif !(b.toList==ByteArray.empty.toList)then bif decide (v.2.2.1.length+([(d,b,())]:List Qz).length≤4294967296)then
let e:=(v.2.2.1++([(d,b,())]:List Qz))
some ((v.1.2.1,v.1.1,()),a.2.1,e,())
else none
else some ((v.1.2.1,v.1.1,()),a.2.1,v.2.2)
else none):Option ((acQ×Int×Unit)×Xr)).bind fun c=>
some (.inl ((aQ (c.1.2.1+1),c.1.1,()),c.2))
else(some (.inr ((),v.2)))
def m39(v:TP):Option (Unit×Xr):=
(aB yX ((0,(bs [97,112,112],bs [104,111,115,116],bs [115,101,118],bs [116,101,97,109],()),()),v.2.1,[],())).bind fun a=>
some ((),a.2)
def aj0:Abs.Spec:=⟨1,⟨[0],Kb,sP⟩,⟨[2],(.st WV .nil),(.box 2 sN qw)⟩,m39⟩
def aip:Nat→Abs.gG
 |0=>.mk bJ (bI [(8,(⟨[3,0,7,8],(.st WV (.st Jw (.dat Zj dG))),(.box 2 sN qw)⟩,none))]) (bI [(3,⟨⟨[8,3,0,7],(.dat aU (.st WV (.st Jw (.dat Zj .nil)))),(.box 2 sN qw)⟩,(.one (.exit 0) ⟨[3],(.st WV .nil),(.box 2 sN qw)⟩)⟩)]) iF
 |_=>{}
theorem aiv:dZ 39 aj0:=okW aip (bG JD eT)
def Eb(v:(CF×aav)):Option ((CF×aav)⊕(Unit×aav)):=
bif decide (v.1.1>0)then(m32 (([0,1,10,30,400],()),v.2.1,())).bind fun a=>
(m39 ((),a.2)).bind fun b=>
(KU ((3,()),b.2.1,())).bind fun c=>
bif decide (v.2.2.1.length+([(aQ (v.1.2.1+a.1.1),b.2.2.1,decide (c.1.1>0),())]:List GD).length≤4294967296)then
let d:=(v.2.2.1++([(aQ (v.1.2.1+a.1.1),b.2.2.1,decide (c.1.1>0),())]:List GD))
some (.inl ((aQ (v.1.1-1),aQ (v.1.2.1+a.1.1),()),c.2.1,d,()))
else none
else(some (.inr ((),v.2)))
def m13(v:Kg):Option (Unit×aav):=
(KU ((aQ (v.1.1+1),()),v.2)).bind fun a=>
(aB Eb ((a.1.1,0,()),a.2.1,[],())).bind fun b=>
some ((),b.2)
def ajg:Abs.Spec:=⟨1,⟨[0,1],SQ,sP⟩,⟨[4],(.st (.own XF (1,0)) .nil),adh⟩,m13⟩
def ajY:Nat→Abs.gG
 |0=>.mk bJ bJ (bI [(4,⟨⟨[7,0,5,6],(.dat aU (.st Jw (.st (.own XF (1,0)) dG))),adh⟩,(.one (.exit 0) ⟨[5],(.st (.own XF (1,0)) .nil),adh⟩)⟩)]) iF
 |_=>{}
theorem aiB:dZ 13 ajg:=okW ajY (bG JD (bG ok32 (bG aiv eT)))
def Xn(v:Cc):Option abh:=
some ((),[(bs [61]),bs [33,61],bs [126],(bs [33,126])],())
def aeE:Abs.Spec:=⟨0,⟨[],.nil,.nil⟩,⟨[0],(.st acH .nil),DI⟩,Xn⟩
theorem agx:dZ 164 aeE:=okW yS eT
def lF(v:(Ud×Td)):Option ((Ud×Td)⊕(Ud×Td)):=
((bif decide (v.1.1<(v.1.2.1.size:Int))then bif decide (0≤v.1.1∧v.1.1<v.1.2.1.size)then
let b:=(((((v.1.2.1[v.1.1.toNat]?.getD 0).toNat:Nat):Int):Int) !=61)
bif b then bif decide (0≤v.1.1∧v.1.1<v.1.2.1.size)then
let c:=(((((v.1.2.1[v.1.1.toNat]?.getD 0).toNat:Nat):Int):Int) !=33)
bif c then bif decide (0≤v.1.1∧v.1.1<v.1.2.1.size)then
let d:=(((((v.1.2.1[v.1.1.toNat]?.getD 0).toNat:Nat):Int):Int) !=126)
some ((d,v.1.2.1,v.1.1,()),v.2)
else none
else some ((false,v.1.2.1,v.1.1,()),v.2)
else none
else some ((false,v.1.2.1,v.1.1,()),v.2)
else none
else some ((false,v.1.2.1,v.1.1,()),v.2)):Option (acS×Td)).bind fun a=>
bif a.1.1 then some (.inl ((aQ (a.1.2.2.1+1),a.1.2.1,()),a.2))
else(some (.inr ((a.1.2.2.1,a.1.2.1,()),a.2)))
def gH(v:((ByteArray×Int×Unit)×acp)):Option (((ByteArray×Int×Unit)×acp)⊕(Sc×Ub)):=
let c:=(decide (v.1.2.1<((v.2.2.2.1.length:Nat):Int)))
bif c then bif decide (0≤v.1.2.1∧v.1.2.1<v.2.2.2.1.length)then
(v.2.2.2.1[v.1.2.1.toNat]?).bind fun b=>
((let d:=(decide ((v.1.1.size:Int)>(b.size:Int)))
bif d then bif decide ((0:Int)≤(b.size:Int))then
bif decide (0≤(b.size:Int).toNat∧(b.size:Int).toNat≤v.1.1.size)then
bif decide (0≤v.1.2.1∧v.1.2.1<v.2.2.2.1.length)then
(v.2.2.2.1[v.1.2.1.toNat]?).bind fun e=>
bif (v.1.1.extract 0 (b.size:Int).toNat).toList==e.toList then bif decide ((0:Int)≤(b.size:Int)∧(b.size:Int)<v.1.1.size)then
let f:=(((((v.1.1[(b.size:Int).toNat]?.getD 0).toNat:Nat):Int):Int)==34)
some ((f,(b.size:Int),v.1),v.2)
else none
else some ((false,(b.size:Int),v.1),v.2)
else none
else none
else none
else some ((false,(b.size:Int),v.1),v.2)):Option ((Bool×Int×ByteArray×Int×Unit)×acp)).bind fun a=>
bif a.1.1 then bif decide ((0:Int)≤(aQ (a.1.2.1+1)))then
bif decide ((aQ (a.1.2.1+1)).toNat≤a.1.2.2.1.size∧a.1.2.2.1.size≤a.1.2.2.1.size)then
let g:=(a.1.2.2.1.extract (aQ (a.1.2.1+1)).toNat a.1.2.2.1.size)
some (.inr ((g,()),a.2.1,((a.2.2.1.1.1,a.1.2.2.2.1,a.2.2.1.1.2.2),()),()))
else none
else none
else some (.inl ((a.1.2.2.1,aQ (a.1.2.2.2.1+1),()),a.2))
else none
else(some (.inr ((v.1.1,()),v.2.1,v.2.2.1,())))
end
noncomputable section
def fu(v:(Yy×Ub)):Option ((Yy×Ub)⊕(((ByteArray×Bool×Unit)×Td)⊕(Unit×Ub))):=
bif decide (v.1.1<(v.1.2.1.size:Int))then bif decide (0≤v.1.1∧v.1.1<v.1.2.1.size)then
let d:=(((((v.1.2.1[v.1.1.toNat]?.getD 0).toNat:Nat):Int):Int)==34)
bif d then bif decide ((0:Int)≤(aQ (v.1.1+1)))then
bif decide ((aQ (v.1.1+1)).toNat≤v.1.2.1.size∧v.1.2.1.size≤v.1.2.1.size)then
let e:=(v.1.2.1.extract (aQ (v.1.1+1)).toNat v.1.2.1.size)
some (.inr (.inl ((e,true,()),((v.2.2.1.1.1,v.2.2.1.1.2.1,v.1.2.2),()),())))
else none
else none
else((((bif decide (0≤v.1.1∧v.1.1<v.1.2.1.size)then
let f:=(((((v.1.2.1[v.1.1.toNat]?.getD 0).toNat:Nat):Int):Int)==92)
bif f then let g:=(decide (((aQ (v.1.1+1)):Int)<(v.1.2.1.size:Int)))
some ((g,v.1.2.1,v.1.2.2.1,v.1.1,()),v.2)
else some ((false,v.1.2.1,v.1.2.2.1,v.1.1,()),v.2)
else none):Option ((Bool×ByteArray×ByteArray×Int×Unit)×Ub)).bind fun b=>
bif b.1.1 then some ((b.1.2.1,aQ (b.1.2.2.2.1+1),b.1.2.2.1,()),b.2)
else some ((b.1.2.1,b.1.2.2.2.1,b.1.2.2.1,()),b.2)):Option (Ni×Ub)).bind fun a=>
bif decide ((0:Int)≤a.1.2.1)then
bif decide ((0:Int)≤(aQ (a.1.2.1+1)))then
bif decide (a.1.2.1.toNat≤(aQ (a.1.2.1+1)).toNat∧(aQ (a.1.2.1+1)).toNat≤a.1.1.size)then
let c:=(a.1.1.extract a.1.2.1.toNat (aQ (a.1.2.1+1)).toNat)
bif decide (a.1.2.2.1.size+c.size≤4294967296)then
some (.inl ((aQ (a.1.2.1+1),a.1.1,a.1.2.2.1++c,()),a.2))
else none
else none
else none
else none
else none
else(some (.inr (.inr ((),v.2))))
def NQ(v:Ca):Option ((ByteArray×Bool×Unit)×Td):=
(aB lF ((0,v.1),((ByteArray.empty,0,ByteArray.empty,()),()),())).bind fun a=>
bif decide ((0:Int)≤a.1.1)then
bif decide (0≤a.1.1.toNat∧a.1.1.toNat≤a.1.2.1.size)then
bif decide ((0:Int)≤a.1.1)then
bif decide (a.1.1.toNat≤a.1.2.1.size∧a.1.2.1.size≤a.1.2.1.size)then
let c:=(a.1.2.1.extract a.1.1.toNat a.1.2.1.size)
(Xn ((),())).bind fun d=>
(aB gH ((c,0,()),a.2.1,((a.1.2.1.extract 0 a.1.1.toNat,-1,ByteArray.empty,()),()),d.2)).bind fun b=>
bif decide (b.2.2.1.1.2.1<0)then some ((ByteArray.empty,false,()),b.2.2)
else(aB fu ((0,b.1.1,ByteArray.empty,()),b.2)).bind fun e=>
au e (fun f=>(some f)) (fun g=>(some ((ByteArray.empty,false,()),g.2.2)))
else none
else none
else none
else none
def agS:Abs.Spec:=⟨0,⟨[0],fD,.nil⟩,⟨[2,3,4],(.st mH (.dat .str gP)),Pb⟩,NQ⟩
def ahq:Nat→Abs.gG
 |0=>.mk (bI [(23,⟨[112,2,0,6,10,11],(.dat .bool (.st mH (.dat .str (.st rE OQ)))),UN⟩),(11,⟨[74,2,6,9,0,8,7],(.dat .bool (.st mH (.st rE (.dat aU (.dat .str (.dat aU (.st Lg .nil))))))),(.box 3 Fj (.box 3 Fj DI))⟩),(2,⟨[33,2,0,5],(.dat .bool (.st mH OQ)),Pb⟩)]) (bI [(25,(⟨[2,0,6,11,10],(.st mH (.dat .str (.st rE Dw))),UN⟩,none))]) (bI [(18,⟨⟨[2,11,0,6,10],(.st mH (.dat aU (.dat .str (.st rE fD)))),UN⟩,(.more .ret ⟨[2,3,4],(.st mH (.dat .str gP)),Pb⟩ (.one (.exit 4) ⟨[2,6],(.st mH (.st rE .nil)),UN⟩))⟩),(8,⟨⟨[2,6,0,8,7],(.st mH (.st rE (.dat .str (.dat aU (.st Lg .nil))))),(.box 3 Fj (.box 3 Fj DI))⟩,(.one (.exit 2) ⟨[2,6,0],(.st mH (.st rE fD)),UN⟩)⟩),(2,⟨⟨[5,2,0],(.dat aU (.st mH fD)),Pb⟩,(.one (.exit 0) ⟨[2,5,0],(.st mH Dw),Pb⟩)⟩)]) iF
 |_=>{}
theorem ah3:dZ 110 agS:=okW ahq (bG agx eT)
def wI(v:(Sc×(Y3×Unit))):Option ((Sc×(Y3×Unit))⊕(qY×(Y3×Unit))):=
(NQ (v.1,())).bind fun b=>
((bif !b.1.2.1 then some ((true,b.1.1,()),b.2.1,v.2)
else let d:=(decide (((v.2.1.length:Nat):Int)>20))
some ((d,b.1.1,()),b.2.1,v.2)):Option (Zi×(MB×Y3×Unit))).bind fun a=>
bif a.1.1 then some (.inr ((false,()),[],()))
else(bif decide (a.2.2.1.length+([a.2.1.1]:List Ni).length≤4294967296)then
let c:=(a.2.2.1++([a.2.1.1]:List Ni))
bif a.1.2.1.toList==ByteArray.empty.toList then some (.inr ((true,()),c,()))
else bif decide ((0:Int)≤0∧(0:Int)<a.1.2.1.size)then
let e:=(((((a.1.2.1[0]?.getD 0).toNat:Nat):Int):Int) !=44)
bif e then some (.inr ((false,()),[],()))
else bif decide (1≤a.1.2.1.size∧a.1.2.1.size≤a.1.2.1.size)then
some (.inl ((a.1.2.1.extract 1 a.1.2.1.size,()),c,()))
else none
else none
else none)
def m61(v:Ca):Option (qY×(Y3×Unit)):=
(aB wI (v.1,[],())).bind fun a=>
some a
def aiR:Abs.Spec:=⟨0,⟨[0],fD,.nil⟩,⟨[2,3],(.st VS gP),NR⟩,m61⟩
def aju:Nat→Abs.gG
 |0=>.mk (bI [(3,⟨[20,6,5,4],(.dat .bool (.dat .str (.st mH YW))),(.box 3 Fj NR)⟩)]) bJ (bI [(2,⟨⟨[4,0],(.st VS fD),NR⟩,(.one .ret ⟨[2,3],(.st VS gP),NR⟩)⟩)]) iF
 |_=>{}
theorem ai8:dZ 61 aiR:=okW aju (bG ah3 eT)
def uW(v:TT):Option (TT⊕(iG⊕Cc)):=
bif decide (v.1.1<(v.1.2.1.size:Int))then((bif decide (0≤v.1.1∧v.1.1<v.1.2.1.size)then
let b:=(decide (((((v.1.2.1[v.1.1.toNat]?.getD 0).toNat:Nat):Int):Int)<97))
bif b then bif decide (0≤v.1.1∧v.1.1<v.1.2.1.size)then
let c:=(decide (((((v.1.2.1[v.1.1.toNat]?.getD 0).toNat:Nat):Int):Int)<48))
bif c then bif decide (0≤v.1.1∧v.1.1<v.1.2.1.size)then
let d:=(((((v.1.2.1[v.1.1.toNat]?.getD 0).toNat:Nat):Int):Int) !=95)
some ((d,v.1.2.1,v.1.1,()),())
else none
else bif decide (0≤v.1.1∧v.1.1<v.1.2.1.size)then
let e:=(decide (((((v.1.2.1[v.1.1.toNat]?.getD 0).toNat:Nat):Int):Int)>57))
bif e then bif decide (0≤v.1.1∧v.1.1<v.1.2.1.size)then
let f:=(((((v.1.2.1[v.1.1.toNat]?.getD 0).toNat:Nat):Int):Int) !=95)
some ((f,v.1.2.1,v.1.1,()),())
else none
else some ((false,v.1.2.1,v.1.1,()),())
else none
else none
else bif decide (0≤v.1.1∧v.1.1<v.1.2.1.size)then
let g:=(decide (((((v.1.2.1[v.1.1.toNat]?.getD 0).toNat:Nat):Int):Int)>122))
bif g then bif decide (0≤v.1.1∧v.1.1<v.1.2.1.size)then
let h:=(decide (((((v.1.2.1[v.1.1.toNat]?.getD 0).toNat:Nat):Int):Int)<48))
bif h then bif decide (0≤v.1.1∧v.1.1<v.1.2.1.size)then
let j:=(((((v.1.2.1[v.1.1.toNat]?.getD 0).toNat:Nat):Int):Int) !=95)
some ((j,v.1.2.1,v.1.1,()),())
else none
else bif decide (0≤v.1.1∧v.1.1<v.1.2.1.size)then
let k:=(decide (((((v.1.2.1[v.1.1.toNat]?.getD 0).toNat:Nat):Int):Int)>57))
bif k then bif decide (0≤v.1.1∧v.1.1<v.1.2.1.size)then
let l:=(((((v.1.2.1[v.1.1.toNat]?.getD 0).toNat:Nat):Int):Int) !=95)
some ((l,v.1.2.1,v.1.1,()),())
else none
else some ((false,v.1.2.1,v.1.1,()),())
else none
else none
else some ((false,v.1.2.1,v.1.1,()),())
else none
else none):Option (acS×Unit)).bind fun a=>
bif a.1.1 then some (.inr (.inl ((false,()),())))
else some (.inl ((aQ (a.1.2.2.1+1),a.1.2.1,()),()))
else(some (.inr (.inr ((),()))))
def Sj(v:Ca):Option iG:=
((bif decide ((v.1.1.size:Int)<1)then some ((true,v.1),())
else bif decide ((v.1.1.size:Int)>24)then some ((true,v.1),())
else bif decide ((0:Int)≤0∧(0:Int)<v.1.1.size)then
let b:=(decide (((((v.1.1[0]?.getD 0).toNat:Nat):Int):Int)<97))
bif b then some ((true,v.1),())
else bif decide ((0:Int)≤0∧(0:Int)<v.1.1.size)then
let c:=(decide (((((v.1.1[0]?.getD 0).toNat:Nat):Int):Int)>122))
some ((c,v.1),())
else none
else none):Option (Zi×Unit)).bind fun a=>
bif a.1.1 then some ((false,()),())
else((aB uW ((0,a.1.2),())).bind fun d=>
au d (fun e=>(some e)) (fun f=>(some ((true,()),()))))
def aez:Abs.Spec:=⟨0,⟨[0],fD,.nil⟩,⟨[2],gP,.nil⟩,Sj⟩
def agZ:Nat→Abs.gG
 |0=>.mk (bI [(6,⟨[55,0,3],(.dat .bool OQ),.nil⟩),(1,⟨[21,0],(.dat .bool fD),.nil⟩)]) bJ (bI [(4,⟨⟨[3,0],Dw,.nil⟩,Ro4⟩)]) iF
 |_=>{}
theorem WA:dZ 105 aez:=okW agZ eT
def uY(v:TT):Option (TT⊕(iG⊕Cc)):=
bif decide (v.1.1<(v.1.2.1.size:Int))then((bif decide (0≤v.1.1∧v.1.1<v.1.2.1.size)then
let b:=(decide (((((v.1.2.1[v.1.1.toNat]?.getD 0).toNat:Nat):Int):Int)<32))
bif b then some ((true,v.1.2.1,v.1.1,()),())
else bif decide (0≤v.1.1∧v.1.1<v.1.2.1.size)then
let c:=(decide (((((v.1.2.1[v.1.1.toNat]?.getD 0).toNat:Nat):Int):Int)>126))
some ((c,v.1.2.1,v.1.1,()),())
else none
else none):Option (acS×Unit)).bind fun a=>
bif a.1.1 then some (.inr (.inl ((false,()),())))
else some (.inl ((aQ (a.1.2.2.1+1),a.1.2.1,()),()))
else(some (.inr (.inr ((),()))))
def WH(v:Ca):Option iG:=
bif decide ((v.1.1.size:Int)>64)then some ((false,()),())
else((aB uY ((0,v.1),())).bind fun a=>
au a (fun b=>(some b)) (fun c=>(some ((true,()),()))))
def aeF:Abs.Spec:=⟨0,⟨[0],fD,.nil⟩,⟨[2],gP,.nil⟩,WH⟩
def agJ:Nat→Abs.gG
 |0=>.mk (bI [(6,⟨[22,0,3],(.dat .bool OQ),.nil⟩)]) bJ (bI [(4,⟨⟨[3,0],Dw,.nil⟩,Ro4⟩)]) iF
 |_=>{}
theorem ab5:dZ 106 aeF:=okW agJ eT
def zL(v:(Qn×Unit)):Option ((Qn×Unit)⊕(iG⊕Cc)):=
let d:=(decide (v.1.1<(v.1.2.1.length:Int)))
bif d then((Abs.rowAt v.1.2.1 v.1.1 fun e _=>
(Sj ((e.1,()),())).bind fun f=>
bif !f.1.1 then some ((true,v.1.2.1,v.1.1,()),())
else Abs.rowAt v.1.2.1 v.1.1 fun g _=>
(WH (g.2,())).bind fun h=>
bif !h.1.1 then some ((true,v.1.2.1,v.1.1,()),())
else Abs.rowAt v.1.2.1 v.1.1 fun j _=>
bif j.2.1.toList==ByteArray.empty.toList then some ((true,v.1.2.1,v.1.1,()),())
else bif decide (v.1.1>0)then Abs.rowAt v.1.2.1 v.1.1 fun b _=>
Abs.rowAt v.1.2.1 (aQ (v.1.1-1)) fun c _=>
some ((Op.bytesLess b.1.toList c.1.toList||b.1.toList==c.1.toList,v.1.2.1,v.1.1,()),())
else some ((false,v.1.2.1,v.1.1,()),())):Option ((Bool×jh×Int×Unit)×Unit)).bind fun a=>
bif a.1.1 then some (.inr (.inl ((false,()),())))
else some (.inl ((aQ (a.1.2.2.1+1),a.1.2.1,()),()))
else(some (.inr (.inr ((),()))))
def m57(v:Nt):Option iG:=
bif decide ((v.1.1.length:Int)>12)then some ((false,()),())
else((aB zL ((0,v.1),())).bind fun a=>
au a (fun b=>(some b)) (fun c=>(some ((true,()),()))))
def aiz:Abs.Spec:=⟨0,⟨[0],oh,.nil⟩,⟨[2],gP,.nil⟩,m57⟩
def aiN:Nat→Abs.gG
 |0=>.mk (bI [(6,⟨[54,0,3],(.dat .bool RF),.nil⟩)]) bJ (bI [(4,⟨⟨[3,0],(.dat aU oh),.nil⟩,Ro4⟩)]) iF
 |_=>{}
theorem aco:dZ 57 aiz:=okW aiN (bG WA (bG ab5 eT))
def uS(v:(Yy×Unit)):Option ((Yy×Unit)⊕Ca):=
bif decide (v.1.1<(v.1.2.1.size:Int))then((((bif decide (0≤v.1.1∧v.1.1<v.1.2.1.size)then
let d:=(((((v.1.2.1[v.1.1.toNat]?.getD 0).toNat:Nat):Int):Int)==34)
bif d then some ((true,v.1.2.1,v.1.1,v.1.2.2),())
else bif decide (0≤v.1.1∧v.1.1<v.1.2.1.size)then
let e:=(((((v.1.2.1[v.1.1.toNat]?.getD 0).toNat:Nat):Int):Int)==92)
some ((e,v.1.2.1,v.1.1,v.1.2.2),())
else none
else none):Option ((Bool×ByteArray×Int×ByteArray×Unit)×Unit)).bind fun b=>
bif b.1.1 then bif decide (b.1.2.2.2.1.size+1≤4294967296)then
some ((b.1.2.1,b.1.2.2.1,b.1.2.2.2.1++(bs [92]),()),())
else none
else some (b.1.2,())):Option (Ni×Unit)).bind fun a=>
bif decide ((0:Int)≤a.1.2.1)then
bif decide ((0:Int)≤(aQ (a.1.2.1+1)))then
bif decide (a.1.2.1.toNat≤(aQ (a.1.2.1+1)).toNat∧(aQ (a.1.2.1+1)).toNat≤a.1.1.size)then
let c:=(a.1.1.extract a.1.2.1.toNat (aQ (a.1.2.1+1)).toNat)
bif decide (a.1.2.2.1.size+c.size≤4294967296)then
some (.inl ((aQ (a.1.2.1+1),a.1.1,a.1.2.2.1++c,()),()))
else none
else none
else none
else none
else(some (.inr (v.1.2.2,())))
def aaw(v:Ca):Option Ca:=
(aB uS ((0,v.1.1,bs [34],()),())).bind fun a=>
bif decide (a.1.1.size+1≤4294967296)then
some ((a.1.1++(bs [34]),()),())
else none
def aeo:Abs.Spec:=⟨0,⟨[0],fD,.nil⟩,⟨[2],fD,.nil⟩,aaw⟩
def af8:Nat→Abs.gG
 |0=>.mk (bI [(5,⟨[20,0,4,3],(.dat .bool (.dat .str Dw)),.nil⟩)]) (bI [(7,(⟨[0,4,3],(.dat .str Dw),.nil⟩,none))]) (bI [(3,⟨⟨[4,0,3],(.dat aU NJ),.nil⟩,(.one (.exit 0) ⟨[3],fD,.nil⟩)⟩)]) iF
 |_=>{}
theorem ahe:dZ 109 aeo:=okW af8 eT
def wE(v:Yz):Option (Yz⊕Ca):=
let d:=(decide (v.1.1<(v.1.2.1.length:Int)))
bif d then((bif decide (v.1.1>0)then bif decide (v.1.2.2.1.size+1≤4294967296)then
some ((v.1.2.1,v.1.1,v.1.2.2.1++(bs [44]),()),())
else none
else some ((v.1.2.1,v.1.1,v.1.2.2),())):Option ((jh×Int×ByteArray×Unit)×Unit)).bind fun a=>
Abs.rowAt a.1.1 a.1.2.1 fun b _=>
bif decide (b.1.size+1≤4294967296)then
Abs.rowAt a.1.1 a.1.2.1 fun e _=>
(aaw (e.2,())).bind fun c=>
bif decide ((b.1++(bs [61])).size+c.1.1.size≤4294967296)then
bif decide (a.1.2.2.1.size+((b.1++(bs [61]))++c.1.1).size≤4294967296)then
let f:=(a.1.2.2.1++((b.1++(bs [61]))++c.1.1))
some (.inl ((aQ (a.1.2.1+1),a.1.1,f,()),()))
else none
else none
else none
else(some (.inr (v.1.2.2,())))
def m59(v:Nt):Option Ca:=
(m57 v).bind fun b=>
bif !b.1.1 then some ((ByteArray.empty,()),())
else((aB wE ((0,v.1.1,bs [123],()),())).bind fun a=>
bif decide (a.1.1.size+1≤4294967296)then
some ((a.1.1++(bs [125]),()),())
else none)
def ajb:Abs.Spec:=⟨0,⟨[0],oh,.nil⟩,⟨[2],fD,.nil⟩,m59⟩
def ajK:Nat→Abs.gG
 |0=>.mk bJ (bI [(9,(⟨[0,4,3],(.dat rW Dw),.nil⟩,none))]) (bI [(5,⟨⟨[4,0,3],(.dat aU (.dat rW fD)),.nil⟩,(.one (.exit 0) ⟨[3],fD,.nil⟩)⟩)]) iF
 |_=>{}
theorem agQ:dZ 59 ajb:=okW ajK (bG aco (bG ahe eT))
def zx(v:(Ud×Qy)):Option ((Ud×Qy)⊕(Sc×OW)):=
let c:=(decide (v.1.1<((v.2.1.length:Nat):Int)))
bif c then bif decide (0≤v.1.1∧v.1.1<v.2.1.length)then
(v.2.1[v.1.1.toNat]?).bind fun a=>
bif decide (0≤v.1.1∧v.1.1<v.2.1.length)then
(v.2.1[v.1.1.toNat]?).bind fun b=>
bif decide (v.2.2.1.length+([(a.1,b.2.2)]:List Qz).length≤4294967296)then
let d:=(v.2.2.1++([(a.1,b.2.2)]:List Qz))
some (.inl ((aQ (v.1.1+1),v.1.2),v.2.1,d,()))
else none
else none
else none
else(some (.inr (v.1.2,v.2.2)))
def m22(v:Ca):Option (lJ×OW):=
((bif !(v.1.1.toList==(bs [123,125]).toList)then((bif decide ((v.1.1.size:Int)<2)then some ((true,v.1),[],())
else bif decide ((0:Int)≤0∧(0:Int)<v.1.1.size)then
let d:=(((((v.1.1[0]?.getD 0).toNat:Nat):Int):Int) !=123)
bif d then some ((true,v.1),[],())
else bif decide ((0:Int)≤(aQ ((v.1.1.size:Int)-1))∧((aQ ((v.1.1.size:Int)-1)):Int)<v.1.1.size)then
let e:=(((((v.1.1[(aQ ((v.1.1.size:Int)-1)).toNat]?.getD 0).toNat:Nat):Int):Int) !=125)
some ((e,v.1),[],())
else none
else none):Option (Zi×OW)).bind fun a=>
bif a.1.1 then some (.inr ((2,()),[],()))
else bif decide ((0:Int)≤(aQ ((a.1.2.1.size:Int)-1)))then
bif decide (1≤(aQ ((a.1.2.1.size:Int)-1)).toNat∧(aQ ((a.1.2.1.size:Int)-1)).toNat≤a.1.2.1.size)then
let f:=(a.1.2.1.extract 1 (aQ ((a.1.2.1.size:Int)-1)).toNat)
(m61 ((f,()),())).bind fun c=>
bif !c.1.1 then some (.inr ((2,()),[],()))
else(aB zx ((0,a.1.2),c.2.1,a.2)).bind fun g=>
some (.inl g)
else none
else none
else some (.inl (v.1,[],()))):Option ((Sc×OW)⊕(lJ×OW))).bind fun h=>
au h (fun b=>((m59 (b.2,())).bind fun j=>
bif !(j.1.1.toList==b.1.1.toList)then some ((2,()),[],())
else some ((0,()),b.2))) (fun k=>(some k))
def ajk:Abs.Spec:=⟨0,⟨[0],fD,.nil⟩,⟨[2,3],(.st EP dG),qw⟩,m22⟩
def ajd:Nat→Abs.gG
 |0=>.mk (bI [(3,⟨[25,4,0],(.dat .bool (.st EP fD)),qw⟩)]) (bI [(12,(⟨[4,0],(.st EP fD),qw⟩,some (.one .ret ⟨[2,3],(.st EP dG),qw⟩)))]) (bI [(9,⟨⟨[7,5,4,0],(.dat aU (.st VS (.st WV fD))),(.arr JQ false qw)⟩,(.one (.exit 0) ⟨[4,0],(.st EP fD),qw⟩)⟩)]) iF
 |_=>{}
theorem aiS:dZ 22 ajk:=okW ajd (bG ai8 (bG agQ eT))
def XP(v:Ro):Option iG:=
(((Sj ((v.1.1.1,()),())).bind fun a=>
bif a.1.1 then bif decide (v.1.1.2.1≥0)then bif decide (v.1.1.2.1≤3)then(WH (v.1.1.2.2,())).bind fun b=>
some b
else some ((false,()),())
else some ((false,()),())
else some ((false,()),())):Option iG).bind fun c=>
some c
def ahy:Abs.Spec:=⟨0,⟨[0],Fj,.nil⟩,⟨[2],gP,.nil⟩,XP⟩
def agl:Nat→Abs.gG
 |0=>.mk (bI [(1,⟨[2],gP,.nil⟩)]) bJ bJ iF
 |_=>{}
theorem ahC:dZ 162 ahy:=okW agl (bG WA (bG ab5 eT))
def uP(v:abD):Option (abD⊕(iG⊕Cc)):=
let d:=(decide (v.1.1<(v.1.2.1.length:Int)))
bif d then((Abs.rowAt v.1.2.1 v.1.1 fun e _=>
(Sj ((e,()),())).bind fun f=>
bif !f.1.1 then some ((true,v.1.2.1,v.1.1,()),())
else bif decide (v.1.1>0)then Abs.rowAt v.1.2.1 v.1.1 fun b _=>
Abs.rowAt v.1.2.1 (aQ (v.1.1-1)) fun c _=>
some ((Op.bytesLess b.toList c.toList||b.toList==c.toList,v.1.2.1,v.1.1,()),())
else some ((false,v.1.2.1,v.1.1,()),())):Option ((Bool×List ByteArray×Int×Unit)×Unit)).bind fun a=>
bif a.1.1 then some (.inr (.inl ((false,()),())))
else some (.inl ((aQ (a.1.2.2.1+1),a.1.2.1,()),()))
else(some (.inr (.inr ((),()))))
def Z0(v:(V9×Unit)):Option iG:=
(aB uP ((0,v.1),())).bind fun a=>
au a (fun b=>(some b)) (fun c=>(some ((true,()),())))
def af7:Abs.Spec:=⟨0,⟨[0],KQ,.nil⟩,⟨[2],gP,.nil⟩,Z0⟩
def ahM:Nat→Abs.gG
 |0=>.mk (bI [(4,⟨[31,0,3],(.dat .bool (.dat DZ dG)),.nil⟩)]) bJ (bI [(2,⟨⟨[3,0],(.dat aU KQ),.nil⟩,Ro4⟩)]) iF
 |_=>{}
theorem ahR:dZ 142 af7:=okW ahM (bG WA eT)
def vM(v:(lJ×Om)):Option ((lJ×Om)⊕(ko⊕(Unit×Om))):=
let a:=(decide (v.1.1<(v.2.1.1.2.1.length:Int)))
bif a then Abs.rowAt v.2.1.1.2.1 v.1.1 fun b _=>
(XP ((b,()),())).bind fun c=>
bif !c.1.1 then some (.inr (.inl ((8,()),())))
else some (.inl ((aQ (v.1.1+1),()),v.2))
else(some (.inr (.inr ((),v.2))))
def aah(v:((Y8×Unit)×Unit)):Option ko:=
((bif decide ((v.1.1.2.1.length:Int)>8)then some ((true,()),v)
else let c:=(decide ((v.1.1.2.2.2.1.length:Int)>12))
some ((c,()),v)):Option (qY×Om)).bind fun b=>
bif b.1.1 then some ((5,()),())
else((aB vM ((0,()),b.2)).bind fun d=>
au d (fun e=>(some e)) (fun a=>((Z0 ((a.2.1.1.2.2.2.1,()),())).bind fun f=>
bif !f.1.1 then some ((8,()),())
else((bif decide (a.2.1.1.2.2.1<0)then some ((true,()),())
else bif decide (a.2.1.1.2.2.2.2.1<0)then some ((true,()),())
else let g:=(decide (a.2.1.1.2.2.2.2.1>a.2.1.1.2.2.2.2.2.1))
bif g then some ((true,()),())
else let h:=(decide (a.2.1.1.2.2.2.2.2.1>a.2.1.1.2.2.2.2.2.2.1))
bif h then some ((true,()),())
else let j:=(decide (a.2.1.1.2.2.2.2.2.2.1>604800))
bif j then some ((true,()),())
else some ((a.2.1.1.2.2.2.2.2.2.1==0,()),())):Option iG).bind fun k=>
bif k.1.1 then some ((1,()),())
else some ((0,()),()))))
def agh:Abs.Spec:=⟨0,⟨[0],Ci,.nil⟩,⟨[2],dG,.nil⟩,aah⟩
def ags:Nat→Abs.gG
 |0=>.mk (bI [(10,⟨[33],gP,.nil⟩),(1,⟨[13,1],(.dat .bool Sy),NW⟩)]) bJ (bI [(4,⟨⟨[3,1],(.dat aU Sy),NW⟩,(.more .ret ⟨[2],dG,.nil⟩ (.one (.exit 0) ⟨[1],Sy,NW⟩))⟩)]) iF
 |_=>{}
theorem agV:dZ 104 agh:=okW ags (bG ahC (bG ahR eT))
def AO(v:((Int×List Y8×Unit)×Unit)):Option (((Int×List Y8×Unit)×Unit)⊕(ko⊕aa5)):=
let c:=(decide (v.1.1<(v.1.2.1.length:Int)))
bif c then((bif v.1.1==0 then Abs.rowAt v.1.2.1 v.1.1 fun d _=>
bif d.1 !=(-1)then some ((true,v.1.2.1,v.1.1,()),())
else bif decide (v.1.1>0)then Abs.rowAt v.1.2.1 v.1.1 fun e _=>
bif decide (e.1<0)then some ((true,v.1.2.1,v.1.1,()),())
else Abs.rowAt v.1.2.1 v.1.1 fun f _=>
some ((decide (f.1≥v.1.1),v.1.2.1,v.1.1,()),())
else some ((false,v.1.2.1,v.1.1,()),())
else bif decide (v.1.1>0)then Abs.rowAt v.1.2.1 v.1.1 fun g _=>
bif decide (g.1<0)then some ((true,v.1.2.1,v.1.1,()),())
else Abs.rowAt v.1.2.1 v.1.1 fun h _=>
some ((decide (h.1≥v.1.1),v.1.2.1,v.1.1,()),())
else some ((false,v.1.2.1,v.1.1,()),())):Option ((Bool×List Y8×Int×Unit)×Unit)).bind fun a=>
bif a.1.1 then some (.inr (.inl ((3,()),())))
else Abs.rowAt a.1.2.1 a.1.2.2.1 fun j _=>
(aah ((j,()),())).bind fun b=>
bif b.1.1 !=0 then some (.inr (.inl b))
else some (.inl ((aQ (a.1.2.2.1+1),a.1.2.1,()),()))
else(some (.inr (.inr (v.1.2,()))))
def m56(v:aa5):Option ko:=
bif (v.1.1.length:Int)==0 then some ((7,()),())
else(bif decide ((v.1.1.length:Int)>24)then some ((5,()),())
else(aB AO ((0,v.1),())).bind fun a=>
au a (fun b=>(some b)) (fun c=>(Abs.rowAt c.1.1 0 fun d _=>
bif decide ((d.2.1.length:Int)>0)then some ((8,()),())
else some ((0,()),()))))
def aja:Abs.Spec:=⟨0,⟨[0],Lv,.nil⟩,⟨[2],dG,.nil⟩,m56⟩
def aim:Nat→Abs.gG
 |0=>.mk (bI [(8,⟨[47,0,3],(.dat .bool R9),.nil⟩)]) bJ (bI [(6,⟨⟨[3,0],(.dat aU Lv),.nil⟩,(.more .ret ⟨[2],dG,.nil⟩ (.one (.exit 0) ⟨[0],Lv,.nil⟩))⟩)]) iF
 |_=>{}
theorem ajC:dZ 56 aja:=okW aim (bG agV eT)
def uf(v:((Int×Int×List Y8×Unit)×Bn)):Option (((Int×Int×List Y8×Unit)×Bn)⊕KY):=
let b:=(decide (v.1.1<(v.1.2.2.1.length:Int)))
bif b then((Abs.rowAt v.1.2.2.1 v.1.1 fun c _=>
bif c.1==v.1.2.1 then bif decide (v.2.1.length+ [v.1.1].length≤4294967296)then
some ((v.1.2.1,v.1.2.2.1,v.1.1,()),v.2.1++ [v.1.1],())
else none
else some ((v.1.2.1,v.1.2.2.1,v.1.1,()),v.2)):Option ((Int×List Y8×Int×Unit)×Bn)).bind fun a=>
some (.inl ((aQ (a.1.2.2.1+1),a.1.1,a.1.2.1,()),a.2))
else(some (.inr ((),v.2)))
def YZ(v:((List Y8×Int×Unit)×Unit)):Option KY:=
(aB uf ((0,v.1.2.1,v.1.1,()),[],())).bind fun a=>
some ((),a.2)
def abl:Abs.Spec:=⟨0,⟨[0,1],R9,.nil⟩,⟨[4],Jz,wY⟩,YZ⟩
def afL:Nat→Abs.gG
 |0=>.mk bJ (bI [(4,(⟨[5,1,0,6],(.st Kj (.dat aU R9)),wY⟩,none))]) (bI [(3,⟨⟨[6,5,1,0],(.dat aU (.st Kj (.dat aU Lv))),wY⟩,(.one (.exit 0) ⟨[5],Jz,wY⟩)⟩)]) iF
 |_=>{}
theorem aft:dZ 107 abl:=okW afL eT
def ve(v:Yz):Option (Yz⊕(Ca⊕Cc)):=
let a:=(decide (v.1.1<(v.1.2.1.length:Int)))
bif a then Abs.rowAt v.1.2.1 v.1.1 fun b _=>
bif b.1.toList==v.1.2.2.1.toList then Abs.rowAt v.1.2.1 v.1.1 fun c _=>
some (.inr (.inl (c.2,())))
else some (.inl ((aQ (v.1.1+1),v.1.2),()))
else(some (.inr (.inr ((),()))))
def Zh(v:((jh×ByteArray×Unit)×Unit)):Option Ca:=
(aB ve ((0,v.1),())).bind fun a=>
au a (fun b=>(some b)) (fun c=>(some ((ByteArray.empty,()),())))
def agk:Abs.Spec:=⟨0,⟨[0,1],(.dat rW fD),.nil⟩,⟨[4],fD,.nil⟩,Zh⟩
def aeQ:Nat→Abs.gG
 |0=>.mk bJ bJ (bI [(2,⟨⟨[5,0,1],(.dat aU (.dat rW fD)),.nil⟩,(.more .ret ⟨[4],fD,.nil⟩ XC)⟩)]) iF
 |_=>{}
theorem afo:dZ 203 agk:=okW aeQ eT
def iY(v:agp):Option (agp⊕((ByteArray×ByteArray×Int×Unit)×YO)):=
bif decide (v.1.1≤(v.1.2.1.size:Int))then((bif decide (0≤v.1.2.2.1∧v.1.2.2.1<v.1.2.2.2.1.size)then
let b:=(((((v.1.2.2.2.1[v.1.2.2.1.toNat]?.getD 0).toNat:Nat):Int):Int)==42)
bif b then((bif decide (0≤v.1.1∧v.1.1<v.2.2.1.length)then
(v.2.2.1[v.1.1.toNat]?).bind fun c=>
bif c then bif decide (0≤v.1.1∧v.1.1<v.2.1.length)then
bif decide (v.1.1.toNat<v.2.1.length)then
some ((v.1.2.1,v.1.2.2.1,v.1.2.2.2.1,v.1.1,()),v.2.1.set v.1.1.toNat true,v.2.2)
else none
else none
else bif decide (v.1.1>0)then bif decide ((0:Int)≤(aQ (v.1.1-1))∧((aQ (v.1.1-1)):Int)<v.2.1.length)then
(v.2.1[(aQ (v.1.1-1)).toNat]?).bind fun d=>
bif decide (0≤v.1.1∧v.1.1<v.2.1.length)then
bif decide (v.1.1.toNat<v.2.1.length)then
some ((v.1.2.1,v.1.2.2.1,v.1.2.2.2.1,v.1.1,()),v.2.1.set v.1.1.toNat d,v.2.2)
else none
else none
else none
else bif decide (0≤v.1.1∧v.1.1<v.2.1.length)then
bif decide (v.1.1.toNat<v.2.1.length)then
some ((v.1.2.1,v.1.2.2.1,v.1.2.2.2.1,v.1.1,()),v.2.1.set v.1.1.toNat false,v.2.2)
else none
else none
else none):Option ac6).bind fun e=>
some e
else bif decide (v.1.1>0)then((bif decide ((0:Int)≤(aQ (v.1.1-1))∧((aQ (v.1.1-1)):Int)<v.2.2.1.length)then
(v.2.2.1[(aQ (v.1.1-1)).toNat]?).bind fun f=>
bif f then bif decide (0≤v.1.2.2.1∧v.1.2.2.1<v.1.2.2.2.1.size)then
let g:=(((((v.1.2.2.2.1[v.1.2.2.1.toNat]?.getD 0).toNat:Nat):Int):Int)==63)
bif g then bif decide (0≤v.1.1∧v.1.1<v.2.1.length)then
bif decide (v.1.1.toNat<v.2.1.length)then
some ((v.1.2.1,v.1.2.2.1,v.1.2.2.2.1,v.1.1,()),v.2.1.set v.1.1.toNat true,v.2.2)
else none
else none
else bif decide (0≤v.1.2.2.1∧v.1.2.2.1<v.1.2.2.2.1.size)then
bif decide ((0:Int)≤(aQ (v.1.1-1))∧((aQ (v.1.1-1)):Int)<v.1.2.1.size)then
let h:=(((((v.1.2.2.2.1[v.1.2.2.1.toNat]?.getD 0).toNat:Nat):Int):Int)==(((v.1.2.1[(aQ (v.1.1-1)).toNat]?.getD 0).toNat:Nat):Int))
bif decide (0≤v.1.1∧v.1.1<v.2.1.length)then
bif decide (v.1.1.toNat<v.2.1.length)then
some ((v.1.2.1,v.1.2.2.1,v.1.2.2.2.1,v.1.1,()),v.2.1.set v.1.1.toNat h,v.2.2)
else none
else none
else none
else none
else none
else bif decide (0≤v.1.1∧v.1.1<v.2.1.length)then
bif decide (v.1.1.toNat<v.2.1.length)then
some ((v.1.2.1,v.1.2.2.1,v.1.2.2.2.1,v.1.1,()),v.2.1.set v.1.1.toNat false,v.2.2)
else none
else none
else none):Option ac6).bind fun j=>
some j
else some ((v.1.2.1,v.1.2.2.1,v.1.2.2.2.1,v.1.1,()),v.2)
else none):Option ac6).bind fun a=>
some (.inl ((aQ (a.1.2.2.2.1+1),a.1.1,a.1.2.1,a.1.2.2.1,()),a.2))
else(some (.inr ((v.1.2.1,v.1.2.2.2.1,v.1.2.2.1,()),v.2.1,())))
def Ag(v:(Ni×YO)):Option ((Ni×YO)⊕(Sc×YO)):=
let b:=(decide (v.1.2.1<(v.1.2.2.1.size:Int)))
bif b then bif decide ((0:Int)≤(aQ ((v.1.1.size:Int)+1))∧((aQ ((v.1.1.size:Int)+1)):Int)≤(aQ ((v.1.1.size:Int)+1))∧((aQ ((v.1.1.size:Int)+1)):Int)≤4294967296)then
(aB iY ((0,v.1),List.replicate (aQ ((v.1.1.size:Int)+1)).toNat (false:Bool),v.2)).bind fun a=>
some (.inl ((a.1.1,aQ (a.1.2.2.1+1),a.1.2.1,()),a.2))
else none
else(some (.inr ((v.1.1,()),v.2)))
def Vi(v:(Qz×Unit)):Option iG:=
bif decide ((0:Int)≤(aQ ((v.1.2.1.size:Int)+1))∧((aQ ((v.1.2.1.size:Int)+1)):Int)≤(aQ ((v.1.2.1.size:Int)+1))∧((aQ ((v.1.2.1.size:Int)+1)):Int)≤4294967296)then
bif decide ((0:Int)≤0∧(0:Int)<(List.replicate (aQ ((v.1.2.1.size:Int)+1)).toNat (false:Bool)).length)then
bif decide (0<(List.replicate (aQ ((v.1.2.1.size:Int)+1)).toNat (false:Bool)).length)then
(aB Ag ((v.1.2.1,0,v.1.1,()),(List.replicate (aQ ((v.1.2.1.size:Int)+1)).toNat (false:Bool)).set 0 true,())).bind fun a=>
bif decide ((0:Int)≤(a.1.1.size:Int)∧(a.1.1.size:Int)<a.2.1.length)then
(a.2.1[(a.1.1.size:Int).toNat]?).bind fun b=>
some ((b,()),())
else none
else none
else none
else none
def agc:Abs.Spec:=⟨0,⟨[0,1],NJ,.nil⟩,⟨[4],gP,.nil⟩,Vi⟩
def aeT:Nat→Abs.gG
 |0=>.mk (bI [(13,⟨[7,5,1,6,0,8],adR,Yp⟩),(11,⟨[7,5,1,6,0,8],adR,Yp⟩)]) (bI [(9,(⟨[7,5,1,6,0,8],adR,Yp⟩,none))]) (bI [(4,⟨⟨[5,1,6,0],(.st YS (.dat .str Dw)),Zx⟩,(.one (.exit 0) ⟨[1,5],(.dat .str (.st YS .nil)),Zx⟩)⟩),(8,⟨⟨[8,7,5,1,6,0],(.dat aU (.st YS (.st (.own .bool (1,0)) (.dat .str Dw)))),Yp⟩,(.one (.exit 2) ⟨[1,0,6,7],(.dat .str (.dat .str (.dat aU (.st YS .nil)))),Zx⟩)⟩)]) iF
 |_=>{}
theorem agT:dZ 204 agc:=okW aeT eT
def Yc(v:((Ni×jh×Unit)×Unit)):Option iG:=
(Zh ((v.1.2.1,v.1.1.1,()),())).bind fun a=>
bif v.1.1.2.1==0 then some ((a.1.1.toList==v.1.1.2.2.1.toList,()),())
else(bif v.1.1.2.1==1 then some ((!(a.1.1.toList==v.1.1.2.2.1.toList),()),())
else bif v.1.1.2.1==2 then(Vi ((v.1.1.2.2.1,a.1),())).bind fun b=>
some b
else bif v.1.1.2.1==3 then(Vi ((v.1.1.2.2.1,a.1),())).bind fun c=>
some ((!c.1.1,()),())
else some ((false,()),()))
def ag5:Abs.Spec:=⟨0,⟨[0,1],(.dat JQ oh),.nil⟩,⟨[4],gP,.nil⟩,Yc⟩
theorem afa:dZ 163 ag5:=okW yS (bG afo (bG agT eT))
def sW(v:((Int×jh×Y3×Unit)×Unit)):Option (((Int×jh×Y3×Unit)×Unit)⊕(iG⊕Cc)):=
let a:=(decide (v.1.1<(v.1.2.2.1.length:Int)))
bif a then Abs.rowAt v.1.2.2.1 v.1.1 fun b _=>
(Yc ((b,v.1.2.1,()),())).bind fun c=>
bif !c.1.1 then some (.inr (.inl ((false,()),())))
else some (.inl ((aQ (v.1.1+1),v.1.2),()))
else(some (.inr (.inr ((),()))))
def ZL(v:(Qy×Unit)):Option iG:=
(aB sW ((0,v.1.2.1,v.1.1,()),())).bind fun a=>
au a (fun b=>(some b)) (fun c=>(some ((true,()),())))
def abE:Abs.Spec:=⟨0,⟨[0,1],(.dat (.row JQ) oh),.nil⟩,⟨[4],gP,.nil⟩,ZL⟩
def ahn:Nat→Abs.gG
 |0=>.mk bJ bJ (bI [(2,⟨⟨[5,1,0],(.dat aU (.dat rW (.dat (.row JQ) .nil))),.nil⟩,(.more .ret ⟨[4],gP,.nil⟩ XC)⟩)]) iF
 |_=>{}
theorem aeP:dZ 108 abE:=okW ahn (bG afa eT)
def qV(rc:Uk→Option KY)(v:aaK):Option (aaK⊕(lJ×Bn)):=
let x61:=(decide (v.1.1<((v.2.1.length:Nat):Int)))
bif x61 then((bif decide (0≤v.1.1∧v.1.1<v.2.1.length)then
(v.2.1[v.1.1.toNat]?).bind fun e62=>
Abs.rowAt v.1.2.2.1 e62 fun e63 _=>
(ZL ((e63.2.1,v.1.2.2.2.1,()),())).bind fun u64=>
bif !u64.1.1 then some (.inl ((v.1.2.1,v.1.2.2.1,v.1.2.2.2.1,v.1.1,()),v.2.1,v.2.2.1,()))
else bif decide (0≤v.1.1∧v.1.1<v.2.1.length)then
(v.2.1[v.1.1.toNat]?).bind fun e65=>
(rc ((v.1.2.2.1,e65,v.1.2.2.2.1,()),())).bind fun u66=>
bif decide (v.2.2.1.length+u66.2.1.length≤4294967296)then
bif decide (0≤v.1.1∧v.1.1<v.2.1.length)then
(v.2.1[v.1.1.toNat]?).bind fun e67=>
Abs.rowAt v.1.2.2.1 e67 fun e68 _=>
bif !e68.2.2.2.2.2.2.2.1 then some (.inr ((v.1.2.1,()),v.2.2.1++u66.2.1,()))
else some (.inl ((v.1.2.1,v.1.2.2.1,v.1.2.2.2.1,v.1.1,()),v.2.1,v.2.2.1++u66.2.1,()))
else none
else none
else none
else none):Option (((Int×List Y8×jh×Int×Unit)×ZH)⊕(lJ×Bn))).bind fun r71=>
au r71 (fun v69=>(some (.inl ((aQ (v69.1.2.2.2.1+1),v69.1.1,v69.1.2.1,v69.1.2.2.1,()),v69.2.1,v69.2.2.1,())))) (fun d70=>(some (.inr ((d70.1.1,()),d70.2.1,()))))
else(some (.inr ((v.1.2.1,()),v.2.2.1,())))
def i58:Abs.Sg:=⟨[0,1,2],(.dat zJ (.dat aU oh)),.nil⟩
def o58:Abs.Sg:=⟨[6],Jz,wY⟩
def adN(rc:Uk→Option KY)(v:Uk):Option KY:=
(YZ ((v.1.1,(v.1.2.1,())),())).bind fun u60=>
(aB (qV rc) ((0,(v.1.2.1,(v.1.1,(v.1.2.2.1,())))),(u60.2.1,([],())))).bind fun d72=>
bif ((((d72.2.1.length:Nat):Int):Int)==0)then(some ((),([d72.1.1],())))
else(some ((),(d72.2.1,())))
def RX(n:Nat):Uk→Option KY:=Nat.rec (motive:=fun _=>Uk→Option KY) (fun _=>none) (fun _ rc=>adN rc) n
def m58:Uk→Option KY:=RX 400
def abA(n:Nat):Abs.Spec:=⟨0,i58,o58,RX n⟩
def aiX:Abs.Spec:=⟨0,i58,o58,m58⟩
def aj6:Nat→Abs.gG
 |0=>.mk bJ (bI [(5,(⟨[1,8,0,2,7,9],(.dat aU (.st Kj (.dat zJ (.dat rW (.st (.own aU (1,0)) dG))))),aa1⟩,some Ro6))]) (bI [(4,⟨⟨[9,1,8,0,2,7],(.dat aU (.dat aU (.st Kj (.dat zJ (.dat rW (.st (.own aU (1,0)) .nil)))))),aa1⟩,Ro6⟩)]) iF
 |_=>{}
theorem abu:∀n,Abs.gq Tryz.prog 58 (abA n)
 |0=>fun _ _ _ _ _ _ h=>by cases h
 |n+1=>Abs.wM (C:=WR) (mv:=Q8) JA (n:=12) (an:=aj6) (T:=Abs.uV [(58,abA n),(107,abl),(108,abE)]) good BM (Abs.lC _ (by simp only[List.forall_mem_cons];exact⟨abu n,aft,aeP,fun _ h=>by cases h⟩)) rfl (by intro v;kernel_rfl)
theorem aiP:Abs.gq Tryz.prog 58 aiX:=abu 400
def m19(v:((List Y8×jh×Unit)×Unit)):Option KY:=
(((m56 ((v.1.1,()),())).bind fun b=>
bif b.1.1 !=0 then some ((true,v.1.2.1,v.1.1,()),())
else(m57 (v.1.2,())).bind fun c=>
some ((!c.1.1,v.1.2.1,v.1.1,()),())):Option aaW).bind fun a=>
bif a.1.1 then some ((),[],())
else((m58 ((a.1.2.2.1,0,a.1.2.1,()),())).bind fun d=>
some ((),d.2.1,()))
def ajf:Abs.Spec:=⟨0,⟨[0,1],(.dat zJ oh),.nil⟩,⟨[4],Jz,wY⟩,m19⟩
def aiA:Nat→Abs.gG
 |0=>.mk (bI [(1,⟨[12,1,0],(.dat .bool (.dat rW Lv)),.nil⟩)]) bJ bJ iF
 |_=>{}
theorem ajs:dZ 19 ajf:=okW aiA (bG ajC (bG aco (bG aiP eT)))
def Aa(v:abf):Option (abf⊕((jh×List ByteArray×Int×Unit)×OW)):=
let b:=(decide (v.1.2.2.2.1<(v.1.2.1.length:Int)))
bif b then Abs.rowAt v.1.2.1 v.1.2.2.2.1 fun c _=>
Abs.rowAt v.1.1 v.1.2.2.1 fun d _=>
bif c.toList==d.1.toList then Abs.rowAt v.1.1 v.1.2.2.1 fun a _=>
bif decide (v.2.1.length+([a]:List Qz).length≤4294967296)then
let e:=(v.2.1++([a]:List Qz))
some (.inr ((v.1.1,v.1.2.1,v.1.2.2.1,()),e,()))
else none
else some (.inl ((v.1.1,v.1.2.1,v.1.2.2.1,aQ (v.1.2.2.2.1+1),()),v.2))
else(some (.inr ((v.1.1,v.1.2.1,v.1.2.2.1,()),v.2)))
def zK(v:abd):Option (abd⊕Ms):=
let b:=(decide (v.1.1<(v.1.2.1.length:Int)))
bif b then(aB Aa ((v.1.2.1,v.1.2.2.1,v.1.1,0,()),v.2)).bind fun a=>
some (.inl ((aQ (a.1.2.2.1+1),a.1.1,a.1.2.1,()),a.2))
else(some (.inr ((),v.2)))
def m60(v:aaZ):Option Ms:=
(aB zK ((0,v.1),[],())).bind fun a=>
some ((),a.2)
def ai7:Abs.Spec:=⟨0,⟨[0,1],(.dat rW KQ),.nil⟩,⟨[4],Xy,qw⟩,m60⟩
def ait:Nat→Abs.gG
 |0=>.mk bJ bJ (bI [(3,⟨⟨[6,0,5,1],(.dat aU (.dat rW (.st EP KQ))),qw⟩,(.one (.exit 0) ⟨[5],Xy,qw⟩)⟩),(6,⟨⟨[0,1,6,5,7],(.dat rW (.dat DZ (.dat aU (.st EP dG)))),qw⟩,(.one (.exit 2) ⟨[0,5,1,6],(.dat rW (.st EP (.dat DZ dG))),qw⟩)⟩)]) iF
 |_=>{}
theorem ajp:dZ 60 ai7:=okW ait eT
def m20(v:((Y8×jh×Unit)×Unit)):Option Ca:=
(m57 (v.1.2,())).bind fun a=>
bif !a.1.1 then some ((ByteArray.empty,()),())
else((m60 ((v.1.2.1,v.1.1.2.2.2.1,()),())).bind fun b=>
(m59 (b.2,())).bind fun c=>
some c)
def aiW:Abs.Spec:=⟨0,⟨[0,1],(.dat Z2 oh),.nil⟩,⟨[4],fD,.nil⟩,m20⟩
theorem ai3:dZ 20 aiW:=okW yS (bG aco (bG ajp (bG agQ eT)))
def zU(v:(Qn×acZ)):Option ((Qn×acZ)⊕(iG⊕Cc)):=
let b:=(decide (v.1.1<((v.2.2.2.1.length:Nat):Int)))
bif b then((bif decide (0≤v.1.1∧v.1.1<v.2.2.2.1.length)then
(v.2.2.2.1[v.1.1.toNat]?).bind fun c=>
bif c==v.2.1.1.2.1 then Abs.rowAt v.2.2.1.1.1 v.2.1.1.2.1 fun d _=>
(m20 ((d,v.1.2),())).bind fun e=>
some ((e.1.1.toList==v.2.1.1.2.2.2.1.toList,v.1.2.1,v.1.1,()),v.2)
else some ((false,v.1.2.1,v.1.1,()),v.2)
else none):Option ((Bool×jh×Int×Unit)×acZ)).bind fun a=>
bif a.1.1 then some (.inr (.inl ((true,()),())))
else some (.inl ((aQ (a.1.2.2.1+1),a.1.2.1,()),a.2))
else(some (.inr (.inr ((),()))))
def m23(v:((XG×Eg×jh×Unit)×Unit)):Option iG:=
(m19 ((v.1.1.1,v.1.2.2),())).bind fun a=>
(aB zU ((0,v.1.2.2),(v.1.2.1,()),(v.1.1,()),a.2)).bind fun b=>
au b (fun c=>(some c)) (fun d=>(some ((false,()),())))
def ai9:Abs.Spec:=⟨0,⟨[0,1,2],(.dat Zn (.dat Z9 oh)),.nil⟩,⟨[6],gP,.nil⟩,m23⟩
def akf:Nat→Abs.gG
 |0=>.mk (bI [(5,⟨[38,4,2,3,7,8],(.dat .bool (.st sO (.dat rW (.st rE (.st (.own aU (2,0)) dG))))),(.box 6 (.dat Z9 .nil) (.box 3 qI wY))⟩)]) bJ (bI [(3,⟨⟨[8,4,2,3,7],(.dat aU (.st sO (.dat rW (.st rE (.st (.own aU (2,0)) .nil))))),(.box 6 (.dat Z9 .nil) (.box 3 qI wY))⟩,(.more .ret ⟨[6],gP,.nil⟩ XC)⟩)]) iF
 |_=>{}
theorem ajG:dZ 23 ai9:=okW akf (bG ajs (bG ai3 eT))
def pq(v:((Int×Int×Int×Int×Int×Unit)×adI)):Option (((Int×Int×Int×Int×Int×Unit)×adI)⊕(iG⊕(Ou×Y34))):=
bif decide (v.1.1<v.1.2.2.2.2.1)then bif decide (0≤v.1.1∧v.1.1<v.2.2.2.1.length)then
(v.2.2.2.1[v.1.1.toNat]?).bind fun b=>
(m22 ((b,()),())).bind fun c=>
((bif c.1.1 !=0 then some ((true,v.1.2.1,v.1.2.2.1,v.1.2.2.2.1,v.1.2.2.2.2.1,v.1.1,()),v.2)
else(m23 (((v.2.2.2.2.2.1,v.2.2.2.2.2.2.1,v.2.2.1.1),v.2.1.1,c.2),())).bind fun d=>
bif !d.1.1 then some ((true,v.1.2.1,v.1.2.2.1,v.1.2.2.2.1,v.1.2.2.2.2.1,v.1.1,()),v.2)
else bif decide (v.1.1>0)then let e:=(decide (v.1.1<(v.2.1.1.2.2.2.2.1.length:Int)))
bif e then Abs.rowAt v.2.1.1.2.2.2.2.1 (aQ (v.1.1-1)) fun f _=>
some ((!(Op.bytesLess f.toList b.toList),v.1.2.1,v.1.2.2.1,v.1.2.2.2.1,v.1.2.2.2.2.1,v.1.1,()),v.2)
else some ((false,v.1.2.1,v.1.2.2.1,v.1.2.2.2.1,v.1.2.2.2.2.1,v.1.1,()),v.2)
else some ((false,v.1.2.1,v.1.2.2.1,v.1.2.2.2.1,v.1.2.2.2.2.1,v.1.1,()),v.2)):Option ((Bool×Int×Int×Int×Int×Int×Unit)×adI)).bind fun a=>
bif a.1.1 then some (.inr (.inl ((false,()),())))
else some (.inl ((aQ (a.1.2.2.2.2.2.1+1),a.1.2.1,a.1.2.2.1,a.1.2.2.2.1,a.1.2.2.2.2.1,()),a.2))
else none
else(some (.inr (.inr ((v.1.2.1,v.1.2.2.1,v.1.2.2.2.1,()),v.2.1,v.2.2.2.2.1,v.2.2.1,v.2.2.2.2.2))))
def mU(v:agi):Option (agi⊕((ByteArray×Bool×(Nat×Nat)×Int×List ByteArray×Int×Int×Int×Int×Int×Int×Unit)×Y34)):=
let b:=(decide (v.1.1<v.1.2.2.2.2.2.2.2.2.2.2.2.2.2.1))
bif b then Abs.rowAt v.1.2.2.2.1 v.1.1 fun c _=>
((bif v.1.2.2.1 then some ((v.1.2.1,true,v.1.2.2.2.1,v.1.2.2.2.2.1,v.1.2.2.2.2.2.1,v.1.2.2.2.2.2.2.1,v.1.2.2.2.2.2.2.2.1,v.1.2.2.2.2.2.2.2.2.1,v.1.2.2.2.2.2.2.2.2.2.1,v.1.2.2.2.2.2.2.2.2.2.2.1,v.1.2.2.2.2.2.2.2.2.2.2.2.1,v.1.2.2.2.2.2.2.2.2.2.2.2.2.1,v.1.2.2.2.2.2.2.2.2.2.2.2.2.2.1,v.1.1,()),v.2)
else bif c.toList==v.1.2.1.toList then bif v.2.2.1.1.2.1==v.2.1.1.2.1 then some ((v.1.2.1,v.2.2.1.1.2.2.2.1.toList==v.2.1.1.2.2.2.1.toList,v.1.2.2.2.1,v.1.2.2.2.2.1,v.1.2.2.2.2.2.1,v.1.2.2.2.2.2.2.1,v.1.2.2.2.2.2.2.2.1,v.1.2.2.2.2.2.2.2.2.1,v.1.2.2.2.2.2.2.2.2.2.1,v.1.2.2.2.2.2.2.2.2.2.2.1,v.1.2.2.2.2.2.2.2.2.2.2.2.1,v.1.2.2.2.2.2.2.2.2.2.2.2.2.1,v.1.2.2.2.2.2.2.2.2.2.2.2.2.2.1,v.1.1,()),v.2)
else some ((v.1.2.1,false,v.1.2.2.2.1,v.1.2.2.2.2.1,v.1.2.2.2.2.2.1,v.1.2.2.2.2.2.2.1,v.1.2.2.2.2.2.2.2.1,v.1.2.2.2.2.2.2.2.2.1,v.1.2.2.2.2.2.2.2.2.2.1,v.1.2.2.2.2.2.2.2.2.2.2.1,v.1.2.2.2.2.2.2.2.2.2.2.2.1,v.1.2.2.2.2.2.2.2.2.2.2.2.2.1,v.1.2.2.2.2.2.2.2.2.2.2.2.2.2.1,v.1.1,()),v.2)
else some ((v.1.2.1,false,v.1.2.2.2.1,v.1.2.2.2.2.1,v.1.2.2.2.2.2.1,v.1.2.2.2.2.2.2.1,v.1.2.2.2.2.2.2.2.1,v.1.2.2.2.2.2.2.2.2.1,v.1.2.2.2.2.2.2.2.2.2.1,v.1.2.2.2.2.2.2.2.2.2.2.1,v.1.2.2.2.2.2.2.2.2.2.2.2.1,v.1.2.2.2.2.2.2.2.2.2.2.2.2.1,v.1.2.2.2.2.2.2.2.2.2.2.2.2.2.1,v.1.1,()),v.2)):Option ((ByteArray×Bool×List ByteArray×(Nat×Nat)×Int×List ByteArray×Int×Int×Int×Int×Int×Int×Int×Int×Unit)×((Eg×Unit)×(Eg×Unit)×List Eg×(lJ×Unit)×List Y8×GN×Unit))).bind fun a=>
some (.inl ((aQ (a.1.2.2.2.2.2.2.2.2.2.2.2.2.2.1+1),a.1.1,a.1.2.1,a.1.2.2.1,a.1.2.2.2.1,a.1.2.2.2.2.1,a.1.2.2.2.2.2.1,a.1.2.2.2.2.2.2.1,a.1.2.2.2.2.2.2.2.1,a.1.2.2.2.2.2.2.2.2.1,a.1.2.2.2.2.2.2.2.2.2.1,a.1.2.2.2.2.2.2.2.2.2.2.1,a.1.2.2.2.2.2.2.2.2.2.2.2.1,a.1.2.2.2.2.2.2.2.2.2.2.2.2.1,()),a.2))
else(some (.inr ((v.1.2.1,v.1.2.2.1,v.1.2.2.2.2.1,v.1.2.2.2.2.2.1,v.1.2.2.2.2.2.2.1,v.1.2.2.2.2.2.2.2.1,v.1.2.2.2.2.2.2.2.2.1,v.1.2.2.2.2.2.2.2.2.2.1,v.1.2.2.2.2.2.2.2.2.2.2.1,v.1.2.2.2.2.2.2.2.2.2.2.2.1,v.1.2.2.2.2.2.2.2.2.2.2.2.2.1,()),v.2.1,v.2.2.2)))
def wL(v:afS):Option (afS⊕((Int×List ByteArray×Int×Int×Int×Int×Bool×Unit)×Y34)):=
let c:=(decide (v.1.2.2.1<v.1.2.2.2.2.2.2.2.2.2.2.1))
bif c then bif decide (0≤v.1.2.2.1∧v.1.2.2.1<v.1.2.2.2.1.2)then
(v.2.2.1[(v.1.2.2.2.1.1+v.1.2.2.1.toNat)]?).bind fun b=>
(aB mU ((0,v.1.1,v.1.2.1,b.2.2.2.2.1,v.1.2.2.2.1,v.1.2.2.2.2.1,v.1.2.2.2.2.2.1,v.1.2.2.2.2.2.2.1,v.1.2.2.2.2.2.2.2.1,v.1.2.2.2.2.2.2.2.2.1,v.1.2.2.2.2.2.2.2.2.2.1,v.1.2.2.2.2.2.2.2.2.2.2.1,v.1.2.2.1,(b.2.2.2.2.1.length:Int),()),v.2.1,(b,()),v.2.2)).bind fun a=>
some (.inl ((a.1.1,a.1.2.1,aQ (a.1.2.2.2.2.2.2.2.2.2.2.1+1),a.1.2.2.1,a.1.2.2.2.1,a.1.2.2.2.2.1,a.1.2.2.2.2.2.1,a.1.2.2.2.2.2.2.1,a.1.2.2.2.2.2.2.2.1,a.1.2.2.2.2.2.2.2.2.1,a.1.2.2.2.2.2.2.2.2.2.1,()),a.2))
else none
else(some (.inr ((v.1.2.2.2.2.1,v.1.2.2.2.2.2.1,v.1.2.2.2.2.2.2.1,v.1.2.2.2.2.2.2.2.1,v.1.2.2.2.2.2.2.2.2.1,v.1.2.2.2.2.2.2.2.2.2.1,v.1.2.1,()),v.2)))
def yU(v:afW):Option (afW⊕(iG⊕(Ou×Za))):=
bif decide (v.1.1<v.1.2.2.2.2.2.1)then Abs.rowAt v.1.2.2.1 v.1.1 fun b _=>
bif decide ((0:Int)≤v.1.2.1)then
bif decide (0≤v.1.2.1.toNat∧v.1.2.1.toNat≤v.2.2.1.length)then
(aB wL ((b,false,0,(0,v.1.2.1.toNat),v.1.2.1,v.1.2.2.1,v.1.2.2.2.1,v.1.2.2.2.2.1,v.1.2.2.2.2.2.1,v.1.1,((v.1.2.1.toNat:Nat):Int),()),v.2)).bind fun a=>
bif !a.1.2.2.2.2.2.2.1 then some (.inr (.inl ((false,()),())))
else some (.inl ((aQ (a.1.2.2.2.2.2.1+1),a.1.1,a.1.2.1,a.1.2.2.1,a.1.2.2.2.1,a.1.2.2.2.2.1,()),a.2))
else none
else none
else(some (.inr (.inr ((v.1.2.2.2.1,v.1.2.2.2.2.1,v.1.2.1,()),v.2.1,v.2.2.2.1,v.2.2.1,v.2.2.2.2))))
def qX(v:abH):Option (abH⊕(iG⊕acj)):=
bif decide (v.1.1<v.1.2.2.2.2.1)then bif decide (0≤v.1.1∧v.1.1<v.1.2.1.2)then
(v.2.2.2.1[(v.1.2.1.1+v.1.1.toNat)]?).bind fun b=>
((bif b.2.1==v.2.1.1.2.1 then bif b.2.2.2.1.toList==v.2.1.1.2.2.2.1.toList then bif decide (0≤v.2.1.1.2.1∧v.2.1.1.2.1<v.2.2.2.2.1.length)then
(v.2.2.2.2.1[v.2.1.1.2.1.toNat]?).bind fun c=>
let d:=(decide (((aQ (v.2.1.1.1-b.1)):Int)<c.2.2.2.2.2.1))
some ((d,v.1.2.1,v.1.2.2.1,v.1.2.2.2.1,v.1.2.2.2.2.1,v.1.1,()),v.2)
else none
else some ((false,v.1.2.1,v.1.2.2.1,v.1.2.2.2.1,v.1.2.2.2.2.1,v.1.1,()),v.2)
else some ((false,v.1.2.1,v.1.2.2.1,v.1.2.2.2.1,v.1.2.2.2.2.1,v.1.1,()),v.2)):Option ((Bool×(Nat×Nat)×Int×Int×Int×Int×Unit)×Za)).bind fun a=>
bif a.1.1 then some (.inr (.inl ((false,()),())))
else some (.inl ((aQ (a.1.2.2.2.2.2.1+1),a.1.2.1,a.1.2.2.1,a.1.2.2.2.1,a.1.2.2.2.2.1,()),a.2))
else none
else(some (.inr (.inr ((v.1.2.2.1,v.1.2.2.2.1,()),v.2.2))))
def yh(v:acj):Option (acj⊕(iG⊕Cc)):=
bif decide (v.1.1<v.1.2.1)then bif decide (0≤v.1.1∧v.1.1<v.2.2.1.length)then
(v.2.2.1[v.1.1.toNat]?).bind fun a=>
((bif decide (a.2.1<0)then some ((true,v.1.1,v.1.2.1,v.1.1,()),(a,()),v.2)
else let f:=(decide (a.2.1≥((v.2.2.2.1.length:Nat):Int)))
bif f then some ((true,v.1.1,v.1.2.1,v.1.1,()),(a,()),v.2)
else bif decide (0≤a.2.1∧a.2.1<v.2.2.2.1.length)then
(v.2.2.2.1[a.2.1.toNat]?).bind fun g=>
bif a.2.2.1 !=g.2.2.1 then some ((true,v.1.1,v.1.2.1,v.1.1,()),(a,()),v.2)
else let h:=(aQ ((a.2.2.2.2.1.length:Int)+(a.2.2.2.2.2.1.length:Int)))
bif h==0 then some ((true,v.1.1,v.1.2.1,v.1.1,()),(a,()),v.2)
else bif decide (v.1.1>0)then bif decide ((0:Int)≤(aQ (v.1.1-1))∧((aQ (v.1.1-1)):Int)<v.2.2.1.length)then
(v.2.2.1[(aQ (v.1.1-1)).toNat]?).bind fun j=>
some ((decide (a.1<j.1),v.1.1,v.1.2.1,v.1.1,()),(a,()),v.2)
else none
else some ((false,v.1.1,v.1.2.1,v.1.1,()),(a,()),v.2)
else none):Option ((Bool×Int×Int×Int×Unit)×Za)).bind fun b=>
bif b.1.1 then some (.inr (.inl ((false,()),())))
else bif decide (0+b.2.1.1.2.2.2.2.1.length≤4294967296)then
bif decide (b.2.1.1.2.2.2.2.1.length+b.2.1.1.2.2.2.2.2.1.length≤4294967296)then
(aB pq ((0,b.1.2.1,b.1.2.2.1,b.1.2.2.2.1,(((b.2.1.1.2.2.2.2.1++b.2.1.1.2.2.2.2.2.1).length:Nat):Int),()),b.2.1,b.2.2.1,b.2.1.1.2.2.2.2.1++b.2.1.1.2.2.2.2.2.1,b.2.2.2)).bind fun k=>
au k (fun l=>(some (.inr (.inl l)))) (fun d=>((aB yU ((0,d.1.1,d.2.1.1.2.2.2.2.2.1,d.1.2.1,d.1.2.2.1,(d.2.1.1.2.2.2.2.2.1.length:Int),()),d.2)).bind fun m=>
au m (fun n=>(some (.inr (.inl n)))) (fun c=>(bif decide ((0:Int)≤c.1.2.2.1)then
bif decide (0≤c.1.2.2.1.toNat∧c.1.2.2.1.toNat≤c.2.2.2.1.length)then
(aB qX ((0,(0,c.1.2.2.1.toNat),c.1.1,c.1.2.1,((c.1.2.2.1.toNat:Nat):Int),()),c.2)).bind fun o=>
au o (fun p=>(some (.inr (.inl p)))) (fun e=>(some (.inl ((aQ (e.1.2.1+1),e.1.1,()),e.2))))
else none
else none))))
else none
else none
else none
else(some (.inr (.inr ((),()))))
def m5(v:(Bn×Unit)):Option iG:=
(m9 v).bind fun c=>
bif !c.1.1 then(m10 ((),())).bind fun d=>
some d
else((m11 v).bind fun e=>
(m12 ((3,()),e.2)).bind fun a=>
(m13 ((14,()),a.2.1,())).bind fun f=>
(m15 (((a.2.2.2.1,a.2.2.2.2.1,a.2.2.1.1),f.2.2.1,4000,()),())).bind fun b=>
bif b.1.1 !=0 then((bif b.1.1==5 then(m10 ((),())).bind fun g=>
some g
else some ((false,()),())):Option iG).bind fun h=>
some h
else(aB yh ((0,((b.2.2.1.length:Nat):Int),()),a.2.2.1,b.2.2.1,a.2.2.2)).bind fun j=>
au j (fun k=>(some k)) (fun m=>((m10 ((),())).bind fun l=>
some l)))
def sp5:Abs.Spec:=⟨0,⟨[0],(.dat rIz .nil),.nil⟩,⟨[2],gP,.nil⟩,m5⟩
def an5:Nat→Abs.gG
 |0=>.mk (bI [(39,⟨[230,9,4,198,6,46,47,48,199,200],(.dat .bool (.st sO (.st rE (.part Z9 (2,0) (.st Dz (.st Dz SL)))))),YT⟩),(30,⟨[9,18,15,16,165,158,8,6,150,4,46,47,48,151,152,159,160,166,167],(.st sO (.st Du (.dat .str (.dat .bool (.dat DZ (.part Z9 (2,0) (.dat aU (.st Dz (.dat DZ (.st KZ (.st Dz (.dat aU (.dat aU Vq))))))))))))),afD⟩),(17,⟨[147,9,4,106,8,6,46,47,48,107,108],(.dat .bool (.st sO (.st rE (.st Lg (.dat aU (.st (.own Z9 (3,0)) (.st (.own Z9 (3,0)) SL))))))),ahL⟩),(11,⟨[100,9,4,8,6,46,47,48],(.dat .bool (.st sO (.st rE (.dat aU (.st Dz (.st Dz pI)))))),YT⟩),(7,⟨[2],gP,.nil⟩)]) bJ (bI [(9,⟨⟨[4,6,48,46,47],(.st mH (.st qU (.dat aU (.st qU dG)))),(.box 3 acs (.arr Z9 false Rb8))⟩,Ro4⟩),(37,⟨⟨[200,9,4,198,6,46,47,48,199],(.dat aU (.st sO (.st rE (.part Z9 (2,0) (.st Dz (.st Dz DC)))))),YT⟩,(.more .ret ⟨[2],gP,.nil⟩ (.one (.exit 10) ⟨[4,6,46,47,48],(.st mH (.st qU (.st qU pI))),(.box 3 acs (.arr Z9 false Rb8))⟩))⟩),(21,⟨⟨[9,152,8,6,150,4,46,47,48,151],(.st sO (.dat aU (.dat aU (.st qU (.dat DZ (.st zy (.st qU DC))))))),U4⟩,(.more .ret ⟨[2],gP,.nil⟩ (.one (.exit 4) ⟨[9,4,6,46,47,48,8],(.st sO (.st rE (.st Dz (.st Dz DC)))),YT⟩))⟩),(25,⟨⟨[9,15,16,160,158,8,6,150,4,46,47,48,151,152,159],(.st sO (.dat .str (.dat .bool (.dat aU (.part Z9 (1,0) (.dat aU (.st qU (.dat DZ (.st zy (.st qU (.dat aU SL))))))))))),U4⟩,(.one (.exit 6) ⟨[9,8,6,150,4,46,47,48,151,152,16],(.st sO (.dat aU (.st qU (.dat DZ (.st zy (.st qU (.dat aU (.dat aU (.dat aU JZ))))))))),U4⟩)⟩),(28,⟨⟨[167,9,18,15,16,165,158,8,6,150,4,46,47,48,151,152,159,160,166],(.dat aU (.st sO (.st Du (.dat .str (.dat .bool (.dat DZ (.part Z9 (2,0) (.dat aU (.st Dz (.dat DZ (.st KZ (.st Dz (.dat aU Vq))))))))))))),afD⟩,(.one (.exit 8) ⟨[9,15,16,158,8,6,150,4,46,47,48,151,152,159,160],(.st sO (.dat .str (.dat .bool (.part Z9 (1,0) (.dat aU (.st qU (.dat DZ (.st zy (.st qU Vq))))))))),U4⟩)⟩),(14,⟨⟨[108,9,4,106,8,6,46,47,48,107],(.dat aU (.st sO (.st rE (.st Lg (.dat aU (.st (.own Z9 (3,0)) (.st (.own Z9 (3,0)) DC))))))),ahL⟩,(.more .ret ⟨[2],gP,.nil⟩ (.one (.exit 2) ⟨[9,8,6,4,46,47,48],(.st sO (.dat aU (.st qU (.st zy (.st qU pI))))),U4⟩))⟩)]) iF
 |_=>{}
theorem ok5:dZ 5 sp5:=okW an5 (bG ok9 (bG ai2 (bG aj5 (bG ajM (bG aiB (bG agM (bG aiS (bG ajG eT))))))))
end
end Go.Proofs.YtchnmpafhfjimaaGreatDoor
namespace Go.Proofs.YtchnmpafhfjimaaGreatDoor
open Go Go.Abs Go.Lab
theorem sS:(∀h:Decidable True,@decide True h=true)∧(∀h:Decidable False,@decide False h=false)∧(∀{α:Type} (a b:α),cond true a b=a)∧(∀{α:Type} (a b:α),cond false a b=b)∧(∀{α β:Type} (a:α) (f:α→Option β),(some a).bind f=f a)∧(!true)=false∧(!false)=true∧(∀b:Bool,(true&&b)=b)∧(∀b:Bool,(b&&true)=b)∧(∀b:Bool,(false&&b)=false)∧(∀b:Bool,(b&&false)=false)∧(∀{α:Type} [BEq α] [LawfulBEq α] (a:α),(a==a)=true)∧(∀{α:Type} [BEq α] [LawfulBEq α] (a:α),(a !=a)=false):=
 ⟨fun _=>alR _,fun _=>alY _,fun _ _=>rfl,fun _ _=>rfl,fun _ _=>rfl,rfl,rfl,alq,Bool.and_true,alH,Bool.and_false,fun _=>alF _,fun _=>ali _⟩
def qQ{A B:Type}(l:List A)(n:Int)(F:A→Option B):Option B:=bif decide (0≤n)then(l[n.toNat]?).bind F else none
theorem aI{A B:Type}{l:List A}{n:Int}(F:A→Option B):Abs.rowAt l n (fun e _=>F e)=qQ l n F:=by
 unfold Abs.rowAt qQ;cases l[n.toNat]?<;>rfl
theorem aF{A B:Type}{l:List A}{i:Nat}{e:A}(h:l[i]?=some e)(F:A→Option B):qQ l (i:Int) F=F e:=by
 unfold qQ;rw[show decide (0≤(i:Int))=true from ak7 (by omega),akA,h];rfl
theorem jo{A B:Type}{l:List A}{n:Int}{e:A}(h0:0≤n)(h:l[n.toNat]?=some e)(F:A→Option B):qQ l n F=F e:=by
 unfold qQ;rw[show decide (0≤n)=true from ak7 h0,h];rfl
theorem aG{i:Nat}(h:i<9223372036854775807):aQ ((i:Int)+1)=((i+1:Nat):Int):=by rw[bH (by omega) (by omega)];omega
theorem drop_at{A:Type}{l:List A}{i:Nat}(h:i<l.length):∃e,l[i]?=some e∧l.drop i=e::l.drop (i+1):=
 ⟨l[i],akH h,List.drop_eq_getElem_cons h⟩
theorem getD_some{A:Type}{l:List A}{i:Nat}(h:i<l.length):∃e,l[i]?=some e:=⟨_,akH h⟩
theorem aP{A B:Type}{o:Option A}{f:A→Option B}{y:Option B}(x:A)(h:o=some x)(h2:f x=y):o.bind f=y:=by rw[h];exact h2
theorem dz(a b:Int):(a==b)=decide (a=b):=by
 by_cases h:a=b<;>simp[h]
abbrev bl(s:ByteArray):List UInt8:=s.data.toList
theorem aX(s:ByteArray):(bl s).length=s.size:=Array.length_toList
theorem LU(s:ByteArray)(i:Nat):(s[i]?:Option UInt8)=(bl s)[i]?:=by
 rw[Array.getElem?_toList];by_cases h:i<s.size
 ·rw[getElem?_pos s i h,getElem?_pos s.data i h];rfl
 ·rw[getElem?_neg s i h,getElem?_neg s.data i h]
theorem bg(s:ByteArray):s.toList=bl s:=ByteArray.toList_eq s
theorem pU{s t:ByteArray}(h:bl s=bl t):s=t:=ByteArray.ext (Array.toList_inj.1 h)
theorem kr(l:List UInt8):bl (bR l)=l:=rfl
theorem abn(s:ByteArray):bR (bl s)=s:=pU rfl
theorem Er:bl ByteArray.empty=[]:=rfl
theorem jK(s t:ByteArray):(bl s==bl t)=decide (s=t):=by
 by_cases h:s=t
 ·subst h;simp
 ·have:bl s≠bl t:=fun e=>h (pU e)
  rw[ak9 h];exact akR.2 this
theorem size_mk(l:List UInt8):(bR l).size=l.length:=rfl
theorem ic(s:ByteArray)(a b:Nat):bl (s.extract a b)=((bl s).drop a).take (b-a):=by
 exact Lib.extract_data s a b
abbrev LT:Type:=ByteArray×ByteArray×Unit
abbrev MT:Type:=ByteArray×Int×ByteArray×Unit
def u8(c:UInt8):Int:=((c.toNat:Nat):Int)
theorem Gl(c:UInt8):iw c=((decide (97≤u8 c)&&decide (u8 c≤122))||(decide (48≤u8 c)&&decide (u8 c≤57))||u8 c==95):=by
 have e:(c==95)=(u8 c==95):=by
  by_cases h:c=95
  ·subst h;rfl
  ·have:u8 c≠95:=fun e=>h (UInt8.toNat_inj.1 (by unfold u8 at e;show c.toNat=95;omega))
   rw[akR.2 h,akR.2 this]
 unfold iw;rw[e];have le:∀(n:UInt8),decide (n≤c)=decide ((n.toNat:Int)≤u8 c):=fun n=>alM.2 (by rw[UInt8.le_iff_toNat_le];unfold u8;omega)
 have ge:∀(n:UInt8),decide (c≤n)=decide (u8 c≤(n.toNat:Int)):=fun n=>alM.2 (by rw[UInt8.le_iff_toNat_le];unfold u8;omega)
 rw[le,ge,le,ge];rfl
theorem Oi(c:UInt8):(decide (32≤c)&&decide (c≤126))=(decide (32≤u8 c)&&decide (u8 c≤126)):=by
 have le:∀(n:UInt8),decide (n≤c)=decide ((n.toNat:Int)≤u8 c):=fun n=>alM.2 (by rw[UInt8.le_iff_toNat_le];unfold u8;omega)
 have ge:∀(n:UInt8),decide (c≤n)=decide (u8 c≤(n.toNat:Int)):=fun n=>alM.2 (by rw[UInt8.le_iff_toNat_le];unfold u8;omega)
 rw[le,ge];rfl
theorem byte_at{s:ByteArray}{i:Nat}{c:UInt8}(h:(bl s)[i]?=some c):(((s[(i:Int).toNat]?.getD 0).toNat:Nat):Int)=u8 c:=by
 rw[akA,LU,h];rfl
theorem Ip(a b:Int):decide (a<b)= !decide (b≤a):=by
 by_cases h:a<b
 ·rw[ak7 h,ak9 (by omega)];rfl
 ·rw[ak9 h,ak7 (by omega)];rfl
theorem CZ(a b:Int):decide (a>b)= !decide (a≤b):=by
 by_cases h:a>b
 ·rw[ak7 h,ak9 (by omega)];rfl
 ·rw[ak9 h,ak7 (by omega)];rfl
theorem acI(s:ByteArray)(hs:s.size≤9223372036854775807):∀(k i:Nat),i+k=s.size→
  aB uN (((i:Int),s,(s.size:Int),()),())=some (if((bl s).drop i).all iw then .inr ((),())else .inl ((false,()),())):=by
 intro k
 induction k with
 |zero=>
  intro i h;rw[ald (by rw[aX];omega)];refine aA ?_;have:¬(i:Int)<(s.size:Int):=by omega
  simp only[uN,ak9 this,au,sS,List.all_nil,if_true]
 |succ k ih=>
  intro i h;obtain⟨c,hc,hd⟩:=drop_at (l:=bl s) (i:=i) (by rw[aX];omega);have hlt:decide ((i:Int)<(s.size:Int))=true:=ak7 (by omega);have hbd:decide ((0:Int)≤(i:Int)∧(i:Int)<(s.size:Int))=true:=ak7 (by omega);rw[hd,List.all_cons]
  have hstep:uN (((i:Int),s,(s.size:Int),()),())=if iw c then some (.inl ((aQ ((i:Int)+1),s,(s.size:Int),()),()))else some (.inr (.inl ((false,()),()))):=by
   rw[Gl];simp only[uN,hlt,hbd,byte_at hc,au,sS,Ip,CZ,bne];cases decide (97≤u8 c)<;>cases decide (u8 c≤122)<;>cases decide (48≤u8 c)<;>cases decide (u8 c≤57)<;>cases (u8 c==95)<;>rfl
  cases hk:iw c
  ·rw[hk]at hstep;exact aA hstep
  ·rw[hk,aG (by omega)]at hstep;rw[aD hstep,ih (i+1) (by omega)];rfl
theorem ou{s:ByteArray}{i:Nat}{c:UInt8}(h:(bl s)[i]?=some c):(((s[i]?.getD 0).toNat:Nat):Int)=u8 c:=by
 rw[LU,h];rfl
def kV(c:UInt8):Bool:=decide (32≤c)&&decide (c≤126)
theorem EI(c:UInt8):kV c=(decide (32≤u8 c)&&decide (u8 c≤126)):=Oi c
theorem acF(s:ByteArray)(hs:s.size≤9223372036854775807):∀(k i:Nat),i+k=s.size→
  aB uW (((i:Int),s,()),())=some (if((bl s).drop i).all iw then .inr ((),())else .inl ((false,()),())):=by
 intro k
 induction k with
 |zero=>
  intro i h;rw[ald (by rw[aX];omega)];refine aA ?_;have:¬(i:Int)<(s.size:Int):=by omega
  simp only[uW,ak9 this,au,sS,List.all_nil,if_true]
 |succ k ih=>
  intro i h;obtain⟨c,hc,hd⟩:=drop_at (l:=bl s) (i:=i) (by rw[aX];omega);have hlt:decide ((i:Int)<(s.size:Int))=true:=ak7 (by omega);have hbd:decide ((0:Int)≤(i:Int)∧(i:Int)<(s.size:Int))=true:=ak7 (by omega);rw[hd,List.all_cons]
  have hstep:uW (((i:Int),s,()),())=if iw c then some (.inl ((aQ ((i:Int)+1),s,()),()))else some (.inr (.inl ((false,()),()))):=by
   rw[Gl];simp only[uW,hlt,hbd,byte_at hc,au,sS,Ip,CZ,bne];cases decide (97≤u8 c)<;>cases decide (u8 c≤122)<;>cases decide (48≤u8 c)<;>cases decide (u8 c≤57)<;>cases (u8 c==95)<;>rfl
  cases hk:iw c
  ·rw[hk]at hstep;exact aA hstep
  ·rw[hk,aG (by omega)]at hstep;rw[aD hstep,ih (i+1) (by omega)];rfl
theorem ac5(s:ByteArray)(hs:s.size≤9223372036854775807):∀(k i:Nat),i+k=s.size→
  aB vN (((i:Int),s,(s.size:Int),()),())=some (if((bl s).drop i).all kV then .inr ((s,()),())else .inl ((false,()),())):=by
 intro k
 induction k with
 |zero=>
  intro i h;rw[ald (by rw[aX];omega)];refine aA ?_;have:¬(i:Int)<(s.size:Int):=by omega
  simp only[vN,ak9 this,au,sS,List.all_nil,if_true]
 |succ k ih=>
  intro i h;obtain⟨c,hc,hd⟩:=drop_at (l:=bl s) (i:=i) (by rw[aX];omega);have hlt:decide ((i:Int)<(s.size:Int))=true:=ak7 (by omega);have hbd:decide ((0:Int)≤(i:Int)∧(i:Int)<(s.size:Int))=true:=ak7 (by omega);rw[hd,List.all_cons]
  have hstep:vN (((i:Int),s,(s.size:Int),()),())=if kV c then some (.inl ((aQ ((i:Int)+1),s,(s.size:Int),()),()))else some (.inr (.inl ((false,()),()))):=by
   rw[EI];simp only[vN,hlt,hbd,byte_at hc,au,sS,Ip,CZ,bne];cases decide (32≤u8 c)<;>cases decide (u8 c≤126)<;>rfl
  cases hk:kV c
  ·rw[hk]at hstep;exact aA hstep
  ·rw[hk,aG (by omega)]at hstep;rw[aD hstep,ih (i+1) (by omega)];rfl
theorem acY(s:ByteArray)(hs:s.size≤9223372036854775807):∀(k i:Nat),i+k=s.size→
  aB uY (((i:Int),s,()),())=some (if((bl s).drop i).all kV then .inr ((),())else .inl ((false,()),())):=by
 intro k
 induction k with
 |zero=>
  intro i h;rw[ald (by rw[aX];omega)];refine aA ?_;have:¬(i:Int)<(s.size:Int):=by omega
  simp only[uY,ak9 this,au,sS,List.all_nil,if_true]
 |succ k ih=>
  intro i h;obtain⟨c,hc,hd⟩:=drop_at (l:=bl s) (i:=i) (by rw[aX];omega);have hlt:decide ((i:Int)<(s.size:Int))=true:=ak7 (by omega);have hbd:decide ((0:Int)≤(i:Int)∧(i:Int)<(s.size:Int))=true:=ak7 (by omega);rw[hd,List.all_cons]
  have hstep:uY (((i:Int),s,()),())=if kV c then some (.inl ((aQ ((i:Int)+1),s,()),()))else some (.inr (.inl ((false,()),()))):=by
   rw[EI];simp only[uY,hlt,hbd,byte_at hc,au,sS,Ip,CZ,bne];cases decide (32≤u8 c)<;>cases decide (u8 c≤126)<;>rfl
  cases hk:kV c
  ·rw[hk]at hstep;exact aA hstep
  ·rw[hk,aG (by omega)]at hstep;rw[aD hstep,ih (i+1) (by omega)];rfl
abbrev kM(s:ByteArray):Bool:=VX (bl s)
abbrev tQ(s:ByteArray):Bool:=ZW (bl s)
theorem LM(s:ByteArray):kM s=match bl s with
  | []=>false
  |c::_=>(!decide ((s.size:Int)>24))&&(decide (97≤u8 c)&&decide (u8 c≤122))&&(bl s).all iw:=by
 have hl:=aX s;unfold kM VX
 cases h:bl s with
 |nil=>rfl
 |cons c r=>
  rw[h]at hl;have le:∀(n:UInt8),decide (n≤c)=decide ((n.toNat:Int)≤u8 c):=fun n=>alM.2 (by rw[UInt8.le_iff_toNat_le];unfold u8;omega)
  have ge:∀(n:UInt8),decide (c≤n)=decide (u8 c≤(n.toNat:Int)):=fun n=>alM.2 (by rw[UInt8.le_iff_toNat_le];unfold u8;omega)
  simp only[CZ,Bool.not_not];rw[show decide ((c::r).length≤24)=decide ((s.size:Int)≤24)from alM.2 (by rw[hl];omega),le,ge];rfl
theorem KE(s:ByteArray)(hs:s.size≤9223372036854775807):Ue ((s,()),())=some ((kM s,()),()):=by
 rw[LM];have hl:=aX s;have hlp:=acI s hs s.size 0 (by omega);unfold Ue
 cases h:bl s with
 |nil=>
  simp only[bg,h,Er,au,sS]
 |cons c r=>
  have hne:(bl s==bl ByteArray.empty)=false:=by rw[h];rfl
  have h0:(((s[0]?.getD 0).toNat:Nat):Int)=u8 c:=by rw[LU,h];rfl
  have hpos:decide ((0:Int)≤0∧(0:Int)<s.size)=true:=ak7 (by rw[h]at hl;simp at hl;omega);simp only[bg,hne,hpos,h0,au,sS];cases decide ((s.size:Int)>24)
  ·simp only[Ip,CZ,au,sS];cases decide (97≤u8 c)
   ·rfl
   ·cases decide (u8 c≤122)
    ·rfl
    ·simp only[au,sS];rw[alg]at hlp;refine aP _ hlp ?_;cases ha:(bl s).all iw<;>rw[←h]<;>simp only[ha,au,sS]<;>rfl
  ·rfl
theorem J6(s:ByteArray)(hs:s.size≤9223372036854775807):Sj ((s,()),())=some ((kM s,()),()):=by
 rw[LM];have hl:=aX s;have hlp:=acF s hs s.size 0 (by omega);unfold Sj
 cases h:bl s with
 |nil=>
  have:decide ((s.size:Int)<1)=true:=ak7 (by rw[h]at hl;simp at hl;omega);simp only[this,au,sS]
 |cons c r=>
  have hne:decide ((s.size:Int)<1)=false:=ak9 (by rw[h]at hl;simp at hl;omega);have h0:(((s[0]?.getD 0).toNat:Nat):Int)=u8 c:=by rw[LU,h];rfl
  have hpos:decide ((0:Int)≤0∧(0:Int)<s.size)=true:=ak7 (by rw[h]at hl;simp at hl;omega);simp only[hne,hpos,h0,au,sS];cases decide ((s.size:Int)>24)
  ·simp only[Ip,CZ,au,sS];cases decide (97≤u8 c)
   ·rfl
   ·cases decide (u8 c≤122)
    ·rfl
    ·simp only[au,sS];rw[alg]at hlp;refine aP _ hlp ?_;cases ha:(bl s).all iw<;>rw[←h]<;>simp only[ha,au,sS]<;>rfl
  ·rfl
theorem Ri(s:ByteArray):tQ s=((bl s).all kV&&decide ((s.size:Int)≤64)):=by
 unfold tQ ZW;rw[aX,show decide (s.size≤64)=decide ((s.size:Int)≤64)from alM.2 (by omega)];rfl
theorem QZ(s:ByteArray)(hs:s.size≤9223372036854775807):Wm ((s,()),())=some ((tQ s,()),()):=by
 rw[Ri];have hlp:=ac5 s hs s.size 0 (by omega);rw[alg]at hlp;unfold Wm;refine aP _ hlp ?_;cases ha:(bl s).all kV<;>simp only[au,sS]<;>rfl
theorem Qx(s:ByteArray)(hs:s.size≤9223372036854775807):WH ((s,()),())=some ((tQ s,()),()):=by
 rw[Ri];have hlp:=acY s hs s.size 0 (by omega);rw[alg]at hlp;unfold WH;simp only[CZ];cases decide ((s.size:Int)≤64)
 ·simp only[au,sS]
 ·simp only[au,sS];refine aP _ hlp ?_;cases ha:(bl s).all kV<;>rfl
def bC(m:MT):Bool:=kM m.1&&(decide (m.2.1≥0)&&(decide (m.2.1≤3)&&tQ m.2.2.1))
def SF(m:MT):Prop:=m.1.size≤9223372036854775807∧m.2.2.1.size≤9223372036854775807
theorem Qm(m:MT)(hm:SF m):Vx ((m,()),())=some ((bC m,()),()):=by
 unfold Vx bC;simp only[KE _ hm.1,QZ _ hm.2,au,sS];cases kM m.1<;>cases decide (m.2.1≥0)<;>cases decide (m.2.1≤3)<;>simp only[au,sS]
theorem Yu(m:MT)(hm:SF m):XP ((m,()),())=some ((bC m,()),()):=by
 unfold XP bC;simp only[J6 _ hm.1,Qx _ hm.2,au,sS];cases kM m.1<;>cases decide (m.2.1≥0)<;>cases decide (m.2.1≤3)<;>simp only[au,sS]
def ql(k:ByteArray):List LT→Option ByteArray
 | []=>none
 |x::l=>if x.1=k then some x.2.1 else ql k l
def uR(l:List LT)(k:ByteArray):ByteArray:=(ql k l).getD ByteArray.empty
theorem acA(l:List LT)(key:ByteArray)(hl:l.length≤9223372036854775807):∀(k i:Nat),i+k=l.length→
  aB vE (((i:Int),key,l,(l.length:Int),()),())=some (match ql key (l.drop i)with|some v=>.inl ((v,()),())|none=>.inr ((),())):=by
 intro k
 induction k with
 |zero=>
  intro i h;rw[ald (by omega)];refine aA ?_;have:¬(i:Int)<(l.length:Int):=by omega
  simp only[vE,ak9 this,au,sS,ql]
 |succ k ih=>
  intro i h;obtain⟨e,he,hd⟩:=drop_at (l:=l) (i:=i) (by omega);have hlt:decide ((i:Int)<(l.length:Int))=true:=ak7 (by omega);rw[hd,ql];by_cases hk:e.1=key
  ·rw[if_pos hk];refine aA ?_;simp only[vE,aI,aF he,hlt,bg,jK,ak7 hk,au,sS]
  ·rw[if_neg hk,←ih (i+1) (by omega)];refine aD ?_;simp only[vE,aI,aF he,hlt,bg,jK,ak9 hk,au,sS,aG (show i<9223372036854775807 by omega)]
theorem JV(l:List LT)(key:ByteArray)(hl:l.length≤9223372036854775807):RO ((l,key,()),())=some ((uR l key,()),()):=by
 have h:=acA l key hl l.length 0 (by omega);rw[alg]at h;unfold RO uR;refine aP _ h ?_;cases ql key l<;>rfl
theorem ad9(l:List LT)(key:ByteArray)(hl:l.length≤9223372036854775807):∀(k i:Nat),i+k=l.length→
  aB ve (((i:Int),l,key,()),())=some (match ql key (l.drop i)with|some v=>.inl ((v,()),())|none=>.inr ((),())):=by
 intro k
 induction k with
 |zero=>
  intro i h;rw[ald (by omega)];refine aA ?_;have:¬(i:Int)<(l.length:Int):=by omega
  simp only[ve,ak9 this,au,sS,ql]
 |succ k ih=>
  intro i h;obtain⟨e,he,hd⟩:=drop_at (l:=l) (i:=i) (by omega);have hlt:decide ((i:Int)<(l.length:Int))=true:=ak7 (by omega);rw[hd,ql];by_cases hk:e.1=key
  ·rw[if_pos hk];refine aA ?_;simp only[ve,aI,aF he,hlt,bg,jK,ak7 hk,au,sS]
  ·rw[if_neg hk,←ih (i+1) (by omega)];refine aD ?_;simp only[ve,aI,aF he,hlt,bg,jK,ak9 hk,au,sS,aG (show i<9223372036854775807 by omega)]
theorem aa0(l:List LT)(key:ByteArray)(hl:l.length≤9223372036854775807):Zh ((l,key,()),())=some ((uR l key,()),()):=by
 have h:=ad9 l key hl l.length 0 (by omega);rw[alg]at h;unfold Zh uR;refine aP _ h ?_;cases ql key l<;>rfl
theorem aa9(s:ByteArray)(h:0<s.size):∃c,(bl s)[s.size-1]?=some c∧bl s=bl (s.extract 0 (s.size-1))++ [c]:=by
 have hl:=aX s;obtain⟨c,hc⟩:=getD_some (l:=bl s) (i:=s.size-1) (by omega);refine⟨c,hc,?_⟩;rw[ic,alg,Nat.sub_zero];have:=alU (s.size-1) (bl s)
 conv=>lhs;rw[←this]
 congr 1
 obtain⟨e,he,hd⟩:=drop_at (l:=bl s) (i:=s.size-1) (by omega);rw[hc]at he;cases he;rw[hd,ald (by omega)]
theorem afd(n:Nat):∀(s:ByteArray),s.size=n→n≤9223372036854775807→∃t,aB uZ ((s,42,()),())=some ((t,()),())∧∃k,bl s=bl t++List.replicate k 42:=by
 induction n with
 |zero=>
  intro s hs _;refine⟨s,aA ?_,0,by simp⟩;have:decide ((s.size:Int)>0)=false:=ak9 (by omega);simp only[uZ,this,au,sS]
 |succ n ih=>
  intro s hs hn;obtain⟨c,hc,hsp⟩:=aa9 s (by omega);have hw:aQ ((s.size:Int)-1)=((s.size-1:Nat):Int):=by rw[bH (by omega) (by omega)];omega
  have h0:decide ((s.size:Int)>0)=true:=ak7 (by omega);have h1:decide ((0:Int)≤((s.size-1:Nat):Int)∧((s.size-1:Nat):Int)<s.size)=true:=ak7 (by omega);have h2:decide ((0:Int)≤((s.size-1:Nat):Int))=true:=ak7 (by omega);have h3:decide (0≤s.size-1∧s.size-1≤s.size)=true:=ak7 (by omega);have hb:=byte_at hc;by_cases h42:u8 c=42
  ·have hc42:c=42:=UInt8.toNat_inj.1 (by unfold u8 at h42;show c.toNat=42;omega);have hsz:(s.extract 0 (s.size-1)).size=n:=by rw[←aX,ic,akT,aln,aX];omega
   obtain⟨t,ht,k,hk⟩:=ih (s.extract 0 (s.size-1)) hsz (by omega);refine⟨t,?_,k+1,?_⟩
   ·rw[←ht];refine aD ?_;simp only[uZ,h0,hw,h1,h2,akA,ou hc,dz,ak7 h42,h3,au,sS]
   ·rw[hsp,hk,hc42,ale]
    congr 1
    rw[List.replicate_succ']
  ·refine⟨s,aA ?_,0,by simp⟩;simp only[uZ,h0,hw,h1,hb,dz,ak9 h42,au,sS]
theorem afB(n:Nat):∀(s:ByteArray),s.size=n→n≤9223372036854775807→∃t,aB tK ((s,42,()),())=some ((t,()),())∧(∃k,bl s=List.replicate k 42++bl t)∧(∀c r,bl t=c::r→c≠42):=by
 induction n with
 |zero=>
  intro s hs _;refine⟨s,aA ?_,⟨0,by simp⟩,fun c r h=> ?_⟩
  ·have:decide ((s.size:Int)>0)=false:=ak9 (by omega);simp only[tK,this,au,sS]
  ·have:=aX s;rw[h]at this;simp at this;omega
 |succ n ih=>
  intro s hs hn;obtain⟨c,hc,hsp⟩:=drop_at (l:=bl s) (i:=0) (by rw[aX];omega);rw[alg]at hsp;have h0:decide ((s.size:Int)>0)=true:=ak7 (by omega);have h1:decide ((0:Int)≤0∧(0:Int)<s.size)=true:=ak7 (by omega);have h3:decide (1≤s.size∧s.size≤s.size)=true:=ak7 (by omega);have hb:(((s[0]?.getD 0).toNat:Nat):Int)=u8 c:=by rw[LU,hc];rfl
  by_cases h42:u8 c=42
  ·have hc42:c=42:=UInt8.toNat_inj.1 (by unfold u8 at h42;show c.toNat=42;omega)
   have hex:bl (s.extract 1 s.size)=(bl s).drop 1:=by
    rw[ic,alv];rw[aln,aX];exact akJ _
   have hsz:(s.extract 1 s.size).size=n:=by rw[←aX,hex,aln,aX];omega
   obtain⟨t,ht,⟨k,hk⟩,hf⟩:=ih (s.extract 1 s.size) hsz (by omega);refine⟨t,?_,⟨k+1,?_⟩,hf⟩
   ·rw[←ht];refine aD ?_;simp only[tK,h0,h1,hb,dz,ak7 h42,h3,au,sS]
   ·rw[hsp,←hex,hk,hc42];rfl
  ·refine⟨s,aA ?_,⟨0,by simp⟩,fun d r h=> ?_⟩
   ·simp only[tK,h0,h1,hb,dz,ak9 h42,au,sS]
   ·rw[hsp]at h;cases h;intro e;subst e;exact h42 rfl
theorem Yt(s:ByteArray)(hs:s.size≤9223372036854775807):∃t,Uo ((s,bs [42],()),())=some ((t,()),())∧(bl t==bl ByteArray.empty)=(bl s).all (· ==42):=by
 by_cases he:bl s=[]
 ·refine⟨s,?_,?_⟩
  ·unfold Uo;simp only[bg,he,Er,au,sS]
  ·rw[he];rfl
 ·obtain⟨t1,h1,k1,e1⟩:=afd s.size s rfl hs;have hsz1:t1.size≤s.size:=by rw[←aX t1,←aX s,e1,akW];omega
  obtain⟨t2,h2,⟨k2,e2⟩,hf⟩:=afB t1.size t1 rfl (by omega);have m124e:ZV ((s,42,()),())=some ((t1,()),()):=by unfold ZV;exact aP _ h1 rfl
  have m123e:aae ((t1,42,()),())=some ((t2,()),()):=by unfold aae;exact aP _ h2 rfl
  refine⟨t2,?_,?_⟩
  ·have hne:(bl s==bl ByteArray.empty)=false:=akR.2 he;have hb:((((bs [42])[0]?.getD 0).toNat:Nat):Int)=42:=by rfl
   have hbe:(bl (bs [42])==bl ByteArray.empty)=false:=by rfl
   have hbs:(((bs [42]).size:Int)==1)=true:=by rfl
   have hbd:decide ((0:Int)≤0∧(0:Int)<(bs [42]).size)=true:=by rfl
   unfold Uo;simp only[bg,hne,hb,hbe,hbs,hbd,m124e,m123e,au,sS];rfl
  ·rw[e1,e2,List.all_append,List.all_append];rw[show(List.replicate k1 (42:UInt8)).all (· ==42)=true by simp,show(List.replicate k2 (42:UInt8)).all (· ==42)=true by simp,Bool.and_true,alq]
   cases h:bl t2 with
   |nil=>rfl
   |cons c r=>
    have:(c==42)=false:=akR.2 (hf c r h);simp[this,Er]
def Dq(p s:ByteArray):Bool:=like (bl p) (bl s)
theorem abM{c d:UInt8}(h:u8 c=u8 d):c=d:=UInt8.toNat_inj.1 (by unfold u8 at h;omega)
theorem FH(c d:UInt8):(u8 c==u8 d)=(c==d):=by
 by_cases h:c=d
 ·subst h;simp
 ·rw[akR.2 h,akR.2 (fun e=>h (abM e))]
theorem xw(c:UInt8):(u8 c==42)=decide (c=42):=by
 rw[show(42:Int)=u8 42 from rfl,FH];by_cases h:c=42<;>simp[h]
theorem Q0(c:UInt8):(u8 c==63)=(c==63):=FH c 63
def adl:Option (Nat×Nat)→Int→Int→Prop
 |none,s,_=>s= -1
 |some q,s,f=>s=((q.1:Nat):Int)∧f=((q.2:Nat):Int)
structure LS(P V:ByteArray)(p v:Nat)(star:Option (Nat×Nat))(a:(Int×Int×Int×Int×ByteArray×ByteArray×Unit)×Unit):Prop where
 inv:tZ (bl P) (bl V) p v star
 st:∃(s f:Int),a=(((p:Int),(v:Int),s,f,V,P,()),())∧adl star s f
def UR(P V:ByteArray)(p:Nat)(star:Option (Nat×Nat)):Nat:=(V.size+1-(star.map (·.2)).getD 0)*(P.size+1)+(P.size-p)
theorem S9(P V:ByteArray)(hP:P.size≤4294967295)(hV:V.size≤4294967295):∀(n p v:Nat) (star:Option (Nat×Nat)) (a),LS P V p v star a→UR P V p star≤n→
  ∃d,aB gI a=some d∧((d= .inl ((false,()),())∧Dq P V=false)∨∃q:Nat,q≤P.size∧d= .inr (((q:Int),P,()),())∧Dq P V=((bl P).drop q).all (· ==42)):=by
 intro n
 induction n with
 |zero=>
  intro p v star a h hn
  exfalso
  have hp:=h.inv.hp;have hv:=h.inv.hv;rw[aX]at hp hv;unfold UR at hn
  have hf:(star.map (·.2)).getD 0≤V.size:=by
   cases star with
   |none=>exact alj _
   |some q=>have:=(h.inv.ok:_∧_∧_).2.1;simp;omega
  have:1*(P.size+1)≤(V.size+1-(star.map (·.2)).getD 0)*(P.size+1):=akP _ (by omega);omega
 |succ n ih=>
  intro p v star a h hn;obtain⟨inv,s,f,rfl,hst⟩:=h;have hp:=inv.hp;have hv:=inv.hv;rw[aX]at hp hv
  have hf:(star.map (·.2)).getD 0≤v:=by
   cases star with
   |none=>exact alj _
   |some q=>exact(inv.ok:_∧_∧_).2.1
  by_cases hve:v=V.size
  ·refine⟨.inr (((p:Int),P,()),()),aA ?_,.inr ⟨p,hp,rfl,inv.aeG (by rw[aX];exact hve)⟩⟩;have:decide ((v:Int)<(V.size:Int))=false:=ak9 (by omega);simp only[gI,this,au,sS]
  ·have hvlt:decide ((v:Int)<(V.size:Int))=true:=ak7 (by omega);have hvb:decide ((0:Int)≤(v:Int)∧(v:Int)<(V.size:Int))=true:=ak7 (by omega);obtain⟨x,hx,_⟩:=drop_at (l:=bl V) (i:=v) (by rw[aX];omega);have bx:=byte_at hx;have w1:aQ ((v:Int)+1)=((v+1:Nat):Int):=aG (by omega);have w2:aQ ((p:Int)+1)=((p+1:Nat):Int):=aG (by omega)
   have miss:(∀c,(bl P)[p]?=some c→c≠42∧(c==63||c==x)=false)→gI (((p:Int),(v:Int),s,f,V,P,()),())=(bif decide (s≥0)then some (.inl ((aQ (s+1),aQ (f+1),s,aQ (f+1),V,P,()),()))else some (.inr (.inl ((false,()),()))))→
     ∃d,aB gI (((p:Int),(v:Int),s,f,V,P,()),())=some d∧((d= .inl ((false,()),())∧Dq P V=false)∨∃q:Nat,q≤P.size∧d= .inr (((q:Int),P,()),())∧Dq P V=((bl P).drop q).all (· ==42)):=by
    intro hm hstep
    cases star with
    |none=>
     have hs:s= -1:=hst;subst hs;exact⟨_,aA hstep,.inl ⟨rfl,inv.onFail hx hm⟩⟩
    |some q=>
     obtain⟨q1,q2⟩:=q;obtain⟨rfl,rfl⟩:s=((q1:Nat):Int)∧f=((q2:Nat):Int):=hst;have hq:=(inv.ok:_∧_∧_)
     have hq1:q1+1≤p:=hq.1;have hq2:q2≤v:=hq.2.1;rw[ak7 (show((q1:Nat):Int)≥0 by omega),aG (by omega),aG (by omega)]at hstep;rw[aD hstep];refine ih (q1+1) (q2+1) (some (q1,q2+1)) _ ⟨inv.ac4 hx hm,_,_,rfl,⟨rfl,rfl⟩⟩ ?_;unfold UR at hn ⊢;simp only[ala,alT]at hn ⊢;have e:V.size+1-q2=(V.size+1-(q2+1))+1:=by omega
     rw[e,Nat.succ_mul]at hn;omega
   by_cases hpe:p<P.size
   ·have hplt:decide ((p:Int)<(P.size:Int))=true:=ak7 (by omega);have hpb:decide ((0:Int)≤(p:Int)∧(p:Int)<(P.size:Int))=true:=ak7 (by omega);obtain⟨c,hc,_⟩:=drop_at (l:=bl P) (i:=p) (by rw[aX];omega);have bc:=byte_at hc;by_cases h42:c=42
    ·subst h42
     rw[show aB gI (((p:Int),(v:Int),s,f,V,P,()),())=aB gI ((((p+1:Nat):Int),(v:Int),(p:Int),(v:Int),V,P,()),())from aD (by
      simp only[gI,hvlt,hplt,hpb,bc,xw,au,sS,w2])]
     refine ih (p+1) v (some (p,v)) _ ⟨inv.abO hc,_,_,rfl,⟨rfl,rfl⟩⟩ ?_;unfold UR at hn ⊢;simp only[ala,alT];have:=akP (P.size+1) (show V.size+1-v≤V.size+1-(star.map (·.2)).getD 0 by omega);omega
    ·by_cases hm:(c==63||c==x)=true
     ·rw[show aB gI (((p:Int),(v:Int),s,f,V,P,()),())=aB gI ((((p+1:Nat):Int),((v+1:Nat):Int),s,f,V,P,()),())from aD (by
       simp only[gI,hvlt,hplt,hpb,hvb,bc,bx,xw,Q0,FH,ak9 h42,au,sS,w2];rcases Bool.or_eq_true_iff.1 hm with h|h
       ·simp only[h,au,sS,w1,w2]
       ·cases (c==63)<;>simp only[h,au,sS,w1,w2])]
      refine ih (p+1) (v+1) star _ ⟨inv.adT hc hx h42 hm,s,f,rfl,hst⟩ ?_;unfold UR at hn ⊢;omega
     ·have hm:(c==63||c==x)=false:=by simpa using hm
      refine miss (fun d hd=> ?_) ?_
      ·rw[hc]at hd;cases hd;exact⟨h42,hm⟩
      ·rw[al4]at hm;simp only[gI,hvlt,hplt,hpb,hvb,bc,bx,xw,Q0,FH,ak9 h42,hm.1,hm.2,au,sS]
   ·have hplt:decide ((p:Int)<(P.size:Int))=false:=ak9 (by omega);refine miss (fun d hd=> ?_) ?_
    ·have:=(ak8.1 hd).1;rw[aX]at this;omega
    ·simp only[gI,hvlt,hplt,au,sS]
theorem Zf(P V:ByteArray)(hP:P.size≤4294967295)(hV:V.size≤4294967295):Vn ((P,V,()),())=some ((Dq P V,()),()):=by
 obtain⟨d,h1,h2⟩:=S9 P V hP hV _ 0 0 none (((0:Int),(0:Int),(-1),(0:Int),V,P,()),()) ⟨tZ.start _ _,-1,0,rfl,rfl⟩ (akJ _);unfold Vn;refine aP _ h1 ?_;rcases h2 with⟨rfl,h⟩|⟨q,hq,rfl,h⟩
 ·rw[h];rfl
 ·have ex:bl (P.extract q P.size)=(bl P).drop q:=by
   rw[ic,alv];rw[aln,aX];exact akJ _
  have hsz:(P.extract q P.size).size≤P.size:=by rw[←aX,ex,aln,aX];omega
  obtain⟨t,ht,he⟩:=Yt (P.extract q P.size) (by omega);simp only[au,sS,ak7 (show(0:Int)≤(q:Int) by omega),akA,ak7 (show q≤P.size∧P.size≤P.size by omega),ht,bg,he,ex,h]
def cell(c:UInt8)(V:List UInt8)(r r':List Bool)(k:Nat):Bool:=
 if c=42 then(r[k]?.getD false||(decide (0<k)&&r'[k-1]?.getD false))else(decide (0<k)&&r[k-1]?.getD false&&(c==63||some c==V[k-1]?))
theorem V3(P V:ByteArray)(c:UInt8)(i:Nat)(hc:(bl P)[i]?=some c)(hi:i<P.size)(hV:V.size≤4294967295)(hP:P.size≤4294967295)(r:List Bool)(hr:r.length=V.size+1):
  ∀(n k:Nat) (N:List Bool),k+n=V.size+1→N.length=V.size+1→(∀j,j<k→N[j]?.getD false=cell c (bl V) r N j)→(∀j,k≤j→N[j]?.getD false=false)→
   ∃N',aB iY (((k:Int),V,(i:Int),P,()),(N,r,()))=some ((V,P,(i:Int),()),(N',()))∧N'.length=V.size+1∧∀j,j≤V.size→N'[j]?.getD false=cell c (bl V) r N' j:=by
 intro n
 induction n with
 |zero=>
  intro k N h hN h1 _;refine⟨N,aA ?_,hN,fun j hj=>h1 j (by omega)⟩;have:decide ((k:Int)≤(V.size:Int))=false:=ak9 (by omega);simp only[iY,this,au,sS]
 |succ n ih=>
  intro k N h hN h1 h2;have hle:decide ((k:Int)≤(V.size:Int))=true:=ak7 (by omega);have hib:decide ((0:Int)≤(i:Int)∧(i:Int)<(P.size:Int))=true:=ak7 (by omega);have hkr:decide ((0:Int)≤(k:Int)∧(k:Int)<(r.length:Int))=true:=ak7 (by omega);have hkN:decide ((0:Int)≤(k:Int)∧(k:Int)<(N.length:Int))=true:=ak7 (by omega);have hkN2:decide (k<N.length)=true:=ak7 (by omega);have w1:aQ ((k:Int)+1)=((k+1:Nat):Int):=aG (by omega);have bc:=byte_at hc;have bn:=ou hc
  have next:∀b:Bool,b=cell c (bl V) r N k→∃N',aB iY ((((k+1:Nat):Int),V,(i:Int),P,()),(N.set k b,r,()))=some ((V,P,(i:Int),()),(N',()))∧N'.length=V.size+1∧∀j,j≤V.size→N'[j]?.getD false=cell c (bl V) r N' j:=by
   intro b hb;have same:∀j,j<k→(N.set k b)[j]?=N[j]?:=fun j hj=>by rw[List.getElem?_set_ne (by omega)]
   refine ih (k+1) (N.set k b) (by omega) (by simpa using hN) (fun j hj=> ?_) (fun j hj=>by rw[List.getElem?_set_ne (by omega)];exact h2 j (by omega));rcases ami j k with hlt|hge
   ·rw[same j hlt,h1 j hlt];unfold cell
    cases j with
    |zero=>rfl
    |succ j=>simp only[Nat.add_sub_cancel,same j (by omega)]
   ·have:j=k:=by omega
    subst this;rw[List.getElem?_set_self (by omega),alT];refine hb.trans ?_;unfold cell
    cases j with
    |zero=>rfl
    |succ j=>simp only[Nat.add_sub_cancel,same j (by omega)]
  obtain⟨rk,hrk⟩:=getD_some (l:=r) (i:=k) (by omega);by_cases h42:c=42
  ·have hcell:cell c (bl V) r N k=(rk||(decide (0<k)&&N[k-1]?.getD false)):=by unfold cell;rw[if_pos h42,hrk];rfl
   cases rk with
   |true=>
    obtain⟨N',e1,e2⟩:=next true (by rw[hcell];rfl);refine⟨N',?_,e2⟩;rw[←e1];refine aD ?_;simp only[iY,hle,hib,bc,bn,xw,ak7 h42,hkr,akA,hrk,hkN,hkN2,au,sS,w1]
   |false=>
    rw[akK]at hcell;by_cases hk0:k=0
    ·subst hk0;obtain⟨N',e1,e2⟩:=next false (by rw[hcell];rfl);refine⟨N',?_,e2⟩;rw[←e1];refine aD ?_;have hg:decide (((0:Nat):Int)>0)=false:=rfl;simp only[iY,hle,hib,bc,bn,xw,ak7 h42,hkr,akA,hrk,hkN,hkN2,hg,au,sS,w1]
    ·obtain⟨b,hb⟩:=getD_some (l:=N) (i:=k-1) (by omega);have hg:decide ((k:Int)>0)=true:=ak7 (by omega);have hw:aQ ((k:Int)-1)=((k-1:Nat):Int):=by rw[bH (by omega) (by omega)];omega
     have hk1:decide ((0:Int)≤((k-1:Nat):Int)∧((k-1:Nat):Int)<(N.length:Int))=true:=ak7 (by omega);rw[ak7 (show 0<k by omega),hb,alT,alq]at hcell;obtain⟨N',e1,e2⟩:=next b hcell.symm;refine⟨N',?_,e2⟩;rw[←e1];refine aD ?_;simp only[iY,hle,hib,bc,bn,xw,ak7 h42,hkr,akA,hrk,hkN,hkN2,hg,hw,hk1,hb,au,sS,w1]
  ·have hcell:cell c (bl V) r N k=(decide (0<k)&&r[k-1]?.getD false&&(c==63||some c==(bl V)[k-1]?)):=by unfold cell;rw[if_neg h42]
   by_cases hk0:k=0
   ·subst hk0
    have hset:N.set 0 false=N:=by
     refine List.ext_getElem? fun j=> ?_
     cases j with
     |zero=>
      rw[List.getElem?_set_self (by omega)];obtain⟨b,hb⟩:=getD_some (l:=N) (i:=0) (by omega);have:=h2 0 (akJ _);rw[hb]at this ⊢;exact congrArg some this.symm
     |succ j=>rw[List.getElem?_set_ne (by omega)]
    obtain⟨N',e1,e2⟩:=next false (by rw[hcell];rfl);rw[hset]at e1;refine⟨N',?_,e2⟩;rw[←e1];refine aD ?_;have hg:decide (((0:Nat):Int)>0)=false:=rfl;simp only[iY,hle,hib,bc,bn,xw,ak9 h42,hg,au,sS,w1]
   ·obtain⟨b,hb⟩:=getD_some (l:=r) (i:=k-1) (by omega);obtain⟨x,hx⟩:=getD_some (l:=bl V) (i:=k-1) (by rw[aX];omega);have hg:decide ((k:Int)>0)=true:=ak7 (by omega);have hw:aQ ((k:Int)-1)=((k-1:Nat):Int):=by rw[bH (by omega) (by omega)];omega
    have hk1:decide ((0:Int)≤((k-1:Nat):Int)∧((k-1:Nat):Int)<(r.length:Int))=true:=ak7 (by omega);have hk2:decide ((0:Int)≤((k-1:Nat):Int)∧((k-1:Nat):Int)<(V.size:Int))=true:=ak7 (by omega);rw[ak7 (show 0<k by omega),hb,alT,alq,hx]at hcell;have hso:(some c==some x)=(c==x):=rfl;rw[hso]at hcell
    cases b with
    |false=>
     obtain⟨N',e1,e2⟩:=next false (by rw[hcell];rfl);refine⟨N',?_,e2⟩;rw[←e1];refine aD ?_;simp only[iY,hle,hib,bc,bn,xw,ak9 h42,hg,hw,hk1,akA,hb,hkN,hkN2,au,sS,w1]
    |true=>
     rw[alq]at hcell
     cases h63:(c==63)with
     |true=>
      obtain⟨N',e1,e2⟩:=next true (by rw[hcell,h63];rfl);refine⟨N',?_,e2⟩;rw[←e1];refine aD ?_;simp only[iY,hle,hib,bc,bn,xw,Q0,h63,ak9 h42,hg,hw,hk1,akA,hb,hkN,hkN2,au,sS,w1]
     |false=>
      obtain⟨N',e1,e2⟩:=next (c==x) (by rw[hcell,h63];rfl);refine⟨N',?_,e2⟩;rw[←e1];refine aD ?_;simp only[iY,hle,hib,bc,bn,xw,Q0,h63,ak9 h42,hg,hw,hk1,hk2,ou hx,byte_at hx,FH,akA,hb,hkN,hkN2,au,sS,w1]
theorem Wj(P V:ByteArray)(hP:P.size≤4294967295)(hV:V.size≤4294967294):∀(n i:Nat) (r:List Bool),i+n=P.size→RInv (bl P) (bl V) i r→
  ∃r',aB Ag ((V,(i:Int),P,()),(r,()))=some ((V,()),(r',()))∧RInv (bl P) (bl V) P.size r':=by
 intro n
 induction n with
 |zero=>
  intro i r h hr;refine⟨r,aA ?_,by rw[show P.size=i by omega];exact hr⟩;have:decide ((i:Int)<(P.size:Int))=false:=ak9 (by omega);simp only[Ag,this,au,sS]
 |succ n ih=>
  intro i r h hr;obtain⟨c,hc,_⟩:=drop_at (l:=bl P) (i:=i) (by rw[aX];omega);have hlt:decide ((i:Int)<(P.size:Int))=true:=ak7 (by omega);have wv:aQ ((V.size:Int)+1)=((V.size+1:Nat):Int):=aG (by omega);have hb:decide ((0:Int)≤((V.size+1:Nat):Int)∧((V.size+1:Nat):Int)≤((V.size+1:Nat):Int)∧((V.size+1:Nat):Int)≤4294967296)=true:=ak7 (by omega);have hrl:r.length=V.size+1:=by rw[hr.1,aX]
  obtain⟨N',e1,e2,e3⟩:=V3 P V c i hc (by omega) (by omega) hP r hrl (V.size+1) 0 (List.replicate (V.size+1) false) (by omega) (by simp) (fun j hj=>by omega) (fun j _=>by
   rw[List.getElem?_replicate];split<;>rfl)
  obtain⟨r',e4,e5⟩:=ih (i+1) N' (by omega) (RInv.step hr hc ⟨by rw[e2,aX],fun k hk=>e3 k (by rw[aX]at hk;exact hk)⟩);refine⟨r',?_,e5⟩;rw[←e4];refine aD ?_;simp only[Ag,hlt,wv,hb,akA,au,sS];refine aP _ e1 ?_;simp only[aG (show i<9223372036854775807 by omega)]
theorem Y9(P V:ByteArray)(hP:P.size≤4294967295)(hV:V.size≤4294967294):Vi ((P,V,()),())=some ((Dq P V,()),()):=by
 have wv:aQ ((V.size:Int)+1)=((V.size+1:Nat):Int):=aG (by omega);have hb:decide ((0:Int)≤((V.size+1:Nat):Int)∧((V.size+1:Nat):Int)≤((V.size+1:Nat):Int)∧((V.size+1:Nat):Int)≤4294967296)=true:=ak7 (by omega);have hl:(List.replicate (V.size+1) false).length=V.size+1:=by simp
 have h0:decide ((0:Int)≤0∧(0:Int)<((V.size+1:Nat):Int))=true:=ak7 (by omega);have h1:decide (0<V.size+1)=true:=ak7 (by omega);have hst:(List.replicate (V.size+1) false).set 0 true=true::List.replicate (bl V).length false:=by rw[List.replicate_succ,List.set_cons_zero,aX]
 obtain⟨r',e1,e2⟩:=Wj P V hP hV P.size 0 _ (by omega) (RInv.start (bl P) (bl V));have hd:=RInv.done (P:=bl P) (V:=bl V) (r:=r') (by rw[aX];exact e2);rw[aX]at hd;have hrl:r'.length=V.size+1:=by rw[e2.1,aX]
 obtain⟨b,hb2⟩:=getD_some (l:=r') (i:=V.size) (by omega);rw[hb2,alT]at hd;subst hd;have h3:decide ((0:Int)≤(V.size:Int)∧(V.size:Int)<(r'.length:Int))=true:=ak7 (by omega);unfold Vi;simp only[wv,hb,akA,hl,h0,h1,hst,au,sS];refine aP _ e1 ?_;simp only[h3,hb2,akA,au,sS];rfl
def y7(m:MT)(l:List LT):Bool:=
 let v:=uR l m.1
 if m.2.1=0 then decide (v=m.2.2.1)else if m.2.1=1 then !decide (v=m.2.2.1)else if m.2.1=2 then Dq m.2.2.1 v else if m.2.1=3 then !Dq m.2.2.1 v else false
def allM(ms:List MT)(l:List LT):Bool:=ms.all fun m=>y7 m l
def K6(l:List LT):Prop:=l.length≤9223372036854775807∧∀x∈l,x.2.1.size≤4294967294
def PSz(m:MT):Prop:=m.2.2.1.size≤4294967295
theorem I6{k v:ByteArray}:∀{l:List LT},ql k l=some v→∃x∈l,x.2.1=v
 | [],h=>by cases h
 |x::l,h=>by
  simp only[ql]at h;split at h
  ·cases h;exact⟨x,by simp,rfl⟩
  ·obtain⟨y,h1,h2⟩:=I6 h;exact⟨y,by simp[h1],h2⟩
theorem Nf{l:List LT}(h:K6 l)(k:ByteArray):(uR l k).size≤4294967294:=by
 unfold uR
 cases hf:ql k l with
 |none=>exact alj _
 |some v=>
  obtain⟨x,h1,rfl⟩:=I6 hf;exact h.2 x h1
theorem ZI(m:MT)(l:List LT)(hm:PSz m)(hl:K6 l):aax ((m,l,()),())=some ((y7 m l,()),()):=by
 have hg:=Nf hl m.1;unfold aax y7;simp only[JV l m.1 hl.1,Zf m.2.2.1 _ hm (show(uR l m.1).size≤4294967295 by omega),au,sS,dz,bg,jK];by_cases h0:m.2.1=0
 ·simp only[ak7 h0,if_pos h0,au,sS]
 ·by_cases h1:m.2.1=1
  ·simp only[ak9 h0,ak7 h1,if_neg h0,if_pos h1,au,sS]
  ·by_cases h2:m.2.1=2
   ·simp only[ak9 h0,ak9 h1,ak7 h2,if_neg h0,if_neg h1,if_pos h2,au,sS]
   ·by_cases h3:m.2.1=3
    ·simp only[ak9 h0,ak9 h1,ak9 h2,ak7 h3,if_neg h0,if_neg h1,if_neg h2,if_pos h3,au,sS]
    ·simp only[ak9 h0,ak9 h1,ak9 h2,ak9 h3,if_neg h0,if_neg h1,if_neg h2,if_neg h3,au,sS]
theorem aa4(m:MT)(l:List LT)(hm:PSz m)(hl:K6 l):Yc ((m,l,()),())=some ((y7 m l,()),()):=by
 have hg:=Nf hl m.1;unfold Yc y7;simp only[aa0 l m.1 hl.1,Y9 m.2.2.1 _ hm hg,au,sS,dz,bg,jK];by_cases h0:m.2.1=0
 ·simp only[ak7 h0,if_pos h0,au,sS]
 ·by_cases h1:m.2.1=1
  ·simp only[ak9 h0,ak7 h1,if_neg h0,if_pos h1,au,sS]
  ·by_cases h2:m.2.1=2
   ·simp only[ak9 h0,ak9 h1,ak7 h2,if_neg h0,if_neg h1,if_pos h2,au,sS]
   ·by_cases h3:m.2.1=3
    ·simp only[ak9 h0,ak9 h1,ak9 h2,ak7 h3,if_neg h0,if_neg h1,if_neg h2,if_pos h3,au,sS]
    ·simp only[ak9 h0,ak9 h1,ak9 h2,ak9 h3,if_neg h0,if_neg h1,if_neg h2,if_neg h3,au,sS]
def PSs(ms:List MT):Prop:=ms.length≤9223372036854775807∧∀m∈ms,PSz m
theorem adK(ms:List MT)(l:List LT)(hm:PSs ms)(hl:K6 l):∀(k i:Nat),i+k=ms.length→
  ∃j:Nat,aB qL (((i:Int),ms,(ms.length:Int),()),((l,()),()))=some (if allM (ms.drop i) l then .inr ((),((l,()),()))else .inl (((j:Int),()),((l,()),()))):=by
 intro k
 induction k with
 |zero=>
  intro i h;refine⟨0,?_⟩;rw[ald (by omega)];refine aA ?_;have:decide ((i:Int)<(ms.length:Int))=false:=ak9 (by omega);simp only[qL,this,au,sS,allM,List.all_nil,if_true]
 |succ k ih=>
  intro i h;obtain⟨e,he,hd⟩:=drop_at (l:=ms) (i:=i) (by omega);have hlt:decide ((i:Int)<(ms.length:Int))=true:=ak7 (by omega);have hle:=hm.1;have hme:=ZI e l (hm.2 e (akC he)) hl;rw[hd];unfold allM;rw[List.all_cons];cases hq:y7 e l
  ·refine⟨i,aA ?_⟩;simp only[qL,aI,aF he,hlt,hme,hq,au,sS];rfl
  ·obtain⟨j,hj⟩:=ih (i+1) (by omega);refine⟨j,?_⟩;rw[alq];unfold allM at hj;rw[←hj];refine aD ?_;simp only[qL,aI,aF he,hlt,hme,hq,au,sS,aG (show i<9223372036854775807 by omega)]
theorem rq(ms:List MT)(l:List LT)(hm:PSs ms)(hl:K6 l):NE ((ms,l,()),())=some ((allM ms l,()),()):=by
 obtain⟨j,h⟩:=adK ms l hm hl ms.length 0 (by omega);rw[alg]at h;unfold NE;rw[show aB qL ((0,ms,(ms.length:Int),()),((l,()),()))=_ from h];cases allM ms l
 ·simp only[au,sS,akN,if_false,ak7 (show(j:Int)≥0 by omega)]
 ·simp only[au,sS,if_true]
theorem adO(ms:List MT)(l:List LT)(hm:PSs ms)(hl:K6 l):∀(k i:Nat),i+k=ms.length→
  aB sW (((i:Int),l,ms,()),())=some (if allM (ms.drop i) l then .inr ((),())else .inl ((false,()),())):=by
 intro k
 induction k with
 |zero=>
  intro i h;rw[ald (by omega)];refine aA ?_;have:decide ((i:Int)<(ms.length:Int))=false:=ak9 (by omega);simp only[sW,this,au,sS,allM,List.all_nil,if_true]
 |succ k ih=>
  intro i h;obtain⟨e,he,hd⟩:=drop_at (l:=ms) (i:=i) (by omega);have hlt:decide ((i:Int)<(ms.length:Int))=true:=ak7 (by omega);have hle:=hm.1;have hme:=aa4 e l (hm.2 e (akC he)) hl;rw[hd];unfold allM;rw[List.all_cons];cases hq:y7 e l
  ·refine aA ?_;simp only[sW,aI,aF he,hlt,hme,hq,au,sS];rfl
  ·rw[alq];have hj:=ih (i+1) (by omega);unfold allM at hj;rw[←hj];refine aD ?_;simp only[sW,aI,aF he,hlt,hme,hq,au,sS,aG (show i<9223372036854775807 by omega)]
theorem JU(ms:List MT)(l:List LT)(hm:PSs ms)(hl:K6 l):ZL ((ms,l,()),())=some ((allM ms l,()),()):=by
 have h:=adO ms l hm hl ms.length 0 (by omega);rw[alg]at h;unfold ZL;refine aP _ h ?_;cases allM ms l<;>rfl
end Go.Proofs.YtchnmpafhfjimaaGreatDoor
namespace Go.Proofs.YtchnmpafhfjimaaGreatDoor
open Go Go.Abs Go.Lab
abbrev iK:=List Int×Int×Unit
def sU(d:iK):Prop:=0≤d.2.1∧d.2.1≤d.1.length∧d.1.length≤500
theorem ajL{l:List Int}(h:l.length≤500):sU (l,0,()):=⟨Int.le_refl _,Int.natCast_nonneg _,h⟩
theorem fq(n:Int)(d:iK)(hd:sU d)(hn:n≤9223372036854775807):
  ∃(r:Int) (d':iK),KU ((n,()),((d,()),()))=some ((r,()),((d',()),()))∧sU d'∧(1≤n→0≤r∧r<n)∧(n<1→r=0):=by
 obtain⟨l,at_,u⟩:=d;obtain⟨h1,h2,h3⟩:=hd;simp only at h1 h2 h3;unfold KU;simp only[aI];by_cases c1:at_≥(l.length:Int)
 ·refine⟨0,(l,at_,()),?_,⟨h1,h2,h3⟩,fun h=>⟨by omega,by omega⟩,fun _=>rfl⟩;simp only[ak7 c1,au,sS]
 ·by_cases c2:n<1
  ·refine⟨0,(l,at_,()),?_,⟨h1,h2,h3⟩,fun h=>⟨by omega,by omega⟩,fun _=>rfl⟩;simp only[ak9 c1,ak7 c2,au,sS]
  ·have hat:aQ (at_+1)=at_+1:=bH (by omega) (by omega);have hne:n≠0:=by omega
   obtain⟨e,he⟩:=getD_some (l:=l) (i:=at_.toNat) (by omega);have hb:=Int.tmod_lt_of_pos e (show(0:Int)<n by omega)
   have hb2: -n<e.tmod n:=by
    have:=Int.lt_tmod_of_pos e (show(0:Int)<n by omega);omega
   by_cases c3:e.tmod n<0
   ·refine⟨e.tmod n+n,(l,at_+1,()),?_,⟨by simp only;omega,by simp only;omega,h3⟩,fun h=>⟨by omega,by omega⟩,fun h=>by omega⟩;simp only[ak9 c1,ak9 c2,au,sS,jo h1 he,ak7 hne,ak7 c3,hat,bH (x:=e.tmod n+n) (by omega) (by omega)]
   ·refine⟨e.tmod n,(l,at_+1,()),?_,⟨by simp only;omega,by simp only;omega,h3⟩,fun h=>⟨by omega,by omega⟩,fun h=>by omega⟩;simp only[ak9 c1,ak9 c2,au,sS,jo h1 he,ak7 hne,ak9 c3,hat]
theorem pX(l:List Int)(d:iK)(hd:sU d)(h0:0<l.length)(h1:l.length≤4294967296):
  ∃(r:Int) (d':iK),m32 ((l,()),((d,()),()))=some ((r,()),((d',()),()))∧sU d'∧r∈l:=by
 obtain⟨n,d',e1,e2,e3,_⟩:=fq l.length d hd (by omega);obtain⟨hn0,hn1⟩:=e3 (by omega);obtain⟨r,hr⟩:=getD_some (l:=l) (i:=n.toNat) (by omega);refine⟨r,d',?_,e2,akC hr⟩;unfold m32;simp only[e1,aly,aI,jo hn0 hr]
theorem IK(n:Int)(d:iK)(hd:sU d)(hn:1≤n)(hn2:n≤9223372036854775807):∃(b:Bool) (d':iK),m40 ((n,()),((d,()),()))=some ((b,()),((d',()),()))∧sU d':=by
 obtain⟨r,d',e1,e2,_⟩:=fq n d hd hn2;refine⟨(r==aQ (n-1)),d',?_,e2⟩;unfold m40;simp only[e1,aly]
theorem QM{A B:Type}(l:List A){n:Int}(h0:0≤n)(h1:n<l.length)(F:A→Option B):∃e,e∈l∧(bif decide ((0:Int)≤n∧(n:Int)<l.length)then(l[n.toNat]?).bind F else none)=F e:=by
 obtain⟨e,he⟩:=getD_some (l:=l) (i:=n.toNat) (by omega);exact⟨e,akC he,by rw[ak7 (And.intro h0 h1),he];rfl⟩
def lY(m:MT):Prop:=bC m=true∧m.1.size≤64∧m.2.2.1.size≤64∧0≤m.2.1∧m.2.1≤3
theorem lY.p{m:MT}(h:lY m):PSz m:=by have:=h.2.2.1;unfold PSz;omega
theorem lY.z{m:MT}(h:lY m):SF m:=by have:=h.2.1;have:=h.2.2.1;unfold SF;omega
theorem afj:∀k∈ [(bs [97,112,112]),(bs [104,111,115,116]),(bs [115,101,118]),(bs [116,101,97,109]),(bs [122,111,110,101])],kM k=true∧k.size≤64:=by decide+kernel
theorem afE:∀v∈ [(bs [97]),(bs [98]),ByteArray.empty,(bs [42]),(bs [99,114,105,116]),(bs [63]),(bs [119,101,98,45,42]),(bs [97,34,98,92])],tQ v=true∧v.size≤64:=by decide+kernel
theorem AQ(d:iK)(hd:sU d):∃(m:MT) (d':iK),m98 ((),((d,()),()))=some ((),((d',()),((m,()),())))∧sU d'∧lY m:=by
 obtain⟨a,d1,e1,hd1,b1,_⟩:=fq 5 d hd (by omega);have b1:=b1 (by omega);obtain⟨o,d2,e2,hd2,b2,_⟩:=fq 4 d1 hd1 (by omega);have b2:=b2 (by omega);obtain⟨c,d3,e3,hd3,b3,_⟩:=fq 8 d2 hd2 (by omega);have b3:=b3 (by omega);unfold m98;simp only[e1,aly]
 obtain⟨k,hk,ek⟩:=QM [(bs [97,112,112]),(bs [104,111,115,116]),(bs [115,101,118]),(bs [116,101,97,109]),(bs [122,111,110,101])] b1.1 b1.2 (fun e11=>(KU ((4,()),((d1,()),()))).bind fun u12=>
  (KU ((8,()),((u12.2.1.1,()),()))).bind fun u13=>
  bif (decide ((0:Int)≤u13.1.1∧(u13.1.1:Int)< [(bs [97]),(bs [98]),ByteArray.empty,(bs [42]),(bs [99,114,105,116]),(bs [63]),(bs [119,101,98,45,42]),(bs [97,34,98,92])].length))then
  ([(bs [97]),(bs [98]),ByteArray.empty,(bs [42]),(bs [99,114,105,116]),(bs [63]),(bs [119,101,98,45,42]),(bs [97,34,98,92])][u13.1.1.toNat]?).bind fun e14=>
  some (((),((u13.2.1.1,()),(((e11,(u12.1.1,(e14,()))),()),()))):(Unit)×(((List Int×Int×Unit)×Unit)×(MT×Unit)×Unit))
  else none)
 rw[ek];simp only[e2,e3,aly];obtain⟨v,hv,ev⟩:=QM [(bs [97]),(bs [98]),ByteArray.empty,(bs [42]),(bs [99,114,105,116]),(bs [63]),(bs [119,101,98,45,42]),(bs [97,34,98,92])] b3.1 b3.2 (fun e14=>some (((),((d3,()),(((k,(o,(e14,()))),()),()))):(Unit)×(((List Int×Int×Unit)×Unit)×(MT×Unit)×Unit)));rw[ev];have h1:=afj k hk;have h2:=afE v hv;refine⟨(k,o,v,()),d3,rfl,hd3,?_,h1.2,h2.2,b2.1,by simp only;omega⟩;unfold bC;simp only[h1.1,h2.1,ak7 b2.1,ak7 (show o≤3 by omega),Bool.and_self]
theorem Gy:∀(n:Nat) (i:Int) (d:iK) (l:List MT),sU d→i=n→l.length+n≤1000→(∀m∈l,lY m)→
  ∃(l':List MT) (d':iK),aB DK ((i,()),((d,()),(l,())))=some ((),((d',()),(l',())))∧sU d'∧l'.length=l.length+n∧∀m∈l',lY m:=by
 intro n
 induction n with
 |zero=>
  intro i d l hd hi hl hg;refine⟨l,d,aA ?_,hd,rfl,hg⟩;have:decide (i>0)=false:=ak9 (by omega);simp only[DK,this,au,sS]
 |succ n ih=>
  intro i d l hd hi hl hg;obtain⟨m,d1,e1,hd1,hm⟩:=AQ d hd
  obtain⟨l',d',e2,hd',hl',hg'⟩:=ih (i-1) d1 (l++ [m]) hd1 (by omega) (by simp;omega) (fun x hx=>by
   rcases akU.1 hx with h|h
   ·exact hg x h
   ·simp at h;subst h;exact hm)
  refine⟨l',d',?_,hd',by rw[hl'];simp;omega,hg'⟩;rw[←e2];refine aD ?_;have h0:decide (i>0)=true:=ak7 (by omega);have h1:decide (l.length+([m]:List MT).length≤4294967296)=true:=ak7 (by simp;omega);simp only[DK,h0,e1,au,sS,h1,bH (x:=i-1) (by omega) (by omega)]
theorem pO(n:Int)(d:iK)(hd:sU d)(h0:0≤n)(hn:n≤900):∃(l:List MT) (d':iK),m97 ((n,()),((d,()),()))=some ((),((d',()),(l,())))∧sU d'∧(l.length:Int)≤n∧∀m∈l,lY m:=by
 obtain⟨a,d1,e1,hd1,b1,_⟩:=fq (aQ (n+1)) d hd (by rw[bH (by omega) (by omega)];omega);rw[bH (x:=n+1) (by omega) (by omega)]at e1 b1;have b1:=b1 (by omega);obtain⟨l',d',e2,hd',hl',hg'⟩:=Gy a.toNat a d1 [] hd1 (by omega) (by simp;omega) (fun m hm=>by cases hm);refine⟨l',d',?_,hd',by rw[hl'];simp;omega,hg'⟩;unfold m97;simp only[bH (x:=n+1) (by omega) (by omega),e1,aly,e2]
def WW(l:List LT):Prop:=l.length≤4∧∀x∈l,x.1.size≤64∧x.2.1.size≤64
theorem WW.z{l:List LT}(h:WW l):K6 l:=⟨by have:=h.1;omega,fun x hx=>by have:=(h.2 x hx).2;omega⟩
abbrev fV:List ByteArray:=[(bs [97,112,112]),(bs [104,111,115,116]),(bs [115,101,118]),(bs [116,101,97,109])]
abbrev Rn:List ByteArray:=[ByteArray.empty,(bs [97]),(bs [98]),(bs [99,114,105,116]),(bs [97,34,98,92]),(bs [119,101,98,45,49])]
abbrev ael:ByteArray×ByteArray×ByteArray×ByteArray×Unit:=((bs [97,112,112]),((bs [104,111,115,116]),((bs [115,101,118]),((bs [116,101,97,109]),()))))
theorem NC:∀v∈Rn,tQ v=true∧v.size≤64:=by decide+kernel
theorem vG:∀k∈fV,kM k=true∧k.size≤64:=by decide+kernel
def jT(ks:List ByteArray)(l:List LT):Prop:=(l.map (·.1)).Sublist ks∧∀x∈l,x.2.1∈Rn∧x.2.1≠ByteArray.empty
theorem Lf:∀(n i:Nat) (d:iK) (l:List LT),i+n=4→sU d→jT (fV.take i) l→
  ∃(l':List LT) (d':iK),aB yX (((i:Int),ael,()),((d,()),(l,())))=some ((),((d',()),(l',())))∧sU d'∧jT fV l':=by
 intro n
 induction n with
 |zero=>
  intro i d l hi hd hl;refine⟨l,d,aA ?_,hd,by rw[show i=4 by omega]at hl;exact hl⟩;have:decide ((i:Int)<4)=false:=ak9 (by omega);simp only[yX,this,au,sS]
 |succ n ih=>
  intro i d l hi hd hl;obtain⟨k,hk⟩:=getD_some (l:=fV) (i:=i) (by show i<4;omega);obtain⟨a,d1,e1,hd1,b1,_⟩:=fq 6 d hd (by omega);have b1:=b1 (by omega);obtain⟨v,hv⟩:=getD_some (l:=Rn) (i:=a.toNat) (by show a.toNat<6;omega);have h0:decide ((i:Int)<4)=true:=ak7 (by omega);have hb:decide ((0:Int)≤a∧(a:Int)<Rn.length)=true:=ak7 ⟨b1.1,b1.2⟩;have htk:fV.take (i+1)=fV.take i++ [k]:=by rw[amj,hk];rfl
  have hw:aQ ((i:Int)+1)=((i+1:Nat):Int):=aG (by omega)
  have hlen:l.length≤4:=by
   have:=hl.1.length_le;rw[akD,akT]at this;omega
  by_cases he:v=ByteArray.empty
  ·obtain⟨l',d',e2,hd',hl'⟩:=ih (i+1) d1 l (by omega) hd1 ⟨by rw[htk];exact hl.1.trans (List.sublist_append_left _ _),hl.2⟩;refine⟨l',d',?_,hd',hl'⟩;rw[←e2];refine aD ?_;simp only[yX,h0,aI,aF hk,e1,hb,hv,bg,jK,ak7 he,au,sS,hw]
  ·obtain⟨l',d',e2,hd',hl'⟩:=ih (i+1) d1 (l++ [(k,v,())]) (by omega) hd1 ⟨by rw[htk,alh];exact hl.1.append (List.Sublist.refl _),fun x hx=>by
    rcases akU.1 hx with h|h
    ·exact hl.2 x h
    ·simp only[al3]at h;subst h;exact⟨akC hv,he⟩⟩
   refine⟨l',d',?_,hd',hl'⟩;rw[←e2];refine aD ?_;have h1:decide (l.length+([(k,(v,()))]:List LT).length≤4294967296)=true:=ak7 (by simp;omega);simp only[yX,h0,aI,aF hk,e1,hb,hv,bg,jK,ak9 he,au,sS,h1,hw]
theorem MX(d:iK)(hd:sU d):∃(l:List LT) (d':iK),m39 ((),((d,()),()))=some ((),((d',()),(l,())))∧sU d'∧jT fV l:=by
 obtain⟨l,d',h1,h2,h3⟩:=Lf 4 0 d [] (by omega) hd ⟨List.nil_sublist _,fun x hx=>by cases hx⟩;refine⟨l,d',?_,h2,h3⟩;unfold m39;refine aP _ h1 rfl
theorem Tv{l:List LT}(h:jT fV l):WW l:=by
 refine⟨by have:=h.1.length_le;rw[akD]at this;exact this,fun x hx=>⟨?_,(NC _ (h.2 x hx).1).2⟩⟩;exact(vG _ (h.1.subset (List.mem_map_of_mem hx))).2
theorem Qc:∀(n i:Nat) (d:iK) (l:List ByteArray),i+n=4→sU d→l.Sublist (fV.take i)→
  ∃(l':List ByteArray) (d':iK),aB zW (((i:Int),ael,()),((d,()),(l,())))=some ((),((d',()),(l',())))∧sU d'∧l'.Sublist fV:=by
 intro n
 induction n with
 |zero=>
  intro i d l hi hd hl;refine⟨l,d,aA ?_,hd,by rw[show i=4 by omega]at hl;exact hl⟩;have:decide ((i:Int)<4)=false:=ak9 (by omega);simp only[zW,this,au,sS]
 |succ n ih=>
  intro i d l hi hd hl;obtain⟨k,hk⟩:=getD_some (l:=fV) (i:=i) (by show i<4;omega);obtain⟨b,d1,e1,hd1⟩:=IK 3 d hd (by omega) (by omega);have h0:decide ((i:Int)<4)=true:=ak7 (by omega);have htk:fV.take (i+1)=fV.take i++ [k]:=by rw[amj,hk];rfl
  have hw:aQ ((i:Int)+1)=((i+1:Nat):Int):=aG (by omega)
  have hlen:l.length≤4:=by
   have:=hl.length_le;rw[akT]at this;omega
  cases b with
  |false=>
   obtain⟨l',d',e2,hd',hl'⟩:=ih (i+1) d1 l (by omega) hd1 (by rw[htk];exact hl.trans (List.sublist_append_left _ _));refine⟨l',d',?_,hd',hl'⟩;rw[←e2];refine aD ?_;simp only[zW,h0,aI,aF hk,e1,au,sS,hw]
  |true=>
   obtain⟨l',d',e2,hd',hl'⟩:=ih (i+1) d1 (l++ [k]) (by omega) hd1 (by rw[htk];exact hl.append (List.Sublist.refl _));refine⟨l',d',?_,hd',hl'⟩;rw[←e2];refine aD ?_;have h1:decide (l.length+ [k].length≤4294967296)=true:=ak7 (by simp;omega);simp only[zW,h0,aI,aF hk,e1,au,sS,h1,hw]
theorem FY(d:iK)(hd:sU d):∃(l:List ByteArray) (d':iK),m62 ((),((d,()),()))=some ((),((d',()),(l,())))∧sU d'∧l.Sublist fV:=by
 obtain⟨l,d',h1,h2,h3⟩:=Qc 4 0 d [] (by omega) hd (List.nil_sublist _);refine⟨l,d',?_,h2,h3⟩;unfold m62;refine aP _ h1 rfl
theorem light(l:List Int):m9 ((l,()),())=some ((decide (l.length≤500),()),()):=by
 unfold m9;rw[show decide ((l.length:Int)≤500)=decide (l.length≤500)from alM.2 (by omega)]
theorem roll(l:List Int):m11 ((l,()),())=some ((),(((l,0,()),()),())):=rfl
end Go.Proofs.YtchnmpafhfjimaaGreatDoor
