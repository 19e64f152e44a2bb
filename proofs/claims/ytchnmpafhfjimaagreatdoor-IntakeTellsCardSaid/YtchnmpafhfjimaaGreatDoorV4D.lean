/- Lemmas for the statement of the last text of this claim. -/
import Derived.Test.YtchnmpafhfjimaaGreatDoorV4C
set_option linter.unusedSimpArgs false
set_option linter.unusedVariables false
namespace Go.Proofs.YtchnmpafhfjimaaGreatDoor.Fr
open Go Go.Abs Go.RowKit Go.Maps
theorem acL:Maps.Keyed Tryz.prog 9:=string_keyed Tryz.underlying9
set_option maxHeartbeats 6400000 in
set_option maxRecDepth 1000000 in
theorem Sb(w:World)(a b:Int)(gs sl:Value)(l:List lV)(hsl:sl.oneCell'=true)(hv:PR w Hg gs (bR Kt l false))(hb:xB l=true):Calls Tryz.prog 47 #[.agg #[.int .i64 a,gs,sl,.int .i64 b]] w (BU l w):=by
 have hmm:= @run_makeMap Tryz.prog;obtain⟨ga,gb,go,gcap,rfl,ha,hc⟩:=Uw hv
 have H:Hid ((l≠ []→ga=some ⟨gb,go,none⟩)∧∀(p:Nat) (g:lV),l[p]?=some g→∃mv,w.cell? ⟨gb,go+p*5,none⟩=some (.int .i64 g.1)∧w.cell? ⟨gb,go+p*5+1,none⟩=some (.string g.2.1)∧
   w.cell? ⟨gb,go+p*5+2,none⟩=some mv∧w.cell? ⟨gb,go+p*5+3,none⟩=some (.int .i64 g.2.2.2.1)∧w.cell? ⟨gb,go+p*5+4,none⟩=some (.int .i64 g.2.2.2.2.1)∧mv.oneCell'=true∧PR w Hg mv (bR Wy g.2.2.1 false)):=⟨ha,hc⟩
 have HB:Hid (xB l=true):=hb;have hpb:=(acH hb).len;clear ha hc hv hb;obtain⟨i9,hi9,hz9,hs9,hb9⟩:=info_parts (P:=Tryz.prog) (e:=9) (z:=.string ⟨#[]⟩) (size:=1) (bytes:=16) (by kernel_rfl);obtain⟨i51,hi51,hz51,hs51,hb51⟩:=info_parts (P:=Tryz.prog) (e:=51) (z:=.slice none 0 0) (size:=1) (bytes:=24) (by kernel_rfl)
 go_enter Tryz.func47,Tryz.ntmps47
 go_wp2
 go_loopg [4,18] l.length (fun g kv i wr=>∃(p:Nat) (kv':Value),p≤l.length∧g=l.length-p∧i= .int .i64 p∧kv'=kv∧Hid (FI w wr kv' (bW (l.take p))))
 case atStart=>
  refine⟨0,_,alD _,rfl,rfl,rfl,?_⟩;have h1:=World.ownsMap_made (H:=Value) (w.alloc (.cells #[.int .i64 a,.slice ga l.length gcap,sl,.int .i64 b] 40)) Tryz.prog 9 RV;simp only[World.size_alloc]at h1;exact FI.start ((gF (gF (World.Since.refl _ w) (alj _) (World.grownBy_alloc _ _ none) (fun k e=>by cases e)) (by simp) (World.grownBy_alloc _ _ none) (fun k e=>by cases e))) (by simp) h1
 case round=>
  obtain⟨p,kv,hp,rfl,rfl,rfl,HF⟩:=hrel;by_cases hlt:p<l.length
  ·obtain⟨g,hg⟩:∃g,l[p]?=some g:=⟨_,alh hlt⟩
   have hne:l≠ []:=fun e=>by rw[e]at hlt;simp at hlt
   have:=H.out.1 hne;subst this;obtain⟨mv,c0,c1,c2,c3,c4,om,hmv⟩:=H.out.2 p g hg;have hgb:gb<w.heap.size:=World.block_lt_of_cell? _ _ c0;obtain⟨ma,mb,mo,mcap,rfl,hma,hmc⟩:=Sl hmv;have hs:=HF.out.since;have k0:wr.cell? ⟨gb,go+p*5,none⟩=some (.int .i64 g.1):=by rw[hs.cell (a:=⟨gb,go+p*5,none⟩) hgb];exact c0
   have k1:wr.cell? ⟨gb,go+p*5+1,none⟩=some (.string g.2.1):=by rw[hs.cell (a:=⟨gb,go+p*5+1,none⟩) hgb];exact c1
   have k2:wr.cell? ⟨gb,go+p*5+2,none⟩=some (.slice ma g.2.2.1.length mcap):=by rw[hs.cell (a:=⟨gb,go+p*5+2,none⟩) hgb];exact c2
   have k3:wr.cell? ⟨gb,go+p*5+3,none⟩=some (.int .i64 g.2.2.2.1):=by rw[hs.cell (a:=⟨gb,go+p*5+3,none⟩) hgb];exact c3
   have k4:wr.cell? ⟨gb,go+p*5+4,none⟩=some (.int .i64 g.2.2.2.2.1):=by rw[hs.cell (a:=⟨gb,go+p*5+4,none⟩) hgb];exact c4
   have HM:Hid ((g.2.2.1≠ []→ma=some ⟨mb,mo,none⟩)∧∀(q:Nat) (m:kJ),g.2.2.1[q]?=some m→∃lv,w.cell? ⟨mb,mo+q*6,none⟩=some (.string m.1)∧w.cell? ⟨mb,mo+q*6+1,none⟩=some lv∧
    w.cell? ⟨mb,mo+q*6+2,none⟩=some (.int .i64 m.2.2.1)∧w.cell? ⟨mb,mo+q*6+3,none⟩=some (.int .i64 m.2.2.2.1)∧w.cell? ⟨mb,mo+q*6+4,none⟩=some (.bool m.2.2.2.2.1)∧w.cell? ⟨mb,mo+q*6+5,none⟩=some (.bool m.2.2.2.2.2.1)∧lv.oneCell'=true∧PR w Hg lv (bR jG m.2.1 false)):=⟨hma,hmc⟩
   clear c0 c1 c2 c3 c4 om hmv hma hmc hs
   go_wp2
   have HG:Hid (FI w (wr.alloc (.cells #[.int .i64 g.1,.string g.2.1,.slice ma g.2.2.1.length mcap,.int .i64 g.2.2.2.1,.int .i64 g.2.2.2.2.1] 110)) kv (bW (l.take p))):=HF.out.same (World.grownBy_alloc _ _ none);have HT:Hid (l[p]?=some g):=hg;clear HF k0 k1 k2 k3 k4 hg
   go_loopg [4,25] g.2.2.1.length (fun c kx j wi=>∃(q:Nat) (kv':Value),q≤g.2.2.1.length∧c=g.2.2.1.length-q∧j= .int .i64 q∧kv'=kx∧Hid (FI w wi kv' (bW (l.take p)++(g.2.2.1.take q).filter fun m=>m.2.2.2.2.1)))
   case atStart=>exact⟨0,_,alD _,rfl,rfl,rfl,by rw[amH,List.filter_nil,alE];exact HG.out⟩
   case round=>
    clear HG;obtain⟨q,kx,hq,rfl,rfl,rfl,HI⟩:=hrel;by_cases hqt:q<g.2.2.1.length
    ·obtain⟨m,hm⟩:∃m,g.2.2.1[q]?=some m:=⟨_,alh hqt⟩
     have hne2:g.2.2.1≠ []:=fun e=>by rw[e]at hqt;simp at hqt
     have:=HM.out.1 hne2;subst this;obtain⟨lv,c0,c1,c2,c3,c4,c5,olv,hlv⟩:=HM.out.2 q m hm;obtain⟨la,lb,lo,lcap,rfl,_,_⟩:=wS hlv;have hmb:mb<w.heap.size:=World.block_lt_of_cell? _ _ c0;have hs:=HI.out.since;have k0:wr.cell? ⟨mb,mo+q*6,none⟩=some (.string m.1):=by rw[hs.cell (a:=⟨mb,mo+q*6,none⟩) hmb];exact c0
     have k1:wr.cell? ⟨mb,mo+q*6+1,none⟩=some (.slice la m.2.1.length lcap):=by rw[hs.cell (a:=⟨mb,mo+q*6+1,none⟩) hmb];exact c1
     have k2:wr.cell? ⟨mb,mo+q*6+2,none⟩=some (.int .i64 m.2.2.1):=by rw[hs.cell (a:=⟨mb,mo+q*6+2,none⟩) hmb];exact c2
     have k3:wr.cell? ⟨mb,mo+q*6+3,none⟩=some (.int .i64 m.2.2.2.1):=by rw[hs.cell (a:=⟨mb,mo+q*6+3,none⟩) hmb];exact c3
     have k4:wr.cell? ⟨mb,mo+q*6+4,none⟩=some (.bool m.2.2.2.2.1):=by rw[hs.cell (a:=⟨mb,mo+q*6+4,none⟩) hmb];exact c4
     have k5:wr.cell? ⟨mb,mo+q*6+5,none⟩=some (.bool m.2.2.2.2.2.1):=by rw[hs.cell (a:=⟨mb,mo+q*6+5,none⟩) hmb];exact c5
     clear c0 c1 c2 c3 c4 c5 hs;have hB:=acH HB.out;have hbm:=hB.mem g (alb HT.out) m (alb hm);have hql:g.2.2.1.length≤4294967296:=by exact alS (aav HT.out) hB.all
     have hpl:=alS (JH HT.out q) hB.all;have hkl:=Po (bW (l.take p)++(g.2.2.1.take q).filter fun m=>m.2.2.2.2.1) [];simp only[List.length_nil,amB]at hkl;have hkey:keyOf Tryz.prog 9 (.string m.1)=some (kl m.1):=WideMaps.keyOf_string_mk (P:=Tryz.prog) Tryz.underlying9 (by unfold maxLen;omega);obtain⟨D,d1,d2,d3⟩:=HI.out.map;have hx:=HI.out.keys;have hsz:=HI.out.size;have HR:Hid (PR w Hg (.slice la m.2.1.length lcap) (bR jG m.2.1 false)):=hlv;have HMm:Hid (g.2.2.1[q]?=some m):=hm;have HD2:Hid (∀k,Maps.has D (kl k)=(bT (bW (l.take p)++(g.2.2.1.take q).filter fun m=>m.2.2.2.2.1) []).any fun x=>decide (x=k)):=d2;have HD3:Hid (∀k∈bT (bW (l.take p)++(g.2.2.1.take q).filter fun m=>m.2.2.2.2.1) [],∃lv,D.atKey (kl k) zS= .held lv∧PR w Hg lv (bR jG (jD (bW (l.take p)++(g.2.2.1.take q).filter fun m=>m.2.2.2.2.1) k) false)):=d3
     obtain⟨pre,hpre⟩:∃pre,pre=bW (l.take p)++(g.2.2.1.take q).filter fun m=>m.2.2.2.2.1:=⟨_,rfl⟩
     rw[←hpre]at d1 hx hkl HD2 HD3 HI hpl;have HP:Hid (pre=bW (l.take p)++(g.2.2.1.take q).filter fun m=>m.2.2.2.2.1):=hpre;clear hlv hm d2 d3 hB hpre;generalize hhas:Maps.has D (kl m.1)=seen
     go_wp2_with (first
      |(at_lookup;refine wpList_lookup_own_ok _ rfl _ _ 154 rfl 9 51 acL Tryz.underlying154 RV (Tryz.zeroValue51 _) zS [] rfl (w.heap.size+1) _ D rfl (d1.alloc _) _ _ rfl hkey ?_;intro v ps hv;rw[hhas])
      | (at_mapUpdate;refine wpList_mapUpdate_own _ rfl _ _ _ 154 rfl 9 51 acL Tryz.underlying154 RV (w.heap.size+1) _ D rfl (d1.alloc _) (by unfold maxLen;omega) _ _ _ rfl rfl hkey (.held (.slice la m.2.1.length lcap)) [] rfl ?_;intro w1 hown1 hgrow1
         have k6:w1.cell? ⟨wr.heap.size,0,none⟩=some (.string m.1):=l8 hgrow1 (by simp) (by intro e;have:=Option.some.inj e;omega) (SX _ _ _ _);have hs1:=hgrow1.size)
      |(at_builtin;refine wpList_append_lies _ rfl _ _ 50 rfl (w.heap.size+2) 9 i9 (.string ⟨#[]⟩) 1 16 Tryz.underlying50 hi9 hz9 hs9 hb9 rfl (by decide) kx _ _ rfl (((hx.alloc _).kept hgrow1 (by cases hkb:kx.ownBlock with|none=>exact .inl rfl|some k=>exact .inr (by have:=(hx.lt k hkb).1;simp;omega))).alloc _) ⟨w1.heap.size,0,none⟩ 1 1 [.string m.1] rfl rfl NA (by intro u hu;simp at hu;subst hu;rfl) (by decide) (by unfold maxLen;omega) (by omega) (by simp at hs1 ⊢;omega) _ rfl ?_;intro g2 cap2 w2 hown2 hgrow2 hat2 hlt2))
     ·have hf:m.2.2.2.2.1=true:=by assumption
      have hno:m.1∉bT pre []:=fun c=>by
       have h1:=HD2.out m.1;rw[Ed.2 c,hhas]at h1;have h2:(!seen)=true:=by assumption
       rw[h1]at h2;cases h2
      go_roundg (g.2.2.1.length-(q+1))
      case measure=>omega
      case rel=>
       refine⟨q+1,_,by omega,rfl,by go_num,rfl,?_⟩;rw[uT HMm.out,if_pos hf,←al7,←HP.out];exact HI.out.new hno d1 HD2.out HD3.out HR.out (World.grownBy_alloc _ _ none) hown1 hgrow1 (World.grownBy_alloc _ _ none) hgrow2 hown2
     ·have hf:m.2.2.2.2.1=true:=by assumption
      have hyes:m.1∈bT pre []:=by
       have h1:=HD2.out m.1;have h2:(!seen)=false:=by assumption
       rw[hhas]at h1;cases seen
       ·cases h2
       ·exact Ed.1 h1.symm
      go_roundg (g.2.2.1.length-(q+1))
      case measure=>omega
      case rel=>
       refine⟨q+1,_,by omega,rfl,by go_num,rfl,?_⟩;rw[uT HMm.out,if_pos hf,←al7,←HP.out];exact(HI.out.same (World.grownBy_alloc _ _ none)).seen hyes
     ·have hf:m.2.2.2.2.1=false:=by
       have h:¬ m.2.2.2.2.1=true:=by assumption
       simpa using h
      go_roundg (g.2.2.1.length-(q+1))
      case measure=>omega
      case rel=>
       refine⟨q+1,_,by omega,rfl,by go_num,rfl,?_⟩;rw[uT HMm.out,if_neg (by rw[hf];simp),alE,←HP.out];exact HI.out.same (World.grownBy_alloc _ _ none)
    ·have hqe:q=g.2.2.1.length:=by omega
     have HE:Hid (FI w wr kx (bW (l.take (p+1)))):=by
      have:=HI.out;rw[hqe,amd,←X9 HT.out]at this;exact this
     clear HI
     go_wp2
     go_roundg (l.length-(p+1))
     case measure=>omega
     case rel=>exact⟨p+1,_,by omega,rfl,by go_num,rfl,HE.out⟩
  ·have hpe:p=l.length:=by omega
   have HE:Hid (FI w wr kv (bW l)):=by
    have:=HF.out;rw[hpe,amd]at this;exact this
   have hB:=acH HB.out
   have hkl:(kI l).length≤4294967296:=by
    have h1:=Po (bW l) [];have h2:=Rq l;have h3:=hB.all;simp only[List.length_nil,amB]at h1;exact alS h1 (alS h2 h3)
   clear HF;have hsort:=PL HE.out.keys hkl;obtain⟨ka,kg,kcap,rfl,hka⟩:=Xm HE.out.keys;have HK:Hid ((kI l).length≠0→ka=some ⟨kg,0,none⟩):=hka;clear hka;obtain⟨N,hN⟩:∃N,N=(kI l).length:=⟨_,rfl⟩
   go_wp2_with (go_at_call 102;refine hsort.mono ?_;rintro e w1 ⟨rfl,hown1,hgrow1⟩)
   have HS:Hid (w.Since w.heap.size w1∧w1.ownsRow (w.heap.size+2) 9 1 (.slice ka (kI l).length kcap) (kI l).length ((sorted (kI l)).map encStr)∧∃D,w1.ownsMap Tryz.prog 9 RV (w.heap.size+1) (bW l).length D∧
     ∀k∈kI l,∃lv,D.atKey (kl k) zS= .held lv∧PR w Hg lv (bR jG (jD (bW l) k) false)):=by
    obtain⟨D,d1,d2,d3⟩:=HE.out.map;have hlt:=HE.out.keys.lt;have hsz:=HE.out.size;refine⟨gF HE.out.since (by omega) hgrow1 (fun k e=>by have:=(hlt k e).1;omega),hown1,D,d1.kept hgrow1 ?_,d3⟩;intro e;have:=(hlt _ e.symm).1;omega
   clear HE hsort hown1 hgrow1
   go_loopg [11,58] (kI l).length (fun c ov i wo=>∃(q:Nat) (ov':Value),q≤(kI l).length∧c=(kI l).length-q∧i= .int .i64 q∧ov'=ov∧Hid (OI l w1 wo ov' q))
   case atStart=>exact⟨0,_,alD _,rfl,rfl,rfl,OI.start l w1⟩
   case round=>
    obtain⟨q,ov,hq,rfl,rfl,rfl,HO⟩:=hrel;by_cases hqt:q<(kI l).length
    ·have hkq:q<(sorted (kI l)).length:=by rw[yg];exact hqt
     obtain⟨k,hk⟩:∃k,(sorted (kI l))[q]?=some k:=⟨_,alh hkq⟩
     have hmem:=Pd (alb hk);obtain⟨gx,hgx,mx,hmx,emx⟩:=Ym hmem;have hkb:=(hB.mem gx hgx mx hmx).1;rw[emx]at hkb;have:=HK.out (by omega);subst this;obtain⟨s1,s2,D,s3,s4⟩:=HS.out
     have k0:wr.cell? ⟨kg,q,none⟩=some (.string ⟨k.toArray⟩):=by
      have h1:w1.cell? ⟨kg,q,none⟩=((sorted (kI l)).map encStr)[q]?:=s2.cellAt q (by omega);rw[ale,hk]at h1;exact l8 HO.out.grown (s2.lt kg rfl).2 (by simp) h1
     have hkey:keyOf Tryz.prog 9 (.string ⟨k.toArray⟩)=some (kl ⟨k.toArray⟩):=WideMaps.keyOf_string_mk (P:=Tryz.prog) Tryz.underlying9 (by unfold maxLen;omega);obtain⟨v,ps,hrun,hv⟩:=(s3.kept HO.out.grown (by simp)).lookup acL Tryz.underlying154 (Tryz.zeroValue51 _) (zd:=zS) (zp:=[]) rfl hkey;obtain⟨lv,e1,e2⟩:=s4 _ hmem;rw[e1]at hv;have hve:v=lv:=(show v=lv∧ps=[] by simpa[RV]using hv).1;subst hve;obtain⟨la,lb,lo,lcap,rfl,_,_⟩:=wS e2;have hsw:w.Since w.heap.size wr:=gF s1 s1.size HO.out.grown (fun k e=>by cases e);have hclone:=LC (Wn e2 hsw) (aao hB k);obtain⟨xs,hx,hr⟩:=HO.out.rows;have HR:Hid (∀(p:Nat) (y:Value),xs[p]?=some y→∃k,(sorted (kI l))[p]?=some k∧mK wr w1.heap.size ov.ownBlock y (xH l k)):=hr;have HKQ:Hid ((sorted (kI l))[q]?=some k):=hk;have hsz:=HO.out.grown.size;clear s1 s2 s3 s4 hv e2 hsw hr hk hmem emx hgx hmx
     go_wp2_with (first
      | (go_at_call 103;refine hclone.mono ?_;rintro e w2 ⟨v',rfl,hpr,ho,hbel⟩
         obtain⟨va,vb,vo,vcap,rfl,_,_⟩:=wS hpr;have hg2:=LZ hbel;have HL:Hid (mK w2 wr.heap.size none (.slice va (jD (bW l) ⟨k.toArray⟩).length vcap) (xH l k)):=acZ hpr;have hsz2:=hg2.size)
      |(at_builtin;refine wpList_append_lies _ rfl _ _ 94 rfl w1.heap.size 51 i51 (.slice none 0 0) 1 24 Tryz.underlying94 hi51 hz51 hs51 hb51 rfl (by decide) ov q xs rfl ((hx.kept hg2 (by cases ov.ownBlock with|none=>exact .inl rfl|some k=>exact .inr (by simp))).alloc _) ⟨w2.heap.size,0,none⟩ 1 1 [.slice va (jD (bW l) ⟨k.toArray⟩).length vcap] rfl rfl NA (by intro u hu;simp at hu;subst hu;rfl) (by decide) (by unfold maxLen;omega) (by omega) (by simp;omega) _ rfl ?_;intro g3 cap3 w3 hown3 hgrow3 hat3 hlt3))
     go_roundg ((kI l).length-(q+1))
     case measure=>omega
     case rel=>exact⟨q+1,_,by omega,rfl,by go_num,rfl,HO.out.step hx HR.out HKQ.out HL.out hg2 hgrow3 hown3 hat3⟩
    ·have hqe:q=(kI l).length:=by omega
     have HD:Hid (OI l w1 wr ov (sorted (kI l)).length):=by rw[yg,←hqe];exact HO.out
     clear HO
     go_wp2
     go_ret
     exact HD.out.done HS.out.1
theorem ad1:eZ Tryz.prog 47 Ro:=aaG (entered Tryz.func47 rfl (by decide)) Sb
end Go.Proofs.YtchnmpafhfjimaaGreatDoor.Fr
namespace Go.Proofs.YtchnmpafhfjimaaGreatDoor
open Go Go.Abs
noncomputable section
abbrev aU:Abs.Ty:=.int .i64
abbrev rIz:Abs.Ty:=.row aU
abbrev Oq:Abs.Ty:=.row .str
abbrev Z8:Abs.Ty:=(.cons aU (.cons aU (.cons aU (.cons .str (.cons (.row .str) (.cons (.row .str) .unit))))))
abbrev iU:Type:=(List (ByteArray×ByteArray×Unit))
abbrev yx:Type:=(Int×Int×Int×ByteArray×(List ByteArray)×(List ByteArray)×Unit)
abbrev SQ:Abs.Ty:=(.cons .str (.cons .str .unit))
abbrev Z7:Abs.Ty:=(.cons .str (.cons (.row SQ) (.cons aU (.cons aU (.cons .bool (.cons .bool .unit))))))
abbrev Z1:Abs.Ty:=(.cons aU (.cons .str (.cons (.row Z7) (.cons aU (.cons aU .unit)))))
abbrev Lb:Abs.Ty:=(.cons .str (.cons aU (.cons .str .unit)))
abbrev Z2:Abs.Ty:=(.cons aU (.cons (.row Lb) (.cons aU (.cons (.row .str) (.cons aU (.cons aU (.cons aU (.cons .bool .unit))))))))
abbrev Z4:Abs.Ty:=(.cons aU (.cons aU (.cons aU (.cons aU (.cons (.row Lb) .unit)))))
abbrev Z6:Abs.Ty:=(.cons (.row Lb) (.cons (.row Lb) (.cons (.row .str) .unit)))
abbrev Z16:Abs.Ty:=(.cons (.row Z2) (.cons (.row Z6) (.cons aU .unit)))
abbrev CX:Type:=((Int×ByteArray×Int×Int×Unit)×Unit)
abbrev Ox:Type:=((Int×Int×Int×ByteArray×Unit)×Unit)
abbrev Z20:Abs.Ty:=(.cons aU (.cons (.row Z1) (.cons (.row Z4) (.cons aU .unit))))
abbrev Z21:Abs.Ty:=(.cons (.row aU) (.cons aU .unit))
abbrev Bl:Type:=((Int×Int×Unit)×Unit)
abbrev iB:Type:=((Bool×Unit)×(Unit))
abbrev Nw:Type:=(ByteArray×Int×ByteArray×Unit)
abbrev Y3:Type:=(List Nw)
abbrev Y9:Type:=(Int×Y3×Int×(List ByteArray)×Int×Int×Int×Bool×Unit)
abbrev Bj:Type:=(List (Int×Int×Int×Int×Y3×Unit))
abbrev G9:Type:=(List (Y3×Y3×(List ByteArray)×Unit))
abbrev XY:Type:=((List Y9)×G9×Int×Unit)
abbrev Yc:Type:=(((List Int)×Int×Unit)×Unit)
abbrev U4:Abs.Ty:=(.cons aU (.cons (.row SQ) (.cons .bool .unit)))
abbrev BM:Type:=((ByteArray×Unit)×(Unit))
abbrev XZ:Type:=(ByteArray×iU×Int×Int×Bool×Bool×Unit)
abbrev Y5:Type:=(List XZ)
abbrev qX:Type:=(Int×ByteArray×Y5×Int×Int×Unit)
abbrev Y27:Type:=(Int×(List qX)×Bj×Int×Unit)
abbrev OP:Type:=((List qX)×(XY×Unit)×Bl×Bj×Unit)
abbrev Ya:Type:=(Y5×Ox×(List ByteArray)×(List ByteArray)×Unit)
abbrev Ld:Type:=((Unit)×((List Int)×Unit))
abbrev Y34:Type:=((yx×Unit)×(List yx)×((Int×Unit)×Unit)×(List Y9)×G9×Unit)
abbrev dK:Abs.Sh:=(.dat aU .nil)
abbrev qd:Abs.Sh:=(.dat aU dK)
abbrev Qs4:Abs.Sh:=(.agg (.dat aU (.dat aU (.dat aU (.dat .str (.st .nil (.st .nil .nil)))))) .nil)
abbrev Qb5:Abs.ja:=(.box 9 (.agg (.dat (.row Z2) (.dat (.row Z6) (.dat aU (.dat aU (.part Z1 (1,0) (.st (.own Z4 (2,0)) (.dat aU (.st (.own Z8 (3,0)) dK)))))))) .nil) (.arr Z1 false (.arr Z4 false (.arr Z8 false .nil))))
abbrev Le:Abs.Sh:=(.agg (.dat aU (.dat .str (.st .nil qd))) .nil)
abbrev jo:Abs.Sh:=(.dat .bool .nil)
abbrev Nj:Abs.Sh:=(.agg (.dat aU (.st .nil (.st .nil dK))) .nil)
abbrev abk:Abs.Sh:=(.agg (.dat aU (.dat aU (.dat aU (.dat .str (.st (.own .str (5,0)) (.st (.own .str (6,0)) .nil)))))) .nil)
abbrev JZ:Abs.ja:=(.box 5 (.agg (.dat aU (.dat .str (.st (.own Z7 (1,0)) qd))) .nil) (.arr Z7 false .nil))
abbrev iZ:Abs.Sh:=(.dat .str .nil)
abbrev rP:Abs.o6:=(.ptr (0,0) 5 0 0)
abbrev ajF:Abs.Sh:=(.agg (.dat aU (.dat aU (.dat aU (.dat .str (.st (.own .str (4,0)) (.st (.own .str (5,0)) .nil)))))) .nil)
abbrev oL:Abs.Sh:=(.dat (.row SQ) .nil)
abbrev zT:Abs.ja:=(.arr aU false .nil)
abbrev F3:Abs.ja:=(.box 5 (.dat Z1 .nil) .nil)
abbrev lU:Abs.o6:=(.ptr (0,0) 4 0 0)
abbrev Jq:Abs.o6:=(.own aU (0,0))
abbrev KM:Abs.Sh:=(.dat aU qd)
abbrev rO:Abs.o6:=(.own Z8 (1,0))
abbrev sW:Abs.o6:=(.ptr (2,0) 3 0 0)
abbrev Yh:Abs.o6:=(.ptr (0,0) 6 0 0)
abbrev Js:Abs.o6:=(.ptr (0,0) 3 0 0)
abbrev aa3:Abs.ja:=(.box 5 Le (.box 5 (.agg (.dat aU (.dat .str (.st (.own Z7 (2,0)) qd))) .nil) (.arr Z7 false .nil)))
abbrev aam:Abs.Sh:=(.agg (.dat aU (.dat .str (.st (.own Z7 (0,0)) qd))) .nil)
abbrev zy:Abs.ja:=(.arr SQ false .nil)
abbrev x9:Abs.o6:=(.own SQ (0,0))
abbrev Ky:Abs.o6:=(.ptr (0,0) 2 0 0)
abbrev YT:Abs.Sh:=(.dat aU (.st (.own Z1 (0,0)) (.st (.clo 132 [((1,0),3,0,0),((2,0),4,0,0)]) dK)))
abbrev Gz:Abs.o6:=(.ptr (1,0) 6 0 0)
abbrev Xd:Abs.o6:=(.ptr (1,0) 3 0 0)
abbrev acS:Abs.ja:=(.arr SQ true (.arr Z8 false (.box 3 (.agg (.st (.own Z2 (4,0)) (.st .nil dK)) .nil) (.arr aU false (.arr Z2 true .nil)))))
abbrev U8:Abs.Sh:=(.dat Lb .nil)
abbrev tq:Abs.Sh:=(.dat Z21 .nil)
abbrev sZ:Abs.ja:=(.box 2 tq .nil)
abbrev yI:Abs.Sh:=(.dat Z2 .nil)
abbrev aar:Abs.ja:=(.arr SQ true (.arr Z8 false (.box 3 (.agg (.st (.own Z2 (6,0)) (.st .nil dK)) .nil) (.arr aU false (.box 8 yI (.box 6 (.dat Z8 .nil) (.arr Z2 true .nil)))))))
abbrev YS:Abs.ja:=(.box 5 (.agg (.dat aU (.dat .str (.st (.own Z7 (3,0)) qd))) .nil) (.box 8 yI (.box 5 Le (.arr Z7 false .nil))))
abbrev ad9:Abs.ja:=(.box 5 Le (.box 6 Qs4 (.box 6 abk (.box 5 (.agg (.dat aU (.dat .str (.part Z7 (7,0) qd))) .nil) (.box 8 yI (.arr .str false (.arr .str false (.arr Z7 false .nil))))))))
abbrev adK:Abs.ja:=(.arr SQ true (.arr Z8 false (.box 3 (.agg (.st (.own Z2 (5,0)) (.st .nil dK)) .nil) (.arr aU false (.box 8 yI (.arr Z2 true .nil))))))
abbrev Hu:Abs.Sh:=(.dat aU iZ)
abbrev zV:Abs.o6:=(.ptr (1,0) 4 0 0)
abbrev KF:Abs.ja:=(.arr .str false .nil)
abbrev TV:Abs.ja:=(.arr .str false KF)
abbrev Qb6:Abs.ja:=(.box 6 (.agg (.dat aU (.dat aU (.dat aU (.dat .str (.st (.own .str (2,0)) (.st (.own .str (3,0)) .nil)))))) .nil) TV)
abbrev sV:Abs.Sh:=(.dat Z16 .nil)
abbrev acO:Abs.ja:=(.box 3 sV (.box 4 (.dat Z20 .nil) .nil))
abbrev BA:Abs.ja:=(.arr Z4 false .nil)
abbrev X8:Abs.ja:=(.arr Z1 false (.box 3 sV (.box 4 (.agg (.dat aU (.st (.own Z1 (0,0)) (.st (.own Z4 (3,0)) dK))) .nil) BA)))
abbrev ZE:Abs.ja:=(.box 4 Nj (.box 4 (.agg (.dat aU (.st (.own Z1 (5,0)) (.st (.own Z4 (6,0)) dK))) .nil) (.box 3 (.dat U4 .nil) (.box 3 sV (.arr aU false (.arr Z1 false BA))))))
abbrev Tk:Abs.ja:=(.box 4 (.agg (.dat aU (.st (.own Z1 (1,0)) (.st (.own Z4 (2,0)) dK))) .nil) (.arr Z1 false BA))
abbrev acR:Abs.ja:=(.box 4 (.agg (.dat aU (.part Z1 (2,0) (.st (.own Z4 (3,0)) dK))) .nil) (.arr Z8 false (.arr Z1 false BA)))
abbrev ad2:Abs.Sh:=(.st (.own .bool (0,0)) (.st (.own .bool (1,0)) (.dat .str (.dat aU (.dat .str dK)))))
abbrev LY:Abs.o6:=(.ptr (1,0) 5 0 0)
abbrev KV:Abs.Sh:=(.dat Oq .nil)
abbrev KE:Abs.o6:=(.own aU (3,0))
abbrev NW:Abs.Sh:=(.dat aU jo)
abbrev Od:Abs.o6:=(.ptr (2,0) 5 0 0)
abbrev aaq:Abs.Sh:=(.st (.clo 132 [((1,0),3,0,0),((2,0),4,0,0)]) .nil)
abbrev nZ:Type:=(Int×Unit)
abbrev Yq2:Type:=((((List Y9)×G9×Int×Int×(Nat×Nat)×Int×Int×Unit)×Unit)×(List qX)×Bj×(List yx)×Unit)
abbrev Ai:Type:=((Unit)×(Unit))
abbrev Yq4:Type:=((Int×ByteArray×(Nat×Nat)×Int×Int×Unit)×Unit)
abbrev Ov:Type:=(ByteArray×ByteArray×Unit)
abbrev PX:Type:=(XY×Unit)
abbrev Dr:Type:=(Int×Int×Unit)
abbrev U2:Type:=(((List Y9)×Int×iU×Unit)×(Unit))
abbrev Si:Type:=(Int×iU×Bool×Unit)
abbrev yw:Type:=(iU×Unit)
abbrev kH:Type:=(nZ×(Unit))
abbrev acK:Type:=(Y5×Ox×Ox×(Y9×Unit)×CX×(List ByteArray)×(List ByteArray)×Unit)
abbrev G5:Type:=(nZ×Unit)
abbrev NN:Type:=(Nw×Unit)
abbrev adt:Type:=(ByteArray×ByteArray×ByteArray×ByteArray×Unit)
abbrev L9:Type:=(Int×ByteArray×Unit)
abbrev WE:Type:=(Bl×Bl×(Si×Unit)×PX×(List Int)×(List qX)×Bj×Unit)
abbrev MV:Type:=(qX×Unit)
abbrev acI:Type:=(iU×(List yx)×G5×(List Int)×(Y9×Unit)×(yx×Unit)×(List Y9)×Unit)
abbrev Cg:Type:=((List Int)×Unit)
abbrev aaJ:Type:=(Y3×Y3×(List ByteArray)×Unit)
abbrev rJ:Type:=(Bool×Unit)
abbrev aa7:Type:=((yx×Unit)×G5×(List yx)×(List Y9)×G9×Unit)
abbrev Me:Type:=((Int×Y3×Int×Unit)×(Unit))
abbrev acX:Type:=(iU×(List yx)×G5×(List Int)×(Y9×Unit)×(List Y9)×Unit)
abbrev ahr:Type:=((Int×ByteArray×Bool×(List ByteArray)×(Nat×Nat)×Int×(List ByteArray)×Int×Int×Int×Int×Int×Int×Int×Unit)×((yx×Unit)×(yx×Unit)×(List yx)×G5×(List Y9)×G9×Unit))
abbrev XH:Type:=((List ByteArray)×Unit)
abbrev acQ:Type:=((Int×(Nat×Nat)×Int×Unit)×Unit)
abbrev Ku:Type:=(Int×Int×Int×Unit)
abbrev Qd:Type:=(Bl×(List qX)×Bj×Unit)
abbrev Xq:Type:=(Int×Int×Int×Int×Y3×Unit)
abbrev Wj:Type:=(Yc×Unit)
abbrev Wl:Type:=(Int×Y5×Int×Unit)
abbrev Uj:Type:=((ByteArray×Int×Unit)×(Unit))
abbrev Yg:Type:=(iU×(List yx)×G5×(List Int)×(List Y9)×Unit)
abbrev afN:Type:=(Ox×Yq4×Y5×CX×Ox×(Y9×Unit)×(List ByteArray)×(List ByteArray)×Unit)
abbrev adM:Type:=(CX×Ox×Ox×Yq4×(Y9×Unit)×(List ByteArray)×(List ByteArray)×Y5×Unit)
abbrev aa1:Type:=((List Int)×(List Int)×Unit)
abbrev acB:Type:=((ByteArray×Int×ByteArray×Int×Unit)×((List Bool)×(List Bool)×Unit))
abbrev aib:Type:=((Int×(List Si)×Int×Int×Unit)×(Bl×(((List Y9)×G9×Int×Int×(Nat×Nat)×Int×Int×Unit)×Unit)×PX×(List qX)×Bj×(List yx)×Unit))
abbrev acN:Type:=((yx×Unit)×G5×(List ByteArray)×(List yx)×(List Y9)×G9×Unit)
abbrev NH:Type:=(nZ×(CX×Y5×Unit))
abbrev NP:Type:=(Bool×Int×Unit)
abbrev WB:Type:=(Y27×Unit)
abbrev adH:Type:=(PX×WB×Unit)
abbrev Wv:Type:=(CX×(Y9×Unit)×CX×Y5×Unit)
abbrev VO:Type:=(Yc×(List ByteArray)×Unit)
abbrev UY:Type:=(MV×Unit)
abbrev ZC:Type:=((Int×ByteArray×Int×Unit)×(Unit))
abbrev aaE:Type:=((Int×iU×ByteArray×Unit)×(Unit))
abbrev afx:Type:=((Int×(List qX)×Int×Unit)×adH)
abbrev aaF:Type:=((Int×Bool×Unit)×(Unit))
abbrev ada:Type:=((List qX)×Bj×(List ByteArray)×Bl×PX×Unit)
abbrev Qi:Type:=((Y9×Unit)×Unit)
abbrev Yv:Type:=(Int×ByteArray×ByteArray×Unit)
abbrev ahz:Type:=((List yx)×Bl×PX×(List qX)×Bl×Bj×Unit)
abbrev afq:Type:=((ByteArray×Bool×Int×(Nat×Nat)×Int×(List ByteArray)×Int×Int×Int×Int×Int×Unit)×Y34)
abbrev adx:Type:=(Dr×(G5×(List yx)×(List Y9)×G9×Unit))
abbrev af8:Type:=(Int×(List iU)×Y5×Int×Unit)
abbrev adf:Type:=(CX×CX×Y5×Unit)
abbrev aaX:Type:=(Int×Int×Int×Int×Int×Unit)
abbrev Sd:Type:=(ByteArray×Unit)
abbrev Us:Type:=(NN×NN×Unit)
abbrev aeu:Type:=(acQ×(List yx)×(List qX)×Bj×Unit)
abbrev aay:Type:=(((List Y9)×Unit)×(Unit))
abbrev UJ:Type:=(Bool×Int×Int×Unit)
abbrev afQ:Type:=((Int×ByteArray×Int×ByteArray×Unit)×((List Bool)×(List Bool)×Unit))
abbrev Jb:Type:=(Bj×Unit)
abbrev KN:Type:=(nZ×Wj)
abbrev acT:Type:=(NN×NN×(List ByteArray)×Unit)
abbrev acF:Type:=((yx×Unit)×PX×(List Int)×Unit)
abbrev afO:Type:=((Bool×Int×ByteArray×Int×Int×Int×Int×Int×Int×Int×Unit)×acI)
abbrev YB:Type:=(Bool×ByteArray×Unit)
abbrev ae9:Type:=((List qX)×nZ×Unit)
abbrev YU:Type:=(Yc×(List Si)×Unit)
abbrev aa5:Type:=(yw×yw×Unit)
abbrev aeO:Type:=((Int×(List ByteArray)×(List ByteArray)×Int×Unit)×(Unit))
abbrev SN:Type:=(L9×(Unit))
abbrev Tn:Type:=((Unit)×Wj)
abbrev YF:Type:=(Wl×(Unit))
abbrev ZH:Type:=(Yc×(List Y9)×Unit)
abbrev aeX:Type:=((Int×Int×Int×ByteArray×Int×Int×Int×Int×Int×Unit)×acX)
abbrev WL:Type:=(PX×MV×Unit)
abbrev ahj:Type:=((Int×Int×Int×Int×ByteArray×ByteArray×Unit)×(Unit))
abbrev afk:Type:=((Int×(List ByteArray)×ByteArray×Int×Unit)×(Unit))
abbrev Vd:Type:=(Yc×iU×Unit)
abbrev ZN:Type:=((List Bool)×Unit)
abbrev afS:Type:=((Int×Int×(List ByteArray)×Int×Int×Int×Unit)×Y34)
abbrev aes:Type:=(Bool×ByteArray×Int×Unit)
abbrev af7:Type:=((Int×Bool×(List ByteArray)×Int×Int×Unit)×acK)
abbrev ahh:Type:=((Bool×(List ByteArray)×Int×Int×Int×Unit)×acK)
abbrev Iy:Type:=(NN×Unit)
abbrev Li:Type:=(yw×(Unit))
abbrev Ls:Type:=((Unit)×yw)
abbrev acp:Type:=((Int×Int×Bool×iU×Int×Bj×Int×Unit)×(Unit))
abbrev abr:Type:=((Int×(List Y9)×(List Y9)×Int×Unit)×(Unit))
abbrev ab2:Type:=((Int×Int×Bool×(List qX)×Int×Unit)×(Unit))
abbrev aeM:Type:=((qX×Y9×Int×(List ByteArray)×Unit)×(Unit))
abbrev abZ:Type:=((iU×(List iU)×G9×Int×Int×Unit)×(Unit))
abbrev abY:Type:=((Int×iU×(List iU)×G9×Int×Unit)×(Unit))
abbrev abQ:Type:=(((List ByteArray)×ByteArray×Unit)×(Unit))
abbrev ab4:Type:=((Int×(List ByteArray)×iU×Int×Unit)×yw)
abbrev abB:Type:=((iU×(List ByteArray)×Int×Int×Unit)×yw)
abbrev RP:Type:=(Int×adt×Unit)
abbrev abP:Type:=((ByteArray×Y5×Int×Int×Int×Unit)×(Unit))
abbrev abU:Type:=((Bool×ByteArray×ByteArray×Unit)×(Unit))
abbrev abW:Type:=(Ku×(PX×Bl×(List qX)×Bl×Bj×Unit))
abbrev ac0:Type:=((Int×(Nat×Nat)×Bool×Int×Int×Unit)×afN)
abbrev abF:Type:=((Int×(Nat×Nat)×Int×Int×Int×Unit)×aa7)
abbrev ab1:Type:=((Unit)×((List qX)×Bj×Bl×acQ×Unit))
abbrev acs:Type:=((Int×Int×(List Y9)×iU×Int×Unit)×aa1)
abbrev acz:Type:=((Bool×ByteArray×Int×Int×Unit)×(Unit))
abbrev Q6:Type:=(Yc×G9×Unit)
abbrev RF:Type:=(Int×iU×Unit)
abbrev LD:Type:=(yw×Unit)
abbrev abG:Type:=((Int×iU×(List ByteArray)×Unit)×yw)
abbrev acn:Type:=((Int×(List ByteArray)×Int×Unit)×aa5)
abbrev acv:Type:=((Int×ByteArray×iU×Int×Unit)×(Unit))
abbrev Wt:Type:=((XZ×Unit)×(Unit))
abbrev aci:Type:=((iU×(List ByteArray)×Unit)×(Unit))
abbrev abv:Type:=((Int×(List ByteArray)×Unit)×(Unit))
abbrev abN:Type:=((Dr×OP)⊕((nZ×OP)⊕((Unit)×OP)))
abbrev abJ:Type:=((Int×(List iU)×Int×Int×Unit)×ahz)
abbrev R3:Type:=(Y3×iU×Unit)
abbrev QB:Type:=(Yc×Y3×Unit)
abbrev abK:Type:=(Dr×(Bl×(List qX)×Bl×Bj×Unit))
abbrev QG:Type:=(NN×(Unit))
abbrev Vz:Type:=(MV×(Unit))
abbrev aby:Type:=((Int×Int×(List Y9)×Int×Unit)×Cg)
abbrev ab0:Type:=((Unit)×XH)
abbrev acw:Type:=((Int×Int×(List Y9)×iU×Unit)×aa1)
abbrev R4:Type:=((Unit)×adf)
abbrev abz:Type:=((ByteArray×Int×Int×Int×Unit)×ae9)
abbrev acy:Type:=((Bool×Int×ByteArray×Unit)×(Unit))
abbrev abT:Type:=((Bool×iU×(List Y9)×Unit)×(Unit))
abbrev QW:Type:=((aaJ×Unit)×Unit)
abbrev afg:Type:=((Int×iU×(List iU)×(List iU)×G9×Int×Int×Int×Unit)×QW)
abbrev V5:Type:=((Xq×Unit)×Unit)
abbrev Ro1:Abs.lX:=(.one (.exit 0) ⟨[],.nil,.nil⟩)
abbrev sU:Abs.Ty:=(.row SQ)
abbrev Rb3:Abs.ja:=(.box 6 (.agg (.dat aU (.dat aU (.dat aU (.dat .str (.st (.own .str (6,0)) (.st (.own .str (7,0)) .nil)))))) .nil) (.box 5 (.agg (.dat aU (.dat .str (.part Z7 (2,0) qd))) .nil) (.arr Z7 false (.box 5 Le (.box 6 Qs4 (.box 8 yI TV))))))
abbrev Ro4:Abs.lX:=(.more .ret ⟨[2],jo,.nil⟩ Ro1)
abbrev Ro5:Abs.lX:=(.more .ret ⟨[4],dK,.nil⟩ Ro1)
abbrev Rs8:Abs.Sh:=(.dat Z20 .nil)
abbrev ac4:Abs.ja:=(.arr Z7 false (.box 6 abk (.box 6 Qs4 (.box 8 yI (.box 5 aam TV)))))
abbrev afa:Abs.ja:=(.arr Z8 false (.box 4 (.agg (.dat aU (.st (.own Z1 (3,0)) (.st (.own Z4 (5,0)) dK))) .nil) (.box 3 sV (.arr Z1 false (.box 4 Nj BA)))))
abbrev aiN:Abs.ja:=(.box 3 U8 .nil)
abbrev UG:Abs.o6:=(.ptr (3,0) 5 0 0)
abbrev AX:Abs.Ty:=(.row Z2)
abbrev SF:Abs.Sh:=(.st (.ptr (0,0) 8 0 0) .nil)
abbrev aaY:Abs.o6:=(.own .str (2,0))
abbrev DJ:Abs.Ty:=(.row Z7)
abbrev aip:Abs.ja:=(.arr Z1 false (.arr Z4 false (.box 4 Nj (.box 4 (.agg (.dat aU (.part Z1 (0,0) (.st (.own Z4 (1,0)) dK))) .nil) .nil))))
abbrev aaM:Abs.ja:=(.arr Lb false .nil)
abbrev Jl:Abs.o6:=(.ptr (4,0) 8 0 0)
abbrev Rs6:Abs.Sh:=(.st x9 (.dat aU (.dat .str (.dat aU (.st rO (.st rO (.st sW (.st KE (.dat aU (.dat aU (.st Jl (.dat aU (.dat aU (.dat aU (.st (.ptr (5,0) 6 0 0) dK)))))))))))))))
abbrev Y8:Abs.ja:=(.arr .bool false .nil)
abbrev akb:Abs.Sh:=(.agg (.st (.own Z2 (2,0)) (.st (.own Z6 (3,0)) dK)) .nil)
abbrev af9:Abs.Sh:=(.agg (.dat aU (.dat aU (.dat aU (.dat .str (.st (.own .str (3,0)) (.st (.own .str (4,0)) .nil)))))) .nil)
abbrev NZ:Abs.Sh:=(.st rP .nil)
abbrev MP:Abs.ja:=(.arr Z7 false Qb6)
abbrev Tt:Abs.o6:=(.ptr (3,0) 3 0 0)
abbrev Nh:Abs.ja:=(.box 8 yI .nil)
abbrev MX:Abs.ja:=(.box 1 oL .nil)
abbrev aej:Abs.Sh:=(.dat aU (.dat (.row Lb) (.st (.clo 189 []) dK)))
abbrev XF:Abs.Ty:=(.row Z1)
abbrev Ce:Abs.Ty:=(.row sU)
abbrev JD:Abs.o6:=(.own Z1 (0,0))
abbrev agY:Abs.ja:=(.arr Z1 false (.arr Z4 false (.arr .str false (.box 4 (.agg (.dat aU (.st JD (.st (.own Z4 (1,0)) dK))) .nil) (.box 3 sV .nil)))))
abbrev ad3:Abs.Sh:=(.dat aU KM)
abbrev KT:Abs.Sh:=(.st Ky .nil)
abbrev aa6:Abs.Sh:=(.dat .str (.dat (.int .u8) .nil))
abbrev YC:Abs.Sh:=(.st rP (.st LY .nil))
abbrev MC:Abs.Sh:=(.dat .str iZ)
abbrev WV:Abs.o6:=(.ptr (1,0) 8 0 0)
abbrev aah:Abs.lX:=(.more .ret ⟨[4],jo,.nil⟩ Ro1)
abbrev Nz:Abs.Sh:=(.dat AX .nil)
abbrev akl:Abs.Sh:=(.dat Z8 .nil)
abbrev agk:Abs.o6:=(.own .str (0,0))
abbrev agi:Abs.Sh:=(.dat .bool (.st rP (.st Gz (.st Od (.dat aU (.st (.ptr (3,0) 8 0 0) KV))))))
abbrev Jy:Abs.Sh:=(.st Jq .nil)
abbrev Ro7:Abs.lX:=(.one (.exit 0) ⟨[1,7],(.dat aU Jy),zT⟩)
abbrev U1:Abs.ja:=(.arr Z7 false .nil)
abbrev Zc:Abs.o6:=(.clo 183 [((1,0),6,0,0)])
abbrev abg:Abs.Ty:=(.cons .str (.cons .str SQ))
abbrev abn:Abs.o6:=(.ptr (0,0) 9 0 0)
abbrev aaW:Abs.ja:=(.box 3 (.dat Z6 .nil) .nil)
abbrev aez:Abs.Sh:=(.st (.own Lb (1,0)) .nil)
abbrev Va:Abs.Sh:=(.dat .str dK)
abbrev MS:Abs.o6:=(.own Z7 (0,0))
abbrev ahE:Abs.Sh:=(.agg (.dat aU (.st (.own Z1 (3,0)) (.st (.own Z4 (4,0)) dK))) .nil)
abbrev ait:Abs.Sh:=(.dat .bool (.st rP (.dat aU (.st WV (.dat aU (.st Od .nil))))))
abbrev ahU:Abs.Sh:=(.st rP (.dat aU (.st WV (.dat aU (.dat DJ (.st Od qd))))))
abbrev UZ:Abs.Sh:=(.dat Z1 .nil)
abbrev Wi:Abs.ja:=(.arr Z1 false BA)
abbrev TL:Abs.Sh:=(.st rP dK)
abbrev adg:Abs.ja:=(.box 1 dK .nil)
abbrev adn:Abs.lX:=(.one (.exit 0) ⟨[0],iZ,.nil⟩)
abbrev adZ:Abs.ja:=(.box 2 tq (.arr U4 false .nil))
abbrev V4:Abs.o6:=(.ptr (2,0) 4 0 0)
abbrev Ph:Abs.o6:=(.ptr (2,0) 6 0 0)
abbrev aeR:Abs.Sh:=(.dat .bool (.st Gz (.dat Oq (.st MS (.st Ph (.dat aU (.st (.ptr (3,0) 8 0 0) (.st (.ptr (4,0) 5 0 0) qd))))))))
abbrev aix:Abs.Sh:=(.st rP (.st Gz (.dat .bool (.st Ph (.st UG (.dat aU (.st Jl .nil)))))))
abbrev Vq:Abs.o6:=(.ptr (3,0) 4 0 0)
abbrev adJ:Abs.ja:=(.box 2 tq (.arr Z2 false .nil))
abbrev adl:Abs.ja:=(.box 2 tq (.arr Z6 false .nil))
abbrev TM:Abs.Sh:=(.dat AX dK)
abbrev ah8:Abs.lX:=(.more .ret ⟨[4],dK,X8⟩ (.one (.exit 0) ⟨[],.nil,X8⟩))
abbrev Zn:Abs.ja:=(.arr .bool false Y8)
abbrev ag4:Abs.lX:=(.one (.exit 0) ⟨[5,0],(.dat aU (.st JD .nil)),X8⟩)
abbrev Fu:Abs.Ty:=(.row Z6)
abbrev Ut:Abs.Sh:=(.st Ky dK)
abbrev TB:Abs.Sh:=(.dat sU dK)
abbrev Zm:Abs.Sh:=(.dat .bool dK)
abbrev aiU:Abs.o6:=(.own Lb (0,0))
abbrev Yw:Abs.ja:=(.arr aU false zT)
abbrev ZI:Abs.o6:=(.own SQ (1,0))
abbrev ae7:Abs.ja:=(.box 5 (.dat Z4 .nil) .nil)
abbrev GV:Abs.Ty:=(.row Z4)
abbrev aiq:Abs.ja:=(.arr Z1 false (.arr Z4 false (.arr Z8 false .nil)))
abbrev Xk:Abs.o6:=(.own Z4 (0,0))
abbrev UM:Abs.Sh:=(.st x9 .nil)
abbrev Xz:Abs.o6:=(.own Z1 (1,0))
abbrev adv:Abs.lX:=(.one .ret ⟨[4],dK,Qb5⟩)
abbrev ags:Abs.Sh:=(.dat DJ dK)
abbrev afW:Abs.Sh:=(.dat XF dK)
abbrev aen:Abs.Sh:=(.dat .bool (.st abn qd))
abbrev UD:Abs.Sh:=(.st LY (.st Od .nil))
abbrev ab6:Abs.o6:=(.ptr (2,0) 8 0 0)
abbrev R8:Abs.o6:=(.own .bool (0,0))
def note:FuncId→Abs.Note
 |4=>⟨true,[0,1,4,5,6,7,8,9,10,12,13,15,16,17,18,19,21,22,25,46,69,78,79,80,81,92,93,94,95,107,123,132,141,155],false,fun _=> []⟩
 |5=>⟨true,[0,2,3,4,6,7,8,9,10,11,12,13,15,16,18,20,22,25,40,46,47,48,49,100,106,107,108,109,147,150,151,152,153,158,159,160,161,165,166,167,168,194,198,199,200,201,230],false,fun|5=> [(0,2),(0,8),(2,8),(3,8)]|13=> [(2,4)]|_=> []⟩
 |9=>⟨true,[0,2],false,fun _=> []⟩
 |10=>⟨true,[0,1,2,4,5,6,7,8,9,10,11,12,13],false,fun|4=> [(0,1),(0,3),(1,3),(0,10),(1,10),(3,10),(5,10)]|_=> []⟩
 |11=>⟨true,[0,2],false,fun _=> []⟩
 |12=>⟨true,[0,1,4],false,fun _=> []⟩
 |13=>⟨true,[0,1,4,5,6,7,13],false,fun _=> []⟩
 |15=>⟨true,[0,1,2,3,6,7,8,9,10,12,13,14,17,22,27,39,40,41,42,50,67,76],false,fun|8=> [(0,1)]|22=> [(7,8)]|_=> []⟩
 |19=>⟨true,[0,1,4,12],false,fun _=> []⟩
 |20=>⟨true,[0,1,2,4,7],false,fun _=> []⟩
 |21=>⟨true,[0,1,2,4,5,6,13,22],false,fun _=> []⟩
 |22=>⟨true,[0,2,3,4,5,6,7,9,25,36,40,60],false,fun _=> []⟩
 |23=>⟨true,[0,1,2,3,4,6,7,8,16,38],false,fun|5=> [(15,17)]|_=> []⟩
 |24=>⟨true,[0,2,3,4],false,fun _=> []⟩
 |25=>⟨true,[0,1,2,3,4,5,6,7,8,9,10,11,17,33],false,fun|13=> [(2,3)]|_=> []⟩
 |26=>⟨true,[0],false,fun _=> []⟩
 |27=>⟨true,[0,1,2,3,4,5,6,7,8,10,11,12,13,14,15,25,32,44,45,46,47,72,74,105,119],false,fun|15=> [(1,5),(1,6)]|16=> [(1,20),(4,20),(6,20),(9,20),(11,20),(13,20),(15,20),(16,20)]|_=> []⟩
 |28=>⟨true,[0,1,2,3,4,6,7,8,9,10,14,20],false,fun _=> []⟩
 |30=>⟨true,[0,1,2,3,4,5,7,9,10,11,12,27],false,fun _=> []⟩
 |32=>⟨true,[0,1,4],false,fun _=> []⟩
 |34=>⟨true,[0,1,2,3,4,9,15,24],false,fun _=> []⟩
 |36=>⟨true,[0,1,2,3,4,5,6,7,37,54,56,57,58,59,98,102],false,fun _=> []⟩
 |38=>⟨true,[0,1,4,5,19,40],false,fun _=> []⟩
 |39=>⟨true,[0,2,3,5,6,7,8,9,17],false,fun _=> []⟩
 |40=>⟨true,[0,1,4],false,fun _=> []⟩
 |47=>⟨true,[0,1,2,3,4,6,8,10,11,13,16,17,18,19,23,24,25,26,41,56,57,58,59],true,fun _=> []⟩
 |50=>⟨true,[0,1,4,5,6,7,16],false,fun _=> []⟩
 |51=>⟨true,[0,2,3,4,5,9],false,fun _=> []⟩
 |52=>⟨true,[0,1,4,5,6,7,8,23,35],false,fun|7=> [(3,19),(7,19),(13,19),(15,19)]|_=> []⟩
 |56=>⟨true,[0,2,3,4,7,10,14,47,54,61],false,fun _=> []⟩
 |57=>⟨true,[0,2,3,6,10,54],false,fun _=> []⟩
 |58=>⟨true,[0,1,2,6,7,8,9,16,29,47,50],false,fun _=> []⟩
 |59=>⟨true,[0,2,3,4,7,11,15],false,fun|9=> [(5,12)]|_=> []⟩
 |60=>⟨true,[0,1,4,5,6,7,11,17,29],false,fun _=> []⟩
 |61=>⟨true,[0,2,3,4,5,6,7,20,26,30],false,fun _=> []⟩
 |62=>⟨true,[0,2,3,5,6,7,8,11],false,fun _=> []⟩
 |63=>⟨true,[0,1,3,4,5,6,7,17],false,fun|1=> [(1,2),(1,3)]|_=> []⟩
 |64=>⟨true,[0,1,2,3,4,14,15,16,17],true,fun|1=> [(2,4)]|5=> [(1,4)]|_=> []⟩
 |65=>⟨true,[0,1,4,5,9,10,11,12,29],true,fun _=> []⟩
 |66=>⟨true,[0,2,3,4,7,8,9,10,11,44],false,fun _=> []⟩
 |67=>⟨true,[0,1,2,4,5,10],false,fun _=> []⟩
 |68=>⟨true,[0,1,4,12],false,fun _=> []⟩
 |69=>⟨true,[0,1,2,4,7],false,fun _=> []⟩
 |70=>⟨true,[0,1,2,4,6,7],true,fun _=> []⟩
 |71=>⟨true,[0,1,2,6,7,8,9,16,22,31,68],true,fun _=> []⟩
 |72=>⟨true,[0,1,4],false,fun _=> []⟩
 |73=>⟨true,[0,1,2,3,4,5,6,10,11,12,13,14,15,16,31,46,59,68],false,fun _=> []⟩
 |74=>⟨true,[0,1,2,3,4],true,fun _=> []⟩
 |75=>⟨true,[0,1,2,3,4,6,7,8,9,10,11,12,13,14,15,16,23,24,25,26,52,53,54,55,83],false,fun|6=> [(1,13)]|13=> [(0,12),(2,12),(4,12),(6,12),(0,19),(2,19),(4,19),(6,19),(8,19),(9,19),(10,19),(12,19),(13,19),(0,20),(2,20),(4,20),(6,20),(8,20),(9,20),(10,20),(12,20),(13,20),(19,20)]|_=> []⟩
 |78=>⟨true,[0,2,3,4,5,6,10,14,15,16,17,25,33],false,fun _=> []⟩
 |79=>⟨true,[0,2,4,5,8,9,10,11,12,18],false,fun _=> []⟩
 |81=>⟨true,[0,2,3,5,6,9,10,11,12,13,20],false,fun _=> []⟩
 |82=>⟨true,[0,1,2,3,4,25,27,28,29,30,52],false,fun _=> []⟩
 |83=>⟨true,[0,1,2,3,4,6],true,fun _=> []⟩
 |84=>⟨true,[0,1,2,3,6,10],false,fun _=> []⟩
 |85=>⟨true,[0,1,4],false,fun _=> []⟩
 |86=>⟨true,[0,1,2,3,4],true,fun|1=> [(8,10)]|_=> []⟩
 |97=>⟨true,[0,1,4,5,6,12],false,fun _=> []⟩
 |98=>⟨true,[0,2],false,fun|1=> [(0,2),(0,6),(4,6),(0,7),(2,7),(4,7),(6,7),(0,9),(4,9),(7,9),(0,11)]|_=> []⟩
 |102=>⟨true,[0,2],false,fun _=> []⟩
 |103=>⟨true,[0,2,4],false,fun _=> []⟩
 |104=>⟨true,[0,1,2,3,13,18,27,28,33],false,fun _=> []⟩
 |105=>⟨true,[0,2,3,21,25,55],false,fun _=> []⟩
 |106=>⟨true,[0,2,3,6,10,22],false,fun _=> []⟩
 |107=>⟨true,[0,1,4,5,6,10,19],false,fun _=> []⟩
 |108=>⟨true,[0,1,4,5,9,18],false,fun _=> []⟩
 |109=>⟨true,[0,2,3,4,8,20],false,fun _=> []⟩
 |110=>⟨true,[0,2,3,4,5,6,7,8,9,10,11,33,47,74,83,88,94,112],false,fun _=> []⟩
 |111=>⟨true,[0,2,3,4,8,9,10],false,fun _=> []⟩
 |112=>⟨true,[0,2,4],false,fun _=> []⟩
 |113=>⟨true,[0,1,2,3,10,11,12],true,fun|5=> [(1,9)]|_=> []⟩
 |114=>⟨true,[0,1,2],true,fun _=> []⟩
 |115=>⟨true,[0,2,3,4,21,23,24,25,47],false,fun _=> []⟩
 |116=>⟨true,[0,2,3,5,6,7,18],false,fun _=> []⟩
 |117=>⟨true,[0,1,2,6,7,9,12,13,14,15,25,37,41],false,fun _=> []⟩
 |118=>⟨true,[0,2,3,5,8,9,10,11,12],false,fun|7=> [(2,6)]|_=> []⟩
 |119=>⟨true,[0,1,4,5,7,8,9,10,11,17],false,fun _=> []⟩
 |120=>⟨true,[0,1,2,6,7,8,9,10,11,17,31],true,fun _=> []⟩
 |121=>⟨true,[0,1,2,3,5],true,fun _=> []⟩
 |123=>⟨true,[0,1],false,fun _=> []⟩
 |124=>⟨true,[0,1,2],false,fun _=> []⟩
 |125=>⟨true,[0,1,2,6],false,fun _=> []⟩
 |126=>⟨true,[0,1,2,4,5],false,fun _=> []⟩
 |127=>⟨true,[0,1,2,3,4,6,10,31,38,50],true,fun _=> []⟩
 |128=>⟨true,[0,1,2,6,7,8,9,16,22,31,68],true,fun _=> []⟩
 |129=>⟨true,[0,1,2,4,6,15,29],false,fun _=> []⟩
 |130=>⟨true,[0,1,2,4],true,fun _=> []⟩
 |131=>⟨true,[0,1,4,5,6,7,12,19,29],true,fun _=> []⟩
 |132=>⟨true,[0,1,2,3,4],true,fun _=> []⟩
 |133=>⟨true,[0,1,2,3,4,5,8,9,10,12,13,14,15,25,38,41,42,43,44,66],false,fun _=> []⟩
 |134=>⟨true,[0,1,2,3,4,5,8,9,10,11,12,13,14,15,16,17,18,29,45,56,65,66,67,68,101],false,fun|15=> [(1,10)]|23=> [(1,2),(2,4)]|_=> []⟩
 |135=>⟨true,[0,1,2,3,4,5,6,8,9,11,13,14,15,16,28],true,fun _=> []⟩
 |139=>⟨true,[0,1,2,4,5,28,39,49],false,fun _=> []⟩
 |140=>⟨true,[0,1,2,3,14,31],false,fun _=> []⟩
 |142=>⟨true,[0,2,3,7,31],false,fun _=> []⟩
 |143=>⟨true,[0,1,2,4,5,15,36,41,46],false,fun _=> []⟩
 |144=>⟨true,[0,1,2],false,fun|1=> [(6,8)]|_=> []⟩
 |145=>⟨true,[0,1,2],true,fun _=> []⟩
 |146=>⟨true,[0,1,4,5,6,11,12,13,16,19],false,fun _=> []⟩
 |147=>⟨true,[0,1,4,5,7,8,9,16],true,fun _=> []⟩
 |160=>⟨true,[0,1,2,3,8,9,10,11,12,13,14,15,16,17,18,23,29,35,50,68,72,87,113],false,fun _=> []⟩
 |161=>⟨true,[0,2],false,fun _=> []⟩
 |162=>⟨true,[0,1,2],false,fun _=> []⟩
 |163=>⟨true,[0,1,2,4,5,11,12,18,24,30],false,fun _=> []⟩
 |164=>⟨true,[0],false,fun _=> []⟩
 |165=>⟨true,[0,2,4],false,fun _=> []⟩
 |166=>⟨true,[0,2,4],false,fun _=> []⟩
 |167=>⟨true,[0,2,4],false,fun _=> []⟩
 |168=>⟨true,[0,1,4,5,6,7,8,9,10,11,18],false,fun _=> []⟩
 |169=>⟨true,[0,1,3,4],false,fun _=> []⟩
 |170=>⟨true,[0,2,3,4,7,8,9,20],false,fun _=> []⟩
 |171=>⟨true,[0,1,4,5,7,8,10,12,13,15,22,29,39,40,41,42,49,63,64,65,66],false,fun _=> []⟩
 |172=>⟨true,[0,1,4],false,fun _=> []⟩
 |173=>⟨true,[0,1],false,fun _=> []⟩
 |174=>⟨true,[0,1,2,6,7,8,9,10,11,17,31],false,fun _=> []⟩
 |175=>⟨true,[0,1,2,4],true,fun _=> []⟩
 |176=>⟨true,[0,1,2,6,7,16],true,fun _=> []⟩
 |178=>⟨true,[0,1],false,fun _=> []⟩
 |179=>⟨true,[0,2,4],false,fun _=> []⟩
 |180=>⟨true,[0,1,4,5,7,8,9,16],true,fun _=> []⟩
 |181=>⟨true,[0,1,2,3,4,5,8,9,10,11,13,14,24,25,26,27,37,42],true,fun|13=> [(7,11)]|_=> []⟩
 |182=>⟨true,[0,1,4,5,6,7,12,19,29],true,fun _=> []⟩
 |183=>⟨true,[0,1,2,3],true,fun _=> []⟩
 |184=>⟨true,[0,1,2],false,fun _=> []⟩
 |185=>⟨true,[0,1,2,3,4,10,12],false,fun _=> []⟩
 |186=>⟨true,[0,1,4],false,fun _=> []⟩
 |187=>⟨true,[0,1,2],false,fun _=> []⟩
 |188=>⟨true,[0,2,3,4,5,6,7,8,27],false,fun _=> []⟩
 |189=>⟨true,[0,1,2],false,fun _=> []⟩
 |190=>⟨true,[0,2],false,fun _=> []⟩
 |192=>⟨true,[0,1,2,6,7,12,30],false,fun _=> []⟩
 |193=>⟨true,[0,1,2,6,7,8,9,10,19,30],false,fun _=> []⟩
 |194=>⟨true,[0,1,2,6,7,8,9,10,15,33,43],false,fun _=> []⟩
 |195=>⟨true,[0,1,2,6,7,8,9,10,11,12,32,34,49,51,54],false,fun _=> []⟩
 |196=>⟨true,[0,1,2,6,7,13],false,fun _=> []⟩
 |197=>⟨true,[0,1,2,6,7,8,9,10,14,32,37,41,61,65,78,98,103,116],false,fun _=> []⟩
 |198=>⟨true,[0,1,4],false,fun _=> []⟩
 |199=>⟨true,[0,1,2,3,8,9,10,43,59,64],false,fun _=> []⟩
 |200=>⟨true,[0,1,2,3,8,9,10,11,43,60,65,112,129,134],false,fun _=> []⟩
 |201=>⟨true,[0,2,4,8],false,fun _=> []⟩
 |202=>⟨true,[0,2,4,8,14],false,fun _=> []⟩
 |203=>⟨true,[0,1,4,5,9,18],false,fun _=> []⟩
 |204=>⟨true,[0,1,4,5,6,7,8,18,28,34,54],false,fun _=> []⟩
 |205=>⟨true,[0,1,2,3],true,fun _=> []⟩
 |206=>⟨true,[0,1,2,4,5,11,12,18,24,30],false,fun _=> []⟩
 |207=>⟨true,[0,1,4],false,fun _=> []⟩
 |208=>⟨true,[0,2],false,fun _=> []⟩
 |209=>⟨true,[0,1,7,21],false,fun _=> []⟩
 |210=>⟨true,[0,1,4,5],false,fun _=> []⟩
 |211=>⟨true,[0,1,4,5,7,8,9,16],false,fun _=> []⟩
 |212=>⟨true,[0,2,3,9],true,fun _=> []⟩
 |213=>⟨true,[0,1],false,fun _=> []⟩
 |214=>⟨true,[0,1,2,6,7,9,10,11,12,13,41],false,fun _=> []⟩
 |215=>⟨true,[0,1,2,6,8,10,11,12,13,14,21,22,23,24,25,45],false,fun _=> []⟩
 |216=>⟨true,[0,1,4,5,7,8,9,16],false,fun _=> []⟩
 |217=>⟨true,[0,1,2],false,fun _=> []⟩
 |218=>⟨true,[0,2],false,fun _=> []⟩
 |219=>⟨true,[0,1,2,3,8,9,16,36,52],false,fun _=> []⟩
 |220=>⟨true,[0,2],false,fun _=> []⟩
 |221=>⟨true,[0,2],false,fun _=> []⟩
 |222=>⟨true,[0,1,2,6],false,fun _=> []⟩
 |223=>⟨true,[0,1,2,3,4,10],false,fun _=> []⟩
 |224=>⟨true,[0,1,4,6,7,8,9,10,16],false,fun _=> []⟩
 |225=>⟨true,[0,1,4,5,6,7,8,12,13,28,52],false,fun _=> []⟩
 |226=>⟨true,[0,6,19],false,fun _=> []⟩
 |227=>⟨true,[0,1,4],false,fun|0=> [(8,12)]|_=> []⟩
 |228=>⟨true,[0,2,3,9],true,fun _=> []⟩
 |229=>⟨true,[0,1,2,3,4,6],false,fun _=> []⟩
 |230=>⟨true,[0,1,2,3,8,9,18],false,fun _=> []⟩
 |231=>⟨true,[0,1,4,5,6,12,21,34],false,fun _=> []⟩
 |234=>⟨true,[0,1,4],false,fun _=> []⟩
 |235=>⟨true,[0,1,2,4],true,fun|1=> [(2,3)]|_=> []⟩
 |236=>⟨true,[0,1,4,13],false,fun _=> []⟩
 |237=>⟨true,[0,1,4,16],false,fun _=> []⟩
 |238=>⟨true,[0,2,3,4,5,9,16],false,fun _=> []⟩
 |239=>⟨true,[0,1,4,7,12],false,fun _=> []⟩
 |240=>⟨true,[0,1,4,7,15],false,fun _=> []⟩
 |241=>⟨true,[0,1,4,5,6,9,18],false,fun _=> []⟩
 |242=>⟨true,[0,1,4,5,6,9,17,26],false,fun _=> []⟩
 |243=>⟨true,[0,1,4,5,7,8,9,16],false,fun _=> []⟩
 |244=>⟨true,[0,1,4],false,fun _=> []⟩
 |245=>⟨true,[0,2,3,10],false,fun _=> []⟩
 |246=>⟨true,[0,1,4],false,fun _=> []⟩
 |247=>⟨true,[0,2,3,4,5,6,10,18,27,33,35,48],false,fun _=> []⟩
 |248=>⟨true,[0,2,3,4,5,6,7,8,9,10,11,12,16,23,45,57,59,75,77,98],false,fun _=> []⟩
 |249=>⟨true,[0,1,4,5,6,7,8,9,10,11,12,13,14,15,16,26,33,43,51,64,98,108,124,139,143,156,160,171,175,176,177,181,183],false,fun _=> []⟩
 |250=>⟨true,[0,2],false,fun _=> []⟩
 |251=>⟨true,[0,1,4],false,fun _=> []⟩
 |252=>⟨true,[0,2,3,10],false,fun _=> []⟩
 |253=>⟨true,[0,2],false,fun _=> []⟩
 |255=>⟨true,[0,1,4],false,fun _=> []⟩
 |_=>⟨false,[],false,fun _=> []⟩
theorem good:Abs.Good Tryz.prog note:=Abs.ZQ (by kernel_rfl)
theorem BK:(Tryz.prog).follows .mixedOrders=true:=by kernel_rfl
def RN:FuncId→Option Nat:=Abs.afs [(52,1)]
def Xu:FuncId→Option Abs.gL:=Abs.Kc [(170,Abs.Db Abs.Jm),(171,Abs.Db Abs.PE),(176,Abs.YH Z7),(47,Abs.Ro),(238,Abs.BD),(240,Abs.BD),(239,Abs.BD),(242,Abs.BD),(241,Abs.BD),(71,Abs.wI Z1),(128,Abs.wI Z7)]
theorem Jz:∀f q,Xu f=some q→Abs.eZ Tryz.prog f q:=Abs.TR _ (by
 intro p hp;simp only[alN,List.not_mem_nil,or_false]at hp;rcases hp with rfl|rfl|rfl|rfl|rfl|rfl|rfl|rfl|rfl|rfl|rfl
 ·exact abb
 ·exact aat
 ·exact Zx Z7 rfl
 ·exact Fr.ad1
 ·exact Abs.qC
 ·exact Abs.qC
 ·exact Abs.qC
 ·exact Abs.qC
 ·exact Abs.qC
 ·exact Ig.aeA Z1 rfl
 ·exact Y1 Z7 rfl
)
abbrev eP(f:FuncId)(s:Abs.Spec):Prop:=Abs.gI Tryz.prog f s
def bQ{β:Type}:List (Nat×β)→Nat→Option β
 | [],_=>none
 |(k,x)::r,n=>bif n==k then some x else bQ r n
def bM{α β:Type}:α→Option β:=fun _=>none
def jb:Nat→Nat→Nat:=fun _ _=>0
def Aq:Nat→Abs.ig:=fun _=>{}
theorem okW{l:List (FuncId×Abs.Spec)}(an:Nat→Abs.ig){f:FuncId}{sp:Abs.Spec}(hl:∀p∈l,eP p.1 p.2)(hon:(note f).on=true:=by rfl)(h:∀v,(Abs.bodyC Tryz.prog note Xu RN (Abs.vg l) an 12 f sp.keep sp.σi sp.σo v).mean=sp.m v:=by intro v;kernel_rfl):eP f sp:=
 Abs.wL (C:=Xu) (mv:=RN) Jz (n:=12) good BK (Abs.lK l hl) hon h
theorem fE:∀p∈([]:List (FuncId×Abs.Spec)),eP p.1 p.2:=fun _ h=>by cases h
theorem bL{f:FuncId}{sp:Abs.Spec}{l:List (FuncId×Abs.Spec)}(h:eP f sp)(t:∀p∈l,eP p.1 p.2):∀p∈(f,sp)::l,eP p.1 p.2:=List.forall_mem_cons.2 ⟨h,t⟩
def i9:Abs.Sg:=⟨[0],(.dat rIz .nil),.nil⟩
def m9(v:(Cg×Unit)):Option iB:=
some ((decide ((v.1.1.length:Int)≤500),()),())
def sp9:Abs.Spec:=⟨0,i9,⟨[2],jo,.nil⟩,m9⟩
theorem ok9:eP 9 sp9:=okW Aq fE
def vQ(v:ZC):Option (ZC⊕(iB⊕Ai)):=
bif decide (v.1.1<v.1.2.2.1)then bif decide (0≤v.1.1∧v.1.1<v.1.2.1.size)then
((let b:=(decide (((((v.1.2.1[v.1.1.toNat]?.getD 0).toNat:Nat):Int):Int)<97))
bif b then let c:=(decide (((((v.1.2.1[v.1.1.toNat]?.getD 0).toNat:Nat):Int):Int)<48))
bif c then let d:=(((((v.1.2.1[v.1.1.toNat]?.getD 0).toNat:Nat):Int):Int) !=95)
some ((d,v.1.2.1,v.1.2.2.1,v.1.1,()),())
else let e:=(decide (((((v.1.2.1[v.1.1.toNat]?.getD 0).toNat:Nat):Int):Int)>57))
bif e then let f:=(((((v.1.2.1[v.1.1.toNat]?.getD 0).toNat:Nat):Int):Int) !=95)
some ((f,v.1.2.1,v.1.2.2.1,v.1.1,()),())
else some ((false,v.1.2.1,v.1.2.2.1,v.1.1,()),())
else let g:=(decide (((((v.1.2.1[v.1.1.toNat]?.getD 0).toNat:Nat):Int):Int)>122))
bif g then let h:=(decide (((((v.1.2.1[v.1.1.toNat]?.getD 0).toNat:Nat):Int):Int)<48))
bif h then let j:=(((((v.1.2.1[v.1.1.toNat]?.getD 0).toNat:Nat):Int):Int) !=95)
some ((j,v.1.2.1,v.1.2.2.1,v.1.1,()),())
else let k:=(decide (((((v.1.2.1[v.1.1.toNat]?.getD 0).toNat:Nat):Int):Int)>57))
bif k then let l:=(((((v.1.2.1[v.1.1.toNat]?.getD 0).toNat:Nat):Int):Int) !=95)
some ((l,v.1.2.1,v.1.2.2.1,v.1.1,()),())
else some ((false,v.1.2.1,v.1.2.2.1,v.1.1,()),())
else some ((false,v.1.2.1,v.1.2.2.1,v.1.1,()),())):Option acz).bind fun a=>
bif a.1.1 then some (.inr (.inl ((false,()),())))
else some (.inl ((aS (a.1.2.2.2.1+1),a.1.2.1,a.1.2.2.1,()),()))
else none
else(some (.inr (.inr ((),()))))
def Sw(v:BM):Option iB:=
((bif v.1.1.toList==ByteArray.empty.toList then some ((true,v.1),())
else bif decide ((v.1.1.size:Int)>24)then some ((true,v.1),())
else bif decide ((0:Int)≤0∧(0:Int)<v.1.1.size)then
let b:=(decide (((((v.1.1[0]?.getD 0).toNat:Nat):Int):Int)<97))
bif b then some ((true,v.1),())
else bif decide ((0:Int)≤0∧(0:Int)<v.1.1.size)then
let c:=(decide (((((v.1.1[0]?.getD 0).toNat:Nat):Int):Int)>122))
some ((c,v.1),())
else none
else none):Option (YB×Unit)).bind fun a=>
bif a.1.1 then some ((false,()),())
else((aA vQ ((0,a.1.2.1,(a.1.2.1.size:Int),()),())).bind fun d=>
au d (fun e=>(some e)) (fun f=>(some ((true,()),()))))
def afA:Abs.Spec:=⟨0,⟨[0],iZ,.nil⟩,⟨[2],jo,.nil⟩,Sw⟩
def afb:Nat→Abs.ig
 |0=>.mk (bQ [(7,⟨[47,0,23,24],(.dat .bool (.dat .str qd)),.nil⟩),(1,⟨[21,0],(.dat .bool iZ),.nil⟩)]) bM (bQ [(4,⟨⟨[24,0,23],(.dat aU Va),.nil⟩,Ro4⟩)]) jb
 |_=>{}
theorem WG:eP 115 afA:=okW afb fE
def uj(v:ZC):Option (ZC⊕(iB⊕BM)):=
bif decide (v.1.1<v.1.2.2.1)then((bif decide (0≤v.1.1∧v.1.1<v.1.2.1.size)then
let b:=(decide (((((v.1.2.1[v.1.1.toNat]?.getD 0).toNat:Nat):Int):Int)<32))
bif b then some ((true,v.1.2.1,v.1.2.2.1,v.1.1,()),())
else bif decide (0≤v.1.1∧v.1.1<v.1.2.1.size)then
let c:=(decide (((((v.1.2.1[v.1.1.toNat]?.getD 0).toNat:Nat):Int):Int)>126))
some ((c,v.1.2.1,v.1.2.2.1,v.1.1,()),())
else none
else none):Option acz).bind fun a=>
bif a.1.1 then some (.inr (.inl ((false,()),())))
else some (.inl ((aS (a.1.2.2.2.1+1),a.1.2.1,a.1.2.2.1,()),()))
else(some (.inr (.inr ((v.1.2.1,()),()))))
def Xh(v:BM):Option iB:=
(aA uj ((0,v.1.1,(v.1.1.size:Int),()),())).bind fun a=>
au a (fun b=>(some b)) (fun c=>(some ((decide ((c.1.1.size:Int)≤64),()),())))
def agP:Abs.Spec:=⟨0,⟨[0],iZ,.nil⟩,⟨[2],jo,.nil⟩,Xh⟩
def ahD:Nat→Abs.ig
 |0=>.mk (bQ [(4,⟨[18,0,5,6],(.dat .bool (.dat .str qd)),.nil⟩)]) bM (bQ [(2,⟨⟨[6,0,5],(.dat aU Va),.nil⟩,(.more .ret ⟨[2],jo,.nil⟩ adn)⟩)]) jb
 |_=>{}
theorem abx:eP 116 agP:=okW ahD fE
def Xg(v:QG):Option iB:=
(((Sw ((v.1.1.1,()),())).bind fun a=>
bif a.1.1 then bif decide (v.1.1.2.1≥0)then bif decide (v.1.1.2.1≤3)then(Xh (v.1.1.2.2,())).bind fun b=>
some b
else some ((false,()),())
else some ((false,()),())
else some ((false,()),())):Option iB).bind fun c=>
some c
def ag3:Abs.Spec:=⟨0,⟨[0],U8,.nil⟩,⟨[2],jo,.nil⟩,Xg⟩
def ah5:Nat→Abs.ig
 |0=>.mk (bQ [(1,⟨[2],jo,.nil⟩)]) bM bM jb
 |_=>{}
theorem acf:eP 217 ag3:=okW ah5 (bL WG (bL abx fE))
def YA(v:QG):Option iB:=
(Xg v).bind fun a=>
some ((!a.1.1,()),())
def aij:Abs.Spec:=⟨0,⟨[0],U8,.nil⟩,⟨[2],jo,.nil⟩,YA⟩
theorem afy:eP 187 aij:=okW Aq (bL acf fE)
def YO(v:BM):Option iB:=
(Sw v).bind fun a=>
some a
def ahu:Abs.Spec:=⟨0,⟨[0],iZ,.nil⟩,⟨[2],jo,.nil⟩,YO⟩
theorem aeZ:eP 218 ahu:=okW Aq (bL WG fE)
def vH(v:aeO):Option (aeO⊕(iB⊕Ai)):=
bif decide (v.1.1<v.1.2.2.2.1)then Abs.rowAt v.1.2.2.1 v.1.1 fun b _=>
(((YO ((b,()),())).bind fun d=>
bif !d.1.1 then some ((true,v.1.2.1,v.1.2.2.1,v.1.2.2.2.1,v.1.1,()),())
else bif decide (v.1.1>0)then Abs.rowAt v.1.2.1 (aS (v.1.1-1)) fun c _=>
some ((Op.bytesLess b.toList c.toList||b.toList==c.toList,v.1.2.1,v.1.2.2.1,v.1.2.2.2.1,v.1.1,()),())
else some ((false,v.1.2.1,v.1.2.2.1,v.1.2.2.2.1,v.1.1,()),())):Option ((Bool×List ByteArray×List ByteArray×Int×Int×Unit)×Unit)).bind fun a=>
bif a.1.1 then some (.inr (.inl ((false,()),())))
else some (.inl ((aS (a.1.2.2.2.2.1+1),a.1.2.1,a.1.2.2.1,a.1.2.2.2.1,()),()))
else(some (.inr (.inr ((),()))))
def UU(v:(XH×Unit)):Option iB:=
(aA vH ((0,v.1.1,v.1.1,(v.1.1.length:Int),()),())).bind fun a=>
au a (fun b=>(some b)) (fun c=>(some ((true,()),())))
def af3:Abs.Spec:=⟨0,⟨[0],KV,.nil⟩,⟨[2],jo,.nil⟩,UU⟩
def aha:Nat→Abs.ig
 |0=>.mk (bQ [(4,⟨[27,0,5,6,7],(.dat .bool (.dat Oq (.dat Oq qd))),.nil⟩)]) bM (bQ [(2,⟨⟨[7,0,5,6],(.dat aU (.dat Oq (.dat Oq dK))),.nil⟩,Ro4⟩)]) jb
 |_=>{}
theorem acj:eP 188 af3:=okW aha (bL aeZ fE)
def uw(v:Me):Option (Me⊕(kH⊕Ai)):=
bif decide (v.1.1<v.1.2.2.1)then Abs.rowAt v.1.2.1 v.1.1 fun a _=>
(YA ((a,()),())).bind fun b=>
bif b.1.1 then some (.inr (.inl ((v.1.1,()),())))
else some (.inl ((aS (v.1.1+1),v.1.2),()))
else(some (.inr (.inr ((),()))))
def Ze(v:((Y9×Int×Unit)×Unit)):Option kH:=
((bif v.1.2.1==0 then bif v.1.1.1 !=(-1)then some ((true,()),(v.1.1,()),())
else bif decide (v.1.2.1>0)then bif decide (v.1.1.1<0)then some ((true,()),(v.1.1,()),())
else some ((decide (v.1.1.1≥v.1.2.1),()),(v.1.1,()),())
else some ((false,()),(v.1.1,()),())
else bif decide (v.1.2.1>0)then bif decide (v.1.1.1<0)then some ((true,()),(v.1.1,()),())
else some ((decide (v.1.1.1≥v.1.2.1),()),(v.1.1,()),())
else some ((false,()),(v.1.1,()),())):Option (rJ×Qi)).bind fun c=>
bif c.1.1 then some ((3,()),())
else(((let d:=(decide ((c.2.1.1.2.1.length:Int)>8))
bif d then some ((true,()),c.2)
else let e:=(decide ((c.2.1.1.2.2.2.1.length:Int)>12))
some ((e,()),c.2)):Option (rJ×Qi)).bind fun b=>
bif b.1.1 then some ((5,()),())
else(((((aA uw ((0,b.2.1.1.2.1,(b.2.1.1.2.1.length:Int),()),())).bind fun f=>
au f (fun g=>(some ((decide (g.1.1≥0),()),()))) (fun o=>(some ((false,()),())))):Option iB).bind fun h=>
bif h.1.1 then some ((true,()),b.2)
else(UU ((b.2.1.1.2.2.2.1,()),())).bind fun j=>
some ((!j.1.1,()),b.2)):Option (rJ×Qi)).bind fun a=>
bif a.1.1 then some ((8,()),())
else((bif decide (a.2.1.1.2.2.1<0)then some ((true,()),())
else bif decide (a.2.1.1.2.2.2.2.1<0)then some ((true,()),())
else let k:=(decide (a.2.1.1.2.2.2.2.1>a.2.1.1.2.2.2.2.2.1))
bif k then some ((true,()),())
else let l:=(decide (a.2.1.1.2.2.2.2.2.1>a.2.1.1.2.2.2.2.2.2.1))
bif l then some ((true,()),())
else let m:=(decide (a.2.1.1.2.2.2.2.2.2.1>604800))
bif m then some ((true,()),())
else some ((a.2.1.1.2.2.2.2.2.2.1==0,()),())):Option iB).bind fun n=>
bif n.1.1 then some ((1,()),())
else some ((0,()),()))
def ahm:Abs.Spec:=⟨0,⟨[0,1],(.dat Z2 dK),.nil⟩,⟨[4],dK,.nil⟩,Ze⟩
def ahp:Nat→Abs.ig
 |0=>.mk (bQ [(7,⟨[49],jo,.nil⟩),(5,⟨[39,2],(.dat .bool SF),Nh⟩),(3,⟨[28,2],(.dat .bool SF),Nh⟩),(1,⟨[5,2],(.dat .bool SF),Nh⟩)]) bM bM (fun
  |5,2=>1
  |_,_=>0)
 |1=>.mk (bQ [(1,⟨[4],jo,.nil⟩)]) bM bM (fun
  |1,2=>2
  |_,_=>0)
 |2=>.mk bM bM (bQ [(2,⟨⟨[8,0,1,7],(.dat aU (.dat (.row Lb) (.st (.clo 187 []) dK))),.nil⟩,Ro5⟩)]) jb
 |_=>{}
theorem ahG:eP 139 ahm:=okW ahp (bL afy (bL acj fE))
def DL(v:abr):Option (abr⊕(kH⊕aay)):=
bif decide (v.1.1<v.1.2.2.2.1)then Abs.rowAt v.1.2.1 v.1.1 fun b _=>
(Ze ((b,v.1.1,()),())).bind fun a=>
bif a.1.1 !=0 then some (.inr (.inl a))
else some (.inl ((aS (v.1.1+1),v.1.2),()))
else(some (.inr (.inr ((v.1.2.2.1,()),()))))
def m78(v:aay):Option kH:=
bif (v.1.1.length:Int)==0 then some ((7,()),())
else(bif decide ((v.1.1.length:Int)>24)then some ((5,()),())
else(aA DL ((0,v.1.1,v.1.1,(v.1.1.length:Int),()),())).bind fun a=>
au a (fun b=>(some b)) (fun c=>(Abs.rowAt c.1.1 0 fun d _=>
bif decide ((d.2.1.length:Int)>0)then some ((8,()),())
else some ((0,()),()))))
def ajL:Abs.Spec:=⟨0,⟨[0],Nz,.nil⟩,⟨[2],dK,.nil⟩,m78⟩
def aiS:Nat→Abs.ig
 |0=>.mk bM bM (bQ [(6,⟨⟨[16,14,0,15],(.dat aU (.dat AX TM)),.nil⟩,(.more .ret ⟨[2],dK,.nil⟩ (.one (.exit 1) ⟨[0],Nz,.nil⟩))⟩)]) jb
 |_=>{}
theorem adh:eP 78 ajL:=okW aiS (bL ahG fE)
def U0(v:QG):Option iB:=
(Xg v).bind fun a=>
some ((!a.1.1,()),())
def agd:Abs.Spec:=⟨0,⟨[0],U8,.nil⟩,⟨[2],jo,.nil⟩,U0⟩
theorem ab8:eP 189 agd:=okW Aq (bL acf fE)
def vC(v:Me):Option (Me⊕(kH⊕Ai)):=
bif decide (v.1.1<v.1.2.2.1)then Abs.rowAt v.1.2.1 v.1.1 fun a _=>
(U0 ((a,()),())).bind fun b=>
bif b.1.1 then some (.inr (.inl ((v.1.1,()),())))
else some (.inl ((aS (v.1.1+1),v.1.2),()))
else(some (.inr (.inr ((),()))))
def vX(v:Me):Option (Me⊕(kH⊕Ai)):=
bif decide (v.1.1<v.1.2.2.1)then Abs.rowAt v.1.2.1 v.1.1 fun a _=>
(U0 ((a,()),())).bind fun b=>
bif b.1.1 then some (.inr (.inl ((v.1.1,()),())))
else some (.inl ((aS (v.1.1+1),v.1.2),()))
else(some (.inr (.inr ((),()))))
def Yp(v:((aaJ×Unit)×Unit)):Option kH:=
((bif (v.1.1.1.length:Int)==0 then some ((true,()),v)
else some (((v.1.1.2.1.length:Int)==0,()),v)):Option (rJ×QW)).bind fun a=>
bif a.1.1 then some ((7,()),())
else(((let c:=(decide ((a.2.1.1.1.length:Int)>8))
bif c then some ((true,()),a.2)
else let d:=(decide ((a.2.1.1.2.1.length:Int)>8))
bif d then some ((true,()),a.2)
else let e:=(decide ((a.2.1.1.2.2.1.length:Int)>12))
some ((e,()),a.2)):Option (rJ×QW)).bind fun b=>
bif b.1.1 then some ((5,()),())
else(((((aA vC ((0,b.2.1.1.1,(b.2.1.1.1.length:Int),()),())).bind fun f=>
au f (fun g=>(some ((decide (g.1.1≥0),()),()))) (fun o=>(some ((false,()),())))):Option iB).bind fun h=>
bif h.1.1 then some ((true,()),())
else(((aA vX ((0,b.2.1.1.2.1,(b.2.1.1.2.1.length:Int),()),())).bind fun j=>
au j (fun k=>(some ((decide (k.1.1≥0),()),()))) (fun p=>(some ((false,()),())))):Option iB).bind fun l=>
bif l.1.1 then some ((true,()),())
else(UU (b.2.1.1.2.2,())).bind fun m=>
some ((!m.1.1,()),())):Option iB).bind fun n=>
bif n.1.1 then some ((8,()),())
else some ((0,()),()))
def afi:Abs.Spec:=⟨0,⟨[0],(.dat Z6 .nil),.nil⟩,⟨[2],dK,.nil⟩,Yp⟩
def aeY:Nat→Abs.ig
 |0=>.mk (bQ [(5,⟨[31],jo,.nil⟩),(3,⟨[14,1],(.dat .bool (.st Js .nil)),aaW⟩),(1,⟨[3,1],(.dat .bool (.st Js .nil)),aaW⟩)]) bM bM (fun
  |5,6=>3
  |5,2=>1
  |_,_=>0)
 |1=>.mk (bQ [(1,⟨[4],jo,.nil⟩)]) bM bM (fun
  |1,2=>2
  |_,_=>0)
 |2=>.mk bM bM (bQ [(2,⟨⟨[8,0,1,7],aej,.nil⟩,Ro5⟩)]) jb
 |3=>.mk (bQ [(1,⟨[4],jo,.nil⟩)]) bM bM (fun
  |1,2=>4
  |_,_=>0)
 |4=>.mk bM bM (bQ [(2,⟨⟨[8,0,1,7],aej,.nil⟩,Ro5⟩)]) jb
 |_=>{}
theorem agG:eP 140 afi:=okW aeY (bL ab8 (bL acj fE))
def Ec(v:((Int×G9×Int×Unit)×Unit)):Option (((Int×G9×Int×Unit)×Unit)⊕(kH⊕Ai)):=
bif decide (v.1.1<v.1.2.2.1)then Abs.rowAt v.1.2.1 v.1.1 fun b _=>
(Yp ((b,()),())).bind fun a=>
bif a.1.1 !=0 then some (.inr (.inl a))
else some (.inl ((aS (v.1.1+1),v.1.2),()))
else(some (.inr (.inr ((),()))))
def m79(v:((G9×Unit)×Unit)):Option kH:=
bif decide ((v.1.1.length:Int)>12)then some ((5,()),())
else((aA Ec ((0,v.1.1,(v.1.1.length:Int),()),())).bind fun a=>
au a (fun b=>(some b)) (fun c=>(some ((0,()),()))))
def aiK:Abs.Spec:=⟨0,⟨[0],(.dat Fu .nil),.nil⟩,⟨[2],dK,.nil⟩,m79⟩
def aku:Nat→Abs.ig
 |0=>.mk bM bM (bQ [(4,⟨⟨[11,9,10],(.dat aU (.dat Fu dK)),.nil⟩,(.more .ret ⟨[2],dK,.nil⟩ Ro1)⟩)]) jb
 |_=>{}
theorem ajj:eP 79 aiK:=okW aku (bL agG fE)
def m34(v:(PX×Unit)):Option kH:=
(m78 ((v.1.1.1,()),())).bind fun a=>
bif a.1.1 !=0 then some a
else((m79 ((v.1.1.2.1,()),())).bind fun b=>
bif b.1.1 !=0 then some b
else((bif decide (v.1.1.2.2.1<0)then some ((true,()),())
else some ((decide (v.1.1.2.2.1>604800),()),())):Option iB).bind fun c=>
bif c.1.1 then some ((1,()),())
else some ((0,()),()))
def ajc:Abs.Spec:=⟨0,⟨[0],sV,.nil⟩,⟨[2],dK,.nil⟩,m34⟩
def akt:Nat→Abs.ig
 |0=>.mk (bQ [(7,⟨[24],jo,.nil⟩)]) bM bM jb
 |_=>{}
theorem adN:eP 34 ajc:=okW akt (bL adh (bL ajj fE))
def m26(v:Ai):Option (Unit×(Bl×Unit)):=
some ((),((0,1,()),()),())
def ak2:Abs.Spec:=⟨0,⟨[],.nil,.nil⟩,⟨[0],(.st lU .nil),(.box 4 Nj .nil)⟩,m26⟩
theorem ahx:eP 26 ak2:=okW Aq fE
def En(v:ab2):Option (ab2⊕(NP×Unit)):=
bif decide (v.1.1<v.1.2.2.2.2.1)then((Abs.rowAt v.1.2.2.2.1 v.1.1 fun b _=>
((bif b.2.2.2.1 !=(-1)then bif !v.1.2.2.1 then some ((true,v.1.2.2.2.1,v.1.2.2.2.2.1,v.1.1,v.1.2.1,v.1.2.2.1,()),(b,()),())
else some ((decide (b.2.2.2.1<v.1.2.1),v.1.2.2.2.1,v.1.2.2.2.2.1,v.1.1,v.1.2.1,v.1.2.2.1,()),(b,()),())
else some ((false,v.1.2.2.2.1,v.1.2.2.2.2.1,v.1.1,v.1.2.1,v.1.2.2.1,()),(b,()),())):Option ((Bool×List qX×Int×Int×Int×Bool×Unit)×UY)).bind fun a=>
bif a.1.1 then some ((a.2.1.1.2.2.2.1,true,a.1.2.1,a.1.2.2.1,a.1.2.2.2.1,()),())
else some ((a.1.2.2.2.2.1,a.1.2.2.2.2.2.1,a.1.2.1,a.1.2.2.1,a.1.2.2.2.1,()),())):Option ((Int×Bool×List qX×Int×Int×Unit)×Unit)).bind fun c=>
some (.inl ((aS (c.1.2.2.2.2.1+1),c.1.1,c.1.2.1,c.1.2.2.1,c.1.2.2.2.1,()),()))
else(some (.inr ((v.1.2.2.1,v.1.2.1,()),())))
def m30(v:(WB×Unit)):Option aaF:=
(aA En ((0,0,false,v.1.1.2.1,(v.1.1.2.1.length:Int),()),())).bind fun a=>
some ((a.1.2.1,a.1.1,()),())
def aj7:Abs.Spec:=⟨0,⟨[0],Rs8,.nil⟩,⟨[2,3],NW,.nil⟩,m30⟩
def ajH:Nat→Abs.ig
 |0=>.mk (bQ [(5,⟨[27,9,10,11,7,4,5],(.dat .bool (.dat XF (.dat aU (.dat aU (.st rP NW))))),F3⟩)]) (bQ [(7,(⟨[4,5,9,10,11],(.dat aU (.dat .bool (.dat XF qd))),.nil⟩,none))]) (bQ [(3,⟨⟨[11,4,5,9,10],(.dat aU (.dat aU (.dat .bool afW))),.nil⟩,(.one (.exit 0) ⟨[5,4],Zm,.nil⟩)⟩)]) jb
 |_=>{}
theorem agJ:eP 30 aj7:=okW ajH fE
def aag(v:((List qX×Unit)×Unit)):Option (Unit×(List qX×Unit)):=
bif decide (v.1.1.length≤4294967296)then some ((),v.1)else none
def aho:Abs.Spec:=⟨0,⟨[0],(.dat XF .nil),.nil⟩,⟨[2],(.st JD .nil),(.arr Z1 false .nil)⟩,aag⟩
theorem agW:Abs.gI Tryz.prog 112 aho:=
 Abs.vL (N:=note) (t:=Z1) BK (Abs.qH (n:=12) (an:=fun _=>{}) (T:=Abs.vg []) good BK (Abs.lK _ (fun _ h=>by cases h)) rfl (by intro v;kernel_rfl)) (by kernel_rfl) (by kernel_rfl)
def ac7(v:(Jb×Unit)):Option (Unit×Jb):=
bif decide (v.1.1.length≤4294967296)then some ((),v.1)else none
def aid:Abs.Spec:=⟨0,⟨[0],(.dat GV .nil),.nil⟩,⟨[2],(.st Xk .nil),BA⟩,ac7⟩
theorem ahT:Abs.gI Tryz.prog 165 aid:=
 Abs.vL (N:=note) (t:=Z4) BK (Abs.qH (n:=12) (an:=fun _=>{}) (T:=Abs.vg []) good BK (Abs.lK _ (fun _ h=>by cases h)) rfl (by intro v;kernel_rfl)) (by kernel_rfl) (by kernel_rfl)
def adO(v:((Y3×Unit)×Unit)):Option (Unit×(Y3×Unit)):=
bif decide (v.1.1.length≤4294967296)then some ((),v.1)else none
def agb:Abs.Spec:=⟨0,⟨[0],(.dat (.row Lb) .nil),.nil⟩,⟨[2],(.st aiU .nil),aaM⟩,adO⟩
theorem afM:Abs.gI Tryz.prog 166 agb:=
 Abs.vL (N:=note) (t:=Lb) BK (Abs.qH (n:=12) (an:=fun _=>{}) (T:=Abs.vg []) good BK (Abs.lK _ (fun _ h=>by cases h)) rfl (by intro v;kernel_rfl)) (by kernel_rfl) (by kernel_rfl)
def AO(v:(Dr×Jb)):Option ((Dr×Jb)⊕(Unit×Jb)):=
bif decide (v.1.1<v.1.2.1)then bif decide (0≤v.1.1∧v.1.1<v.2.1.length)then
(v.2.1[v.1.1.toNat]?).bind fun b=>
(adO (b.2.2.2.2,())).bind fun c=>
bif decide (0≤v.1.1∧v.1.1<v.2.1.length)then
(v.2.1[v.1.1.toNat]?).bind fun a=>
some (.inl ((aS (v.1.1+1),v.1.2),v.2.1.set v.1.1.toNat (a.1,a.2.1,a.2.2.1,a.2.2.2.1,c.2),()))
else none
else none
else(some (.inr ((),v.2)))
def TU(v:(Jb×Unit)):Option (Unit×Jb):=
(ac7 v).bind fun a=>
(aA AO ((0,((a.2.1.length:Nat):Int),()),a.2)).bind fun b=>
some ((),b.2)
def ag0:Abs.Spec:=⟨0,⟨[0],(.dat GV .nil),.nil⟩,⟨[2],(.st Xk .nil),BA⟩,TU⟩
def agz:Nat→Abs.ig
 |0=>.mk bM bM (bQ [(3,⟨⟨[9,3,8],(.dat aU (.st Xk dK)),BA⟩,(.one (.exit 0) ⟨[3],(.st Xk .nil),BA⟩)⟩)]) jb
 |_=>{}
theorem abA:eP 111 ag0:=okW agz (bL ahT (bL afM fE))
def ac3(v:((Y5×Unit)×Unit)):Option (Unit×(Y5×Unit)):=
bif decide (v.1.1.length≤4294967296)then some ((),v.1)else none
def ag1:Abs.Spec:=⟨0,⟨[0],(.dat DJ .nil),.nil⟩,⟨[2],(.st MS .nil),U1⟩,ac3⟩
theorem ahO:Abs.gI Tryz.prog 167 ag1:=
 Abs.vL (N:=note) (t:=Z7) BK (Abs.qH (n:=12) (an:=fun _=>{}) (T:=Abs.vg []) good BK (Abs.lK _ (fun _ h=>by cases h)) rfl (by intro v;kernel_rfl)) (by kernel_rfl) (by kernel_rfl)
def Ve(v:Li):Option Ls:=
bif decide (v.1.1.length≤4294967296)then some ((),v.1)else none
def ahH:Abs.Spec:=⟨0,⟨[0],oL,.nil⟩,⟨[2],UM,zy⟩,Ve⟩
theorem ace:Abs.gI Tryz.prog 103 ahH:=
 Abs.vL (N:=note) (t:=SQ) BK (Abs.qH (n:=12) (an:=fun _=>{}) (T:=Abs.vg []) good BK (Abs.lK _ (fun _ h=>by cases h)) rfl (by intro v;kernel_rfl)) (by kernel_rfl) (by kernel_rfl)
def zb(v:(Dr×adf)):Option ((Dr×adf)⊕R4):=
bif decide (v.1.1<v.1.2.1)then bif decide (0≤v.1.1∧v.1.1<v.2.2.2.1.length)then
(v.2.2.2.1[v.1.1.toNat]?).bind fun b=>
(Ve ((b.2.1,()),())).bind fun c=>
bif decide (0≤v.1.1∧v.1.1<v.2.2.2.1.length)then
(v.2.2.2.1[v.1.1.toNat]?).bind fun a=>
some (.inl ((aS (v.1.1+1),v.1.2),v.2.1,v.2.2.1,v.2.2.2.1.set v.1.1.toNat (a.1,c.2.1,a.2.2),()))
else none
else none
else(some (.inr ((),v.2.2.1,v.2.1,v.2.2.2)))
def OL(v:Vz):Option (Unit×(CX×Y5×Unit)):=
(ac3 ((v.1.1.2.2.1,()),())).bind fun a=>
(aA zb ((0,((a.2.1.length:Nat):Int),()),((v.1.1.1,v.1.1.2.1,v.1.1.2.2.2),()),((0,ByteArray.empty,0,0,()),()),a.2)).bind fun b=>
some ((),b.2.2)
def afP:Abs.Spec:=⟨0,⟨[0],UZ,.nil⟩,⟨[2],NZ,JZ⟩,OL⟩
def afC:Nat→Abs.ig
 |0=>.mk bM bM (bQ [(3,⟨⟨[11,1,2,10],(.dat aU (.st rP (.st LY dK))),(.box 5 (.agg (.dat aU (.dat .str (.st (.own Z7 (2,0)) qd))) .nil) (.box 5 Le U1))⟩,(.one (.exit 0) ⟨[2,1],YC,aa3⟩)⟩)]) jb
 |_=>{}
theorem Rz:eP 113 afP:=okW afC (bL ahO (bL ace fE))
def DT(v:abK):Option (abK⊕(Unit×(Bl×Bl×List qX×Bj×Unit))):=
bif decide (v.1.1<v.1.2.1)then bif decide (0≤v.1.1∧v.1.1<v.2.2.1.length)then
(v.2.2.1[v.1.1.toNat]?).bind fun b=>
(OL ((b,()),())).bind fun a=>
bif decide (0≤v.1.1∧v.1.1<v.2.2.1.length)then
bif decide (v.1.1.toNat<v.2.2.1.length)then
some (.inl ((aS (v.1.1+1),v.1.2),v.2.1,v.2.2.1.set v.1.1.toNat (a.2.1.1.1,a.2.1.1.2.1,a.2.2.1,a.2.1.1.2.2),v.2.2.2))
else none
else none
else none
else(some (.inr ((),v.2.2.2.1,v.2.1,v.2.2.1,v.2.2.2.2)))
def i64:Abs.Sg:=⟨[0],Rs8,.nil⟩
def m64(v:(WB×Unit)):Option (Unit×Qd):=
(aag ((v.1.1.2.1,()),())).bind fun a=>
(TU ((v.1.1.2.2.1,()),())).bind fun b=>
(aA DT ((0,((a.2.1.length:Nat):Int),()),((v.1.1.1,v.1.1.2.2.2),()),a.2.1,((0,0,()),()),b.2)).bind fun c=>
some ((),c.2.2)
def ajG:Abs.Spec:=⟨0,i64,⟨[2],(.st lU .nil),Tk⟩,m64⟩
def aji:Nat→Abs.ig
 |0=>.mk bM bM (bQ [(3,⟨⟨[16,1,14,2,15],(.dat aU (.st lU (.st Xz (.st V4 dK)))),(.box 4 (.agg (.dat aU (.st Xz (.st (.own Z4 (3,0)) dK))) .nil) (.arr Z1 false (.box 4 Nj BA)))⟩,(.one (.exit 0) ⟨[2,1],(.st lU (.st zV .nil)),(.box 4 Nj (.box 4 (.agg (.dat aU (.st (.own Z1 (2,0)) (.st (.own Z4 (3,0)) dK))) .nil) Wi))⟩)⟩)]) jb
 |_=>{}
theorem adQ:eP 64 ajG:=okW aji (bL agW (bL abA (bL Rz fE)))
def Ez(v:(Ku×Unit)):Option iB:=
((bif decide (v.1.1≥v.1.2.1)then some ((decide (v.1.1≤v.1.2.2.1),()),())
else some ((false,()),())):Option iB).bind fun a=>
some a
def agp:Abs.Spec:=⟨0,⟨[0,1,2],KM,.nil⟩,⟨[6],jo,.nil⟩,Ez⟩
def afB:Nat→Abs.ig
 |0=>.mk (bQ [(1,⟨[6],jo,.nil⟩)]) bM bM jb
 |_=>{}
theorem ME:eP 125 agp:=okW afB fE
def Ak(v:((Int×iU×iU×Int×Unit)×Unit)):Option (((Int×iU×iU×Int×Unit)×Unit)⊕(iB⊕Ai)):=
bif decide (v.1.1<v.1.2.2.2.1)then Abs.rowAt v.1.2.2.1 v.1.1 fun a _=>
(((Sw ((a.1,()),())).bind fun d=>
bif !d.1.1 then some ((true,v.1.2.1,v.1.2.2.1,v.1.2.2.2.1,v.1.1,()),())
else(Xh (a.2,())).bind fun e=>
bif !e.1.1 then some ((true,v.1.2.1,v.1.2.2.1,v.1.2.2.2.1,v.1.1,()),())
else bif a.2.1.toList==ByteArray.empty.toList then some ((true,v.1.2.1,v.1.2.2.1,v.1.2.2.2.1,v.1.1,()),())
else bif decide (v.1.1>0)then Abs.rowAt v.1.2.1 (aS (v.1.1-1)) fun c _=>
some ((Op.bytesLess a.1.toList c.1.toList||a.1.toList==c.1.toList,v.1.2.1,v.1.2.2.1,v.1.2.2.2.1,v.1.1,()),())
else some ((false,v.1.2.1,v.1.2.2.1,v.1.2.2.2.1,v.1.1,()),())):Option ((Bool×iU×iU×Int×Int×Unit)×Unit)).bind fun b=>
bif b.1.1 then some (.inr (.inl ((false,()),())))
else some (.inl ((aS (b.1.2.2.2.2.1+1),b.1.2.1,b.1.2.2.1,b.1.2.2.2.1,()),()))
else(some (.inr (.inr ((),()))))
def m66(v:Li):Option iB:=
bif decide ((v.1.1.length:Int)>12)then some ((false,()),())
else((aA Ak ((0,v.1.1,v.1.1,(v.1.1.length:Int),()),())).bind fun a=>
au a (fun b=>(some b)) (fun c=>(some ((true,()),()))))
def aja:Abs.Spec:=⟨0,⟨[0],oL,.nil⟩,⟨[2],jo,.nil⟩,m66⟩
def ajW:Nat→Abs.ig
 |0=>.mk (bQ [(6,⟨[44,0,8,9,10],(.dat .bool (.dat sU (.dat sU qd))),.nil⟩)]) bM (bQ [(4,⟨⟨[10,0,8,9],(.dat aU (.dat sU TB)),.nil⟩,Ro4⟩)]) jb
 |_=>{}
theorem Tv:eP 66 aja:=okW ajW (bL WG (bL abx fE))
def tL(v:((Int×iU×Int×Unit)×XH)):Option (((Int×iU×Int×Unit)×XH)⊕ab0):=
bif decide (v.1.1<v.1.2.2.1)then Abs.rowAt v.1.2.1 v.1.1 fun a _=>
bif decide (a.1.size+1≤4294967296)then
bif decide (a.2.1.size≤4294967296)then
bif decide ((a.1++(bs [61])).size+(lm a.2.1).size≤4294967296)then
bif decide (v.2.1.length+ [((a.1++(bs [61]))++(lm a.2.1))].length≤4294967296)then
let b:=(v.2.1++ [((a.1++(bs [61]))++(lm a.2.1))])
some (.inl ((aS (v.1.1+1),v.1.2),b,()))
else none
else none
else none
else none
else(some (.inr ((),v.2)))
def Uh(v:Li):Option BM:=
(m66 v).bind fun b=>
bif !b.1.1 then some ((ByteArray.empty,()),())
else((aA tL ((0,v.1.1,(v.1.1.length:Int),()),[],())).bind fun a=>
bif decide (List.length a.2.1≤4294967296∧(sM a.2.1 (bs [44])).size≤140737488355328)then
bif decide (1+(sM a.2.1 (bs [44])).size≤4294967296)then
bif decide (((bs [123])++(sM a.2.1 (bs [44]))).size+1≤4294967296)then
let c:=(((bs [123])++(sM a.2.1 (bs [44])))++(bs [125]))
some ((c,()),())
else none
else none
else none)
def aft:Abs.Spec:=⟨0,⟨[0],oL,.nil⟩,⟨[2],iZ,.nil⟩,Uh⟩
def aeW:Nat→Abs.ig
 |0=>.mk bM bM (bQ [(5,⟨⟨[11,3,9,10],(.dat aU (.st agk TB)),KF⟩,(.one (.exit 0) ⟨[3],(.st agk .nil),KF⟩)⟩)]) jb
 |_=>{}
theorem VB:eP 118 aft:=okW aeW (bL Tv fE)
def Zi(v:Wt):Option iB:=
(((m66 ((v.1.1.2.1,()),())).bind fun a=>
bif a.1.1 then(Uh ((v.1.1.2.1,()),())).bind fun b=>
bif b.1.1.toList==v.1.1.1.toList then(Ez ((v.1.1.2.2.1,0,8589934592,()),())).bind fun c=>
bif c.1.1 then(Ez ((v.1.1.2.2.2.1,0,8589934592,()),())).bind fun d=>
bif d.1.1 then bif v.1.1.2.2.2.2.1 then some ((true,()),())
else some ((!v.1.1.2.2.2.2.2.1,()),())
else some ((false,()),())
else some ((false,()),())
else some ((false,()),())
else some ((false,()),())):Option iB).bind fun e=>
some e
def af5:Abs.Spec:=⟨0,⟨[0],(.dat Z7 .nil),.nil⟩,⟨[2],jo,.nil⟩,Zi⟩
def agj:Nat→Abs.ig
 |0=>.mk (bQ [(1,⟨[2],jo,.nil⟩)]) bM bM jb
 |_=>{}
theorem ahf:eP 144 af5:=okW agj (bL Tv (bL VB (bL ME fE)))
def zw(v:(Wl×UY)):Option ((Wl×UY)⊕(iB⊕Ai)):=
bif decide (v.1.1<v.1.2.2.1)then Abs.rowAt v.1.2.1 v.1.1 fun b _=>
(((Zi ((b,()),())).bind fun d=>
bif !d.1.1 then some ((true,v.1.2.1,v.1.2.2.1,v.1.1,()),v.2)
else bif decide (v.1.1>0)then Abs.rowAt v.2.1.1.2.2.1 (aS (v.1.1-1)) fun c _=>
some ((Op.bytesLess b.1.toList c.1.toList||b.1.toList==c.1.toList,v.1.2.1,v.1.2.2.1,v.1.1,()),v.2)
else some ((false,v.1.2.1,v.1.2.2.1,v.1.1,()),v.2)):Option ((Bool×Y5×Int×Int×Unit)×UY)).bind fun a=>
bif a.1.1 then some (.inr (.inl ((false,()),())))
else some (.inl ((aS (a.1.2.2.2.1+1),a.1.2.1,a.1.2.2.1,()),a.2))
else(some (.inr (.inr ((),()))))
def m82(v:Vz):Option iB:=
((let b:=(decide ((v.1.1.2.2.1.length:Int)>256))
bif b then some ((true,()),v)
else bif decide (v.1.1.1<0)then some ((true,()),v)
else(Ez ((v.1.1.2.2.2.1,-1,8589934592,()),())).bind fun c=>
bif !c.1.1 then some ((true,()),v)
else(Ez ((v.1.1.2.2.2.2.1,-1,8589934592,()),())).bind fun d=>
some ((!d.1.1,()),v)):Option (rJ×UY)).bind fun a=>
bif a.1.1 then some ((false,()),())
else((aA zw ((0,a.2.1.1.2.2.1,(a.2.1.1.2.2.1.length:Int),()),a.2)).bind fun e=>
au e (fun f=>(some f)) (fun g=>(some ((true,()),()))))
def ajX:Abs.Spec:=⟨0,⟨[0],UZ,.nil⟩,⟨[2],jo,.nil⟩,m82⟩
def aki:Nat→Abs.ig
 |0=>.mk (bQ [(6,⟨[52,1,27,28,29],(.dat .bool (.st rP (.dat DJ qd))),F3⟩),(1,⟨[25,1],(.dat .bool NZ),F3⟩)]) bM (bQ [(4,⟨⟨[29,1,27,28],(.dat aU (.st rP ags)),F3⟩,Ro4⟩)]) jb
 |_=>{}
theorem ZR:eP 82 ajX:=okW aki (bL ME (bL ahf fE))
def Ul(v:((Y9×Unit)×Unit)):Option iB:=
(m78 ((([(-1,[],v.1.1.2.2)]:List Y9),()),())).bind fun a=>
some ((a.1.1==0,()),())
def ahJ:Abs.Spec:=⟨0,⟨[0],yI,.nil⟩,⟨[2],jo,.nil⟩,Ul⟩
theorem Xl:eP 124 ahJ:=okW Aq (bL adh fE)
def Vr(v:BM):Option iB:=
some ((!(v.1.1.toList==v.1.1.toList),()),())
def afE:Abs.Spec:=⟨0,⟨[0],iZ,.nil⟩,⟨[2],jo,.nil⟩,Vr⟩
theorem ahg:eP 190 afE:=okW Aq fE
def Xj(v:(Ov×Unit)):Option kH:=
(Vr ((v.1.1,()),())).bind fun b=>
(Vr (v.1.2,())).bind fun a=>
bif b.1.1 then bif a.1.1 then some ((0,()),())
else some ((-1,()),())
else(bif a.1.1 then some ((1,()),())
else bif Op.bytesLess v.1.1.toList v.1.2.1.toList then some ((-1,()),())
else bif !(Op.bytesLess v.1.1.toList v.1.2.1.toList||v.1.1.toList==v.1.2.1.toList)then some ((1,()),())
else some ((0,()),()))
def agC:Abs.Spec:=⟨0,⟨[0,1],MC,.nil⟩,⟨[4],dK,.nil⟩,Xj⟩
theorem acd:eP 146 agC:=okW Aq (bL ahg fE)
def XP(v:((XZ×ByteArray×Unit)×Unit)):Option kH:=
(Xj ((v.1.1.1,v.1.2),())).bind fun a=>
some a
def agw:Abs.Spec:=⟨0,⟨[0,1],(.dat Z7 iZ),.nil⟩,⟨[4],dK,.nil⟩,XP⟩
theorem aie:eP 175 agw:=okW Aq (bL acd fE)
def oK(v:abP):Option (abP⊕((ByteArray×Int×Y5×Int×Unit)×Unit)):=
bif decide (v.1.2.2.2.1<v.1.2.2.1)then let a:=(IntKind.wrap .u64 (aS (v.1.2.2.2.1+v.1.2.2.1)))
bif decide ((0:Int)≤1)then
Abs.rowAt v.1.2.1 (aS (AZ .u64 (a) (1))) fun b _=>
(XP ((b,v.1.1,()),())).bind fun c=>
bif decide (c.1.1<0)then some (.inl ((v.1.1,v.1.2.1,v.1.2.2.1,aS ((aS (AZ .u64 (a) (1)))+1),v.1.2.2.2.2),()))
else some (.inl ((v.1.1,v.1.2.1,aS (AZ .u64 (a) (1)),v.1.2.2.2),()))
else none
else(some (.inr ((v.1.1,v.1.2.2.2.1,v.1.2.1,v.1.2.2.2.2),())))
def Mf(v:((qX×ByteArray×Unit)×Unit)):Option aaF:=
(aA oK ((v.1.2.1,v.1.1.2.2.1,(v.1.1.2.2.1.length:Int),0,(v.1.1.2.2.1.length:Int),()),())).bind fun a=>
((bif decide (a.1.2.1<a.1.2.2.2.1)then Abs.rowAt a.1.2.2.1 a.1.2.1 fun b _=>
(XP ((b,a.1.1,()),())).bind fun c=>
some ((a.1.2.1,c.1.1==0,()),())
else some ((a.1.2.1,false,()),())):Option aaF).bind fun d=>
some d
def ag2:Abs.Spec:=⟨0,⟨[0,1],(.dat Z1 iZ),.nil⟩,⟨[4,5],NW,.nil⟩,Mf⟩
def agK:Nat→Abs.ig
 |0=>.mk bM bM bM (fun
  |1,3=>1
  |_,_=>0)
 |1=>.mk (bQ [(8,⟨[6,7],NW,.nil⟩)]) bM (bQ [(3,⟨⟨[1,0,2,10,9,8],(.dat .str (.dat DJ (.st (.clo 175 []) KM))),.nil⟩,(.one (.exit 0) ⟨[1,9,0,2,8],(.dat .str (.dat aU (.dat DJ (.st (.clo 175 []) dK)))),.nil⟩)⟩)]) jb
 |_=>{}
theorem abC:eP 126 ag2:=okW agK (bL aie fE)
def Mg(v:kH):Option kH:=
bif decide (v.1.1>8589934592)then some ((-1,()),())
else(some v)
def afv:Abs.Spec:=⟨0,⟨[0],dK,.nil⟩,⟨[2],dK,.nil⟩,Mg⟩
theorem VH:eP 179 afv:=okW Aq fE
def ads(v:Vz):Option iB:=
some (((v.1.1.2.2.1.length:Int)==0,()),())
def agt:Abs.Spec:=⟨0,⟨[0],UZ,.nil⟩,⟨[2],jo,.nil⟩,ads⟩
theorem ahW:eP 145 agt:=okW Aq fE
def qP(v:((Int×Int×Int×Y5×Int×Unit)×Wv)):Option (((Int×Int×Int×Y5×Int×Unit)×Wv)⊕R4):=
bif decide (v.1.1<v.1.2.2.2.2.1)then((Abs.rowAt v.1.2.2.2.1 v.1.1 fun k _=>
(Mf (((v.2.1.1.1,v.2.1.1.2.1,v.2.2.2.2.1,v.2.1.1.2.2),k.1,()),())).bind fun j=>
((bif j.1.2.1 then bif k.2.2.2.2.1 then let n:=(decide (k.2.2.2.1≤(aS (v.1.2.1-v.1.2.2.1))))
some ((n,v.1.2.1,v.1.2.2.1,v.1.2.2.2.1,v.1.2.2.2.2.1,v.1.1,j.1.1,()),v.2)
else some ((false,v.1.2.1,v.1.2.2.1,v.1.2.2.2.1,v.1.2.2.2.2.1,v.1.1,j.1.1,()),v.2)
else some ((false,v.1.2.1,v.1.2.2.1,v.1.2.2.2.1,v.1.2.2.2.2.1,v.1.1,j.1.1,()),v.2)):Option ((Bool×Int×Int×Y5×Int×Int×Int×Unit)×Wv)).bind fun a=>
bif a.1.1 then((bif decide (0≤a.1.2.2.2.2.2.2.1∧a.1.2.2.2.2.2.2.1<a.2.2.2.2.1.length)then
(a.2.2.2.2.1[a.1.2.2.2.2.2.2.1.toNat]?).bind fun o=>
bif o.2.2.2.2.1==false then bif decide (a.2.2.2.2.1.length=a.2.2.2.2.1.length)&&true then
some ((a.1.2.1,a.1.2.2.1,a.1.2.2.2.1,a.1.2.2.2.2.1,a.1.2.2.2.2.2.1,()),a.2)
else none
else(a.2.2.2.2.1[a.1.2.2.2.2.2.2.1.toNat]?).bind fun p=>
bif !p.2.2.2.2.2.1 then bif decide (0≤a.1.2.2.2.2.2.2.1∧a.1.2.2.2.2.2.2.1<(aS (a.1.2.2.2.2.2.2.1+1))∧((aS (a.1.2.2.2.2.2.2.1+1)):Int)≤a.2.2.2.2.1.length∧a.2.2.2.2.1.length≤4294967296)then
bif decide (a.2.2.2.2.1.length=a.2.2.2.2.1.length)&&true then
bif decide (a.2.2.2.2.1.length=a.2.2.2.2.1.length)&&true then
some ((a.1.2.1,a.1.2.2.1,a.1.2.2.2.1,a.1.2.2.2.2.1,a.1.2.2.2.2.2.1,()),a.2.1,a.2.2.1,a.2.2.2.1,a.2.2.2.2.1.take a.1.2.2.2.2.2.2.1.toNat++a.2.2.2.2.1.drop (aS (a.1.2.2.2.2.2.2.1+1)).toNat,())
else none
else none
else none
else(a.2.2.2.2.1[a.1.2.2.2.2.2.2.1.toNat]?).bind fun b=>
((a.2.2.2.2.1.set a.1.2.2.2.2.2.2.1.toNat (b.1,b.2.1,b.2.2.1,b.2.2.2.1,false,b.2.2.2.2.2))[a.1.2.2.2.2.2.2.1.toNat]?).bind fun c=>
(((a.2.2.2.2.1.set a.1.2.2.2.2.2.2.1.toNat (b.1,b.2.1,b.2.2.1,b.2.2.2.1,false,b.2.2.2.2.2)).set a.1.2.2.2.2.2.2.1.toNat (c.1,c.2.1,c.2.2.1,c.2.2.2.1,c.2.2.2.2.1,false,()))[a.1.2.2.2.2.2.2.1.toNat]?).bind fun e=>
((bif a.2.1.1.2.2.2.1 !=(-1)then let m:=(aS (a.2.1.1.2.2.2.1+a.2.2.1.1.2.2.2.2.2.1))
let q:=(if m>a.1.2.1 then m else a.1.2.1)
some ((q,()),a.2.1,((a.2.2.2.2.1.set a.1.2.2.2.2.2.2.1.toNat (b.1,b.2.1,b.2.2.1,b.2.2.2.1,false,b.2.2.2.2.2)).set a.1.2.2.2.2.2.2.1.toNat (c.1,c.2.1,c.2.2.1,c.2.2.2.1,c.2.2.2.2.1,false,())).set a.1.2.2.2.2.2.2.1.toNat (e.1,e.2.1,a.1.2.1,e.2.2.2),())
else some ((aS (a.1.2.1+a.2.2.1.1.2.2.2.2.1),()),a.2.1,((a.2.2.2.2.1.set a.1.2.2.2.2.2.2.1.toNat (b.1,b.2.1,b.2.2.1,b.2.2.2.1,false,b.2.2.2.2.2)).set a.1.2.2.2.2.2.2.1.toNat (c.1,c.2.1,c.2.2.1,c.2.2.2.1,c.2.2.2.2.1,false,())).set a.1.2.2.2.2.2.2.1.toNat (e.1,e.2.1,a.1.2.1,e.2.2.2),())):Option NH).bind fun f=>
((bif f.2.1.1.2.2.1 !=(-1)then let r:=(if f.2.1.1.2.2.1<f.1.1 then f.2.1.1.2.2.1 else f.1.1)
some ((r,()),f.2)
else some f):Option NH).bind fun g=>
(Mg (g.1,())).bind fun s=>
bif decide (g.2.2.1.length=(((a.2.2.2.2.1.set a.1.2.2.2.2.2.2.1.toNat (b.1,b.2.1,b.2.2.1,b.2.2.2.1,false,b.2.2.2.2.2)).set a.1.2.2.2.2.2.2.1.toNat (c.1,c.2.1,c.2.2.1,c.2.2.2.1,c.2.2.2.2.1,false,())).set a.1.2.2.2.2.2.2.1.toNat (e.1,e.2.1,a.1.2.1,e.2.2.2)).length)&&true then
bif decide (g.2.2.1.length=a.2.2.2.2.1.length)&&true then
some ((a.1.2.1,a.1.2.2.1,a.1.2.2.2.1,a.1.2.2.2.2.1,a.1.2.2.2.2.2.1,()),((g.2.1.1.1,g.2.1.1.2.1,s.1.1,g.2.1.1.2.2.2),()),a.2.2.1,a.2.2.2.1,g.2.2)
else none
else none
else none):Option ((Int×Int×Y5×Int×Int×Unit)×Wv)).bind fun d=>
((let t:=(((d.2.2.2.2.1.length:Nat):Int)==0)
bif decide (d.2.2.2.2.1.length=d.2.2.2.2.1.length)&&true then
bif t then some ((),d.2.2.2.2.1,((0,ByteArray.empty,0,0,()),()),((d.2.1.1.1,d.2.1.1.2.1,-1,d.2.1.1.2.2.2),()),())
else some ((),d.2.2.2.2.1,((0,ByteArray.empty,0,0,()),()),d.2.1,())
else none):Option (Unit×(Y5×CX×CX×Unit))).bind fun l=>
bif decide (l.2.1.length=d.2.2.2.2.1.length)&&true then
some (d.1,l.2.2.2.1,d.2.2.1,d.2.2.2.1,l.2.1,())
else none
else some ((a.1.2.1,a.1.2.2.1,a.1.2.2.2.1,a.1.2.2.2.2.1,a.1.2.2.2.2.2.1,()),a.2)):Option ((Int×Int×Y5×Int×Int×Unit)×Wv)).bind fun h=>
some (.inl ((aS (h.1.2.2.2.2.1+1),h.1.1,h.1.2.1,h.1.2.2.1,h.1.2.2.2.1,()),h.2))
else(some (.inr ((),v.2.2.2.1,v.2.1,v.2.2.2.2)))
def Y0(v:((qX×Y9×Int×Int×Unit)×Unit)):Option NH:=
(((m82 ((v.1.1,()),())).bind fun d=>
bif !d.1.1 then some ((true,v.1.2.2),((0,ByteArray.empty,0,0,()),()),(v.1.2.1,()),(v.1.1,()),())
else(Ul ((v.1.2.1,()),())).bind fun e=>
some ((!e.1.1,v.1.2.2),((0,ByteArray.empty,0,0,()),()),(v.1.2.1,()),(v.1.1,()),())):Option (UJ×(CX×(Y9×Unit)×MV×Unit))).bind fun b=>
bif b.1.1 then some ((8,()),((0,ByteArray.empty,0,0,()),()),[],())
else((((Ez ((b.1.2.1,0,8589934592,()),())).bind fun f=>
bif !f.1.1 then some ((true,b.1.2),b.2)
else(Ez ((b.1.2.2.1,0,604800,()),())).bind fun g=>
some ((!g.1.1,b.1.2),b.2)):Option (UJ×(CX×(Y9×Unit)×MV×Unit))).bind fun a=>
bif a.1.1 then some ((1,()),((0,ByteArray.empty,0,0,()),()),[],())
else(OL a.2.2.2).bind fun c=>
bif a.1.2.2.1==0 then some ((0,()),c.2)
else(aA qP ((0,a.1.2.1,a.1.2.2.1,a.2.2.2.1.1.2.2.1,(a.2.2.2.1.1.2.2.1.length:Int),()),c.2.1,a.2.2.1,a.2.1,c.2.2)).bind fun h=>
some ((0,()),h.2.2))
def ah4:Abs.Spec:=⟨0,⟨[0,1,2,3],(.dat Z1 (.dat Z2 qd)),.nil⟩,⟨[8,9],TL,JZ⟩,Y0⟩
def aeP:Nat→Abs.ig
 |0=>.mk (bQ [(13,⟨[10,2,5,3,41,8,42,43],ahU,YS⟩),(12,⟨[66,10,2,5,3,41,8,42,43,13],(.dat .bool (.st rP (.dat aU (.st WV (.dat aU (.dat DJ (.st Od KM))))))),YS⟩),(3,⟨[25,8,2,5,3,4],ait,(.box 5 Le (.box 8 yI F3))⟩),(1,⟨[15,8,2,5,3,4],ait,(.box 5 Le (.box 8 yI F3))⟩)]) (bQ [(15,(⟨[10,2,5,3,41,8,42,43],ahU,YS⟩,none))]) (bQ [(9,⟨⟨[43,10,2,5,3,41,8,42],(.dat aU (.st rP (.dat aU (.st WV (.dat aU (.dat DJ (.st Od dK))))))),YS⟩,(.one (.exit 1) ⟨[8,10],YC,aa3⟩)⟩)]) (fun
  |14,1=>3
  |13,3=>1
  |_,_=>0)
 |1=>.mk bM bM bM (fun
  |3,3=>2
  |_,_=>0)
 |2=>.mk bM (bQ [(6,(⟨[6,0],(.dat aU NZ),JZ⟩,none)),(4,(⟨[0,6],TL,JZ⟩,none))]) bM jb
 |3=>.mk bM (bQ [(3,(⟨[2,1],UD,(.arr Z7 false (.box 5 Le (.box 5 aam .nil)))⟩,none))]) bM (fun
  |1,1=>4
  |_,_=>0)
 |_=>{}
theorem afo:eP 133 ah4:=okW aeP (bL ZR (bL Xl (bL ME (bL Rz (bL abC (bL VH fE))))))
def uo(v:acv):Option (acv⊕(BM⊕Ai)):=
bif decide (v.1.1<v.1.2.2.2.1)then Abs.rowAt v.1.2.2.1 v.1.1 fun a _=>
bif a.1.toList==v.1.2.1.toList then some (.inr (.inl (a.2,())))
else some (.inl ((aS (v.1.1+1),v.1.2),()))
else(some (.inr (.inr ((),()))))
def Tx(v:((iU×ByteArray×Unit)×Unit)):Option BM:=
(aA uo ((0,v.1.2.1,v.1.1,(v.1.1.length:Int),()),())).bind fun a=>
au a (fun b=>(some b)) (fun c=>(some ((ByteArray.empty,()),())))
def ahR:Abs.Spec:=⟨0,⟨[0,1],(.dat sU iZ),.nil⟩,⟨[4],iZ,.nil⟩,Tx⟩
def afm:Nat→Abs.ig
 |0=>.mk bM bM (bQ [(2,⟨⟨[9,1,7,8],(.dat aU (.dat .str TB)),.nil⟩,(.more .ret ⟨[4],iZ,.nil⟩ Ro1)⟩)]) jb
 |_=>{}
theorem ach:eP 224 ahR:=okW afm fE
def u6(v:Uj):Option (Uj⊕BM):=
((bif decide ((v.1.1.size:Int)>0)then bif decide ((0:Int)≤(aS ((v.1.1.size:Int)-1))∧((aS ((v.1.1.size:Int)-1)):Int)<v.1.1.size)then
let b:=(((((v.1.1[(aS ((v.1.1.size:Int)-1)).toNat]?.getD 0).toNat:Nat):Int):Int)==v.1.2.1)
some ((b,v.1.2.1,v.1.1,()),())
else none
else some ((false,v.1.2.1,v.1.1,()),())):Option acy).bind fun a=>
bif a.1.1 then bif decide ((0:Int)≤(aS ((a.1.2.2.1.size:Int)-1)))then
bif decide (0≤(aS ((a.1.2.2.1.size:Int)-1)).toNat∧(aS ((a.1.2.2.1.size:Int)-1)).toNat≤a.1.2.2.1.size)then
let c:=(a.1.2.2.1.extract 0 (aS ((a.1.2.2.1.size:Int)-1)).toNat)
some (.inl ((c,a.1.2.1,()),()))
else none
else none
else(some (.inr (a.1.2.2,())))
def ZO(v:Uj):Option BM:=
(aA u6 v).bind fun a=>
some a
def afw:Abs.Spec:=⟨0,⟨[0,1],aa6,.nil⟩,⟨[4],iZ,.nil⟩,ZO⟩
def ahM:Nat→Abs.ig
 |0=>.mk (bQ [(1,⟨[16,1,0],(.dat .bool (.dat (.int .u8) iZ)),.nil⟩)]) bM (bQ [(1,⟨⟨[0,1],aa6,.nil⟩,adn⟩)]) jb
 |_=>{}
theorem agO:eP 237 afw:=okW ahM fE
def wh(v:Uj):Option (Uj⊕BM):=
((bif decide ((v.1.1.size:Int)>0)then bif decide ((0:Int)≤0∧(0:Int)<v.1.1.size)then
let b:=(((((v.1.1[0]?.getD 0).toNat:Nat):Int):Int)==v.1.2.1)
some ((b,v.1.2.1,v.1.1,()),())
else none
else some ((false,v.1.2.1,v.1.1,()),())):Option acy).bind fun a=>
bif a.1.1 then bif decide (1≤a.1.2.2.1.size∧a.1.2.2.1.size≤a.1.2.2.1.size)then
some (.inl ((a.1.2.2.1.extract 1 a.1.2.2.1.size,a.1.2.1,()),()))
else none
else(some (.inr (a.1.2.2,())))
def YR(v:Uj):Option BM:=
(aA wh v).bind fun a=>
some a
def af4:Abs.Spec:=⟨0,⟨[0,1],aa6,.nil⟩,⟨[4],iZ,.nil⟩,YR⟩
def aim:Nat→Abs.ig
 |0=>.mk (bQ [(1,⟨[13,1,0],(.dat .bool (.dat (.int .u8) iZ)),.nil⟩)]) bM (bQ [(1,⟨⟨[0,1],aa6,.nil⟩,adn⟩)]) jb
 |_=>{}
theorem afZ:eP 236 af4:=okW aim fE
def WO(v:(Ov×Unit)):Option BM:=
((bif v.1.1.toList==ByteArray.empty.toList then some ((true,v.1),())
else some ((v.1.2.1.toList==ByteArray.empty.toList,v.1),())):Option abU).bind fun a=>
bif a.1.1 then some ((a.1.2.1,()),())
else(((bif (a.1.2.2.1.size:Int)==1 then bif decide ((0:Int)≤0∧(0:Int)<a.1.2.2.1.size)then
let c:=(decide (((((a.1.2.2.1[0]?.getD 0).toNat:Nat):Int):Int)<128))
some ((c,a.1.2.2.1,a.1.2.1,()),())
else none
else some ((false,a.1.2.2.1,a.1.2.1,()),())):Option abU).bind fun b=>
bif b.1.1 then bif decide ((0:Int)≤0∧(0:Int)<b.1.2.1.size)then
(ZO ((b.1.2.2.1,(((b.1.2.1[0]?.getD 0).toNat:Nat):Int),()),())).bind fun d=>
bif decide ((0:Int)≤0∧(0:Int)<b.1.2.1.size)then
(YR ((d.1.1,(((b.1.2.1[0]?.getD 0).toNat:Nat):Int),()),())).bind fun e=>
some e
else none
else none
else none)
def agv:Abs.Spec:=⟨0,⟨[0,1],MC,.nil⟩,⟨[4],iZ,.nil⟩,WO⟩
def ah2:Nat→Abs.ig
 |0=>.mk (bQ [(3,⟨[21,1,0],(.dat .bool MC),.nil⟩),(1,⟨[12,0,1],(.dat .bool MC),.nil⟩)]) bM bM jb
 |_=>{}
theorem agD:eP 231 agv:=okW ah2 (bL agO (bL afZ fE))
def gX(v:ahj):Option (ahj⊕(iB⊕SN)):=
let c:=(decide (v.1.2.1<(v.1.2.2.2.2.1.size:Int)))
bif c then((let d:=(decide (v.1.1<(v.1.2.2.2.2.2.1.size:Int)))
bif d then bif decide (0≤v.1.1∧v.1.1<v.1.2.2.2.2.2.1.size)then
let e:=(((((v.1.2.2.2.2.2.1[v.1.1.toNat]?.getD 0).toNat:Nat):Int):Int)==42)
some ((e,v.1.2.1,v.1.2.2.2.2.1,v.1.2.2.2.2.2.1,v.1.1,v.1.2.2.1,v.1.2.2.2.1,()),())
else none
else some ((false,v.1.2.1,v.1.2.2.2.2.1,v.1.2.2.2.2.2.1,v.1.1,v.1.2.2.1,v.1.2.2.2.1,()),())):Option ((Bool×Int×ByteArray×ByteArray×Int×Int×Int×Unit)×Unit)).bind fun a=>
bif a.1.1 then some (.inl ((aS (a.1.2.2.2.2.1+1),a.1.2.1,a.1.2.2.2.2.1,a.1.2.1,a.1.2.2.1,a.1.2.2.2.1,()),()))
else((let f:=(decide (a.1.2.2.2.2.1<(a.1.2.2.2.1.size:Int)))
bif f then bif decide (0≤a.1.2.2.2.2.1∧a.1.2.2.2.2.1<a.1.2.2.2.1.size)then
let g:=(((((a.1.2.2.2.1[a.1.2.2.2.2.1.toNat]?.getD 0).toNat:Nat):Int):Int)==63)
bif g then some ((true,a.1.2.2.2.2.2.1,a.1.2.2.2.2.2.2.1,a.1.2.2.1,a.1.2.2.2.1,a.1.2.1,a.1.2.2.2.2.1,()),())
else bif decide (0≤a.1.2.2.2.2.1∧a.1.2.2.2.2.1<a.1.2.2.2.1.size)then
bif decide (0≤a.1.2.1∧a.1.2.1<a.1.2.2.1.size)then
let h:=(((((a.1.2.2.2.1[a.1.2.2.2.2.1.toNat]?.getD 0).toNat:Nat):Int):Int)==(((a.1.2.2.1[a.1.2.1.toNat]?.getD 0).toNat:Nat):Int))
some ((h,a.1.2.2.2.2.2.1,a.1.2.2.2.2.2.2.1,a.1.2.2.1,a.1.2.2.2.1,a.1.2.1,a.1.2.2.2.2.1,()),())
else none
else none
else none
else some ((false,a.1.2.2.2.2.2.1,a.1.2.2.2.2.2.2.1,a.1.2.2.1,a.1.2.2.2.1,a.1.2.1,a.1.2.2.2.2.1,()),())):Option ((Bool×Int×Int×ByteArray×ByteArray×Int×Int×Unit)×Unit)).bind fun b=>
bif b.1.1 then some (.inl ((aS (b.1.2.2.2.2.2.2.1+1),aS (b.1.2.2.2.2.2.1+1),b.1.2.1,b.1.2.2.1,b.1.2.2.2.1,b.1.2.2.2.2.1,()),()))
else bif decide (b.1.2.1≥0)then some (.inl ((aS (b.1.2.1+1),aS (b.1.2.2.1+1),b.1.2.1,aS (b.1.2.2.1+1),b.1.2.2.2.1,b.1.2.2.2.2.1,()),()))
else some (.inr (.inl ((false,()),())))
else(some (.inr (.inr ((v.1.1,v.1.2.2.2.2.2),()))))
def WQ(v:(Ov×Unit)):Option iB:=
(aA gX ((0,0,-1,0,v.1.2.1,v.1.1,()),())).bind fun b=>
au b (fun c=>(some c)) (fun a=>(bif decide ((0:Int)≤a.1.1)then
bif decide (a.1.1.toNat≤a.1.2.1.size∧a.1.2.1.size≤a.1.2.1.size)then
(WO ((a.1.2.1.extract a.1.1.toNat a.1.2.1.size,bs [42],()),())).bind fun d=>
some ((d.1.1.toList==ByteArray.empty.toList,()),())
else none
else none))
def afh:Abs.Spec:=⟨0,⟨[0,1],MC,.nil⟩,⟨[4],jo,.nil⟩,WQ⟩
def afn:Nat→Abs.ig
 |0=>.mk (bQ [(7,⟨[28,7,8,1,0,6,5],(.dat .bool (.dat aU (.dat aU (.dat .str (.dat .str qd))))),.nil⟩),(4,⟨[13,6,1,0,5,7,8],(.dat .bool (.dat aU (.dat .str (.dat .str KM)))),.nil⟩)]) bM (bQ [(2,⟨⟨[5,6,7,8,1,0],(.dat aU (.dat aU (.dat aU (.dat aU MC)))),.nil⟩,(.more .ret ⟨[4],jo,.nil⟩ (.one (.exit 0) ⟨[5,0],Hu,.nil⟩))⟩)]) jb
 |_=>{}
theorem aiv:eP 225 afh:=okW afn (bL agD fE)
def Yz(v:((Nw×iU×Unit)×Unit)):Option iB:=
(Tx ((v.1.2.1,v.1.1.1,()),())).bind fun a=>
bif v.1.1.2.1==0 then some ((a.1.1.toList==v.1.1.2.2.1.toList,()),())
else(bif v.1.1.2.1==1 then some ((!(a.1.1.toList==v.1.1.2.2.1.toList),()),())
else bif v.1.1.2.1==2 then(WQ ((v.1.1.2.2.1,a.1),())).bind fun b=>
some b
else bif v.1.1.2.1==3 then(WQ ((v.1.1.2.2.1,a.1),())).bind fun c=>
some ((!c.1.1,()),())
else some ((false,()),()))
def aiu:Abs.Spec:=⟨0,⟨[0,1],(.dat Lb oL),.nil⟩,⟨[4],jo,.nil⟩,Yz⟩
theorem afr:eP 206 aiu:=okW Aq (bL ach (bL aiv fE))
def qI(v:((Int×Y3×Int×Unit)×LD)):Option (((Int×Y3×Int×Unit)×LD)⊕((nZ×LD)⊕(Unit×LD))):=
bif decide (v.1.1<v.1.2.2.1)then Abs.rowAt v.1.2.1 v.1.1 fun a _=>
(Yz ((a,v.2.1),())).bind fun b=>
bif !b.1.1 then some (.inr (.inl ((v.1.1,()),v.2)))
else some (.inl ((aS (v.1.1+1),v.1.2),v.2))
else(some (.inr (.inr ((),v.2))))
def NQ(v:(R3×Unit)):Option iB:=
(((aA qI ((0,v.1.1,(v.1.1.length:Int),()),v.1.2,())).bind fun b=>
au b (fun a=>(some ((decide (a.1.1≥0),()),a.2))) (fun c=>(some ((false,()),c.2)))):Option (rJ×LD)).bind fun d=>
some ((!d.1.1,()),())
def acu:Abs.Spec:=⟨0,⟨[0,1],(.dat (.row Lb) oL),.nil⟩,⟨[4],jo,.nil⟩,NQ⟩
def ahZ:Nat→Abs.ig
 |0=>.mk bM bM bM (fun
  |1,2=>1
  |_,_=>0)
 |1=>.mk (bQ [(1,⟨[4],jo,MX⟩)]) bM bM (fun
  |1,2=>2
  |_,_=>0)
 |2=>.mk bM bM (bQ [(2,⟨⟨[8,0,1,7],(.dat aU (.dat (.row Lb) (.st (.clo 205 [((0,0),1,0,0)]) dK))),MX⟩,(.more .ret ⟨[4],dK,MX⟩ (.one (.exit 0) ⟨[],.nil,MX⟩))⟩)]) (fun
  |4,5=>3
  |_,_=>0)
 |_=>{}
theorem XQ:eP 169 acu:=okW ahZ (bL afr fE)
def AJ(v:acp):Option (acp⊕(NP×Unit)):=
bif decide (v.1.1<v.1.2.2.2.2.2.2.1)then((Abs.rowAt v.1.2.2.2.2.2.1 v.1.1 fun b _=>
((bif decide (b.2.1≤v.1.2.2.2.2.1)then bif decide (v.1.2.2.2.2.1<b.2.2.1)then(NQ ((b.2.2.2.2.1,v.1.2.2.2.1,()),())).bind fun d=>
bif d.1.1 then bif !v.1.2.2.1 then some ((true,v.1.2.2.2.1,v.1.2.2.2.2.1,v.1.2.2.2.2.2.1,v.1.2.2.2.2.2.2.1,v.1.1,v.1.2.1,v.1.2.2.1,()),(b,()),())
else some ((decide (b.1<v.1.2.1),v.1.2.2.2.1,v.1.2.2.2.2.1,v.1.2.2.2.2.2.1,v.1.2.2.2.2.2.2.1,v.1.1,v.1.2.1,v.1.2.2.1,()),(b,()),())
else some ((false,v.1.2.2.2.1,v.1.2.2.2.2.1,v.1.2.2.2.2.2.1,v.1.2.2.2.2.2.2.1,v.1.1,v.1.2.1,v.1.2.2.1,()),(b,()),())
else some ((false,v.1.2.2.2.1,v.1.2.2.2.2.1,v.1.2.2.2.2.2.1,v.1.2.2.2.2.2.2.1,v.1.1,v.1.2.1,v.1.2.2.1,()),(b,()),())
else some ((false,v.1.2.2.2.1,v.1.2.2.2.2.1,v.1.2.2.2.2.2.1,v.1.2.2.2.2.2.2.1,v.1.1,v.1.2.1,v.1.2.2.1,()),(b,()),())):Option ((Bool×iU×Int×Bj×Int×Int×Int×Bool×Unit)×V5)).bind fun a=>
bif a.1.1 then some ((a.2.1.1.1,true,a.1.2.1,a.1.2.2.1,a.1.2.2.2.1,a.1.2.2.2.2.1,a.1.2.2.2.2.2.1,()),())
else some ((a.1.2.2.2.2.2.2.1,a.1.2.2.2.2.2.2.2.1,a.1.2.1,a.1.2.2.1,a.1.2.2.2.1,a.1.2.2.2.2.1,a.1.2.2.2.2.2.1,()),())):Option ((Int×Bool×iU×Int×Bj×Int×Int×Unit)×Unit)).bind fun c=>
some (.inl ((aS (c.1.2.2.2.2.2.2.1+1),c.1.1,c.1.2.1,c.1.2.2.1,c.1.2.2.2.1,c.1.2.2.2.2.1,c.1.2.2.2.2.2.1,()),()))
else(some (.inr ((v.1.2.2.1,v.1.2.1,()),())))
def YV(v:((Bj×iU×Int×Unit)×Unit)):Option aaF:=
(aA AJ ((0,0,false,v.1.2.1,v.1.2.2.1,v.1.1,(v.1.1.length:Int),()),())).bind fun a=>
some ((a.1.2.1,a.1.1,()),())
def ag6:Abs.Spec:=⟨0,⟨[0,1,2],(.dat GV TB),.nil⟩,⟨[6,7],NW,.nil⟩,YV⟩
def aff:Nat→Abs.ig
 |0=>.mk (bQ [(4,⟨[41,1,2,10,11,12,9,6,7],(.dat .bool (.dat sU (.dat aU (.dat GV (.dat aU (.dat aU (.st rP NW))))))),ae7⟩)]) (bQ [(6,(⟨[6,7,1,2,10,11,12],(.dat aU (.dat .bool (.dat sU (.dat aU (.dat GV qd))))),.nil⟩,none))]) (bQ [(2,⟨⟨[12,6,7,1,2,10,11],(.dat aU (.dat aU (.dat .bool (.dat sU (.dat aU (.dat GV dK)))))),.nil⟩,(.one (.exit 0) ⟨[7,6],Zm,.nil⟩)⟩)]) jb
 |_=>{}
theorem ah1:eP 214 ag6:=okW aff (bL XQ fE)
def qW(v:acn):Option (acn⊕((nZ×aa5)⊕(Unit×aa5))):=
bif decide (v.1.1<v.1.2.2.1)then Abs.rowAt v.1.2.1 v.1.1 fun a _=>
(Tx ((v.2.1.1,a,()),())).bind fun b=>
(Tx ((v.2.2.1.1,a,()),())).bind fun c=>
bif !(b.1.1.toList==c.1.1.toList)then some (.inr (.inl ((v.1.1,()),v.2)))
else some (.inl ((aS (v.1.1+1),v.1.2),v.2))
else(some (.inr (.inr ((),v.2))))
def abm(v:((iU×iU×List ByteArray×Unit)×Unit)):Option iB:=
(((aA qW ((0,v.1.2.2.1,(v.1.2.2.1.length:Int),()),(v.1.1,()),(v.1.2.1,()),())).bind fun b=>
au b (fun a=>(some ((decide (a.1.1≥0),()),a.2))) (fun c=>(some ((false,()),c.2)))):Option (rJ×aa5)).bind fun d=>
some ((!d.1.1,()),())
def af6:Abs.Spec:=⟨0,⟨[0,1,2],(.dat sU (.dat sU KV)),.nil⟩,⟨[6],jo,.nil⟩,abm⟩
def agB:Nat→Abs.ig
 |0=>.mk bM bM bM (fun
  |1,2=>1
  |_,_=>0)
 |1=>.mk (bQ [(1,⟨[4],jo,(.box 1 oL MX)⟩)]) bM bM (fun
  |1,2=>2
  |_,_=>0)
 |2=>.mk bM bM (bQ [(2,⟨⟨[8,0,1,7],(.dat aU (.dat Oq (.st (.clo 235 [((0,0),1,0,0),((1,0),1,0,0)]) dK))),(.box 1 oL MX)⟩,(.more .ret ⟨[4],dK,(.box 1 oL MX)⟩ (.one (.exit 0) ⟨[],.nil,(.box 1 oL MX)⟩))⟩)]) (fun
  |4,5=>3
  |_,_=>0)
 |_=>{}
theorem ail:eP 229 af6:=okW agB (bL ach fE)
def qV(v:afg):Option (afg⊕(iB⊕abZ)):=
bif decide (v.1.1<v.1.2.2.2.2.2.2.2.1)then Abs.rowAt v.1.2.2.1 v.1.1 fun b _=>
(((NQ ((v.2.1.1.1,b,()),())).bind fun c=>
bif c.1.1 then(NQ ((v.2.1.1.2.1,b,()),())).bind fun d=>
bif !d.1.1 then(abm ((v.1.2.1,b,v.2.1.1.2.2),())).bind fun e=>
some ((e.1.1,v.1.2.1,v.1.2.2.1,v.1.2.2.2.1,v.1.2.2.2.2.1,v.1.2.2.2.2.2.1,v.1.2.2.2.2.2.2.1,v.1.2.2.2.2.2.2.2.1,v.1.1,()),v.2)
else some ((false,v.1.2.1,v.1.2.2.1,v.1.2.2.2.1,v.1.2.2.2.2.1,v.1.2.2.2.2.2.1,v.1.2.2.2.2.2.2.1,v.1.2.2.2.2.2.2.2.1,v.1.1,()),v.2)
else some ((false,v.1.2.1,v.1.2.2.1,v.1.2.2.2.1,v.1.2.2.2.2.1,v.1.2.2.2.2.2.1,v.1.2.2.2.2.2.2.1,v.1.2.2.2.2.2.2.2.1,v.1.1,()),v.2)):Option ((Bool×iU×List iU×List iU×G9×Int×Int×Int×Int×Unit)×QW)).bind fun a=>
bif a.1.1 then some (.inr (.inl ((true,()),())))
else some (.inl ((aS (a.1.2.2.2.2.2.2.2.2.1+1),a.1.2.1,a.1.2.2.1,a.1.2.2.2.1,a.1.2.2.2.2.1,a.1.2.2.2.2.2.1,a.1.2.2.2.2.2.2.1,a.1.2.2.2.2.2.2.2.1,()),a.2))
else(some (.inr (.inr ((v.1.2.1,v.1.2.2.2.1,v.1.2.2.2.2.1,v.1.2.2.2.2.2.1,v.1.2.2.2.2.2.2.1,()),()))))
def uH(v:abY):Option (abY⊕(iB⊕Ai)):=
bif decide (v.1.1<v.1.2.2.2.2.1)then((Abs.rowAt v.1.2.2.2.1 v.1.1 fun b _=>
(NQ ((b.2.1,v.1.2.1,()),())).bind fun c=>
bif !c.1.1 then some (.inl ((v.1.2.1,v.1.2.2.1,v.1.2.2.2.1,v.1.2.2.2.2.1,v.1.1,()),()))
else(aA qV ((0,v.1.2.1,v.1.2.2.1,v.1.2.2.1,v.1.2.2.2.1,v.1.2.2.2.2.1,v.1.1,(v.1.2.2.1.length:Int),()),(b,()),())).bind fun d=>
au d (fun e=>(some (.inr e))) (fun f=>(some (.inl f)))):Option (abZ⊕iB)).bind fun g=>
au g (fun a=>(some (.inl ((aS (a.1.2.2.2.2.1+1),a.1.1,a.1.2.1,a.1.2.2.1,a.1.2.2.2.1,()),())))) (fun h=>(some (.inr (.inl h))))
else(some (.inr (.inr ((),()))))
def Yi(v:((G9×iU×List iU×Unit)×Unit)):Option iB:=
(aA uH ((0,v.1.2.1,v.1.2.2.1,v.1.1,(v.1.1.length:Int),()),())).bind fun a=>
au a (fun b=>(some b)) (fun c=>(some ((false,()),())))
def agR:Abs.Spec:=⟨0,⟨[0,1,2],(.dat Fu (.dat sU (.dat Ce .nil))),.nil⟩,⟨[6],jo,.nil⟩,Yi⟩
def ai1:Nat→Abs.ig
 |0=>.mk (bQ [(8,⟨[45,8,1,22,2,11,12,13,23,24],(.dat .bool (.st Js (.dat sU (.dat Ce (.dat Ce (.dat Fu ad3)))))),aaW⟩)]) (bQ [(11,(⟨[1,2,11,12,13],(.dat sU (.dat Ce (.dat Fu qd))),.nil⟩,some (.one .ret ⟨[6],jo,.nil⟩)))]) (bQ [(2,⟨⟨[13,1,2,11,12],(.dat aU (.dat sU (.dat Ce (.dat Fu dK)))),.nil⟩,(.more .ret ⟨[6],jo,.nil⟩ Ro1)⟩),(6,⟨⟨[24,8,1,22,2,11,12,13,23],(.dat aU (.st Js (.dat sU (.dat Ce (.dat Ce (.dat Fu KM)))))),aaW⟩,(.more .ret ⟨[6],jo,.nil⟩ (.one (.exit 2) ⟨[1,2,11,12,13],(.dat sU (.dat Ce (.dat Fu qd))),.nil⟩))⟩)]) jb
 |_=>{}
theorem aeU:eP 215 agR:=okW ai1 (bL XQ (bL ail fE))
def Zd(v:((G9×Bj×iU×List iU×Int×Unit)×Unit)):Option iB:=
(YV ((v.1.2.1,v.1.2.2.1,v.1.2.2.2.2),())).bind fun a=>
((bif a.1.2.1 then some ((true,()),())
else(Yi ((v.1.1,v.1.2.2.1,v.1.2.2.2.1,()),())).bind fun b=>
some b):Option iB).bind fun c=>
some c
def agq:Abs.Spec:=⟨0,⟨[0,1,2,3,4],(.dat Fu (.dat GV (.dat sU (.dat Ce dK)))),.nil⟩,⟨[10],jo,.nil⟩,Zd⟩
def agI:Nat→Abs.ig
 |0=>.mk (bQ [(2,⟨[10],jo,.nil⟩)]) bM bM jb
 |_=>{}
theorem aiy:eP 185 agq:=okW agI (bL ah1 (bL aeU fE))
def zC(v:afk):Option (afk⊕(kH⊕Ai)):=
bif decide (v.1.1<v.1.2.2.2.1)then Abs.rowAt v.1.2.1 v.1.1 fun a _=>
bif v.1.2.2.1.toList==a.toList then some (.inr (.inl ((v.1.1,()),())))
else some (.inl ((aS (v.1.1+1),v.1.2),()))
else(some (.inr (.inr ((),()))))
def Zv(v:abQ):Option kH:=
(aA zC ((0,v.1.1,v.1.2.1,(v.1.1.length:Int),()),())).bind fun a=>
au a (fun b=>(some b)) (fun c=>(some ((-1,()),())))
def agn:Abs.Spec:=⟨0,⟨[0,1],(.dat Oq iZ),.nil⟩,⟨[4],dK,.nil⟩,Zv⟩
def aeN:Nat→Abs.ig
 |0=>.mk bM bM (bQ [(2,⟨⟨[8,0,1,7],(.dat aU (.dat Oq Va)),.nil⟩,Ro5⟩)]) jb
 |_=>{}
theorem aht:eP 211 agn:=okW aeN fE
def JY(v:abQ):Option iB:=
(Zv v).bind fun a=>
some ((decide (a.1.1≥0),()),())
def aic:Abs.Spec:=⟨0,⟨[0,1],(.dat Oq iZ),.nil⟩,⟨[4],jo,.nil⟩,JY⟩
theorem abD:eP 172 aic:=okW Aq (bL aht fE)
def acE(v:Wt):Option iB:=
some ((!v.1.1.2.2.2.2.2.1,()),())
def ah3:Abs.Spec:=⟨0,⟨[0],(.dat Z7 .nil),.nil⟩,⟨[2],jo,.nil⟩,acE⟩
theorem agy:eP 184 ah3:=okW Aq fE
def tJ(v:af7):Option (af7⊕(NP×acK)):=
bif decide (v.1.1<v.1.2.2.2.2.1)then((bif decide (0≤v.1.1∧v.1.1<v.2.1.length)then
(v.2.1[v.1.1.toNat]?).bind fun a=>
(JY ((v.1.2.2.1,a.1,()),())).bind fun c=>
bif c.1.1 then some ((v.1.2.1,v.1.2.2.1,v.1.2.2.2.1,v.1.2.2.2.2.1,v.1.1,()),v.2)
else bif a.2.2.2.2.1 then bif decide (v.2.2.2.2.2.2.1.length+ [a.1].length≤4294967296)then
((bif v.1.2.1 then some ((true,v.1.2.2.1,v.1.2.2.2.1,v.1.2.2.2.2.1,v.1.1,()),v.2.1,v.2.2.1,v.2.2.2.1,v.2.2.2.2.1,v.2.2.2.2.2.1,v.2.2.2.2.2.2.1++ [a.1],v.2.2.2.2.2.2.2)
else some ((!a.2.2.2.2.2.1,v.1.2.2.1,v.1.2.2.2.1,v.1.2.2.2.2.1,v.1.1,()),v.2.1,v.2.2.1,v.2.2.2.1,v.2.2.2.2.1,v.2.2.2.2.2.1,v.2.2.2.2.2.2.1++ [a.1],v.2.2.2.2.2.2.2)):Option ahh).bind fun d=>
some d
else none
else bif decide (v.2.2.2.2.2.2.2.1.length+ [a.1].length≤4294967296)then
some ((v.1.2.1,v.1.2.2.1,v.1.2.2.2.1,v.1.2.2.2.2.1,v.1.1,()),v.2.1,v.2.2.1,v.2.2.2.1,v.2.2.2.2.1,v.2.2.2.2.2.1,v.2.2.2.2.2.2.1,v.2.2.2.2.2.2.2.1++ [a.1],())
else none
else none):Option ahh).bind fun b=>
some (.inl ((aS (b.1.2.2.2.2.1+1),b.1.1,b.1.2.1,b.1.2.2.1,b.1.2.2.2.1,()),b.2))
else(some (.inr ((v.1.2.1,v.1.2.2.2.1,()),v.2.1,v.2.2.2.1,v.2.2.1,v.2.2.2.2)))
def kz(v:(Dr×Ya)):Option ((Dr×Ya)⊕((nZ×Ya)⊕(Unit×Ya))):=
bif decide (v.1.1<v.1.2.1)then bif decide (0≤v.1.1∧v.1.1<v.2.1.length)then
(v.2.1[v.1.1.toNat]?).bind fun a=>
(JY ((v.2.2.2.2.1,a.1,()),())).bind fun b=>
bif decide (v.2.2.2.1.length=v.2.2.2.1.length)&&(decide (v.2.2.2.2.1.length=v.2.2.2.2.1.length)&&true)then
bif b.1.1 then some (.inr (.inl ((v.1.1,()),v.2)))
else some (.inl ((aS (v.1.1+1),v.1.2),v.2))
else none
else none
else(some (.inr (.inr ((),v.2))))
def nY(v:(Dr×Ya)):Option ((Dr×Ya)⊕(nZ×Ya)):=
let c:=(decide (v.1.1<((v.2.1.length:Nat):Int)))
bif c then((bif decide (0≤v.1.1∧v.1.1<v.2.1.length)then
(v.2.1[v.1.1.toNat]?).bind fun b=>
(JY ((v.2.2.2.2.1,b.1,()),())).bind fun d=>
bif decide (v.2.2.2.1.length=v.2.2.2.1.length)&&(decide (v.2.2.2.2.1.length=v.2.2.2.2.1.length)&&true)then
bif !d.1.1 then bif decide (0≤v.1.2.1∧v.1.2.1<v.2.1.length)then
bif decide (v.1.2.1.toNat<v.2.1.length)then
some ((aS (v.1.2.1+1),v.1.1,()),v.2.1.set v.1.2.1.toNat b,v.2.2)
else none
else none
else some ((v.1.2.1,v.1.1,()),v.2)
else none
else none):Option (Dr×Ya)).bind fun a=>
some (.inl ((aS (a.1.2.1+1),a.1.1,()),a.2))
else(some (.inr (v.1.2,v.2)))
def qA(v:ac0):Option (ac0⊕(NP×adM)):=
bif decide (v.1.1<v.1.2.2.2.2.1)then bif decide (0≤v.1.1∧v.1.1<v.1.2.1.2)then
(v.2.2.2.1[(v.1.2.1.1+v.1.1.toNat)]?).bind fun d=>
((bif d.2.2.2.2.2.1 then bif decide (0≤v.1.1∧v.1.1<v.2.2.1.1.2.2.1.2)then
(v.2.2.2.1[(v.2.2.1.1.2.2.1.1+v.1.1.toNat)]?).bind fun b=>
some ((v.1.2.1,v.1.2.2.1,v.1.2.2.2.1,v.1.2.2.2.2.1,v.1.1,()),v.2.1,v.2.2.1,v.2.2.2.1.set (v.2.2.1.1.2.2.1.1+v.1.1.toNat) (b.1,b.2.1,b.2.2.1,b.2.2.2.1,b.2.2.2.2.1,true,()),v.2.2.2.2)
else none
else(JY ((v.2.2.2.2.2.2.2.1,d.1,()),())).bind fun e=>
bif decide (0≤v.1.1∧v.1.1<v.2.2.1.1.2.2.1.2)then
(v.2.2.2.1[(v.2.2.1.1.2.2.1.1+v.1.1.toNat)]?).bind fun c=>
some ((v.1.2.1,v.1.2.2.1,v.1.2.2.2.1,v.1.2.2.2.2.1,v.1.1,()),v.2.1,v.2.2.1,v.2.2.2.1.set (v.2.2.1.1.2.2.1.1+v.1.1.toNat) (c.1,c.2.1,c.2.2.1,c.2.2.2.1,c.2.2.2.2.1,e.1),v.2.2.2.2)
else none):Option (((Nat×Nat)×Bool×Int×Int×Int×Unit)×afN)).bind fun a=>
some (.inl ((aS (a.1.2.2.2.2.1+1),a.1.1,a.1.2.1,a.1.2.2.1,a.1.2.2.2.1,()),a.2))
else none
else(some (.inr ((v.1.2.2.1,v.1.2.2.2.1,()),v.2.2.2.2.1,v.2.2.2.2.2.1,v.2.1,v.2.2.1,v.2.2.2.2.2.2.1,v.2.2.2.2.2.2.2.1,v.2.2.2.2.2.2.2.2.1,v.2.2.2.1,())))
def vG(v:YF):Option (YF⊕(kH⊕Ai)):=
bif decide (v.1.1<v.1.2.2.1)then Abs.rowAt v.1.2.1 v.1.1 fun a _=>
(acE ((a,()),())).bind fun b=>
bif b.1.1 then some (.inr (.inl ((v.1.1,()),())))
else some (.inl ((aS (v.1.1+1),v.1.2),()))
else(some (.inr (.inr ((),()))))
def aaR(v:aeM):Option (NP×(Yq4×Ox×Y5×List ByteArray×List ByteArray×Unit)):=
(((m82 ((v.1.1,()),())).bind fun s=>
bif !s.1.1 then some ((true,v.1.2.2),((0,ByteArray.empty,0,0,()),()),((0,0,0,ByteArray.empty,()),()),(v.1.1,()),(v.1.2.1,()),())
else(Ul ((v.1.2.1,()),())).bind fun t=>
some ((!t.1.1,v.1.2.2),((0,ByteArray.empty,0,0,()),()),((0,0,0,ByteArray.empty,()),()),(v.1.1,()),(v.1.2.1,()),())):Option ((Bool×Int×List ByteArray×Unit)×(CX×Ox×MV×(Y9×Unit)×Unit))).bind fun h=>
bif h.1.1 then some ((false,8,()),((0,ByteArray.empty,(0,0),0,0,()),()),((0,0,0,ByteArray.empty,()),()),[],[],[],())
else((Ez ((h.1.2.1,0,8589934592,()),())).bind fun u=>
bif !u.1.1 then some ((false,1,()),((0,ByteArray.empty,(0,0),0,0,()),()),((0,0,0,ByteArray.empty,()),()),[],[],[],())
else(OL (h.2.2.2.1,())).bind fun m=>
((bif m.2.1.1.2.2.1==(-1)then some ((true,h.1.2),h.2.1,h.2.2.1,m.2.1,h.2.2.2.2.1,m.2.2)
else some ((decide (m.2.1.1.2.2.1>h.1.2.1),h.1.2),h.2.1,h.2.2.1,m.2.1,h.2.2.2.2.1,m.2.2)):Option ((Bool×Int×List ByteArray×Unit)×(CX×Ox×CX×(Y9×Unit)×Y5×Unit))).bind fun a=>
bif a.1.1 then some ((false,0,()),((a.2.2.2.1.1.1,a.2.2.2.1.1.2.1,(0,a.2.2.2.2.2.1.length),a.2.2.2.1.1.2.2),()),((0,0,0,ByteArray.empty,()),()),a.2.2.2.2.2.1,[],[],())
else(aA tJ ((0,false,a.1.2.2.1,a.1.2.1,((a.2.2.2.2.2.1.length:Nat):Int),()),a.2.2.2.2.2.1,((a.1.2.1,a.2.2.2.1.1.1,a.2.2.2.2.1.1.2.2.1,a.2.2.2.1.1.2.1,()),()),((0,0,0,ByteArray.empty,()),()),a.2.2.2.2.1,a.2.2.2.1,[],[],())).bind fun e=>
((let w:=(decide (((e.2.2.2.2.2.2.1.length:Nat):Int)>0))
bif w then bif e.2.2.2.2.2.1.1.2.2.2.1 !=(-1)then let x:=(aS (e.2.2.2.2.2.1.1.2.2.2.1+e.2.2.2.2.1.1.2.2.2.2.2.2.1))
some ((decide (x≤e.1.2.1),e.1.1,()),e.2.1,e.2.2.1,e.2.2.2.1,e.2.2.2.2.2.2)
else some ((false,e.1.1,()),e.2.1,e.2.2.1,e.2.2.2.1,e.2.2.2.2.2.2)
else some ((false,e.1.1,()),e.2.1,e.2.2.1,e.2.2.2.1,e.2.2.2.2.2.2)):Option ((Bool×Bool×Unit)×(Y5×Ox×Ox×List ByteArray×List ByteArray×Unit))).bind fun l=>
((bif l.1.2.1 then some ((true,()),l.2.1,l.2.2.2)
else bif l.1.1 then some ((true,()),l.2.1,l.2.2.2)
else let y:=(decide (((l.2.2.2.2.2.1.length:Nat):Int)>0))
some ((y,()),l.2.1,l.2.2.2)):Option (rJ×Ya)).bind fun d=>
bif decide (d.2.1.length=a.2.2.2.2.2.1.length)&&true then
((bif d.1.1 then(((((aA kz ((0,((d.2.1.length:Nat):Int),()),d.2)).bind fun z=>
au z (fun n=>(bif decide (n.2.1.length=d.2.1.length)&&(decide (n.2.2.2.1.length=d.2.2.2.1.length)&&(decide (n.2.2.2.2.1.length=d.2.2.2.2.1.length)&&true))then
some n
else none)) (fun o=>(bif decide (o.2.1.length=d.2.1.length)&&(decide (o.2.2.2.1.length=d.2.2.2.1.length)&&(decide (o.2.2.2.2.1.length=d.2.2.2.2.1.length)&&true))then
some ((-1,()),o.2)
else none))):Option (nZ×Ya)).bind fun j=>
bif j.1.1==(-1)then bif decide (j.2.1.length=d.2.1.length)&&(decide (j.2.2.2.1.length=d.2.2.2.1.length)&&(decide (j.2.2.2.2.1.length=d.2.2.2.2.1.length)&&true))then
some ((d.1.1,a.1.2.1,()),j.2.2.1,((a.2.2.2.1.1.1,a.2.2.2.1.1.2.1,(0,j.2.1.length),a.2.2.2.1.1.2.2.1,a.1.2.1,()),()),a.2.1,a.2.2.1,a.2.2.2.2.1,j.2.2.2.1,j.2.2.2.2.1,j.2.1,())
else none
else(aA nY ((aS (j.1.1+1),j.1),j.2)).bind fun b=>
bif decide ((0:Int)≤b.1.1)then
bif decide (b.1.1.toNat≤b.2.1.length∧b.2.1.length≤b.2.1.length)then
bif decide (b.1.1.toNat+(b.2.1.length-b.1.1.toNat)≤b.2.1.length)then
let p:=(cK b.2.1 b.1.1.toNat (List.replicate (b.2.1.length-b.1.1.toNat) ((ByteArray.empty,[],0,0,false,false,()):XZ)))
bif decide ((0:Int)≤b.1.1)then
bif decide (0≤b.1.1.toNat∧b.1.1.toNat≤p.length)then
bif decide (p.length=d.2.1.length)&&(decide (b.2.2.2.1.length=d.2.2.2.1.length)&&(decide (b.2.2.2.2.1.length=d.2.2.2.2.1.length)&&true))then
some ((d.1.1,a.1.2.1,()),b.2.2.1,((a.2.2.2.1.1.1,a.2.2.2.1.1.2.1,(0,b.1.1.toNat),a.2.2.2.1.1.2.2.1,a.1.2.1,()),()),a.2.1,a.2.2.1,a.2.2.2.2.1,b.2.2.2.1,b.2.2.2.2.1,p,())
else none
else none
else none
else none
else none
else none):Option (NP×(Ox×Yq4×CX×Ox×(Y9×Unit)×List ByteArray×List ByteArray×Y5×Unit))).bind fun k=>
(aA qA ((0,k.2.2.1.1.2.2.1,k.1.1,k.1.2.1,((k.2.2.1.1.2.2.1.2:Nat):Int),()),k.2.1,k.2.2.1,k.2.2.2.2.2.2.2.2.1,k.2.2.2.1,k.2.2.2.2.1,k.2.2.2.2.2.1,k.2.2.2.2.2.2.1,k.2.2.2.2.2.2.2.1,())).bind fun aa=>
some aa
else some ((d.1.1,a.1.2.1,()),a.2.1,a.2.2.1,((0,0,0,ByteArray.empty,()),()),((a.2.2.2.1.1.1,a.2.2.2.1.1.2.1,(0,d.2.1.length),a.2.2.2.1.1.2.2),()),a.2.2.2.2.1,[],[],d.2.1,())):Option (NP×adM)).bind fun f=>
bif decide (f.2.2.2.2.1.1.2.2.1.1+f.2.2.2.2.1.1.2.2.1.2≤f.2.2.2.2.2.2.2.2.1.length)then
(((aA vG ((0,(f.2.2.2.2.2.2.2.2.1.drop f.2.2.2.2.1.1.2.2.1.1).take f.2.2.2.2.1.1.2.2.1.2,(((f.2.2.2.2.2.2.2.2.1.drop f.2.2.2.2.1.1.2.2.1.1).take f.2.2.2.2.1.1.2.2.1.2).length:Int),()),())).bind fun ab=>
au ab (fun ac=>(some ((decide (ac.1.1≥0),()),()))) (fun ai=>(some ((false,()),())))):Option iB).bind fun ad=>
let q:=(aS (f.2.2.2.2.1.1.2.2.2.2.1+f.2.2.2.2.2.1.1.2.2.2.2.2.2.1))
((((bif ad.1.1 then some ((true,f.1.1,f.1.2.1,q,()),f.2)
else some ((decide (q≤f.1.2.1),f.1.1,f.1.2.1,q,()),f.2)):Option ((Bool×Bool×Int×Int×Unit)×adM)).bind fun g=>
bif g.1.1 then let ae:=(aS (g.1.2.2.1+g.2.2.2.2.2.1.1.2.2.2.2.2.1))
some ((g.1.2.1,g.1.2.2.1,ae,()),g.2.1,g.2.2.1,g.2.2.2.1,g.2.2.2.2.1,g.2.2.2.2.2.2)
else some (g.1.2,g.2.1,g.2.2.1,g.2.2.2.1,g.2.2.2.2.1,g.2.2.2.2.2.2)):Option (UJ×(CX×Ox×Ox×Yq4×List ByteArray×List ByteArray×Y5×Unit))).bind fun c=>
let af:=(if((aS (c.1.2.1+1)):Int)>c.1.2.2.1 then aS (c.1.2.1+1)else c.1.2.2.1)
(Mg ((af,()),())).bind fun ag=>
((let ah:=(((c.2.2.2.2.1.1.2.2.1.2:Nat):Int)==0)
bif decide (c.2.2.2.2.2.2.2.1.length=c.2.2.2.2.2.2.2.1.length)&&true then
bif ah then some ((),c.2.2.2.2.2.2.2.1,((0,ByteArray.empty,0,0,()),()),((c.2.2.2.2.1.1.1,c.2.2.2.2.1.1.2.1,c.2.2.2.2.1.1.2.2.1,-1,c.2.2.2.2.1.1.2.2.2.2),()),())
else some ((),c.2.2.2.2.2.2.2.1,((0,ByteArray.empty,0,0,()),()),((c.2.2.2.2.1.1.1,c.2.2.2.2.1.1.2.1,c.2.2.2.2.1.1.2.2.1,ag.1.1,c.2.2.2.2.1.1.2.2.2.2),()),())
else none):Option (Unit×(Y5×CX×Yq4×Unit))).bind fun r=>
bif decide (r.2.1.length=c.2.2.2.2.2.2.2.1.length)&&true then
some ((c.1.1,0,()),r.2.2.2.1,c.2.2.2.1,r.2.1,c.2.2.2.2.2.1,c.2.2.2.2.2.2.1,())
else none
else none
else none)
def agZ:Abs.Spec:=⟨0,⟨[0,1,2,3],(.dat Z1 (.dat Z2 (.dat aU KV))),.nil⟩,⟨[8,9,10,11],(.st rP (.st Gz Zm)),(.box 5 (.agg (.dat aU (.dat .str (.part Z7 (2,0) qd))) .nil) (.box 6 af9 (.arr Z7 false TV)))⟩,aaR⟩
def afH:Nat→Abs.ig
 |0=>.mk (bQ [(20,⟨[101,8,9,13,12,4,2,5,17],(.dat .bool (.st rP (.st Gz (.dat .bool (.st Ph (.st UG (.dat aU (.st Jl dK)))))))),ad9⟩),(15,⟨[12,4,65,8,9,13,2,5,66,67],(.st Yh (.st LY (.part Z7 (2,0) (.st UG (.st (.ptr (4,0) 6 0 0) (.dat .bool (.dat aU (.st (.ptr (5,0) 8 0 0) qd)))))))),Rb3⟩),(11,⟨[12,4,8,9,13,2,5],(.st Yh (.st LY (.st Od (.st (.ptr (3,0) 6 0 0) (.dat .bool (.dat aU (.st Jl .nil))))))),(.box 6 abk (.box 5 (.agg (.dat aU (.dat .str (.part Z7 (7,0) qd))) .nil) (.box 5 Le (.box 6 Qs4 (.box 8 yI (.arr .str false (.arr .str false U1)))))))⟩),(6,⟨[45,8,9,4,2,5,3],agi,(.box 5 Le (.box 6 Qs4 (.box 5 (.agg (.dat aU (.dat .str (.st (.own Z7 (4,0)) qd))) .nil) (.box 8 yI U1))))⟩),(1,⟨[18,8,9,4,2,5,3],agi,(.box 5 Le (.box 6 Qs4 (.box 5 UZ Nh)))⟩)]) (bQ [(22,(⟨[8,9,13,12,4,2,17],(.st rP (.st Gz (.dat .bool (.st Ph (.st UG qd))))),(.box 5 Le (.box 6 Qs4 (.box 6 ajF (.box 5 (.agg (.dat aU (.dat .str (.part Z7 (6,0) qd))) .nil) (.arr .str false (.arr .str false U1))))))⟩,none)),(18,(⟨[8,9,13,12,4,2,5],aix,ad9⟩,none))]) (bQ [(13,⟨⟨[67,12,4,65,8,9,13,2,5,66],(.dat aU (.st Yh (.st LY (.part Z7 (2,0) (.st UG (.st (.ptr (4,0) 6 0 0) (.dat .bool (.dat aU (.st (.ptr (5,0) 8 0 0) dK))))))))),Rb3⟩,(.one (.exit 1) ⟨[8,9,13,12,4,2,5],aix,ad9⟩)⟩)]) (fun
  |23,1=>8
  |18,2=>6
  |11,3=>2
  |8,4=>1
  |_,_=>0)
 |1=>.mk (bQ [(13,⟨[8,9],(.st Gz jo),MP⟩),(12,⟨[8,10,14,11],(.st Gz (.st Ph (.dat .bool jo))),(.arr Z7 false (.box 6 Qs4 (.box 6 af9 TV)))⟩),(10,⟨[11,10,3,24,8,2,5,4,25,26],aeR,ac4⟩)]) (bQ [(11,(⟨[11,10,3,24,8,2,5,4,25,26],aeR,ac4⟩,none))]) (bQ [(4,⟨⟨[26,11,10,3,24,8,2,5,4,25],(.dat aU (.dat .bool (.st Gz (.dat Oq (.st MS (.st Ph (.dat aU (.st (.ptr (3,0) 8 0 0) (.st (.ptr (4,0) 5 0 0) dK))))))))),ac4⟩,(.one (.exit 0) ⟨[8,10,11,2,5,4],(.st Gz (.st Ph (.dat .bool (.dat aU (.st (.ptr (3,0) 8 0 0) (.st (.ptr (4,0) 5 0 0) .nil)))))),(.arr Z7 false (.box 6 Qs4 (.box 6 abk (.box 8 yI (.box 5 aam TV)))))⟩)⟩)]) jb
 |2=>.mk (bQ [(1,⟨[0,5,1],(.st MS (.dat aU (.st Zc .nil))),MP⟩)]) (bQ [(6,(⟨[5,0,1,6],(.dat aU (.st MS (.st Zc dK))),MP⟩,none))]) (bQ [(5,⟨⟨[6,5,0,1],(.dat aU (.dat aU (.st MS (.st Zc .nil)))),MP⟩,(.one (.exit 0) ⟨[5,0],(.dat aU (.st MS .nil)),MP⟩)⟩)]) (fun
  |8,2=>5
  |1,2=>3
  |_,_=>0)
 |3=>.mk bM bM (bQ [(2,⟨⟨[8,0,1,7],(.dat aU (.st MS (.st Zc dK))),MP⟩,(.more .ret ⟨[4],dK,MP⟩ (.one (.exit 0) ⟨[],.nil,MP⟩))⟩)]) (fun
  |4,5=>4
  |_,_=>0)
 |6=>.mk (bQ [(1,⟨[4],jo,.nil⟩)]) bM bM (fun
  |1,2=>7
  |_,_=>0)
 |7=>.mk bM bM (bQ [(2,⟨⟨[8,0,1,7],(.dat aU (.dat DJ (.st (.clo 184 []) dK))),.nil⟩,Ro5⟩)]) jb
 |8=>.mk bM (bQ [(3,(⟨[2,1],UD,(.arr Z7 false (.box 5 Le (.box 5 (.agg (.dat aU (.dat .str (.part Z7 (0,0) qd))) .nil) .nil)))⟩,none))]) bM (fun
  |1,1=>9
  |_,_=>0)
 |_=>{}
theorem agh:eP 134 agZ:=okW afH (bL ZR (bL Xl (bL ME (bL Rz (bL abD (bL agy (bL VH fE)))))))
def Zr(v:((XY×qX×Int×Unit)×Unit)):Option iB:=
(((ads ((v.1.2.1,()),())).bind fun a=>
bif a.1.1 then bif v.1.2.1.2.2.2.2.1==(-1)then some ((true,()),())
else Abs.rowAt v.1.1.1 v.1.2.1.1 fun b _=>
let c:=(decide (((aS (v.1.2.1.2.2.2.2.1+b.2.2.2.2.2.1)):Int)≤v.1.2.2.1))
some ((c,()),())
else some ((false,()),())):Option iB).bind fun d=>
some d
def ajY:Abs.Spec:=⟨0,⟨[0,1,2],(.dat Z16 (.dat Z1 dK)),.nil⟩,⟨[6],jo,.nil⟩,Zr⟩
def ajb:Nat→Abs.ig
 |0=>.mk (bQ [(1,⟨[6],jo,.nil⟩)]) bM bM jb
 |_=>{}
theorem adw:eP 83 ajY:=okW ajb (bL ahW fE)
def z8(v:abW):Option (abW⊕(nZ×(Bl×PX×Bl×List qX×Bj×Unit))):=
bif decide (v.1.1<v.1.2.2.1)then bif decide (0≤v.1.1∧v.1.1<v.2.2.2.1.length)then
(v.2.2.2.1[v.1.1.toNat]?).bind fun b=>
Abs.rowAt v.2.1.1.1 b.1 fun c _=>
(Y0 ((b,c,v.1.2.1,v.2.1.1.2.2),())).bind fun a=>
bif decide (0≤v.1.1∧v.1.1<v.2.2.2.1.length)then
bif decide (v.1.1.toNat<v.2.2.2.1.length)then
some (.inl ((aS (v.1.1+1),v.1.2),v.2.1,v.2.2.1,v.2.2.2.1.set v.1.1.toNat (a.2.1.1.1,a.2.1.1.2.1,a.2.2.1,a.2.1.1.2.2),v.2.2.2.2))
else none
else none
else none
else(some (.inr ((v.1.2.1,()),v.2.2.1,v.2.1,v.2.2.2.2.1,v.2.2.2.1,v.2.2.2.2.2)))
def Ar(v:(af8×ada)):Option ((af8×ada)⊕(Unit×(List qX×Bj×List ByteArray×Unit))):=
bif decide (v.1.1<v.1.2.2.2.1)then((Abs.rowAt v.1.2.2.1 v.1.1 fun b _=>
(Zd ((v.2.2.2.2.2.1.1.2.1,v.2.2.1,b.2.1,v.1.2.1,v.2.2.2.2.1.1.1,()),())).bind fun c=>
bif c.1.1 then bif decide (v.2.2.2.1.length+ [b.1].length≤4294967296)then
some ((v.1.2.1,v.1.2.2.1,v.1.2.2.2.1,v.1.1,()),v.2.1,v.2.2.1,v.2.2.2.1++ [b.1],v.2.2.2.2)
else none
else some ((v.1.2.1,v.1.2.2.1,v.1.2.2.2.1,v.1.1,()),v.2)):Option ((List iU×Y5×Int×Int×Unit)×ada)).bind fun a=>
some (.inl ((aS (a.1.2.2.2.1+1),a.1.1,a.1.2.1,a.1.2.2.1,()),a.2))
else(some (.inr ((),v.2.1,v.2.2.1,v.2.2.2.1,())))
def tK(v:abJ):Option (abJ⊕(Unit×(Bl×List yx×Bl×PX×List qX×Bj×Unit))):=
bif decide (v.1.1<v.1.2.2.2.1)then((bif decide (0≤v.1.1∧v.1.1<v.2.2.2.2.1.length)then
(v.2.2.2.2.1[v.1.1.toNat]?).bind fun d=>
Abs.rowAt v.2.2.2.1.1.1 d.1 fun e _=>
(aA Ar ((0,v.1.2.1,d.2.2.1,(d.2.2.1.length:Int),()),v.2.2.2.2.1,v.2.2.2.2.2.2.1,[],v.2.2.1,v.2.2.2.1,())).bind fun b=>
bif decide (b.2.1.length=v.2.2.2.2.1.length)&&(decide (b.2.2.1.length=v.2.2.2.2.2.2.1.length)&&true)then
(aaR ((d,e,v.1.2.2.1,b.2.2.2),())).bind fun a=>
bif decide (0≤v.1.1∧v.1.1<b.2.1.length)then
bif decide (a.2.1.1.2.2.1.1+a.2.1.1.2.2.1.2≤a.2.2.2.1.length)then
bif decide (v.1.1.toNat<b.2.1.length)then
bif a.1.1 then bif decide (v.2.1.length+([(a.2.2.1.1.1,a.2.2.1.1.2.1,a.2.2.1.1.2.2.1,a.2.2.1.1.2.2.2.1,a.2.2.2.2)]:List yx).length≤4294967296)then
let f:=(v.2.1++([(a.2.2.1.1.1,a.2.2.1.1.2.1,a.2.2.1.1.2.2.1,a.2.2.1.1.2.2.2.1,a.2.2.2.2)]:List yx))
some ((v.1.2.1,v.1.2.2.1,v.1.2.2.2.1,v.1.1,()),f,v.2.2.1,v.2.2.2.1,b.2.1.set v.1.1.toNat (a.2.1.1.1,a.2.1.1.2.1,(a.2.2.2.1.drop a.2.1.1.2.2.1.1).take a.2.1.1.2.2.1.2,a.2.1.1.2.2.2),v.2.2.2.2.2.1,b.2.2.1,())
else none
else some ((v.1.2.1,v.1.2.2.1,v.1.2.2.2.1,v.1.1,()),v.2.1,v.2.2.1,v.2.2.2.1,b.2.1.set v.1.1.toNat (a.2.1.1.1,a.2.1.1.2.1,(a.2.2.2.1.drop a.2.1.1.2.2.1.1).take a.2.1.1.2.2.1.2,a.2.1.1.2.2.2),v.2.2.2.2.2.1,b.2.2.1,())
else none
else none
else none
else none
else none):Option ((List iU×Int×Int×Int×Unit)×ahz)).bind fun c=>
some (.inl ((aS (c.1.2.2.2.1+1),c.1.1,c.1.2.1,c.1.2.2.1,()),c.2))
else(some (.inr ((),v.2.2.2.2.2.1,v.2.1,v.2.2.1,v.2.2.2.1,v.2.2.2.2.1,v.2.2.2.2.2.2)))
def rU(v:(Dr×OP)):Option abN:=
bif decide (v.1.1<v.1.2.1)then bif decide (0≤v.1.1∧v.1.1<v.2.1.length)then
(v.2.1[v.1.1.toNat]?).bind fun a=>
(Zr ((v.2.2.1.1,a,v.2.2.2.1.1.1,()),())).bind fun b=>
bif decide (v.2.1.length=v.2.1.length)&&(decide (v.2.2.2.2.1.length=v.2.2.2.2.1.length)&&true)then
bif b.1.1 then some (.inr (.inl ((v.1.1,()),v.2)))
else some (.inl ((aS (v.1.1+1),v.1.2),v.2))
else none
else none
else(some (.inr (.inr ((),v.2))))
def wE(v:(Dr×OP)):Option ((Dr×OP)⊕(nZ×OP)):=
let c:=(decide (v.1.1<((v.2.1.length:Nat):Int)))
bif c then((bif decide (0≤v.1.1∧v.1.1<v.2.1.length)then
(v.2.1[v.1.1.toNat]?).bind fun b=>
(Zr ((v.2.2.1.1,b,v.2.2.2.1.1.1,()),())).bind fun d=>
bif decide (v.2.1.length=v.2.1.length)&&(decide (v.2.2.2.2.1.length=v.2.2.2.2.1.length)&&true)then
bif !d.1.1 then bif decide (0≤v.1.2.1∧v.1.2.1<v.2.1.length)then
bif decide (v.1.2.1.toNat<v.2.1.length)then
some ((aS (v.1.2.1+1),v.1.1,()),v.2.1.set v.1.2.1.toNat b,v.2.2)
else none
else none
else some ((v.1.2.1,v.1.1,()),v.2)
else none
else none):Option (Dr×OP)).bind fun a=>
some (.inl ((aS (a.1.2.1+1),a.1.1,()),a.2))
else(some (.inr (v.1.2,v.2)))
def m75(v:((XY×Y27×Int×Unit)×Unit)):Option (Unit×aeu):=
(m64 ((v.1.2.1,()),())).bind fun f=>
(aA z8 ((0,v.1.2.2.1,((f.2.2.1.length:Nat):Int),()),(v.1.1,()),((v.1.2.2.1,f.2.1.1.2),()),f.2.2.1,((0,0,()),()),f.2.2.2)).bind fun c=>
bif xB c.2.2.2.2.1 then
bif decide (c.2.2.2.2.1.length=c.2.2.2.2.1.length)&&(decide (c.2.2.2.2.2.1.length=c.2.2.2.2.2.1.length)&&true)then
(aA tK ((0,pR c.2.2.2.2.1,c.1.1,((c.2.2.2.2.1.length:Nat):Int),()),[],c.2.1,c.2.2.1,c.2.2.2.2.1,c.2.2.2.1,c.2.2.2.2.2)).bind fun b=>
(((((aA rU ((0,((b.2.2.2.2.2.1.length:Nat):Int),()),b.2.2.2.2.2.1,b.2.2.2.2.1,b.2.2.2.1,b.2.2.2.2.2.2)).bind fun k=>
au k (fun g=>(bif decide (g.2.1.length=b.2.2.2.2.2.1.length)&&(decide (g.2.2.2.2.1.length=b.2.2.2.2.2.2.1.length)&&true)then
some g
else none)) (fun h=>(bif decide (h.2.1.length=b.2.2.2.2.2.1.length)&&(decide (h.2.2.2.2.1.length=b.2.2.2.2.2.2.1.length)&&true)then
some ((-1,()),h.2)
else none))):Option (nZ×OP)).bind fun d=>
bif d.1.1==(-1)then bif decide (d.2.1.length=b.2.2.2.2.2.1.length)&&(decide (d.2.2.2.2.1.length=b.2.2.2.2.2.2.1.length)&&true)then
some ((),d.2.1,d.2.2.2.2.1,((0,0,()),()),((d.2.2.2.1.1.1,(0,d.2.1.length),d.2.2.2.1.1.2),()),())
else none
else(aA wE ((aS (d.1.1+1),d.1),d.2)).bind fun a=>
bif decide ((0:Int)≤a.1.1)then
bif decide (a.1.1.toNat≤a.2.1.length∧a.2.1.length≤a.2.1.length)then
bif decide (a.1.1.toNat+(a.2.1.length-a.1.1.toNat)≤a.2.1.length)then
let j:=(cK a.2.1 a.1.1.toNat (List.replicate (a.2.1.length-a.1.1.toNat) ((0,ByteArray.empty,[],0,0,()):qX)))
bif decide ((0:Int)≤a.1.1)then
bif decide (0≤a.1.1.toNat∧a.1.1.toNat≤j.length)then
bif decide (j.length=b.2.2.2.2.2.1.length)&&(decide (a.2.2.2.2.1.length=b.2.2.2.2.2.2.1.length)&&true)then
some ((),j,a.2.2.2.2.1,((0,0,()),()),((a.2.2.2.1.1.1,(0,a.1.1.toNat),a.2.2.2.1.1.2),()),())
else none
else none
else none
else none
else none
else none):Option ab1).bind fun e=>
bif decide (e.2.1.length=b.2.2.2.2.2.1.length)&&(decide (e.2.2.1.length=b.2.2.2.2.2.2.1.length)&&true)then
some ((),e.2.2.2.2.1,b.2.2.1,e.2.1,e.2.2.1,())
else none
else none
else none
def aj4:Abs.Spec:=⟨0,⟨[0,1,2],(.dat Z16 (.dat Z20 dK)),.nil⟩,⟨[6,7],(.st lU (.st rO .nil)),acR⟩,m75⟩
def aiL:Nat→Abs.ig
 |0=>.mk bM (bQ [(17,(⟨[11,4,10,3,2,52,6,53,54],(.st (.own Z8 (0,0)) (.st zV (.dat Ce (.st sW (.dat aU (.st (.own Z1 (3,0)) (.st (.ptr (4,0) 4 0 0) qd))))))),afa⟩,none))]) (bQ [(11,⟨⟨[54,11,4,10,3,2,52,6,53],(.dat aU (.st (.own Z8 (0,0)) (.st zV (.dat Ce (.st sW (.dat aU (.st (.own Z1 (3,0)) (.st (.ptr (4,0) 4 0 0) dK)))))))),afa⟩,(.one (.exit 2) ⟨[6,11,4,3],(.st lU (.st rO (.st V4 (.st Tt .nil)))),(.box 4 Nj (.arr Z8 false (.box 4 (.agg (.dat aU (.st (.own Z1 (4,0)) (.st (.own Z4 (5,0)) dK))) .nil) (.box 3 sV Wi))))⟩)⟩),(4,⟨⟨[25,3,2,4,23,6,24],(.dat aU (.st Js (.dat aU (.st zV (.st (.own Z1 (2,0)) (.st Vq dK)))))),(.box 3 sV (.box 4 (.agg (.dat aU (.st (.own Z1 (2,0)) (.st (.own Z4 (4,0)) dK))) .nil) (.arr Z1 false (.box 4 Nj BA))))⟩,(.one (.exit 0) ⟨[4,3,2,6],(.st lU (.st Xd (.dat aU (.st V4 .nil)))),(.box 4 ahE (.box 3 sV (.box 4 Nj Wi)))⟩)⟩)]) (fun
  |18,2=>2
  |13,12=>1
  |_,_=>0)
 |1=>.mk bM (bQ [(7,(⟨[9,5,3,4,13,14,15],(.st aaY (.st Vq (.dat Ce (.st (.ptr (4,0) 3 0 0) (.dat DJ qd))))),agY⟩,none))]) (bQ [(3,⟨⟨[15,9,5,3,4,13,14],(.dat aU (.st aaY (.st Vq (.dat Ce (.st (.ptr (4,0) 3 0 0) ags))))),agY⟩,(.one (.exit 0) ⟨[9],(.st aaY .nil),(.arr Z1 false (.arr Z4 false KF))⟩)⟩)]) jb
 |2=>.mk (bQ [(1,⟨[4,3],(.st V4 (.st Vq .nil)),aip⟩)]) bM bM (fun
  |1,3=>3
  |_,_=>0)
 |3=>.mk (bQ [(1,⟨[0,5,1],(.st JD (.dat aU aaq)),X8⟩)]) (bQ [(6,(⟨[5,0,1,6],YT,X8⟩,none))]) (bQ [(5,⟨⟨[6,5,0,1],(.dat aU (.dat aU (.st JD aaq))),X8⟩,ag4⟩)]) (fun
  |8,2=>6
  |1,2=>4
  |_,_=>0)
 |4=>.mk bM bM (bQ [(2,⟨⟨[8,0,1,7],YT,X8⟩,ah8⟩)]) (fun
  |4,5=>5
  |_,_=>0)
 |_=>{}
theorem aif:eP 75 aj4:=okW aiL (bL adQ (bL afo (bL aiy (bL agh (bL adw fE)))))
def vS(v:Me):Option (Me⊕(kH⊕Ai)):=
bif decide (v.1.1<v.1.2.2.1)then Abs.rowAt v.1.2.1 v.1.1 fun a _=>
(U0 ((a,()),())).bind fun b=>
bif b.1.1 then some (.inr (.inl ((v.1.1,()),())))
else some (.inl ((aS (v.1.1+1),v.1.2),()))
else(some (.inr (.inr ((),()))))
def YW(v:((Xq×Int×Unit)×Unit)):Option kH:=
((bif decide (v.1.1.1<1)then some ((true,()),(v.1.1,()),())
else some ((decide (v.1.1.1≤v.1.2.1),()),(v.1.1,()),())):Option (rJ×V5)).bind fun a=>
bif a.1.1 then some ((6,()),())
else(((bif decide (a.2.1.1.2.1<0)then some ((true,()),a.2)
else let c:=(decide (a.2.1.1.2.1≥a.2.1.1.2.2.1))
bif c then some ((true,()),a.2)
else bif decide (a.2.1.1.2.2.1>8589934592)then some ((true,()),a.2)
else some ((decide (a.2.1.1.2.2.2.1<0),()),a.2)):Option (rJ×V5)).bind fun b=>
bif b.1.1 then some ((1,()),())
else let d:=((b.2.1.1.2.2.2.2.1.length:Int)==0)
bif d then some ((7,()),())
else let e:=(decide ((b.2.1.1.2.2.2.2.1.length:Int)>8))
bif e then some ((5,()),())
else(((aA vS ((0,b.2.1.1.2.2.2.2.1,(b.2.1.1.2.2.2.2.1.length:Int),()),())).bind fun f=>
au f (fun g=>(some ((decide (g.1.1≥0),()),()))) (fun j=>(some ((false,()),())))):Option iB).bind fun h=>
bif h.1.1 then some ((8,()),())
else some ((0,()),()))
def aiw:Abs.Spec:=⟨0,⟨[0,1],(.dat Z4 dK),.nil⟩,⟨[4],dK,.nil⟩,YW⟩
def afD:Nat→Abs.ig
 |0=>.mk (bQ [(3,⟨[15,2],(.dat .bool NZ),ae7⟩),(1,⟨[5,2],(.dat .bool NZ),ae7⟩)]) bM bM (fun
  |9,2=>1
  |_,_=>0)
 |1=>.mk (bQ [(1,⟨[4],jo,.nil⟩)]) bM bM (fun
  |1,2=>2
  |_,_=>0)
 |2=>.mk bM bM (bQ [(2,⟨⟨[8,0,1,7],aej,.nil⟩,Ro5⟩)]) jb
 |_=>{}
theorem ahk:eP 143 aiw:=okW afD (bL ab8 fE)
def DZ(v:((Int×Int×Bj×Int×Unit)×Unit)):Option (((Int×Int×Bj×Int×Unit)×Unit)⊕(kH⊕Ai)):=
bif decide (v.1.1<v.1.2.2.2.1)then Abs.rowAt v.1.2.2.1 v.1.1 fun a _=>
(YW ((a,v.1.2.1,()),())).bind fun b=>
bif b.1.1 !=0 then some (.inr (.inl b))
else some (.inl ((aS (v.1.1+1),a.1,v.1.2.2),()))
else(some (.inr (.inr ((),()))))
def m81(v:(Jb×Unit)):Option kH:=
bif decide ((v.1.1.length:Int)>24)then some ((5,()),())
else((aA DZ ((0,0,v.1.1,(v.1.1.length:Int),()),())).bind fun a=>
au a (fun b=>(some b)) (fun c=>(some ((0,()),()))))
def ajr:Abs.Spec:=⟨0,⟨[0],(.dat GV .nil),.nil⟩,⟨[2],dK,.nil⟩,m81⟩
def ake:Nat→Abs.ig
 |0=>.mk bM bM (bQ [(5,⟨⟨[12,3,10,11],(.dat aU (.dat aU (.dat GV dK))),.nil⟩,(.more .ret ⟨[2],dK,.nil⟩ Ro1)⟩)]) jb
 |_=>{}
theorem agf:eP 81 ajr:=okW ake (bL ahk fE)
def m84(v:((qX×Int×ByteArray×Unit)×Unit)):Option kH:=
bif v.1.1.1 !=v.1.2.1 then some ((aS (v.1.1.1-v.1.2.1),()),())
else((Xj ((v.1.1.2.1,v.1.2.2),())).bind fun a=>
some a)
def akx:Abs.Spec:=⟨0,⟨[0,1,2],(.dat Z1 Hu),.nil⟩,⟨[6],dK,.nil⟩,m84⟩
theorem ahV:eP 84 akx:=okW Aq (bL acd fE)
def u7(v:ab4):Option (ab4⊕Ls):=
bif decide (v.1.1<v.1.2.2.2.1)then((Abs.rowAt v.1.2.2.1 v.1.1 fun b _=>
(JY ((v.1.2.1,b.1,()),())).bind fun c=>
bif c.1.1 then bif decide (v.2.1.length+([b]:List Ov).length≤4294967296)then
let d:=(v.2.1++([b]:List Ov))
some ((v.1.2.1,v.1.2.2.1,v.1.2.2.2.1,v.1.1,()),d,())
else none
else some ((v.1.2.1,v.1.2.2.1,v.1.2.2.2.1,v.1.1,()),v.2)):Option ((List ByteArray×iU×Int×Int×Unit)×yw)).bind fun a=>
some (.inl ((aS (a.1.2.2.2.1+1),a.1.1,a.1.2.1,a.1.2.2.1,()),a.2))
else(some (.inr ((),v.2)))
def YM(v:aci):Option Ls:=
(aA u7 ((0,v.1.2.1,v.1.1,(v.1.1.length:Int),()),[],())).bind fun a=>
some ((),a.2)
def ahX:Abs.Spec:=⟨0,⟨[0,1],(.dat sU KV),.nil⟩,⟨[4],UM,zy⟩,YM⟩
def afz:Nat→Abs.ig
 |0=>.mk bM (bQ [(7,(⟨[5,1,8,9,10],(.st x9 (.dat Oq (.dat sU qd))),zy⟩,none))]) (bQ [(3,⟨⟨[10,5,1,8,9],(.dat aU (.st x9 (.dat Oq TB))),zy⟩,(.one (.exit 0) ⟨[5],UM,zy⟩)⟩)]) jb
 |_=>{}
theorem afd:eP 119 ahX:=okW afz (bL abD fE)
def m69(v:((Y9×iU×Unit)×Unit)):Option BM:=
(m66 (v.1.2,())).bind fun a=>
bif !a.1.1 then some ((ByteArray.empty,()),())
else((YM ((v.1.2.1,v.1.1.2.2.2.1,()),())).bind fun b=>
(Uh (b.2,())).bind fun c=>
some c)
def aiW:Abs.Spec:=⟨0,⟨[0,1],(.dat Z2 oL),.nil⟩,⟨[4],iZ,.nil⟩,m69⟩
theorem ahS:eP 69 aiW:=okW Aq (bL Tv (bL afd (bL VB fE)))
def Bb(v:(Wl×WL)):Option ((Wl×WL)⊕((nZ×WL)⊕(Unit×WL))):=
bif decide (v.1.1<v.1.2.2.1)then Abs.rowAt v.1.2.1 v.1.1 fun a _=>
Abs.rowAt v.2.1.1.1 v.2.2.1.1.1 fun b _=>
(m69 ((b,a.2.1,()),())).bind fun c=>
bif !(c.1.1.toList==v.2.2.1.1.2.1.toList)then some (.inr (.inl ((v.1.1,()),v.2)))
else some (.inl ((aS (v.1.1+1),v.1.2),v.2))
else(some (.inr (.inr ((),v.2))))
def rY(v:afx):Option (afx⊕(iB⊕Ai)):=
bif decide (v.1.1<v.1.2.2.1)then Abs.rowAt v.1.2.1 v.1.1 fun a _=>
(((m82 ((a,()),())).bind fun e=>
bif !e.1.1 then some ((true,v.1.2.1,v.1.2.2.1,v.1.1,()),v.2.1,v.2.2.1,(a,()),())
else let f:=(decide (a.1≥(v.2.1.1.1.length:Int)))
bif f then some ((true,v.1.2.1,v.1.2.2.1,v.1.1,()),v.2.1,v.2.2.1,(a,()),())
else(Zr ((v.2.1.1,a,v.2.2.1.1.1,()),())).bind fun g=>
bif g.1.1 then some ((true,v.1.2.1,v.1.2.2.1,v.1.1,()),v.2.1,v.2.2.1,(a,()),())
else bif decide (v.1.1>0)then Abs.rowAt v.2.2.1.1.2.1 (aS (v.1.1-1)) fun h _=>
(m84 ((h,a.1,a.2.1,()),())).bind fun j=>
some ((decide (j.1.1≥0),v.1.2.1,v.1.2.2.1,v.1.1,()),v.2.1,v.2.2.1,(a,()),())
else some ((false,v.1.2.1,v.1.2.2.1,v.1.1,()),v.2.1,v.2.2.1,(a,()),())):Option ((Bool×List qX×Int×Int×Unit)×(PX×WB×MV×Unit))).bind fun b=>
bif b.1.1 then some (.inr (.inl ((false,()),())))
else(((aA Bb ((0,b.2.2.2.1.1.2.2.1,(b.2.2.2.1.1.2.2.1.length:Int),()),b.2.1,b.2.2.2)).bind fun k=>
au k (fun c=>(some ((decide (c.1.1≥0),()),c.2))) (fun l=>(some ((false,()),l.2)))):Option (rJ×WL)).bind fun d=>
bif d.1.1 then some (.inr (.inl ((false,()),())))
else some (.inl ((aS (b.1.2.2.2.1+1),b.1.2.1,b.1.2.2.1,()),d.2.1,b.2.2.1,()))
else(some (.inr (.inr ((),()))))
def m36(v:((XY×Y27×Unit)×Unit)):Option iB:=
(((m34 ((v.1.1,()),())).bind fun c=>
bif c.1.1 !=0 then some ((true,()),(v.1.1,()),v.1.2,())
else bif decide (v.1.2.1.1<0)then some ((true,()),(v.1.1,()),v.1.2,())
else bif decide (v.1.2.1.1>8589934592)then some ((true,()),(v.1.1,()),v.1.2,())
else let d:=(decide ((v.1.2.1.2.1.length:Int)>64))
bif d then some ((true,()),(v.1.1,()),v.1.2,())
else(m81 ((v.1.2.1.2.2.1,()),())).bind fun e=>
bif e.1.1 !=0 then some ((true,()),(v.1.1,()),v.1.2,())
else some ((decide (v.1.2.1.2.2.2.1<1),()),(v.1.1,()),v.1.2,())):Option (rJ×adH)).bind fun a=>
bif a.1.1 then some ((false,()),())
else(((let f:=(decide ((a.2.2.1.1.2.2.1.length:Int)>0))
bif f then Abs.rowAt a.2.2.1.1.2.2.1 (aS ((a.2.2.1.1.2.2.1.length:Int)-1)) fun g _=>
some ((decide (g.1≥a.2.2.1.1.2.2.2.1),()),a.2)
else some ((false,()),a.2)):Option (rJ×adH)).bind fun b=>
bif b.1.1 then some ((false,()),())
else(aA rY ((0,b.2.2.1.1.2.1,(b.2.2.1.1.2.1.length:Int),()),b.2)).bind fun h=>
au h (fun j=>(some j)) (fun k=>(some ((true,()),()))))
def ajx:Abs.Spec:=⟨0,⟨[0,1],(.dat Z16 Rs8),.nil⟩,⟨[4],jo,.nil⟩,m36⟩
def ajy:Nat→Abs.ig
 |0=>.mk (bQ [(9,⟨[98,2,3,56,57,58,7],(.dat .bool (.st Js (.st zV (.dat XF (.dat aU (.dat aU (.st Od .nil))))))),(.box 3 sV (.box 4 Rs8 F3))⟩),(4,⟨[54,2,3],(.dat .bool (.st Js (.st zV .nil))),acO⟩),(1,⟨[37,2,3],(.dat .bool (.st Js (.st zV .nil))),acO⟩)]) bM (bQ [(7,⟨⟨[58,2,3,56,57],(.dat aU (.st Js (.st zV afW))),acO⟩,aah⟩)]) (fun
  |11,3=>1
  |_,_=>0)
 |1=>.mk (bQ [(1,⟨[4],jo,(.box 3 sV F3)⟩)]) bM bM (fun
  |1,2=>2
  |_,_=>0)
 |2=>.mk bM bM (bQ [(2,⟨⟨[8,0,1,7],(.dat aU (.dat DJ (.st (.clo 86 [((0,0),3,0,0),((1,0),5,0,0)]) dK))),(.box 3 sV F3)⟩,(.more .ret ⟨[4],dK,(.box 3 sV F3)⟩ (.one (.exit 0) ⟨[],.nil,(.box 3 sV F3)⟩))⟩)]) (fun
  |4,5=>3
  |_,_=>0)
 |_=>{}
theorem Zp:eP 36 ajx:=okW ajy (bL adN (bL agf (bL ZR (bL adw (bL ahV (bL ahS fE))))))
def m67(v:((Y27×Int×Unit)×Unit)):Option kH:=
bif decide (v.1.2.1<v.1.1.1)then some ((6,()),())
else(bif decide (v.1.2.1>8589934592)then some ((1,()),())
else some ((0,()),()))
def aj2:Abs.Spec:=⟨0,⟨[0,1],(.dat Z20 dK),.nil⟩,⟨[4],dK,.nil⟩,m67⟩
theorem aeS:eP 67 aj2:=okW Aq fE
def uV(v:aby):Option (aby⊕Ld):=
bif decide (v.1.1<v.1.2.2.2.1)then((Abs.rowAt v.1.2.2.1 v.1.1 fun b _=>
bif b.1==v.1.2.1 then bif decide (v.2.1.length+ [v.1.1].length≤4294967296)then
some ((v.1.2.1,v.1.2.2.1,v.1.2.2.2.1,v.1.1,()),v.2.1++ [v.1.1],())
else none
else some ((v.1.2.1,v.1.2.2.1,v.1.2.2.2.1,v.1.1,()),v.2)):Option ((Int×List Y9×Int×Int×Unit)×Cg)).bind fun a=>
some (.inl ((aS (a.1.2.2.2.1+1),a.1.1,a.1.2.1,a.1.2.2.1,()),a.2))
else(some (.inr ((),v.2)))
def aaN(v:((List Y9×Int×Unit)×Unit)):Option Ld:=
(aA uV ((0,v.1.2.1,v.1.1,(v.1.1.length:Int),()),[],())).bind fun a=>
some ((),a.2)
def ab7:Abs.Spec:=⟨0,⟨[0,1],TM,.nil⟩,⟨[4],Jy,zT⟩,aaN⟩
def ahe:Nat→Abs.ig
 |0=>.mk bM (bQ [(7,(⟨[5,1,8,9,10],(.st Jq (.dat aU (.dat AX qd))),zT⟩,none))]) (bQ [(3,⟨⟨[10,5,1,8,9],(.dat aU (.st Jq (.dat aU TM))),zT⟩,(.one (.exit 0) ⟨[5],Jy,zT⟩)⟩)]) jb
 |_=>{}
theorem afX:eP 168 ab7:=okW ahe fE
def oG(rc:U2→Option Ld)(v:acs):Option (acs⊕(nZ×Cg)):=
bif decide (v.1.1<v.1.2.2.2.2.1)then((bif decide (0≤v.1.1∧v.1.1<v.2.2.1.length)then
(v.2.2.1[v.1.1.toNat]?).bind fun e47=>
Abs.rowAt v.1.2.2.1 e47 fun e48 _=>
(NQ ((e48.2.1,v.1.2.2.2.1,()),())).bind fun u49=>
bif !u49.1.1 then some (.inl ((v.1.2.1,v.1.2.2.1,v.1.2.2.2.1,v.1.2.2.2.2.1,v.1.1,()),v.2.1,v.2.2.1,()))
else(rc ((v.1.2.2.1,e47,v.1.2.2.2.1,()),())).bind fun u50=>
bif decide (v.2.1.length+u50.2.1.length≤4294967296)then
Abs.rowAt v.1.2.2.1 e47 fun e51 _=>
bif !e51.2.2.2.2.2.2.2.1 then some (.inr ((v.1.2.1,()),v.2.1++u50.2.1,()))
else some (.inl ((v.1.2.1,v.1.2.2.1,v.1.2.2.2.1,v.1.2.2.2.2.1,v.1.1,()),v.2.1++u50.2.1,v.2.2.1,()))
else none
else none):Option (((Int×List Y9×iU×Int×Int×Unit)×aa1)⊕(nZ×Cg))).bind fun r54=>
au r54 (fun v52=>(some (.inl ((aS (v52.1.2.2.2.2.1+1),v52.1.1,v52.1.2.1,v52.1.2.2.1,v52.1.2.2.2.1,()),v52.2.1,v52.2.2.1,())))) (fun d53=>(some (.inr ((d53.1.1,()),d53.2.1,()))))
else(some (.inr ((v.1.2.1,()),v.2.1,())))
def i117:Abs.Sg:=⟨[0,1,2],(.dat AX (.dat aU oL)),.nil⟩
def afc:Abs.Sg:=⟨[6],Jy,zT⟩
def VS(rc:U2→Option Ld)(v:U2):Option Ld:=
(aaN ((v.1.1,(v.1.2.1,())),())).bind fun u46=>
(aA (oG rc) ((0,(v.1.2.1,(v.1.1,(v.1.2.2.1,(((u46.2.1.length:Nat):Int),()))))),([],(u46.2.1,())))).bind fun d55=>
bif ((((d55.2.1.length:Nat):Int):Int)==0)then(some ((),([d55.1.1],())))
else(some ((),(d55.2.1,())))
def Ip(n:Nat):U2→Option Ld:=Nat.rec (motive:=fun _=>U2→Option Ld) (fun _=>none) (fun _ rc=>VS rc) n
def agL:U2→Option Ld:=Ip 400
def UO(n:Nat):Abs.Spec:=⟨0,i117,afc,Ip n⟩
def ahB:Abs.Spec:=⟨0,i117,afc,agL⟩
def agH:Nat→Abs.ig
 |0=>.mk bM (bQ [(8,(⟨[1,0,2,7,12,13,14],(.dat aU (.dat AX (.dat sU (.st Jq (.st (.own aU (1,0)) qd))))),Yw⟩,some Ro7))]) (bQ [(3,⟨⟨[14,1,0,2,7,12,13],(.dat aU (.dat aU (.dat AX (.dat sU (.st Jq (.st (.own aU (1,0)) dK)))))),Yw⟩,Ro7⟩)]) jb
 |_=>{}
theorem WI:∀n,Abs.gI Tryz.prog 117 (UO n)
 |0=>fun _ _ _ _ _ _ h=>by cases h
 |n+1=>Abs.wL (C:=Xu) (mv:=RN) Jz (n:=12) (an:=agH) (T:=Abs.vg [(117,UO n),(168,ab7),(169,acu)]) good BK (Abs.lK _ (by simp only[List.forall_mem_cons];exact⟨WI n,afX,XQ,fun _ h=>by cases h⟩)) rfl (by intro v;kernel_rfl)
theorem ag5:Abs.gI Tryz.prog 117 ahB:=WI 400
def m68(v:((List Y9×iU×Unit)×Unit)):Option Ld:=
(((m78 ((v.1.1,()),())).bind fun b=>
bif b.1.1 !=0 then some ((true,v.1.2.1,v.1.1,()),())
else(m66 (v.1.2,())).bind fun c=>
some ((!c.1.1,v.1.2.1,v.1.1,()),())):Option abT).bind fun a=>
bif a.1.1 then some ((),[],())
else((agL ((a.1.2.2.1,0,a.1.2.1,()),())).bind fun d=>
some ((),d.2.1,()))
def akn:Abs.Spec:=⟨0,⟨[0,1],(.dat AX oL),.nil⟩,⟨[4],Jy,zT⟩,m68⟩
def ajN:Nat→Abs.ig
 |0=>.mk (bQ [(1,⟨[12,1,0],(.dat .bool (.dat sU Nz)),.nil⟩)]) bM bM jb
 |_=>{}
theorem aj1:eP 68 akn:=okW ajN (bL adh (bL Tv (bL ag5 fE)))
def m72(v:SN):Option (Unit×(CX×Unit)):=
some ((),((v.1.1,v.1.2.1,-1,-1,()),()),())
def aiQ:Abs.Spec:=⟨0,⟨[0,1],Hu,.nil⟩,⟨[4],NZ,(.box 5 Le .nil)⟩,m72⟩
theorem aj3:eP 72 aiQ:=okW Aq fE
def m73(v:((qX×Y9×iU×Bool×Int×Unit)×Unit)):Option NH:=
(((m82 ((v.1.1,()),())).bind fun y=>
bif !y.1.1 then some ((true,v.1.2.2.2.2.1,v.1.2.2.2.1,v.1.2.2.1,()),((0,ByteArray.empty,0,0,()),()),(v.1.1,()),(v.1.2.1,()),())
else(Ul ((v.1.2.1,()),())).bind fun z=>
bif !z.1.1 then some ((true,v.1.2.2.2.2.1,v.1.2.2.2.1,v.1.2.2.1,()),((0,ByteArray.empty,0,0,()),()),(v.1.1,()),(v.1.2.1,()),())
else(m66 ((v.1.2.2.1,()),())).bind fun aa=>
some ((!aa.1.1,v.1.2.2.2.2.1,v.1.2.2.2.1,v.1.2.2.1,()),((0,ByteArray.empty,0,0,()),()),(v.1.1,()),(v.1.2.1,()),())):Option ((Bool×Int×Bool×iU×Unit)×(CX×MV×(Y9×Unit)×Unit))).bind fun c=>
bif c.1.1 then some ((8,()),((0,ByteArray.empty,0,0,()),()),[],())
else((Ez ((c.1.2.1,0,8589934592,()),())).bind fun ab=>
bif !ab.1.1 then some ((1,()),((0,ByteArray.empty,0,0,()),()),[],())
else(Uh (c.1.2.2.2,())).bind fun s=>
(Mf ((c.2.2.1.1,s.1),())).bind fun b=>
(OL (c.2.2.1,())).bind fun e=>
((bif b.1.2.1 then bif decide (0≤b.1.1∧b.1.1<e.2.2.1.length)then
(e.2.2.1[b.1.1.toNat]?).bind fun a=>
((bif decide (0≤b.1.1∧b.1.1<(e.2.2.1.set b.1.1.toNat (a.1,a.2.1,a.2.2.1,c.1.2.1,a.2.2.2.2)).length)then
((e.2.2.1.set b.1.1.toNat (a.1,a.2.1,a.2.2.1,c.1.2.1,a.2.2.2.2))[b.1.1.toNat]?).bind fun ac=>
bif ac.2.2.2.2.1==c.1.2.2.1 then bif decide ((e.2.2.1.set b.1.1.toNat (a.1,a.2.1,a.2.2.1,c.1.2.1,a.2.2.2.2)).length=(e.2.2.1.set b.1.1.toNat (a.1,a.2.1,a.2.2.1,c.1.2.1,a.2.2.2.2)).length)&&true then
some ((),c.2.1,e.2.1,e.2.2.1.set b.1.1.toNat (a.1,a.2.1,a.2.2.1,c.1.2.1,a.2.2.2.2),())
else none
else bif c.1.2.2.1 then((e.2.2.1.set b.1.1.toNat (a.1,a.2.1,a.2.2.1,c.1.2.1,a.2.2.2.2))[b.1.1.toNat]?).bind fun g=>
(((e.2.2.1.set b.1.1.toNat (a.1,a.2.1,a.2.2.1,c.1.2.1,a.2.2.2.2)).set b.1.1.toNat (g.1,g.2.1,g.2.2.1,g.2.2.2.1,true,g.2.2.2.2.2))[b.1.1.toNat]?).bind fun j=>
((((e.2.2.1.set b.1.1.toNat (a.1,a.2.1,a.2.2.1,c.1.2.1,a.2.2.2.2)).set b.1.1.toNat (g.1,g.2.1,g.2.2.1,g.2.2.2.1,true,g.2.2.2.2.2)).set b.1.1.toNat (j.1,j.2.1,j.2.2.1,j.2.2.2.1,j.2.2.2.2.1,true,()))[b.1.1.toNat]?).bind fun p=>
bif decide (((((e.2.2.1.set b.1.1.toNat (a.1,a.2.1,a.2.2.1,c.1.2.1,a.2.2.2.2)).set b.1.1.toNat (g.1,g.2.1,g.2.2.1,g.2.2.2.1,true,g.2.2.2.2.2)).set b.1.1.toNat (j.1,j.2.1,j.2.2.1,j.2.2.2.1,j.2.2.2.2.1,true,())).set b.1.1.toNat (p.1,p.2.1,c.1.2.1,p.2.2.2)).length=(e.2.2.1.set b.1.1.toNat (a.1,a.2.1,a.2.2.1,c.1.2.1,a.2.2.2.2)).length)&&true then
some ((),c.2.1,e.2.1,(((e.2.2.1.set b.1.1.toNat (a.1,a.2.1,a.2.2.1,c.1.2.1,a.2.2.2.2)).set b.1.1.toNat (g.1,g.2.1,g.2.2.1,g.2.2.2.1,true,g.2.2.2.2.2)).set b.1.1.toNat (j.1,j.2.1,j.2.2.1,j.2.2.2.1,j.2.2.2.2.1,true,())).set b.1.1.toNat (p.1,p.2.1,c.1.2.1,p.2.2.2),())
else none
else((e.2.2.1.set b.1.1.toNat (a.1,a.2.1,a.2.2.1,c.1.2.1,a.2.2.2.2))[b.1.1.toNat]?).bind fun ad=>
bif !ad.2.2.2.2.2.1 then bif decide (0≤b.1.1∧b.1.1<(aS (b.1.1+1))∧((aS (b.1.1+1)):Int)≤(e.2.2.1.set b.1.1.toNat (a.1,a.2.1,a.2.2.1,c.1.2.1,a.2.2.2.2)).length∧(e.2.2.1.set b.1.1.toNat (a.1,a.2.1,a.2.2.1,c.1.2.1,a.2.2.2.2)).length≤4294967296)then
bif decide ((e.2.2.1.set b.1.1.toNat (a.1,a.2.1,a.2.2.1,c.1.2.1,a.2.2.2.2)).length=(e.2.2.1.set b.1.1.toNat (a.1,a.2.1,a.2.2.1,c.1.2.1,a.2.2.2.2)).length)&&true then
bif decide ((e.2.2.1.set b.1.1.toNat (a.1,a.2.1,a.2.2.1,c.1.2.1,a.2.2.2.2)).length=(e.2.2.1.set b.1.1.toNat (a.1,a.2.1,a.2.2.1,c.1.2.1,a.2.2.2.2)).length)&&true then
some ((),c.2.1,e.2.1,(e.2.2.1.set b.1.1.toNat (a.1,a.2.1,a.2.2.1,c.1.2.1,a.2.2.2.2)).take b.1.1.toNat++(e.2.2.1.set b.1.1.toNat (a.1,a.2.1,a.2.2.1,c.1.2.1,a.2.2.2.2)).drop (aS (b.1.1+1)).toNat,())
else none
else none
else none
else((e.2.2.1.set b.1.1.toNat (a.1,a.2.1,a.2.2.1,c.1.2.1,a.2.2.2.2))[b.1.1.toNat]?).bind fun f=>
(((e.2.2.1.set b.1.1.toNat (a.1,a.2.1,a.2.2.1,c.1.2.1,a.2.2.2.2)).set b.1.1.toNat (f.1,f.2.1,f.2.2.1,f.2.2.2.1,false,f.2.2.2.2.2))[b.1.1.toNat]?).bind fun h=>
((((e.2.2.1.set b.1.1.toNat (a.1,a.2.1,a.2.2.1,c.1.2.1,a.2.2.2.2)).set b.1.1.toNat (f.1,f.2.1,f.2.2.1,f.2.2.2.1,false,f.2.2.2.2.2)).set b.1.1.toNat (h.1,h.2.1,h.2.2.1,h.2.2.2.1,h.2.2.2.2.1,false,()))[b.1.1.toNat]?).bind fun l=>
((bif e.2.1.1.2.2.2.1 !=(-1)then let u:=(aS (e.2.1.1.2.2.2.1+c.2.2.2.1.1.2.2.2.2.2.1))
let ae:=(if u>c.1.2.1 then u else c.1.2.1)
some ((ae,()),e.2.1,(((e.2.2.1.set b.1.1.toNat (a.1,a.2.1,a.2.2.1,c.1.2.1,a.2.2.2.2)).set b.1.1.toNat (f.1,f.2.1,f.2.2.1,f.2.2.2.1,false,f.2.2.2.2.2)).set b.1.1.toNat (h.1,h.2.1,h.2.2.1,h.2.2.2.1,h.2.2.2.2.1,false,())).set b.1.1.toNat (l.1,l.2.1,c.1.2.1,l.2.2.2),())
else some ((aS (c.1.2.1+c.2.2.2.1.1.2.2.2.2.1),()),e.2.1,(((e.2.2.1.set b.1.1.toNat (a.1,a.2.1,a.2.2.1,c.1.2.1,a.2.2.2.2)).set b.1.1.toNat (f.1,f.2.1,f.2.2.1,f.2.2.2.1,false,f.2.2.2.2.2)).set b.1.1.toNat (h.1,h.2.1,h.2.2.1,h.2.2.2.1,h.2.2.2.2.1,false,())).set b.1.1.toNat (l.1,l.2.1,c.1.2.1,l.2.2.2),())):Option NH).bind fun m=>
((bif m.2.1.1.2.2.1 !=(-1)then let af:=(if m.2.1.1.2.2.1<m.1.1 then m.2.1.1.2.2.1 else m.1.1)
some ((af,()),m.2)
else some m):Option NH).bind fun n=>
(Mg (n.1,())).bind fun ag=>
bif decide (n.2.2.1.length=((((e.2.2.1.set b.1.1.toNat (a.1,a.2.1,a.2.2.1,c.1.2.1,a.2.2.2.2)).set b.1.1.toNat (f.1,f.2.1,f.2.2.1,f.2.2.2.1,false,f.2.2.2.2.2)).set b.1.1.toNat (h.1,h.2.1,h.2.2.1,h.2.2.2.1,h.2.2.2.2.1,false,())).set b.1.1.toNat (l.1,l.2.1,c.1.2.1,l.2.2.2)).length)&&true then
bif decide (n.2.2.1.length=(e.2.2.1.set b.1.1.toNat (a.1,a.2.1,a.2.2.1,c.1.2.1,a.2.2.2.2)).length)&&true then
some ((),c.2.1,((n.2.1.1.1,n.2.1.1.2.1,ag.1.1,n.2.1.1.2.2.2),()),n.2.2)
else none
else none
else none):Option R4).bind fun ah=>
some (.inl ((),ah.2))
else none
else((bif c.1.2.2.1 then let ai:=(((e.2.2.1.length:Nat):Int)==256)
some ((ai,c.1.2.1,b.1.1,c.1.2.2.2.1,s.1.1,c.1.2.2.1,()),c.2.1,e.2.1,c.2.2.2.1,e.2.2)
else some ((false,c.1.2.1,b.1.1,c.1.2.2.2.1,s.1.1,c.1.2.2.1,()),c.2.1,e.2.1,c.2.2.2.1,e.2.2)):Option ((Bool×Int×Int×iU×ByteArray×Bool×Unit)×(CX×CX×(Y9×Unit)×Y5×Unit))).bind fun d=>
bif d.1.1 then some (.inr ((5,()),((0,ByteArray.empty,0,0,()),()),()))
else bif d.1.2.2.2.2.2.1 then(Ve ((d.1.2.2.2.1,()),())).bind fun q=>
bif decide (0≤d.1.2.2.1∧d.1.2.2.1≤d.2.2.2.2.1.length∧d.2.2.2.2.1.length≤4294967295∧([(d.1.2.2.2.2.1,q.2.1,d.1.2.1,d.1.2.1,true,false,())]:List XZ).length=1)then
bif decide (d.2.2.2.2.1.length=d.2.2.2.2.1.length)&&(decide (([(d.1.2.2.2.2.1,q.2.1,d.1.2.1,d.1.2.1,true,false,())]:List XZ).length=([(d.1.2.2.2.2.1,q.2.1,d.1.2.1,d.1.2.1,true,false,())]:List XZ).length)&&true)then
((bif d.2.2.1.1.2.2.2.1 !=(-1)then let w:=(aS (d.2.2.1.1.2.2.2.1+d.2.2.2.1.1.2.2.2.2.2.1))
let aj:=(if w>d.1.2.1 then w else d.1.2.1)
some ((aj,()),d.2.2.1,d.2.2.2.2.1.take d.1.2.2.1.toNat++([(d.1.2.2.2.2.1,q.2.1,d.1.2.1,d.1.2.1,true,false,())]:List XZ)++d.2.2.2.2.1.drop d.1.2.2.1.toNat,())
else some ((aS (d.1.2.1+d.2.2.2.1.1.2.2.2.2.1),()),d.2.2.1,d.2.2.2.2.1.take d.1.2.2.1.toNat++([(d.1.2.2.2.2.1,q.2.1,d.1.2.1,d.1.2.1,true,false,())]:List XZ)++d.2.2.2.2.1.drop d.1.2.2.1.toNat,())):Option NH).bind fun o=>
((bif o.2.1.1.2.2.1 !=(-1)then let ak:=(if o.2.1.1.2.2.1<o.1.1 then o.2.1.1.2.2.1 else o.1.1)
some ((ak,()),o.2)
else some o):Option NH).bind fun r=>
(Mg (r.1,())).bind fun al=>
bif decide (r.2.2.1.length=(d.2.2.2.2.1.take d.1.2.2.1.toNat++([(d.1.2.2.2.2.1,q.2.1,d.1.2.1,d.1.2.1,true,false,())]:List XZ)++d.2.2.2.2.1.drop d.1.2.2.1.toNat).length)&&true then
some (.inl ((),d.2.1,((r.2.1.1.1,r.2.1.1.2.1,al.1.1,r.2.1.1.2.2.2),()),r.2.2))
else none
else none
else none
else some (.inl ((),d.2.1,d.2.2.1,d.2.2.2.2))):Option (R4⊕(nZ×(CX×Unit)))).bind fun am=>
au am (fun k=>(((let an:=(((k.2.2.2.1.length:Nat):Int)==0)
bif decide (k.2.2.2.1.length=k.2.2.2.1.length)&&true then
bif an then some ((),k.2.2.2.1,((0,ByteArray.empty,0,0,()),()),((k.2.2.1.1.1,k.2.2.1.1.2.1,-1,k.2.2.1.1.2.2.2),()),())
else some ((),k.2.2.2.1,((0,ByteArray.empty,0,0,()),()),k.2.2.1,())
else none):Option (Unit×(Y5×CX×CX×Unit))).bind fun t=>
bif decide (t.2.1.length=k.2.2.2.1.length)&&true then
some ((0,()),t.2.2.2.1,t.2.1,())
else none)) (fun x=>(some (x.1,x.2.1,[],()))))
def ajC:Abs.Spec:=⟨0,⟨[0,1,2,3,4],(.dat Z1 (.dat Z2 (.dat sU Zm))),.nil⟩,⟨[10,11],TL,JZ⟩,m73⟩
def ajf:Nat→Abs.ig
 |0=>.mk (bQ [(11,⟨[59,10,5,4,6,13,2,12,3],(.dat .bool (.st rP (.st LY (.dat aU (.st ab6 (.dat aU (.dat sU (.dat .str jo)))))))),(.box 5 Le (.box 5 (.agg (.dat aU (.dat .str (.st (.own Z7 (3,0)) qd))) .nil) (.box 8 yI U1)))⟩),(10,⟨[10,5],YC,aa3⟩),(1,⟨[16,10,5,4,3,6,2],(.dat .bool (.st rP (.st LY (.dat aU (.dat .bool (.st ab6 oL)))))),(.box 5 Le (.box 5 UZ Nh))⟩)]) (bQ [(17,(⟨[10,5],YC,aa3⟩,some (.one .ret ⟨[10,11],TL,(.box 5 Le .nil)⟩)))]) bM (fun
  |17,1=>4
  |16,2=>3
  |10,4=>1
  |_,_=>0)
 |1=>.mk bM bM bM (fun
  |3,3=>2
  |_,_=>0)
 |2=>.mk bM (bQ [(6,(⟨[6,0],(.dat aU NZ),JZ⟩,none)),(4,(⟨[0,6],TL,JZ⟩,none))]) bM jb
 |3=>.mk bM (bQ [(6,(⟨[6,0],(.dat aU NZ),JZ⟩,none)),(4,(⟨[0,6],TL,JZ⟩,none))]) bM jb
 |4=>.mk bM (bQ [(3,(⟨[2,1],UD,(.arr Z7 false (.box 5 Le (.box 5 aam .nil)))⟩,none))]) bM (fun
  |1,1=>5
  |_,_=>0)
 |_=>{}
theorem akf:eP 73 ajC:=okW ajf (bL ZR (bL Xl (bL Tv (bL ME (bL VB (bL abC (bL Rz (bL VH (bL ace fE)))))))))
def rM(v:abz):Option (abz⊕((ByteArray×Int×Int×Unit)×ae9)):=
bif decide (v.1.2.2.1<v.1.2.1)then let a:=(IntKind.wrap .u64 (aS (v.1.2.2.1+v.1.2.1)))
bif decide ((0:Int)≤1)then
bif decide ((0:Int)≤(aS (AZ .u64 (a) (1)))∧((aS (AZ .u64 (a) (1))):Int)<v.2.1.length)then
(v.2.1[(aS (AZ .u64 (a) (1))).toNat]?).bind fun b=>
(m84 ((b,v.2.2.1.1,v.1.1,()),())).bind fun c=>
bif decide (c.1.1<0)then some (.inl ((v.1.1,v.1.2.1,aS ((aS (AZ .u64 (a) (1)))+1),v.1.2.2.2),v.2))
else some (.inl ((v.1.1,aS (AZ .u64 (a) (1)),v.1.2.2),v.2))
else none
else none
else(some (.inr ((v.1.1,v.1.2.2),v.2)))
def wD(v:(Dr×WE)):Option ((Dr×WE)⊕((nZ×(Bl×Unit))⊕(Unit×(Bl×Bl×PX×List qX×Bj×Unit)))):=
bif decide (v.1.1<v.1.2.1)then((bif decide (0≤v.1.1∧v.1.1<v.2.2.2.2.2.1.length)then
(v.2.2.2.2.2.1[v.1.1.toNat]?).bind fun g=>
Abs.rowAt v.2.2.2.2.1.1.1 g fun k _=>
(m69 ((k,v.2.2.2.1.1.2.1,()),())).bind fun h=>
(aA rM ((h.1.1,((v.2.2.2.2.2.2.1.length:Nat):Int),0,((v.2.2.2.2.2.2.1.length:Nat):Int),()),v.2.2.2.2.2.2.1,(g,()),())).bind fun c=>
((bif decide (c.1.2.1<c.1.2.2.1)then bif decide (0≤c.1.2.1∧c.1.2.1<c.2.1.length)then
(c.2.1[c.1.2.1.toNat]?).bind fun l=>
(m84 ((l,c.2.2.1.1,c.1.1,()),())).bind fun m=>
some ((c.1.2.1,m.1.1==0,()),c.2)
else none
else some ((c.1.2.1,false,()),c.2)):Option ((Int×Bool×Unit)×ae9)).bind fun e=>
bif decide (e.2.1.length=v.2.2.2.2.2.2.1.length)&&true then
bif decide (e.2.1.length=v.2.2.2.2.2.2.1.length)&&true then
((bif !e.1.2.1 then some ((!v.2.2.2.1.1.2.2.1,v.1.2.1,v.1.1,e.1.1,g,h.1.1,e.1.2),v.2.1,v.2.2.1,v.2.2.2.1,v.2.2.2.2.1,v.2.2.2.2.2.1,e.2.1,v.2.2.2.2.2.2.2)
else some ((false,v.1.2.1,v.1.1,e.1.1,g,h.1.1,e.1.2),v.2.1,v.2.2.1,v.2.2.2.1,v.2.2.2.2.1,v.2.2.2.2.2.1,e.2.1,v.2.2.2.2.2.2.2)):Option ((Bool×Int×Int×Int×Int×ByteArray×Bool×Unit)×WE)).bind fun a=>
bif a.1.1 then some (.inl ((a.1.2.1,a.1.2.2.1,()),a.2))
else((bif !a.1.2.2.2.2.2.2.1 then(m72 ((a.1.2.2.2.2.1,a.1.2.2.2.2.2.1,()),())).bind fun d=>
bif decide (0≤a.1.2.2.2.1∧a.1.2.2.2.1≤a.2.2.2.2.2.2.1.length∧a.2.2.2.2.2.2.1.length≤4294967295∧([(d.2.1.1.1,d.2.1.1.2.1,[],d.2.1.1.2.2)]:List qX).length=1)then
bif decide (a.2.2.2.2.2.2.1.length=a.2.2.2.2.2.2.1.length)&&(decide (([(d.2.1.1.1,d.2.1.1.2.1,[],d.2.1.1.2.2)]:List qX).length=([(d.2.1.1.1,d.2.1.1.2.1,[],d.2.1.1.2.2)]:List qX).length)&&true)then
some ((a.1.2.1,a.1.2.2.1,a.1.2.2.2.1,a.1.2.2.2.2.1,()),a.2.1,a.2.2.1,a.2.2.2.1,a.2.2.2.2.1,a.2.2.2.2.2.1,a.2.2.2.2.2.2.1.take a.1.2.2.2.1.toNat++([(d.2.1.1.1,d.2.1.1.2.1,[],d.2.1.1.2.2)]:List qX)++a.2.2.2.2.2.2.1.drop a.1.2.2.2.1.toNat,a.2.2.2.2.2.2.2)
else none
else none
else some ((a.1.2.1,a.1.2.2.1,a.1.2.2.2.1,a.1.2.2.2.2.1,()),a.2)):Option ((Int×Int×Int×Int×Unit)×WE)).bind fun b=>
bif decide (0≤b.1.2.2.1∧b.1.2.2.1<b.2.2.2.2.2.2.1.length)then
(b.2.2.2.2.2.2.1[b.1.2.2.1.toNat]?).bind fun n=>
Abs.rowAt b.2.2.2.2.1.1.1 b.1.2.2.2.1 fun o _=>
(m73 ((n,o,b.2.2.2.1.1.2.1,b.2.2.2.1.1.2.2.1,b.2.2.2.1.1.1,()),())).bind fun f=>
bif f.1.1 !=0 then some (.inr ((5,()),((0,0,()),()),()))
else bif decide (0≤b.1.2.2.1∧b.1.2.2.1<b.2.2.2.2.2.2.1.length)then
bif decide (b.1.2.2.1.toNat<b.2.2.2.2.2.2.1.length)then
some (.inl ((b.1.1,b.1.2.1,()),b.2.1,b.2.2.1,b.2.2.2.1,b.2.2.2.2.1,b.2.2.2.2.2.1,b.2.2.2.2.2.2.1.set b.1.2.2.1.toNat (f.2.1.1.1,f.2.1.1.2.1,f.2.2.1,f.2.1.1.2.2),b.2.2.2.2.2.2.2))
else none
else none
else none
else none
else none
else none):Option ((Dr×WE)⊕(nZ×(Bl×Unit)))).bind fun p=>
au p (fun j=>(some (.inl ((aS (j.1.2.1+1),j.1.1,()),j.2)))) (fun q=>(some (.inr (.inl q))))
else(some (.inr (.inr ((),v.2.1,v.2.2.1,v.2.2.2.2.1,v.2.2.2.2.2.2))))
def RH(v:(Dr×OP)):Option abN:=
bif decide (v.1.1<v.1.2.1)then bif decide (0≤v.1.1∧v.1.1<v.2.1.length)then
(v.2.1[v.1.1.toNat]?).bind fun a=>
(Zr ((v.2.2.1.1,a,v.2.2.2.1.1.1,()),())).bind fun b=>
bif decide (v.2.1.length=v.2.1.length)&&(decide (v.2.2.2.2.1.length=v.2.2.2.2.1.length)&&true)then
bif b.1.1 then some (.inr (.inl ((v.1.1,()),v.2)))
else some (.inl ((aS (v.1.1+1),v.1.2),v.2))
else none
else none
else(some (.inr (.inr ((),v.2))))
def QJ(v:(Dr×OP)):Option ((Dr×OP)⊕(nZ×OP)):=
let c:=(decide (v.1.1<((v.2.1.length:Nat):Int)))
bif c then((bif decide (0≤v.1.1∧v.1.1<v.2.1.length)then
(v.2.1[v.1.1.toNat]?).bind fun b=>
(Zr ((v.2.2.1.1,b,v.2.2.2.1.1.1,()),())).bind fun d=>
bif decide (v.2.1.length=v.2.1.length)&&(decide (v.2.2.2.2.1.length=v.2.2.2.2.1.length)&&true)then
bif !d.1.1 then bif decide (0≤v.1.2.1∧v.1.2.1<v.2.1.length)then
bif decide (v.1.2.1.toNat<v.2.1.length)then
some ((aS (v.1.2.1+1),v.1.1,()),v.2.1.set v.1.2.1.toNat b,v.2.2)
else none
else none
else some ((v.1.2.1,v.1.1,()),v.2)
else none
else none):Option (Dr×OP)).bind fun a=>
some (.inl ((aS (a.1.2.1+1),a.1.1,()),a.2))
else(some (.inr (v.1.2,v.2)))
def m27(v:((XY×Y27×Si×Unit)×Unit)):Option (nZ×(acQ×List qX×Bj×Unit)):=
(((m36 ((v.1.1,v.1.2.1,()),())).bind fun n=>
bif !n.1.1 then some ((true,()),((0,0,()),()),(v.1.2.1,()),v.1.2.2,(v.1.1,()),())
else(m66 ((v.1.2.2.1.2.1,()),())).bind fun o=>
some ((!o.1.1,()),((0,0,()),()),(v.1.2.1,()),v.1.2.2,(v.1.1,()),())):Option (rJ×(Bl×WB×(Si×Unit)×PX×Unit))).bind fun d=>
bif d.1.1 then some ((8,()),((0,(0,0),0,()),()),[],[],())
else((m67 ((d.2.2.1.1,d.2.2.2.1.1.1,()),())).bind fun k=>
bif k.1.1 !=0 then some (k.1,((0,(0,0),0,()),()),[],[],())
else(m64 (d.2.2.1,())).bind fun l=>
(m68 ((d.2.2.2.2.1.1.1,d.2.2.2.1.1.2.1,()),())).bind fun m=>
(aA wD ((0,((m.2.1.length:Nat):Int),()),d.2.1,((d.2.2.2.1.1.1,l.2.1.1.2),()),d.2.2.2.1,d.2.2.2.2.1,m.2.1,l.2.2)).bind fun p=>
au p (fun f=>(some (f.1,((f.2.1.1.1,(0,0),f.2.1.1.2),()),[],[],()))) (fun b=>((((((aA RH ((0,((b.2.2.2.2.1.length:Nat):Int),()),b.2.2.2.2.1,b.2.2.2.1,b.2.2.1,b.2.2.2.2.2)).bind fun q=>
au q (fun g=>(bif decide (g.2.1.length=b.2.2.2.2.1.length)&&(decide (g.2.2.2.2.1.length=b.2.2.2.2.2.1.length)&&true)then
some g
else none)) (fun h=>(bif decide (h.2.1.length=b.2.2.2.2.1.length)&&(decide (h.2.2.2.2.1.length=b.2.2.2.2.2.1.length)&&true)then
some ((-1,()),h.2)
else none))):Option (nZ×OP)).bind fun c=>
bif c.1.1==(-1)then bif decide (c.2.1.length=b.2.2.2.2.1.length)&&(decide (c.2.2.2.2.1.length=b.2.2.2.2.2.1.length)&&true)then
some ((),c.2.1,c.2.2.2.2.1,((0,0,()),()),((c.2.2.2.1.1.1,(0,c.2.1.length),c.2.2.2.1.1.2),()),())
else none
else(aA QJ ((aS (c.1.1+1),c.1),c.2)).bind fun a=>
bif decide ((0:Int)≤a.1.1)then
bif decide (a.1.1.toNat≤a.2.1.length∧a.2.1.length≤a.2.1.length)then
bif decide (a.1.1.toNat+(a.2.1.length-a.1.1.toNat)≤a.2.1.length)then
let j:=(cK a.2.1 a.1.1.toNat (List.replicate (a.2.1.length-a.1.1.toNat) ((0,ByteArray.empty,[],0,0,()):qX)))
bif decide ((0:Int)≤a.1.1)then
bif decide (0≤a.1.1.toNat∧a.1.1.toNat≤j.length)then
bif decide (j.length=b.2.2.2.2.1.length)&&(decide (a.2.2.2.2.1.length=b.2.2.2.2.2.1.length)&&true)then
some ((),j,a.2.2.2.2.1,((0,0,()),()),((a.2.2.2.1.1.1,(0,a.1.1.toNat),a.2.2.2.1.1.2),()),())
else none
else none
else none
else none
else none
else none):Option ab1).bind fun e=>
bif decide (e.2.1.length=b.2.2.2.2.1.length)&&(decide (e.2.2.1.length=b.2.2.2.2.2.1.length)&&true)then
let r:=(decide (((e.2.2.2.2.1.1.2.1.2:Nat):Int)>64))
bif r then some ((5,()),((0,(0,0),0,()),()),[],[],())
else some ((0,()),e.2.2.2.2.1,e.2.1,e.2.2.1,())
else none)))
def ajd:Abs.Spec:=⟨0,⟨[0,1,2],(.dat Z16 (.dat Z20 (.dat U4 .nil))),.nil⟩,⟨[6,7],(.st lU dK),(.box 4 (.agg (.dat aU (.part Z1 (1,0) (.st (.own Z4 (2,0)) dK))) .nil) Wi)⟩,m27⟩
def aj8:Nat→Abs.ig
 |0=>.mk (bQ [(13,⟨[72,6,4,5,3,44,45,46,12,10,11,13],(.dat .bool (.st lU (.st zV (.st sW (.st Tt (.st (.own aU (4,0)) (.dat aU (.dat aU (.dat aU (.dat aU (.dat .str jo))))))))))),ZE⟩),(1,⟨[25,6,4,5,3],(.dat .bool (.st lU (.st zV (.st sW (.st Tt .nil))))),(.box 4 Nj (.box 4 Rs8 (.box 3 (.dat U4 .nil) (.box 3 sV .nil))))⟩)]) (bQ [(20,(⟨[6,4,5,3,44,45,46],(.st lU (.st zV (.st sW (.st Tt (.st (.own aU (4,0)) qd))))),ZE⟩,some (.one .ret ⟨[6,7],(.st lU dK),(.box 4 Nj .nil)⟩))),(16,(⟨[6,4,5,3,44,45,46,12,10],(.st lU (.st zV (.st sW (.st Tt (.st (.own aU (4,0)) ad3))))),ZE⟩,none))]) (bQ [(9,⟨⟨[46,6,4,5,3,44,45],(.dat aU (.st lU (.st zV (.st sW (.st Tt (.st (.own aU (4,0)) dK)))))),ZE⟩,(.more .ret ⟨[6,7],(.st lU dK),(.box 4 Nj .nil)⟩ (.one (.exit 0) ⟨[6,4,3],(.st lU (.st zV (.st sW .nil))),(.box 4 Nj (.box 4 ahE (.box 3 sV Wi)))⟩))⟩)]) (fun
  |21,2=>5
  |12,4=>1
  |_,_=>0)
 |1=>.mk bM bM bM (fun
  |1,3=>2
  |_,_=>0)
 |2=>.mk (bQ [(8,⟨[6,7],NW,(.arr Z1 false adg)⟩)]) bM (bQ [(3,⟨⟨[1,0,2,10,9,8],(.dat .str (.st JD (.st (.clo 121 [((1,0),1,0,0)]) KM))),(.arr Z1 false adg)⟩,(.one (.exit 0) ⟨[1,9,0,2,8],(.dat .str (.dat aU (.st JD (.st (.clo 121 [((1,0),1,0,0)]) dK)))),(.arr Z1 false adg)⟩)⟩)]) (fun
  |8,11=>4
  |5,6=>3
  |_,_=>0)
 |5=>.mk (bQ [(1,⟨[4,3],(.st V4 (.st Vq .nil)),aip⟩)]) bM bM (fun
  |1,3=>6
  |_,_=>0)
 |6=>.mk (bQ [(1,⟨[0,5,1],(.st JD (.dat aU aaq)),X8⟩)]) (bQ [(6,(⟨[5,0,1,6],YT,X8⟩,none))]) (bQ [(5,⟨⟨[6,5,0,1],(.dat aU (.dat aU (.st JD aaq))),X8⟩,ag4⟩)]) (fun
  |8,2=>9
  |1,2=>7
  |_,_=>0)
 |7=>.mk bM bM (bQ [(2,⟨⟨[8,0,1,7],YT,X8⟩,ah8⟩)]) (fun
  |4,5=>8
  |_,_=>0)
 |_=>{}
theorem ain:eP 27 ajd:=okW aj8 (bL Zp (bL Tv (bL aeS (bL adQ (bL aj1 (bL ahS (bL ahV (bL aj3 (bL akf (bL adw fE))))))))))
def nG(v:(nZ×Yq2)):Option ((nZ×Yq2)⊕(nZ×Yq2)):=
bif decide (v.2.1.1.2.2.2.2.1.1+v.2.1.1.2.2.2.2.1.2≤v.2.2.1.length)then
(m30 (((v.2.1.1.2.2.2.1,(v.2.2.1.drop v.2.1.1.2.2.2.2.1.1).take v.2.1.1.2.2.2.2.1.2,v.2.2.2.1,v.2.1.1.2.2.2.2.2.1,()),()),())).bind fun c=>
((bif !c.1.2.1 then some ((true,v.1.1,c.1.1,()),v.2)
else some ((decide (c.1.1≥v.1.1),v.1.1,c.1.1,()),v.2)):Option (UJ×Yq2)).bind fun a=>
bif a.1.1 then some (.inr ((0,()),a.2))
else let d:=(decide (((aS (a.2.1.1.2.2.2.2.2.2.1+1)):Int)>1000))
bif d then some (.inr ((5,()),((a.2.1.1.1,a.2.1.1.2.1,a.2.1.1.2.2.1,a.2.1.1.2.2.2.1,a.2.1.1.2.2.2.2.1,a.2.1.1.2.2.2.2.2.1,aS (a.2.1.1.2.2.2.2.2.2.1+1),()),()),a.2.2))
else let e:=(if a.2.1.1.2.2.2.1>a.1.2.2.1 then a.2.1.1.2.2.2.1 else a.1.2.2.1)
bif decide (a.2.1.1.2.2.2.2.1.1+a.2.1.1.2.2.2.2.1.2≤a.2.2.1.length)then
(m75 (((a.2.1.1.1,a.2.1.1.2.1,a.2.1.1.2.2.1,()),(a.2.1.1.2.2.2.1,(a.2.2.1.drop a.2.1.1.2.2.2.2.1.1).take a.2.1.1.2.2.2.2.1.2,a.2.2.2.1,a.2.1.1.2.2.2.2.2.1,()),e,()),())).bind fun b=>
bif decide (a.2.2.2.2.1.length+b.2.2.1.length≤4294967296)then
some (.inl ((a.1.2.1,()),((a.2.1.1.1,a.2.1.1.2.1,a.2.1.1.2.2.1,b.2.1.1.1,b.2.1.1.2.1,b.2.1.1.2.2.1,aS (a.2.1.1.2.2.2.2.2.2.1+1),()),()),b.2.2.2.1,b.2.2.2.2.1,a.2.2.2.2.1++b.2.2.1,()))
else none
else none
else none
def og(v:aib):Option (aib⊕((nZ×(Bl×List yx×Unit))⊕(nZ×(Bl×((List Y9×G9×Int×Int×(Nat×Nat)×Int×Int×Unit)×Unit)×List qX×Bj×List yx×Unit)))):=
bif decide (v.1.1<v.1.2.2.2.1)then Abs.rowAt v.1.2.1 v.1.1 fun c _=>
(aA nG ((c.1,()),v.2.2.1,v.2.2.2.2)).bind fun a=>
bif decide (v.2.2.2.2.1.length=v.2.2.2.2.1.length)&&(decide (v.2.2.2.2.2.1.length=v.2.2.2.2.2.1.length)&&(decide (v.2.2.2.2.2.2.1.length=v.2.2.2.2.2.2.1.length)&&true))then
bif a.1.1 !=0 then some (.inr (.inl (a.1,((0,0,()),()),[],())))
else bif decide (a.2.1.1.2.2.2.2.1.1+a.2.1.1.2.2.2.2.1.2≤a.2.2.1.length)then
(m27 ((v.2.2.2.1.1,(a.2.1.1.2.2.2.1,(a.2.2.1.drop a.2.1.1.2.2.2.2.1.1).take a.2.1.1.2.2.2.2.1.2,a.2.2.2.1,a.2.1.1.2.2.2.2.2.1,()),c,()),())).bind fun b=>
bif b.1.1 !=0 then some (.inr (.inl (b.1,((0,0,()),()),[],())))
else some (.inl ((aS (v.1.1+1),v.1.2),v.2.1,((a.2.1.1.1,a.2.1.1.2.1,a.2.1.1.2.2.1,b.2.1.1.1,b.2.1.1.2.1,b.2.1.1.2.2.1,a.2.1.1.2.2.2.2.2.2),()),v.2.2.2.1,b.2.2.1,b.2.2.2.1,a.2.2.2.2))
else none
else none
else(some (.inr (.inr ((v.1.2.2.1,()),v.2.1,v.2.2.1,v.2.2.2.2))))
def QE(v:(nZ×Yq2)):Option ((nZ×Yq2)⊕(nZ×Yq2)):=
bif decide (v.2.1.1.2.2.2.2.1.1+v.2.1.1.2.2.2.2.1.2≤v.2.2.1.length)then
(m30 (((v.2.1.1.2.2.2.1,(v.2.2.1.drop v.2.1.1.2.2.2.2.1.1).take v.2.1.1.2.2.2.2.1.2,v.2.2.2.1,v.2.1.1.2.2.2.2.2.1,()),()),())).bind fun c=>
((bif !c.1.2.1 then some ((true,v.1.1,c.1.1,()),v.2)
else some ((decide (c.1.1≥v.1.1),v.1.1,c.1.1,()),v.2)):Option (UJ×Yq2)).bind fun a=>
bif a.1.1 then some (.inr ((0,()),a.2))
else let d:=(decide (((aS (a.2.1.1.2.2.2.2.2.2.1+1)):Int)>1000))
bif d then some (.inr ((5,()),((a.2.1.1.1,a.2.1.1.2.1,a.2.1.1.2.2.1,a.2.1.1.2.2.2.1,a.2.1.1.2.2.2.2.1,a.2.1.1.2.2.2.2.2.1,aS (a.2.1.1.2.2.2.2.2.2.1+1),()),()),a.2.2))
else let e:=(if a.2.1.1.2.2.2.1>a.1.2.2.1 then a.2.1.1.2.2.2.1 else a.1.2.2.1)
bif decide (a.2.1.1.2.2.2.2.1.1+a.2.1.1.2.2.2.2.1.2≤a.2.2.1.length)then
(m75 (((a.2.1.1.1,a.2.1.1.2.1,a.2.1.1.2.2.1,()),(a.2.1.1.2.2.2.1,(a.2.2.1.drop a.2.1.1.2.2.2.2.1.1).take a.2.1.1.2.2.2.2.1.2,a.2.2.2.1,a.2.1.1.2.2.2.2.2.1,()),e,()),())).bind fun b=>
bif decide (a.2.2.2.2.1.length+b.2.2.1.length≤4294967296)then
some (.inl ((a.1.2.1,()),((a.2.1.1.1,a.2.1.1.2.1,a.2.1.1.2.2.1,b.2.1.1.1,b.2.1.1.2.1,b.2.1.1.2.2.1,aS (a.2.1.1.2.2.2.2.2.2.1+1),()),()),b.2.2.2.1,b.2.2.2.2.1,a.2.2.2.2.1++b.2.2.1,()))
else none
else none
else none
def m15(v:((XY×List Si×Int×Unit)×Unit)):Option (nZ×aeu):=
(m34 ((v.1.1,()),())).bind fun e=>
bif e.1.1 !=0 then some (e.1,((0,(0,0),0,()),()),[],[],[],())
else(bif decide ((v.1.2.1.length:Int)>256)then some ((5,()),((0,(0,0),0,()),()),[],[],[],())
else((bif decide (v.1.2.2.1<0)then some ((true,v.1.2.2.1,v.1.2.1,()),((0,0,()),()),(v.1.1,()),())
else some ((decide (v.1.2.2.1>8589934592),v.1.2.2.1,v.1.2.1,()),((0,0,()),()),(v.1.1,()),())):Option ((Bool×Int×List Si×Unit)×(Bl×PX×Unit))).bind fun a=>
bif a.1.1 then some ((1,()),((0,(0,0),0,()),()),[],[],[],())
else(m26 ((),())).bind fun f=>
(aA og ((0,a.1.2.2.1,a.1.2.1,(a.1.2.2.1.length:Int),()),a.2.1,((a.2.2.1.1.1,a.2.2.1.1.2.1,a.2.2.1.1.2.2.1,f.2.1.1.1,(0,0),f.2.1.1.2.1,0,()),()),a.2.2.1,[],[],[],())).bind fun g=>
au g (fun d=>(some (d.1,((d.2.1.1.1,(0,0),d.2.1.1.2),()),d.2.2.1,[],[],()))) (fun b=>((aA QE ((aS (b.1.1+1),()),b.2.2)).bind fun c=>
bif decide (b.2.2.2.1.length=b.2.2.2.1.length)&&(decide (b.2.2.2.2.1.length=b.2.2.2.2.1.length)&&(decide (b.2.2.2.2.2.1.length=b.2.2.2.2.2.1.length)&&true))then
bif c.1.1 !=0 then some (c.1,((0,(0,0),0,()),()),[],[],[],())
else some ((0,()),((c.2.1.1.2.2.2.1,c.2.1.1.2.2.2.2.1,c.2.1.1.2.2.2.2.2.1,()),()),c.2.2.2.2.1,c.2.2.1,c.2.2.2.1,())
else none)))
def aju:Abs.Spec:=⟨0,⟨[0,1,2],(.dat Z16 (.dat (.row U4) dK)),.nil⟩,⟨[6,7,8],(.st lU (.st rO dK)),acR⟩,m15⟩
def akz:Nat→Abs.ig
 |0=>.mk (bQ [(6,⟨[27,6,3,2,1],(.dat .bool (.st lU (.st Xd (.dat aU (.dat (.row U4) .nil))))),(.box 4 Nj (.box 3 sV .nil))⟩)]) bM (bQ [(10,⟨⟨[6,41,10,3,39,2,40],(.st lU (.dat aU (.st (.ptr (1,0) 9 0 0) (.st sW (.dat (.row U4) qd))))),(.box 4 Nj (.box 9 (.agg (.dat AX (.dat Fu (.dat aU (.dat aU (.part Z1 (3,0) (.st (.own Z4 (4,0)) (.dat aU (.st (.own Z8 (5,0)) dK)))))))) .nil) (.box 3 sV aiq)))⟩,(.more .ret ⟨[6,7,8],(.st lU (.st rO dK)),(.box 4 Nj (.arr Z8 false .nil))⟩ (.one (.exit 1) ⟨[6,10,2],(.st lU (.st (.ptr (1,0) 9 0 0) dK)),(.box 4 Nj (.box 9 (.agg (.dat AX (.dat Fu (.dat aU (.dat aU (.part Z1 (2,0) (.st (.own Z4 (3,0)) (.dat aU (.st (.own Z8 (4,0)) dK)))))))) .nil) aiq))⟩))⟩)]) (fun
  |19,3=>3
  |12,3=>2
  |_,_=>0)
 |1=>.mk (bQ [(2,⟨[23,0,1,5],aen,Qb5⟩)]) bM (bQ [(1,⟨⟨[0,1],(.st abn dK),Qb5⟩,adv⟩)]) jb
 |2=>.mk (bQ [(2,⟨[23,0,1,5],aen,Qb5⟩)]) bM (bQ [(1,⟨⟨[0,1],(.st abn dK),Qb5⟩,adv⟩)]) jb
 |3=>.mk (bQ [(2,⟨[23,0,1,5],aen,Qb5⟩)]) bM (bQ [(1,⟨⟨[0,1],(.st abn dK),Qb5⟩,adv⟩)]) jb
 |_=>{}
theorem agE:eP 15 aju:=okW akz (bL adN (bL ahx (bL agJ (bL aif (bL ain fE)))))
def m63(v:((Bj×Xq×Unit)×Unit)):Option (nZ×Jb):=
(TU ((v.1.1,()),())).bind fun a=>
(TU ((([v.1.2.1]:List Xq),()),())).bind fun b=>
bif decide (a.2.1.length+b.2.1.length≤4294967296)then
(m81 ((a.2.1++b.2.1,()),())).bind fun c=>
bif c.1.1 !=0 then some (c.1,[],())
else some ((0,()),a.2.1++b.2.1,())
else none
def aiP:Abs.Spec:=⟨0,⟨[0,1],(.dat GV (.dat Z4 .nil)),.nil⟩,⟨[4,5],(.st Xk dK),BA⟩,m63⟩
theorem aje:eP 63 aiP:=okW Aq (bL abA (bL agf fE))
def afU(v:Wt):Option iB:=
some ((!v.1.1.2.2.2.2.2.1,()),())
def ahn:Abs.Spec:=⟨0,⟨[0],(.dat Z7 .nil),.nil⟩,⟨[2],jo,.nil⟩,afU⟩
theorem ahC:eP 114 ahn:=okW Aq fE
def aaB(v:YF):Option (YF⊕(kH⊕Ai)):=
bif decide (v.1.1<v.1.2.2.1)then Abs.rowAt v.1.2.1 v.1.1 fun a _=>
(afU ((a,()),())).bind fun b=>
bif b.1.1 then some (.inr (.inl ((v.1.1,()),())))
else some (.inl ((aS (v.1.1+1),v.1.2),()))
else(some (.inr (.inr ((),()))))
def aa0(v:(Ku×Qd)):Option ((Ku×Qd)⊕(Unit×Qd)):=
bif decide (v.1.1<v.1.2.2.1)then((bif decide (0≤v.1.1∧v.1.1<v.2.2.1.length)then
(v.2.2.1[v.1.1.toNat]?).bind fun b=>
(((((aA aaB ((0,b.2.2.1,(b.2.2.1.length:Int),()),())).bind fun e=>
au e (fun f=>(some ((decide (f.1.1≥0),()),()))) (fun h=>(some ((false,()),())))):Option iB).bind fun g=>
bif g.1.1 then bif b.2.2.2.1==(-1)then some ((true,v.1.2.1,v.1.2.2.1,v.1.1,v.1.1,()),v.2)
else some ((decide (b.2.2.2.1>v.1.2.1),v.1.2.1,v.1.2.2.1,v.1.1,v.1.1,()),v.2)
else some ((false,v.1.2.1,v.1.2.2.1,v.1.1,v.1.1,()),v.2)):Option ((Bool×Int×Int×Int×Int×Unit)×Qd)).bind fun a=>
bif a.1.1 then bif decide (0≤a.1.2.2.2.2.1∧a.1.2.2.2.2.1<a.2.2.1.length)then
(a.2.2.1[a.1.2.2.2.2.1.toNat]?).bind fun c=>
some ((a.1.2.1,a.1.2.2.1,a.1.2.2.2.1,()),a.2.1,a.2.2.1.set a.1.2.2.2.2.1.toNat (c.1,c.2.1,c.2.2.1,a.1.2.1,c.2.2.2.2),a.2.2.2)
else none
else some ((a.1.2.1,a.1.2.2.1,a.1.2.2.2.1,()),a.2)
else none):Option (Ku×Qd)).bind fun d=>
some (.inl ((aS (d.1.2.2.1+1),d.1.1,d.1.2.1,()),d.2))
else(some (.inr ((),v.2)))
def m25(v:((XY×Y27×Xq×Unit)×Unit)):Option (Dr×Qd):=
(m36 ((v.1.1,v.1.2.1,()),())).bind fun d=>
bif !d.1.1 then some ((0,8,()),((0,0,()),()),[],[],())
else(bif decide (v.1.2.1.2.2.2.1≥8589934592)then some ((0,5,()),((0,0,()),()),[],[],())
else(m63 ((v.1.2.1.2.2.1,(v.1.2.1.2.2.2.1,v.1.2.2.1.2),()),())).bind fun b=>
bif b.1.1 !=0 then some ((0,b.1),((0,0,()),()),[],[],())
else(m64 ((v.1.2.1,()),())).bind fun a=>
(aA aa0 ((0,v.1.2.2.1.2.2.1,((a.2.2.1.length:Nat):Int),()),((a.2.1.1.1,aS (a.2.1.1.2.1+1),()),()),a.2.2.1,b.2)).bind fun c=>
bif decide (c.2.2.1.length=a.2.2.1.length)&&(decide (c.2.2.2.1.length=b.2.1.length)&&true)then
some ((v.1.2.1.2.2.2.1,0,()),c.2)
else none)
def aiR:Abs.Spec:=⟨0,⟨[0,1,2],(.dat Z16 (.dat Z20 (.dat Z4 .nil))),.nil⟩,⟨[6,7,8],(.st lU qd),Tk⟩,m25⟩
def ajQ:Nat→Abs.ig
 |0=>.mk bM bM bM (fun
  |12,2=>1
  |_,_=>0)
 |1=>.mk (bQ [(3,⟨[29,1,0,9,10,11,4],(.dat .bool (.dat aU (.st lU (.st Xz KM)))),Tk⟩)]) (bQ [(5,(⟨[1,0,9,10,11],(.dat aU (.st lU (.st Xz qd))),Tk⟩,none))]) (bQ [(1,⟨⟨[11,1,0,9,10],(.dat aU (.dat aU (.st lU (.st Xz dK)))),Tk⟩,(.one (.exit 0) ⟨[],.nil,Tk⟩)⟩)]) (fun
  |3,2=>2
  |_,_=>0)
 |2=>.mk (bQ [(1,⟨[4],jo,.nil⟩)]) bM bM (fun
  |1,2=>3
  |_,_=>0)
 |3=>.mk bM bM (bQ [(2,⟨⟨[8,0,1,7],(.dat aU (.dat DJ (.st (.clo 114 []) dK))),.nil⟩,Ro5⟩)]) jb
 |_=>{}
theorem ajt:eP 25 aiR:=okW ajQ (bL Zp (bL aje (bL adQ (bL ahC fE))))
def m28(v:((XY×Y27×Int×Unit)×Unit)):Option (nZ×aeu):=
(m36 ((v.1.1,v.1.2.1,()),())).bind fun b=>
bif !b.1.1 then some ((8,()),((0,(0,0),0,()),()),[],[],[],())
else((m67 (v.1.2,())).bind fun a=>
bif a.1.1 !=0 then some (a.1,((0,(0,0),0,()),()),[],[],[],())
else(m75 v).bind fun c=>
some ((0,()),c.2))
def akd:Abs.Spec:=⟨0,⟨[0,1,2],(.dat Z16 (.dat Z20 dK)),.nil⟩,⟨[6,7,8],(.st lU (.st rO dK)),acR⟩,m28⟩
theorem ajE:eP 28 akd:=okW Aq (bL Zp (bL aeS (bL aif fE)))
def m10(v:Ai):Option iB:=
(m15 (((([(-1,[],0,[],30,300,3600,false,())]:List Y9),[],0,()),([(100,([(bs [97],bs [120],())]:List Ov),true,())]:List Si),200,()),())).bind fun d=>
(m26 ((),())).bind fun e=>
(m25 (((([(-1,[],0,[],30,300,3600,false,())]:List Y9),[],0,()),(e.2.1.1.1,[],[],e.2.1.1.2),(0,0,1000,0,([(bs [97],0,bs [120],())]:List Nw),()),()),())).bind fun c=>
(m27 (((([(-1,[],0,[],30,300,3600,false,())]:List Y9),[],0,()),(c.2.1.1.1,c.2.2.1,c.2.2.2.1,c.2.1.1.2),(100,([(bs [97],bs [120],())]:List Ov),true,()),()),())).bind fun b=>
bif decide (b.2.1.1.2.1.1+b.2.1.1.2.1.2≤b.2.2.1.length)then
(m28 (((([(-1,[],0,[],30,300,3600,false,())]:List Y9),[],0,()),(b.2.1.1.1,(b.2.2.1.drop b.2.1.1.2.1.1).take b.2.1.1.2.1.2,b.2.2.2.1,b.2.1.1.2.2),130,()),())).bind fun a=>
bif decide (a.2.1.1.2.1.1+a.2.1.1.2.1.2≤a.2.2.2.1.length)then
(m30 (((a.2.1.1.1,(a.2.2.2.1.drop a.2.1.1.2.1.1).take a.2.1.1.2.1.2,a.2.2.2.2.1,a.2.1.1.2.2),()),())).bind fun f=>
((bif d.1.1==0 then bif c.1.2.1==0 then bif b.1.1==0 then bif a.1.1==0 then bif ((d.2.2.1.length:Nat):Int)==1 then bif decide ((0:Int)≤0∧(0:Int)<d.2.2.1.length)then
(d.2.2.1[0]?).bind fun g=>
bif g.1==130 then bif c.1.1==1 then bif ((a.2.2.1.length:Nat):Int)==0 then bif f.1.2.1 then bif f.1.1==430 then bif decide (a.2.1.1.2.1.1+a.2.1.1.2.1.2≤a.2.2.2.1.length)then
bif xB ((a.2.2.2.1.drop a.2.1.1.2.1.1).take a.2.1.1.2.1.2)then
bif decide (a.2.2.2.1.length=a.2.2.2.1.length)&&(decide (a.2.2.2.2.1.length=a.2.2.2.2.1.length)&&true)then
let h:=((((pR ((a.2.2.2.1.drop a.2.1.1.2.1.1).take a.2.1.1.2.1.2)).length:Int):Int)==1)
bif h then(m34 (((([(-1,[],0,[],30,300,3600,false,())]:List Y9),[],0,()),()),())).bind fun j=>
bif j.1.1==0 then bif decide (a.2.1.1.2.1.1+a.2.1.1.2.1.2≤a.2.2.2.1.length)then
(m36 (((([(-1,[],0,[],30,300,3600,false,())]:List Y9),[],0,()),(a.2.1.1.1,(a.2.2.2.1.drop a.2.1.1.2.1.1).take a.2.1.1.2.1.2,a.2.2.2.2.1,a.2.1.1.2.2),()),())).bind fun k=>
some k
else none
else some ((false,()),())
else some ((false,()),())
else none
else none
else none
else some ((false,()),())
else some ((false,()),())
else some ((false,()),())
else some ((false,()),())
else some ((false,()),())
else none
else some ((false,()),())
else some ((false,()),())
else some ((false,()),())
else some ((false,()),())
else some ((false,()),())):Option iB).bind fun l=>
some l
else none
else none
def ajZ:Abs.Spec:=⟨0,⟨[],.nil,.nil⟩,⟨[0],jo,.nil⟩,m10⟩
def aj9:Nat→Abs.ig
 |0=>.mk (bQ [(8,⟨[0],jo,.nil⟩)]) bM bM jb
 |_=>{}
theorem ak1:eP 10 ajZ:=okW aj9 (bL agE (bL ahx (bL ajt (bL ain (bL ajE (bL agJ (bL adN (bL Zp fE))))))))
def m11(v:(Cg×Unit)):Option Tn:=
some ((),((v.1.1,0,()),()),())
def ajA:Abs.Spec:=⟨0,⟨[0],(.dat rIz .nil),.nil⟩,⟨[2],KT,sZ⟩,m11⟩
theorem ajS:eP 11 ajA:=okW Aq fE
def Lf(v:KN):Option KN:=
((let c:=(decide (v.2.1.1.2.1≥(v.2.1.1.1.length:Int)))
bif c then some ((true,v.1),v.2)
else some ((decide (v.1.1<1),v.1),v.2)):Option (NP×Wj)).bind fun a=>
bif a.1.1 then some ((0,()),a.2)
else(Abs.rowAt a.2.1.1.1 a.2.1.1.2.1 fun b _=>
bif decide (a.1.2.1≠(0:Int))then
((let d:=(decide ((((b:Int).tmod a.1.2.1):Int)<0))
bif d then some ((aS (((b:Int).tmod a.1.2.1)+a.1.2.1),()),((a.2.1.1.1,aS (a.2.1.1.2.1+1),()),()),())
else some (((b:Int).tmod a.1.2.1,()),((a.2.1.1.1,aS (a.2.1.1.2.1+1),()),()),())):Option KN).bind fun e=>
some e
else none)
def ajU:Abs.Spec:=⟨1,⟨[0,1],Ut,sZ⟩,⟨[4],dK,sZ⟩,Lf⟩
def ajm:Nat→Abs.ig
 |0=>.mk (bQ [(1,⟨[19,1,0],(.dat .bool (.dat aU KT)),sZ⟩)]) (bQ [(7,(⟨[5],dK,sZ⟩,none))]) bM jb
 |_=>{}
theorem K9:eP 38 ajU:=okW ajm fE
def m32(v:(Cg×Wj)):Option KN:=
(Lf (((v.1.1.length:Int),()),v.2)).bind fun a=>
Abs.rowAt v.1.1 a.1.1 fun b _=>
some ((b,()),a.2)
def akv:Abs.Spec:=⟨1,⟨[0,1],(.st Ky (.dat rIz .nil)),sZ⟩,⟨[4],dK,sZ⟩,m32⟩
theorem ok32:eP 32 akv:=okW Aq (bL K9 fE)
def m40(v:KN):Option (rJ×Wj):=
(Lf v).bind fun a=>
some ((a.1.1==(aS (v.1.1-1)),()),a.2)
def aky:Abs.Spec:=⟨1,⟨[0,1],Ut,sZ⟩,⟨[4],jo,sZ⟩,m40⟩
theorem af0:eP 40 aky:=okW Aq (bL K9 fE)
def zX(v:(RP×VO)):Option ((RP×VO)⊕(Unit×VO)):=
bif decide (v.1.1<4)then((Abs.rowAt ([v.1.2.1.1,v.1.2.1.2.1,v.1.2.1.2.2.1,v.1.2.1.2.2.2.1]:List ByteArray) v.1.1 fun c _=>
(m40 ((3,()),v.2.1,())).bind fun a=>
bif a.1.1 then bif decide (v.2.2.1.length+ [c].length≤4294967296)then
some ((v.1.2.1,v.1.1,()),a.2.1,v.2.2.1++ [c],())
else none
else some ((v.1.2.1,v.1.1,()),a.2.1,v.2.2)):Option ((adt×Int×Unit)×VO)).bind fun b=>
some (.inl ((aS (b.1.2.1+1),b.1.1,()),b.2))
else(some (.inr ((),v.2)))
def m62(v:Tn):Option (Unit×VO):=
(aA zX ((0,(bs [97,112,112],bs [104,111,115,116],bs [115,101,118],bs [116,101,97,109],()),()),v.2.1,[],())).bind fun a=>
some ((),a.2)
def ajn:Abs.Spec:=⟨1,⟨[0],KT,sZ⟩,⟨[2],(.st (.own .str (1,0)) .nil),(.box 2 tq KF)⟩,m62⟩
def akr:Nat→Abs.ig
 |0=>.mk bM (bQ [(7,(⟨[3,0,6,7],(.st (.own .str (1,0)) (.st Ky (.dat abg dK))),(.box 2 tq KF)⟩,none))]) (bQ [(3,⟨⟨[7,3,0,6],(.dat aU (.st (.own .str (1,0)) (.st Ky (.dat abg .nil)))),(.box 2 tq KF)⟩,(.one (.exit 0) ⟨[3],(.st (.own .str (1,0)) .nil),(.box 2 tq KF)⟩)⟩)]) jb
 |_=>{}
theorem afI:eP 62 ajn:=okW akr (bL af0 fE)
def m24(v:Tn):Option (Unit×(Yc×((Int×Int×Int×Int×Int×Bool×Unit)×Unit)×List ByteArray×Unit)):=
(m32 (([0,30,10,60],()),v.2)).bind fun a=>
(m32 (([20,300,40],()),a.2)).bind fun b=>
(Lf ((3,()),b.2)).bind fun c=>
(m62 ((),c.2)).bind fun d=>
(m32 (([0,3600,100],()),d.2.1,())).bind fun e=>
(m40 ((2,()),e.2)).bind fun f=>
some ((),f.2.1,((-1,c.1.1,a.1.1,aS (a.1.1+b.1.1),aS ((aS (a.1.1+b.1.1))+e.1.1),f.1),()),d.2.2)
def ajK:Abs.Spec:=⟨1,⟨[0],KT,sZ⟩,⟨[2],(.st WV .nil),(.box 2 tq (.box 8 (.agg (.dat aU (.st .nil (.dat aU (.st aaY (.dat aU (.dat aU NW)))))) .nil) KF))⟩,m24⟩
theorem aiM:eP 24 ajK:=okW Aq (bL ok32 (bL K9 (bL afI (bL af0 fE))))
def m98(v:Tn):Option (Unit×(Yc×NN×Unit)):=
(Lf ((5,()),v.2)).bind fun a=>
bif decide (0≤a.1.1∧a.1.1< [(bs [97,112,112]),bs [104,111,115,116],bs [115,101,118],bs [116,101,97,109],(bs [122,111,110,101])].length)then
([(bs [97,112,112]),bs [104,111,115,116],bs [115,101,118],bs [116,101,97,109],(bs [122,111,110,101])][a.1.1.toNat]?).bind fun d=>
(Lf ((4,()),a.2)).bind fun c=>
(Lf ((8,()),c.2)).bind fun b=>
bif decide (0≤b.1.1∧b.1.1< [(bs [97]),bs [98],ByteArray.empty,bs [42],bs [99,114,105,116],bs [63],bs [119,101,98,45,42],(bs [97,34,98,92])].length)then
([(bs [97]),bs [98],ByteArray.empty,bs [42],bs [99,114,105,116],bs [63],bs [119,101,98,45,42],(bs [97,34,98,92])][b.1.1.toNat]?).bind fun e=>
some ((),b.2.1,((d,c.1.1,e,()),()),())
else none
else none
def ajB:Abs.Spec:=⟨1,⟨[0],KT,sZ⟩,⟨[2],(.st Xd .nil),(.box 2 tq aiN)⟩,m98⟩
theorem afl:eP 98 ajB:=okW Aq (bL K9 fE)
def Ej(v:(nZ×QB)):Option ((nZ×QB)⊕(Unit×QB)):=
bif decide (v.1.1>0)then(m98 ((),v.2.1,())).bind fun a=>
bif decide (v.2.2.1.length+([a.2.2.1.1]:List Nw).length≤4294967296)then
let b:=(v.2.2.1++([a.2.2.1.1]:List Nw))
some (.inl ((aS (v.1.1-1),()),a.2.1,b,()))
else none
else(some (.inr ((),v.2)))
def m97(v:KN):Option (Unit×QB):=
(Lf ((aS (v.1.1+1),()),v.2)).bind fun a=>
(aA Ej (a.1,a.2.1,[],())).bind fun b=>
some ((),b.2)
def aiY:Abs.Spec:=⟨1,⟨[0,1],Ut,sZ⟩,⟨[4],aez,(.box 2 tq aaM)⟩,m97⟩
def aiJ:Nat→Abs.ig
 |0=>.mk bM bM (bQ [(3,⟨⟨[6,0,5],(.dat aU (.st Ky aez)),(.box 2 tq aaM)⟩,(.one (.exit 0) ⟨[5],aez,(.box 2 tq aaM)⟩)⟩)]) jb
 |_=>{}
theorem agS:eP 97 aiY:=okW aiJ (bL K9 (bL afl fE))
def Eb(v:(nZ×ZH)):Option ((nZ×ZH)⊕(Unit×ZH)):=
bif decide (v.1.1>0)then(m24 ((),v.2.1,())).bind fun a=>
(Lf ((((v.2.2.1.length:Nat):Int),()),a.2.1,())).bind fun b=>
(m97 ((2,()),b.2)).bind fun c=>
bif decide (v.2.2.1.length+([(b.1.1,c.2.2.1,a.2.2.1.1.2.1,a.2.2.2.1,a.2.2.1.1.2.2)]:List Y9).length≤4294967296)then
let d:=(v.2.2.1++([(b.1.1,c.2.2.1,a.2.2.1.1.2.1,a.2.2.2.1,a.2.2.1.1.2.2)]:List Y9))
some (.inl ((aS (v.1.1-1),()),c.2.1,d,()))
else none
else(some (.inr ((),v.2)))
def m50(v:KN):Option (Unit×ZH):=
(m24 ((),v.2)).bind fun a=>
(Lf ((aS (v.1.1+1),()),a.2.1,())).bind fun b=>
(aA Eb (b.1,b.2.1,([(a.2.2.1.1.1,[],a.2.2.1.1.2.1,a.2.2.2.1,a.2.2.1.1.2.2)]:List Y9),())).bind fun c=>
some ((),c.2)
def ajl:Abs.Spec:=⟨1,⟨[0,1],Ut,sZ⟩,⟨[4],(.st (.own Z2 (1,0)) .nil),adJ⟩,m50⟩
def akg:Nat→Abs.ig
 |0=>.mk bM bM (bQ [(3,⟨⟨[6,5,0],(.dat aU (.st (.own Z2 (1,0)) KT)),adJ⟩,(.one (.exit 0) ⟨[5],(.st (.own Z2 (1,0)) .nil),adJ⟩)⟩)]) jb
 |_=>{}
theorem ajD:eP 50 ajl:=okW akg (bL aiM (bL K9 (bL agS fE)))
def DK(v:(nZ×Q6)):Option ((nZ×Q6)⊕(Unit×Q6)):=
bif decide (v.1.1>0)then(m97 ((1,()),v.2.1,())).bind fun a=>
bif decide (a.2.2.1.length+([(bs [115,101,118],0,bs [99,114,105,116],())]:List Nw).length≤4294967296)then
let e:=(a.2.2.1++([(bs [115,101,118],0,bs [99,114,105,116],())]:List Nw))
(m97 ((1,()),a.2.1,())).bind fun b=>
(m98 ((),b.2.1,())).bind fun c=>
bif decide (b.2.2.1.length+([c.2.2.1.1]:List Nw).length≤4294967296)then
let f:=(b.2.2.1++([c.2.2.1.1]:List Nw))
(m62 ((),c.2.1,())).bind fun d=>
bif decide (v.2.2.1.length+([(e,f,d.2.2)]:List aaJ).length≤4294967296)then
let g:=(v.2.2.1++([(e,f,d.2.2)]:List aaJ))
some (.inl ((aS (v.1.1-1),()),d.2.1,g,()))
else none
else none
else none
else(some (.inr ((),v.2)))
def i51:Abs.Sg:=⟨[0],KT,sZ⟩
def m51(v:Tn):Option (Unit×Q6):=
(Lf ((3,()),v.2)).bind fun a=>
(aA DK (a.1,a.2.1,[],())).bind fun b=>
some ((),b.2)
def ajh:Abs.Spec:=⟨1,i51,⟨[2],(.st (.own Z6 (1,0)) .nil),adl⟩,m51⟩
def ajg:Nat→Abs.ig
 |0=>.mk bM bM (bQ [(3,⟨⟨[4,3,0],(.dat aU (.st (.own Z6 (1,0)) KT)),adl⟩,(.one (.exit 0) ⟨[3],(.st (.own Z6 (1,0)) .nil),adl⟩)⟩)]) jb
 |_=>{}
theorem ak0:eP 51 ajh:=okW ajg (bL K9 (bL agS (bL afl (bL afI fE))))
def m12(v:KN):Option (Unit×(Yc×G5×List Y9×G9×Unit)):=
(m50 v).bind fun a=>
(m51 ((),a.2.1,())).bind fun b=>
(m32 (([0,0,200,1000],()),b.2.1,())).bind fun c=>
some ((),c.2.1,(c.1,()),a.2.2.1,b.2.2)
def ajV:Abs.Spec:=⟨1,⟨[0,1],Ut,sZ⟩,⟨[4],(.st Xd .nil),(.box 2 tq (.box 3 akb (.arr Z2 false (.arr Z6 false .nil))))⟩,m12⟩
theorem ajP:eP 12 ajV:=okW Aq (bL ajD (bL ak0 (bL ok32 fE)))
def za(v:(RP×Vd)):Option ((RP×Vd)⊕(Unit×Vd)):=
bif decide (v.1.1<4)then((Abs.rowAt ([v.1.2.1.1,v.1.2.1.2.1,v.1.2.1.2.2.1,v.1.2.1.2.2.2.1]:List ByteArray) v.1.1 fun d _=>
(Lf ((6,()),v.2.1,())).bind fun a=>
bif decide (0≤a.1.1∧a.1.1< [ByteArray.empty,bs [97],bs [98],bs [99,114,105,116],bs [97,34,98,92],(bs [119,101,98,45,49])].length)then
([ByteArray.empty,bs [97],bs [98],bs [99,114,105,116],bs [97,34,98,92],(bs [119,101,98,45,49])][a.1.1.toNat]?).bind fun b=>
bif !(b.toList==ByteArray.empty.toList)then bif decide (v.2.2.1.length+([(d,b,())]:List Ov).length≤4294967296)then
let e:=(v.2.2.1++([(d,b,())]:List Ov))
some ((v.1.2.1,v.1.1,()),a.2.1,e,())
else none
else some ((v.1.2.1,v.1.1,()),a.2.1,v.2.2)
else none):Option ((adt×Int×Unit)×Vd)).bind fun c=>
some (.inl ((aS (c.1.2.1+1),c.1.1,()),c.2))
else(some (.inr ((),v.2)))
def m39(v:Tn):Option (Unit×Vd):=
(aA za ((0,(bs [97,112,112],bs [104,111,115,116],bs [115,101,118],bs [116,101,97,109],()),()),v.2.1,[],())).bind fun a=>
some ((),a.2)
def ak4:Abs.Spec:=⟨1,⟨[0],KT,sZ⟩,⟨[2],(.st ZI .nil),(.box 2 tq zy)⟩,m39⟩
def akh:Nat→Abs.ig
 |0=>.mk bM (bQ [(8,(⟨[3,0,7,8],(.st ZI (.st Ky (.dat abg dK))),(.box 2 tq zy)⟩,none))]) (bQ [(3,⟨⟨[8,3,0,7],(.dat aU (.st ZI (.st Ky (.dat abg .nil)))),(.box 2 tq zy)⟩,(.one (.exit 0) ⟨[3],(.st ZI .nil),(.box 2 tq zy)⟩)⟩)]) jb
 |_=>{}
theorem aj0:eP 39 ak4:=okW akh (bL K9 fE)
def Em(v:(Dr×YU)):Option ((Dr×YU)⊕(Unit×YU)):=
bif decide (v.1.1>0)then(m32 (([0,1,10,30,400],()),v.2.1,())).bind fun a=>
(m39 ((),a.2)).bind fun b=>
(Lf ((3,()),b.2.1,())).bind fun c=>
bif decide (v.2.2.1.length+([(aS (v.1.2.1+a.1.1),b.2.2.1,decide (c.1.1>0),())]:List Si).length≤4294967296)then
let d:=(v.2.2.1++([(aS (v.1.2.1+a.1.1),b.2.2.1,decide (c.1.1>0),())]:List Si))
some (.inl ((aS (v.1.1-1),aS (v.1.2.1+a.1.1),()),c.2.1,d,()))
else none
else(some (.inr ((),v.2)))
def m13(v:KN):Option (Unit×YU):=
(Lf ((aS (v.1.1+1),()),v.2)).bind fun a=>
(aA Em ((a.1.1,0,()),a.2.1,[],())).bind fun b=>
some ((),b.2)
def ajs:Abs.Spec:=⟨1,⟨[0,1],Ut,sZ⟩,⟨[4],(.st (.own U4 (1,0)) .nil),adZ⟩,m13⟩
def aks:Nat→Abs.ig
 |0=>.mk bM bM (bQ [(4,⟨⟨[7,0,5,6],(.dat aU (.st Ky (.st (.own U4 (1,0)) dK))),adZ⟩,(.one (.exit 0) ⟨[5],(.st (.own U4 (1,0)) .nil),adZ⟩)⟩)]) jb
 |_=>{}
theorem ajO:eP 13 ajs:=okW aks (bL K9 (bL ok32 (bL aj0 fE)))
def wu(v:SN):Option (SN⊕(iB⊕Ai)):=
bif decide (v.1.1<(v.1.2.1.size:Int))then((bif decide (0≤v.1.1∧v.1.1<v.1.2.1.size)then
let b:=(decide (((((v.1.2.1[v.1.1.toNat]?.getD 0).toNat:Nat):Int):Int)<97))
bif b then bif decide (0≤v.1.1∧v.1.1<v.1.2.1.size)then
let c:=(decide (((((v.1.2.1[v.1.1.toNat]?.getD 0).toNat:Nat):Int):Int)<48))
bif c then bif decide (0≤v.1.1∧v.1.1<v.1.2.1.size)then
let d:=(((((v.1.2.1[v.1.1.toNat]?.getD 0).toNat:Nat):Int):Int) !=95)
some ((d,v.1.2.1,v.1.1,()),())
else none
else bif decide (0≤v.1.1∧v.1.1<v.1.2.1.size)then
let e:=(decide (((((v.1.2.1[v.1.1.toNat]?.getD 0).toNat:Nat):Int):Int)>57))
bif e then bif decide (0≤v.1.1∧v.1.1<v.1.2.1.size)then
let f:=(((((v.1.2.1[v.1.1.toNat]?.getD 0).toNat:Nat):Int):Int) !=95)
some ((f,v.1.2.1,v.1.1,()),())
else none
else some ((false,v.1.2.1,v.1.1,()),())
else none
else none
else bif decide (0≤v.1.1∧v.1.1<v.1.2.1.size)then
let g:=(decide (((((v.1.2.1[v.1.1.toNat]?.getD 0).toNat:Nat):Int):Int)>122))
bif g then bif decide (0≤v.1.1∧v.1.1<v.1.2.1.size)then
let h:=(decide (((((v.1.2.1[v.1.1.toNat]?.getD 0).toNat:Nat):Int):Int)<48))
bif h then bif decide (0≤v.1.1∧v.1.1<v.1.2.1.size)then
let j:=(((((v.1.2.1[v.1.1.toNat]?.getD 0).toNat:Nat):Int):Int) !=95)
some ((j,v.1.2.1,v.1.1,()),())
else none
else bif decide (0≤v.1.1∧v.1.1<v.1.2.1.size)then
let k:=(decide (((((v.1.2.1[v.1.1.toNat]?.getD 0).toNat:Nat):Int):Int)>57))
bif k then bif decide (0≤v.1.1∧v.1.1<v.1.2.1.size)then
let l:=(((((v.1.2.1[v.1.1.toNat]?.getD 0).toNat:Nat):Int):Int) !=95)
some ((l,v.1.2.1,v.1.1,()),())
else none
else some ((false,v.1.2.1,v.1.1,()),())
else none
else none
else some ((false,v.1.2.1,v.1.1,()),())
else none
else none):Option (aes×Unit)).bind fun a=>
bif a.1.1 then some (.inr (.inl ((false,()),())))
else some (.inl ((aS (a.1.2.2.1+1),a.1.2.1,()),()))
else(some (.inr (.inr ((),()))))
end
noncomputable section
def Sy(v:BM):Option iB:=
((bif decide ((v.1.1.size:Int)<1)then some ((true,v.1),())
else bif decide ((v.1.1.size:Int)>24)then some ((true,v.1),())
else bif decide ((0:Int)≤0∧(0:Int)<v.1.1.size)then
let b:=(decide (((((v.1.1[0]?.getD 0).toNat:Nat):Int):Int)<97))
bif b then some ((true,v.1),())
else bif decide ((0:Int)≤0∧(0:Int)<v.1.1.size)then
let c:=(decide (((((v.1.1[0]?.getD 0).toNat:Nat):Int):Int)>122))
some ((c,v.1),())
else none
else none):Option (YB×Unit)).bind fun a=>
bif a.1.1 then some ((false,()),())
else((aA wu ((0,a.1.2),())).bind fun d=>
au d (fun e=>(some e)) (fun f=>(some ((true,()),()))))
def ahd:Abs.Spec:=⟨0,⟨[0],iZ,.nil⟩,⟨[2],jo,.nil⟩,Sy⟩
def afY:Nat→Abs.ig
 |0=>.mk (bQ [(6,⟨[55,0,3],(.dat .bool Va),.nil⟩),(1,⟨[21,0],(.dat .bool iZ),.nil⟩)]) bM (bQ [(4,⟨⟨[3,0],Hu,.nil⟩,Ro4⟩)]) jb
 |_=>{}
theorem Vb:eP 105 ahd:=okW afY fE
def uS(v:SN):Option (SN⊕(iB⊕Ai)):=
bif decide (v.1.1<(v.1.2.1.size:Int))then((bif decide (0≤v.1.1∧v.1.1<v.1.2.1.size)then
let b:=(decide (((((v.1.2.1[v.1.1.toNat]?.getD 0).toNat:Nat):Int):Int)<32))
bif b then some ((true,v.1.2.1,v.1.1,()),())
else bif decide (0≤v.1.1∧v.1.1<v.1.2.1.size)then
let c:=(decide (((((v.1.2.1[v.1.1.toNat]?.getD 0).toNat:Nat):Int):Int)>126))
some ((c,v.1.2.1,v.1.1,()),())
else none
else none):Option (aes×Unit)).bind fun a=>
bif a.1.1 then some (.inr (.inl ((false,()),())))
else some (.inl ((aS (a.1.2.2.1+1),a.1.2.1,()),()))
else(some (.inr (.inr ((),()))))
def Vn(v:BM):Option iB:=
bif decide ((v.1.1.size:Int)>64)then some ((false,()),())
else((aA uS ((0,v.1),())).bind fun a=>
au a (fun b=>(some b)) (fun c=>(some ((true,()),()))))
def ahA:Abs.Spec:=⟨0,⟨[0],iZ,.nil⟩,⟨[2],jo,.nil⟩,Vn⟩
def afe:Nat→Abs.ig
 |0=>.mk (bQ [(6,⟨[22,0,3],(.dat .bool Va),.nil⟩)]) bM (bQ [(4,⟨⟨[3,0],Hu,.nil⟩,Ro4⟩)]) jb
 |_=>{}
theorem acg:eP 106 ahA:=okW afe fE
def ZU(v:QG):Option iB:=
(((Sy ((v.1.1.1,()),())).bind fun a=>
bif a.1.1 then bif decide (v.1.1.2.1≥0)then bif decide (v.1.1.2.1≤3)then(Vn (v.1.1.2.2,())).bind fun b=>
some b
else some ((false,()),())
else some ((false,()),())
else some ((false,()),())):Option iB).bind fun c=>
some c
def aga:Abs.Spec:=⟨0,⟨[0],U8,.nil⟩,⟨[2],jo,.nil⟩,ZU⟩
def ahP:Nat→Abs.ig
 |0=>.mk (bQ [(1,⟨[2],jo,.nil⟩)]) bM bM jb
 |_=>{}
theorem agT:eP 162 aga:=okW ahP (bL Vb (bL acg fE))
def uR(v:abv):Option (abv⊕(iB⊕Ai)):=
let d:=(decide (v.1.1<(v.1.2.1.length:Int)))
bif d then((Abs.rowAt v.1.2.1 v.1.1 fun e _=>
(Sy ((e,()),())).bind fun f=>
bif !f.1.1 then some ((true,v.1.2.1,v.1.1,()),())
else bif decide (v.1.1>0)then Abs.rowAt v.1.2.1 v.1.1 fun b _=>
Abs.rowAt v.1.2.1 (aS (v.1.1-1)) fun c _=>
some ((Op.bytesLess b.toList c.toList||b.toList==c.toList,v.1.2.1,v.1.1,()),())
else some ((false,v.1.2.1,v.1.1,()),())):Option ((Bool×List ByteArray×Int×Unit)×Unit)).bind fun a=>
bif a.1.1 then some (.inr (.inl ((false,()),())))
else some (.inl ((aS (a.1.2.2.1+1),a.1.2.1,()),()))
else(some (.inr (.inr ((),()))))
def Y6(v:(XH×Unit)):Option iB:=
(aA uR ((0,v.1),())).bind fun a=>
au a (fun b=>(some b)) (fun c=>(some ((true,()),())))
def aeT:Abs.Spec:=⟨0,⟨[0],KV,.nil⟩,⟨[2],jo,.nil⟩,Y6⟩
def air:Nat→Abs.ig
 |0=>.mk (bQ [(4,⟨[31,0,3],(.dat .bool (.dat Oq dK)),.nil⟩)]) bM (bQ [(2,⟨⟨[3,0],(.dat aU KV),.nil⟩,Ro4⟩)]) jb
 |_=>{}
theorem afj:eP 142 aeT:=okW air (bL Vb fE)
def ug(v:(nZ×Qi)):Option ((nZ×Qi)⊕(kH⊕(Unit×Qi))):=
let a:=(decide (v.1.1<(v.2.1.1.2.1.length:Int)))
bif a then Abs.rowAt v.2.1.1.2.1 v.1.1 fun b _=>
(ZU ((b,()),())).bind fun c=>
bif !c.1.1 then some (.inr (.inl ((8,()),())))
else some (.inl ((aS (v.1.1+1),()),v.2))
else(some (.inr (.inr ((),v.2))))
def ZB(v:((Y9×Unit)×Unit)):Option kH:=
((bif decide ((v.1.1.2.1.length:Int)>8)then some ((true,()),v)
else let c:=(decide ((v.1.1.2.2.2.1.length:Int)>12))
some ((c,()),v)):Option (rJ×Qi)).bind fun b=>
bif b.1.1 then some ((5,()),())
else((aA ug ((0,()),b.2)).bind fun d=>
au d (fun e=>(some e)) (fun a=>((Y6 ((a.2.1.1.2.2.2.1,()),())).bind fun f=>
bif !f.1.1 then some ((8,()),())
else((bif decide (a.2.1.1.2.2.1<0)then some ((true,()),())
else bif decide (a.2.1.1.2.2.2.2.1<0)then some ((true,()),())
else let g:=(decide (a.2.1.1.2.2.2.2.1>a.2.1.1.2.2.2.2.2.1))
bif g then some ((true,()),())
else let h:=(decide (a.2.1.1.2.2.2.2.2.1>a.2.1.1.2.2.2.2.2.2.1))
bif h then some ((true,()),())
else let j:=(decide (a.2.1.1.2.2.2.2.2.2.1>604800))
bif j then some ((true,()),())
else some ((a.2.1.1.2.2.2.2.2.2.1==0,()),())):Option iB).bind fun k=>
bif k.1.1 then some ((1,()),())
else some ((0,()),()))))
def ais:Abs.Spec:=⟨0,⟨[0],yI,.nil⟩,⟨[2],dK,.nil⟩,ZB⟩
def afV:Nat→Abs.ig
 |0=>.mk (bQ [(10,⟨[33],jo,.nil⟩),(1,⟨[13,1],(.dat .bool SF),Nh⟩)]) bM (bQ [(4,⟨⟨[3,1],(.dat aU SF),Nh⟩,(.more .ret ⟨[2],dK,.nil⟩ (.one (.exit 0) ⟨[1],SF,Nh⟩))⟩)]) jb
 |_=>{}
theorem ahF:eP 104 ais:=okW afV (bL agT (bL afj fE))
def zo(v:((Int×List Y9×Unit)×Unit)):Option (((Int×List Y9×Unit)×Unit)⊕(kH⊕aay)):=
let c:=(decide (v.1.1<(v.1.2.1.length:Int)))
bif c then((bif v.1.1==0 then Abs.rowAt v.1.2.1 v.1.1 fun d _=>
bif d.1 !=(-1)then some ((true,v.1.2.1,v.1.1,()),())
else bif decide (v.1.1>0)then Abs.rowAt v.1.2.1 v.1.1 fun e _=>
bif decide (e.1<0)then some ((true,v.1.2.1,v.1.1,()),())
else Abs.rowAt v.1.2.1 v.1.1 fun f _=>
some ((decide (f.1≥v.1.1),v.1.2.1,v.1.1,()),())
else some ((false,v.1.2.1,v.1.1,()),())
else bif decide (v.1.1>0)then Abs.rowAt v.1.2.1 v.1.1 fun g _=>
bif decide (g.1<0)then some ((true,v.1.2.1,v.1.1,()),())
else Abs.rowAt v.1.2.1 v.1.1 fun h _=>
some ((decide (h.1≥v.1.1),v.1.2.1,v.1.1,()),())
else some ((false,v.1.2.1,v.1.1,()),())):Option ((Bool×List Y9×Int×Unit)×Unit)).bind fun a=>
bif a.1.1 then some (.inr (.inl ((3,()),())))
else Abs.rowAt a.1.2.1 a.1.2.2.1 fun j _=>
(ZB ((j,()),())).bind fun b=>
bif b.1.1 !=0 then some (.inr (.inl b))
else some (.inl ((aS (a.1.2.2.1+1),a.1.2.1,()),()))
else(some (.inr (.inr (v.1.2,()))))
def m56(v:aay):Option kH:=
bif (v.1.1.length:Int)==0 then some ((7,()),())
else(bif decide ((v.1.1.length:Int)>24)then some ((5,()),())
else(aA zo ((0,v.1),())).bind fun a=>
au a (fun b=>(some b)) (fun c=>(Abs.rowAt c.1.1 0 fun d _=>
bif decide ((d.2.1.length:Int)>0)then some ((8,()),())
else some ((0,()),()))))
def aiV:Abs.Spec:=⟨0,⟨[0],Nz,.nil⟩,⟨[2],dK,.nil⟩,m56⟩
def ajT:Nat→Abs.ig
 |0=>.mk (bQ [(8,⟨[47,0,3],(.dat .bool TM),.nil⟩)]) bM (bQ [(6,⟨⟨[3,0],(.dat aU Nz),.nil⟩,(.more .ret ⟨[2],dK,.nil⟩ (.one (.exit 0) ⟨[0],Nz,.nil⟩))⟩)]) jb
 |_=>{}
theorem akm:eP 56 aiV:=okW ajT (bL ahF fE)
def A9(v:(RF×Unit)):Option ((RF×Unit)⊕(iB⊕Ai)):=
let d:=(decide (v.1.1<(v.1.2.1.length:Int)))
bif d then((Abs.rowAt v.1.2.1 v.1.1 fun e _=>
(Sy ((e.1,()),())).bind fun f=>
bif !f.1.1 then some ((true,v.1.2.1,v.1.1,()),())
else Abs.rowAt v.1.2.1 v.1.1 fun g _=>
(Vn (g.2,())).bind fun h=>
bif !h.1.1 then some ((true,v.1.2.1,v.1.1,()),())
else Abs.rowAt v.1.2.1 v.1.1 fun j _=>
bif j.2.1.toList==ByteArray.empty.toList then some ((true,v.1.2.1,v.1.1,()),())
else bif decide (v.1.1>0)then Abs.rowAt v.1.2.1 v.1.1 fun b _=>
Abs.rowAt v.1.2.1 (aS (v.1.1-1)) fun c _=>
some ((Op.bytesLess b.1.toList c.1.toList||b.1.toList==c.1.toList,v.1.2.1,v.1.1,()),())
else some ((false,v.1.2.1,v.1.1,()),())):Option ((Bool×iU×Int×Unit)×Unit)).bind fun a=>
bif a.1.1 then some (.inr (.inl ((false,()),())))
else some (.inl ((aS (a.1.2.2.1+1),a.1.2.1,()),()))
else(some (.inr (.inr ((),()))))
def m57(v:Li):Option iB:=
bif decide ((v.1.1.length:Int)>12)then some ((false,()),())
else((aA A9 ((0,v.1),())).bind fun a=>
au a (fun b=>(some b)) (fun c=>(some ((true,()),()))))
def ajM:Abs.Spec:=⟨0,⟨[0],oL,.nil⟩,⟨[2],jo,.nil⟩,m57⟩
def ajk:Nat→Abs.ig
 |0=>.mk (bQ [(6,⟨[54,0,3],(.dat .bool TB),.nil⟩)]) bM (bQ [(4,⟨⟨[3,0],(.dat aU oL),.nil⟩,Ro4⟩)]) jb
 |_=>{}
theorem aei:eP 57 ajM:=okW ajk (bL Vb (bL acg fE))
def vD(v:((Int×Int×List Y9×Unit)×Cg)):Option (((Int×Int×List Y9×Unit)×Cg)⊕Ld):=
let b:=(decide (v.1.1<(v.1.2.2.1.length:Int)))
bif b then((Abs.rowAt v.1.2.2.1 v.1.1 fun c _=>
bif c.1==v.1.2.1 then bif decide (v.2.1.length+ [v.1.1].length≤4294967296)then
some ((v.1.2.1,v.1.2.2.1,v.1.1,()),v.2.1++ [v.1.1],())
else none
else some ((v.1.2.1,v.1.2.2.1,v.1.1,()),v.2)):Option ((Int×List Y9×Int×Unit)×Cg)).bind fun a=>
some (.inl ((aS (a.1.2.2.1+1),a.1.1,a.1.2.1,()),a.2))
else(some (.inr ((),v.2)))
def Yj(v:((List Y9×Int×Unit)×Unit)):Option Ld:=
(aA vD ((0,v.1.2.1,v.1.1,()),[],())).bind fun a=>
some ((),a.2)
def ack:Abs.Spec:=⟨0,⟨[0,1],TM,.nil⟩,⟨[4],Jy,zT⟩,Yj⟩
def agA:Nat→Abs.ig
 |0=>.mk bM (bQ [(4,(⟨[5,1,0,6],(.st Jq (.dat aU TM)),zT⟩,none))]) (bQ [(3,⟨⟨[6,5,1,0],(.dat aU (.st Jq (.dat aU Nz))),zT⟩,(.one (.exit 0) ⟨[5],Jy,zT⟩)⟩)]) jb
 |_=>{}
theorem ag9:eP 107 ack:=okW agA fE
def uf(v:aaE):Option (aaE⊕(BM⊕Ai)):=
let a:=(decide (v.1.1<(v.1.2.1.length:Int)))
bif a then Abs.rowAt v.1.2.1 v.1.1 fun b _=>
bif b.1.toList==v.1.2.2.1.toList then Abs.rowAt v.1.2.1 v.1.1 fun c _=>
some (.inr (.inl (c.2,())))
else some (.inl ((aS (v.1.1+1),v.1.2),()))
else(some (.inr (.inr ((),()))))
def Z5(v:((iU×ByteArray×Unit)×Unit)):Option BM:=
(aA uf ((0,v.1),())).bind fun a=>
au a (fun b=>(some b)) (fun c=>(some ((ByteArray.empty,()),())))
def afR:Abs.Spec:=⟨0,⟨[0,1],(.dat sU iZ),.nil⟩,⟨[4],iZ,.nil⟩,Z5⟩
def agU:Nat→Abs.ig
 |0=>.mk bM bM (bQ [(2,⟨⟨[5,0,1],(.dat aU (.dat sU iZ)),.nil⟩,(.more .ret ⟨[4],iZ,.nil⟩ Ro1)⟩)]) jb
 |_=>{}
theorem agx:eP 203 afR:=okW agU fE
def jv(v:afQ):Option (afQ⊕((ByteArray×ByteArray×Int×Unit)×ZN)):=
bif decide (v.1.1≤(v.1.2.1.size:Int))then((bif decide (0≤v.1.2.2.1∧v.1.2.2.1<v.1.2.2.2.1.size)then
let b:=(((((v.1.2.2.2.1[v.1.2.2.1.toNat]?.getD 0).toNat:Nat):Int):Int)==42)
bif b then((bif decide (0≤v.1.1∧v.1.1<v.2.2.1.length)then
(v.2.2.1[v.1.1.toNat]?).bind fun c=>
bif c then bif decide (0≤v.1.1∧v.1.1<v.2.1.length)then
bif decide (v.1.1.toNat<v.2.1.length)then
some ((v.1.2.1,v.1.2.2.1,v.1.2.2.2.1,v.1.1,()),v.2.1.set v.1.1.toNat true,v.2.2)
else none
else none
else bif decide (v.1.1>0)then bif decide ((0:Int)≤(aS (v.1.1-1))∧((aS (v.1.1-1)):Int)<v.2.1.length)then
(v.2.1[(aS (v.1.1-1)).toNat]?).bind fun d=>
bif decide (0≤v.1.1∧v.1.1<v.2.1.length)then
bif decide (v.1.1.toNat<v.2.1.length)then
some ((v.1.2.1,v.1.2.2.1,v.1.2.2.2.1,v.1.1,()),v.2.1.set v.1.1.toNat d,v.2.2)
else none
else none
else none
else bif decide (0≤v.1.1∧v.1.1<v.2.1.length)then
bif decide (v.1.1.toNat<v.2.1.length)then
some ((v.1.2.1,v.1.2.2.1,v.1.2.2.2.1,v.1.1,()),v.2.1.set v.1.1.toNat false,v.2.2)
else none
else none
else none):Option acB).bind fun e=>
some e
else bif decide (v.1.1>0)then((bif decide ((0:Int)≤(aS (v.1.1-1))∧((aS (v.1.1-1)):Int)<v.2.2.1.length)then
(v.2.2.1[(aS (v.1.1-1)).toNat]?).bind fun f=>
bif f then bif decide (0≤v.1.2.2.1∧v.1.2.2.1<v.1.2.2.2.1.size)then
let g:=(((((v.1.2.2.2.1[v.1.2.2.1.toNat]?.getD 0).toNat:Nat):Int):Int)==63)
bif g then bif decide (0≤v.1.1∧v.1.1<v.2.1.length)then
bif decide (v.1.1.toNat<v.2.1.length)then
some ((v.1.2.1,v.1.2.2.1,v.1.2.2.2.1,v.1.1,()),v.2.1.set v.1.1.toNat true,v.2.2)
else none
else none
else bif decide (0≤v.1.2.2.1∧v.1.2.2.1<v.1.2.2.2.1.size)then
bif decide ((0:Int)≤(aS (v.1.1-1))∧((aS (v.1.1-1)):Int)<v.1.2.1.size)then
let h:=(((((v.1.2.2.2.1[v.1.2.2.1.toNat]?.getD 0).toNat:Nat):Int):Int)==(((v.1.2.1[(aS (v.1.1-1)).toNat]?.getD 0).toNat:Nat):Int))
bif decide (0≤v.1.1∧v.1.1<v.2.1.length)then
bif decide (v.1.1.toNat<v.2.1.length)then
some ((v.1.2.1,v.1.2.2.1,v.1.2.2.2.1,v.1.1,()),v.2.1.set v.1.1.toNat h,v.2.2)
else none
else none
else none
else none
else none
else bif decide (0≤v.1.1∧v.1.1<v.2.1.length)then
bif decide (v.1.1.toNat<v.2.1.length)then
some ((v.1.2.1,v.1.2.2.1,v.1.2.2.2.1,v.1.1,()),v.2.1.set v.1.1.toNat false,v.2.2)
else none
else none
else none):Option acB).bind fun j=>
some j
else some ((v.1.2.1,v.1.2.2.1,v.1.2.2.2.1,v.1.1,()),v.2)
else none):Option acB).bind fun a=>
some (.inl ((aS (a.1.2.2.2.1+1),a.1.1,a.1.2.1,a.1.2.2.1,()),a.2))
else(some (.inr ((v.1.2.1,v.1.2.2.2.1,v.1.2.2.1,()),v.2.1,())))
def AY(v:(Nw×ZN)):Option ((Nw×ZN)⊕(Sd×ZN)):=
let b:=(decide (v.1.2.1<(v.1.2.2.1.size:Int)))
bif b then bif decide ((0:Int)≤(aS ((v.1.1.size:Int)+1))∧((aS ((v.1.1.size:Int)+1)):Int)≤(aS ((v.1.1.size:Int)+1))∧((aS ((v.1.1.size:Int)+1)):Int)≤4294967296)then
(aA jv ((0,v.1),List.replicate (aS ((v.1.1.size:Int)+1)).toNat (false:Bool),v.2)).bind fun a=>
some (.inl ((a.1.1,aS (a.1.2.2.1+1),a.1.2.1,()),a.2))
else none
else(some (.inr ((v.1.1,()),v.2)))
def Wx(v:(Ov×Unit)):Option iB:=
bif decide ((0:Int)≤(aS ((v.1.2.1.size:Int)+1))∧((aS ((v.1.2.1.size:Int)+1)):Int)≤(aS ((v.1.2.1.size:Int)+1))∧((aS ((v.1.2.1.size:Int)+1)):Int)≤4294967296)then
bif decide ((0:Int)≤0∧(0:Int)<(List.replicate (aS ((v.1.2.1.size:Int)+1)).toNat (false:Bool)).length)then
bif decide (0<(List.replicate (aS ((v.1.2.1.size:Int)+1)).toNat (false:Bool)).length)then
(aA AY ((v.1.2.1,0,v.1.1,()),(List.replicate (aS ((v.1.2.1.size:Int)+1)).toNat (false:Bool)).set 0 true,())).bind fun a=>
bif decide ((0:Int)≤(a.1.1.size:Int)∧(a.1.1.size:Int)<a.2.1.length)then
(a.2.1[(a.1.1.size:Int).toNat]?).bind fun b=>
some ((b,()),())
else none
else none
else none
else none
def ahb:Abs.Spec:=⟨0,⟨[0,1],MC,.nil⟩,⟨[4],jo,.nil⟩,Wx⟩
def afp:Nat→Abs.ig
 |0=>.mk (bQ [(13,⟨[7,5,1,6,0,8],ad2,Zn⟩),(11,⟨[7,5,1,6,0,8],ad2,Zn⟩)]) (bQ [(9,(⟨[7,5,1,6,0,8],ad2,Zn⟩,none))]) (bQ [(4,⟨⟨[5,1,6,0],(.st R8 (.dat .str Hu)),Y8⟩,(.one (.exit 0) ⟨[1,5],(.dat .str (.st R8 .nil)),Y8⟩)⟩),(8,⟨⟨[8,7,5,1,6,0],(.dat aU (.st R8 (.st (.own .bool (1,0)) (.dat .str Hu)))),Zn⟩,(.one (.exit 2) ⟨[1,0,6,7],(.dat .str (.dat .str (.dat aU (.st R8 .nil)))),Y8⟩)⟩)]) jb
 |_=>{}
theorem agF:eP 204 ahb:=okW afp fE
def aaD(v:((Nw×iU×Unit)×Unit)):Option iB:=
(Z5 ((v.1.2.1,v.1.1.1,()),())).bind fun a=>
bif v.1.1.2.1==0 then some ((a.1.1.toList==v.1.1.2.2.1.toList,()),())
else(bif v.1.1.2.1==1 then some ((!(a.1.1.toList==v.1.1.2.2.1.toList),()),())
else bif v.1.1.2.1==2 then(Wx ((v.1.1.2.2.1,a.1),())).bind fun b=>
some b
else bif v.1.1.2.1==3 then(Wx ((v.1.1.2.2.1,a.1),())).bind fun c=>
some ((!c.1.1,()),())
else some ((false,()),()))
def agM:Abs.Spec:=⟨0,⟨[0,1],(.dat Lb oL),.nil⟩,⟨[4],jo,.nil⟩,aaD⟩
theorem agm:eP 163 agM:=okW Aq (bL agx (bL agF fE))
def uX(v:((Int×iU×Y3×Unit)×Unit)):Option (((Int×iU×Y3×Unit)×Unit)⊕(iB⊕Ai)):=
let a:=(decide (v.1.1<(v.1.2.2.1.length:Int)))
bif a then Abs.rowAt v.1.2.2.1 v.1.1 fun b _=>
(aaD ((b,v.1.2.1,()),())).bind fun c=>
bif !c.1.1 then some (.inr (.inl ((false,()),())))
else some (.inl ((aS (v.1.1+1),v.1.2),()))
else(some (.inr (.inr ((),()))))
def aaH(v:(R3×Unit)):Option iB:=
(aA uX ((0,v.1.2.1,v.1.1,()),())).bind fun a=>
au a (fun b=>(some b)) (fun c=>(some ((true,()),())))
def abL:Abs.Spec:=⟨0,⟨[0,1],(.dat (.row Lb) oL),.nil⟩,⟨[4],jo,.nil⟩,aaH⟩
def afT:Nat→Abs.ig
 |0=>.mk bM bM (bQ [(2,⟨⟨[5,1,0],(.dat aU (.dat sU (.dat (.row Lb) .nil))),.nil⟩,aah⟩)]) jb
 |_=>{}
theorem aii:eP 108 abL:=okW afT (bL agm fE)
def rD(rc:U2→Option Ld)(v:acw):Option (acw⊕(nZ×Cg)):=
let x61:=(decide (v.1.1<((v.2.1.length:Nat):Int)))
bif x61 then((bif decide (0≤v.1.1∧v.1.1<v.2.1.length)then
(v.2.1[v.1.1.toNat]?).bind fun e62=>
Abs.rowAt v.1.2.2.1 e62 fun e63 _=>
(aaH ((e63.2.1,v.1.2.2.2.1,()),())).bind fun u64=>
bif !u64.1.1 then some (.inl ((v.1.2.1,v.1.2.2.1,v.1.2.2.2.1,v.1.1,()),v.2.1,v.2.2.1,()))
else bif decide (0≤v.1.1∧v.1.1<v.2.1.length)then
(v.2.1[v.1.1.toNat]?).bind fun e65=>
(rc ((v.1.2.2.1,e65,v.1.2.2.2.1,()),())).bind fun u66=>
bif decide (v.2.2.1.length+u66.2.1.length≤4294967296)then
bif decide (0≤v.1.1∧v.1.1<v.2.1.length)then
(v.2.1[v.1.1.toNat]?).bind fun e67=>
Abs.rowAt v.1.2.2.1 e67 fun e68 _=>
bif !e68.2.2.2.2.2.2.2.1 then some (.inr ((v.1.2.1,()),v.2.2.1++u66.2.1,()))
else some (.inl ((v.1.2.1,v.1.2.2.1,v.1.2.2.2.1,v.1.1,()),v.2.1,v.2.2.1++u66.2.1,()))
else none
else none
else none
else none):Option (((Int×List Y9×iU×Int×Unit)×aa1)⊕(nZ×Cg))).bind fun r71=>
au r71 (fun v69=>(some (.inl ((aS (v69.1.2.2.2.1+1),v69.1.1,v69.1.2.1,v69.1.2.2.1,()),v69.2.1,v69.2.2.1,())))) (fun d70=>(some (.inr ((d70.1.1,()),d70.2.1,()))))
else(some (.inr ((v.1.2.1,()),v.2.2.1,())))
def i58:Abs.Sg:=⟨[0,1,2],(.dat AX (.dat aU oL)),.nil⟩
def o58:Abs.Sg:=⟨[6],Jy,zT⟩
def adU(rc:U2→Option Ld)(v:U2):Option Ld:=
(Yj ((v.1.1,(v.1.2.1,())),())).bind fun u60=>
(aA (rD rc) ((0,(v.1.2.1,(v.1.1,(v.1.2.2.1,())))),(u60.2.1,([],())))).bind fun d72=>
bif ((((d72.2.1.length:Nat):Int):Int)==0)then(some ((),([d72.1.1],())))
else(some ((),(d72.2.1,())))
def RY(n:Nat):U2→Option Ld:=Nat.rec (motive:=fun _=>U2→Option Ld) (fun _=>none) (fun _ rc=>adU rc) n
def m58:U2→Option Ld:=RY 400
def acr(n:Nat):Abs.Spec:=⟨0,i58,o58,RY n⟩
def aiT:Abs.Spec:=⟨0,i58,o58,m58⟩
def aiO:Nat→Abs.ig
 |0=>.mk bM (bQ [(5,(⟨[1,8,0,2,7,9],(.dat aU (.st Jq (.dat AX (.dat sU (.st (.own aU (1,0)) dK))))),Yw⟩,some Ro7))]) (bQ [(4,⟨⟨[9,1,8,0,2,7],(.dat aU (.dat aU (.st Jq (.dat AX (.dat sU (.st (.own aU (1,0)) .nil)))))),Yw⟩,Ro7⟩)]) jb
 |_=>{}
theorem abt:∀n,Abs.gI Tryz.prog 58 (acr n)
 |0=>fun _ _ _ _ _ _ h=>by cases h
 |n+1=>Abs.wL (C:=Xu) (mv:=RN) Jz (n:=12) (an:=aiO) (T:=Abs.vg [(58,acr n),(107,ack),(108,abL)]) good BK (Abs.lK _ (by simp only[List.forall_mem_cons];exact⟨abt n,ag9,aii,fun _ h=>by cases h⟩)) rfl (by intro v;kernel_rfl)
theorem ajw:Abs.gI Tryz.prog 58 aiT:=abt 400
def m19(v:((List Y9×iU×Unit)×Unit)):Option Ld:=
(((m56 ((v.1.1,()),())).bind fun b=>
bif b.1.1 !=0 then some ((true,v.1.2.1,v.1.1,()),())
else(m57 (v.1.2,())).bind fun c=>
some ((!c.1.1,v.1.2.1,v.1.1,()),())):Option abT).bind fun a=>
bif a.1.1 then some ((),[],())
else((m58 ((a.1.2.2.1,0,a.1.2.1,()),())).bind fun d=>
some ((),d.2.1,()))
def ajp:Abs.Spec:=⟨0,⟨[0,1],(.dat AX oL),.nil⟩,⟨[4],Jy,zT⟩,m19⟩
def akp:Nat→Abs.ig
 |0=>.mk (bQ [(1,⟨[12,1,0],(.dat .bool (.dat sU Nz)),.nil⟩)]) bM bM jb
 |_=>{}
theorem aiI:eP 19 ajp:=okW akp (bL akm (bL aei (bL ajw fE)))
def zl(v:abB):Option (abB⊕((iU×List ByteArray×Int×Unit)×yw)):=
let b:=(decide (v.1.2.2.2.1<(v.1.2.1.length:Int)))
bif b then Abs.rowAt v.1.2.1 v.1.2.2.2.1 fun c _=>
Abs.rowAt v.1.1 v.1.2.2.1 fun d _=>
bif c.toList==d.1.toList then Abs.rowAt v.1.1 v.1.2.2.1 fun a _=>
bif decide (v.2.1.length+([a]:List Ov).length≤4294967296)then
let e:=(v.2.1++([a]:List Ov))
some (.inr ((v.1.1,v.1.2.1,v.1.2.2.1,()),e,()))
else none
else some (.inl ((v.1.1,v.1.2.1,v.1.2.2.1,aS (v.1.2.2.2.1+1),()),v.2))
else(some (.inr ((v.1.1,v.1.2.1,v.1.2.2.1,()),v.2)))
def zD(v:abG):Option (abG⊕Ls):=
let b:=(decide (v.1.1<(v.1.2.1.length:Int)))
bif b then(aA zl ((v.1.2.1,v.1.2.2.1,v.1.1,0,()),v.2)).bind fun a=>
some (.inl ((aS (a.1.2.2.1+1),a.1.1,a.1.2.1,()),a.2))
else(some (.inr ((),v.2)))
def m60(v:aci):Option Ls:=
(aA zD ((0,v.1),[],())).bind fun a=>
some ((),a.2)
def aiZ:Abs.Spec:=⟨0,⟨[0,1],(.dat sU KV),.nil⟩,⟨[4],UM,zy⟩,m60⟩
def akw:Nat→Abs.ig
 |0=>.mk bM bM (bQ [(3,⟨⟨[6,0,5,1],(.dat aU (.dat sU (.st x9 KV))),zy⟩,(.one (.exit 0) ⟨[5],UM,zy⟩)⟩),(6,⟨⟨[0,1,6,5,7],(.dat sU (.dat Oq (.dat aU (.st x9 dK)))),zy⟩,(.one (.exit 2) ⟨[0,5,1,6],(.dat sU (.st x9 (.dat Oq dK))),zy⟩)⟩)]) jb
 |_=>{}
theorem akc:eP 60 aiZ:=okW akw fE
def uU(v:(Yv×Unit)):Option ((Yv×Unit)⊕BM):=
bif decide (v.1.1<(v.1.2.1.size:Int))then((((bif decide (0≤v.1.1∧v.1.1<v.1.2.1.size)then
let d:=(((((v.1.2.1[v.1.1.toNat]?.getD 0).toNat:Nat):Int):Int)==34)
bif d then some ((true,v.1.2.1,v.1.1,v.1.2.2),())
else bif decide (0≤v.1.1∧v.1.1<v.1.2.1.size)then
let e:=(((((v.1.2.1[v.1.1.toNat]?.getD 0).toNat:Nat):Int):Int)==92)
some ((e,v.1.2.1,v.1.1,v.1.2.2),())
else none
else none):Option ((Bool×ByteArray×Int×ByteArray×Unit)×Unit)).bind fun b=>
bif b.1.1 then bif decide (b.1.2.2.2.1.size+1≤4294967296)then
some ((b.1.2.1,b.1.2.2.1,b.1.2.2.2.1++(bs [92]),()),())
else none
else some (b.1.2,())):Option (Nw×Unit)).bind fun a=>
bif decide ((0:Int)≤a.1.2.1)then
bif decide ((0:Int)≤(aS (a.1.2.1+1)))then
bif decide (a.1.2.1.toNat≤(aS (a.1.2.1+1)).toNat∧(aS (a.1.2.1+1)).toNat≤a.1.1.size)then
let c:=(a.1.1.extract a.1.2.1.toNat (aS (a.1.2.1+1)).toNat)
bif decide (a.1.2.2.1.size+c.size≤4294967296)then
some (.inl ((aS (a.1.2.1+1),a.1.1,a.1.2.2.1++c,()),()))
else none
else none
else none
else none
else(some (.inr (v.1.2.2,())))
def ZT(v:BM):Option BM:=
(aA uU ((0,v.1.1,bs [34],()),())).bind fun a=>
bif decide (a.1.1.size+1≤4294967296)then
some ((a.1.1++(bs [34]),()),())
else none
def ahL:Abs.Spec:=⟨0,⟨[0],iZ,.nil⟩,⟨[2],iZ,.nil⟩,ZT⟩
def af2:Nat→Abs.ig
 |0=>.mk (bQ [(5,⟨[20,0,4,3],(.dat .bool (.dat .str Hu)),.nil⟩)]) (bQ [(7,(⟨[0,4,3],(.dat .str Hu),.nil⟩,none))]) (bQ [(3,⟨⟨[4,0,3],(.dat aU MC),.nil⟩,(.one (.exit 0) ⟨[3],iZ,.nil⟩)⟩)]) jb
 |_=>{}
theorem agl:eP 109 ahL:=okW af2 fE
def wN(v:aaE):Option (aaE⊕BM):=
let d:=(decide (v.1.1<(v.1.2.1.length:Int)))
bif d then((bif decide (v.1.1>0)then bif decide (v.1.2.2.1.size+1≤4294967296)then
some ((v.1.2.1,v.1.1,v.1.2.2.1++(bs [44]),()),())
else none
else some ((v.1.2.1,v.1.1,v.1.2.2),())):Option ((iU×Int×ByteArray×Unit)×Unit)).bind fun a=>
Abs.rowAt a.1.1 a.1.2.1 fun b _=>
bif decide (b.1.size+1≤4294967296)then
Abs.rowAt a.1.1 a.1.2.1 fun e _=>
(ZT (e.2,())).bind fun c=>
bif decide ((b.1++(bs [61])).size+c.1.1.size≤4294967296)then
bif decide (a.1.2.2.1.size+((b.1++(bs [61]))++c.1.1).size≤4294967296)then
let f:=(a.1.2.2.1++((b.1++(bs [61]))++c.1.1))
some (.inl ((aS (a.1.2.1+1),a.1.1,f,()),()))
else none
else none
else none
else(some (.inr (v.1.2.2,())))
def m59(v:Li):Option BM:=
(m57 v).bind fun b=>
bif !b.1.1 then some ((ByteArray.empty,()),())
else((aA wN ((0,v.1.1,bs [123],()),())).bind fun a=>
bif decide (a.1.1.size+1≤4294967296)then
some ((a.1.1++(bs [125]),()),())
else none)
def ajo:Abs.Spec:=⟨0,⟨[0],oL,.nil⟩,⟨[2],iZ,.nil⟩,m59⟩
def ajJ:Nat→Abs.ig
 |0=>.mk bM (bQ [(9,(⟨[0,4,3],(.dat sU Hu),.nil⟩,none))]) (bQ [(5,⟨⟨[4,0,3],(.dat aU (.dat sU iZ)),.nil⟩,(.one (.exit 0) ⟨[3],iZ,.nil⟩)⟩)]) jb
 |_=>{}
theorem ah9:eP 59 ajo:=okW ajJ (bL aei (bL agl fE))
def m20(v:((Y9×iU×Unit)×Unit)):Option BM:=
(m57 (v.1.2,())).bind fun a=>
bif !a.1.1 then some ((ByteArray.empty,()),())
else((m60 ((v.1.2.1,v.1.1.2.2.2.1,()),())).bind fun b=>
(m59 (b.2,())).bind fun c=>
some c)
def akj:Abs.Spec:=⟨0,⟨[0,1],(.dat Z2 oL),.nil⟩,⟨[4],iZ,.nil⟩,m20⟩
theorem aiH:eP 20 akj:=okW Aq (bL aei (bL akc (bL ah9 fE)))
def w9(v:(L9×((yx×Unit)×Unit))):Option ((L9×((yx×Unit)×Unit))⊕(iB⊕Ai)):=
let a:=(decide (v.1.1<(v.2.1.1.2.2.2.2.1.length:Int)))
bif a then Abs.rowAt v.2.1.1.2.2.2.2.1 v.1.1 fun b _=>
bif b.toList==v.1.2.1.toList then some (.inr (.inl ((true,()),())))
else some (.inl ((aS (v.1.1+1),v.1.2),v.2))
else(some (.inr (.inr ((),()))))
def m21(v:((yx×iU×Unit)×Unit)):Option iB:=
(m59 (v.1.2,())).bind fun a=>
(aA w9 ((0,a.1),(v.1.1,()),())).bind fun b=>
au b (fun c=>(some c)) (fun d=>(some ((false,()),())))
def ak5:Abs.Spec:=⟨0,⟨[0,1],(.dat Z8 oL),.nil⟩,⟨[4],jo,.nil⟩,m21⟩
def ajI:Nat→Abs.ig
 |0=>.mk bM bM (bQ [(3,⟨⟨[6,5,2],(.dat aU (.dat .str (.st Yh .nil))),(.box 6 akl .nil)⟩,aah⟩)]) jb
 |_=>{}
theorem ajz:eP 21 ak5:=okW ajI (bL ah9 fE)
def fw(v:aeX):Option (aeX⊕(aaX×acX)):=
bif decide (v.1.1<v.1.2.2.2.2.2.2.2.2.1)then((bif decide (0≤v.1.1∧v.1.1<v.2.2.1.length)then
(v.2.2.1[v.1.1.toNat]?).bind fun f=>
((bif f.2.1 !=v.1.2.2.2.2.1 then some ((true,v.1.2.1,v.1.2.2.1,v.1.2.2.2.1,v.1.2.2.2.2.1,v.1.2.2.2.2.2.1,v.1.2.2.2.2.2.2.1,v.1.2.2.2.2.2.2.2.1,v.1.2.2.2.2.2.2.2.2.1,v.1.1,()),v.2.1,v.2.2.1,v.2.2.2.1,v.2.2.2.2.1,v.2.2.2.2.2.1,(f,()),v.2.2.2.2.2.2)
else some ((!(f.2.2.2.1.toList==v.1.2.2.2.1.toList),v.1.2.1,v.1.2.2.1,v.1.2.2.2.1,v.1.2.2.2.2.1,v.1.2.2.2.2.2.1,v.1.2.2.2.2.2.2.1,v.1.2.2.2.2.2.2.2.1,v.1.2.2.2.2.2.2.2.2.1,v.1.1,()),v.2.1,v.2.2.1,v.2.2.2.1,v.2.2.2.2.1,v.2.2.2.2.2.1,(f,()),v.2.2.2.2.2.2)):Option ((Bool×Int×Int×ByteArray×Int×Int×Int×Int×Int×Int×Unit)×acI)).bind fun a=>
bif a.1.1 then some (a.1.2,a.2.1,a.2.2.1,a.2.2.2.1,a.2.2.2.2.1,a.2.2.2.2.2.1,a.2.2.2.2.2.2.2)
else((((let g:=(decide (a.2.2.2.2.2.2.1.1.1<a.1.2.2.1))
bif g then some ((true,a.1.2.2.1,a.1.2.2.2.1,a.1.2.2.2.2.1,a.1.2.2.2.2.2.1,a.1.2.2.2.2.2.2.1,a.1.2.2.2.2.2.2.2.2.1,a.1.2.2.2.2.2.2.2.2.2.1,a.1.2.1,a.1.2.2.2.2.2.2.2.1,()),a.2)
else bif a.2.2.2.2.2.2.1.1.1==a.1.2.2.1 then(m21 ((a.2.2.2.2.2.2.1.1,a.2.1,()),())).bind fun h=>
some ((!h.1.1,a.1.2.2.1,a.1.2.2.2.1,a.1.2.2.2.2.1,a.1.2.2.2.2.2.1,a.1.2.2.2.2.2.2.1,a.1.2.2.2.2.2.2.2.2.1,a.1.2.2.2.2.2.2.2.2.2.1,a.1.2.1,a.1.2.2.2.2.2.2.2.1,()),a.2)
else some ((false,a.1.2.2.1,a.1.2.2.2.1,a.1.2.2.2.2.1,a.1.2.2.2.2.2.1,a.1.2.2.2.2.2.2.1,a.1.2.2.2.2.2.2.2.2.1,a.1.2.2.2.2.2.2.2.2.2.1,a.1.2.1,a.1.2.2.2.2.2.2.2.1,()),a.2)):Option afO).bind fun c=>
bif c.1.1 then some ((c.1.2.1,c.1.2.2.1,c.1.2.2.2.1,c.1.2.2.2.2.1,c.1.2.2.2.2.2.1,c.2.2.2.2.2.2.1.1.1,c.1.2.2.2.2.2.2.1,c.1.2.2.2.2.2.2.2.1,c.1.2.2.2.2.2.2.2.2.1,()),c.2)
else some ((c.1.2.1,c.1.2.2.1,c.1.2.2.2.1,c.1.2.2.2.2.1,c.1.2.2.2.2.2.1,c.1.2.2.2.2.2.2.2.2.2.1,c.1.2.2.2.2.2.2.1,c.1.2.2.2.2.2.2.2.1,c.1.2.2.2.2.2.2.2.2.1,()),c.2)):Option ((Int×ByteArray×Int×Int×Int×Int×Int×Int×Int×Unit)×acI)).bind fun e=>
((bif decide (e.1.2.2.2.2.2.2.2.2.1<0)then(m21 ((e.2.2.2.2.2.2.1.1,e.2.1,()),())).bind fun j=>
some ((j.1.1,e.1),e.2)
else some ((false,e.1),e.2)):Option afO).bind fun b=>
bif b.1.1 then some ((b.2.2.2.2.2.2.1.1.1,b.1.2.1,b.1.2.2.1,b.1.2.2.2.1,b.1.2.2.2.2.1,b.1.2.2.2.2.2.1,b.1.2.2.2.2.2.2.1,b.1.2.2.2.2.2.2.2.1,b.1.2.2.2.2.2.2.2.2.1,()),b.2.1,b.2.2.1,b.2.2.2.1,b.2.2.2.2.1,b.2.2.2.2.2.1,b.2.2.2.2.2.2.2)
else some ((b.1.2.2.2.2.2.2.2.2.2.1,b.1.2.1,b.1.2.2.1,b.1.2.2.2.1,b.1.2.2.2.2.1,b.1.2.2.2.2.2.1,b.1.2.2.2.2.2.2.1,b.1.2.2.2.2.2.2.2.1,b.1.2.2.2.2.2.2.2.2.1,()),b.2.1,b.2.2.1,b.2.2.2.1,b.2.2.2.2.1,b.2.2.2.2.2.1,b.2.2.2.2.2.2.2)
else none):Option ((Int×Int×ByteArray×Int×Int×Int×Int×Int×Int×Unit)×acX)).bind fun d=>
some (.inl ((aS (d.1.2.2.2.2.2.2.2.2.1+1),d.1.1,d.1.2.1,d.1.2.2.1,d.1.2.2.2.1,d.1.2.2.2.2.1,d.1.2.2.2.2.2.1,d.1.2.2.2.2.2.2.1,d.1.2.2.2.2.2.2.2.1,()),d.2))
else(some (.inr ((v.1.2.2.1,v.1.2.2.2.2.2.1,v.1.2.2.2.2.2.2.1,v.1.2.1,v.1.2.2.2.2.2.2.2.1,()),v.2)))
def pI(v:(Ku×Yg)):Option ((Ku×Yg)⊕(iB⊕Ai)):=
bif decide (v.1.2.1<v.1.2.2.1)then bif decide (0≤v.1.2.1∧v.1.2.1<v.2.2.2.2.1.length)then
(v.2.2.2.2.1[v.1.2.1.toNat]?).bind fun d=>
bif decide (0≤d∧d<v.2.2.2.2.2.1.length)then
(v.2.2.2.2.2.1[d.toNat]?).bind fun e=>
(m20 ((e,v.2.1,()),())).bind fun g=>
(aA fw ((0,-1,v.1.1,g.1.1,d,v.1.2.2.1,v.1.2.1,-1,((v.2.2.1.length:Nat):Int),()),v.2.1,v.2.2.1,v.2.2.2.1,v.2.2.2.2.1,(e,()),v.2.2.2.2.2)).bind fun a=>
((bif decide (a.1.2.2.2.2.1≥0)then let f:=(aS (a.1.2.2.2.2.1+a.2.2.2.2.2.1.1.2.2.2.2.2.1))
let h:=(if f>(aS (a.1.1+a.2.2.2.2.2.1.1.2.2.2.2.1))then f else aS (a.1.1+a.2.2.2.2.2.1.1.2.2.2.2.1))
some ((a.1.1,a.1.2.1,a.1.2.2.1,h,a.1.2.2.2.1,()),a.2.1,a.2.2.1,a.2.2.2.1,a.2.2.2.2.1,a.2.2.2.2.2.2)
else some ((a.1.1,a.1.2.1,a.1.2.2.1,aS (a.1.1+a.2.2.2.2.2.1.1.2.2.2.2.1),a.1.2.2.2.1,()),a.2.1,a.2.2.1,a.2.2.2.1,a.2.2.2.2.1,a.2.2.2.2.2.2)):Option (aaX×Yg)).bind fun b=>
((bif decide (b.1.2.2.2.2.1<b.1.1)then some ((true,b.1.1,b.1.2.1,b.1.2.2.1,()),b.2)
else let j:=(decide (b.1.2.2.2.2.1>b.1.2.2.2.1))
some ((j,b.1.1,b.1.2.1,b.1.2.2.1,()),b.2)):Option ((Bool×Int×Int×Int×Unit)×Yg)).bind fun c=>
bif c.1.1 then some (.inr (.inl ((false,()),())))
else some (.inl ((c.1.2.1,aS (c.1.2.2.2.1+1),c.1.2.2.1,()),c.2))
else none
else none
else(some (.inr (.inr ((),()))))
def m4(v:((List Int×Int×Unit)×Unit)):Option iB:=
(m9 ((v.1.1,()),())).bind fun g=>
bif !g.1.1 then(m10 ((),())).bind fun h=>
some h
else((m11 ((v.1.1,()),())).bind fun j=>
(m12 ((3,()),j.2)).bind fun c=>
(m13 ((10,()),c.2.1,())).bind fun b=>
bif decide ((0:Int)≤((v.1.2.1:Int).tmod 3)∧(((v.1.2.1:Int).tmod 3):Int)< [(bs [97]),bs [98],(bs [99,114,105,116])].length)then
([(bs [97]),bs [98],(bs [99,114,105,116])][((v.1.2.1:Int).tmod 3).toNat]?).bind fun e=>
((let k:=(decide (((b.2.2.1.length:Nat):Int)>0))
bif k then bif decide ((0:Int)≤(aS (((b.2.2.1.length:Nat):Int)-1))∧((aS (((b.2.2.1.length:Nat):Int)-1)):Int)<b.2.2.1.length)then
(b.2.2.1[(aS (((b.2.2.1.length:Nat):Int)-1)).toNat]?).bind fun l=>
some ((l.1,()),([(bs [109,105,110,101],bs [120],()),(bs [116,101,97,109],e,())]:List Ov),((0,()),()),b.2.2.1,c.2.2.2.1,())
else none
else some ((0,()),([(bs [109,105,110,101],bs [120],()),(bs [116,101,97,109],e,())]:List Ov),((0,()),()),b.2.2.1,c.2.2.2.1,())):Option (nZ×(iU×G5×List Si×List Y9×Unit))).bind fun a=>
bif decide (a.2.2.2.1.length+([(a.1.1,a.2.1,true,())]:List Si).length≤4294967296)then
let m:=(a.2.2.2.1++([(a.1.1,a.2.1,true,())]:List Si))
(m15 (((a.2.2.2.2.1,[],a.2.2.1.1),m,aS (a.1.1+2000),()),())).bind fun d=>
bif d.1.1 !=0 then((bif d.1.1==5 then(m10 ((),())).bind fun n=>
some n
else some ((false,()),())):Option iB).bind fun o=>
some o
else(m19 ((a.2.2.2.2.1,a.2.1,()),())).bind fun f=>
(aA pI ((a.1.1,0,((f.2.1.length:Nat):Int),()),a.2.1,d.2.2.1,a.2.2.1,f.2.1,a.2.2.2.2)).bind fun p=>
au p (fun q=>(some q)) (fun s=>((m10 ((),())).bind fun r=>
some r))
else none
else none)
def sp4:Abs.Spec:=⟨0,⟨[0,1],(.dat rIz (.dat (.int .u8) .nil)),.nil⟩,⟨[4],jo,.nil⟩,m4⟩
def an4:Nat→Abs.ig
 |0=>.mk (bQ [(34,⟨[155,8,9,12,6,78,79,80],(.dat .bool (.st x9 (.dat aU (.st rO (.st sW (.st KE qd)))))),acS⟩),(28,⟨[132,8,9,17,15,92,12,6,78,79,80,16,18,93,94,21,19],(.dat .bool Rs6),aar⟩),(26,⟨[123,8,9,17,15,92,12,6,78,79,80,16,93,94,21,19,18],(.dat .bool (.st x9 (.dat aU (.dat .str (.dat aU (.st rO (.st rO (.st sW (.st KE (.dat aU (.dat aU (.st Jl (.dat aU (.dat aU (.st (.ptr (5,0) 6 0 0) qd))))))))))))))),aar⟩),(25,⟨[107,8,19,9,17,15,92,12,6,78,79,80,16,18,93,94,21],(.dat .bool (.st x9 (.dat aU (.dat aU (.dat .str (.dat aU (.st rO (.st rO (.st sW (.st KE (.dat aU (.dat aU (.st Jl (.dat aU (.dat aU (.dat aU (.st (.ptr (5,0) 6 0 0) .nil))))))))))))))))),aar⟩),(15,⟨[4],jo,.nil⟩)]) (bQ [(34,(⟨[8,9,12,6,78,79,80,22,19],(.st x9 (.dat aU (.st rO (.st sW (.st KE ad3))))),acS⟩,none)),(30,(⟨[8,19,9,17,15,92,12,6,78,79,80,16,18,93,94],(.st x9 (.dat aU (.dat aU (.dat .str (.dat aU (.st rO (.st rO (.st sW (.st KE (.dat aU (.dat aU (.st Jl KM)))))))))))),adK⟩,none)),(28,(⟨[8,9,17,15,92,12,6,78,79,80,16,18,93,94,21,19],Rs6,aar⟩,none)),(12,(⟨[8,9,6,7],(.st x9 (.dat aU (.st Xd (.st (.own U4 (2,0)) .nil)))),(.arr SQ false (.box 3 (.agg (.st (.own Z2 (3,0)) (.st .nil dK)) .nil) (.arr U4 false (.arr Z2 false .nil))))⟩,none))]) (bQ [(17,⟨⟨[8,9,80,12,6,78,79],(.st x9 (.dat aU (.dat aU (.st rO (.st sW (.st KE dK)))))),acS⟩,aah⟩),(23,⟨⟨[94,8,19,9,17,15,92,12,6,78,79,80,16,18,93],(.dat aU (.st x9 (.dat aU (.dat aU (.dat .str (.dat aU (.st rO (.st rO (.st sW (.st KE (.dat aU (.dat aU (.st Jl qd))))))))))))),adK⟩,(.one (.exit 2) ⟨[8,9,12,6,78,79,80,19,16,18],(.st x9 (.dat aU (.st rO (.st sW (.st KE (.dat aU (.dat aU (.dat aU (.st Jl dK))))))))),adK⟩)⟩)]) jb
 |_=>{}
theorem ok4:eP 4 sp4:=okW an4 (bL ok9 (bL ak1 (bL ajS (bL ajP (bL ajO (bL agE (bL aiI (bL aiH (bL ajz fE)))))))))
def aaS(v:Ai):Option ab0:=
some ((),[(bs [61]),bs [33,61],bs [126],(bs [33,126])],())
def lT(v:(L9×Iy)):Option ((L9×Iy)⊕(L9×Iy)):=
((bif decide (v.1.1<(v.1.2.1.size:Int))then bif decide (0≤v.1.1∧v.1.1<v.1.2.1.size)then
let b:=(((((v.1.2.1[v.1.1.toNat]?.getD 0).toNat:Nat):Int):Int) !=61)
bif b then bif decide (0≤v.1.1∧v.1.1<v.1.2.1.size)then
let c:=(((((v.1.2.1[v.1.1.toNat]?.getD 0).toNat:Nat):Int):Int) !=33)
bif c then bif decide (0≤v.1.1∧v.1.1<v.1.2.1.size)then
let d:=(((((v.1.2.1[v.1.1.toNat]?.getD 0).toNat:Nat):Int):Int) !=126)
some ((d,v.1.2.1,v.1.1,()),v.2)
else none
else some ((false,v.1.2.1,v.1.1,()),v.2)
else none
else some ((false,v.1.2.1,v.1.1,()),v.2)
else none
else some ((false,v.1.2.1,v.1.1,()),v.2)):Option (aes×Iy)).bind fun a=>
bif a.1.1 then some (.inl ((aS (a.1.2.2.1+1),a.1.2.1,()),a.2))
else(some (.inr ((a.1.2.2.1,a.1.2.1,()),a.2)))
def gY(v:((ByteArray×Int×Unit)×acT)):Option (((ByteArray×Int×Unit)×acT)⊕(Sd×Us)):=
let c:=(decide (v.1.2.1<((v.2.2.2.1.length:Nat):Int)))
bif c then bif decide (0≤v.1.2.1∧v.1.2.1<v.2.2.2.1.length)then
(v.2.2.2.1[v.1.2.1.toNat]?).bind fun b=>
((let d:=(decide ((v.1.1.size:Int)>(b.size:Int)))
bif d then bif decide ((0:Int)≤(b.size:Int))then
bif decide (0≤(b.size:Int).toNat∧(b.size:Int).toNat≤v.1.1.size)then
bif decide (0≤v.1.2.1∧v.1.2.1<v.2.2.2.1.length)then
(v.2.2.2.1[v.1.2.1.toNat]?).bind fun e=>
bif (v.1.1.extract 0 (b.size:Int).toNat).toList==e.toList then bif decide ((0:Int)≤(b.size:Int)∧(b.size:Int)<v.1.1.size)then
let f:=(((((v.1.1[(b.size:Int).toNat]?.getD 0).toNat:Nat):Int):Int)==34)
some ((f,(b.size:Int),v.1),v.2)
else none
else some ((false,(b.size:Int),v.1),v.2)
else none
else none
else none
else some ((false,(b.size:Int),v.1),v.2)):Option ((Bool×Int×ByteArray×Int×Unit)×acT)).bind fun a=>
bif a.1.1 then bif decide ((0:Int)≤(aS (a.1.2.1+1)))then
bif decide ((aS (a.1.2.1+1)).toNat≤a.1.2.2.1.size∧a.1.2.2.1.size≤a.1.2.2.1.size)then
let g:=(a.1.2.2.1.extract (aS (a.1.2.1+1)).toNat a.1.2.2.1.size)
some (.inr ((g,()),a.2.1,((a.2.2.1.1.1,a.1.2.2.2.1,a.2.2.1.1.2.2),()),()))
else none
else none
else some (.inl ((a.1.2.2.1,aS (a.1.2.2.2.1+1),()),a.2))
else none
else(some (.inr ((v.1.1,()),v.2.1,v.2.2.1,())))
def fI(v:(Yv×Us)):Option ((Yv×Us)⊕(((ByteArray×Bool×Unit)×Iy)⊕(Unit×Us))):=
bif decide (v.1.1<(v.1.2.1.size:Int))then bif decide (0≤v.1.1∧v.1.1<v.1.2.1.size)then
let d:=(((((v.1.2.1[v.1.1.toNat]?.getD 0).toNat:Nat):Int):Int)==34)
bif d then bif decide ((0:Int)≤(aS (v.1.1+1)))then
bif decide ((aS (v.1.1+1)).toNat≤v.1.2.1.size∧v.1.2.1.size≤v.1.2.1.size)then
let e:=(v.1.2.1.extract (aS (v.1.1+1)).toNat v.1.2.1.size)
some (.inr (.inl ((e,true,()),((v.2.2.1.1.1,v.2.2.1.1.2.1,v.1.2.2),()),())))
else none
else none
else((((bif decide (0≤v.1.1∧v.1.1<v.1.2.1.size)then
let f:=(((((v.1.2.1[v.1.1.toNat]?.getD 0).toNat:Nat):Int):Int)==92)
bif f then let g:=(decide (((aS (v.1.1+1)):Int)<(v.1.2.1.size:Int)))
some ((g,v.1.2.1,v.1.2.2.1,v.1.1,()),v.2)
else some ((false,v.1.2.1,v.1.2.2.1,v.1.1,()),v.2)
else none):Option ((Bool×ByteArray×ByteArray×Int×Unit)×Us)).bind fun b=>
bif b.1.1 then some ((b.1.2.1,aS (b.1.2.2.2.1+1),b.1.2.2.1,()),b.2)
else some ((b.1.2.1,b.1.2.2.2.1,b.1.2.2.1,()),b.2)):Option (Nw×Us)).bind fun a=>
bif decide ((0:Int)≤a.1.2.1)then
bif decide ((0:Int)≤(aS (a.1.2.1+1)))then
bif decide (a.1.2.1.toNat≤(aS (a.1.2.1+1)).toNat∧(aS (a.1.2.1+1)).toNat≤a.1.1.size)then
let c:=(a.1.1.extract a.1.2.1.toNat (aS (a.1.2.1+1)).toNat)
bif decide (a.1.2.2.1.size+c.size≤4294967296)then
some (.inl ((aS (a.1.2.1+1),a.1.1,a.1.2.2.1++c,()),a.2))
else none
else none
else none
else none
else none
else(some (.inr (.inr ((),v.2))))
def OX(v:BM):Option ((ByteArray×Bool×Unit)×Iy):=
(aA lT ((0,v.1),((ByteArray.empty,0,ByteArray.empty,()),()),())).bind fun a=>
bif decide ((0:Int)≤a.1.1)then
bif decide (0≤a.1.1.toNat∧a.1.1.toNat≤a.1.2.1.size)then
bif decide ((0:Int)≤a.1.1)then
bif decide (a.1.1.toNat≤a.1.2.1.size∧a.1.2.1.size≤a.1.2.1.size)then
let c:=(a.1.2.1.extract a.1.1.toNat a.1.2.1.size)
(aaS ((),())).bind fun d=>
(aA gY ((c,0,()),a.2.1,((a.1.2.1.extract 0 a.1.1.toNat,-1,ByteArray.empty,()),()),d.2)).bind fun b=>
bif decide (b.2.2.1.1.2.1<0)then some ((ByteArray.empty,false,()),b.2.2)
else(aA fI ((0,b.1.1,ByteArray.empty,()),b.2)).bind fun e=>
au e (fun f=>(some f)) (fun g=>(some ((ByteArray.empty,false,()),g.2.2)))
else none
else none
else none
else none
def wY(v:(Sd×(Y3×Unit))):Option ((Sd×(Y3×Unit))⊕(rJ×(Y3×Unit))):=
(OX (v.1,())).bind fun b=>
((bif !b.1.2.1 then some ((true,b.1.1,()),b.2.1,v.2)
else let d:=(decide (((v.2.1.length:Nat):Int)>20))
some ((d,b.1.1,()),b.2.1,v.2)):Option (YB×(NN×Y3×Unit))).bind fun a=>
bif a.1.1 then some (.inr ((false,()),[],()))
else(bif decide (a.2.2.1.length+([a.2.1.1]:List Nw).length≤4294967296)then
let c:=(a.2.2.1++([a.2.1.1]:List Nw))
bif a.1.2.1.toList==ByteArray.empty.toList then some (.inr ((true,()),c,()))
else bif decide ((0:Int)≤0∧(0:Int)<a.1.2.1.size)then
let e:=(((((a.1.2.1[0]?.getD 0).toNat:Nat):Int):Int) !=44)
bif e then some (.inr ((false,()),[],()))
else bif decide (1≤a.1.2.1.size∧a.1.2.1.size≤a.1.2.1.size)then
some (.inl ((a.1.2.1.extract 1 a.1.2.1.size,()),c,()))
else none
else none
else none)
def m61(v:BM):Option (rJ×(Y3×Unit)):=
(aA wY (v.1,[],())).bind fun a=>
some a
def zm(v:(L9×R3)):Option ((L9×R3)⊕(Sd×yw)):=
let c:=(decide (v.1.1<((v.2.1.length:Nat):Int)))
bif c then bif decide (0≤v.1.1∧v.1.1<v.2.1.length)then
(v.2.1[v.1.1.toNat]?).bind fun a=>
bif decide (0≤v.1.1∧v.1.1<v.2.1.length)then
(v.2.1[v.1.1.toNat]?).bind fun b=>
bif decide (v.2.2.1.length+([(a.1,b.2.2)]:List Ov).length≤4294967296)then
let d:=(v.2.2.1++([(a.1,b.2.2)]:List Ov))
some (.inl ((aS (v.1.1+1),v.1.2),v.2.1,d,()))
else none
else none
else none
else(some (.inr (v.1.2,v.2.2)))
def m22(v:BM):Option (nZ×yw):=
((bif !(v.1.1.toList==(bs [123,125]).toList)then((bif decide ((v.1.1.size:Int)<2)then some ((true,v.1),[],())
else bif decide ((0:Int)≤0∧(0:Int)<v.1.1.size)then
let d:=(((((v.1.1[0]?.getD 0).toNat:Nat):Int):Int) !=123)
bif d then some ((true,v.1),[],())
else bif decide ((0:Int)≤(aS ((v.1.1.size:Int)-1))∧((aS ((v.1.1.size:Int)-1)):Int)<v.1.1.size)then
let e:=(((((v.1.1[(aS ((v.1.1.size:Int)-1)).toNat]?.getD 0).toNat:Nat):Int):Int) !=125)
some ((e,v.1),[],())
else none
else none):Option (YB×yw)).bind fun a=>
bif a.1.1 then some (.inr ((2,()),[],()))
else bif decide ((0:Int)≤(aS ((a.1.2.1.size:Int)-1)))then
bif decide (1≤(aS ((a.1.2.1.size:Int)-1)).toNat∧(aS ((a.1.2.1.size:Int)-1)).toNat≤a.1.2.1.size)then
let f:=(a.1.2.1.extract 1 (aS ((a.1.2.1.size:Int)-1)).toNat)
(m61 ((f,()),())).bind fun c=>
bif !c.1.1 then some (.inr ((2,()),[],()))
else(aA zm ((0,a.1.2),c.2.1,a.2)).bind fun g=>
some (.inl g)
else none
else none
else some (.inl (v.1,[],()))):Option ((Sd×yw)⊕(nZ×yw))).bind fun h=>
au h (fun b=>((m59 (b.2,())).bind fun j=>
bif !(j.1.1.toList==b.1.1.toList)then some ((2,()),[],())
else some ((0,()),b.2))) (fun k=>(some k))
def aaU(v:(RF×acF)):Option ((RF×acF)⊕(iB⊕Ai)):=
let b:=(decide (v.1.1<((v.2.2.2.1.length:Nat):Int)))
bif b then((bif decide (0≤v.1.1∧v.1.1<v.2.2.2.1.length)then
(v.2.2.2.1[v.1.1.toNat]?).bind fun c=>
bif c==v.2.1.1.2.1 then Abs.rowAt v.2.2.1.1.1 v.2.1.1.2.1 fun d _=>
(m20 ((d,v.1.2),())).bind fun e=>
some ((e.1.1.toList==v.2.1.1.2.2.2.1.toList,v.1.2.1,v.1.1,()),v.2)
else some ((false,v.1.2.1,v.1.1,()),v.2)
else none):Option ((Bool×iU×Int×Unit)×acF)).bind fun a=>
bif a.1.1 then some (.inr (.inl ((true,()),())))
else some (.inl ((aS (a.1.2.2.1+1),a.1.2.1,()),a.2))
else(some (.inr (.inr ((),()))))
def m23(v:((XY×yx×iU×Unit)×Unit)):Option iB:=
(m19 ((v.1.1.1,v.1.2.2),())).bind fun a=>
(aA aaU ((0,v.1.2.2),(v.1.2.1,()),(v.1.1,()),a.2)).bind fun b=>
au b (fun c=>(some c)) (fun d=>(some ((false,()),())))
def Zq(v:(aaX×acN)):Option ((aaX×acN)⊕(iB⊕(Ku×Y34))):=
bif decide (v.1.1<v.1.2.2.2.2.1)then bif decide (0≤v.1.1∧v.1.1<v.2.2.2.1.length)then
(v.2.2.2.1[v.1.1.toNat]?).bind fun b=>
(m22 ((b,()),())).bind fun c=>
((bif c.1.1 !=0 then some ((true,v.1.2.1,v.1.2.2.1,v.1.2.2.2.1,v.1.2.2.2.2.1,v.1.1,()),v.2)
else(m23 (((v.2.2.2.2.2.1,v.2.2.2.2.2.2.1,v.2.2.1.1),v.2.1.1,c.2),())).bind fun d=>
bif !d.1.1 then some ((true,v.1.2.1,v.1.2.2.1,v.1.2.2.2.1,v.1.2.2.2.2.1,v.1.1,()),v.2)
else bif decide (v.1.1>0)then let e:=(decide (v.1.1<(v.2.1.1.2.2.2.2.1.length:Int)))
bif e then Abs.rowAt v.2.1.1.2.2.2.2.1 (aS (v.1.1-1)) fun f _=>
some ((!(Op.bytesLess f.toList b.toList),v.1.2.1,v.1.2.2.1,v.1.2.2.2.1,v.1.2.2.2.2.1,v.1.1,()),v.2)
else some ((false,v.1.2.1,v.1.2.2.1,v.1.2.2.2.1,v.1.2.2.2.2.1,v.1.1,()),v.2)
else some ((false,v.1.2.1,v.1.2.2.1,v.1.2.2.2.1,v.1.2.2.2.2.1,v.1.1,()),v.2)):Option ((Bool×Int×Int×Int×Int×Int×Unit)×acN)).bind fun a=>
bif a.1.1 then some (.inr (.inl ((false,()),())))
else some (.inl ((aS (a.1.2.2.2.2.2.1+1),a.1.2.1,a.1.2.2.1,a.1.2.2.2.1,a.1.2.2.2.2.1,()),a.2))
else none
else(some (.inr (.inr ((v.1.2.1,v.1.2.2.1,v.1.2.2.2.1,()),v.2.1,v.2.2.2.2.1,v.2.2.1,v.2.2.2.2.2))))
def aaA(v:ahr):Option (ahr⊕((ByteArray×Bool×(Nat×Nat)×Int×List ByteArray×Int×Int×Int×Int×Int×Int×Unit)×Y34)):=
let b:=(decide (v.1.1<v.1.2.2.2.2.2.2.2.2.2.2.2.2.2.1))
bif b then Abs.rowAt v.1.2.2.2.1 v.1.1 fun c _=>
((bif v.1.2.2.1 then some ((v.1.2.1,true,v.1.2.2.2.1,v.1.2.2.2.2.1,v.1.2.2.2.2.2.1,v.1.2.2.2.2.2.2.1,v.1.2.2.2.2.2.2.2.1,v.1.2.2.2.2.2.2.2.2.1,v.1.2.2.2.2.2.2.2.2.2.1,v.1.2.2.2.2.2.2.2.2.2.2.1,v.1.2.2.2.2.2.2.2.2.2.2.2.1,v.1.2.2.2.2.2.2.2.2.2.2.2.2.1,v.1.2.2.2.2.2.2.2.2.2.2.2.2.2.1,v.1.1,()),v.2)
else bif c.toList==v.1.2.1.toList then bif v.2.2.1.1.2.1==v.2.1.1.2.1 then some ((v.1.2.1,v.2.2.1.1.2.2.2.1.toList==v.2.1.1.2.2.2.1.toList,v.1.2.2.2.1,v.1.2.2.2.2.1,v.1.2.2.2.2.2.1,v.1.2.2.2.2.2.2.1,v.1.2.2.2.2.2.2.2.1,v.1.2.2.2.2.2.2.2.2.1,v.1.2.2.2.2.2.2.2.2.2.1,v.1.2.2.2.2.2.2.2.2.2.2.1,v.1.2.2.2.2.2.2.2.2.2.2.2.1,v.1.2.2.2.2.2.2.2.2.2.2.2.2.1,v.1.2.2.2.2.2.2.2.2.2.2.2.2.2.1,v.1.1,()),v.2)
else some ((v.1.2.1,false,v.1.2.2.2.1,v.1.2.2.2.2.1,v.1.2.2.2.2.2.1,v.1.2.2.2.2.2.2.1,v.1.2.2.2.2.2.2.2.1,v.1.2.2.2.2.2.2.2.2.1,v.1.2.2.2.2.2.2.2.2.2.1,v.1.2.2.2.2.2.2.2.2.2.2.1,v.1.2.2.2.2.2.2.2.2.2.2.2.1,v.1.2.2.2.2.2.2.2.2.2.2.2.2.1,v.1.2.2.2.2.2.2.2.2.2.2.2.2.2.1,v.1.1,()),v.2)
else some ((v.1.2.1,false,v.1.2.2.2.1,v.1.2.2.2.2.1,v.1.2.2.2.2.2.1,v.1.2.2.2.2.2.2.1,v.1.2.2.2.2.2.2.2.1,v.1.2.2.2.2.2.2.2.2.1,v.1.2.2.2.2.2.2.2.2.2.1,v.1.2.2.2.2.2.2.2.2.2.2.1,v.1.2.2.2.2.2.2.2.2.2.2.2.1,v.1.2.2.2.2.2.2.2.2.2.2.2.2.1,v.1.2.2.2.2.2.2.2.2.2.2.2.2.2.1,v.1.1,()),v.2)):Option ((ByteArray×Bool×List ByteArray×(Nat×Nat)×Int×List ByteArray×Int×Int×Int×Int×Int×Int×Int×Int×Unit)×((yx×Unit)×(yx×Unit)×List yx×G5×List Y9×G9×Unit))).bind fun a=>
some (.inl ((aS (a.1.2.2.2.2.2.2.2.2.2.2.2.2.2.1+1),a.1.1,a.1.2.1,a.1.2.2.1,a.1.2.2.2.1,a.1.2.2.2.2.1,a.1.2.2.2.2.2.1,a.1.2.2.2.2.2.2.1,a.1.2.2.2.2.2.2.2.1,a.1.2.2.2.2.2.2.2.2.1,a.1.2.2.2.2.2.2.2.2.2.1,a.1.2.2.2.2.2.2.2.2.2.2.1,a.1.2.2.2.2.2.2.2.2.2.2.2.1,a.1.2.2.2.2.2.2.2.2.2.2.2.2.1,()),a.2))
else(some (.inr ((v.1.2.1,v.1.2.2.1,v.1.2.2.2.2.1,v.1.2.2.2.2.2.1,v.1.2.2.2.2.2.2.1,v.1.2.2.2.2.2.2.2.1,v.1.2.2.2.2.2.2.2.2.1,v.1.2.2.2.2.2.2.2.2.2.1,v.1.2.2.2.2.2.2.2.2.2.2.1,v.1.2.2.2.2.2.2.2.2.2.2.2.1,v.1.2.2.2.2.2.2.2.2.2.2.2.2.1,()),v.2.1,v.2.2.2)))
def ZV(v:afq):Option (afq⊕((Int×List ByteArray×Int×Int×Int×Int×Bool×Unit)×Y34)):=
let c:=(decide (v.1.2.2.1<v.1.2.2.2.2.2.2.2.2.2.2.1))
bif c then bif decide (0≤v.1.2.2.1∧v.1.2.2.1<v.1.2.2.2.1.2)then
(v.2.2.1[(v.1.2.2.2.1.1+v.1.2.2.1.toNat)]?).bind fun b=>
(aA aaA ((0,v.1.1,v.1.2.1,b.2.2.2.2.1,v.1.2.2.2.1,v.1.2.2.2.2.1,v.1.2.2.2.2.2.1,v.1.2.2.2.2.2.2.1,v.1.2.2.2.2.2.2.2.1,v.1.2.2.2.2.2.2.2.2.1,v.1.2.2.2.2.2.2.2.2.2.1,v.1.2.2.2.2.2.2.2.2.2.2.1,v.1.2.2.1,(b.2.2.2.2.1.length:Int),()),v.2.1,(b,()),v.2.2)).bind fun a=>
some (.inl ((a.1.1,a.1.2.1,aS (a.1.2.2.2.2.2.2.2.2.2.2.1+1),a.1.2.2.1,a.1.2.2.2.1,a.1.2.2.2.2.1,a.1.2.2.2.2.2.1,a.1.2.2.2.2.2.2.1,a.1.2.2.2.2.2.2.2.1,a.1.2.2.2.2.2.2.2.2.1,a.1.2.2.2.2.2.2.2.2.2.1,()),a.2))
else none
else(some (.inr ((v.1.2.2.2.2.1,v.1.2.2.2.2.2.1,v.1.2.2.2.2.2.2.1,v.1.2.2.2.2.2.2.2.1,v.1.2.2.2.2.2.2.2.2.1,v.1.2.2.2.2.2.2.2.2.2.1,v.1.2.1,()),v.2)))
def Yk(v:afS):Option (afS⊕(iB⊕(Ku×aa7))):=
bif decide (v.1.1<v.1.2.2.2.2.2.1)then Abs.rowAt v.1.2.2.1 v.1.1 fun b _=>
bif decide ((0:Int)≤v.1.2.1)then
bif decide (0≤v.1.2.1.toNat∧v.1.2.1.toNat≤v.2.2.1.length)then
(aA ZV ((b,false,0,(0,v.1.2.1.toNat),v.1.2.1,v.1.2.2.1,v.1.2.2.2.1,v.1.2.2.2.2.1,v.1.2.2.2.2.2.1,v.1.1,((v.1.2.1.toNat:Nat):Int),()),v.2)).bind fun a=>
bif !a.1.2.2.2.2.2.2.1 then some (.inr (.inl ((false,()),())))
else some (.inl ((aS (a.1.2.2.2.2.2.1+1),a.1.1,a.1.2.1,a.1.2.2.1,a.1.2.2.2.1,a.1.2.2.2.2.1,()),a.2))
else none
else none
else(some (.inr (.inr ((v.1.2.2.2.1,v.1.2.2.2.2.1,v.1.2.1,()),v.2.1,v.2.2.2.1,v.2.2.1,v.2.2.2.2))))
def ZJ(v:abF):Option (abF⊕(iB⊕adx)):=
bif decide (v.1.1<v.1.2.2.2.2.1)then bif decide (0≤v.1.1∧v.1.1<v.1.2.1.2)then
(v.2.2.2.1[(v.1.2.1.1+v.1.1.toNat)]?).bind fun b=>
((bif b.2.1==v.2.1.1.2.1 then bif b.2.2.2.1.toList==v.2.1.1.2.2.2.1.toList then bif decide (0≤v.2.1.1.2.1∧v.2.1.1.2.1<v.2.2.2.2.1.length)then
(v.2.2.2.2.1[v.2.1.1.2.1.toNat]?).bind fun c=>
let d:=(decide (((aS (v.2.1.1.1-b.1)):Int)<c.2.2.2.2.2.1))
some ((d,v.1.2.1,v.1.2.2.1,v.1.2.2.2.1,v.1.2.2.2.2.1,v.1.1,()),v.2)
else none
else some ((false,v.1.2.1,v.1.2.2.1,v.1.2.2.2.1,v.1.2.2.2.2.1,v.1.1,()),v.2)
else some ((false,v.1.2.1,v.1.2.2.1,v.1.2.2.2.1,v.1.2.2.2.2.1,v.1.1,()),v.2)):Option ((Bool×(Nat×Nat)×Int×Int×Int×Int×Unit)×aa7)).bind fun a=>
bif a.1.1 then some (.inr (.inl ((false,()),())))
else some (.inl ((aS (a.1.2.2.2.2.2.1+1),a.1.2.1,a.1.2.2.1,a.1.2.2.2.1,a.1.2.2.2.2.1,()),a.2))
else none
else(some (.inr (.inr ((v.1.2.2.1,v.1.2.2.2.1,()),v.2.2))))
def ac8(v:adx):Option (adx⊕(iB⊕Ai)):=
bif decide (v.1.1<v.1.2.1)then bif decide (0≤v.1.1∧v.1.1<v.2.2.1.length)then
(v.2.2.1[v.1.1.toNat]?).bind fun a=>
((bif decide (a.2.1<0)then some ((true,v.1.1,v.1.2.1,v.1.1,()),(a,()),v.2)
else let f:=(decide (a.2.1≥((v.2.2.2.1.length:Nat):Int)))
bif f then some ((true,v.1.1,v.1.2.1,v.1.1,()),(a,()),v.2)
else bif decide (0≤a.2.1∧a.2.1<v.2.2.2.1.length)then
(v.2.2.2.1[a.2.1.toNat]?).bind fun g=>
bif a.2.2.1 !=g.2.2.1 then some ((true,v.1.1,v.1.2.1,v.1.1,()),(a,()),v.2)
else let h:=(aS ((a.2.2.2.2.1.length:Int)+(a.2.2.2.2.2.1.length:Int)))
bif h==0 then some ((true,v.1.1,v.1.2.1,v.1.1,()),(a,()),v.2)
else bif decide (v.1.1>0)then bif decide ((0:Int)≤(aS (v.1.1-1))∧((aS (v.1.1-1)):Int)<v.2.2.1.length)then
(v.2.2.1[(aS (v.1.1-1)).toNat]?).bind fun j=>
some ((decide (a.1<j.1),v.1.1,v.1.2.1,v.1.1,()),(a,()),v.2)
else none
else some ((false,v.1.1,v.1.2.1,v.1.1,()),(a,()),v.2)
else none):Option ((Bool×Int×Int×Int×Unit)×aa7)).bind fun b=>
bif b.1.1 then some (.inr (.inl ((false,()),())))
else bif decide (0+b.2.1.1.2.2.2.2.1.length≤4294967296)then
bif decide (b.2.1.1.2.2.2.2.1.length+b.2.1.1.2.2.2.2.2.1.length≤4294967296)then
(aA Zq ((0,b.1.2.1,b.1.2.2.1,b.1.2.2.2.1,(((b.2.1.1.2.2.2.2.1++b.2.1.1.2.2.2.2.2.1).length:Nat):Int),()),b.2.1,b.2.2.1,b.2.1.1.2.2.2.2.1++b.2.1.1.2.2.2.2.2.1,b.2.2.2)).bind fun k=>
au k (fun l=>(some (.inr (.inl l)))) (fun d=>((aA Yk ((0,d.1.1,d.2.1.1.2.2.2.2.2.1,d.1.2.1,d.1.2.2.1,(d.2.1.1.2.2.2.2.2.1.length:Int),()),d.2)).bind fun m=>
au m (fun n=>(some (.inr (.inl n)))) (fun c=>(bif decide ((0:Int)≤c.1.2.2.1)then
bif decide (0≤c.1.2.2.1.toNat∧c.1.2.2.1.toNat≤c.2.2.2.1.length)then
(aA ZJ ((0,(0,c.1.2.2.1.toNat),c.1.1,c.1.2.1,((c.1.2.2.1.toNat:Nat):Int),()),c.2)).bind fun o=>
au o (fun p=>(some (.inr (.inl p)))) (fun e=>(some (.inl ((aS (e.1.2.1+1),e.1.1,()),e.2))))
else none
else none))))
else none
else none
else none
else(some (.inr (.inr ((),()))))
def m5(v:(Cg×Unit)):Option iB:=
(m9 v).bind fun c=>
bif !c.1.1 then(m10 ((),())).bind fun d=>
some d
else((m11 v).bind fun e=>
(m12 ((3,()),e.2)).bind fun a=>
(m13 ((14,()),a.2.1,())).bind fun f=>
(m15 (((a.2.2.2.1,a.2.2.2.2.1,a.2.2.1.1),f.2.2.1,4000,()),())).bind fun b=>
bif b.1.1 !=0 then((bif b.1.1==5 then(m10 ((),())).bind fun g=>
some g
else some ((false,()),())):Option iB).bind fun h=>
some h
else(aA ac8 ((0,((b.2.2.1.length:Nat):Int),()),a.2.2.1,b.2.2.1,a.2.2.2)).bind fun j=>
au j (fun k=>(some k)) (fun m=>((m10 ((),())).bind fun l=>
some l)))
end
end Go.Proofs.YtchnmpafhfjimaaGreatDoor
namespace Go.Proofs.YtchnmpafhfjimaaGreatDoor
open Go Go.Abs Go.Lab
theorem sS:(∀h:Decidable True,@decide True h=true)∧(∀h:Decidable False,@decide False h=false)∧(∀{α:Type} (a b:α),cond true a b=a)∧(∀{α:Type} (a b:α),cond false a b=b)∧(∀{α β:Type} (a:α) (f:α→Option β),(some a).bind f=f a)∧(!true)=false∧(!false)=true∧(∀b:Bool,(true&&b)=b)∧(∀b:Bool,(b&&true)=b)∧(∀b:Bool,(false&&b)=false)∧(∀b:Bool,(b&&false)=false)∧(∀{α:Type} [BEq α] [LawfulBEq α] (a:α),(a==a)=true)∧(∀{α:Type} [BEq α] [LawfulBEq α] (a:α),(a !=a)=false):=
 ⟨fun _=>amr _,fun _=>amy _,fun _ _=>rfl,fun _ _=>rfl,fun _ _=>rfl,rfl,rfl,alL,Bool.and_true,amh,Bool.and_false,fun _=>amg _,fun _=>alC _⟩
def sG{A B:Type}(l:List A)(n:Int)(F:A→Option B):Option B:=bif decide (0≤n)then(l[n.toNat]?).bind F else none
theorem aK{A B:Type}{l:List A}{n:Int}(F:A→Option B):Abs.rowAt l n (fun e _=>F e)=sG l n F:=by
 unfold Abs.rowAt sG;cases l[n.toNat]?<;>rfl
theorem aF{A B:Type}{l:List A}{i:Nat}{e:A}(h:l[i]?=some e)(F:A→Option B):sG l (i:Int) F=F e:=by
 unfold sG;rw[show decide (0≤(i:Int))=true from akW (by omega),akZ,h];rfl
theorem jT{A B:Type}{l:List A}{n:Int}{e:A}(h0:0≤n)(h:l[n.toNat]?=some e)(F:A→Option B):sG l n F=F e:=by
 unfold sG;rw[show decide (0≤n)=true from akW h0,h];rfl
theorem aI{i:Nat}(h:i<9223372036854775807):aS ((i:Int)+1)=((i+1:Nat):Int):=by rw[bK (by omega) (by omega)];omega
theorem drop_at{A:Type}{l:List A}{i:Nat}(h:i<l.length):∃e,l[i]?=some e∧l.drop i=e::l.drop (i+1):=
 ⟨l[i],alh h,List.drop_eq_getElem_cons h⟩
theorem getD_some{A:Type}{l:List A}{i:Nat}(h:i<l.length):∃e,l[i]?=some e:=⟨_,alh h⟩
theorem aR{A B:Type}{o:Option A}{f:A→Option B}{y:Option B}(x:A)(h:o=some x)(h2:f x=y):o.bind f=y:=by rw[h];exact h2
theorem dG(a b:Int):(a==b)=decide (a=b):=by
 by_cases h:a=b<;>simp[h]
abbrev bl(s:ByteArray):List UInt8:=s.data.toList
theorem aY(s:ByteArray):(bl s).length=s.size:=Array.length_toList
theorem NT(s:ByteArray)(i:Nat):(s[i]?:Option UInt8)=(bl s)[i]?:=by
 rw[Array.getElem?_toList];by_cases h:i<s.size
 ·rw[getElem?_pos s i h,getElem?_pos s.data i h];rfl
 ·rw[getElem?_neg s i h,getElem?_neg s.data i h]
theorem bA(s:ByteArray):s.toList=bl s:=ByteArray.toList_eq s
theorem oO{s t:ByteArray}(h:bl s=bl t):s=t:=ByteArray.ext (Array.toList_inj.1 h)
theorem kN(l:List UInt8):bl (bF l)=l:=rfl
theorem abu(s:ByteArray):bF (bl s)=s:=oO rfl
theorem Es:bl ByteArray.empty=[]:=rfl
theorem jY(s t:ByteArray):(bl s==bl t)=decide (s=t):=by
 by_cases h:s=t
 ·subst h;simp
 ·have:bl s≠bl t:=fun e=>h (oO e)
  rw[akY h];exact als.2 this
theorem size_mk(l:List UInt8):(bF l).size=l.length:=rfl
theorem iL(s:ByteArray)(a b:Nat):bl (s.extract a b)=((bl s).drop a).take (b-a):=by
 exact Lib.extract_data s a b
abbrev LT:Type:=ByteArray×ByteArray×Unit
abbrev MT:Type:=ByteArray×Int×ByteArray×Unit
def u8(c:UInt8):Int:=((c.toNat:Nat):Int)
theorem EL(c:UInt8):iJ c=((decide (97≤u8 c)&&decide (u8 c≤122))||(decide (48≤u8 c)&&decide (u8 c≤57))||u8 c==95):=by
 have e:(c==95)=(u8 c==95):=by
  by_cases h:c=95
  ·subst h;rfl
  ·have:u8 c≠95:=fun e=>h (UInt8.toNat_inj.1 (by unfold u8 at e;show c.toNat=95;omega))
   rw[als.2 h,als.2 this]
 unfold iJ;rw[e];have le:∀(n:UInt8),decide (n≤c)=decide ((n.toNat:Int)≤u8 c):=fun n=>aml.2 (by rw[UInt8.le_iff_toNat_le];unfold u8;omega)
 have ge:∀(n:UInt8),decide (c≤n)=decide (u8 c≤(n.toNat:Int)):=fun n=>aml.2 (by rw[UInt8.le_iff_toNat_le];unfold u8;omega)
 rw[le,ge,le,ge];rfl
theorem O7(c:UInt8):(decide (32≤c)&&decide (c≤126))=(decide (32≤u8 c)&&decide (u8 c≤126)):=by
 have le:∀(n:UInt8),decide (n≤c)=decide ((n.toNat:Int)≤u8 c):=fun n=>aml.2 (by rw[UInt8.le_iff_toNat_le];unfold u8;omega)
 have ge:∀(n:UInt8),decide (c≤n)=decide (u8 c≤(n.toNat:Int)):=fun n=>aml.2 (by rw[UInt8.le_iff_toNat_le];unfold u8;omega)
 rw[le,ge];rfl
theorem byte_at{s:ByteArray}{i:Nat}{c:UInt8}(h:(bl s)[i]?=some c):(((s[(i:Int).toNat]?.getD 0).toNat:Nat):Int)=u8 c:=by
 rw[akZ,NT,h];rfl
theorem IE(a b:Int):decide (a<b)= !decide (b≤a):=by
 by_cases h:a<b
 ·rw[akW h,akY (by omega)];rfl
 ·rw[akY h,akW (by omega)];rfl
theorem Cu(a b:Int):decide (a>b)= !decide (a≤b):=by
 by_cases h:a>b
 ·rw[akW h,akY (by omega)];rfl
 ·rw[akY h,akW (by omega)];rfl
theorem ae6(s:ByteArray)(hs:s.size≤9223372036854775807):∀(k i:Nat),i+k=s.size→
  aA vQ (((i:Int),s,(s.size:Int),()),())=some (if((bl s).drop i).all iJ then .inr ((),())else .inl ((false,()),())):=by
 intro k
 induction k with
 |zero=>
  intro i h;rw[al6 (by rw[aY];omega)];refine aB ?_;have:¬(i:Int)<(s.size:Int):=by omega
  simp only[vQ,akY this,au,sS,List.all_nil,if_true]
 |succ k ih=>
  intro i h;obtain⟨c,hc,hd⟩:=drop_at (l:=bl s) (i:=i) (by rw[aY];omega);have hlt:decide ((i:Int)<(s.size:Int))=true:=akW (by omega);have hbd:decide ((0:Int)≤(i:Int)∧(i:Int)<(s.size:Int))=true:=akW (by omega);rw[hd,List.all_cons]
  have hstep:vQ (((i:Int),s,(s.size:Int),()),())=if iJ c then some (.inl ((aS ((i:Int)+1),s,(s.size:Int),()),()))else some (.inr (.inl ((false,()),()))):=by
   rw[EL];simp only[vQ,hlt,hbd,byte_at hc,au,sS,IE,Cu,bne];cases decide (97≤u8 c)<;>cases decide (u8 c≤122)<;>cases decide (48≤u8 c)<;>cases decide (u8 c≤57)<;>cases (u8 c==95)<;>rfl
  cases hk:iJ c
  ·rw[hk]at hstep;exact aB hstep
  ·rw[hk,aI (by omega)]at hstep;rw[aD hstep,ih (i+1) (by omega)];rfl
theorem oN{s:ByteArray}{i:Nat}{c:UInt8}(h:(bl s)[i]?=some c):(((s[i]?.getD 0).toNat:Nat):Int)=u8 c:=by
 rw[NT,h];rfl
def l9(c:UInt8):Bool:=decide (32≤c)&&decide (c≤126)
theorem FT(c:UInt8):l9 c=(decide (32≤u8 c)&&decide (u8 c≤126)):=O7 c
theorem adz(s:ByteArray)(hs:s.size≤9223372036854775807):∀(k i:Nat),i+k=s.size→
  aA wu (((i:Int),s,()),())=some (if((bl s).drop i).all iJ then .inr ((),())else .inl ((false,()),())):=by
 intro k
 induction k with
 |zero=>
  intro i h;rw[al6 (by rw[aY];omega)];refine aB ?_;have:¬(i:Int)<(s.size:Int):=by omega
  simp only[wu,akY this,au,sS,List.all_nil,if_true]
 |succ k ih=>
  intro i h;obtain⟨c,hc,hd⟩:=drop_at (l:=bl s) (i:=i) (by rw[aY];omega);have hlt:decide ((i:Int)<(s.size:Int))=true:=akW (by omega);have hbd:decide ((0:Int)≤(i:Int)∧(i:Int)<(s.size:Int))=true:=akW (by omega);rw[hd,List.all_cons]
  have hstep:wu (((i:Int),s,()),())=if iJ c then some (.inl ((aS ((i:Int)+1),s,()),()))else some (.inr (.inl ((false,()),()))):=by
   rw[EL];simp only[wu,hlt,hbd,byte_at hc,au,sS,IE,Cu,bne];cases decide (97≤u8 c)<;>cases decide (u8 c≤122)<;>cases decide (48≤u8 c)<;>cases decide (u8 c≤57)<;>cases (u8 c==95)<;>rfl
  cases hk:iJ c
  ·rw[hk]at hstep;exact aB hstep
  ·rw[hk,aI (by omega)]at hstep;rw[aD hstep,ih (i+1) (by omega)];rfl
theorem aef(s:ByteArray)(hs:s.size≤9223372036854775807):∀(k i:Nat),i+k=s.size→
  aA uj (((i:Int),s,(s.size:Int),()),())=some (if((bl s).drop i).all l9 then .inr ((s,()),())else .inl ((false,()),())):=by
 intro k
 induction k with
 |zero=>
  intro i h;rw[al6 (by rw[aY];omega)];refine aB ?_;have:¬(i:Int)<(s.size:Int):=by omega
  simp only[uj,akY this,au,sS,List.all_nil,if_true]
 |succ k ih=>
  intro i h;obtain⟨c,hc,hd⟩:=drop_at (l:=bl s) (i:=i) (by rw[aY];omega);have hlt:decide ((i:Int)<(s.size:Int))=true:=akW (by omega);have hbd:decide ((0:Int)≤(i:Int)∧(i:Int)<(s.size:Int))=true:=akW (by omega);rw[hd,List.all_cons]
  have hstep:uj (((i:Int),s,(s.size:Int),()),())=if l9 c then some (.inl ((aS ((i:Int)+1),s,(s.size:Int),()),()))else some (.inr (.inl ((false,()),()))):=by
   rw[FT];simp only[uj,hlt,hbd,byte_at hc,au,sS,IE,Cu,bne];cases decide (32≤u8 c)<;>cases decide (u8 c≤126)<;>rfl
  cases hk:l9 c
  ·rw[hk]at hstep;exact aB hstep
  ·rw[hk,aI (by omega)]at hstep;rw[aD hstep,ih (i+1) (by omega)];rfl
theorem aey(s:ByteArray)(hs:s.size≤9223372036854775807):∀(k i:Nat),i+k=s.size→
  aA uS (((i:Int),s,()),())=some (if((bl s).drop i).all l9 then .inr ((),())else .inl ((false,()),())):=by
 intro k
 induction k with
 |zero=>
  intro i h;rw[al6 (by rw[aY];omega)];refine aB ?_;have:¬(i:Int)<(s.size:Int):=by omega
  simp only[uS,akY this,au,sS,List.all_nil,if_true]
 |succ k ih=>
  intro i h;obtain⟨c,hc,hd⟩:=drop_at (l:=bl s) (i:=i) (by rw[aY];omega);have hlt:decide ((i:Int)<(s.size:Int))=true:=akW (by omega);have hbd:decide ((0:Int)≤(i:Int)∧(i:Int)<(s.size:Int))=true:=akW (by omega);rw[hd,List.all_cons]
  have hstep:uS (((i:Int),s,()),())=if l9 c then some (.inl ((aS ((i:Int)+1),s,()),()))else some (.inr (.inl ((false,()),()))):=by
   rw[FT];simp only[uS,hlt,hbd,byte_at hc,au,sS,IE,Cu,bne];cases decide (32≤u8 c)<;>cases decide (u8 c≤126)<;>rfl
  cases hk:l9 c
  ·rw[hk]at hstep;exact aB hstep
  ·rw[hk,aI (by omega)]at hstep;rw[aD hstep,ih (i+1) (by omega)];rfl
abbrev kT(s:ByteArray):Bool:=VL (bl s)
abbrev vE(s:ByteArray):Bool:=YK (bl s)
theorem NR(s:ByteArray):kT s=match bl s with
  | []=>false
  |c::_=>(!decide ((s.size:Int)>24))&&(decide (97≤u8 c)&&decide (u8 c≤122))&&(bl s).all iJ:=by
 have hl:=aY s;unfold kT VL
 cases h:bl s with
 |nil=>rfl
 |cons c r=>
  rw[h]at hl;have le:∀(n:UInt8),decide (n≤c)=decide ((n.toNat:Int)≤u8 c):=fun n=>aml.2 (by rw[UInt8.le_iff_toNat_le];unfold u8;omega)
  have ge:∀(n:UInt8),decide (c≤n)=decide (u8 c≤(n.toNat:Int)):=fun n=>aml.2 (by rw[UInt8.le_iff_toNat_le];unfold u8;omega)
  simp only[Cu,Bool.not_not];rw[show decide ((c::r).length≤24)=decide ((s.size:Int)≤24)from aml.2 (by rw[hl];omega),le,ge];rfl
theorem KU(s:ByteArray)(hs:s.size≤9223372036854775807):Sw ((s,()),())=some ((kT s,()),()):=by
 rw[NR];have hl:=aY s;have hlp:=ae6 s hs s.size 0 (by omega);unfold Sw
 cases h:bl s with
 |nil=>
  simp only[bA,h,Es,au,sS]
 |cons c r=>
  have hne:(bl s==bl ByteArray.empty)=false:=by rw[h];rfl
  have h0:(((s[0]?.getD 0).toNat:Nat):Int)=u8 c:=by rw[NT,h];rfl
  have hpos:decide ((0:Int)≤0∧(0:Int)<s.size)=true:=akW (by rw[h]at hl;simp at hl;omega);simp only[bA,hne,hpos,h0,au,sS];cases decide ((s.size:Int)>24)
  ·simp only[IE,Cu,au,sS];cases decide (97≤u8 c)
   ·rfl
   ·cases decide (u8 c≤122)
    ·rfl
    ·simp only[au,sS];rw[al9]at hlp;refine aR _ hlp ?_;cases ha:(bl s).all iJ<;>rw[←h]<;>simp only[ha,au,sS]<;>rfl
  ·rfl
theorem Kv(s:ByteArray)(hs:s.size≤9223372036854775807):Sy ((s,()),())=some ((kT s,()),()):=by
 rw[NR];have hl:=aY s;have hlp:=adz s hs s.size 0 (by omega);unfold Sy
 cases h:bl s with
 |nil=>
  have:decide ((s.size:Int)<1)=true:=akW (by rw[h]at hl;simp at hl;omega);simp only[this,au,sS]
 |cons c r=>
  have hne:decide ((s.size:Int)<1)=false:=akY (by rw[h]at hl;simp at hl;omega);have h0:(((s[0]?.getD 0).toNat:Nat):Int)=u8 c:=by rw[NT,h];rfl
  have hpos:decide ((0:Int)≤0∧(0:Int)<s.size)=true:=akW (by rw[h]at hl;simp at hl;omega);simp only[hne,hpos,h0,au,sS];cases decide ((s.size:Int)>24)
  ·simp only[IE,Cu,au,sS];cases decide (97≤u8 c)
   ·rfl
   ·cases decide (u8 c≤122)
    ·rfl
    ·simp only[au,sS];rw[al9]at hlp;refine aR _ hlp ?_;cases ha:(bl s).all iJ<;>rw[←h]<;>simp only[ha,au,sS]<;>rfl
  ·rfl
theorem RS(s:ByteArray):vE s=((bl s).all l9&&decide ((s.size:Int)≤64)):=by
 unfold vE YK;rw[aY,show decide (s.size≤64)=decide ((s.size:Int)≤64)from aml.2 (by omega)];rfl
theorem QC(s:ByteArray)(hs:s.size≤9223372036854775807):Xh ((s,()),())=some ((vE s,()),()):=by
 rw[RS];have hlp:=aef s hs s.size 0 (by omega);rw[al9]at hlp;unfold Xh;refine aR _ hlp ?_;cases ha:(bl s).all l9<;>simp only[au,sS]<;>rfl
theorem Rp(s:ByteArray)(hs:s.size≤9223372036854775807):Vn ((s,()),())=some ((vE s,()),()):=by
 rw[RS];have hlp:=aey s hs s.size 0 (by omega);rw[al9]at hlp;unfold Vn;simp only[Cu];cases decide ((s.size:Int)≤64)
 ·simp only[au,sS]
 ·simp only[au,sS];refine aR _ hlp ?_;cases ha:(bl s).all l9<;>rfl
def bE(m:MT):Bool:=kT m.1&&(decide (m.2.1≥0)&&(decide (m.2.1≤3)&&vE m.2.2.1))
def T9(m:MT):Prop:=m.1.size≤9223372036854775807∧m.2.2.1.size≤9223372036854775807
theorem Ru(m:MT)(hm:T9 m):Xg ((m,()),())=some ((bE m,()),()):=by
 unfold Xg bE;simp only[KU _ hm.1,QC _ hm.2,au,sS];cases kT m.1<;>cases decide (m.2.1≥0)<;>cases decide (m.2.1≤3)<;>simp only[au,sS]
theorem aa4(m:MT)(hm:T9 m):ZU ((m,()),())=some ((bE m,()),()):=by
 unfold ZU bE;simp only[Kv _ hm.1,Rp _ hm.2,au,sS];cases kT m.1<;>cases decide (m.2.1≥0)<;>cases decide (m.2.1≤3)<;>simp only[au,sS]
def qR(k:ByteArray):List LT→Option ByteArray
 | []=>none
 |x::l=>if x.1=k then some x.2.1 else qR k l
def vT(l:List LT)(k:ByteArray):ByteArray:=(qR k l).getD ByteArray.empty
theorem acP(l:List LT)(key:ByteArray)(hl:l.length≤9223372036854775807):∀(k i:Nat),i+k=l.length→
  aA uo (((i:Int),key,l,(l.length:Int),()),())=some (match qR key (l.drop i)with|some v=>.inl ((v,()),())|none=>.inr ((),())):=by
 intro k
 induction k with
 |zero=>
  intro i h;rw[al6 (by omega)];refine aB ?_;have:¬(i:Int)<(l.length:Int):=by omega
  simp only[uo,akY this,au,sS,qR]
 |succ k ih=>
  intro i h;obtain⟨e,he,hd⟩:=drop_at (l:=l) (i:=i) (by omega);have hlt:decide ((i:Int)<(l.length:Int))=true:=akW (by omega);rw[hd,qR];by_cases hk:e.1=key
  ·rw[if_pos hk];refine aB ?_;simp only[uo,aK,aF he,hlt,bA,jY,akW hk,au,sS]
  ·rw[if_neg hk,←ih (i+1) (by omega)];refine aD ?_;simp only[uo,aK,aF he,hlt,bA,jY,akY hk,au,sS,aI (show i<9223372036854775807 by omega)]
theorem JS(l:List LT)(key:ByteArray)(hl:l.length≤9223372036854775807):Tx ((l,key,()),())=some ((vT l key,()),()):=by
 have h:=acP l key hl l.length 0 (by omega);rw[al9]at h;unfold Tx vT;refine aR _ h ?_;cases qR key l<;>rfl
theorem adL(l:List LT)(key:ByteArray)(hl:l.length≤9223372036854775807):∀(k i:Nat),i+k=l.length→
  aA uf (((i:Int),l,key,()),())=some (match qR key (l.drop i)with|some v=>.inl ((v,()),())|none=>.inr ((),())):=by
 intro k
 induction k with
 |zero=>
  intro i h;rw[al6 (by omega)];refine aB ?_;have:¬(i:Int)<(l.length:Int):=by omega
  simp only[uf,akY this,au,sS,qR]
 |succ k ih=>
  intro i h;obtain⟨e,he,hd⟩:=drop_at (l:=l) (i:=i) (by omega);have hlt:decide ((i:Int)<(l.length:Int))=true:=akW (by omega);rw[hd,qR];by_cases hk:e.1=key
  ·rw[if_pos hk];refine aB ?_;simp only[uf,aK,aF he,hlt,bA,jY,akW hk,au,sS]
  ·rw[if_neg hk,←ih (i+1) (by omega)];refine aD ?_;simp only[uf,aK,aF he,hlt,bA,jY,akY hk,au,sS,aI (show i<9223372036854775807 by omega)]
theorem Zt(l:List LT)(key:ByteArray)(hl:l.length≤9223372036854775807):Z5 ((l,key,()),())=some ((vT l key,()),()):=by
 have h:=adL l key hl l.length 0 (by omega);rw[al9]at h;unfold Z5 vT;refine aR _ h ?_;cases qR key l<;>rfl
theorem aaz(s:ByteArray)(h:0<s.size):∃c,(bl s)[s.size-1]?=some c∧bl s=bl (s.extract 0 (s.size-1))++ [c]:=by
 have hl:=aY s;obtain⟨c,hc⟩:=getD_some (l:=bl s) (i:=s.size-1) (by omega);refine⟨c,hc,?_⟩;rw[iL,al9,Nat.sub_zero];have:=amu (s.size-1) (bl s)
 conv=>lhs;rw[←this]
 congr 1
 obtain⟨e,he,hd⟩:=drop_at (l:=bl s) (i:=s.size-1) (by omega);rw[hc]at he;cases he;rw[hd,al6 (by omega)]
theorem aia(n:Nat):∀(s:ByteArray),s.size=n→n≤9223372036854775807→∃t,aA u6 ((s,42,()),())=some ((t,()),())∧∃k,bl s=bl t++List.replicate k 42:=by
 induction n with
 |zero=>
  intro s hs _;refine⟨s,aB ?_,0,by simp⟩;have:decide ((s.size:Int)>0)=false:=akY (by omega);simp only[u6,this,au,sS]
 |succ n ih=>
  intro s hs hn;obtain⟨c,hc,hsp⟩:=aaz s (by omega);have hw:aS ((s.size:Int)-1)=((s.size-1:Nat):Int):=by rw[bK (by omega) (by omega)];omega
  have h0:decide ((s.size:Int)>0)=true:=akW (by omega);have h1:decide ((0:Int)≤((s.size-1:Nat):Int)∧((s.size-1:Nat):Int)<s.size)=true:=akW (by omega);have h2:decide ((0:Int)≤((s.size-1:Nat):Int))=true:=akW (by omega);have h3:decide (0≤s.size-1∧s.size-1≤s.size)=true:=akW (by omega);have hb:=byte_at hc;by_cases h42:u8 c=42
  ·have hc42:c=42:=UInt8.toNat_inj.1 (by unfold u8 at h42;show c.toNat=42;omega);have hsz:(s.extract 0 (s.size-1)).size=n:=by rw[←aY,iL,alv,alH,aY];omega
   obtain⟨t,ht,k,hk⟩:=ih (s.extract 0 (s.size-1)) hsz (by omega);refine⟨t,?_,k+1,?_⟩
   ·rw[←ht];refine aD ?_;simp only[u6,h0,hw,h1,h2,akZ,oN hc,dG,akW h42,h3,au,sS]
   ·rw[hsp,hk,hc42,al7]
    congr 1
    rw[List.replicate_succ']
  ·refine⟨s,aB ?_,0,by simp⟩;simp only[u6,h0,hw,h1,hb,dG,akY h42,au,sS]
theorem agX(n:Nat):∀(s:ByteArray),s.size=n→n≤9223372036854775807→∃t,aA wh ((s,42,()),())=some ((t,()),())∧(∃k,bl s=List.replicate k 42++bl t)∧(∀c r,bl t=c::r→c≠42):=by
 induction n with
 |zero=>
  intro s hs _;refine⟨s,aB ?_,⟨0,by simp⟩,fun c r h=> ?_⟩
  ·have:decide ((s.size:Int)>0)=false:=akY (by omega);simp only[wh,this,au,sS]
  ·have:=aY s;rw[h]at this;simp at this;omega
 |succ n ih=>
  intro s hs hn;obtain⟨c,hc,hsp⟩:=drop_at (l:=bl s) (i:=0) (by rw[aY];omega);rw[al9]at hsp;have h0:decide ((s.size:Int)>0)=true:=akW (by omega);have h1:decide ((0:Int)≤0∧(0:Int)<s.size)=true:=akW (by omega);have h3:decide (1≤s.size∧s.size≤s.size)=true:=akW (by omega);have hb:(((s[0]?.getD 0).toNat:Nat):Int)=u8 c:=by rw[NT,hc];rfl
  by_cases h42:u8 c=42
  ·have hc42:c=42:=UInt8.toNat_inj.1 (by unfold u8 at h42;show c.toNat=42;omega)
   have hex:bl (s.extract 1 s.size)=(bl s).drop 1:=by
    rw[iL,alP];rw[alH,aY];exact alj _
   have hsz:(s.extract 1 s.size).size=n:=by rw[←aY,hex,alH,aY];omega
   obtain⟨t,ht,⟨k,hk⟩,hf⟩:=ih (s.extract 1 s.size) hsz (by omega);refine⟨t,?_,⟨k+1,?_⟩,hf⟩
   ·rw[←ht];refine aD ?_;simp only[wh,h0,h1,hb,dG,akW h42,h3,au,sS]
   ·rw[hsp,←hex,hk,hc42];rfl
  ·refine⟨s,aB ?_,⟨0,by simp⟩,fun d r h=> ?_⟩
   ·simp only[wh,h0,h1,hb,dG,akY h42,au,sS]
   ·rw[hsp]at h;cases h;intro e;subst e;exact h42 rfl
theorem aaZ(s:ByteArray)(hs:s.size≤9223372036854775807):∃t,WO ((s,bs [42],()),())=some ((t,()),())∧(bl t==bl ByteArray.empty)=(bl s).all (· ==42):=by
 by_cases he:bl s=[]
 ·refine⟨s,?_,?_⟩
  ·unfold WO;simp only[bA,he,Es,au,sS]
  ·rw[he];rfl
 ·obtain⟨t1,h1,k1,e1⟩:=aia s.size s rfl hs;have hsz1:t1.size≤s.size:=by rw[←aY t1,←aY s,e1,alz];omega
  obtain⟨t2,h2,⟨k2,e2⟩,hf⟩:=agX t1.size t1 rfl (by omega);have m124e:ZO ((s,42,()),())=some ((t1,()),()):=by unfold ZO;exact aR _ h1 rfl
  have m123e:YR ((t1,42,()),())=some ((t2,()),()):=by unfold YR;exact aR _ h2 rfl
  refine⟨t2,?_,?_⟩
  ·have hne:(bl s==bl ByteArray.empty)=false:=als.2 he;have hb:((((bs [42])[0]?.getD 0).toNat:Nat):Int)=42:=by rfl
   have hbe:(bl (bs [42])==bl ByteArray.empty)=false:=by rfl
   have hbs:(((bs [42]).size:Int)==1)=true:=by rfl
   have hbd:decide ((0:Int)≤0∧(0:Int)<(bs [42]).size)=true:=by rfl
   unfold WO;simp only[bA,hne,hb,hbe,hbs,hbd,m124e,m123e,au,sS];rfl
  ·rw[e1,e2,List.all_append,List.all_append];rw[show(List.replicate k1 (42:UInt8)).all (· ==42)=true by simp,show(List.replicate k2 (42:UInt8)).all (· ==42)=true by simp,Bool.and_true,alL]
   cases h:bl t2 with
   |nil=>rfl
   |cons c r=>
    have:(c==42)=false:=als.2 (hf c r h);simp[this,Es]
def CQ(p s:ByteArray):Bool:=like (bl p) (bl s)
theorem aev{c d:UInt8}(h:u8 c=u8 d):c=d:=UInt8.toNat_inj.1 (by unfold u8 at h;omega)
theorem EF(c d:UInt8):(u8 c==u8 d)=(c==d):=by
 by_cases h:c=d
 ·subst h;simp
 ·rw[als.2 h,als.2 (fun e=>h (aev e))]
theorem xC(c:UInt8):(u8 c==42)=decide (c=42):=by
 rw[show(42:Int)=u8 42 from rfl,EF];by_cases h:c=42<;>simp[h]
theorem Rn(c:UInt8):(u8 c==63)=(c==63):=EF c 63
def acV:Option (Nat×Nat)→Int→Int→Prop
 |none,s,_=>s= -1
 |some q,s,f=>s=((q.1:Nat):Int)∧f=((q.2:Nat):Int)
structure LS(P V:ByteArray)(p v:Nat)(star:Option (Nat×Nat))(a:(Int×Int×Int×Int×ByteArray×ByteArray×Unit)×Unit):Prop where
 inv:uz (bl P) (bl V) p v star
 st:∃(s f:Int),a=(((p:Int),(v:Int),s,f,V,P,()),())∧acV star s f
def UR(P V:ByteArray)(p:Nat)(star:Option (Nat×Nat)):Nat:=(V.size+1-(star.map (·.2)).getD 0)*(P.size+1)+(P.size-p)
theorem SC(P V:ByteArray)(hP:P.size≤4294967295)(hV:V.size≤4294967295):∀(n p v:Nat) (star:Option (Nat×Nat)) (a),LS P V p v star a→UR P V p star≤n→
  ∃d,aA gX a=some d∧((d= .inl ((false,()),())∧CQ P V=false)∨∃q:Nat,q≤P.size∧d= .inr (((q:Int),P,()),())∧CQ P V=((bl P).drop q).all (· ==42)):=by
 intro n
 induction n with
 |zero=>
  intro p v star a h hn
  exfalso
  have hp:=h.inv.hp;have hv:=h.inv.hv;rw[aY]at hp hv;unfold UR at hn
  have hf:(star.map (·.2)).getD 0≤V.size:=by
   cases star with
   |none=>exact alD _
   |some q=>have:=(h.inv.ok:_∧_∧_).2.1;simp;omega
  have:1*(P.size+1)≤(V.size+1-(star.map (·.2)).getD 0)*(P.size+1):=alq _ (by omega);omega
 |succ n ih=>
  intro p v star a h hn;obtain⟨inv,s,f,rfl,hst⟩:=h;have hp:=inv.hp;have hv:=inv.hv;rw[aY]at hp hv
  have hf:(star.map (·.2)).getD 0≤v:=by
   cases star with
   |none=>exact alD _
   |some q=>exact(inv.ok:_∧_∧_).2.1
  by_cases hve:v=V.size
  ·refine⟨.inr (((p:Int),P,()),()),aB ?_,.inr ⟨p,hp,rfl,inv.afF (by rw[aY];exact hve)⟩⟩;have:decide ((v:Int)<(V.size:Int))=false:=akY (by omega);simp only[gX,this,au,sS]
  ·have hvlt:decide ((v:Int)<(V.size:Int))=true:=akW (by omega);have hvb:decide ((0:Int)≤(v:Int)∧(v:Int)<(V.size:Int))=true:=akW (by omega);obtain⟨x,hx,_⟩:=drop_at (l:=bl V) (i:=v) (by rw[aY];omega);have bx:=byte_at hx;have w1:aS ((v:Int)+1)=((v+1:Nat):Int):=aI (by omega);have w2:aS ((p:Int)+1)=((p+1:Nat):Int):=aI (by omega)
   have miss:(∀c,(bl P)[p]?=some c→c≠42∧(c==63||c==x)=false)→gX (((p:Int),(v:Int),s,f,V,P,()),())=(bif decide (s≥0)then some (.inl ((aS (s+1),aS (f+1),s,aS (f+1),V,P,()),()))else some (.inr (.inl ((false,()),()))))→
     ∃d,aA gX (((p:Int),(v:Int),s,f,V,P,()),())=some d∧((d= .inl ((false,()),())∧CQ P V=false)∨∃q:Nat,q≤P.size∧d= .inr (((q:Int),P,()),())∧CQ P V=((bl P).drop q).all (· ==42)):=by
    intro hm hstep
    cases star with
    |none=>
     have hs:s= -1:=hst;subst hs;exact⟨_,aB hstep,.inl ⟨rfl,inv.onFail hx hm⟩⟩
    |some q=>
     obtain⟨q1,q2⟩:=q;obtain⟨rfl,rfl⟩:s=((q1:Nat):Int)∧f=((q2:Nat):Int):=hst;have hq:=(inv.ok:_∧_∧_)
     have hq1:q1+1≤p:=hq.1;have hq2:q2≤v:=hq.2.1;rw[akW (show((q1:Nat):Int)≥0 by omega),aI (by omega),aI (by omega)]at hstep;rw[aD hstep];refine ih (q1+1) (q2+1) (some (q1,q2+1)) _ ⟨inv.ae0 hx hm,_,_,rfl,⟨rfl,rfl⟩⟩ ?_;unfold UR at hn ⊢;simp only[al4,amt]at hn ⊢;have e:V.size+1-q2=(V.size+1-(q2+1))+1:=by omega
     rw[e,Nat.succ_mul]at hn;omega
   by_cases hpe:p<P.size
   ·have hplt:decide ((p:Int)<(P.size:Int))=true:=akW (by omega);have hpb:decide ((0:Int)≤(p:Int)∧(p:Int)<(P.size:Int))=true:=akW (by omega);obtain⟨c,hc,_⟩:=drop_at (l:=bl P) (i:=p) (by rw[aY];omega);have bc:=byte_at hc;by_cases h42:c=42
    ·subst h42
     rw[show aA gX (((p:Int),(v:Int),s,f,V,P,()),())=aA gX ((((p+1:Nat):Int),(v:Int),(p:Int),(v:Int),V,P,()),())from aD (by
      simp only[gX,hvlt,hplt,hpb,bc,xC,au,sS,w2])]
     refine ih (p+1) v (some (p,v)) _ ⟨inv.aek hc,_,_,rfl,⟨rfl,rfl⟩⟩ ?_;unfold UR at hn ⊢;simp only[al4,amt];have:=alq (P.size+1) (show V.size+1-v≤V.size+1-(star.map (·.2)).getD 0 by omega);omega
    ·by_cases hm:(c==63||c==x)=true
     ·rw[show aA gX (((p:Int),(v:Int),s,f,V,P,()),())=aA gX ((((p+1:Nat):Int),((v+1:Nat):Int),s,f,V,P,()),())from aD (by
       simp only[gX,hvlt,hplt,hpb,hvb,bc,bx,xC,Rn,EF,akY h42,au,sS,w2];rcases Bool.or_eq_true_iff.1 hm with h|h
       ·simp only[h,au,sS,w1,w2]
       ·cases (c==63)<;>simp only[h,au,sS,w1,w2])]
      refine ih (p+1) (v+1) star _ ⟨inv.ad7 hc hx h42 hm,s,f,rfl,hst⟩ ?_;unfold UR at hn ⊢;omega
     ·have hm:(c==63||c==x)=false:=by simpa using hm
      refine miss (fun d hd=> ?_) ?_
      ·rw[hc]at hd;cases hd;exact⟨h42,hm⟩
      ·rw[alW]at hm;simp only[gX,hvlt,hplt,hpb,hvb,bc,bx,xC,Rn,EF,akY h42,hm.1,hm.2,au,sS]
   ·have hplt:decide ((p:Int)<(P.size:Int))=false:=akY (by omega);refine miss (fun d hd=> ?_) ?_
    ·have:=(akX.1 hd).1;rw[aY]at this;omega
    ·simp only[gX,hvlt,hplt,au,sS]
theorem YX(P V:ByteArray)(hP:P.size≤4294967295)(hV:V.size≤4294967295):WQ ((P,V,()),())=some ((CQ P V,()),()):=by
 obtain⟨d,h1,h2⟩:=SC P V hP hV _ 0 0 none (((0:Int),(0:Int),(-1),(0:Int),V,P,()),()) ⟨uz.start _ _,-1,0,rfl,rfl⟩ (alj _);unfold WQ;refine aR _ h1 ?_;rcases h2 with⟨rfl,h⟩|⟨q,hq,rfl,h⟩
 ·rw[h];rfl
 ·have ex:bl (P.extract q P.size)=(bl P).drop q:=by
   rw[iL,alP];rw[alH,aY];exact alj _
  have hsz:(P.extract q P.size).size≤P.size:=by rw[←aY,ex,alH,aY];omega
  obtain⟨t,ht,he⟩:=aaZ (P.extract q P.size) (by omega);simp only[au,sS,akW (show(0:Int)≤(q:Int) by omega),akZ,akW (show q≤P.size∧P.size≤P.size by omega),ht,bA,he,ex,h]
def cell(c:UInt8)(V:List UInt8)(r r':List Bool)(k:Nat):Bool:=
 if c=42 then(r[k]?.getD false||(decide (0<k)&&r'[k-1]?.getD false))else(decide (0<k)&&r[k-1]?.getD false&&(c==63||some c==V[k-1]?))
theorem UK(P V:ByteArray)(c:UInt8)(i:Nat)(hc:(bl P)[i]?=some c)(hi:i<P.size)(hV:V.size≤4294967295)(hP:P.size≤4294967295)(r:List Bool)(hr:r.length=V.size+1):
  ∀(n k:Nat) (N:List Bool),k+n=V.size+1→N.length=V.size+1→(∀j,j<k→N[j]?.getD false=cell c (bl V) r N j)→(∀j,k≤j→N[j]?.getD false=false)→
   ∃N',aA jv (((k:Int),V,(i:Int),P,()),(N,r,()))=some ((V,P,(i:Int),()),(N',()))∧N'.length=V.size+1∧∀j,j≤V.size→N'[j]?.getD false=cell c (bl V) r N' j:=by
 intro n
 induction n with
 |zero=>
  intro k N h hN h1 _;refine⟨N,aB ?_,hN,fun j hj=>h1 j (by omega)⟩;have:decide ((k:Int)≤(V.size:Int))=false:=akY (by omega);simp only[jv,this,au,sS]
 |succ n ih=>
  intro k N h hN h1 h2;have hle:decide ((k:Int)≤(V.size:Int))=true:=akW (by omega);have hib:decide ((0:Int)≤(i:Int)∧(i:Int)<(P.size:Int))=true:=akW (by omega);have hkr:decide ((0:Int)≤(k:Int)∧(k:Int)<(r.length:Int))=true:=akW (by omega);have hkN:decide ((0:Int)≤(k:Int)∧(k:Int)<(N.length:Int))=true:=akW (by omega);have hkN2:decide (k<N.length)=true:=akW (by omega);have w1:aS ((k:Int)+1)=((k+1:Nat):Int):=aI (by omega);have bc:=byte_at hc;have bn:=oN hc
  have next:∀b:Bool,b=cell c (bl V) r N k→∃N',aA jv ((((k+1:Nat):Int),V,(i:Int),P,()),(N.set k b,r,()))=some ((V,P,(i:Int),()),(N',()))∧N'.length=V.size+1∧∀j,j≤V.size→N'[j]?.getD false=cell c (bl V) r N' j:=by
   intro b hb;have same:∀j,j<k→(N.set k b)[j]?=N[j]?:=fun j hj=>by rw[List.getElem?_set_ne (by omega)]
   refine ih (k+1) (N.set k b) (by omega) (by simpa using hN) (fun j hj=> ?_) (fun j hj=>by rw[List.getElem?_set_ne (by omega)];exact h2 j (by omega));rcases am8 j k with hlt|hge
   ·rw[same j hlt,h1 j hlt];unfold cell
    cases j with
    |zero=>rfl
    |succ j=>simp only[Nat.add_sub_cancel,same j (by omega)]
   ·have:j=k:=by omega
    subst this;rw[amE (by omega),amt];refine hb.trans ?_;unfold cell
    cases j with
    |zero=>rfl
    |succ j=>simp only[Nat.add_sub_cancel,same j (by omega)]
  obtain⟨rk,hrk⟩:=getD_some (l:=r) (i:=k) (by omega);by_cases h42:c=42
  ·have hcell:cell c (bl V) r N k=(rk||(decide (0<k)&&N[k-1]?.getD false)):=by unfold cell;rw[if_pos h42,hrk];rfl
   cases rk with
   |true=>
    obtain⟨N',e1,e2⟩:=next true (by rw[hcell];rfl);refine⟨N',?_,e2⟩;rw[←e1];refine aD ?_;simp only[jv,hle,hib,bc,bn,xC,akW h42,hkr,akZ,hrk,hkN,hkN2,au,sS,w1]
   |false=>
    rw[alk]at hcell;by_cases hk0:k=0
    ·subst hk0;obtain⟨N',e1,e2⟩:=next false (by rw[hcell];rfl);refine⟨N',?_,e2⟩;rw[←e1];refine aD ?_;have hg:decide (((0:Nat):Int)>0)=false:=rfl;simp only[jv,hle,hib,bc,bn,xC,akW h42,hkr,akZ,hrk,hkN,hkN2,hg,au,sS,w1]
    ·obtain⟨b,hb⟩:=getD_some (l:=N) (i:=k-1) (by omega);have hg:decide ((k:Int)>0)=true:=akW (by omega);have hw:aS ((k:Int)-1)=((k-1:Nat):Int):=by rw[bK (by omega) (by omega)];omega
     have hk1:decide ((0:Int)≤((k-1:Nat):Int)∧((k-1:Nat):Int)<(N.length:Int))=true:=akW (by omega);rw[akW (show 0<k by omega),hb,amt,alL]at hcell;obtain⟨N',e1,e2⟩:=next b hcell.symm;refine⟨N',?_,e2⟩;rw[←e1];refine aD ?_;simp only[jv,hle,hib,bc,bn,xC,akW h42,hkr,akZ,hrk,hkN,hkN2,hg,hw,hk1,hb,au,sS,w1]
  ·have hcell:cell c (bl V) r N k=(decide (0<k)&&r[k-1]?.getD false&&(c==63||some c==(bl V)[k-1]?)):=by unfold cell;rw[if_neg h42]
   by_cases hk0:k=0
   ·subst hk0
    have hset:N.set 0 false=N:=by
     refine List.ext_getElem? fun j=> ?_
     cases j with
     |zero=>
      rw[amE (by omega)];obtain⟨b,hb⟩:=getD_some (l:=N) (i:=0) (by omega);have:=h2 0 (alj _);rw[hb]at this ⊢;exact congrArg some this.symm
     |succ j=>rw[List.getElem?_set_ne (by omega)]
    obtain⟨N',e1,e2⟩:=next false (by rw[hcell];rfl);rw[hset]at e1;refine⟨N',?_,e2⟩;rw[←e1];refine aD ?_;have hg:decide (((0:Nat):Int)>0)=false:=rfl;simp only[jv,hle,hib,bc,bn,xC,akY h42,hg,au,sS,w1]
   ·obtain⟨b,hb⟩:=getD_some (l:=r) (i:=k-1) (by omega);obtain⟨x,hx⟩:=getD_some (l:=bl V) (i:=k-1) (by rw[aY];omega);have hg:decide ((k:Int)>0)=true:=akW (by omega);have hw:aS ((k:Int)-1)=((k-1:Nat):Int):=by rw[bK (by omega) (by omega)];omega
    have hk1:decide ((0:Int)≤((k-1:Nat):Int)∧((k-1:Nat):Int)<(r.length:Int))=true:=akW (by omega);have hk2:decide ((0:Int)≤((k-1:Nat):Int)∧((k-1:Nat):Int)<(V.size:Int))=true:=akW (by omega);rw[akW (show 0<k by omega),hb,amt,alL,hx]at hcell;have hso:(some c==some x)=(c==x):=rfl;rw[hso]at hcell
    cases b with
    |false=>
     obtain⟨N',e1,e2⟩:=next false (by rw[hcell];rfl);refine⟨N',?_,e2⟩;rw[←e1];refine aD ?_;simp only[jv,hle,hib,bc,bn,xC,akY h42,hg,hw,hk1,akZ,hb,hkN,hkN2,au,sS,w1]
    |true=>
     rw[alL]at hcell
     cases h63:(c==63)with
     |true=>
      obtain⟨N',e1,e2⟩:=next true (by rw[hcell,h63];rfl);refine⟨N',?_,e2⟩;rw[←e1];refine aD ?_;simp only[jv,hle,hib,bc,bn,xC,Rn,h63,akY h42,hg,hw,hk1,akZ,hb,hkN,hkN2,au,sS,w1]
     |false=>
      obtain⟨N',e1,e2⟩:=next (c==x) (by rw[hcell,h63];rfl);refine⟨N',?_,e2⟩;rw[←e1];refine aD ?_;simp only[jv,hle,hib,bc,bn,xC,Rn,h63,akY h42,hg,hw,hk1,hk2,oN hx,byte_at hx,EF,akZ,hb,hkN,hkN2,au,sS,w1]
theorem Xb(P V:ByteArray)(hP:P.size≤4294967295)(hV:V.size≤4294967294):∀(n i:Nat) (r:List Bool),i+n=P.size→RInv (bl P) (bl V) i r→
  ∃r',aA AY ((V,(i:Int),P,()),(r,()))=some ((V,()),(r',()))∧RInv (bl P) (bl V) P.size r':=by
 intro n
 induction n with
 |zero=>
  intro i r h hr;refine⟨r,aB ?_,by rw[show P.size=i by omega];exact hr⟩;have:decide ((i:Int)<(P.size:Int))=false:=akY (by omega);simp only[AY,this,au,sS]
 |succ n ih=>
  intro i r h hr;obtain⟨c,hc,_⟩:=drop_at (l:=bl P) (i:=i) (by rw[aY];omega);have hlt:decide ((i:Int)<(P.size:Int))=true:=akW (by omega);have wv:aS ((V.size:Int)+1)=((V.size+1:Nat):Int):=aI (by omega);have hb:decide ((0:Int)≤((V.size+1:Nat):Int)∧((V.size+1:Nat):Int)≤((V.size+1:Nat):Int)∧((V.size+1:Nat):Int)≤4294967296)=true:=akW (by omega);have hrl:r.length=V.size+1:=by rw[hr.1,aY]
  obtain⟨N',e1,e2,e3⟩:=UK P V c i hc (by omega) (by omega) hP r hrl (V.size+1) 0 (List.replicate (V.size+1) false) (by omega) (by simp) (fun j hj=>by omega) (fun j _=>by
   rw[List.getElem?_replicate];split<;>rfl)
  obtain⟨r',e4,e5⟩:=ih (i+1) N' (by omega) (RInv.step hr hc ⟨by rw[e2,aY],fun k hk=>e3 k (by rw[aY]at hk;exact hk)⟩);refine⟨r',?_,e5⟩;rw[←e4];refine aD ?_;simp only[AY,hlt,wv,hb,akZ,au,sS];refine aR _ e1 ?_;simp only[aI (show i<9223372036854775807 by omega)]
theorem Ye(P V:ByteArray)(hP:P.size≤4294967295)(hV:V.size≤4294967294):Wx ((P,V,()),())=some ((CQ P V,()),()):=by
 have wv:aS ((V.size:Int)+1)=((V.size+1:Nat):Int):=aI (by omega);have hb:decide ((0:Int)≤((V.size+1:Nat):Int)∧((V.size+1:Nat):Int)≤((V.size+1:Nat):Int)∧((V.size+1:Nat):Int)≤4294967296)=true:=akW (by omega);have hl:(List.replicate (V.size+1) false).length=V.size+1:=by simp
 have h0:decide ((0:Int)≤0∧(0:Int)<((V.size+1:Nat):Int))=true:=akW (by omega);have h1:decide (0<V.size+1)=true:=akW (by omega);have hst:(List.replicate (V.size+1) false).set 0 true=true::List.replicate (bl V).length false:=by rw[List.replicate_succ,List.set_cons_zero,aY]
 obtain⟨r',e1,e2⟩:=Xb P V hP hV P.size 0 _ (by omega) (RInv.start (bl P) (bl V));have hd:=RInv.done (P:=bl P) (V:=bl V) (r:=r') (by rw[aY];exact e2);rw[aY]at hd;have hrl:r'.length=V.size+1:=by rw[e2.1,aY]
 obtain⟨b,hb2⟩:=getD_some (l:=r') (i:=V.size) (by omega);rw[hb2,amt]at hd;subst hd;have h3:decide ((0:Int)≤(V.size:Int)∧(V.size:Int)<(r'.length:Int))=true:=akW (by omega);unfold Wx;simp only[wv,hb,akZ,hl,h0,h1,hst,au,sS];refine aR _ e1 ?_;simp only[h3,hb2,akZ,au,sS];rfl
def yX(m:MT)(l:List LT):Bool:=
 let v:=vT l m.1
 if m.2.1=0 then decide (v=m.2.2.1)else if m.2.1=1 then !decide (v=m.2.2.1)else if m.2.1=2 then CQ m.2.2.1 v else if m.2.1=3 then !CQ m.2.2.1 v else false
def allM(ms:List MT)(l:List LT):Bool:=ms.all fun m=>yX m l
def J9(l:List LT):Prop:=l.length≤9223372036854775807∧∀x∈l,x.2.1.size≤4294967294
def PSz(m:MT):Prop:=m.2.2.1.size≤4294967295
theorem Ib{k v:ByteArray}:∀{l:List LT},qR k l=some v→∃x∈l,x.2.1=v
 | [],h=>by cases h
 |x::l,h=>by
  simp only[qR]at h;split at h
  ·cases h;exact⟨x,by simp,rfl⟩
  ·obtain⟨y,h1,h2⟩:=Ib h;exact⟨y,by simp[h1],h2⟩
theorem Ll{l:List LT}(h:J9 l)(k:ByteArray):(vT l k).size≤4294967294:=by
 unfold vT
 cases hf:qR k l with
 |none=>exact alD _
 |some v=>
  obtain⟨x,h1,rfl⟩:=Ib hf;exact h.2 x h1
theorem abf(m:MT)(l:List LT)(hm:PSz m)(hl:J9 l):Yz ((m,l,()),())=some ((yX m l,()),()):=by
 have hg:=Ll hl m.1;unfold Yz yX;simp only[JS l m.1 hl.1,YX m.2.2.1 _ hm (show(vT l m.1).size≤4294967295 by omega),au,sS,dG,bA,jY];by_cases h0:m.2.1=0
 ·simp only[akW h0,if_pos h0,au,sS]
 ·by_cases h1:m.2.1=1
  ·simp only[akY h0,akW h1,if_neg h0,if_pos h1,au,sS]
  ·by_cases h2:m.2.1=2
   ·simp only[akY h0,akY h1,akW h2,if_neg h0,if_neg h1,if_pos h2,au,sS]
   ·by_cases h3:m.2.1=3
    ·simp only[akY h0,akY h1,akY h2,akW h3,if_neg h0,if_neg h1,if_neg h2,if_pos h3,au,sS]
    ·simp only[akY h0,akY h1,akY h2,akY h3,if_neg h0,if_neg h1,if_neg h2,if_neg h3,au,sS]
theorem aad(m:MT)(l:List LT)(hm:PSz m)(hl:J9 l):aaD ((m,l,()),())=some ((yX m l,()),()):=by
 have hg:=Ll hl m.1;unfold aaD yX;simp only[Zt l m.1 hl.1,Ye m.2.2.1 _ hm hg,au,sS,dG,bA,jY];by_cases h0:m.2.1=0
 ·simp only[akW h0,if_pos h0,au,sS]
 ·by_cases h1:m.2.1=1
  ·simp only[akY h0,akW h1,if_neg h0,if_pos h1,au,sS]
  ·by_cases h2:m.2.1=2
   ·simp only[akY h0,akY h1,akW h2,if_neg h0,if_neg h1,if_pos h2,au,sS]
   ·by_cases h3:m.2.1=3
    ·simp only[akY h0,akY h1,akY h2,akW h3,if_neg h0,if_neg h1,if_neg h2,if_pos h3,au,sS]
    ·simp only[akY h0,akY h1,akY h2,akY h3,if_neg h0,if_neg h1,if_neg h2,if_neg h3,au,sS]
def PSs(ms:List MT):Prop:=ms.length≤9223372036854775807∧∀m∈ms,PSz m
theorem adq(ms:List MT)(l:List LT)(hm:PSs ms)(hl:J9 l):∀(k i:Nat),i+k=ms.length→
  ∃j:Nat,aA qI (((i:Int),ms,(ms.length:Int),()),((l,()),()))=some (if allM (ms.drop i) l then .inr ((),((l,()),()))else .inl (((j:Int),()),((l,()),()))):=by
 intro k
 induction k with
 |zero=>
  intro i h;refine⟨0,?_⟩;rw[al6 (by omega)];refine aB ?_;have:decide ((i:Int)<(ms.length:Int))=false:=akY (by omega);simp only[qI,this,au,sS,allM,List.all_nil,if_true]
 |succ k ih=>
  intro i h;obtain⟨e,he,hd⟩:=drop_at (l:=ms) (i:=i) (by omega);have hlt:decide ((i:Int)<(ms.length:Int))=true:=akW (by omega);have hle:=hm.1;have hme:=abf e l (hm.2 e (alb he)) hl;rw[hd];unfold allM;rw[List.all_cons];cases hq:yX e l
  ·refine⟨i,aB ?_⟩;simp only[qI,aK,aF he,hlt,hme,hq,au,sS];rfl
  ·obtain⟨j,hj⟩:=ih (i+1) (by omega);refine⟨j,?_⟩;rw[alL];unfold allM at hj;rw[←hj];refine aD ?_;simp only[qI,aK,aF he,hlt,hme,hq,au,sS,aI (show i<9223372036854775807 by omega)]
theorem r9(ms:List MT)(l:List LT)(hm:PSs ms)(hl:J9 l):NQ ((ms,l,()),())=some ((allM ms l,()),()):=by
 obtain⟨j,h⟩:=adq ms l hm hl ms.length 0 (by omega);rw[al9]at h;unfold NQ;rw[show aA qI ((0,ms,(ms.length:Int),()),((l,()),()))=_ from h];cases allM ms l
 ·simp only[au,sS,alo,if_false,akW (show(j:Int)≥0 by omega)]
 ·simp only[au,sS,if_true]
theorem adC(ms:List MT)(l:List LT)(hm:PSs ms)(hl:J9 l):∀(k i:Nat),i+k=ms.length→
  aA uX (((i:Int),l,ms,()),())=some (if allM (ms.drop i) l then .inr ((),())else .inl ((false,()),())):=by
 intro k
 induction k with
 |zero=>
  intro i h;rw[al6 (by omega)];refine aB ?_;have:decide ((i:Int)<(ms.length:Int))=false:=akY (by omega);simp only[uX,this,au,sS,allM,List.all_nil,if_true]
 |succ k ih=>
  intro i h;obtain⟨e,he,hd⟩:=drop_at (l:=ms) (i:=i) (by omega);have hlt:decide ((i:Int)<(ms.length:Int))=true:=akW (by omega);have hle:=hm.1;have hme:=aad e l (hm.2 e (alb he)) hl;rw[hd];unfold allM;rw[List.all_cons];cases hq:yX e l
  ·refine aB ?_;simp only[uX,aK,aF he,hlt,hme,hq,au,sS];rfl
  ·rw[alL];have hj:=ih (i+1) (by omega);unfold allM at hj;rw[←hj];refine aD ?_;simp only[uX,aK,aF he,hlt,hme,hq,au,sS,aI (show i<9223372036854775807 by omega)]
theorem K7(ms:List MT)(l:List LT)(hm:PSs ms)(hl:J9 l):aaH ((ms,l,()),())=some ((allM ms l,()),()):=by
 have h:=adC ms l hm hl ms.length 0 (by omega);rw[al9]at h;unfold aaH;refine aR _ h ?_;cases allM ms l<;>rfl
end Go.Proofs.YtchnmpafhfjimaaGreatDoor
namespace Go.Proofs.YtchnmpafhfjimaaGreatDoor
open Go Go.Abs Go.Lab
abbrev iP:=List Int×Int×Unit
def tC(d:iP):Prop:=0≤d.2.1∧d.2.1≤d.1.length∧d.1.length≤500
theorem ak3{l:List Int}(h:l.length≤500):tC (l,0,()):=⟨Int.le_refl _,Int.natCast_nonneg _,h⟩
theorem fJ(n:Int)(d:iP)(hd:tC d)(hn:n≤9223372036854775807):
  ∃(r:Int) (d':iP),Lf ((n,()),((d,()),()))=some ((r,()),((d',()),()))∧tC d'∧(1≤n→0≤r∧r<n)∧(n<1→r=0):=by
 obtain⟨l,at_,u⟩:=d;obtain⟨h1,h2,h3⟩:=hd;simp only at h1 h2 h3;unfold Lf;simp only[aK];by_cases c1:at_≥(l.length:Int)
 ·refine⟨0,(l,at_,()),?_,⟨h1,h2,h3⟩,fun h=>⟨by omega,by omega⟩,fun _=>rfl⟩;simp only[akW c1,au,sS]
 ·by_cases c2:n<1
  ·refine⟨0,(l,at_,()),?_,⟨h1,h2,h3⟩,fun h=>⟨by omega,by omega⟩,fun _=>rfl⟩;simp only[akY c1,akW c2,au,sS]
  ·have hat:aS (at_+1)=at_+1:=bK (by omega) (by omega);have hne:n≠0:=by omega
   obtain⟨e,he⟩:=getD_some (l:=l) (i:=at_.toNat) (by omega);have hb:=Int.tmod_lt_of_pos e (show(0:Int)<n by omega)
   have hb2: -n<e.tmod n:=by
    have:=Int.lt_tmod_of_pos e (show(0:Int)<n by omega);omega
   by_cases c3:e.tmod n<0
   ·refine⟨e.tmod n+n,(l,at_+1,()),?_,⟨by simp only;omega,by simp only;omega,h3⟩,fun h=>⟨by omega,by omega⟩,fun h=>by omega⟩;simp only[akY c1,akY c2,au,sS,jT h1 he,akW hne,akW c3,hat,bK (x:=e.tmod n+n) (by omega) (by omega)]
   ·refine⟨e.tmod n,(l,at_+1,()),?_,⟨by simp only;omega,by simp only;omega,h3⟩,fun h=>⟨by omega,by omega⟩,fun h=>by omega⟩;simp only[akY c1,akY c2,au,sS,jT h1 he,akW hne,akY c3,hat]
theorem qG(l:List Int)(d:iP)(hd:tC d)(h0:0<l.length)(h1:l.length≤4294967296):
  ∃(r:Int) (d':iP),m32 ((l,()),((d,()),()))=some ((r,()),((d',()),()))∧tC d'∧r∈l:=by
 obtain⟨n,d',e1,e2,e3,_⟩:=fJ l.length d hd (by omega);obtain⟨hn0,hn1⟩:=e3 (by omega);obtain⟨r,hr⟩:=getD_some (l:=l) (i:=n.toNat) (by omega);refine⟨r,d',?_,e2,alb hr⟩;unfold m32;simp only[e1,alR,aK,jT hn0 hr]
theorem IU(n:Int)(d:iP)(hd:tC d)(hn:1≤n)(hn2:n≤9223372036854775807):∃(b:Bool) (d':iP),m40 ((n,()),((d,()),()))=some ((b,()),((d',()),()))∧tC d':=by
 obtain⟨r,d',e1,e2,_⟩:=fJ n d hd hn2;refine⟨(r==aS (n-1)),d',?_,e2⟩;unfold m40;simp only[e1,alR]
theorem Q9{A B:Type}(l:List A){n:Int}(h0:0≤n)(h1:n<l.length)(F:A→Option B):∃e,e∈l∧(bif decide ((0:Int)≤n∧(n:Int)<l.length)then(l[n.toNat]?).bind F else none)=F e:=by
 obtain⟨e,he⟩:=getD_some (l:=l) (i:=n.toNat) (by omega);exact⟨e,alb he,by rw[akW (And.intro h0 h1),he];rfl⟩
def mQ(m:MT):Prop:=bE m=true∧m.1.size≤64∧m.2.2.1.size≤64∧0≤m.2.1∧m.2.1≤3
theorem mQ.p{m:MT}(h:mQ m):PSz m:=by have:=h.2.2.1;unfold PSz;omega
theorem mQ.z{m:MT}(h:mQ m):T9 m:=by have:=h.2.1;have:=h.2.2.1;unfold T9;omega
theorem aik:∀k∈ [(bs [97,112,112]),(bs [104,111,115,116]),(bs [115,101,118]),(bs [116,101,97,109]),(bs [122,111,110,101])],kT k=true∧k.size≤64:=by decide+kernel
theorem ahY:∀v∈ [(bs [97]),(bs [98]),ByteArray.empty,(bs [42]),(bs [99,114,105,116]),(bs [63]),(bs [119,101,98,45,42]),(bs [97,34,98,92])],vE v=true∧v.size≤64:=by decide+kernel
theorem Ab(d:iP)(hd:tC d):∃(m:MT) (d':iP),m98 ((),((d,()),()))=some ((),((d',()),((m,()),())))∧tC d'∧mQ m:=by
 obtain⟨a,d1,e1,hd1,b1,_⟩:=fJ 5 d hd (by omega);have b1:=b1 (by omega);obtain⟨o,d2,e2,hd2,b2,_⟩:=fJ 4 d1 hd1 (by omega);have b2:=b2 (by omega);obtain⟨c,d3,e3,hd3,b3,_⟩:=fJ 8 d2 hd2 (by omega);have b3:=b3 (by omega);unfold m98;simp only[e1,alR]
 obtain⟨k,hk,ek⟩:=Q9 [(bs [97,112,112]),(bs [104,111,115,116]),(bs [115,101,118]),(bs [116,101,97,109]),(bs [122,111,110,101])] b1.1 b1.2 (fun e11=>(Lf ((4,()),((d1,()),()))).bind fun u12=>
  (Lf ((8,()),((u12.2.1.1,()),()))).bind fun u13=>
  bif (decide ((0:Int)≤u13.1.1∧(u13.1.1:Int)< [(bs [97]),(bs [98]),ByteArray.empty,(bs [42]),(bs [99,114,105,116]),(bs [63]),(bs [119,101,98,45,42]),(bs [97,34,98,92])].length))then
  ([(bs [97]),(bs [98]),ByteArray.empty,(bs [42]),(bs [99,114,105,116]),(bs [63]),(bs [119,101,98,45,42]),(bs [97,34,98,92])][u13.1.1.toNat]?).bind fun e14=>
  some (((),((u13.2.1.1,()),(((e11,(u12.1.1,(e14,()))),()),()))):(Unit)×(((List Int×Int×Unit)×Unit)×(MT×Unit)×Unit))
  else none)
 rw[ek];simp only[e2,e3,alR];obtain⟨v,hv,ev⟩:=Q9 [(bs [97]),(bs [98]),ByteArray.empty,(bs [42]),(bs [99,114,105,116]),(bs [63]),(bs [119,101,98,45,42]),(bs [97,34,98,92])] b3.1 b3.2 (fun e14=>some (((),((d3,()),(((k,(o,(e14,()))),()),()))):(Unit)×(((List Int×Int×Unit)×Unit)×(MT×Unit)×Unit)));rw[ev];have h1:=aik k hk;have h2:=ahY v hv;refine⟨(k,o,v,()),d3,rfl,hd3,?_,h1.2,h2.2,b2.1,by simp only;omega⟩;unfold bE;simp only[h1.1,h2.1,akW b2.1,akW (show o≤3 by omega),Bool.and_self]
theorem GZ:∀(n:Nat) (i:Int) (d:iP) (l:List MT),tC d→i=n→l.length+n≤1000→(∀m∈l,mQ m)→
  ∃(l':List MT) (d':iP),aA Ej ((i,()),((d,()),(l,())))=some ((),((d',()),(l',())))∧tC d'∧l'.length=l.length+n∧∀m∈l',mQ m:=by
 intro n
 induction n with
 |zero=>
  intro i d l hd hi hl hg;refine⟨l,d,aB ?_,hd,rfl,hg⟩;have:decide (i>0)=false:=akY (by omega);simp only[Ej,this,au,sS]
 |succ n ih=>
  intro i d l hd hi hl hg;obtain⟨m,d1,e1,hd1,hm⟩:=Ab d hd
  obtain⟨l',d',e2,hd',hl',hg'⟩:=ih (i-1) d1 (l++ [m]) hd1 (by omega) (by simp;omega) (fun x hx=>by
   rcases alx.1 hx with h|h
   ·exact hg x h
   ·simp at h;subst h;exact hm)
  refine⟨l',d',?_,hd',by rw[hl'];simp;omega,hg'⟩;rw[←e2];refine aD ?_;have h0:decide (i>0)=true:=akW (by omega);have h1:decide (l.length+([m]:List MT).length≤4294967296)=true:=akW (by simp;omega);simp only[Ej,h0,e1,au,sS,h1,bK (x:=i-1) (by omega) (by omega)]
theorem qj(n:Int)(d:iP)(hd:tC d)(h0:0≤n)(hn:n≤900):∃(l:List MT) (d':iP),m97 ((n,()),((d,()),()))=some ((),((d',()),(l,())))∧tC d'∧(l.length:Int)≤n∧∀m∈l,mQ m:=by
 obtain⟨a,d1,e1,hd1,b1,_⟩:=fJ (aS (n+1)) d hd (by rw[bK (by omega) (by omega)];omega);rw[bK (x:=n+1) (by omega) (by omega)]at e1 b1;have b1:=b1 (by omega);obtain⟨l',d',e2,hd',hl',hg'⟩:=GZ a.toNat a d1 [] hd1 (by omega) (by simp;omega) (fun m hm=>by cases hm);refine⟨l',d',?_,hd',by rw[hl'];simp;omega,hg'⟩;unfold m97;simp only[bK (x:=n+1) (by omega) (by omega),e1,alR,e2]
def Wh(l:List LT):Prop:=l.length≤4∧∀x∈l,x.1.size≤64∧x.2.1.size≤64
theorem Wh.z{l:List LT}(h:Wh l):J9 l:=⟨by have:=h.1;omega,fun x hx=>by have:=(h.2 x hx).2;omega⟩
abbrev fQ:List ByteArray:=[(bs [97,112,112]),(bs [104,111,115,116]),(bs [115,101,118]),(bs [116,101,97,109])]
abbrev RI:List ByteArray:=[ByteArray.empty,(bs [97]),(bs [98]),(bs [99,114,105,116]),(bs [97,34,98,92]),(bs [119,101,98,45,49])]
abbrev ahI:ByteArray×ByteArray×ByteArray×ByteArray×Unit:=((bs [97,112,112]),((bs [104,111,115,116]),((bs [115,101,118]),((bs [116,101,97,109]),()))))
theorem Nk:∀v∈RI,vE v=true∧v.size≤64:=by decide+kernel
theorem vZ:∀k∈fQ,kT k=true∧k.size≤64:=by decide+kernel
def ji(ks:List ByteArray)(l:List LT):Prop:=(l.map (·.1)).Sublist ks∧∀x∈l,x.2.1∈RI∧x.2.1≠ByteArray.empty
theorem Lx:∀(n i:Nat) (d:iP) (l:List LT),i+n=4→tC d→ji (fQ.take i) l→
  ∃(l':List LT) (d':iP),aA za (((i:Int),ahI,()),((d,()),(l,())))=some ((),((d',()),(l',())))∧tC d'∧ji fQ l':=by
 intro n
 induction n with
 |zero=>
  intro i d l hi hd hl;refine⟨l,d,aB ?_,hd,by rw[show i=4 by omega]at hl;exact hl⟩;have:decide ((i:Int)<4)=false:=akY (by omega);simp only[za,this,au,sS]
 |succ n ih=>
  intro i d l hi hd hl;obtain⟨k,hk⟩:=getD_some (l:=fQ) (i:=i) (by show i<4;omega);obtain⟨a,d1,e1,hd1,b1,_⟩:=fJ 6 d hd (by omega);have b1:=b1 (by omega);obtain⟨v,hv⟩:=getD_some (l:=RI) (i:=a.toNat) (by show a.toNat<6;omega);have h0:decide ((i:Int)<4)=true:=akW (by omega);have hb:decide ((0:Int)≤a∧(a:Int)<RI.length)=true:=akW ⟨b1.1,b1.2⟩;have htk:fQ.take (i+1)=fQ.take i++ [k]:=by rw[am9,hk];rfl
  have hw:aS ((i:Int)+1)=((i+1:Nat):Int):=aI (by omega)
  have hlen:l.length≤4:=by
   have:=hl.1.length_le;rw[ald,alv]at this;omega
  by_cases he:v=ByteArray.empty
  ·obtain⟨l',d',e2,hd',hl'⟩:=ih (i+1) d1 l (by omega) hd1 ⟨by rw[htk];exact hl.1.trans (List.sublist_append_left _ _),hl.2⟩;refine⟨l',d',?_,hd',hl'⟩;rw[←e2];refine aD ?_;simp only[za,h0,aK,aF hk,e1,hb,hv,bA,jY,akW he,au,sS,hw]
  ·obtain⟨l',d',e2,hd',hl'⟩:=ih (i+1) d1 (l++ [(k,v,())]) (by omega) hd1 ⟨by rw[htk,alB];exact hl.1.append (List.Sublist.refl _),fun x hx=>by
    rcases alx.1 hx with h|h
    ·exact hl.2 x h
    ·simp only[alV]at h;subst h;exact⟨alb hv,he⟩⟩
   refine⟨l',d',?_,hd',hl'⟩;rw[←e2];refine aD ?_;have h1:decide (l.length+([(k,(v,()))]:List LT).length≤4294967296)=true:=akW (by simp;omega);simp only[za,h0,aK,aF hk,e1,hb,hv,bA,jY,akY he,au,sS,h1,hw]
theorem M7(d:iP)(hd:tC d):∃(l:List LT) (d':iP),m39 ((),((d,()),()))=some ((),((d',()),(l,())))∧tC d'∧ji fQ l:=by
 obtain⟨l,d',h1,h2,h3⟩:=Lx 4 0 d [] (by omega) hd ⟨List.nil_sublist _,fun x hx=>by cases hx⟩;refine⟨l,d',?_,h2,h3⟩;unfold m39;refine aR _ h1 rfl
theorem Sj{l:List LT}(h:ji fQ l):Wh l:=by
 refine⟨by have:=h.1.length_le;rw[ald]at this;exact this,fun x hx=>⟨?_,(Nk _ (h.2 x hx).1).2⟩⟩;exact(vZ _ (h.1.subset (List.mem_map_of_mem hx))).2
theorem OE:∀(n i:Nat) (d:iP) (l:List ByteArray),i+n=4→tC d→l.Sublist (fQ.take i)→
  ∃(l':List ByteArray) (d':iP),aA zX (((i:Int),ahI,()),((d,()),(l,())))=some ((),((d',()),(l',())))∧tC d'∧l'.Sublist fQ:=by
 intro n
 induction n with
 |zero=>
  intro i d l hi hd hl;refine⟨l,d,aB ?_,hd,by rw[show i=4 by omega]at hl;exact hl⟩;have:decide ((i:Int)<4)=false:=akY (by omega);simp only[zX,this,au,sS]
 |succ n ih=>
  intro i d l hi hd hl;obtain⟨k,hk⟩:=getD_some (l:=fQ) (i:=i) (by show i<4;omega);obtain⟨b,d1,e1,hd1⟩:=IU 3 d hd (by omega) (by omega);have h0:decide ((i:Int)<4)=true:=akW (by omega);have htk:fQ.take (i+1)=fQ.take i++ [k]:=by rw[am9,hk];rfl
  have hw:aS ((i:Int)+1)=((i+1:Nat):Int):=aI (by omega)
  have hlen:l.length≤4:=by
   have:=hl.length_le;rw[alv]at this;omega
  cases b with
  |false=>
   obtain⟨l',d',e2,hd',hl'⟩:=ih (i+1) d1 l (by omega) hd1 (by rw[htk];exact hl.trans (List.sublist_append_left _ _));refine⟨l',d',?_,hd',hl'⟩;rw[←e2];refine aD ?_;simp only[zX,h0,aK,aF hk,e1,au,sS,hw]
  |true=>
   obtain⟨l',d',e2,hd',hl'⟩:=ih (i+1) d1 (l++ [k]) (by omega) hd1 (by rw[htk];exact hl.append (List.Sublist.refl _));refine⟨l',d',?_,hd',hl'⟩;rw[←e2];refine aD ?_;have h1:decide (l.length+ [k].length≤4294967296)=true:=akW (by simp;omega);simp only[zX,h0,aK,aF hk,e1,au,sS,h1,hw]
theorem Fa(d:iP)(hd:tC d):∃(l:List ByteArray) (d':iP),m62 ((),((d,()),()))=some ((),((d',()),(l,())))∧tC d'∧l.Sublist fQ:=by
 obtain⟨l,d',h1,h2,h3⟩:=OE 4 0 d [] (by omega) hd (List.nil_sublist _);refine⟨l,d',?_,h2,h3⟩;unfold m62;refine aR _ h1 rfl
theorem light(l:List Int):m9 ((l,()),())=some ((decide (l.length≤500),()),()):=by
 unfold m9;rw[show decide ((l.length:Int)≤500)=decide (l.length≤500)from aml.2 (by omega)]
theorem roll(l:List Int):m11 ((l,()),())=some ((),(((l,0,()),()),())):=rfl
end Go.Proofs.YtchnmpafhfjimaaGreatDoor
