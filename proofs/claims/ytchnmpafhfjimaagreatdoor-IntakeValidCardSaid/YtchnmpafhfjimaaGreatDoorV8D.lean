/- Lemmas for the statement of the last text of this claim. -/
import Derived.Test.YtchnmpafhfjimaaGreatDoorV8C
set_option linter.unusedSimpArgs false
set_option linter.unusedVariables false
namespace Go.Proofs.YtchnmpafhfjimaaGreatDoor.Fr
open Go Go.Abs Go.RowKit Go.Maps
theorem Y6:Maps.Keyed Tryz.prog 9:=string_keyed Tryz.underlying9
set_option maxHeartbeats 6400000 in
set_option maxRecDepth 1000000 in
theorem QC(w:World)(a b:Int)(gs sl:Value)(l:List kN)(hsl:sl.oneCell'=true)(hv:PR w FZ gs (bG Il l false))(hb:vW l=true):Calls Tryz.prog 47 #[.agg #[.int .i64 a,gs,sl,.int .i64 b]] w (A7 l w):=by
 have hmm:= @run_makeMap Tryz.prog;obtain⟨ga,gb,go,gcap,rfl,ha,hc⟩:=Qt hv
 have H:Hid ((l≠ [] →ga=some ⟨gb,go,none⟩) ∧∀(p:Nat) (g:kN),l[p]?=some g→∃mv,w.cell? ⟨gb,go+p * 5,none⟩=some (.int .i64 g.1) ∧w.cell? ⟨gb,go+p * 5+1,none⟩=some (.string g.2.1) ∧
   w.cell? ⟨gb,go+p * 5+2,none⟩=some mv∧w.cell? ⟨gb,go+p * 5+3,none⟩=some (.int .i64 g.2.2.2.1) ∧w.cell? ⟨gb,go+p * 5+4,none⟩=some (.int .i64 g.2.2.2.2.1) ∧mv.oneCell'=true∧PR w FZ mv (bG R3 g.2.2.1 false)):=⟨ha,hc⟩
 have HB:Hid (vW l=true):=hb;have hpb:=(ZI hb).len;clear ha hc hv hb;obtain⟨i9,hi9,hz9,hs9,hb9⟩:=info_parts (P:=Tryz.prog) (e:=9) (z:= .string ⟨#[]⟩) (size:=1) (bytes:=16) (by kernel_rfl);obtain⟨i51,hi51,hz51,hs51,hb51⟩:=info_parts (P:=Tryz.prog) (e:=51) (z:= .slice none 0 0) (size:=1) (bytes:=24) (by kernel_rfl)
 go_enter Tryz.func47,Tryz.ntmps47
 go_wp2
 go_loopg [4,18] l.length (fun g kv i wr=>∃(p:Nat) (kv':Value),p≤l.length∧g=l.length - p∧i= .int .i64 p∧kv'=kv∧Hid (FI w wr kv' (bM (l.take p))))
 case atStart=>
  refine⟨0,_,Nat.zero_le _,rfl,rfl,rfl,?_⟩;have h1:=World.ownsMap_made (H:=Value) (w.alloc (.cells #[.int .i64 a,.slice ga l.length gcap,sl,.int .i64 b] 40)) Tryz.prog 9 RV;simp only [World.size_alloc] at h1;exact FI.start ((fP (fP (World.Since.refl _ w) (Nat.le_refl _) (World.grownBy_alloc _ _ none) (fun k e=>by cases e)) (by simp) (World.grownBy_alloc _ _ none) (fun k e=>by cases e))) (by simp) h1
 case round=>
  obtain⟨p,kv,hp,rfl,rfl,rfl,HF⟩:=hrel;by_cases hlt:p< l.length
  ·obtain⟨g,hg⟩:∃g,l[p]?=some g:=⟨_,List.getElem?_eq_getElem hlt⟩
   have hne:l≠ []:=fun e=>by rw [e] at hlt;simp at hlt
   have:=H.out.1 hne;subst this;obtain⟨mv,c0,c1,c2,c3,c4,om,hmv⟩:=H.out.2 p g hg;have hgb:gb< w.heap.size:=World.block_lt_of_cell? _ _ c0;obtain⟨ma,mb,mo,mcap,rfl,hma,hmc⟩:=Rf hmv;have hs:=HF.out.since;have k0:wr.cell? ⟨gb,go+p * 5,none⟩=some (.int .i64 g.1):=by rw [hs.cell (a:=⟨gb,go+p * 5,none⟩) hgb];exact c0
   have k1:wr.cell? ⟨gb,go+p * 5+1,none⟩=some (.string g.2.1):=by rw [hs.cell (a:=⟨gb,go+p * 5+1,none⟩) hgb];exact c1
   have k2:wr.cell? ⟨gb,go+p * 5+2,none⟩=some (.slice ma g.2.2.1.length mcap):=by rw [hs.cell (a:=⟨gb,go+p * 5+2,none⟩) hgb];exact c2
   have k3:wr.cell? ⟨gb,go+p * 5+3,none⟩=some (.int .i64 g.2.2.2.1):=by rw [hs.cell (a:=⟨gb,go+p * 5+3,none⟩) hgb];exact c3
   have k4:wr.cell? ⟨gb,go+p * 5+4,none⟩=some (.int .i64 g.2.2.2.2.1):=by rw [hs.cell (a:=⟨gb,go+p * 5+4,none⟩) hgb];exact c4
   have HM:Hid ((g.2.2.1≠ [] →ma=some ⟨mb,mo,none⟩) ∧∀(q:Nat) (m:jM),g.2.2.1[q]?=some m→∃lv,w.cell? ⟨mb,mo+q * 6,none⟩=some (.string m.1) ∧w.cell? ⟨mb,mo+q * 6+1,none⟩=some lv∧
    w.cell? ⟨mb,mo+q * 6+2,none⟩=some (.int .i64 m.2.2.1) ∧w.cell? ⟨mb,mo+q * 6+3,none⟩=some (.int .i64 m.2.2.2.1) ∧w.cell? ⟨mb,mo+q * 6+4,none⟩=some (.bool m.2.2.2.2.1) ∧w.cell? ⟨mb,mo+q * 6+5,none⟩=some (.bool m.2.2.2.2.2.1) ∧lv.oneCell'=true∧PR w FZ lv (bG je m.2.1 false)):=⟨hma,hmc⟩
   clear c0 c1 c2 c3 c4 om hmv hma hmc hs
   go_wp2
   have HG:Hid (FI w (wr.alloc (.cells #[.int .i64 g.1,.string g.2.1,.slice ma g.2.2.1.length mcap,.int .i64 g.2.2.2.1,.int .i64 g.2.2.2.2.1] 110)) kv (bM (l.take p))):=HF.out.same (World.grownBy_alloc _ _ none);have HT:Hid (l[p]?=some g):=hg;clear HF k0 k1 k2 k3 k4 hg
   go_loopg [4,25] g.2.2.1.length (fun c kx j wi=>∃(q:Nat) (kv':Value),q≤g.2.2.1.length∧c=g.2.2.1.length - q∧j= .int .i64 q∧kv'=kx∧Hid (FI w wi kv' (bM (l.take p)++(g.2.2.1.take q).filter fun m=>m.2.2.2.2.1)))
   case atStart=>exact⟨0,_,Nat.zero_le _,rfl,rfl,rfl,by rw [List.take_zero,List.filter_nil,List.append_nil];exact HG.out⟩
   case round=>
    clear HG;obtain⟨q,kx,hq,rfl,rfl,rfl,HI⟩:=hrel;by_cases hqt:q< g.2.2.1.length
    ·obtain⟨m,hm⟩:∃m,g.2.2.1[q]?=some m:=⟨_,List.getElem?_eq_getElem hqt⟩
     have hne2:g.2.2.1≠ []:=fun e=>by rw [e] at hqt;simp at hqt
     have:=HM.out.1 hne2;subst this;obtain⟨lv,c0,c1,c2,c3,c4,c5,olv,hlv⟩:=HM.out.2 q m hm;obtain⟨la,lb,lo,lcap,rfl,_,_⟩:=vJ hlv;have hmb:mb< w.heap.size:=World.block_lt_of_cell? _ _ c0;have hs:=HI.out.since;have k0:wr.cell? ⟨mb,mo+q * 6,none⟩=some (.string m.1):=by rw [hs.cell (a:=⟨mb,mo+q * 6,none⟩) hmb];exact c0
     have k1:wr.cell? ⟨mb,mo+q * 6+1,none⟩=some (.slice la m.2.1.length lcap):=by rw [hs.cell (a:=⟨mb,mo+q * 6+1,none⟩) hmb];exact c1
     have k2:wr.cell? ⟨mb,mo+q * 6+2,none⟩=some (.int .i64 m.2.2.1):=by rw [hs.cell (a:=⟨mb,mo+q * 6+2,none⟩) hmb];exact c2
     have k3:wr.cell? ⟨mb,mo+q * 6+3,none⟩=some (.int .i64 m.2.2.2.1):=by rw [hs.cell (a:=⟨mb,mo+q * 6+3,none⟩) hmb];exact c3
     have k4:wr.cell? ⟨mb,mo+q * 6+4,none⟩=some (.bool m.2.2.2.2.1):=by rw [hs.cell (a:=⟨mb,mo+q * 6+4,none⟩) hmb];exact c4
     have k5:wr.cell? ⟨mb,mo+q * 6+5,none⟩=some (.bool m.2.2.2.2.2.1):=by rw [hs.cell (a:=⟨mb,mo+q * 6+5,none⟩) hmb];exact c5
     clear c0 c1 c2 c3 c4 c5 hs;have hB:=ZI HB.out;have hbm:=hB.mem g (List.mem_of_getElem? HT.out) m (List.mem_of_getElem? hm);have hql:g.2.2.1.length≤4294967296:=by exact Nat.le_trans (Wi HT.out) hB.all
     have hpl:=Nat.le_trans (Ot HT.out q) hB.all;have hkl:=MV (bM (l.take p)++(g.2.2.1.take q).filter fun m=>m.2.2.2.2.1) [];simp only [List.length_nil,Nat.add_zero] at hkl;have hkey:keyOf Tryz.prog 9 (.string m.1)=some (kl m.1):=WideMaps.keyOf_string_mk (P:=Tryz.prog) Tryz.underlying9 (by unfold maxLen;omega);obtain⟨D,d1,d2,d3⟩:=HI.out.map;have hx:=HI.out.keys;have hsz:=HI.out.size;have HR:Hid (PR w FZ (.slice la m.2.1.length lcap) (bG je m.2.1 false)):=hlv;have HMm:Hid (g.2.2.1[q]?=some m):=hm;have HD2:Hid (∀k,Maps.has D (kl k)=(bL (bM (l.take p)++(g.2.2.1.take q).filter fun m=>m.2.2.2.2.1) []).any fun x=>decide (x=k)):=d2;have HD3:Hid (∀k∈bL (bM (l.take p)++(g.2.2.1.take q).filter fun m=>m.2.2.2.2.1) [],∃lv,D.atKey (kl k) zS= .held lv∧PR w FZ lv (bG je (jd (bM (l.take p)++(g.2.2.1.take q).filter fun m=>m.2.2.2.2.1) k) false)):=d3
     obtain⟨pre,hpre⟩:∃pre,pre=bM (l.take p)++(g.2.2.1.take q).filter fun m=>m.2.2.2.2.1:=⟨_,rfl⟩
     rw [←hpre] at d1 hx hkl HD2 HD3 HI hpl;have HP:Hid (pre=bM (l.take p)++(g.2.2.1.take q).filter fun m=>m.2.2.2.2.1):=hpre;clear hlv hm d2 d3 hB hpre;generalize hhas:Maps.has D (kl m.1)=seen
     go_wp2_with (first
      |(at_lookup;refine wpList_lookup_own_ok _ rfl _ _ 154 rfl 9 51 Y6 Tryz.underlying154 RV (Tryz.zeroValue51 _) zS [] rfl (w.heap.size+1) _ D rfl (d1.alloc _) _ _ rfl hkey ?_;intro v ps hv;rw [hhas])
      | (at_mapUpdate;refine wpList_mapUpdate_own _ rfl _ _ _ 154 rfl 9 51 Y6 Tryz.underlying154 RV (w.heap.size+1) _ D rfl (d1.alloc _) (by unfold maxLen;omega) _ _ _ rfl rfl hkey (.held (.slice la m.2.1.length lcap)) [] rfl ?_;intro w1 hown1 hgrow1
         have k6:w1.cell? ⟨wr.heap.size,0,none⟩=some (.string m.1):=kD hgrow1 (by simp) (by intro e;have:=Option.some.inj e;omega) (PG _ _ _ _);have hs1:=hgrow1.size)
      |(at_builtin;refine wpList_append_lies _ rfl _ _ 50 rfl (w.heap.size+2) 9 i9 (.string ⟨#[]⟩) 1 16 Tryz.underlying50 hi9 hz9 hs9 hb9 rfl (by decide) kx _ _ rfl (((hx.alloc _).kept hgrow1 (by cases hkb:kx.ownBlock with|none=>exact .inl rfl|some k=>exact .inr (by have:=(hx.lt k hkb).1;simp;omega))).alloc _) ⟨w1.heap.size,0,none⟩ 1 1 [.string m.1] rfl rfl Kv (by intro u hu;simp at hu;subst hu;rfl) (by decide) (by unfold maxLen;omega) (by omega) (by simp at hs1 ⊢;omega) _ rfl ?_;intro g2 cap2 w2 hown2 hgrow2 hat2 hlt2))
     ·have hf:m.2.2.2.2.1=true:=by assumption
      have hno:m.1∉bL pre []:=fun c=>by
       have h1:=HD2.out m.1;rw [CK.2 c,hhas] at h1;have h2:(!seen)=true:=by assumption
       rw [h1] at h2;cases h2
      go_roundg (g.2.2.1.length -(q+1))
      case measure=>omega
      case rel=>
       refine⟨q+1,_,by omega,rfl,by go_num,rfl,?_⟩;rw [rV HMm.out,if_pos hf,←List.append_assoc,←HP.out];exact HI.out.new hno d1 HD2.out HD3.out HR.out (World.grownBy_alloc _ _ none) hown1 hgrow1 (World.grownBy_alloc _ _ none) hgrow2 hown2
     ·have hf:m.2.2.2.2.1=true:=by assumption
      have hyes:m.1∈bL pre []:=by
       have h1:=HD2.out m.1;have h2:(!seen)=false:=by assumption
       rw [hhas] at h1;cases seen
       ·cases h2
       ·exact CK.1 h1.symm
      go_roundg (g.2.2.1.length -(q+1))
      case measure=>omega
      case rel=>
       refine⟨q+1,_,by omega,rfl,by go_num,rfl,?_⟩;rw [rV HMm.out,if_pos hf,←List.append_assoc,←HP.out];exact(HI.out.same (World.grownBy_alloc _ _ none)).seen hyes
     ·have hf:m.2.2.2.2.1=false:=by
       have h:¬ m.2.2.2.2.1=true:=by assumption
       simpa using h
      go_roundg (g.2.2.1.length -(q+1))
      case measure=>omega
      case rel=>
       refine⟨q+1,_,by omega,rfl,by go_num,rfl,?_⟩;rw [rV HMm.out,if_neg (by rw [hf];simp),List.append_nil,←HP.out];exact HI.out.same (World.grownBy_alloc _ _ none)
    ·have hqe:q=g.2.2.1.length:=by omega
     have HE:Hid (FI w wr kx (bM (l.take (p+1)))):=by
      have:=HI.out;rw [hqe,List.take_length,←TL HT.out] at this;exact this
     clear HI
     go_wp2
     go_roundg (l.length -(p+1))
     case measure=>omega
     case rel=>exact⟨p+1,_,by omega,rfl,by go_num,rfl,HE.out⟩
  ·have hpe:p=l.length:=by omega
   have HE:Hid (FI w wr kv (bM l)):=by
    have:=HF.out;rw [hpe,List.take_length] at this;exact this
   have hB:=ZI HB.out
   have hkl:(jN l).length≤4294967296:=by
    have h1:=MV (bM l) [];have h2:=OA l;have h3:=hB.all;simp only [List.length_nil,Nat.add_zero] at h1;exact Nat.le_trans h1 (Nat.le_trans h2 h3)
   clear HF;have hsort:=Nz HE.out.keys hkl;obtain⟨ka,kg,kcap,rfl,hka⟩:=UC HE.out.keys;have HK:Hid ((jN l).length≠0→ka=some ⟨kg,0,none⟩):=hka;clear hka;obtain⟨N,hN⟩:∃N,N=(jN l).length:=⟨_,rfl⟩
   go_wp2_with (go_at_call 102;refine hsort.mono ?_;rintro e w1 ⟨rfl,hown1,hgrow1⟩)
   have HS:Hid (w.Since w.heap.size w1∧w1.ownsRow (w.heap.size+2) 9 1 (.slice ka (jN l).length kcap) (jN l).length ((sorted (jN l)).map encStr) ∧∃D,w1.ownsMap Tryz.prog 9 RV (w.heap.size+1) (bM l).length D∧
     ∀k∈jN l,∃lv,D.atKey (kl k) zS= .held lv∧PR w FZ lv (bG je (jd (bM l) k) false)):=by
    obtain⟨D,d1,d2,d3⟩:=HE.out.map;have hlt:=HE.out.keys.lt;have hsz:=HE.out.size;refine⟨fP HE.out.since (by omega) hgrow1 (fun k e=>by have:=(hlt k e).1;omega),hown1,D,d1.kept hgrow1 ?_,d3⟩;intro e;have:=(hlt _ e.symm).1;omega
   clear HE hsort hown1 hgrow1
   go_loopg [11,58] (jN l).length (fun c ov i wo=>∃(q:Nat) (ov':Value),q≤(jN l).length∧c=(jN l).length - q∧i= .int .i64 q∧ov'=ov∧Hid (OI l w1 wo ov' q))
   case atStart=>exact⟨0,_,Nat.zero_le _,rfl,rfl,rfl,OI.start l w1⟩
   case round=>
    obtain⟨q,ov,hq,rfl,rfl,rfl,HO⟩:=hrel;by_cases hqt:q< (jN l).length
    ·have hkq:q< (sorted (jN l)).length:=by rw [xB];exact hqt
     obtain⟨k,hk⟩:∃k,(sorted (jN l))[q]?=some k:=⟨_,List.getElem?_eq_getElem hkq⟩
     have hmem:=NC (List.mem_of_getElem? hk);obtain⟨gx,hgx,mx,hmx,emx⟩:=UY hmem;have hkb:=(hB.mem gx hgx mx hmx).1;rw [emx] at hkb;have:=HK.out (by omega);subst this;obtain⟨s1,s2,D,s3,s4⟩:=HS.out
     have k0:wr.cell? ⟨kg,q,none⟩=some (.string ⟨k.toArray⟩):=by
      have h1:w1.cell? ⟨kg,q,none⟩=((sorted (jN l)).map encStr)[q]?:=s2.cellAt q (by omega);rw [List.getElem?_map,hk] at h1;exact kD HO.out.grown (s2.lt kg rfl).2 (by simp) h1
     have hkey:keyOf Tryz.prog 9 (.string ⟨k.toArray⟩)=some (kl ⟨k.toArray⟩):=WideMaps.keyOf_string_mk (P:=Tryz.prog) Tryz.underlying9 (by unfold maxLen;omega);obtain⟨v,ps,hrun,hv⟩:=(s3.kept HO.out.grown (by simp)).lookup Y6 Tryz.underlying154 (Tryz.zeroValue51 _) (zd:=zS) (zp:=[]) rfl hkey;obtain⟨lv,e1,e2⟩:=s4 _ hmem;rw [e1] at hv;have hve:v=lv:=(show v=lv∧ps=[] by simpa [RV] using hv).1;subst hve;obtain⟨la,lb,lo,lcap,rfl,_,_⟩:=vJ e2;have hsw:w.Since w.heap.size wr:=fP s1 s1.size HO.out.grown (fun k e=>by cases e);have hclone:=Lc (TY e2 hsw) (VD hB k);obtain⟨xs,hx,hr⟩:=HO.out.rows;have HR:Hid (∀(p:Nat) (y:Value),xs[p]?=some y→∃k,(sorted (jN l))[p]?=some k∧l9 wr w1.heap.size ov.ownBlock y (w9 l k)):=hr;have HKQ:Hid ((sorted (jN l))[q]?=some k):=hk;have hsz:=HO.out.grown.size;clear s1 s2 s3 s4 hv e2 hsw hr hk hmem emx hgx hmx
     go_wp2_with (first
      | (go_at_call 103;refine hclone.mono ?_;rintro e w2 ⟨v',rfl,hpr,ho,hbel⟩
         obtain⟨va,vb,vo,vcap,rfl,_,_⟩:=vJ hpr;have hg2:=L8 hbel;have HL:Hid (l9 w2 wr.heap.size none (.slice va (jd (bM l) ⟨k.toArray⟩).length vcap) (w9 l k)):=Y0 hpr;have hsz2:=hg2.size)
      |(at_builtin;refine wpList_append_lies _ rfl _ _ 94 rfl w1.heap.size 51 i51 (.slice none 0 0) 1 24 Tryz.underlying94 hi51 hz51 hs51 hb51 rfl (by decide) ov q xs rfl ((hx.kept hg2 (by cases ov.ownBlock with|none=>exact .inl rfl|some k=>exact .inr (by simp))).alloc _) ⟨w2.heap.size,0,none⟩ 1 1 [.slice va (jd (bM l) ⟨k.toArray⟩).length vcap] rfl rfl Kv (by intro u hu;simp at hu;subst hu;rfl) (by decide) (by unfold maxLen;omega) (by omega) (by simp;omega) _ rfl ?_;intro g3 cap3 w3 hown3 hgrow3 hat3 hlt3))
     go_roundg ((jN l).length -(q+1))
     case measure=>omega
     case rel=>exact⟨q+1,_,by omega,rfl,by go_num,rfl,HO.out.step hx HR.out HKQ.out HL.out hg2 hgrow3 hown3 hat3⟩
    ·have hqe:q=(jN l).length:=by omega
     have HD:Hid (OI l w1 wr ov (sorted (jN l)).length):=by rw [xB,←hqe];exact HO.out
     clear HO
     go_wp2
     go_ret
     exact HD.out.done HS.out.1
theorem YA:dU Tryz.prog 47 O8:=UR (entered Tryz.func47 rfl (by decide)) QC
end Go.Proofs.YtchnmpafhfjimaaGreatDoor.Fr
namespace Go.Proofs.YtchnmpafhfjimaaGreatDoor
open Go Go.Abs
noncomputable section
abbrev bW:Type:=(List (ByteArray×ByteArray×Unit))
abbrev Y9:Type:=(ByteArray×bW×Int×Int×Bool×Bool×Unit)
abbrev Y3:Type:=(Int×ByteArray×(List Y9)×Int×Int×Unit)
abbrev JL:Abs.Ty:=(.cons (.int .i64) (.cons (.int .i64) (.cons (.int .i64) (.cons .str (.cons (.row .str) (.cons (.row .str) .unit))))))
abbrev iE:Abs.Ty:=(.cons .str (.cons .str .unit))
abbrev Z7:Abs.Ty:=(.cons .str (.cons (.row iE) (.cons (.int .i64) (.cons (.int .i64) (.cons .bool (.cons .bool .unit))))))
abbrev Z1:Abs.Ty:=(.cons (.int .i64) (.cons .str (.cons (.row Z7) (.cons (.int .i64) (.cons (.int .i64) .unit)))))
abbrev jF:Type:=((Int×ByteArray×Int×Int×Unit)×Unit)
abbrev wF:Type:=((Int×Int×Int×ByteArray×Unit)×Unit)
abbrev Z20:Abs.Ty:=(.cons (.row (.int .i64)) (.cons (.int .i64) .unit))
abbrev fH:Type:=((Bool×Unit)×(Unit))
abbrev j4:Type:=((Int×Int×Unit)×Unit)
abbrev lH:Type:=(((List Int)×Int×Unit)×Unit)
abbrev FN:Type:=(Int×Int×Int×ByteArray×(List ByteArray)×(List ByteArray)×Unit)
abbrev JK:Abs.Ty:=(.cons .str (.cons (.int .i64) (.cons .str .unit)))
abbrev Z2:Abs.Ty:=(.row JK)
abbrev Z5:Abs.Ty:=(.cons (.int .i64) (.cons Z2 (.cons (.int .i64) (.cons (.row .str) (.cons (.int .i64) (.cons (.int .i64) (.cons (.int .i64) (.cons .bool .unit))))))))
abbrev Z6:Abs.Ty:=(.cons (.int .i64) (.cons (.int .i64) (.cons (.int .i64) (.cons (.int .i64) (.cons Z2 .unit)))))
abbrev XA:Abs.Ty:=(.cons (.int .i64) (.cons (.row Z1) (.cons (.row Z6) (.cons (.int .i64) .unit))))
abbrev qo:Abs.Ty:=(.cons Z2 (.cons Z2 (.cons (.row .str) .unit)))
abbrev Tv:Abs.Ty:=(.cons (.row Z5) (.cons (.row qo) (.cons (.int .i64) .unit)))
abbrev Fe:Type:=((ByteArray×Unit)×(Unit))
abbrev UG:Type:=((List Y9)×wF×(List ByteArray)×(List ByteArray)×Unit)
abbrev Ke:Type:=(ByteArray×Int×ByteArray×Unit)
abbrev Y4:Type:=(List Ke)
abbrev Y8:Type:=(Int×Y4×Int×(List ByteArray)×Int×Int×Int×Bool×Unit)
abbrev kU:Type:=(Y4×Y4×(List ByteArray)×Unit)
abbrev lK:Type:=((List Y8)×(List kU)×Int×Unit)
abbrev Ma:Type:=(Int×Int×Int×Int×Y4×Unit)
abbrev eF:Type:=(List Ma)
abbrev wu:Type:=((Int×(List Y3)×eF×Int×Unit)×Unit)
abbrev JI:Type:=((List Y3)×(lK×Unit)×j4×eF×Unit)
abbrev Z33:Abs.Ty:=(.cons (.int .i64) (.cons (.row iE) (.cons .bool .unit)))
abbrev bn:Abs.Sh:=(.dat (.int .i64) .nil)
abbrev Vg:Abs.mX:=(.box 9 (.agg (.dat (.row Z5) (.dat (.row qo) (.dat (.int .i64) (.dat (.int .i64) (.part Z1 (1,0) (.st (.own Z6 (2,0)) (.dat (.int .i64) (.st (.own JL (3,0)) bn)))))))) .nil) (.arr Z1 false (.arr Z6 false (.arr JL false .nil))))
abbrev Rj:Abs.Sh:=(.agg (.dat (.int .i64) (.dat (.int .i64) (.dat (.int .i64) (.dat .str (.st .nil (.st .nil .nil)))))) .nil)
abbrev nk:Abs.Sh:=(.dat (.int .i64) bn)
abbrev Ju:Abs.Sh:=(.agg (.dat (.int .i64) (.dat .str (.st .nil nk))) .nil)
abbrev dQ:Abs.Sh:=(.dat .bool .nil)
abbrev qF:Abs.Sh:=(.agg (.dat (.int .i64) (.st .nil (.st .nil bn))) .nil)
abbrev PN:Abs.Sh:=(.agg (.dat (.int .i64) (.dat (.int .i64) (.dat (.int .i64) (.dat .str (.st (.own .str (5,0)) (.st (.own .str (6,0)) .nil)))))) .nil)
abbrev fI:Abs.Fh:=(.ptr (0,0) 5 0 0)
abbrev Ie:Abs.mX:=(.box 5 (.agg (.dat (.int .i64) (.dat .str (.st (.own Z7 (1,0)) nk))) .nil) (.arr Z7 false .nil))
abbrev gN:Abs.Fh:=(.ptr (0,0) 4 0 0)
abbrev uy:Abs.mX:=(.box 5 (.dat Z1 .nil) .nil)
abbrev gG:Abs.Sh:=(.dat .str .nil)
abbrev ahK:Abs.Sh:=(.agg (.dat (.int .i64) (.dat (.int .i64) (.dat (.int .i64) (.dat .str (.st (.own .str (4,0)) (.st (.own .str (5,0)) .nil)))))) .nil)
abbrev Ik:Abs.mX:=(.arr .str false (.arr .str false .nil))
abbrev Ya:Abs.mX:=(.box 6 (.agg (.dat (.int .i64) (.dat (.int .i64) (.dat (.int .i64) (.dat .str (.st (.own .str (2,0)) (.st (.own .str (3,0)) .nil)))))) .nil) Ik)
abbrev jX:Abs.Sh:=(.dat (.row iE) .nil)
abbrev lg:Abs.Sh:=(.dat Z20 .nil)
abbrev UN:Abs.mX:=(.box 5 Ju (.box 5 (.agg (.dat (.int .i64) (.dat .str (.st (.own Z7 (2,0)) nk))) .nil) (.arr Z7 false .nil)))
abbrev Qx:Abs.Sh:=(.agg (.dat (.int .i64) (.dat .str (.st (.own Z7 (0,0)) nk))) .nil)
abbrev Xq:Abs.Sh:=(.dat (.int .i64) (.st (.own Z1 (0,0)) (.st (.clo 132 [((1,0),3,0,0),((2,0),4,0,0)]) bn)))
abbrev q9:Abs.Fh:=(.ptr (1,0) 4 0 0)
abbrev oJ:Abs.Fh:=(.ptr (0,0) 2 0 0)
abbrev qM:Abs.Fh:=(.ptr (1,0) 5 0 0)
abbrev qU:Abs.Sh:=(.dat XA .nil)
abbrev Zt:Abs.mX:=(.box 4 qU (.box 3 (.agg (.st (.own Z5 (3,0)) (.st (.own qo (4,0)) bn)) .nil) (.box 2 lg (.arr Z5 true (.arr qo true .nil)))))
abbrev AQ:Abs.Fh:=(.ptr (1,0) 6 0 0)
abbrev rG:Abs.mX:=(.box 2 lg .nil)
abbrev mV:Abs.Sh:=(.dat Z5 .nil)
abbrev WI:Abs.mX:=(.box 5 (.agg (.dat (.int .i64) (.dat .str (.st (.own Z7 (3,0)) nk))) .nil) (.box 8 mV (.box 5 Ju (.arr Z7 false .nil))))
abbrev Zi:Abs.mX:=(.box 5 Ju (.box 6 Rj (.box 6 PN (.box 5 (.agg (.dat (.int .i64) (.dat .str (.part Z7 (7,0) nk))) .nil) (.box 8 mV (.arr .str false (.arr .str false (.arr Z7 false .nil))))))))
abbrev Ga:Abs.mX:=(.arr (.int .i64) false .nil)
abbrev qY:Abs.mX:=(.arr Z6 false .nil)
abbrev TK:Abs.mX:=(.box 4 (.agg (.dat (.int .i64) (.st (.own Z1 (1,0)) (.st (.own Z6 (2,0)) bn))) .nil) (.arr Z1 false qY))
abbrev ZG:Abs.mX:=(.box 4 (.agg (.dat (.int .i64) (.part Z1 (2,0) (.st (.own Z6 (3,0)) bn))) .nil) (.arr JL false (.arr Z1 false qY)))
abbrev yT:Abs.mX:=(.arr iE false .nil)
abbrev EM:Abs.Sh:=(.dat (.int .i64) nk)
abbrev oH:Abs.Sh:=(.dat Tv .nil)
abbrev Om:Abs.mX:=(.arr Z1 false (.box 3 oH (.box 4 (.agg (.dat (.int .i64) (.st (.own Z1 (0,0)) (.st (.own Z6 (3,0)) bn))) .nil) qY)))
abbrev Kn:Abs.mX:=(.box 3 oH (.box 4 qU .nil))
abbrev Xz:Abs.mX:=(.box 4 qF (.box 4 (.agg (.dat (.int .i64) (.st (.own Z1 (5,0)) (.st (.own Z6 (6,0)) bn))) .nil) (.box 3 (.dat Z33 .nil) (.box 3 oH (.arr (.int .i64) false (.arr Z1 false qY))))))
abbrev zV:Abs.Fh:=(.ptr (0,0) 3 0 0)
abbrev FK:Abs.Sh:=(.dat (.row .str) .nil)
abbrev FP:Abs.Fh:=(.own (.int .i64) (0,0))
abbrev Qo:Abs.Sh:=(.dat (.int .i64) (.st fI .nil))
abbrev Aw:Abs.Fh:=(.ptr (2,0) 5 0 0)
abbrev Xd:Abs.Sh:=(.st (.clo 132 [((1,0),3,0,0),((2,0),4,0,0)]) .nil)
abbrev IQ:Abs.Sh:=(.dat (.int .i64) gG)
def note:FuncId→Abs.Note
 |8=>⟨true,[0,2,3,4,5,6,7,8,9,12,20,31,32,49,59,70,82,87,97],false,fun|10=> [(1,3),(1,4)]|15=> [(0,4),(1,4),(0,6),(1,6)]|19=> [(0,3),(1,3)]|21=> [(0,3),(1,3)]|_=> []⟩
 |9=>⟨true,[0,2],false,fun _=> []⟩
 |10=>⟨true,[0,1,2,4,5,6,7,8,9,10,11,12,13],false,fun|4=> [(0,1),(0,3),(1,3),(0,10),(1,10),(3,10),(5,10)]|_=> []⟩
 |11=>⟨true,[0,2],false,fun _=> []⟩
 |12=>⟨true,[0,1,4],false,fun _=> []⟩
 |15=>⟨true,[0,1,2,3,6,7,8,9,10,12,13,14,17,22,27,39,40,41,42,50,67,76],false,fun|8=> [(0,1)]|22=> [(7,8)]|_=> []⟩
 |17=>⟨true,[0,1,2,3,4,5,34,39,53],false,fun _=> []⟩
 |20=>⟨true,[0,1,2,4,7],false,fun _=> []⟩
 |24=>⟨true,[0,2,3,4],false,fun _=> []⟩
 |25=>⟨true,[0,1,2,3,4,5,6,7,8,9,10,11,17,33],false,fun|13=> [(2,3)]|_=> []⟩
 |26=>⟨true,[0],false,fun _=> []⟩
 |27=>⟨true,[0,1,2,3,4,5,6,7,8,10,11,12,13,14,15,25,32,44,45,46,47,72,74,105,119],false,fun|15=> [(1,5),(1,6)]|16=> [(1,20),(4,20),(6,20),(9,20),(11,20),(13,20),(15,20),(16,20)]|_=> []⟩
 |28=>⟨true,[0,1,2,3,4,6,7,8,9,10,14,20],false,fun _=> []⟩
 |29=>⟨true,[0,1,2,3,4,6,7,8,9,13,25],false,fun _=> []⟩
 |30=>⟨true,[0,1,2,3,4,5,7,9,10,11,12,27],false,fun _=> []⟩
 |32=>⟨true,[0,1,4],false,fun _=> []⟩
 |34=>⟨true,[0,1,2,3,4,9,15,24],false,fun _=> []⟩
 |35=>⟨true,[0,1,2,3,4,9,15,24],false,fun _=> []⟩
 |36=>⟨true,[0,1,2,3,4,5,6,7,37,54,56,57,58,59,98,102],false,fun _=> []⟩
 |37=>⟨true,[0,1,2,3,4,5,6,7,8,38,43,86,91,109,114,125],false,fun|12=> [(12,14)]|_=> []⟩
 |38=>⟨true,[0,1,4,5,19,40],false,fun _=> []⟩
 |39=>⟨true,[0,2,3,5,6,7,8,9,17],false,fun _=> []⟩
 |40=>⟨true,[0,1,4],false,fun _=> []⟩
 |43=>⟨true,[0,1,4,5],false,fun _=> []⟩
 |47=>⟨true,[0,1,2,3,4,6,8,10,11,13,16,17,18,19,23,24,25,26,41,56,57,58,59],true,fun _=> []⟩
 |49=>⟨true,[0,1,4,5,10,14,25],false,fun _=> []⟩
 |50=>⟨true,[0,1,4,5,6,7,16],false,fun _=> []⟩
 |51=>⟨true,[0,2,3,4,5,9],false,fun _=> []⟩
 |52=>⟨true,[0,1,4,5,6,7,8,23,35],false,fun|7=> [(3,19),(7,19),(13,19),(15,19)]|_=> []⟩
 |53=>⟨true,[0,1,4,5,6,7,8,13,17,62,67,80],false,fun|6=> [(3,8),(7,8),(3,9),(7,9),(8,9),(7,10)]|_=> []⟩
 |54=>⟨true,[0,1,2,3,4,5,6,7,42,47,100],false,fun|6=> [(1,10),(4,10),(6,10),(9,10),(1,11),(4,11),(6,11),(9,11),(10,11),(6,12),(9,12)]|_=> []⟩
 |56=>⟨true,[0,2,3,4,7,10,14,47,54,61],false,fun _=> []⟩
 |57=>⟨true,[0,2,3,6,10,54],false,fun _=> []⟩
 |59=>⟨true,[0,2,3,4,7,11,15],false,fun|9=> [(5,12)]|_=> []⟩
 |60=>⟨true,[0,1,4,5,6,7,11,17,29],false,fun _=> []⟩
 |62=>⟨true,[0,2,3,5,6,7,8,11],false,fun _=> []⟩
 |63=>⟨true,[0,1,3,4,5,6,7,17],false,fun|1=> [(1,2),(1,3)]|_=> []⟩
 |64=>⟨true,[0,1,2,3,4,14,15,16,17],true,fun|1=> [(2,4)]|5=> [(1,4)]|_=> []⟩
 |65=>⟨true,[0,1,4,5,9,10,11,12,29],true,fun _=> []⟩
 |66=>⟨true,[0,2,3,4,7,8,9,10,11,44],false,fun _=> []⟩
 |67=>⟨true,[0,1,2,4,5,10],false,fun _=> []⟩
 |68=>⟨true,[0,1,4,12],false,fun _=> []⟩
 |69=>⟨true,[0,1,2,4,7],false,fun _=> []⟩
 |70=>⟨true,[0,1,2,4,6,7],true,fun _=> []⟩
 |71=>⟨true,[0,1,2,6,7,8,9,16,22,31,68],true,fun _=> []⟩
 |72=>⟨true,[0,1,4],false,fun _=> []⟩
 |73=>⟨true,[0,1,2,3,4,5,6,10,11,12,13,14,15,16,31,46,59,68],false,fun _=> []⟩
 |74=>⟨true,[0,1,2,3,4],true,fun _=> []⟩
 |75=>⟨true,[0,1,2,3,4,6,7,8,9,10,11,12,13,14,15,16,23,24,25,26,52,53,54,55,83],false,fun|6=> [(1,13)]|13=> [(0,12),(2,12),(4,12),(6,12),(0,19),(2,19),(4,19),(6,19),(8,19),(9,19),(10,19),(12,19),(13,19),(0,20),(2,20),(4,20),(6,20),(8,20),(9,20),(10,20),(12,20),(13,20),(19,20)]|_=> []⟩
 |76=>⟨true,[0,1,2,4,6,7,8,9,10,14,19,22,38],false,fun _=> []⟩
 |78=>⟨true,[0,2,3,4,5,6,10,14,15,16,17,25,33],false,fun _=> []⟩
 |79=>⟨true,[0,2,4,5,8,9,10,11,12,18],false,fun _=> []⟩
 |80=>⟨true,[0,2,3,4,7,11,18,29,46],false,fun _=> []⟩
 |81=>⟨true,[0,2,3,5,6,9,10,11,12,13,20],false,fun _=> []⟩
 |82=>⟨true,[0,1,2,3,4,25,27,28,29,30,52],false,fun _=> []⟩
 |83=>⟨true,[0,1,2,3,4,6],true,fun _=> []⟩
 |84=>⟨true,[0,1,2,3,6,10],false,fun _=> []⟩
 |85=>⟨true,[0,1,4],false,fun _=> []⟩
 |86=>⟨true,[0,1,2,3,4],true,fun|1=> [(8,10)]|_=> []⟩
 |87=>⟨true,[0,2,3,4,7,11,18,37,58,63,68],false,fun _=> []⟩
 |88=>⟨true,[0,1,2,3,4,35,40,96],false,fun|7=> [(7,9)]|_=> []⟩
 |89=>⟨true,[0,1,2,3,4,6],true,fun _=> []⟩
 |90=>⟨true,[0,1,2,3,6],false,fun _=> []⟩
 |97=>⟨true,[0,1,4,5,6,12],false,fun _=> []⟩
 |98=>⟨true,[0,2],false,fun|1=> [(0,2),(0,6),(4,6),(0,7),(2,7),(4,7),(6,7),(0,9),(4,9),(7,9),(0,11)]|_=> []⟩
 |102=>⟨true,[0,2],false,fun _=> []⟩
 |103=>⟨true,[0,2,4],false,fun _=> []⟩
 |104=>⟨true,[0,1,2,3,13,18,27,28,33],false,fun _=> []⟩
 |105=>⟨true,[0,2,3,21,25,55],false,fun _=> []⟩
 |106=>⟨true,[0,2,3,6,10,22],false,fun _=> []⟩
 |109=>⟨true,[0,2,3,4,8,20],false,fun _=> []⟩
 |111=>⟨true,[0,2,3,4,8,9,10],false,fun _=> []⟩
 |112=>⟨true,[0,2,4],false,fun _=> []⟩
 |113=>⟨true,[0,1,2,3,10,11,12],true,fun|5=> [(1,9)]|_=> []⟩
 |114=>⟨true,[0,1,2],true,fun _=> []⟩
 |115=>⟨true,[0,2,3,4,21,23,24,25,47],false,fun _=> []⟩
 |116=>⟨true,[0,2,3,5,6,7,18],false,fun _=> []⟩
 |117=>⟨true,[0,1,2,6,7,9,12,13,14,15,25,37,41],false,fun _=> []⟩
 |118=>⟨true,[0,2,3,5,8,9,10,11,12],false,fun|7=> [(2,6)]|_=> []⟩
 |119=>⟨true,[0,1,4,5,7,8,9,10,11,17],false,fun _=> []⟩
 |120=>⟨true,[0,1,2,6,7,8,9,10,11,17,31],true,fun _=> []⟩
 |121=>⟨true,[0,1,2,3,5],true,fun _=> []⟩
 |123=>⟨true,[0,1],false,fun _=> []⟩
 |124=>⟨true,[0,1,2],false,fun _=> []⟩
 |125=>⟨true,[0,1,2,6],false,fun _=> []⟩
 |126=>⟨true,[0,1,2,4,5],false,fun _=> []⟩
 |127=>⟨true,[0,1,2,3,4,6,10,31,38,50],true,fun _=> []⟩
 |128=>⟨true,[0,1,2,6,7,8,9,16,22,31,68],true,fun _=> []⟩
 |129=>⟨true,[0,1,2,4,6,15,29],false,fun _=> []⟩
 |130=>⟨true,[0,1,2,4],true,fun _=> []⟩
 |131=>⟨true,[0,1,4,5,6,7,12,19,29],true,fun _=> []⟩
 |132=>⟨true,[0,1,2,3,4],true,fun _=> []⟩
 |133=>⟨true,[0,1,2,3,4,5,8,9,10,12,13,14,15,25,38,41,42,43,44,66],false,fun _=> []⟩
 |134=>⟨true,[0,1,2,3,4,5,8,9,10,11,12,13,14,15,16,17,18,29,45,56,65,66,67,68,101],false,fun|15=> [(1,10)]|23=> [(1,2),(2,4)]|_=> []⟩
 |135=>⟨true,[0,1,2,3,4,5,6,8,9,11,13,14,15,16,28],true,fun _=> []⟩
 |136=>⟨true,[0,1,4,5,7,8,9,16],false,fun _=> []⟩
 |137=>⟨true,[0,1,2,3],true,fun _=> []⟩
 |138=>⟨true,[0,1,2,6,7,16],true,fun _=> []⟩
 |139=>⟨true,[0,1,2,4,5,28,39,49],false,fun _=> []⟩
 |140=>⟨true,[0,1,2,3,14,31],false,fun _=> []⟩
 |141=>⟨true,[0,2,3,7,15],false,fun _=> []⟩
 |142=>⟨true,[0,2,3,7,31],false,fun _=> []⟩
 |143=>⟨true,[0,1,2,4,5,15,36,41,46],false,fun _=> []⟩
 |144=>⟨true,[0,1,2],false,fun|1=> [(6,8)]|_=> []⟩
 |145=>⟨true,[0,1,2],true,fun _=> []⟩
 |146=>⟨true,[0,1,4,5,6,11,12,13,16,19],false,fun _=> []⟩
 |147=>⟨true,[0,1,4,5,7,8,9,16],true,fun _=> []⟩
 |148=>⟨true,[0,2],false,fun _=> []⟩
 |149=>⟨true,[0,1,2],false,fun _=> []⟩
 |160=>⟨true,[0,1,2,3,8,9,10,11,12,13,14,15,16,17,18,23,29,35,50,68,72,87,113],false,fun _=> []⟩
 |161=>⟨true,[0,2],false,fun _=> []⟩
 |162=>⟨true,[0,1,2],false,fun _=> []⟩
 |165=>⟨true,[0,2,4],false,fun _=> []⟩
 |166=>⟨true,[0,2,4],false,fun _=> []⟩
 |167=>⟨true,[0,2,4],false,fun _=> []⟩
 |168=>⟨true,[0,1,4,5,6,7,8,9,10,11,18],false,fun _=> []⟩
 |169=>⟨true,[0,1,3,4],false,fun _=> []⟩
 |170=>⟨true,[0,2,3,4,7,8,9,20],false,fun _=> []⟩
 |171=>⟨true,[0,1,4,5,7,8,10,12,13,15,22,29,39,40,41,42,49,63,64,65,66],false,fun _=> []⟩
 |172=>⟨true,[0,1,4],false,fun _=> []⟩
 |173=>⟨true,[0,1],false,fun _=> []⟩
 |174=>⟨true,[0,1,2,6,7,8,9,10,11,17,31],false,fun _=> []⟩
 |175=>⟨true,[0,1,2,4],true,fun _=> []⟩
 |176=>⟨true,[0,1,2,6,7,16],true,fun _=> []⟩
 |178=>⟨true,[0,1],false,fun _=> []⟩
 |179=>⟨true,[0,2,4],false,fun _=> []⟩
 |180=>⟨true,[0,1,4,5,7,8,9,16],true,fun _=> []⟩
 |181=>⟨true,[0,1,2,3,4,5,8,9,10,11,13,14,24,25,26,27,37,42],true,fun|13=> [(7,11)]|_=> []⟩
 |182=>⟨true,[0,1,4,5,6,7,12,19,29],true,fun _=> []⟩
 |183=>⟨true,[0,1,2,3],true,fun _=> []⟩
 |184=>⟨true,[0,1,2],false,fun _=> []⟩
 |185=>⟨true,[0,1,2,3,4,10,12],false,fun _=> []⟩
 |186=>⟨true,[0,1,4],false,fun _=> []⟩
 |187=>⟨true,[0,1,2],false,fun _=> []⟩
 |188=>⟨true,[0,2,3,4,5,6,7,8,27],false,fun _=> []⟩
 |189=>⟨true,[0,1,2],false,fun _=> []⟩
 |190=>⟨true,[0,2],false,fun _=> []⟩
 |192=>⟨true,[0,1,2,6,7,12,30],false,fun _=> []⟩
 |193=>⟨true,[0,1,2,6,7,8,9,10,19,30],false,fun _=> []⟩
 |194=>⟨true,[0,1,2,6,7,8,9,10,15,33,43],false,fun _=> []⟩
 |195=>⟨true,[0,1,2,6,7,8,9,10,11,12,32,34,49,51,54],false,fun _=> []⟩
 |196=>⟨true,[0,1,2,6,7,13],false,fun _=> []⟩
 |197=>⟨true,[0,1,2,6,7,8,9,10,14,32,37,41,61,65,78,98,103,116],false,fun _=> []⟩
 |198=>⟨true,[0,1,4],false,fun _=> []⟩
 |199=>⟨true,[0,1,2,3,8,9,10,43,59,64],false,fun _=> []⟩
 |200=>⟨true,[0,1,2,3,8,9,10,11,43,60,65,112,129,134],false,fun _=> []⟩
 |201=>⟨true,[0,2,4,8],false,fun _=> []⟩
 |202=>⟨true,[0,2,4,8,14],false,fun _=> []⟩
 |205=>⟨true,[0,1,2,3],true,fun _=> []⟩
 |206=>⟨true,[0,1,2,4,5,11,12,18,24,30],false,fun _=> []⟩
 |207=>⟨true,[0,1,4],false,fun _=> []⟩
 |208=>⟨true,[0,2],false,fun _=> []⟩
 |209=>⟨true,[0,1,7,21],false,fun _=> []⟩
 |210=>⟨true,[0,1,4,5],false,fun _=> []⟩
 |211=>⟨true,[0,1,4,5,7,8,9,16],false,fun _=> []⟩
 |212=>⟨true,[0,2,3,9],true,fun _=> []⟩
 |213=>⟨true,[0,1],false,fun _=> []⟩
 |214=>⟨true,[0,1,2,6,7,9,10,11,12,13,41],false,fun _=> []⟩
 |215=>⟨true,[0,1,2,6,8,10,11,12,13,14,21,22,23,24,25,45],false,fun _=> []⟩
 |216=>⟨true,[0,1,4,5,7,8,9,16],false,fun _=> []⟩
 |217=>⟨true,[0,1,2],false,fun _=> []⟩
 |218=>⟨true,[0,2],false,fun _=> []⟩
 |219=>⟨true,[0,1,2,3,8,9,16,36,52],false,fun _=> []⟩
 |220=>⟨true,[0,2],false,fun _=> []⟩
 |221=>⟨true,[0,2],false,fun _=> []⟩
 |222=>⟨true,[0,1,2,6],false,fun _=> []⟩
 |223=>⟨true,[0,1,2,3,4,10],false,fun _=> []⟩
 |224=>⟨true,[0,1,4,6,7,8,9,10,16],false,fun _=> []⟩
 |225=>⟨true,[0,1,4,5,6,7,8,12,13,28,52],false,fun _=> []⟩
 |226=>⟨true,[0,6,19],false,fun _=> []⟩
 |227=>⟨true,[0,1,4],false,fun|0=> [(8,12)]|_=> []⟩
 |228=>⟨true,[0,2,3,9],true,fun _=> []⟩
 |229=>⟨true,[0,1,2,3,4,6],false,fun _=> []⟩
 |230=>⟨true,[0,1,2,3,8,9,18],false,fun _=> []⟩
 |231=>⟨true,[0,1,4,5,6,12,21,34],false,fun _=> []⟩
 |234=>⟨true,[0,1,4],false,fun _=> []⟩
 |235=>⟨true,[0,1,2,4],true,fun|1=> [(2,3)]|_=> []⟩
 |236=>⟨true,[0,1,4,13],false,fun _=> []⟩
 |237=>⟨true,[0,1,4,16],false,fun _=> []⟩
 |238=>⟨true,[0,2,3,4,5,9,16],false,fun _=> []⟩
 |239=>⟨true,[0,1,4,7,12],false,fun _=> []⟩
 |240=>⟨true,[0,1,4,7,15],false,fun _=> []⟩
 |241=>⟨true,[0,1,4,5,6,9,18],false,fun _=> []⟩
 |242=>⟨true,[0,1,4,5,6,9,17,26],false,fun _=> []⟩
 |243=>⟨true,[0,1,4,5,7,8,9,16],false,fun _=> []⟩
 |244=>⟨true,[0,1,4],false,fun _=> []⟩
 |245=>⟨true,[0,2,3,10],false,fun _=> []⟩
 |246=>⟨true,[0,1,4],false,fun _=> []⟩
 |247=>⟨true,[0,2,3,4,5,6,10,18,27,33,35,48],false,fun _=> []⟩
 |248=>⟨true,[0,2,3,4,5,6,7,8,9,10,11,12,16,23,45,57,59,75,77,98],false,fun _=> []⟩
 |249=>⟨true,[0,1,4,5,6,7,8,9,10,11,12,13,14,15,16,26,33,43,51,64,98,108,124,139,143,156,160,171,175,176,177,181,183],false,fun _=> []⟩
 |250=>⟨true,[0,2],false,fun _=> []⟩
 |251=>⟨true,[0,1,4],false,fun _=> []⟩
 |252=>⟨true,[0,2,3,10],false,fun _=> []⟩
 |253=>⟨true,[0,2],false,fun _=> []⟩
 |255=>⟨true,[0,1,4],false,fun _=> []⟩
 |_=>⟨false,[],false,fun _=> []⟩
theorem good:Abs.Good Tryz.prog note:=Abs.V7 (by kernel_rfl)
theorem Cn:(Tryz.prog).follows .mixedOrders=true:=by kernel_rfl
def RN:FuncId→Option Nat:=Abs.abx [(52,1)]
def X5:FuncId→Option Abs.fT:=Abs.Ia [(170,Abs.BX Abs.H9),(171,Abs.BX Abs.MF),(176,Abs.Qp Z7),(47,Abs.O8),(238,Abs.AB),(240,Abs.AB),(239,Abs.AB),(242,Abs.AB),(241,Abs.AB),(71,Abs.vQ Z1),(128,Abs.vQ Z7),(138,Abs.Qp Z6)]
theorem OW:∀f q,X5 f=some q→Abs.dU Tryz.prog f q:=Abs.QA _ (by
 intro p hp;simp only [List.mem_cons,List.not_mem_nil,or_false] at hp;rcases hp with rfl|rfl|rfl|rfl|rfl|rfl|rfl|rfl|rfl|rfl|rfl|rfl
 ·exact WV
 ·exact UM
 ·exact UJ Z7 rfl
 ·exact Fr.YA
 ·exact Abs.qc
 ·exact Abs.qc
 ·exact Abs.qc
 ·exact Abs.qc
 ·exact Abs.qc
 ·exact Ig.Z8 Z1 rfl
 ·exact Vz Z7 rfl
 ·exact Id.WU Z6 rfl
)
theorem okW{l:List (FuncId×Abs.Spec)}{an:Nat→Abs.aW}{f:FuncId}{sp:Abs.Spec}(hl:∀p∈l,Abs.aD Tryz.prog p.1 p.2)(hon:(note f).on=true)(h:∀v,(Abs.bodyC Tryz.prog note X5 RN (Abs.wC l) an 12 f sp.keep sp.σi sp.σo v).mean=sp.m v):Abs.aD Tryz.prog f sp:=
 Abs.AJ (C:=X5) (mv:=RN) OW (n:=12) good Cn (Abs.mR l hl) hon h
theorem dZ:∀p∈([]:List (FuncId×Abs.Spec)),Abs.aD Tryz.prog p.1 p.2:=fun _ h=>by cases h
theorem bg{f:FuncId}{sp:Abs.Spec}{l:List (FuncId×Abs.Spec)}(h:Abs.aD Tryz.prog f sp)(t:∀p∈l,Abs.aD Tryz.prog p.1 p.2):∀p∈(f,sp)::l,Abs.aD Tryz.prog p.1 p.2:=List.forall_mem_cons.2 ⟨h,t⟩
def i9:Abs.Sg:=⟨[0],(.dat (.row (.int .i64)) .nil),.nil⟩
def o9:Abs.Sg:=⟨[2],dQ,.nil⟩
def m9(v:(((List Int)×Unit)×(Unit))):Option fH:=
some (((decide (((v.1.1.length:Int):Int) ≤500)),()),())
def sp9:Abs.Spec:=⟨0,i9,o9,m9⟩
def an9:Nat→Abs.aW
 |_=>{}
theorem ok9:Abs.aD Tryz.prog 9 sp9:=
 okW (an:=an9) dZ rfl (by intro v;kernel_rfl)
def uz(v:((Int×ByteArray×Int×Unit)×(Unit))):Option (((Int×ByteArray×Int×Unit)×(Unit)) ⊕(fH⊕((Unit)×(Unit)))):=
bif (decide ((v.1.1:Int)< v.1.2.2.1)) then(bif (decide ((0:Int) ≤v.1.1∧(v.1.1:Int)< v.1.2.1.size)) then
((let b:=(decide (((((v.1.2.1[v.1.1.toNat]?.getD 0).toNat:Nat):Int):Int)< 97))
bif b then(let c:=(decide (((((v.1.2.1[v.1.1.toNat]?.getD 0).toNat:Nat):Int):Int)< 48))
bif c then(let d:=(((((v.1.2.1[v.1.1.toNat]?.getD 0).toNat:Nat):Int):Int) !=95)
some ((d,v.1.2.1,v.1.2.2.1,v.1.1,()),()))
else(let e:=(decide (((((v.1.2.1[v.1.1.toNat]?.getD 0).toNat:Nat):Int):Int)>57))
bif e then(let f:=(((((v.1.2.1[v.1.1.toNat]?.getD 0).toNat:Nat):Int):Int) !=95)
some ((f,v.1.2.1,v.1.2.2.1,v.1.1,()),()))
else(some ((false,v.1.2.1,v.1.2.2.1,v.1.1,()),()))))
else(let g:=(decide (((((v.1.2.1[v.1.1.toNat]?.getD 0).toNat:Nat):Int):Int)>122))
bif g then(let h:=(decide (((((v.1.2.1[v.1.1.toNat]?.getD 0).toNat:Nat):Int):Int)< 48))
bif h then(let j:=(((((v.1.2.1[v.1.1.toNat]?.getD 0).toNat:Nat):Int):Int) !=95)
some ((j,v.1.2.1,v.1.2.2.1,v.1.1,()),()))
else(let k:=(decide (((((v.1.2.1[v.1.1.toNat]?.getD 0).toNat:Nat):Int):Int)>57))
bif k then(let l:=(((((v.1.2.1[v.1.1.toNat]?.getD 0).toNat:Nat):Int):Int) !=95)
some ((l,v.1.2.1,v.1.2.2.1,v.1.1,()),()))
else(some ((false,v.1.2.1,v.1.2.2.1,v.1.1,()),()))))
else(some ((false,v.1.2.1,v.1.2.2.1,v.1.1,()),())))):Option ((Bool×ByteArray×Int×Int×Unit)×(Unit))).bind fun a=>
bif a.1.1 then(some (.inr (.inl ((false,()),()))))
else(some (.inl (((aT (a.1.2.2.2.1+1)),a.1.2.1,a.1.2.2.1,()),())))
else none)
else(some (.inr (.inr ((),()))))
def aeZ:Abs.Sg:=⟨[0],gG,.nil⟩
def ae2:Abs.Sg:=⟨[2],dQ,.nil⟩
def PL(v:Fe):Option fH:=
((bif (v.1.1.toList==ByteArray.empty.toList) then(some ((true,v.1),()))
else(bif (decide (((v.1.1.size:Int):Int)>24)) then(some ((true,v.1),()))
else(bif (decide ((0:Int) ≤0∧(0:Int)< v.1.1.size)) then
let b:=(decide (((((v.1.1[0]?.getD 0).toNat:Nat):Int):Int)< 97))
bif b then(some ((true,v.1),()))
else(bif (decide ((0:Int) ≤0∧(0:Int)< v.1.1.size)) then
let c:=(decide (((((v.1.1[0]?.getD 0).toNat:Nat):Int):Int)>122))
some ((c,v.1),())
else none)
else none))):Option ((Bool×ByteArray×Unit)×(Unit))).bind fun a=>
bif a.1.1 then(some ((false,()),()))
else((aB uz ((0,a.1.2.1,(a.1.2.1.size:Int),()),())).bind fun d=>
au d (fun e=>(some e)) (fun f=>(some ((true,()),()))))
def ab4:Abs.Spec:=⟨0,aeZ,ae2,PL⟩
def acP:Nat→Abs.aW
 |0=>Abs.aW.mk (fun
  |7=>some ⟨[47,0,23,24],(.dat .bool (.dat .str nk)),.nil⟩
  |1=>some ⟨[21,0],(.dat .bool gG),.nil⟩
  |_=>none) (fun _=>none) (fun
  |4=>some ⟨⟨[24,0,23],(.dat (.int .i64) (.dat .str bn)),.nil⟩,(.more .ret ⟨[2],dQ,.nil⟩ (.one (.exit 0) ⟨[],.nil,.nil⟩))⟩
  |_=>none) (fun _ _=>0)
 |_=>{}
theorem RJ:Abs.aD Tryz.prog 115 ab4:=
 okW (an:=acP) dZ rfl (by intro v;kernel_rfl)
def sZ(v:((Int×ByteArray×Int×Unit)×(Unit))):Option (((Int×ByteArray×Int×Unit)×(Unit)) ⊕(fH⊕Fe)):=
bif (decide ((v.1.1:Int)< v.1.2.2.1)) then(((bif (decide ((0:Int) ≤v.1.1∧(v.1.1:Int)< v.1.2.1.size)) then
let b:=(decide (((((v.1.2.1[v.1.1.toNat]?.getD 0).toNat:Nat):Int):Int)< 32))
bif b then(some ((true,v.1.2.1,v.1.2.2.1,v.1.1,()),()))
else(bif (decide ((0:Int) ≤v.1.1∧(v.1.1:Int)< v.1.2.1.size)) then
let c:=(decide (((((v.1.2.1[v.1.1.toNat]?.getD 0).toNat:Nat):Int):Int)>126))
some ((c,v.1.2.1,v.1.2.2.1,v.1.1,()),())
else none)
else none):Option ((Bool×ByteArray×Int×Int×Unit)×(Unit))).bind fun a=>
bif a.1.1 then(some (.inr (.inl ((false,()),()))))
else(some (.inl (((aT (a.1.2.2.2.1+1)),a.1.2.1,a.1.2.2.1,()),()))))
else(some (.inr (.inr ((v.1.2.1,()),()))))
def af2:Abs.Sg:=⟨[0],gG,.nil⟩
def ahn:Abs.Sg:=⟨[2],dQ,.nil⟩
def U4(v:Fe):Option fH:=
(aB sZ ((0,v.1.1,(v.1.1.size:Int),()),())).bind fun a=>
au a (fun b=>(some b)) (fun c=>(some (((decide (((c.1.1.size:Int):Int) ≤64)),()),())))
def abV:Abs.Spec:=⟨0,af2,ahn,U4⟩
def abX:Nat→Abs.aW
 |0=>Abs.aW.mk (fun
  |4=>some ⟨[18,0,5,6],(.dat .bool (.dat .str nk)),.nil⟩
  |_=>none) (fun _=>none) (fun
  |2=>some ⟨⟨[6,0,5],(.dat (.int .i64) (.dat .str bn)),.nil⟩,(.more .ret ⟨[2],dQ,.nil⟩ (.one (.exit 0) ⟨[0],gG,.nil⟩))⟩
  |_=>none) (fun _ _=>0)
 |_=>{}
theorem XD:Abs.aD Tryz.prog 116 abV:=
 okW (an:=abX) dZ rfl (by intro v;kernel_rfl)
def afS:Abs.Sg:=⟨[0],(.dat JK .nil),.nil⟩
def ahl:Abs.Sg:=⟨[2],dQ,.nil⟩
def SL(v:((Ke×Unit)×(Unit))):Option fH:=
(((PL ((v.1.1.1,()),())).bind fun a=>
bif a.1.1 then(bif (decide ((v.1.1.2.1:Int) ≥0)) then(bif (decide ((v.1.1.2.1:Int) ≤3)) then((U4 (v.1.1.2.2,())).bind fun b=>
some b)
else(some ((false,()),())))
else(some ((false,()),())))
else(some ((false,()),()))):Option fH).bind fun c=>
some c
def aa3:Abs.Spec:=⟨0,afS,ahl,SL⟩
def abL:Nat→Abs.aW
 |0=>Abs.aW.mk (fun
  |1=>some ⟨[2],dQ,.nil⟩
  |_=>none) (fun _=>none) (fun _=>none) (fun _ _=>0)
 |_=>{}
theorem XQ:Abs.aD Tryz.prog 217 aa3:=
 okW (an:=abL) (bg RJ (bg XD dZ)) rfl (by intro v;kernel_rfl)
def aew:Abs.Sg:=⟨[0],(.dat JK .nil),.nil⟩
def ae9:Abs.Sg:=⟨[2],dQ,.nil⟩
def WR(v:((Ke×Unit)×(Unit))):Option fH:=
(SL v).bind fun a=>
some (((!a.1.1),()),())
def aaF:Abs.Spec:=⟨0,aew,ae9,WR⟩
def aaW:Nat→Abs.aW
 |_=>{}
theorem acT:Abs.aD Tryz.prog 187 aaF:=
 okW (an:=aaW) (bg XQ dZ) rfl (by intro v;kernel_rfl)
def i218:Abs.Sg:=⟨[0],gG,.nil⟩
def aer:Abs.Sg:=⟨[2],dQ,.nil⟩
def VP(v:Fe):Option fH:=
(PL v).bind fun a=>
some a
def adw:Abs.Spec:=⟨0,i218,aer,VP⟩
def ac9:Nat→Abs.aW
 |_=>{}
theorem acR:Abs.aD Tryz.prog 218 adw:=
 okW (an:=ac9) (bg RJ dZ) rfl (by intro v;kernel_rfl)
def tK(v:((Int×(List ByteArray)×(List ByteArray)×Int×Unit)×(Unit))):Option (((Int×(List ByteArray)×(List ByteArray)×Int×Unit)×(Unit)) ⊕(fH⊕((Unit)×(Unit)))):=
bif (decide ((v.1.1:Int)< v.1.2.2.2.1)) then(Abs.rowAt v.1.2.2.1 v.1.1 fun b _=>
(((VP ((b,()),())).bind fun d=>
bif (!d.1.1) then(some ((true,v.1.2.1,v.1.2.2.1,v.1.2.2.2.1,v.1.1,()),()))
else(bif (decide ((v.1.1:Int)>0)) then(Abs.rowAt v.1.2.1 (aT (v.1.1 - 1)) fun c _=>
some (((Op.bytesLess b.toList c.toList||b.toList==c.toList),v.1.2.1,v.1.2.2.1,v.1.2.2.2.1,v.1.1,()),()))
else(some ((false,v.1.2.1,v.1.2.2.1,v.1.2.2.2.1,v.1.1,()),())))):Option ((Bool×(List ByteArray)×(List ByteArray)×Int×Int×Unit)×(Unit))).bind fun a=>
bif a.1.1 then(some (.inr (.inl ((false,()),()))))
else(some (.inl (((aT (a.1.2.2.2.2.1+1)),a.1.2.1,a.1.2.2.1,a.1.2.2.2.1,()),()))))
else(some (.inr (.inr ((),()))))
def afq:Abs.Sg:=⟨[0],FK,.nil⟩
def af8:Abs.Sg:=⟨[2],dQ,.nil⟩
def Sl(v:(((List ByteArray)×Unit)×(Unit))):Option fH:=
(aB tK ((0,v.1.1,v.1.1,(v.1.1.length:Int),()),())).bind fun a=>
au a (fun b=>(some b)) (fun c=>(some ((true,()),())))
def ada:Abs.Spec:=⟨0,afq,af8,Sl⟩
def aby:Nat→Abs.aW
 |0=>Abs.aW.mk (fun
  |4=>some ⟨[27,0,5,6,7],(.dat .bool (.dat (.row .str) (.dat (.row .str) nk))),.nil⟩
  |_=>none) (fun _=>none) (fun
  |2=>some ⟨⟨[7,0,5,6],(.dat (.int .i64) (.dat (.row .str) (.dat (.row .str) bn))),.nil⟩,(.more .ret ⟨[2],dQ,.nil⟩ (.one (.exit 0) ⟨[],.nil,.nil⟩))⟩
  |_=>none) (fun _ _=>0)
 |_=>{}
theorem XH:Abs.aD Tryz.prog 188 ada:=
 okW (an:=aby) (bg acR dZ) rfl (by intro v;kernel_rfl)
def sU(v:((Int×Y4×Int×Unit)×(Unit))):Option (((Int×Y4×Int×Unit)×(Unit)) ⊕(((Int×Unit)×(Unit)) ⊕((Unit)×(Unit)))):=
bif (decide ((v.1.1:Int)< v.1.2.2.1)) then(Abs.rowAt v.1.2.1 v.1.1 fun a _=>
(WR ((a,()),())).bind fun b=>
bif b.1.1 then(some (.inr (.inl ((v.1.1,()),()))))
else(some (.inl (((aT (v.1.1+1)),v.1.2),()))))
else(some (.inr (.inr ((),()))))
def i139:Abs.Sg:=⟨[0,1],(.dat Z5 bn),.nil⟩
def ahB:Abs.Sg:=⟨[4],bn,.nil⟩
def Xy(v:((Y8×Int×Unit)×(Unit))):Option ((Int×Unit)×(Unit)):=
((bif ((v.1.2.1:Int)==0) then(bif ((v.1.1.1:Int) !=(-1)) then(some ((true,()),(v.1.1,()),()))
else(bif (decide ((v.1.2.1:Int)>0)) then(bif (decide ((v.1.1.1:Int)< 0)) then(some ((true,()),(v.1.1,()),()))
else(some (((decide ((v.1.1.1:Int) ≥v.1.2.1)),()),(v.1.1,()),())))
else(some ((false,()),(v.1.1,()),()))))
else(bif (decide ((v.1.2.1:Int)>0)) then(bif (decide ((v.1.1.1:Int)< 0)) then(some ((true,()),(v.1.1,()),()))
else(some (((decide ((v.1.1.1:Int) ≥v.1.2.1)),()),(v.1.1,()),())))
else(some ((false,()),(v.1.1,()),())))):Option ((Bool×Unit)×((Y8×Unit)×Unit))).bind fun c=>
bif c.1.1 then(some ((3,()),()))
else(((let d:=(decide (((c.2.1.1.2.1.length:Int):Int)>8))
bif d then(some ((true,()),c.2))
else(let e:=(decide (((c.2.1.1.2.2.2.1.length:Int):Int)>12))
some ((e,()),c.2))):Option ((Bool×Unit)×((Y8×Unit)×Unit))).bind fun b=>
bif b.1.1 then(some ((5,()),()))
else((((((aB sU ((0,b.2.1.1.2.1,(b.2.1.1.2.1.length:Int),()),())).bind fun f=>
au f (fun g=>(some (((decide ((g.1.1:Int) ≥0)),()),()))) (fun o=>(some ((false,()),())))):Option fH).bind fun h=>
bif h.1.1 then(some ((true,()),b.2))
else((Sl ((b.2.1.1.2.2.2.1,()),())).bind fun j=>
some (((!j.1.1),()),b.2))):Option ((Bool×Unit)×((Y8×Unit)×Unit))).bind fun a=>
bif a.1.1 then(some ((8,()),()))
else(((bif (decide ((a.2.1.1.2.2.1:Int)< 0)) then(some ((true,()),()))
else(bif (decide ((a.2.1.1.2.2.2.2.1:Int)< 0)) then(some ((true,()),()))
else(let k:=(decide ((a.2.1.1.2.2.2.2.1:Int)>a.2.1.1.2.2.2.2.2.1))
bif k then(some ((true,()),()))
else(let l:=(decide ((a.2.1.1.2.2.2.2.2.1:Int)>a.2.1.1.2.2.2.2.2.2.1))
bif l then(some ((true,()),()))
else(let m:=(decide ((a.2.1.1.2.2.2.2.2.2.1:Int)>604800))
bif m then(some ((true,()),()))
else(some ((((a.2.1.1.2.2.2.2.2.2.1:Int)==0),()),()))))))):Option fH).bind fun n=>
bif n.1.1 then(some ((1,()),()))
else(some ((0,()),())))))
def acZ:Abs.Spec:=⟨0,i139,ahB,Xy⟩
def acz:Nat→Abs.aW
 |0=>Abs.aW.mk (fun
  |7=>some ⟨[49],dQ,.nil⟩
  |5=>some ⟨[39,2],(.dat .bool (.st (.ptr (0,0) 8 0 0) .nil)),(.box 8 mV .nil)⟩
  |3=>some ⟨[28,2],(.dat .bool (.st (.ptr (0,0) 8 0 0) .nil)),(.box 8 mV .nil)⟩
  |1=>some ⟨[5,2],(.dat .bool (.st (.ptr (0,0) 8 0 0) .nil)),(.box 8 mV .nil)⟩
  |_=>none) (fun _=>none) (fun _=>none) (fun
  |5,2=>1
  |_,_=>0)
 |1=>Abs.aW.mk (fun
  |1=>some ⟨[4],dQ,.nil⟩
  |_=>none) (fun _=>none) (fun _=>none) (fun
  |1,2=>2
  |_,_=>0)
 |2=>Abs.aW.mk (fun _=>none) (fun _=>none) (fun
  |2=>some ⟨⟨[8,0,1,7],(.dat (.int .i64) (.dat Z2 (.st (.clo 187 []) bn))),.nil⟩,(.more .ret ⟨[4],bn,.nil⟩ (.one (.exit 0) ⟨[],.nil,.nil⟩))⟩
  |_=>none) (fun _ _=>0)
 |_=>{}
theorem abo:Abs.aD Tryz.prog 139 acZ:=
 okW (an:=acz) (bg acT (bg XH dZ)) rfl (by intro v;kernel_rfl)
def CP(v:((Int×(List Y8)×(List Y8)×Int×Unit)×(Unit))):Option (((Int×(List Y8)×(List Y8)×Int×Unit)×(Unit)) ⊕(((Int×Unit)×(Unit)) ⊕(((List Y8)×Unit)×(Unit)))):=
bif (decide ((v.1.1:Int)< v.1.2.2.2.1)) then(Abs.rowAt v.1.2.1 v.1.1 fun b _=>
(Xy ((b,v.1.1,()),())).bind fun a=>
bif ((a.1.1:Int) !=0) then(some (.inr (.inl a)))
else(some (.inl (((aT (v.1.1+1)),v.1.2),()))))
else(some (.inr (.inr ((v.1.2.2.1,()),()))))
def i78:Abs.Sg:=⟨[0],(.dat (.row Z5) .nil),.nil⟩
def o78:Abs.Sg:=⟨[2],bn,.nil⟩
def m78(v:(((List Y8)×Unit)×(Unit))):Option ((Int×Unit)×(Unit)):=
bif (((v.1.1.length:Int):Int)==0) then(some ((7,()),()))
else(bif (decide (((v.1.1.length:Int):Int)>24)) then(some ((5,()),()))
else((aB CP ((0,v.1.1,v.1.1,(v.1.1.length:Int),()),())).bind fun a=>
au a (fun b=>(some b)) (fun c=>(Abs.rowAt c.1.1 0 fun d _=>
bif (decide (((d.2.1.length:Int):Int)>0)) then(some ((8,()),()))
else(some ((0,()),()))))))
def ahq:Abs.Spec:=⟨0,i78,o78,m78⟩
def agw:Nat→Abs.aW
 |0=>Abs.aW.mk (fun _=>none) (fun _=>none) (fun
  |6=>some ⟨⟨[16,14,0,15],(.dat (.int .i64) (.dat (.row Z5) (.dat (.row Z5) bn))),.nil⟩,(.more .ret ⟨[2],bn,.nil⟩ (.one (.exit 1) ⟨[0],(.dat (.row Z5) .nil),.nil⟩))⟩
  |_=>none) (fun _ _=>0)
 |_=>{}
theorem Zb:Abs.aD Tryz.prog 78 ahq:=
 okW (an:=agw) (bg abo dZ) rfl (by intro v;kernel_rfl)
def ahC:Abs.Sg:=⟨[0],(.dat JK .nil),.nil⟩
def ah5:Abs.Sg:=⟨[2],dQ,.nil⟩
def P9(v:((Ke×Unit)×(Unit))):Option fH:=
(SL v).bind fun a=>
some (((!a.1.1),()),())
def acS:Abs.Spec:=⟨0,ahC,ah5,P9⟩
def abp:Nat→Abs.aW
 |_=>{}
theorem XF:Abs.aD Tryz.prog 189 acS:=
 okW (an:=abp) (bg XQ dZ) rfl (by intro v;kernel_rfl)
def uH(v:((Int×Y4×Int×Unit)×(Unit))):Option (((Int×Y4×Int×Unit)×(Unit)) ⊕(((Int×Unit)×(Unit)) ⊕((Unit)×(Unit)))):=
bif (decide ((v.1.1:Int)< v.1.2.2.1)) then(Abs.rowAt v.1.2.1 v.1.1 fun a _=>
(P9 ((a,()),())).bind fun b=>
bif b.1.1 then(some (.inr (.inl ((v.1.1,()),()))))
else(some (.inl (((aT (v.1.1+1)),v.1.2),()))))
else(some (.inr (.inr ((),()))))
def tJ(v:((Int×Y4×Int×Unit)×(Unit))):Option (((Int×Y4×Int×Unit)×(Unit)) ⊕(((Int×Unit)×(Unit)) ⊕((Unit)×(Unit)))):=
bif (decide ((v.1.1:Int)< v.1.2.2.1)) then(Abs.rowAt v.1.2.1 v.1.1 fun a _=>
(P9 ((a,()),())).bind fun b=>
bif b.1.1 then(some (.inr (.inl ((v.1.1,()),()))))
else(some (.inl (((aT (v.1.1+1)),v.1.2),()))))
else(some (.inr (.inr ((),()))))
def aeI:Abs.Sg:=⟨[0],(.dat qo .nil),.nil⟩
def ahN:Abs.Sg:=⟨[2],bn,.nil⟩
def WK(v:((kU×Unit)×(Unit))):Option ((Int×Unit)×(Unit)):=
((bif (((v.1.1.1.length:Int):Int)==0) then(some ((true,()),v))
else(some (((((v.1.1.2.1.length:Int):Int)==0),()),v))):Option ((Bool×Unit)×((kU×Unit)×Unit))).bind fun a=>
bif a.1.1 then(some ((7,()),()))
else(((let c:=(decide (((a.2.1.1.1.length:Int):Int)>8))
bif c then(some ((true,()),a.2))
else(let d:=(decide (((a.2.1.1.2.1.length:Int):Int)>8))
bif d then(some ((true,()),a.2))
else(let e:=(decide (((a.2.1.1.2.2.1.length:Int):Int)>12))
some ((e,()),a.2)))):Option ((Bool×Unit)×((kU×Unit)×Unit))).bind fun b=>
bif b.1.1 then(some ((5,()),()))
else((((((aB uH ((0,b.2.1.1.1,(b.2.1.1.1.length:Int),()),())).bind fun f=>
au f (fun g=>(some (((decide ((g.1.1:Int) ≥0)),()),()))) (fun o=>(some ((false,()),())))):Option fH).bind fun h=>
bif h.1.1 then(some ((true,()),()))
else((((aB tJ ((0,b.2.1.1.2.1,(b.2.1.1.2.1.length:Int),()),())).bind fun j=>
au j (fun k=>(some (((decide ((k.1.1:Int) ≥0)),()),()))) (fun p=>(some ((false,()),())))):Option fH).bind fun l=>
bif l.1.1 then(some ((true,()),()))
else((Sl (b.2.1.1.2.2,())).bind fun m=>
some (((!m.1.1),()),())))):Option fH).bind fun n=>
bif n.1.1 then(some ((8,()),()))
else(some ((0,()),()))))
def aax:Abs.Spec:=⟨0,aeI,ahN,WK⟩
def acj:Nat→Abs.aW
 |0=>Abs.aW.mk (fun
  |5=>some ⟨[31],dQ,.nil⟩
  |3=>some ⟨[14,1],(.dat .bool (.st zV .nil)),(.box 3 (.dat qo .nil) .nil)⟩
  |1=>some ⟨[3,1],(.dat .bool (.st zV .nil)),(.box 3 (.dat qo .nil) .nil)⟩
  |_=>none) (fun _=>none) (fun _=>none) (fun
  |5,6=>3
  |5,2=>1
  |_,_=>0)
 |1=>Abs.aW.mk (fun
  |1=>some ⟨[4],dQ,.nil⟩
  |_=>none) (fun _=>none) (fun _=>none) (fun
  |1,2=>2
  |_,_=>0)
 |2=>Abs.aW.mk (fun _=>none) (fun _=>none) (fun
  |2=>some ⟨⟨[8,0,1,7],(.dat (.int .i64) (.dat Z2 (.st (.clo 189 []) bn))),.nil⟩,(.more .ret ⟨[4],bn,.nil⟩ (.one (.exit 0) ⟨[],.nil,.nil⟩))⟩
  |_=>none) (fun _ _=>0)
 |3=>Abs.aW.mk (fun
  |1=>some ⟨[4],dQ,.nil⟩
  |_=>none) (fun _=>none) (fun _=>none) (fun
  |1,2=>4
  |_,_=>0)
 |4=>Abs.aW.mk (fun _=>none) (fun _=>none) (fun
  |2=>some ⟨⟨[8,0,1,7],(.dat (.int .i64) (.dat Z2 (.st (.clo 189 []) bn))),.nil⟩,(.more .ret ⟨[4],bn,.nil⟩ (.one (.exit 0) ⟨[],.nil,.nil⟩))⟩
  |_=>none) (fun _ _=>0)
 |_=>{}
theorem abO:Abs.aD Tryz.prog 140 aax:=
 okW (an:=acj) (bg XF (bg XH dZ)) rfl (by intro v;kernel_rfl)
def Cz(v:((Int×(List kU)×Int×Unit)×(Unit))):Option (((Int×(List kU)×Int×Unit)×(Unit)) ⊕(((Int×Unit)×(Unit)) ⊕((Unit)×(Unit)))):=
bif (decide ((v.1.1:Int)< v.1.2.2.1)) then(Abs.rowAt v.1.2.1 v.1.1 fun b _=>
(WK ((b,()),())).bind fun a=>
bif ((a.1.1:Int) !=0) then(some (.inr (.inl a)))
else(some (.inl (((aT (v.1.1+1)),v.1.2),()))))
else(some (.inr (.inr ((),()))))
def i79:Abs.Sg:=⟨[0],(.dat (.row qo) .nil),.nil⟩
def o79:Abs.Sg:=⟨[2],bn,.nil⟩
def m79(v:(((List kU)×Unit)×(Unit))):Option ((Int×Unit)×(Unit)):=
bif (decide (((v.1.1.length:Int):Int)>12)) then(some ((5,()),()))
else((aB Cz ((0,v.1.1,(v.1.1.length:Int),()),())).bind fun a=>
au a (fun b=>(some b)) (fun c=>(some ((0,()),()))))
def aeu:Abs.Spec:=⟨0,i79,o79,m79⟩
def aga:Nat→Abs.aW
 |0=>Abs.aW.mk (fun _=>none) (fun _=>none) (fun
  |4=>some ⟨⟨[11,9,10],(.dat (.int .i64) (.dat (.row qo) bn)),.nil⟩,(.more .ret ⟨[2],bn,.nil⟩ (.one (.exit 0) ⟨[],.nil,.nil⟩))⟩
  |_=>none) (fun _ _=>0)
 |_=>{}
theorem ahM:Abs.aD Tryz.prog 79 aeu:=
 okW (an:=aga) (bg abO dZ) rfl (by intro v;kernel_rfl)
def i34:Abs.Sg:=⟨[0],oH,.nil⟩
def o34:Abs.Sg:=⟨[2],bn,.nil⟩
def ZV(v:((lK×Unit)×(Unit))):Option ((Int×Unit)×(Unit)):=
(m78 ((v.1.1.1,()),())).bind fun a=>
bif ((a.1.1:Int) !=0) then(some a)
else((m79 ((v.1.1.2.1,()),())).bind fun b=>
bif ((b.1.1:Int) !=0) then(some b)
else(((bif (decide ((v.1.1.2.2.1:Int)< 0)) then(some ((true,()),()))
else(some (((decide ((v.1.1.2.2.1:Int)>604800)),()),()))):Option fH).bind fun c=>
bif c.1.1 then(some ((1,()),()))
else(some ((0,()),()))))
def agh:Abs.Spec:=⟨0,i34,o34,ZV⟩
def agu:Nat→Abs.aW
 |0=>Abs.aW.mk (fun
  |7=>some ⟨[24],dQ,.nil⟩
  |_=>none) (fun _=>none) (fun _=>none) (fun _ _=>0)
 |_=>{}
theorem ZC:Abs.aD Tryz.prog 34 agh:=
 okW (an:=agu) (bg Zb (bg ahM dZ)) rfl (by intro v;kernel_rfl)
def i26:Abs.Sg:=⟨[],.nil,.nil⟩
def o26:Abs.Sg:=⟨[0],(.st gN .nil),(.box 4 qF .nil)⟩
def m26(v:((Unit)×(Unit))):Option ((Unit)×(j4×Unit)):=
some ((),((0,1,()),()),())
def ahz:Abs.Spec:=⟨0,i26,o26,m26⟩
def agO:Nat→Abs.aW
 |_=>{}
theorem YK:Abs.aD Tryz.prog 26 ahz:=
 okW (an:=agO) dZ rfl (by intro v;kernel_rfl)
def WE(v:((Int×Int×Bool×(List Y3)×Int×Unit)×(Unit))):Option (((Int×Int×Bool×(List Y3)×Int×Unit)×(Unit)) ⊕((Bool×Int×Unit)×(Unit))):=
bif (decide ((v.1.1:Int)< v.1.2.2.2.2.1)) then(((Abs.rowAt v.1.2.2.2.1 v.1.1 fun b _=>
((bif ((b.2.2.2.1:Int) !=(-1)) then(bif (!v.1.2.2.1) then(some ((true,v.1.2.2.2.1,v.1.2.2.2.2.1,v.1.1,v.1.2.1,v.1.2.2.1,()),(b,()),()))
else(some (((decide ((b.2.2.2.1:Int)< v.1.2.1)),v.1.2.2.2.1,v.1.2.2.2.2.1,v.1.1,v.1.2.1,v.1.2.2.1,()),(b,()),())))
else(some ((false,v.1.2.2.2.1,v.1.2.2.2.2.1,v.1.1,v.1.2.1,v.1.2.2.1,()),(b,()),()))):Option ((Bool×(List Y3)×Int×Int×Int×Bool×Unit)×((Y3×Unit)×Unit))).bind fun a=>
bif a.1.1 then(some ((a.2.1.1.2.2.2.1,true,a.1.2.1,a.1.2.2.1,a.1.2.2.2.1,()),()))
else(some ((a.1.2.2.2.2.1,a.1.2.2.2.2.2.1,a.1.2.1,a.1.2.2.1,a.1.2.2.2.1,()),()))):Option ((Int×Bool×(List Y3)×Int×Int×Unit)×(Unit))).bind fun c=>
some (.inl (((aT (c.1.2.2.2.2.1+1)),c.1.1,c.1.2.1,c.1.2.2.1,c.1.2.2.2.1,()),())))
else(some (.inr ((v.1.2.2.1,v.1.2.1,()),())))
def i30:Abs.Sg:=⟨[0],qU,.nil⟩
def o30:Abs.Sg:=⟨[2,3],(.dat (.int .i64) dQ),.nil⟩
def m30(v:(wu×(Unit))):Option ((Int×Bool×Unit)×(Unit)):=
(aB WE ((0,0,false,v.1.1.2.1,(v.1.1.2.1.length:Int),()),())).bind fun a=>
some ((a.1.2.1,a.1.1,()),())
def ag1:Abs.Spec:=⟨0,i30,o30,m30⟩
def ag2:Nat→Abs.aW
 |0=>Abs.aW.mk (fun
  |5=>some ⟨[27,9,10,11,7,4,5],(.dat .bool (.dat (.row Z1) (.dat (.int .i64) (.dat (.int .i64) (.st fI (.dat (.int .i64) dQ)))))),uy⟩
  |_=>none) (fun
  |7=>some (⟨[4,5,9,10,11],(.dat (.int .i64) (.dat .bool (.dat (.row Z1) nk))),.nil⟩,none)
  |_=>none) (fun
  |3=>some ⟨⟨[11,4,5,9,10],(.dat (.int .i64) (.dat (.int .i64) (.dat .bool (.dat (.row Z1) bn)))),.nil⟩,(.one (.exit 0) ⟨[5,4],(.dat .bool bn),.nil⟩)⟩
  |_=>none) (fun _ _=>0)
 |_=>{}
theorem adj:Abs.aD Tryz.prog 30 ag1:=
 okW (an:=ag2) dZ rfl (by intro v;kernel_rfl)
def afs:Abs.Sg:=⟨[0],(.dat (.row Z1) .nil),.nil⟩
def af4:Abs.Sg:=⟨[2],(.st (.own Z1 (0,0)) .nil),(.arr Z1 false .nil)⟩
def WZ(v:(((List Y3)×Unit)×(Unit))):Option ((Unit)×((List Y3)×Unit)):=
bif (decide (v.1.1.length≤4294967296)) then some ((),v.1) else none
def aat:Abs.Spec:=⟨0,afs,af4,WZ⟩
theorem aa8:Abs.aD Tryz.prog 112 aat:=
 Abs.rM (N:=note) (t:=Z1) Cn (Abs.oQ (n:=12) (an:=fun _=>{}) (T:=Abs.wC []) good Cn (Abs.mR _ (fun _ h=>by cases h)) rfl (by intro v;kernel_rfl)) (by kernel_rfl) (by kernel_rfl)
def ahD:Abs.Sg:=⟨[0],(.dat (.row Z6) .nil),.nil⟩
def ahi:Abs.Sg:=⟨[2],(.st (.own Z6 (0,0)) .nil),qY⟩
def Zw(v:((eF×Unit)×(Unit))):Option ((Unit)×(eF×Unit)):=
bif (decide (v.1.1.length≤4294967296)) then some ((),v.1) else none
def abM:Abs.Spec:=⟨0,ahD,ahi,Zw⟩
theorem acF:Abs.aD Tryz.prog 165 abM:=
 Abs.rM (N:=note) (t:=Z6) Cn (Abs.oQ (n:=12) (an:=fun _=>{}) (T:=Abs.wC []) good Cn (Abs.mR _ (fun _ h=>by cases h)) rfl (by intro v;kernel_rfl)) (by kernel_rfl) (by kernel_rfl)
def agG:Abs.Sg:=⟨[0],(.dat Z2 .nil),.nil⟩
def ag0:Abs.Sg:=⟨[2],(.st (.own JK (0,0)) .nil),(.arr JK false .nil)⟩
def YD(v:((Y4×Unit)×(Unit))):Option ((Unit)×(Y4×Unit)):=
bif (decide (v.1.1.length≤4294967296)) then some ((),v.1) else none
def acf:Abs.Spec:=⟨0,agG,ag0,YD⟩
theorem aap:Abs.aD Tryz.prog 166 acf:=
 Abs.rM (N:=note) (t:=JK) Cn (Abs.oQ (n:=12) (an:=fun _=>{}) (T:=Abs.wC []) good Cn (Abs.mR _ (fun _ h=>by cases h)) rfl (by intro v;kernel_rfl)) (by kernel_rfl) (by kernel_rfl)
def yX(v:((Int×Int×Unit)×(eF×Unit))):Option (((Int×Int×Unit)×(eF×Unit)) ⊕((Unit)×(eF×Unit))):=
bif (decide ((v.1.1:Int)< v.1.2.1)) then(bif (decide ((0:Int) ≤v.1.1∧(v.1.1:Int)< v.2.1.length)) then
(v.2.1[v.1.1.toNat]?).bind fun b=>
(YD (b.2.2.2.2,())).bind fun c=>
bif (decide ((0:Int) ≤v.1.1∧(v.1.1:Int)< v.2.1.length)) then
(v.2.1[v.1.1.toNat]?).bind fun a=>
some (.inl (((aT (v.1.1+1)),v.1.2),(v.2.1.set v.1.1.toNat (a.1,a.2.1,a.2.2.1,a.2.2.2.1,c.2)),()))
else none
else none)
else(some (.inr ((),v.2)))
def ah0:Abs.Sg:=⟨[0],(.dat (.row Z6) .nil),.nil⟩
def o111:Abs.Sg:=⟨[2],(.st (.own Z6 (0,0)) .nil),qY⟩
def Mh(v:((eF×Unit)×(Unit))):Option ((Unit)×(eF×Unit)):=
(Zw v).bind fun a=>
(aB yX ((0,((a.2.1.length:Nat):Int),()),a.2)).bind fun b=>
some ((),b.2)
def abJ:Abs.Spec:=⟨0,ah0,o111,Mh⟩
def ac5:Nat→Abs.aW
 |0=>Abs.aW.mk (fun _=>none) (fun _=>none) (fun
  |3=>some ⟨⟨[9,3,8],(.dat (.int .i64) (.st (.own Z6 (0,0)) bn)),qY⟩,(.one (.exit 0) ⟨[3],(.st (.own Z6 (0,0)) .nil),qY⟩)⟩
  |_=>none) (fun _ _=>0)
 |_=>{}
theorem Rm:Abs.aD Tryz.prog 111 abJ:=
 okW (an:=ac5) (bg acF (bg aap dZ)) rfl (by intro v;kernel_rfl)
def i167:Abs.Sg:=⟨[0],(.dat (.row Z7) .nil),.nil⟩
def afM:Abs.Sg:=⟨[2],(.st (.own Z7 (0,0)) .nil),(.arr Z7 false .nil)⟩
def Yl(v:(((List Y9)×Unit)×(Unit))):Option ((Unit)×((List Y9)×Unit)):=
bif (decide (v.1.1.length≤4294967296)) then some ((),v.1) else none
def abb:Abs.Spec:=⟨0,i167,afM,Yl⟩
theorem adz:Abs.aD Tryz.prog 167 abb:=
 Abs.rM (N:=note) (t:=Z7) Cn (Abs.oQ (n:=12) (an:=fun _=>{}) (T:=Abs.wC []) good Cn (Abs.mR _ (fun _ h=>by cases h)) rfl (by intro v;kernel_rfl)) (by kernel_rfl) (by kernel_rfl)
def afQ:Abs.Sg:=⟨[0],jX,.nil⟩
def agN:Abs.Sg:=⟨[2],(.st (.own iE (0,0)) .nil),yT⟩
def Uc(v:((bW×Unit)×(Unit))):Option ((Unit)×(bW×Unit)):=
bif (decide (v.1.1.length≤4294967296)) then some ((),v.1) else none
def ack:Abs.Spec:=⟨0,afQ,agN,Uc⟩
theorem XW:Abs.aD Tryz.prog 103 ack:=
 Abs.rM (N:=note) (t:=iE) Cn (Abs.oQ (n:=12) (an:=fun _=>{}) (T:=Abs.wC []) good Cn (Abs.mR _ (fun _ h=>by cases h)) rfl (by intro v;kernel_rfl)) (by kernel_rfl) (by kernel_rfl)
def yH(v:((Int×Int×Unit)×(jF×jF×(List Y9)×Unit))):Option (((Int×Int×Unit)×(jF×jF×(List Y9)×Unit)) ⊕((Unit)×(jF×jF×(List Y9)×Unit))):=
bif (decide ((v.1.1:Int)< v.1.2.1)) then(bif (decide ((0:Int) ≤v.1.1∧(v.1.1:Int)< v.2.2.2.1.length)) then
(v.2.2.2.1[v.1.1.toNat]?).bind fun b=>
(Uc ((b.2.1,()),())).bind fun c=>
bif (decide ((0:Int) ≤v.1.1∧(v.1.1:Int)< v.2.2.2.1.length)) then
(v.2.2.2.1[v.1.1.toNat]?).bind fun a=>
some (.inl (((aT (v.1.1+1)),v.1.2),v.2.1,v.2.2.1,(v.2.2.2.1.set v.1.1.toNat (a.1,c.2.1,a.2.2)),()))
else none
else none)
else(some (.inr ((),v.2.2.1,v.2.1,v.2.2.2)))
def afE:Abs.Sg:=⟨[0],(.dat Z1 .nil),.nil⟩
def af3:Abs.Sg:=⟨[2],(.st fI .nil),Ie⟩
def MP(v:((Y3×Unit)×(Unit))):Option ((Unit)×(jF×(List Y9)×Unit)):=
(Yl ((v.1.1.2.2.1,()),())).bind fun a=>
(aB yH ((0,((a.2.1.length:Nat):Int),()),((v.1.1.1,v.1.1.2.1,v.1.1.2.2.2),()),((0,ByteArray.empty,0,0,()),()),a.2)).bind fun b=>
some ((),b.2.2)
def aa5:Abs.Spec:=⟨0,afE,af3,MP⟩
def aai:Nat→Abs.aW
 |0=>Abs.aW.mk (fun _=>none) (fun _=>none) (fun
  |3=>some ⟨⟨[11,1,2,10],(.dat (.int .i64) (.st fI (.st qM bn))),(.box 5 (.agg (.dat (.int .i64) (.dat .str (.st (.own Z7 (2,0)) nk))) .nil) (.box 5 Ju (.arr Z7 false .nil)))⟩,(.one (.exit 0) ⟨[2,1],(.st fI (.st qM .nil)),UN⟩)⟩
  |_=>none) (fun _ _=>0)
 |_=>{}
theorem O7:Abs.aD Tryz.prog 113 aa5:=
 okW (an:=aai) (bg adz (bg XW dZ)) rfl (by intro v;kernel_rfl)
def CZ(v:((Int×Int×Unit)×(j4×(List Y3)×j4×eF×Unit))):Option (((Int×Int×Unit)×(j4×(List Y3)×j4×eF×Unit)) ⊕((Unit)×(j4×j4×(List Y3)×eF×Unit))):=
bif (decide ((v.1.1:Int)< v.1.2.1)) then(bif (decide ((0:Int) ≤v.1.1∧(v.1.1:Int)< v.2.2.1.length)) then
(v.2.2.1[v.1.1.toNat]?).bind fun b=>
(MP ((b,()),())).bind fun a=>
bif (decide ((0:Int) ≤v.1.1∧(v.1.1:Int)< v.2.2.1.length)) then
bif (decide (v.1.1.toNat< v.2.2.1.length)) then
some (.inl (((aT (v.1.1+1)),v.1.2),v.2.1,(v.2.2.1.set v.1.1.toNat (a.2.1.1.1,a.2.1.1.2.1,a.2.2.1,a.2.1.1.2.2)),v.2.2.2))
else none
else none
else none)
else(some (.inr ((),v.2.2.2.1,v.2.1,v.2.2.1,v.2.2.2.2)))
def i64:Abs.Sg:=⟨[0],qU,.nil⟩
def o64:Abs.Sg:=⟨[2],(.st gN .nil),TK⟩
def m64(v:(wu×(Unit))):Option ((Unit)×(j4×(List Y3)×eF×Unit)):=
(WZ ((v.1.1.2.1,()),())).bind fun a=>
(Mh ((v.1.1.2.2.1,()),())).bind fun b=>
(aB CZ ((0,((a.2.1.length:Nat):Int),()),((v.1.1.1,v.1.1.2.2.2),()),a.2.1,((0,0,()),()),b.2)).bind fun c=>
some ((),c.2.2)
def afI:Abs.Spec:=⟨0,i64,o64,m64⟩
def afN:Nat→Abs.aW
 |0=>Abs.aW.mk (fun _=>none) (fun _=>none) (fun
  |3=>some ⟨⟨[16,1,14,2,15],(.dat (.int .i64) (.st gN (.st (.own Z1 (1,0)) (.st (.ptr (2,0) 4 0 0) bn)))),(.box 4 (.agg (.dat (.int .i64) (.st (.own Z1 (1,0)) (.st (.own Z6 (3,0)) bn))) .nil) (.arr Z1 false (.box 4 qF qY)))⟩,(.one (.exit 0) ⟨[2,1],(.st gN (.st q9 .nil)),(.box 4 qF (.box 4 (.agg (.dat (.int .i64) (.st (.own Z1 (2,0)) (.st (.own Z6 (3,0)) bn))) .nil) (.arr Z1 false qY)))⟩)⟩
  |_=>none) (fun _ _=>0)
 |_=>{}
theorem Vy:Abs.aD Tryz.prog 64 afI:=
 okW (an:=afN) (bg aa8 (bg Rm (bg O7 dZ))) rfl (by intro v;kernel_rfl)
def afG:Abs.Sg:=⟨[0,1,2],EM,.nil⟩
def ae3:Abs.Sg:=⟨[6],dQ,.nil⟩
def Er(v:((Int×Int×Int×Unit)×(Unit))):Option fH:=
((bif (decide ((v.1.1:Int) ≥v.1.2.1)) then(some (((decide ((v.1.1:Int) ≤v.1.2.2.1)),()),()))
else(some ((false,()),()))):Option fH).bind fun a=>
some a
def acw:Abs.Spec:=⟨0,afG,ae3,Er⟩
def abR:Nat→Abs.aW
 |0=>Abs.aW.mk (fun
  |1=>some ⟨[6],dQ,.nil⟩
  |_=>none) (fun _=>none) (fun _=>none) (fun _ _=>0)
 |_=>{}
theorem Lh:Abs.aD Tryz.prog 125 acw:=
 okW (an:=abR) dZ rfl (by intro v;kernel_rfl)
def zQ(v:((Int×bW×bW×Int×Unit)×(Unit))):Option (((Int×bW×bW×Int×Unit)×(Unit)) ⊕(fH⊕((Unit)×(Unit)))):=
bif (decide ((v.1.1:Int)< v.1.2.2.2.1)) then(Abs.rowAt v.1.2.2.1 v.1.1 fun a _=>
(((PL ((a.1,()),())).bind fun d=>
bif (!d.1.1) then(some ((true,v.1.2.1,v.1.2.2.1,v.1.2.2.2.1,v.1.1,()),()))
else((U4 (a.2,())).bind fun e=>
bif (!e.1.1) then(some ((true,v.1.2.1,v.1.2.2.1,v.1.2.2.2.1,v.1.1,()),()))
else(bif (a.2.1.toList==ByteArray.empty.toList) then(some ((true,v.1.2.1,v.1.2.2.1,v.1.2.2.2.1,v.1.1,()),()))
else(bif (decide ((v.1.1:Int)>0)) then(Abs.rowAt v.1.2.1 (aT (v.1.1 - 1)) fun c _=>
some (((Op.bytesLess a.1.toList c.1.toList||a.1.toList==c.1.toList),v.1.2.1,v.1.2.2.1,v.1.2.2.2.1,v.1.1,()),()))
else(some ((false,v.1.2.1,v.1.2.2.1,v.1.2.2.2.1,v.1.1,()),())))))):Option ((Bool×bW×bW×Int×Int×Unit)×(Unit))).bind fun b=>
bif b.1.1 then(some (.inr (.inl ((false,()),()))))
else(some (.inl (((aT (b.1.2.2.2.2.1+1)),b.1.2.1,b.1.2.2.1,b.1.2.2.2.1,()),()))))
else(some (.inr (.inr ((),()))))
def i66:Abs.Sg:=⟨[0],jX,.nil⟩
def o66:Abs.Sg:=⟨[2],dQ,.nil⟩
def WX(v:((bW×Unit)×(Unit))):Option fH:=
bif (decide (((v.1.1.length:Int):Int)>12)) then(some ((false,()),()))
else((aB zQ ((0,v.1.1,v.1.1,(v.1.1.length:Int),()),())).bind fun a=>
au a (fun b=>(some b)) (fun c=>(some ((true,()),()))))
def adN:Abs.Spec:=⟨0,i66,o66,WX⟩
def aej:Nat→Abs.aW
 |0=>Abs.aW.mk (fun
  |6=>some ⟨[44,0,8,9,10],(.dat .bool (.dat (.row iE) (.dat (.row iE) nk))),.nil⟩
  |_=>none) (fun _=>none) (fun
  |4=>some ⟨⟨[10,0,8,9],(.dat (.int .i64) (.dat (.row iE) (.dat (.row iE) bn))),.nil⟩,(.more .ret ⟨[2],dQ,.nil⟩ (.one (.exit 0) ⟨[],.nil,.nil⟩))⟩
  |_=>none) (fun _ _=>0)
 |_=>{}
theorem Qa:Abs.aD Tryz.prog 66 adN:=
 okW (an:=aej) (bg RJ (bg XD dZ)) rfl (by intro v;kernel_rfl)
def uR(v:((Int×bW×Int×Unit)×((List ByteArray)×Unit))):Option (((Int×bW×Int×Unit)×((List ByteArray)×Unit)) ⊕((Unit)×((List ByteArray)×Unit))):=
bif (decide ((v.1.1:Int)< v.1.2.2.1)) then(Abs.rowAt v.1.2.1 v.1.1 fun a _=>
bif (decide (a.1.size+1≤4294967296)) then
bif (decide (a.2.1.size≤4294967296)) then
bif (decide ((a.1++(bs [61])).size+(jU a.2.1).size≤4294967296)) then
bif (decide (v.2.1.length+ [((a.1++(bs [61]))++(jU a.2.1))].length≤4294967296)) then
let b:=(v.2.1++ [((a.1++(bs [61]))++(jU a.2.1))])
some (.inl (((aT (v.1.1+1)),v.1.2),b,()))
else none
else none
else none
else none)
else(some (.inr ((),v.2)))
def agR:Abs.Sg:=⟨[0],jX,.nil⟩
def adS:Abs.Sg:=⟨[2],gG,.nil⟩
def Ql(v:((bW×Unit)×(Unit))):Option Fe:=
(WX v).bind fun b=>
bif (!b.1.1) then(some ((ByteArray.empty,()),()))
else((aB uR ((0,v.1.1,(v.1.1.length:Int),()),[],())).bind fun a=>
bif (decide (List.length a.2.1≤4294967296∧(rq a.2.1 (bs [44])).size≤140737488355328)) then
bif (decide (1+(rq a.2.1 (bs [44])).size≤4294967296)) then
bif (decide (((bs [123])++(rq a.2.1 (bs [44]))).size+1≤4294967296)) then
let c:=(((bs [123])++(rq a.2.1 (bs [44])))++(bs [125]))
some ((c,()),())
else none
else none
else none)
def adh:Abs.Spec:=⟨0,agR,adS,Ql⟩
def aal:Nat→Abs.aW
 |0=>Abs.aW.mk (fun _=>none) (fun _=>none) (fun
  |5=>some ⟨⟨[11,3,9,10],(.dat (.int .i64) (.st (.own .str (0,0)) (.dat (.row iE) bn))),(.arr .str false .nil)⟩,(.one (.exit 0) ⟨[3],(.st (.own .str (0,0)) .nil),(.arr .str false .nil)⟩)⟩
  |_=>none) (fun _ _=>0)
 |_=>{}
theorem TA:Abs.aD Tryz.prog 118 adh:=
 okW (an:=aal) (bg Qa dZ) rfl (by intro v;kernel_rfl)
def afe:Abs.Sg:=⟨[0],(.dat Z7 .nil),.nil⟩
def afp:Abs.Sg:=⟨[2],dQ,.nil⟩
def Xe(v:((Y9×Unit)×(Unit))):Option fH:=
(((WX ((v.1.1.2.1,()),())).bind fun a=>
bif a.1.1 then((Ql ((v.1.1.2.1,()),())).bind fun b=>
bif (b.1.1.toList==v.1.1.1.toList) then((Er ((v.1.1.2.2.1,0,8589934592,()),())).bind fun c=>
bif c.1.1 then((Er ((v.1.1.2.2.2.1,0,8589934592,()),())).bind fun d=>
bif d.1.1 then(bif v.1.1.2.2.2.2.1 then(some ((true,()),()))
else(some (((!v.1.1.2.2.2.2.2.1),()),())))
else(some ((false,()),())))
else(some ((false,()),())))
else(some ((false,()),())))
else(some ((false,()),()))):Option fH).bind fun e=>
some e
def aaB:Abs.Spec:=⟨0,afe,afp,Xe⟩
def aco:Nat→Abs.aW
 |0=>Abs.aW.mk (fun
  |1=>some ⟨[2],dQ,.nil⟩
  |_=>none) (fun _=>none) (fun _=>none) (fun _ _=>0)
 |_=>{}
theorem abf:Abs.aD Tryz.prog 144 aaB:=
 okW (an:=aco) (bg Qa (bg TA (bg Lh dZ))) rfl (by intro v;kernel_rfl)
def yR(v:((Int×(List Y9)×Int×Unit)×((Y3×Unit)×Unit))):Option (((Int×(List Y9)×Int×Unit)×((Y3×Unit)×Unit)) ⊕(fH⊕((Unit)×(Unit)))):=
bif (decide ((v.1.1:Int)< v.1.2.2.1)) then(Abs.rowAt v.1.2.1 v.1.1 fun b _=>
(((Xe ((b,()),())).bind fun d=>
bif (!d.1.1) then(some ((true,v.1.2.1,v.1.2.2.1,v.1.1,()),v.2))
else(bif (decide ((v.1.1:Int)>0)) then(Abs.rowAt v.2.1.1.2.2.1 (aT (v.1.1 - 1)) fun c _=>
some (((Op.bytesLess b.1.toList c.1.toList||b.1.toList==c.1.toList),v.1.2.1,v.1.2.2.1,v.1.1,()),v.2))
else(some ((false,v.1.2.1,v.1.2.2.1,v.1.1,()),v.2)))):Option ((Bool×(List Y9)×Int×Int×Unit)×((Y3×Unit)×Unit))).bind fun a=>
bif a.1.1 then(some (.inr (.inl ((false,()),()))))
else(some (.inl (((aT (a.1.2.2.2.1+1)),a.1.2.1,a.1.2.2.1,()),a.2))))
else(some (.inr (.inr ((),()))))
def i82:Abs.Sg:=⟨[0],(.dat Z1 .nil),.nil⟩
def o82:Abs.Sg:=⟨[2],dQ,.nil⟩
def Y1(v:((Y3×Unit)×(Unit))):Option fH:=
((let b:=(decide (((v.1.1.2.2.1.length:Int):Int)>256))
bif b then(some ((true,()),v))
else(bif (decide ((v.1.1.1:Int)< 0)) then(some ((true,()),v))
else((Er ((v.1.1.2.2.2.1,(-1),8589934592,()),())).bind fun c=>
bif (!c.1.1) then(some ((true,()),v))
else((Er ((v.1.1.2.2.2.2.1,(-1),8589934592,()),())).bind fun d=>
some (((!d.1.1),()),v))))):Option ((Bool×Unit)×((Y3×Unit)×Unit))).bind fun a=>
bif a.1.1 then(some ((false,()),()))
else((aB yR ((0,a.2.1.1.2.2.1,(a.2.1.1.2.2.1.length:Int),()),a.2)).bind fun e=>
au e (fun f=>(some f)) (fun g=>(some ((true,()),()))))
def agp:Abs.Spec:=⟨0,i82,o82,Y1⟩
def afk:Nat→Abs.aW
 |0=>Abs.aW.mk (fun
  |6=>some ⟨[52,1,27,28,29],(.dat .bool (.st fI (.dat (.row Z7) nk))),uy⟩
  |1=>some ⟨[25,1],(.dat .bool (.st fI .nil)),uy⟩
  |_=>none) (fun _=>none) (fun
  |4=>some ⟨⟨[29,1,27,28],(.dat (.int .i64) (.st fI (.dat (.row Z7) bn))),uy⟩,(.more .ret ⟨[2],dQ,.nil⟩ (.one (.exit 0) ⟨[],.nil,.nil⟩))⟩
  |_=>none) (fun _ _=>0)
 |_=>{}
theorem Xp:Abs.aD Tryz.prog 82 agp:=
 okW (an:=afk) (bg Lh (bg abf dZ)) rfl (by intro v;kernel_rfl)
def i124:Abs.Sg:=⟨[0],mV,.nil⟩
def aev:Abs.Sg:=⟨[2],dQ,.nil⟩
def QU(v:((Y8×Unit)×(Unit))):Option fH:=
(m78 ((([((-1),[],v.1.1.2.2)]:List Y8),()),())).bind fun a=>
some ((((a.1.1:Int)==0),()),())
def abe:Abs.Spec:=⟨0,i124,aev,QU⟩
def adg:Nat→Abs.aW
 |_=>{}
theorem SE:Abs.aD Tryz.prog 124 abe:=
 okW (an:=adg) (bg Zb dZ) rfl (by intro v;kernel_rfl)
def adR:Abs.Sg:=⟨[0],gG,.nil⟩
def agt:Abs.Sg:=⟨[2],dQ,.nil⟩
def Ux(v:Fe):Option fH:=
some (((!(v.1.1.toList==v.1.1.toList)),()),())
def acQ:Abs.Spec:=⟨0,adR,agt,Ux⟩
def ads:Nat→Abs.aW
 |_=>{}
theorem adx:Abs.aD Tryz.prog 190 acQ:=
 okW (an:=ads) dZ rfl (by intro v;kernel_rfl)
def i146:Abs.Sg:=⟨[0,1],(.dat .str gG),.nil⟩
def ahj:Abs.Sg:=⟨[4],bn,.nil⟩
def RX(v:((ByteArray×ByteArray×Unit)×(Unit))):Option ((Int×Unit)×(Unit)):=
(Ux ((v.1.1,()),())).bind fun b=>
(Ux (v.1.2,())).bind fun a=>
bif b.1.1 then(bif a.1.1 then(some ((0,()),()))
else(some (((-1),()),())))
else(bif a.1.1 then(some ((1,()),()))
else(bif (Op.bytesLess v.1.1.toList v.1.2.1.toList) then(some (((-1),()),()))
else(bif (!(Op.bytesLess v.1.1.toList v.1.2.1.toList||v.1.1.toList==v.1.2.1.toList)) then(some ((1,()),()))
else(some ((0,()),())))))
def acU:Abs.Spec:=⟨0,i146,ahj,RX⟩
def ac3:Nat→Abs.aW
 |_=>{}
theorem XR:Abs.aD Tryz.prog 146 acU:=
 okW (an:=ac3) (bg adx dZ) rfl (by intro v;kernel_rfl)
def i175:Abs.Sg:=⟨[0,1],(.dat Z7 gG),.nil⟩
def ag6:Abs.Sg:=⟨[4],bn,.nil⟩
def Sd(v:((Y9×ByteArray×Unit)×(Unit))):Option ((Int×Unit)×(Unit)):=
(RX ((v.1.1.1,v.1.2),())).bind fun a=>
some a
def acL:Abs.Spec:=⟨0,i175,ag6,Sd⟩
def acO:Nat→Abs.aW
 |_=>{}
theorem abC:Abs.aD Tryz.prog 175 acL:=
 okW (an:=acO) (bg XR dZ) rfl (by intro v;kernel_rfl)
def mY(v:((ByteArray×(List Y9)×Int×Int×Int×Unit)×(Unit))):Option (((ByteArray×(List Y9)×Int×Int×Int×Unit)×(Unit)) ⊕((ByteArray×Int×(List Y9)×Int×Unit)×(Unit))):=
bif (decide ((v.1.2.2.2.1:Int)< v.1.2.2.1)) then(let a:=(IntKind.wrap .u64 ((aT (v.1.2.2.2.1+v.1.2.2.1))))
bif (decide ((0:Int) ≤1)) then
Abs.rowAt v.1.2.1 (aT ((zD .u64 (a) (1)))) fun b _=>
(Sd ((b,v.1.1,()),())).bind fun c=>
bif (decide ((c.1.1:Int)< 0)) then(some (.inl ((v.1.1,v.1.2.1,v.1.2.2.1,(aT ((aT ((zD .u64 (a) (1))))+1)),v.1.2.2.2.2),())))
else(some (.inl ((v.1.1,v.1.2.1,(aT ((zD .u64 (a) (1)))),v.1.2.2.2),())))
else none)
else(some (.inr ((v.1.1,v.1.2.2.2.1,v.1.2.1,v.1.2.2.2.2),())))
def agF:Abs.Sg:=⟨[0,1],(.dat Z1 gG),.nil⟩
def ahp:Abs.Sg:=⟨[4,5],(.dat (.int .i64) dQ),.nil⟩
def Kb(v:((Y3×ByteArray×Unit)×(Unit))):Option ((Int×Bool×Unit)×(Unit)):=
(aB mY ((v.1.2.1,v.1.1.2.2.1,(v.1.1.2.2.1.length:Int),0,(v.1.1.2.2.1.length:Int),()),())).bind fun a=>
((bif (decide ((a.1.2.1:Int)< a.1.2.2.2.1)) then(Abs.rowAt a.1.2.2.1 a.1.2.1 fun b _=>
(Sd ((b,a.1.1,()),())).bind fun c=>
some ((a.1.2.1,((c.1.1:Int)==0),()),()))
else(some ((a.1.2.1,false,()),()))):Option ((Int×Bool×Unit)×(Unit))).bind fun d=>
some d
def acG:Abs.Spec:=⟨0,agF,ahp,Kb⟩
def acI:Nat→Abs.aW
 |0=>Abs.aW.mk (fun _=>none) (fun _=>none) (fun _=>none) (fun
  |1,3=>1
  |_,_=>0)
 |1=>Abs.aW.mk (fun
  |8=>some ⟨[6,7],(.dat (.int .i64) dQ),.nil⟩
  |_=>none) (fun _=>none) (fun
  |3=>some ⟨⟨[1,0,2,10,9,8],(.dat .str (.dat (.row Z7) (.st (.clo 175 []) EM))),.nil⟩,(.one (.exit 0) ⟨[1,9,0,2,8],(.dat .str (.dat (.int .i64) (.dat (.row Z7) (.st (.clo 175 []) bn)))),.nil⟩)⟩
  |_=>none) (fun _ _=>0)
 |_=>{}
theorem X8:Abs.aD Tryz.prog 126 acG:=
 okW (an:=acI) (bg abC dZ) rfl (by intro v;kernel_rfl)
def ael:Abs.Sg:=⟨[0],bn,.nil⟩
def aho:Abs.Sg:=⟨[2],bn,.nil⟩
def Kl(v:((Int×Unit)×(Unit))):Option ((Int×Unit)×(Unit)):=
bif (decide ((v.1.1:Int)>8589934592)) then(some (((-1),()),()))
else(some v)
def aaT:Abs.Spec:=⟨0,ael,aho,Kl⟩
def ab1:Nat→Abs.aW
 |_=>{}
theorem TF:Abs.aD Tryz.prog 179 aaT:=
 okW (an:=ab1) dZ rfl (by intro v;kernel_rfl)
def i145:Abs.Sg:=⟨[0],(.dat Z1 .nil),.nil⟩
def ah3:Abs.Sg:=⟨[2],dQ,.nil⟩
def YB(v:((Y3×Unit)×(Unit))):Option fH:=
some (((((v.1.1.2.2.1.length:Int):Int)==0),()),())
def acE:Abs.Spec:=⟨0,i145,ah3,YB⟩
def ac4:Nat→Abs.aW
 |_=>{}
theorem aa4:Abs.aD Tryz.prog 145 acE:=
 okW (an:=ac4) dZ rfl (by intro v;kernel_rfl)
def pI(v:((Int×Int×Int×(List Y9)×Int×Unit)×(jF×(Y8×Unit)×jF×(List Y9)×Unit))):Option (((Int×Int×Int×(List Y9)×Int×Unit)×(jF×(Y8×Unit)×jF×(List Y9)×Unit)) ⊕((Unit)×(jF×jF×(List Y9)×Unit))):=
bif (decide ((v.1.1:Int)< v.1.2.2.2.2.1)) then(((Abs.rowAt v.1.2.2.2.1 v.1.1 fun k _=>
(Kb (((v.2.1.1.1,v.2.1.1.2.1,v.2.2.2.2.1,v.2.1.1.2.2),k.1,()),())).bind fun j=>
((bif j.1.2.1 then(bif k.2.2.2.2.1 then(let n:=(decide ((k.2.2.2.1:Int) ≤(aT (v.1.2.1 - v.1.2.2.1))))
some ((n,v.1.2.1,v.1.2.2.1,v.1.2.2.2.1,v.1.2.2.2.2.1,v.1.1,j.1.1,()),v.2))
else(some ((false,v.1.2.1,v.1.2.2.1,v.1.2.2.2.1,v.1.2.2.2.2.1,v.1.1,j.1.1,()),v.2)))
else(some ((false,v.1.2.1,v.1.2.2.1,v.1.2.2.2.1,v.1.2.2.2.2.1,v.1.1,j.1.1,()),v.2))):Option ((Bool×Int×Int×(List Y9)×Int×Int×Int×Unit)×(jF×(Y8×Unit)×jF×(List Y9)×Unit))).bind fun a=>
bif a.1.1 then(((bif (decide ((0:Int) ≤a.1.2.2.2.2.2.2.1∧(a.1.2.2.2.2.2.2.1:Int)< a.2.2.2.2.1.length)) then
(a.2.2.2.2.1[a.1.2.2.2.2.2.2.1.toNat]?).bind fun o=>
bif (o.2.2.2.2.1==false) then(bif (decide (a.2.2.2.2.1.length=a.2.2.2.2.1.length)&&true) then
some ((a.1.2.1,a.1.2.2.1,a.1.2.2.2.1,a.1.2.2.2.2.1,a.1.2.2.2.2.2.1,()),a.2)
else none)
else((a.2.2.2.2.1[a.1.2.2.2.2.2.2.1.toNat]?).bind fun p=>
bif (!p.2.2.2.2.2.1) then(bif (decide ((0:Int) ≤a.1.2.2.2.2.2.2.1∧(a.1.2.2.2.2.2.2.1:Int)< (aT (a.1.2.2.2.2.2.2.1+1)) ∧((aT (a.1.2.2.2.2.2.2.1+1)):Int) ≤a.2.2.2.2.1.length∧a.2.2.2.2.1.length≤4294967296)) then
bif (decide (a.2.2.2.2.1.length=a.2.2.2.2.1.length)&&true) then
bif (decide (a.2.2.2.2.1.length=a.2.2.2.2.1.length)&&true) then
some ((a.1.2.1,a.1.2.2.1,a.1.2.2.2.1,a.1.2.2.2.2.1,a.1.2.2.2.2.2.1,()),a.2.1,a.2.2.1,a.2.2.2.1,(a.2.2.2.2.1.take a.1.2.2.2.2.2.2.1.toNat++a.2.2.2.2.1.drop (aT (a.1.2.2.2.2.2.2.1+1)).toNat),())
else none
else none
else none)
else((a.2.2.2.2.1[a.1.2.2.2.2.2.2.1.toNat]?).bind fun b=>
((a.2.2.2.2.1.set a.1.2.2.2.2.2.2.1.toNat (b.1,b.2.1,b.2.2.1,b.2.2.2.1,false,b.2.2.2.2.2))[a.1.2.2.2.2.2.2.1.toNat]?).bind fun c=>
(((a.2.2.2.2.1.set a.1.2.2.2.2.2.2.1.toNat (b.1,b.2.1,b.2.2.1,b.2.2.2.1,false,b.2.2.2.2.2)).set a.1.2.2.2.2.2.2.1.toNat (c.1,c.2.1,c.2.2.1,c.2.2.2.1,c.2.2.2.2.1,false,()))[a.1.2.2.2.2.2.2.1.toNat]?).bind fun e=>
((bif ((a.2.1.1.2.2.2.1:Int) !=(-1)) then(let m:=(aT (a.2.1.1.2.2.2.1+a.2.2.1.1.2.2.2.2.2.1))
let q:=(if(m:Int)>a.1.2.1 then m else a.1.2.1)
some ((q,()),a.2.1,(((a.2.2.2.2.1.set a.1.2.2.2.2.2.2.1.toNat (b.1,b.2.1,b.2.2.1,b.2.2.2.1,false,b.2.2.2.2.2)).set a.1.2.2.2.2.2.2.1.toNat (c.1,c.2.1,c.2.2.1,c.2.2.2.1,c.2.2.2.2.1,false,())).set a.1.2.2.2.2.2.2.1.toNat (e.1,e.2.1,a.1.2.1,e.2.2.2)),()))
else(some (((aT (a.1.2.1+a.2.2.1.1.2.2.2.2.1)),()),a.2.1,(((a.2.2.2.2.1.set a.1.2.2.2.2.2.2.1.toNat (b.1,b.2.1,b.2.2.1,b.2.2.2.1,false,b.2.2.2.2.2)).set a.1.2.2.2.2.2.2.1.toNat (c.1,c.2.1,c.2.2.1,c.2.2.2.1,c.2.2.2.2.1,false,())).set a.1.2.2.2.2.2.2.1.toNat (e.1,e.2.1,a.1.2.1,e.2.2.2)),()))):Option ((Int×Unit)×(jF×(List Y9)×Unit))).bind fun f=>
((bif ((f.2.1.1.2.2.1:Int) !=(-1)) then(let r:=(if(f.2.1.1.2.2.1:Int)< f.1.1 then f.2.1.1.2.2.1 else f.1.1)
some ((r,()),f.2))
else(some f)):Option ((Int×Unit)×(jF×(List Y9)×Unit))).bind fun g=>
(Kl (g.1,())).bind fun s=>
bif (decide (g.2.2.1.length=(((a.2.2.2.2.1.set a.1.2.2.2.2.2.2.1.toNat (b.1,b.2.1,b.2.2.1,b.2.2.2.1,false,b.2.2.2.2.2)).set a.1.2.2.2.2.2.2.1.toNat (c.1,c.2.1,c.2.2.1,c.2.2.2.1,c.2.2.2.2.1,false,())).set a.1.2.2.2.2.2.2.1.toNat (e.1,e.2.1,a.1.2.1,e.2.2.2)).length)&&true) then
bif (decide (g.2.2.1.length=a.2.2.2.2.1.length)&&true) then
some ((a.1.2.1,a.1.2.2.1,a.1.2.2.2.1,a.1.2.2.2.2.1,a.1.2.2.2.2.2.1,()),((g.2.1.1.1,g.2.1.1.2.1,s.1.1,g.2.1.1.2.2.2),()),a.2.2.1,a.2.2.2.1,g.2.2)
else none
else none))
else none):Option ((Int×Int×(List Y9)×Int×Int×Unit)×(jF×(Y8×Unit)×jF×(List Y9)×Unit))).bind fun d=>
((let t:=((((d.2.2.2.2.1.length:Nat):Int):Int)==0)
bif (decide (d.2.2.2.2.1.length=d.2.2.2.2.1.length)&&true) then
bif t then(some ((),d.2.2.2.2.1,((0,ByteArray.empty,0,0,()),()),((d.2.1.1.1,d.2.1.1.2.1,(-1),d.2.1.1.2.2.2),()),()))
else(some ((),d.2.2.2.2.1,((0,ByteArray.empty,0,0,()),()),d.2.1,()))
else none):Option ((Unit)×((List Y9)×jF×jF×Unit))).bind fun l=>
bif (decide (l.2.1.length=d.2.2.2.2.1.length)&&true) then
some (d.1,l.2.2.2.1,d.2.2.1,d.2.2.2.1,l.2.1,())
else none)
else(some ((a.1.2.1,a.1.2.2.1,a.1.2.2.2.1,a.1.2.2.2.2.1,a.1.2.2.2.2.2.1,()),a.2))):Option ((Int×Int×(List Y9)×Int×Int×Unit)×(jF×(Y8×Unit)×jF×(List Y9)×Unit))).bind fun h=>
some (.inl (((aT (h.1.2.2.2.2.1+1)),h.1.1,h.1.2.1,h.1.2.2.1,h.1.2.2.2.1,()),h.2)))
else(some (.inr ((),v.2.2.2.1,v.2.1,v.2.2.2.2)))
def afW:Abs.Sg:=⟨[0,1,2,3],(.dat Z1 (.dat Z5 nk)),.nil⟩
def ahd:Abs.Sg:=⟨[8,9],(.st fI bn),Ie⟩
def UO(v:((Y3×Y8×Int×Int×Unit)×(Unit))):Option ((Int×Unit)×(jF×(List Y9)×Unit)):=
(((Y1 ((v.1.1,()),())).bind fun d=>
bif (!d.1.1) then(some ((true,v.1.2.2),((0,ByteArray.empty,0,0,()),()),(v.1.2.1,()),(v.1.1,()),()))
else((QU ((v.1.2.1,()),())).bind fun e=>
some (((!e.1.1),v.1.2.2),((0,ByteArray.empty,0,0,()),()),(v.1.2.1,()),(v.1.1,()),()))):Option ((Bool×Int×Int×Unit)×(jF×(Y8×Unit)×(Y3×Unit)×Unit))).bind fun b=>
bif b.1.1 then(some ((8,()),((0,ByteArray.empty,0,0,()),()),[],()))
else((((Er ((b.1.2.1,0,8589934592,()),())).bind fun f=>
bif (!f.1.1) then(some ((true,b.1.2),b.2))
else((Er ((b.1.2.2.1,0,604800,()),())).bind fun g=>
some (((!g.1.1),b.1.2),b.2))):Option ((Bool×Int×Int×Unit)×(jF×(Y8×Unit)×(Y3×Unit)×Unit))).bind fun a=>
bif a.1.1 then(some ((1,()),((0,ByteArray.empty,0,0,()),()),[],()))
else((MP a.2.2.2).bind fun c=>
bif ((a.1.2.2.1:Int)==0) then(some ((0,()),c.2))
else((aB pI ((0,a.1.2.1,a.1.2.2.1,a.2.2.2.1.1.2.2.1,(a.2.2.2.1.1.2.2.1.length:Int),()),c.2.1,a.2.2.1,a.2.1,c.2.2)).bind fun h=>
some ((0,()),h.2.2))))
def abT:Abs.Spec:=⟨0,afW,ahd,UO⟩
def adu:Nat→Abs.aW
 |0=>Abs.aW.mk (fun
  |13=>some ⟨[10,2,5,3,41,8,42,43],(.st fI (.dat (.int .i64) (.st (.ptr (1,0) 8 0 0) (.dat (.int .i64) (.dat (.row Z7) (.st Aw nk)))))),WI⟩
  |12=>some ⟨[66,10,2,5,3,41,8,42,43,13],(.dat .bool (.st fI (.dat (.int .i64) (.st (.ptr (1,0) 8 0 0) (.dat (.int .i64) (.dat (.row Z7) (.st Aw EM))))))),WI⟩
  |3=>some ⟨[25,8,2,5,3,4],(.dat .bool (.st fI (.dat (.int .i64) (.st (.ptr (1,0) 8 0 0) (.dat (.int .i64) (.st Aw .nil)))))),(.box 5 Ju (.box 8 mV uy))⟩
  |1=>some ⟨[15,8,2,5,3,4],(.dat .bool (.st fI (.dat (.int .i64) (.st (.ptr (1,0) 8 0 0) (.dat (.int .i64) (.st Aw .nil)))))),(.box 5 Ju (.box 8 mV uy))⟩
  |_=>none) (fun
  |15=>some (⟨[10,2,5,3,41,8,42,43],(.st fI (.dat (.int .i64) (.st (.ptr (1,0) 8 0 0) (.dat (.int .i64) (.dat (.row Z7) (.st Aw nk)))))),WI⟩,none)
  |_=>none) (fun
  |9=>some ⟨⟨[43,10,2,5,3,41,8,42],(.dat (.int .i64) (.st fI (.dat (.int .i64) (.st (.ptr (1,0) 8 0 0) (.dat (.int .i64) (.dat (.row Z7) (.st Aw bn))))))),WI⟩,(.one (.exit 1) ⟨[8,10],(.st fI (.st qM .nil)),UN⟩)⟩
  |_=>none) (fun
  |14,1=>3
  |13,3=>1
  |_,_=>0)
 |1=>Abs.aW.mk (fun _=>none) (fun _=>none) (fun _=>none) (fun
  |3,3=>2
  |_,_=>0)
 |2=>Abs.aW.mk (fun _=>none) (fun
  |6=>some (⟨[6,0],Qo,Ie⟩,none)
  |4=>some (⟨[0,6],(.st fI bn),Ie⟩,none)
  |_=>none) (fun _=>none) (fun _ _=>0)
 |3=>Abs.aW.mk (fun _=>none) (fun
  |3=>some (⟨[2,1],(.st qM (.st Aw .nil)),(.arr Z7 false (.box 5 Ju (.box 5 Qx .nil)))⟩,none)
  |_=>none) (fun _=>none) (fun
  |1,1=>4
  |_,_=>0)
 |_=>{}
theorem abd:Abs.aD Tryz.prog 133 abT:=
 okW (an:=adu) (bg Xp (bg SE (bg Lh (bg O7 (bg X8 (bg TF dZ)))))) rfl (by intro v;kernel_rfl)
def tY(v:((Int×ByteArray×bW×Int×Unit)×(Unit))):Option (((Int×ByteArray×bW×Int×Unit)×(Unit)) ⊕(Fe⊕((Unit)×(Unit)))):=
bif (decide ((v.1.1:Int)< v.1.2.2.2.1)) then(Abs.rowAt v.1.2.2.1 v.1.1 fun a _=>
bif (a.1.toList==v.1.2.1.toList) then(some (.inr (.inl (a.2,()))))
else(some (.inl (((aT (v.1.1+1)),v.1.2),()))))
else(some (.inr (.inr ((),()))))
def aee:Abs.Sg:=⟨[0,1],(.dat (.row iE) gG),.nil⟩
def af7:Abs.Sg:=⟨[4],gG,.nil⟩
def Qu(v:((bW×ByteArray×Unit)×(Unit))):Option Fe:=
(aB tY ((0,v.1.2.1,v.1.1,(v.1.1.length:Int),()),())).bind fun a=>
au a (fun b=>(some b)) (fun c=>(some ((ByteArray.empty,()),())))
def acD:Abs.Spec:=⟨0,aee,af7,Qu⟩
def aaM:Nat→Abs.aW
 |0=>Abs.aW.mk (fun _=>none) (fun _=>none) (fun
  |2=>some ⟨⟨[9,1,7,8],(.dat (.int .i64) (.dat .str (.dat (.row iE) bn))),.nil⟩,(.more .ret ⟨[4],gG,.nil⟩ (.one (.exit 0) ⟨[],.nil,.nil⟩))⟩
  |_=>none) (fun _ _=>0)
 |_=>{}
theorem XV:Abs.aD Tryz.prog 224 acD:=
 okW (an:=aaM) dZ rfl (by intro v;kernel_rfl)
def uS(v:((ByteArray×Int×Unit)×(Unit))):Option (((ByteArray×Int×Unit)×(Unit)) ⊕Fe):=
((bif (decide (((v.1.1.size:Int):Int)>0)) then(bif (decide ((0:Int) ≤(aT ((v.1.1.size:Int) - 1)) ∧((aT ((v.1.1.size:Int) - 1)):Int)< v.1.1.size)) then
let b:=(((((v.1.1[(aT ((v.1.1.size:Int) - 1)).toNat]?.getD 0).toNat:Nat):Int):Int)==v.1.2.1)
some ((b,v.1.2.1,v.1.1,()),())
else none)
else(some ((false,v.1.2.1,v.1.1,()),()))):Option ((Bool×Int×ByteArray×Unit)×(Unit))).bind fun a=>
bif a.1.1 then(bif (decide ((0:Int) ≤(aT ((a.1.2.2.1.size:Int) - 1)))) then
bif (decide (0≤(aT ((a.1.2.2.1.size:Int) - 1)).toNat∧(aT ((a.1.2.2.1.size:Int) - 1)).toNat≤a.1.2.2.1.size)) then
let c:=(a.1.2.2.1.extract 0 (aT ((a.1.2.2.1.size:Int) - 1)).toNat)
some (.inl ((c,a.1.2.1,()),()))
else none
else none)
else(some (.inr (a.1.2.2,())))
def ahA:Abs.Sg:=⟨[0,1],(.dat .str (.dat (.int .u8) .nil)),.nil⟩
def adY:Abs.Sg:=⟨[4],gG,.nil⟩
def Vn(v:((ByteArray×Int×Unit)×(Unit))):Option Fe:=
(aB uS v).bind fun a=>
some a
def ac2:Abs.Spec:=⟨0,ahA,adY,Vn⟩
def abH:Nat→Abs.aW
 |0=>Abs.aW.mk (fun
  |1=>some ⟨[16,1,0],(.dat .bool (.dat (.int .u8) gG)),.nil⟩
  |_=>none) (fun _=>none) (fun
  |1=>some ⟨⟨[0,1],(.dat .str (.dat (.int .u8) .nil)),.nil⟩,(.one (.exit 0) ⟨[0],gG,.nil⟩)⟩
  |_=>none) (fun _ _=>0)
 |_=>{}
theorem ab5:Abs.aD Tryz.prog 237 ac2:=
 okW (an:=abH) dZ rfl (by intro v;kernel_rfl)
def sW(v:((ByteArray×Int×Unit)×(Unit))):Option (((ByteArray×Int×Unit)×(Unit)) ⊕Fe):=
((bif (decide (((v.1.1.size:Int):Int)>0)) then(bif (decide ((0:Int) ≤0∧(0:Int)< v.1.1.size)) then
let b:=(((((v.1.1[0]?.getD 0).toNat:Nat):Int):Int)==v.1.2.1)
some ((b,v.1.2.1,v.1.1,()),())
else none)
else(some ((false,v.1.2.1,v.1.1,()),()))):Option ((Bool×Int×ByteArray×Unit)×(Unit))).bind fun a=>
bif a.1.1 then(bif (decide (1≤a.1.2.2.1.size∧a.1.2.2.1.size≤a.1.2.2.1.size)) then
some (.inl (((a.1.2.2.1.extract 1 a.1.2.2.1.size),a.1.2.1,()),()))
else none)
else(some (.inr (a.1.2.2,())))
def i236:Abs.Sg:=⟨[0,1],(.dat .str (.dat (.int .u8) .nil)),.nil⟩
def af6:Abs.Sg:=⟨[4],gG,.nil⟩
def Xj(v:((ByteArray×Int×Unit)×(Unit))):Option Fe:=
(aB sW v).bind fun a=>
some a
def abZ:Abs.Spec:=⟨0,i236,af6,Xj⟩
def aaq:Nat→Abs.aW
 |0=>Abs.aW.mk (fun
  |1=>some ⟨[13,1,0],(.dat .bool (.dat (.int .u8) gG)),.nil⟩
  |_=>none) (fun _=>none) (fun
  |1=>some ⟨⟨[0,1],(.dat .str (.dat (.int .u8) .nil)),.nil⟩,(.one (.exit 0) ⟨[0],gG,.nil⟩)⟩
  |_=>none) (fun _ _=>0)
 |_=>{}
theorem aaZ:Abs.aD Tryz.prog 236 abZ:=
 okW (an:=aaq) dZ rfl (by intro v;kernel_rfl)
def afH:Abs.Sg:=⟨[0,1],(.dat .str gG),.nil⟩
def adT:Abs.Sg:=⟨[4],gG,.nil⟩
def Rz(v:((ByteArray×ByteArray×Unit)×(Unit))):Option Fe:=
((bif (v.1.1.toList==ByteArray.empty.toList) then(some ((true,v.1),()))
else(some (((v.1.2.1.toList==ByteArray.empty.toList),v.1),()))):Option ((Bool×ByteArray×ByteArray×Unit)×(Unit))).bind fun a=>
bif a.1.1 then(some ((a.1.2.1,()),()))
else(((bif (((a.1.2.2.1.size:Int):Int)==1) then(bif (decide ((0:Int) ≤0∧(0:Int)< a.1.2.2.1.size)) then
let c:=(decide (((((a.1.2.2.1[0]?.getD 0).toNat:Nat):Int):Int)< 128))
some ((c,a.1.2.2.1,a.1.2.1,()),())
else none)
else(some ((false,a.1.2.2.1,a.1.2.1,()),()))):Option ((Bool×ByteArray×ByteArray×Unit)×(Unit))).bind fun b=>
bif b.1.1 then(bif (decide ((0:Int) ≤0∧(0:Int)< b.1.2.1.size)) then
(Vn ((b.1.2.2.1,(((b.1.2.1[0]?.getD 0).toNat:Nat):Int),()),())).bind fun d=>
bif (decide ((0:Int) ≤0∧(0:Int)< b.1.2.1.size)) then
(Xj ((d.1.1,(((b.1.2.1[0]?.getD 0).toNat:Nat):Int),()),())).bind fun e=>
some e
else none
else none)
else(none))
def aaR:Abs.Spec:=⟨0,afH,adT,Rz⟩
def abE:Nat→Abs.aW
 |0=>Abs.aW.mk (fun
  |3=>some ⟨[21,1,0],(.dat .bool (.dat .str gG)),.nil⟩
  |1=>some ⟨[12,0,1],(.dat .bool (.dat .str gG)),.nil⟩
  |_=>none) (fun _=>none) (fun _=>none) (fun _ _=>0)
 |_=>{}
theorem ab8:Abs.aD Tryz.prog 231 aaR:=
 okW (an:=abE) (bg ab5 (bg aaZ dZ)) rfl (by intro v;kernel_rfl)
def fV(v:((Int×Int×Int×Int×ByteArray×ByteArray×Unit)×(Unit))):Option (((Int×Int×Int×Int×ByteArray×ByteArray×Unit)×(Unit)) ⊕(fH⊕((Int×ByteArray×Unit)×(Unit)))):=
let c:=(decide ((v.1.2.1:Int)< (v.1.2.2.2.2.1.size:Int)))
bif c then(((let d:=(decide ((v.1.1:Int)< (v.1.2.2.2.2.2.1.size:Int)))
bif d then(bif (decide ((0:Int) ≤v.1.1∧(v.1.1:Int)< v.1.2.2.2.2.2.1.size)) then
let e:=(((((v.1.2.2.2.2.2.1[v.1.1.toNat]?.getD 0).toNat:Nat):Int):Int)==42)
some ((e,v.1.2.1,v.1.2.2.2.2.1,v.1.2.2.2.2.2.1,v.1.1,v.1.2.2.1,v.1.2.2.2.1,()),())
else none)
else(some ((false,v.1.2.1,v.1.2.2.2.2.1,v.1.2.2.2.2.2.1,v.1.1,v.1.2.2.1,v.1.2.2.2.1,()),()))):Option ((Bool×Int×ByteArray×ByteArray×Int×Int×Int×Unit)×(Unit))).bind fun a=>
bif a.1.1 then(some (.inl (((aT (a.1.2.2.2.2.1+1)),a.1.2.1,a.1.2.2.2.2.1,a.1.2.1,a.1.2.2.1,a.1.2.2.2.1,()),())))
else(((let f:=(decide ((a.1.2.2.2.2.1:Int)< (a.1.2.2.2.1.size:Int)))
bif f then(bif (decide ((0:Int) ≤a.1.2.2.2.2.1∧(a.1.2.2.2.2.1:Int)< a.1.2.2.2.1.size)) then
let g:=(((((a.1.2.2.2.1[a.1.2.2.2.2.1.toNat]?.getD 0).toNat:Nat):Int):Int)==63)
bif g then(some ((true,a.1.2.2.2.2.2.1,a.1.2.2.2.2.2.2.1,a.1.2.2.1,a.1.2.2.2.1,a.1.2.1,a.1.2.2.2.2.1,()),()))
else(bif (decide ((0:Int) ≤a.1.2.2.2.2.1∧(a.1.2.2.2.2.1:Int)< a.1.2.2.2.1.size)) then
bif (decide ((0:Int) ≤a.1.2.1∧(a.1.2.1:Int)< a.1.2.2.1.size)) then
let h:=(((((a.1.2.2.2.1[a.1.2.2.2.2.1.toNat]?.getD 0).toNat:Nat):Int):Int)==(((a.1.2.2.1[a.1.2.1.toNat]?.getD 0).toNat:Nat):Int))
some ((h,a.1.2.2.2.2.2.1,a.1.2.2.2.2.2.2.1,a.1.2.2.1,a.1.2.2.2.1,a.1.2.1,a.1.2.2.2.2.1,()),())
else none
else none)
else none)
else(some ((false,a.1.2.2.2.2.2.1,a.1.2.2.2.2.2.2.1,a.1.2.2.1,a.1.2.2.2.1,a.1.2.1,a.1.2.2.2.2.1,()),()))):Option ((Bool×Int×Int×ByteArray×ByteArray×Int×Int×Unit)×(Unit))).bind fun b=>
bif b.1.1 then(some (.inl (((aT (b.1.2.2.2.2.2.2.1+1)),(aT (b.1.2.2.2.2.2.1+1)),b.1.2.1,b.1.2.2.1,b.1.2.2.2.1,b.1.2.2.2.2.1,()),())))
else(bif (decide ((b.1.2.1:Int) ≥0)) then(some (.inl (((aT (b.1.2.1+1)),(aT (b.1.2.2.1+1)),b.1.2.1,(aT (b.1.2.2.1+1)),b.1.2.2.2.1,b.1.2.2.2.2.1,()),())))
else(some (.inr (.inl ((false,()),())))))))
else(some (.inr (.inr ((v.1.1,v.1.2.2.2.2.2),()))))
def agM:Abs.Sg:=⟨[0,1],(.dat .str gG),.nil⟩
def agd:Abs.Sg:=⟨[4],dQ,.nil⟩
def TR(v:((ByteArray×ByteArray×Unit)×(Unit))):Option fH:=
(aB fV ((0,0,(-1),0,v.1.2.1,v.1.1,()),())).bind fun b=>
au b (fun c=>(some c)) (fun a=>(bif (decide ((0:Int) ≤a.1.1)) then
bif (decide (a.1.1.toNat≤a.1.2.1.size∧a.1.2.1.size≤a.1.2.1.size)) then
(Rz (((a.1.2.1.extract a.1.1.toNat a.1.2.1.size),(bs [42]),()),())).bind fun d=>
some (((d.1.1.toList==ByteArray.empty.toList),()),())
else none
else none))
def adk:Abs.Spec:=⟨0,agM,agd,TR⟩
def aci:Nat→Abs.aW
 |0=>Abs.aW.mk (fun
  |7=>some ⟨[28,7,8,1,0,6,5],(.dat .bool (.dat (.int .i64) (.dat (.int .i64) (.dat .str (.dat .str nk))))),.nil⟩
  |4=>some ⟨[13,6,1,0,5,7,8],(.dat .bool (.dat (.int .i64) (.dat .str (.dat .str EM)))),.nil⟩
  |_=>none) (fun _=>none) (fun
  |2=>some ⟨⟨[5,6,7,8,1,0],(.dat (.int .i64) (.dat (.int .i64) (.dat (.int .i64) (.dat (.int .i64) (.dat .str gG))))),.nil⟩,(.more .ret ⟨[4],dQ,.nil⟩ (.one (.exit 0) ⟨[5,0],IQ,.nil⟩))⟩
  |_=>none) (fun _ _=>0)
 |_=>{}
theorem acJ:Abs.aD Tryz.prog 225 adk:=
 okW (an:=aci) (bg ab8 dZ) rfl (by intro v;kernel_rfl)
def i206:Abs.Sg:=⟨[0,1],(.dat JK jX),.nil⟩
def ah8:Abs.Sg:=⟨[4],dQ,.nil⟩
def WW(v:((Ke×bW×Unit)×(Unit))):Option fH:=
(Qu ((v.1.2.1,v.1.1.1,()),())).bind fun a=>
bif ((v.1.1.2.1:Int)==0) then(some (((a.1.1.toList==v.1.1.2.2.1.toList),()),()))
else(bif ((v.1.1.2.1:Int)==1) then(some (((!(a.1.1.toList==v.1.1.2.2.1.toList)),()),()))
else(bif ((v.1.1.2.1:Int)==2) then((TR ((v.1.1.2.2.1,a.1),())).bind fun b=>
some b)
else(bif ((v.1.1.2.1:Int)==3) then((TR ((v.1.1.2.2.1,a.1),())).bind fun c=>
some (((!c.1.1),()),()))
else(some ((false,()),())))))
def acN:Abs.Spec:=⟨0,i206,ah8,WW⟩
def aaK:Nat→Abs.aW
 |_=>{}
theorem ab6:Abs.aD Tryz.prog 206 acN:=
 okW (an:=aaK) (bg XV (bg acJ dZ)) rfl (by intro v;kernel_rfl)
def qf(v:((Int×Y4×Int×Unit)×((bW×Unit)×Unit))):Option (((Int×Y4×Int×Unit)×((bW×Unit)×Unit)) ⊕(((Int×Unit)×((bW×Unit)×Unit)) ⊕((Unit)×((bW×Unit)×Unit)))):=
bif (decide ((v.1.1:Int)< v.1.2.2.1)) then(Abs.rowAt v.1.2.1 v.1.1 fun a _=>
(WW ((a,v.2.1),())).bind fun b=>
bif (!b.1.1) then(some (.inr (.inl ((v.1.1,()),v.2))))
else(some (.inl (((aT (v.1.1+1)),v.1.2),v.2))))
else(some (.inr (.inr ((),v.2))))
def afw:Abs.Sg:=⟨[0,1],(.dat Z2 jX),.nil⟩
def agi:Abs.Sg:=⟨[4],dQ,.nil⟩
def KJ(v:((Y4×bW×Unit)×(Unit))):Option fH:=
(((aB qf ((0,v.1.1,(v.1.1.length:Int),()),v.1.2,())).bind fun b=>
au b (fun a=>(some (((decide ((a.1.1:Int) ≥0)),()),a.2))) (fun c=>(some ((false,()),c.2)))):Option ((Bool×Unit)×((bW×Unit)×Unit))).bind fun d=>
some (((!d.1.1),()),())
def XP:Abs.Spec:=⟨0,afw,agi,KJ⟩
def acY:Nat→Abs.aW
 |0=>Abs.aW.mk (fun _=>none) (fun _=>none) (fun _=>none) (fun
  |1,2=>1
  |_,_=>0)
 |1=>Abs.aW.mk (fun
  |1=>some ⟨[4],dQ,(.box 1 jX .nil)⟩
  |_=>none) (fun _=>none) (fun _=>none) (fun
  |1,2=>2
  |_,_=>0)
 |2=>Abs.aW.mk (fun _=>none) (fun _=>none) (fun
  |2=>some ⟨⟨[8,0,1,7],(.dat (.int .i64) (.dat Z2 (.st (.clo 205 [((0,0),1,0,0)]) bn))),(.box 1 jX .nil)⟩,(.more .ret ⟨[4],bn,(.box 1 jX .nil)⟩ (.one (.exit 0) ⟨[],.nil,(.box 1 jX .nil)⟩))⟩
  |_=>none) (fun
  |4,5=>3
  |_,_=>0)
 |_=>{}
theorem Sm:Abs.aD Tryz.prog 169 XP:=
 okW (an:=acY) (bg ab6 dZ) rfl (by intro v;kernel_rfl)
def yA(v:((Int×Int×Bool×bW×Int×eF×Int×Unit)×(Unit))):Option (((Int×Int×Bool×bW×Int×eF×Int×Unit)×(Unit)) ⊕((Bool×Int×Unit)×(Unit))):=
bif (decide ((v.1.1:Int)< v.1.2.2.2.2.2.2.1)) then(((Abs.rowAt v.1.2.2.2.2.2.1 v.1.1 fun b _=>
((bif (decide ((b.2.1:Int) ≤v.1.2.2.2.2.1)) then(bif (decide ((v.1.2.2.2.2.1:Int)< b.2.2.1)) then((KJ ((b.2.2.2.2.1,v.1.2.2.2.1,()),())).bind fun d=>
bif d.1.1 then(bif (!v.1.2.2.1) then(some ((true,v.1.2.2.2.1,v.1.2.2.2.2.1,v.1.2.2.2.2.2.1,v.1.2.2.2.2.2.2.1,v.1.1,v.1.2.1,v.1.2.2.1,()),(b,()),()))
else(some (((decide ((b.1:Int)< v.1.2.1)),v.1.2.2.2.1,v.1.2.2.2.2.1,v.1.2.2.2.2.2.1,v.1.2.2.2.2.2.2.1,v.1.1,v.1.2.1,v.1.2.2.1,()),(b,()),())))
else(some ((false,v.1.2.2.2.1,v.1.2.2.2.2.1,v.1.2.2.2.2.2.1,v.1.2.2.2.2.2.2.1,v.1.1,v.1.2.1,v.1.2.2.1,()),(b,()),())))
else(some ((false,v.1.2.2.2.1,v.1.2.2.2.2.1,v.1.2.2.2.2.2.1,v.1.2.2.2.2.2.2.1,v.1.1,v.1.2.1,v.1.2.2.1,()),(b,()),())))
else(some ((false,v.1.2.2.2.1,v.1.2.2.2.2.1,v.1.2.2.2.2.2.1,v.1.2.2.2.2.2.2.1,v.1.1,v.1.2.1,v.1.2.2.1,()),(b,()),()))):Option ((Bool×bW×Int×eF×Int×Int×Int×Bool×Unit)×((Ma×Unit)×Unit))).bind fun a=>
bif a.1.1 then(some ((a.2.1.1.1,true,a.1.2.1,a.1.2.2.1,a.1.2.2.2.1,a.1.2.2.2.2.1,a.1.2.2.2.2.2.1,()),()))
else(some ((a.1.2.2.2.2.2.2.1,a.1.2.2.2.2.2.2.2.1,a.1.2.1,a.1.2.2.1,a.1.2.2.2.1,a.1.2.2.2.2.1,a.1.2.2.2.2.2.1,()),()))):Option ((Int×Bool×bW×Int×eF×Int×Int×Unit)×(Unit))).bind fun c=>
some (.inl (((aT (c.1.2.2.2.2.2.2.1+1)),c.1.1,c.1.2.1,c.1.2.2.1,c.1.2.2.2.1,c.1.2.2.2.2.1,c.1.2.2.2.2.2.1,()),())))
else(some (.inr ((v.1.2.2.1,v.1.2.1,()),())))
def ahf:Abs.Sg:=⟨[0,1,2],(.dat (.row Z6) (.dat (.row iE) bn)),.nil⟩
def afg:Abs.Sg:=⟨[6,7],(.dat (.int .i64) dQ),.nil⟩
def Xm(v:((eF×bW×Int×Unit)×(Unit))):Option ((Int×Bool×Unit)×(Unit)):=
(aB yA ((0,0,false,v.1.2.1,v.1.2.2.1,v.1.1,(v.1.1.length:Int),()),())).bind fun a=>
some ((a.1.2.1,a.1.1,()),())
def aaE:Abs.Spec:=⟨0,ahf,afg,Xm⟩
def acv:Nat→Abs.aW
 |0=>Abs.aW.mk (fun
  |4=>some ⟨[41,1,2,10,11,12,9,6,7],(.dat .bool (.dat (.row iE) (.dat (.int .i64) (.dat (.row Z6) (.dat (.int .i64) (.dat (.int .i64) (.st fI (.dat (.int .i64) dQ)))))))),(.box 5 (.dat Z6 .nil) .nil)⟩
  |_=>none) (fun
  |6=>some (⟨[6,7,1,2,10,11,12],(.dat (.int .i64) (.dat .bool (.dat (.row iE) (.dat (.int .i64) (.dat (.row Z6) nk))))),.nil⟩,none)
  |_=>none) (fun
  |2=>some ⟨⟨[12,6,7,1,2,10,11],(.dat (.int .i64) (.dat (.int .i64) (.dat .bool (.dat (.row iE) (.dat (.int .i64) (.dat (.row Z6) bn)))))),.nil⟩,(.one (.exit 0) ⟨[7,6],(.dat .bool bn),.nil⟩)⟩
  |_=>none) (fun _ _=>0)
 |_=>{}
theorem adi:Abs.aD Tryz.prog 214 aaE:=
 okW (an:=acv) (bg Sm dZ) rfl (by intro v;kernel_rfl)
def pO(v:((Int×(List ByteArray)×Int×Unit)×((bW×Unit)×(bW×Unit)×Unit))):Option (((Int×(List ByteArray)×Int×Unit)×((bW×Unit)×(bW×Unit)×Unit)) ⊕(((Int×Unit)×((bW×Unit)×(bW×Unit)×Unit)) ⊕((Unit)×((bW×Unit)×(bW×Unit)×Unit)))):=
bif (decide ((v.1.1:Int)< v.1.2.2.1)) then(Abs.rowAt v.1.2.1 v.1.1 fun a _=>
(Qu ((v.2.1.1,a,()),())).bind fun b=>
(Qu ((v.2.2.1.1,a,()),())).bind fun c=>
bif (!(b.1.1.toList==c.1.1.toList)) then(some (.inr (.inl ((v.1.1,()),v.2))))
else(some (.inl (((aT (v.1.1+1)),v.1.2),v.2))))
else(some (.inr (.inr ((),v.2))))
def i229:Abs.Sg:=⟨[0,1,2],(.dat (.row iE) (.dat (.row iE) FK)),.nil⟩
def ah2:Abs.Sg:=⟨[6],dQ,.nil⟩
def Vj(v:((bW×bW×(List ByteArray)×Unit)×(Unit))):Option fH:=
(((aB pO ((0,v.1.2.2.1,(v.1.2.2.1.length:Int),()),(v.1.1,()),(v.1.2.1,()),())).bind fun b=>
au b (fun a=>(some (((decide ((a.1.1:Int) ≥0)),()),a.2))) (fun c=>(some ((false,()),c.2)))):Option ((Bool×Unit)×((bW×Unit)×(bW×Unit)×Unit))).bind fun d=>
some (((!d.1.1),()),())
def adr:Abs.Spec:=⟨0,i229,ah2,Vj⟩
def acp:Nat→Abs.aW
 |0=>Abs.aW.mk (fun _=>none) (fun _=>none) (fun _=>none) (fun
  |1,2=>1
  |_,_=>0)
 |1=>Abs.aW.mk (fun
  |1=>some ⟨[4],dQ,(.box 1 jX (.box 1 jX .nil))⟩
  |_=>none) (fun _=>none) (fun _=>none) (fun
  |1,2=>2
  |_,_=>0)
 |2=>Abs.aW.mk (fun _=>none) (fun _=>none) (fun
  |2=>some ⟨⟨[8,0,1,7],(.dat (.int .i64) (.dat (.row .str) (.st (.clo 235 [((0,0),1,0,0),((1,0),1,0,0)]) bn))),(.box 1 jX (.box 1 jX .nil))⟩,(.more .ret ⟨[4],bn,(.box 1 jX (.box 1 jX .nil))⟩ (.one (.exit 0) ⟨[],.nil,(.box 1 jX (.box 1 jX .nil))⟩))⟩
  |_=>none) (fun
  |4,5=>3
  |_,_=>0)
 |_=>{}
theorem adt:Abs.aD Tryz.prog 229 adr:=
 okW (an:=acp) (bg XV dZ) rfl (by intro v;kernel_rfl)
def pW(v:((Int×bW×(List bW)×(List bW)×(List kU)×Int×Int×Int×Unit)×((kU×Unit)×Unit))):Option (((Int×bW×(List bW)×(List bW)×(List kU)×Int×Int×Int×Unit)×((kU×Unit)×Unit)) ⊕(fH⊕((bW×(List bW)×(List kU)×Int×Int×Unit)×(Unit)))):=
bif (decide ((v.1.1:Int)< v.1.2.2.2.2.2.2.2.1)) then(Abs.rowAt v.1.2.2.1 v.1.1 fun b _=>
(((KJ ((v.2.1.1.1,b,()),())).bind fun c=>
bif c.1.1 then((KJ ((v.2.1.1.2.1,b,()),())).bind fun d=>
bif (!d.1.1) then((Vj ((v.1.2.1,b,v.2.1.1.2.2),())).bind fun e=>
some ((e.1.1,v.1.2.1,v.1.2.2.1,v.1.2.2.2.1,v.1.2.2.2.2.1,v.1.2.2.2.2.2.1,v.1.2.2.2.2.2.2.1,v.1.2.2.2.2.2.2.2.1,v.1.1,()),v.2))
else(some ((false,v.1.2.1,v.1.2.2.1,v.1.2.2.2.1,v.1.2.2.2.2.1,v.1.2.2.2.2.2.1,v.1.2.2.2.2.2.2.1,v.1.2.2.2.2.2.2.2.1,v.1.1,()),v.2)))
else(some ((false,v.1.2.1,v.1.2.2.1,v.1.2.2.2.1,v.1.2.2.2.2.1,v.1.2.2.2.2.2.1,v.1.2.2.2.2.2.2.1,v.1.2.2.2.2.2.2.2.1,v.1.1,()),v.2))):Option ((Bool×bW×(List bW)×(List bW)×(List kU)×Int×Int×Int×Int×Unit)×((kU×Unit)×Unit))).bind fun a=>
bif a.1.1 then(some (.inr (.inl ((true,()),()))))
else(some (.inl (((aT (a.1.2.2.2.2.2.2.2.2.1+1)),a.1.2.1,a.1.2.2.1,a.1.2.2.2.1,a.1.2.2.2.2.1,a.1.2.2.2.2.2.1,a.1.2.2.2.2.2.2.1,a.1.2.2.2.2.2.2.2.1,()),a.2))))
else(some (.inr (.inr ((v.1.2.1,v.1.2.2.2.1,v.1.2.2.2.2.1,v.1.2.2.2.2.2.1,v.1.2.2.2.2.2.2.1,()),()))))
def rQ(v:((Int×bW×(List bW)×(List kU)×Int×Unit)×(Unit))):Option (((Int×bW×(List bW)×(List kU)×Int×Unit)×(Unit)) ⊕(fH⊕((Unit)×(Unit)))):=
bif (decide ((v.1.1:Int)< v.1.2.2.2.2.1)) then(((Abs.rowAt v.1.2.2.2.1 v.1.1 fun b _=>
(KJ ((b.2.1,v.1.2.1,()),())).bind fun c=>
bif (!c.1.1) then(some (.inl ((v.1.2.1,v.1.2.2.1,v.1.2.2.2.1,v.1.2.2.2.2.1,v.1.1,()),())))
else((aB pW ((0,v.1.2.1,v.1.2.2.1,v.1.2.2.1,v.1.2.2.2.1,v.1.2.2.2.2.1,v.1.1,(v.1.2.2.1.length:Int),()),(b,()),())).bind fun d=>
au d (fun e=>(some (.inr e))) (fun f=>(some (.inl f))))):Option (((bW×(List bW)×(List kU)×Int×Int×Unit)×(Unit)) ⊕fH)).bind fun g=>
au g (fun a=>(some (.inl (((aT (a.1.2.2.2.2.1+1)),a.1.1,a.1.2.1,a.1.2.2.1,a.1.2.2.2.1,()),())))) (fun h=>(some (.inr (.inl h)))))
else(some (.inr (.inr ((),()))))
def ahF:Abs.Sg:=⟨[0,1,2],(.dat (.row qo) (.dat (.row iE) (.dat (.row (.row iE)) .nil))),.nil⟩
def aeb:Abs.Sg:=⟨[6],dQ,.nil⟩
def Vl(v:(((List kU)×bW×(List bW)×Unit)×(Unit))):Option fH:=
(aB rQ ((0,v.1.2.1,v.1.2.2.1,v.1.1,(v.1.1.length:Int),()),())).bind fun a=>
au a (fun b=>(some b)) (fun c=>(some ((false,()),())))
def adn:Abs.Spec:=⟨0,ahF,aeb,Vl⟩
def acX:Nat→Abs.aW
 |0=>Abs.aW.mk (fun
  |8=>some ⟨[45,8,1,22,2,11,12,13,23,24],(.dat .bool (.st zV (.dat (.row iE) (.dat (.row (.row iE)) (.dat (.row (.row iE)) (.dat (.row qo) (.dat (.int .i64) EM))))))),(.box 3 (.dat qo .nil) .nil)⟩
  |_=>none) (fun
  |11=>some (⟨[1,2,11,12,13],(.dat (.row iE) (.dat (.row (.row iE)) (.dat (.row qo) nk))),.nil⟩,some (.one .ret ⟨[6],dQ,.nil⟩))
  |_=>none) (fun
  |2=>some ⟨⟨[13,1,2,11,12],(.dat (.int .i64) (.dat (.row iE) (.dat (.row (.row iE)) (.dat (.row qo) bn)))),.nil⟩,(.more .ret ⟨[6],dQ,.nil⟩ (.one (.exit 0) ⟨[],.nil,.nil⟩))⟩
  |6=>some ⟨⟨[24,8,1,22,2,11,12,13,23],(.dat (.int .i64) (.st zV (.dat (.row iE) (.dat (.row (.row iE)) (.dat (.row (.row iE)) (.dat (.row qo) EM)))))),(.box 3 (.dat qo .nil) .nil)⟩,(.more .ret ⟨[6],dQ,.nil⟩ (.one (.exit 2) ⟨[1,2,11,12,13],(.dat (.row iE) (.dat (.row (.row iE)) (.dat (.row qo) nk))),.nil⟩))⟩
  |_=>none) (fun _ _=>0)
 |_=>{}
theorem abW:Abs.aD Tryz.prog 215 adn:=
 okW (an:=acX) (bg Sm (bg adt dZ)) rfl (by intro v;kernel_rfl)
def aht:Abs.Sg:=⟨[0,1,2,3,4],(.dat (.row qo) (.dat (.row Z6) (.dat (.row iE) (.dat (.row (.row iE)) bn)))),.nil⟩
def agC:Abs.Sg:=⟨[10],dQ,.nil⟩
def Vi(v:(((List kU)×eF×bW×(List bW)×Int×Unit)×(Unit))):Option fH:=
(Xm ((v.1.2.1,v.1.2.2.1,v.1.2.2.2.2),())).bind fun a=>
((bif a.1.2.1 then(some ((true,()),()))
else((Vl ((v.1.1,v.1.2.2.1,v.1.2.2.2.1,()),())).bind fun b=>
some b)):Option fH).bind fun c=>
some c
def abw:Abs.Spec:=⟨0,aht,agC,Vi⟩
def aaL:Nat→Abs.aW
 |0=>Abs.aW.mk (fun
  |2=>some ⟨[10],dQ,.nil⟩
  |_=>none) (fun _=>none) (fun _=>none) (fun _ _=>0)
 |_=>{}
theorem aaC:Abs.aD Tryz.prog 185 abw:=
 okW (an:=aaL) (bg adi (bg abW dZ)) rfl (by intro v;kernel_rfl)
def yE(v:((Int×(List ByteArray)×ByteArray×Int×Unit)×(Unit))):Option (((Int×(List ByteArray)×ByteArray×Int×Unit)×(Unit)) ⊕(((Int×Unit)×(Unit)) ⊕((Unit)×(Unit)))):=
bif (decide ((v.1.1:Int)< v.1.2.2.2.1)) then(Abs.rowAt v.1.2.1 v.1.1 fun a _=>
bif (v.1.2.2.1.toList==a.toList) then(some (.inr (.inl ((v.1.1,()),()))))
else(some (.inl (((aT (v.1.1+1)),v.1.2),()))))
else(some (.inr (.inr ((),()))))
def afD:Abs.Sg:=⟨[0,1],(.dat (.row .str) gG),.nil⟩
def aef:Abs.Sg:=⟨[4],bn,.nil⟩
def V5(v:(((List ByteArray)×ByteArray×Unit)×(Unit))):Option ((Int×Unit)×(Unit)):=
(aB yE ((0,v.1.1,v.1.2.1,(v.1.1.length:Int),()),())).bind fun a=>
au a (fun b=>(some b)) (fun c=>(some (((-1),()),())))
def adp:Abs.Spec:=⟨0,afD,aef,V5⟩
def acs:Nat→Abs.aW
 |0=>Abs.aW.mk (fun _=>none) (fun _=>none) (fun
  |2=>some ⟨⟨[8,0,1,7],(.dat (.int .i64) (.dat (.row .str) (.dat .str bn))),.nil⟩,(.more .ret ⟨[4],bn,.nil⟩ (.one (.exit 0) ⟨[],.nil,.nil⟩))⟩
  |_=>none) (fun _ _=>0)
 |_=>{}
theorem abn:Abs.aD Tryz.prog 211 adp:=
 okW (an:=acs) dZ rfl (by intro v;kernel_rfl)
def afb:Abs.Sg:=⟨[0,1],(.dat (.row .str) gG),.nil⟩
def afA:Abs.Sg:=⟨[4],dQ,.nil⟩
def JB(v:(((List ByteArray)×ByteArray×Unit)×(Unit))):Option fH:=
(V5 v).bind fun a=>
some (((decide ((a.1.1:Int) ≥0)),()),())
def abz:Abs.Spec:=⟨0,afb,afA,JB⟩
def abF:Nat→Abs.aW
 |_=>{}
theorem XB:Abs.aD Tryz.prog 172 abz:=
 okW (an:=abF) (bg abn dZ) rfl (by intro v;kernel_rfl)
def adU:Abs.Sg:=⟨[0],(.dat Z7 .nil),.nil⟩
def agA:Abs.Sg:=⟨[2],dQ,.nil⟩
def Zo(v:((Y9×Unit)×(Unit))):Option fH:=
some (((!v.1.1.2.2.2.2.2.1),()),())
def abB:Abs.Spec:=⟨0,adU,agA,Zo⟩
def ac7:Nat→Abs.aW
 |_=>{}
theorem ac0:Abs.aD Tryz.prog 184 abB:=
 okW (an:=ac7) dZ rfl (by intro v;kernel_rfl)
def tX(v:((Int×Bool×(List ByteArray)×Int×Int×Unit)×((List Y9)×wF×wF×(Y8×Unit)×jF×(List ByteArray)×(List ByteArray)×Unit))):Option (((Int×Bool×(List ByteArray)×Int×Int×Unit)×((List Y9)×wF×wF×(Y8×Unit)×jF×(List ByteArray)×(List ByteArray)×Unit)) ⊕((Bool×Int×Unit)×((List Y9)×wF×wF×(Y8×Unit)×jF×(List ByteArray)×(List ByteArray)×Unit))):=
bif (decide ((v.1.1:Int)< v.1.2.2.2.2.1)) then(((bif (decide ((0:Int) ≤v.1.1∧(v.1.1:Int)< v.2.1.length)) then
(v.2.1[v.1.1.toNat]?).bind fun a=>
(JB ((v.1.2.2.1,a.1,()),())).bind fun c=>
bif c.1.1 then(some ((v.1.2.1,v.1.2.2.1,v.1.2.2.2.1,v.1.2.2.2.2.1,v.1.1,()),v.2))
else(bif a.2.2.2.2.1 then(bif (decide (v.2.2.2.2.2.2.1.length+ [a.1].length≤4294967296)) then
((bif v.1.2.1 then(some ((true,v.1.2.2.1,v.1.2.2.2.1,v.1.2.2.2.2.1,v.1.1,()),v.2.1,v.2.2.1,v.2.2.2.1,v.2.2.2.2.1,v.2.2.2.2.2.1,(v.2.2.2.2.2.2.1++ [a.1]),v.2.2.2.2.2.2.2))
else(some (((!a.2.2.2.2.2.1),v.1.2.2.1,v.1.2.2.2.1,v.1.2.2.2.2.1,v.1.1,()),v.2.1,v.2.2.1,v.2.2.2.1,v.2.2.2.2.1,v.2.2.2.2.2.1,(v.2.2.2.2.2.2.1++ [a.1]),v.2.2.2.2.2.2.2))):Option ((Bool×(List ByteArray)×Int×Int×Int×Unit)×((List Y9)×wF×wF×(Y8×Unit)×jF×(List ByteArray)×(List ByteArray)×Unit))).bind fun d=>
some d
else none)
else(bif (decide (v.2.2.2.2.2.2.2.1.length+ [a.1].length≤4294967296)) then
some ((v.1.2.1,v.1.2.2.1,v.1.2.2.2.1,v.1.2.2.2.2.1,v.1.1,()),v.2.1,v.2.2.1,v.2.2.2.1,v.2.2.2.2.1,v.2.2.2.2.2.1,v.2.2.2.2.2.2.1,(v.2.2.2.2.2.2.2.1++ [a.1]),())
else none))
else none):Option ((Bool×(List ByteArray)×Int×Int×Int×Unit)×((List Y9)×wF×wF×(Y8×Unit)×jF×(List ByteArray)×(List ByteArray)×Unit))).bind fun b=>
some (.inl (((aT (b.1.2.2.2.2.1+1)),b.1.1,b.1.2.1,b.1.2.2.1,b.1.2.2.2.1,()),b.2)))
else(some (.inr ((v.1.2.1,v.1.2.2.2.1,()),v.2.1,v.2.2.2.1,v.2.2.1,v.2.2.2.2)))
def j6(v:((Int×Int×Unit)×UG)):Option (((Int×Int×Unit)×UG) ⊕(((Int×Unit)×UG) ⊕((Unit)×UG))):=
bif (decide ((v.1.1:Int)< v.1.2.1)) then(bif (decide ((0:Int) ≤v.1.1∧(v.1.1:Int)< v.2.1.length)) then
(v.2.1[v.1.1.toNat]?).bind fun a=>
(JB ((v.2.2.2.2.1,a.1,()),())).bind fun b=>
bif (decide (v.2.2.2.1.length=v.2.2.2.1.length)&&(decide (v.2.2.2.2.1.length=v.2.2.2.2.1.length)&&true)) then
bif b.1.1 then(some (.inr (.inl ((v.1.1,()),v.2))))
else(some (.inl (((aT (v.1.1+1)),v.1.2),v.2)))
else none
else none)
else(some (.inr (.inr ((),v.2))))
def ni(v:((Int×Int×Unit)×UG)):Option (((Int×Int×Unit)×UG) ⊕((Int×Unit)×UG)):=
let c:=(decide ((v.1.1:Int)< ((v.2.1.length:Nat):Int)))
bif c then(((bif (decide ((0:Int) ≤v.1.1∧(v.1.1:Int)< v.2.1.length)) then
(v.2.1[v.1.1.toNat]?).bind fun b=>
(JB ((v.2.2.2.2.1,b.1,()),())).bind fun d=>
bif (decide (v.2.2.2.1.length=v.2.2.2.1.length)&&(decide (v.2.2.2.2.1.length=v.2.2.2.2.1.length)&&true)) then
bif (!d.1.1) then(bif (decide ((0:Int) ≤v.1.2.1∧(v.1.2.1:Int)< v.2.1.length)) then
bif (decide (v.1.2.1.toNat< v.2.1.length)) then
some (((aT (v.1.2.1+1)),v.1.1,()),(v.2.1.set v.1.2.1.toNat b),v.2.2)
else none
else none)
else(some ((v.1.2.1,v.1.1,()),v.2))
else none
else none):Option ((Int×Int×Unit)×UG)).bind fun a=>
some (.inl (((aT (a.1.2.1+1)),a.1.1,()),a.2)))
else(some (.inr (v.1.2,v.2)))
def oW(v:((Int×(Nat×Nat)×Bool×Int×Int×Unit)×(wF×((Int×ByteArray×(Nat×Nat)×Int×Int×Unit)×Unit)×(List Y9)×jF×wF×(Y8×Unit)×(List ByteArray)×(List ByteArray)×Unit))):Option (((Int×(Nat×Nat)×Bool×Int×Int×Unit)×(wF×((Int×ByteArray×(Nat×Nat)×Int×Int×Unit)×Unit)×(List Y9)×jF×wF×(Y8×Unit)×(List ByteArray)×(List ByteArray)×Unit)) ⊕((Bool×Int×Unit)×(jF×wF×wF×((Int×ByteArray×(Nat×Nat)×Int×Int×Unit)×Unit)×(Y8×Unit)×(List ByteArray)×(List ByteArray)×(List Y9)×Unit))):=
bif (decide ((v.1.1:Int)< v.1.2.2.2.2.1)) then(bif (decide ((0:Int) ≤v.1.1∧(v.1.1:Int)< v.1.2.1.2)) then
(v.2.2.2.1[(v.1.2.1.1+v.1.1.toNat)]?).bind fun d=>
((bif d.2.2.2.2.2.1 then(bif (decide ((0:Int) ≤v.1.1∧(v.1.1:Int)< v.2.2.1.1.2.2.1.2)) then
(v.2.2.2.1[(v.2.2.1.1.2.2.1.1+v.1.1.toNat)]?).bind fun b=>
some ((v.1.2.1,v.1.2.2.1,v.1.2.2.2.1,v.1.2.2.2.2.1,v.1.1,()),v.2.1,v.2.2.1,(v.2.2.2.1.set (v.2.2.1.1.2.2.1.1+v.1.1.toNat) (b.1,b.2.1,b.2.2.1,b.2.2.2.1,b.2.2.2.2.1,true,())),v.2.2.2.2)
else none)
else((JB ((v.2.2.2.2.2.2.2.1,d.1,()),())).bind fun e=>
bif (decide ((0:Int) ≤v.1.1∧(v.1.1:Int)< v.2.2.1.1.2.2.1.2)) then
(v.2.2.2.1[(v.2.2.1.1.2.2.1.1+v.1.1.toNat)]?).bind fun c=>
some ((v.1.2.1,v.1.2.2.1,v.1.2.2.2.1,v.1.2.2.2.2.1,v.1.1,()),v.2.1,v.2.2.1,(v.2.2.2.1.set (v.2.2.1.1.2.2.1.1+v.1.1.toNat) (c.1,c.2.1,c.2.2.1,c.2.2.2.1,c.2.2.2.2.1,e.1)),v.2.2.2.2)
else none)):Option (((Nat×Nat)×Bool×Int×Int×Int×Unit)×(wF×((Int×ByteArray×(Nat×Nat)×Int×Int×Unit)×Unit)×(List Y9)×jF×wF×(Y8×Unit)×(List ByteArray)×(List ByteArray)×Unit))).bind fun a=>
some (.inl (((aT (a.1.2.2.2.2.1+1)),a.1.1,a.1.2.1,a.1.2.2.1,a.1.2.2.2.1,()),a.2))
else none)
else(some (.inr ((v.1.2.2.1,v.1.2.2.2.1,()),v.2.2.2.2.1,v.2.2.2.2.2.1,v.2.1,v.2.2.1,v.2.2.2.2.2.2.1,v.2.2.2.2.2.2.2.1,v.2.2.2.2.2.2.2.2.1,v.2.2.2.1,())))
def uQ(v:((Int×(List Y9)×Int×Unit)×(Unit))):Option (((Int×(List Y9)×Int×Unit)×(Unit)) ⊕(((Int×Unit)×(Unit)) ⊕((Unit)×(Unit)))):=
bif (decide ((v.1.1:Int)< v.1.2.2.1)) then(Abs.rowAt v.1.2.1 v.1.1 fun a _=>
(Zo ((a,()),())).bind fun b=>
bif b.1.1 then(some (.inr (.inl ((v.1.1,()),()))))
else(some (.inl (((aT (v.1.1+1)),v.1.2),()))))
else(some (.inr (.inr ((),()))))
def ah6:Abs.Sg:=⟨[0,1,2,3],(.dat Z1 (.dat Z5 (.dat (.int .i64) FK))),.nil⟩
def adQ:Abs.Sg:=⟨[8,9,10,11],(.st fI (.st AQ (.dat .bool bn))),(.box 5 (.agg (.dat (.int .i64) (.dat .str (.part Z7 (2,0) nk))) .nil) (.box 6 (.agg (.dat (.int .i64) (.dat (.int .i64) (.dat (.int .i64) (.dat .str (.st (.own .str (3,0)) (.st (.own .str (4,0)) .nil)))))) .nil) (.arr Z7 false Ik)))⟩
def Wy(v:((Y3×Y8×Int×(List ByteArray)×Unit)×(Unit))):Option ((Bool×Int×Unit)×(((Int×ByteArray×(Nat×Nat)×Int×Int×Unit)×Unit)×wF×(List Y9)×(List ByteArray)×(List ByteArray)×Unit)):=
(((Y1 ((v.1.1,()),())).bind fun s=>
bif (!s.1.1) then(some ((true,v.1.2.2),((0,ByteArray.empty,0,0,()),()),((0,0,0,ByteArray.empty,()),()),(v.1.1,()),(v.1.2.1,()),()))
else((QU ((v.1.2.1,()),())).bind fun t=>
some (((!t.1.1),v.1.2.2),((0,ByteArray.empty,0,0,()),()),((0,0,0,ByteArray.empty,()),()),(v.1.1,()),(v.1.2.1,()),()))):Option ((Bool×Int×(List ByteArray)×Unit)×(jF×wF×(Y3×Unit)×(Y8×Unit)×Unit))).bind fun h=>
bif h.1.1 then(some ((false,8,()),((0,ByteArray.empty,(0,0),0,0,()),()),((0,0,0,ByteArray.empty,()),()),[],[],[],()))
else((Er ((h.1.2.1,0,8589934592,()),())).bind fun u=>
bif (!u.1.1) then(some ((false,1,()),((0,ByteArray.empty,(0,0),0,0,()),()),((0,0,0,ByteArray.empty,()),()),[],[],[],()))
else((MP (h.2.2.2.1,())).bind fun m=>
((bif ((m.2.1.1.2.2.1:Int)==(-1)) then(some ((true,h.1.2),h.2.1,h.2.2.1,m.2.1,h.2.2.2.2.1,m.2.2))
else(some (((decide ((m.2.1.1.2.2.1:Int)>h.1.2.1)),h.1.2),h.2.1,h.2.2.1,m.2.1,h.2.2.2.2.1,m.2.2))):Option ((Bool×Int×(List ByteArray)×Unit)×(jF×wF×jF×(Y8×Unit)×(List Y9)×Unit))).bind fun a=>
bif a.1.1 then(some ((false,0,()),((a.2.2.2.1.1.1,a.2.2.2.1.1.2.1,(0,a.2.2.2.2.2.1.length),a.2.2.2.1.1.2.2),()),((0,0,0,ByteArray.empty,()),()),a.2.2.2.2.2.1,[],[],()))
else((aB tX ((0,false,a.1.2.2.1,a.1.2.1,((a.2.2.2.2.2.1.length:Nat):Int),()),a.2.2.2.2.2.1,((a.1.2.1,a.2.2.2.1.1.1,a.2.2.2.2.1.1.2.2.1,a.2.2.2.1.1.2.1,()),()),((0,0,0,ByteArray.empty,()),()),a.2.2.2.2.1,a.2.2.2.1,[],[],())).bind fun e=>
((let w:=(decide ((((e.2.2.2.2.2.2.1.length:Nat):Int):Int)>0))
bif w then(bif ((e.2.2.2.2.2.1.1.2.2.2.1:Int) !=(-1)) then(let x:=(aT (e.2.2.2.2.2.1.1.2.2.2.1+e.2.2.2.2.1.1.2.2.2.2.2.2.1))
some (((decide ((x:Int) ≤e.1.2.1)),e.1.1,()),e.2.1,e.2.2.1,e.2.2.2.1,e.2.2.2.2.2.2))
else(some ((false,e.1.1,()),e.2.1,e.2.2.1,e.2.2.2.1,e.2.2.2.2.2.2)))
else(some ((false,e.1.1,()),e.2.1,e.2.2.1,e.2.2.2.1,e.2.2.2.2.2.2))):Option ((Bool×Bool×Unit)×((List Y9)×wF×wF×(List ByteArray)×(List ByteArray)×Unit))).bind fun l=>
((bif l.1.2.1 then(some ((true,()),l.2.1,l.2.2.2))
else(bif l.1.1 then(some ((true,()),l.2.1,l.2.2.2))
else(let y:=(decide ((((l.2.2.2.2.2.1.length:Nat):Int):Int)>0))
some ((y,()),l.2.1,l.2.2.2)))):Option ((Bool×Unit)×UG)).bind fun d=>
bif (decide (d.2.1.length=a.2.2.2.2.2.1.length)&&true) then
((bif d.1.1 then((((((aB j6 ((0,((d.2.1.length:Nat):Int),()),d.2)).bind fun z=>
au z (fun n=>(bif (decide (n.2.1.length=d.2.1.length)&&(decide (n.2.2.2.1.length=d.2.2.2.1.length)&&(decide (n.2.2.2.2.1.length=d.2.2.2.2.1.length)&&true))) then
some n
else none)) (fun o=>(bif (decide (o.2.1.length=d.2.1.length)&&(decide (o.2.2.2.1.length=d.2.2.2.1.length)&&(decide (o.2.2.2.2.1.length=d.2.2.2.2.1.length)&&true))) then
some (((-1),()),o.2)
else none))):Option ((Int×Unit)×UG)).bind fun j=>
bif ((j.1.1:Int)==(-1)) then(bif (decide (j.2.1.length=d.2.1.length)&&(decide (j.2.2.2.1.length=d.2.2.2.1.length)&&(decide (j.2.2.2.2.1.length=d.2.2.2.2.1.length)&&true))) then
some ((d.1.1,a.1.2.1,()),j.2.2.1,((a.2.2.2.1.1.1,a.2.2.2.1.1.2.1,(0,j.2.1.length),a.2.2.2.1.1.2.2.1,a.1.2.1,()),()),a.2.1,a.2.2.1,a.2.2.2.2.1,j.2.2.2.1,j.2.2.2.2.1,j.2.1,())
else none)
else((aB ni (((aT (j.1.1+1)),j.1),j.2)).bind fun b=>
bif (decide ((0:Int) ≤b.1.1)) then
bif (decide (b.1.1.toNat≤b.2.1.length∧b.2.1.length≤b.2.1.length)) then
bif (decide (b.1.1.toNat+(b.2.1.length - b.1.1.toNat) ≤b.2.1.length)) then
let p:=(bU b.2.1 b.1.1.toNat (List.replicate (b.2.1.length - b.1.1.toNat) ((ByteArray.empty,[],0,0,false,false,()):Y9)))
bif (decide ((0:Int) ≤b.1.1)) then
bif (decide (0≤b.1.1.toNat∧b.1.1.toNat≤p.length)) then
bif (decide (p.length=d.2.1.length)&&(decide (b.2.2.2.1.length=d.2.2.2.1.length)&&(decide (b.2.2.2.2.1.length=d.2.2.2.2.1.length)&&true))) then
some ((d.1.1,a.1.2.1,()),b.2.2.1,((a.2.2.2.1.1.1,a.2.2.2.1.1.2.1,(0,b.1.1.toNat),a.2.2.2.1.1.2.2.1,a.1.2.1,()),()),a.2.1,a.2.2.1,a.2.2.2.2.1,b.2.2.2.1,b.2.2.2.2.1,p,())
else none
else none
else none
else none
else none
else none)):Option ((Bool×Int×Unit)×(wF×((Int×ByteArray×(Nat×Nat)×Int×Int×Unit)×Unit)×jF×wF×(Y8×Unit)×(List ByteArray)×(List ByteArray)×(List Y9)×Unit))).bind fun k=>
(aB oW ((0,k.2.2.1.1.2.2.1,k.1.1,k.1.2.1,((k.2.2.1.1.2.2.1.2:Nat):Int),()),k.2.1,k.2.2.1,k.2.2.2.2.2.2.2.2.1,k.2.2.2.1,k.2.2.2.2.1,k.2.2.2.2.2.1,k.2.2.2.2.2.2.1,k.2.2.2.2.2.2.2.1,())).bind fun aa=>
some aa)
else(some ((d.1.1,a.1.2.1,()),a.2.1,a.2.2.1,((0,0,0,ByteArray.empty,()),()),((a.2.2.2.1.1.1,a.2.2.2.1.1.2.1,(0,d.2.1.length),a.2.2.2.1.1.2.2),()),a.2.2.2.2.1,[],[],d.2.1,()))):Option ((Bool×Int×Unit)×(jF×wF×wF×((Int×ByteArray×(Nat×Nat)×Int×Int×Unit)×Unit)×(Y8×Unit)×(List ByteArray)×(List ByteArray)×(List Y9)×Unit))).bind fun f=>
bif (decide (f.2.2.2.2.1.1.2.2.1.1+f.2.2.2.2.1.1.2.2.1.2≤f.2.2.2.2.2.2.2.2.1.length)) then
(((aB uQ ((0,((f.2.2.2.2.2.2.2.2.1.drop f.2.2.2.2.1.1.2.2.1.1).take f.2.2.2.2.1.1.2.2.1.2),(((f.2.2.2.2.2.2.2.2.1.drop f.2.2.2.2.1.1.2.2.1.1).take f.2.2.2.2.1.1.2.2.1.2).length:Int),()),())).bind fun ab=>
au ab (fun ac=>(some (((decide ((ac.1.1:Int) ≥0)),()),()))) (fun ai=>(some ((false,()),())))):Option fH).bind fun ad=>
let q:=(aT (f.2.2.2.2.1.1.2.2.2.2.1+f.2.2.2.2.2.1.1.2.2.2.2.2.2.1))
((((bif ad.1.1 then(some ((true,f.1.1,f.1.2.1,q,()),f.2))
else(some (((decide ((q:Int) ≤f.1.2.1)),f.1.1,f.1.2.1,q,()),f.2))):Option ((Bool×Bool×Int×Int×Unit)×(jF×wF×wF×((Int×ByteArray×(Nat×Nat)×Int×Int×Unit)×Unit)×(Y8×Unit)×(List ByteArray)×(List ByteArray)×(List Y9)×Unit))).bind fun g=>
bif g.1.1 then(let ae:=(aT (g.1.2.2.1+g.2.2.2.2.2.1.1.2.2.2.2.2.1))
some ((g.1.2.1,g.1.2.2.1,ae,()),g.2.1,g.2.2.1,g.2.2.2.1,g.2.2.2.2.1,g.2.2.2.2.2.2))
else(some (g.1.2,g.2.1,g.2.2.1,g.2.2.2.1,g.2.2.2.2.1,g.2.2.2.2.2.2))):Option ((Bool×Int×Int×Unit)×(jF×wF×wF×((Int×ByteArray×(Nat×Nat)×Int×Int×Unit)×Unit)×(List ByteArray)×(List ByteArray)×(List Y9)×Unit))).bind fun c=>
let af:=(if((aT (c.1.2.1+1)):Int)>c.1.2.2.1 then(aT (c.1.2.1+1)) else c.1.2.2.1)
(Kl ((af,()),())).bind fun ag=>
((let ah:=((((c.2.2.2.2.1.1.2.2.1.2:Nat):Int):Int)==0)
bif (decide (c.2.2.2.2.2.2.2.1.length=c.2.2.2.2.2.2.2.1.length)&&true) then
bif ah then(some ((),c.2.2.2.2.2.2.2.1,((0,ByteArray.empty,0,0,()),()),((c.2.2.2.2.1.1.1,c.2.2.2.2.1.1.2.1,c.2.2.2.2.1.1.2.2.1,(-1),c.2.2.2.2.1.1.2.2.2.2),()),()))
else(some ((),c.2.2.2.2.2.2.2.1,((0,ByteArray.empty,0,0,()),()),((c.2.2.2.2.1.1.1,c.2.2.2.2.1.1.2.1,c.2.2.2.2.1.1.2.2.1,ag.1.1,c.2.2.2.2.1.1.2.2.2.2),()),()))
else none):Option ((Unit)×((List Y9)×jF×((Int×ByteArray×(Nat×Nat)×Int×Int×Unit)×Unit)×Unit))).bind fun r=>
bif (decide (r.2.1.length=c.2.2.2.2.2.2.2.1.length)&&true) then
some ((c.1.1,0,()),r.2.2.2.1,c.2.2.2.1,r.2.1,c.2.2.2.2.2.1,c.2.2.2.2.2.2.1,())
else none
else none
else none)))
def abl:Abs.Spec:=⟨0,ah6,adQ,Wy⟩
def aaX:Nat→Abs.aW
 |0=>Abs.aW.mk (fun
  |20=>some ⟨[101,8,9,13,12,4,2,5,17],(.dat .bool (.st fI (.st AQ (.dat .bool (.st (.ptr (2,0) 6 0 0) (.st (.ptr (3,0) 5 0 0) (.dat (.int .i64) (.st (.ptr (4,0) 8 0 0) bn)))))))),Zi⟩
  |15=>some ⟨[12,4,65,8,9,13,2,5,66,67],(.st (.ptr (0,0) 6 0 0) (.st qM (.part Z7 (2,0) (.st (.ptr (3,0) 5 0 0) (.st (.ptr (4,0) 6 0 0) (.dat .bool (.dat (.int .i64) (.st (.ptr (5,0) 8 0 0) nk)))))))),(.box 6 (.agg (.dat (.int .i64) (.dat (.int .i64) (.dat (.int .i64) (.dat .str (.st (.own .str (6,0)) (.st (.own .str (7,0)) .nil)))))) .nil) (.box 5 (.agg (.dat (.int .i64) (.dat .str (.part Z7 (2,0) nk))) .nil) (.arr Z7 false (.box 5 Ju (.box 6 Rj (.box 8 mV Ik))))))⟩
  |11=>some ⟨[12,4,8,9,13,2,5],(.st (.ptr (0,0) 6 0 0) (.st qM (.st Aw (.st (.ptr (3,0) 6 0 0) (.dat .bool (.dat (.int .i64) (.st (.ptr (4,0) 8 0 0) .nil))))))),(.box 6 PN (.box 5 (.agg (.dat (.int .i64) (.dat .str (.part Z7 (7,0) nk))) .nil) (.box 5 Ju (.box 6 Rj (.box 8 mV (.arr .str false (.arr .str false (.arr Z7 false .nil))))))))⟩
  |6=>some ⟨[45,8,9,4,2,5,3],(.dat .bool (.st fI (.st AQ (.st Aw (.dat (.int .i64) (.st (.ptr (3,0) 8 0 0) FK)))))),(.box 5 Ju (.box 6 Rj (.box 5 (.agg (.dat (.int .i64) (.dat .str (.st (.own Z7 (4,0)) nk))) .nil) (.box 8 mV (.arr Z7 false .nil)))))⟩
  |1=>some ⟨[18,8,9,4,2,5,3],(.dat .bool (.st fI (.st AQ (.st Aw (.dat (.int .i64) (.st (.ptr (3,0) 8 0 0) FK)))))),(.box 5 Ju (.box 6 Rj (.box 5 (.dat Z1 .nil) (.box 8 mV .nil))))⟩
  |_=>none) (fun
  |22=>some (⟨[8,9,13,12,4,2,17],(.st fI (.st AQ (.dat .bool (.st (.ptr (2,0) 6 0 0) (.st (.ptr (3,0) 5 0 0) nk))))),(.box 5 Ju (.box 6 Rj (.box 6 ahK (.box 5 (.agg (.dat (.int .i64) (.dat .str (.part Z7 (6,0) nk))) .nil) (.arr .str false (.arr .str false (.arr Z7 false .nil)))))))⟩,none)
  |18=>some (⟨[8,9,13,12,4,2,5],(.st fI (.st AQ (.dat .bool (.st (.ptr (2,0) 6 0 0) (.st (.ptr (3,0) 5 0 0) (.dat (.int .i64) (.st (.ptr (4,0) 8 0 0) .nil))))))),Zi⟩,none)
  |_=>none) (fun
  |13=>some ⟨⟨[67,12,4,65,8,9,13,2,5,66],(.dat (.int .i64) (.st (.ptr (0,0) 6 0 0) (.st qM (.part Z7 (2,0) (.st (.ptr (3,0) 5 0 0) (.st (.ptr (4,0) 6 0 0) (.dat .bool (.dat (.int .i64) (.st (.ptr (5,0) 8 0 0) bn))))))))),(.box 6 (.agg (.dat (.int .i64) (.dat (.int .i64) (.dat (.int .i64) (.dat .str (.st (.own .str (6,0)) (.st (.own .str (7,0)) .nil)))))) .nil) (.box 5 (.agg (.dat (.int .i64) (.dat .str (.part Z7 (2,0) nk))) .nil) (.arr Z7 false (.box 5 Ju (.box 6 Rj (.box 8 mV Ik))))))⟩,(.one (.exit 1) ⟨[8,9,13,12,4,2,5],(.st fI (.st AQ (.dat .bool (.st (.ptr (2,0) 6 0 0) (.st (.ptr (3,0) 5 0 0) (.dat (.int .i64) (.st (.ptr (4,0) 8 0 0) .nil))))))),Zi⟩)⟩
  |_=>none) (fun
  |23,1=>8
  |18,2=>6
  |11,3=>2
  |8,4=>1
  |_,_=>0)
 |1=>Abs.aW.mk (fun
  |13=>some ⟨[8,9],(.st AQ dQ),(.arr Z7 false Ya)⟩
  |12=>some ⟨[8,10,14,11],(.st AQ (.st (.ptr (2,0) 6 0 0) (.dat .bool dQ))),(.arr Z7 false (.box 6 Rj (.box 6 (.agg (.dat (.int .i64) (.dat (.int .i64) (.dat (.int .i64) (.dat .str (.st (.own .str (3,0)) (.st (.own .str (4,0)) .nil)))))) .nil) Ik)))⟩
  |10=>some ⟨[11,10,3,24,8,2,5,4,25,26],(.dat .bool (.st AQ (.dat (.row .str) (.st (.own Z7 (0,0)) (.st (.ptr (2,0) 6 0 0) (.dat (.int .i64) (.st (.ptr (3,0) 8 0 0) (.st (.ptr (4,0) 5 0 0) nk)))))))),(.arr Z7 false (.box 6 PN (.box 6 Rj (.box 8 mV (.box 5 Qx Ik)))))⟩
  |_=>none) (fun
  |11=>some (⟨[11,10,3,24,8,2,5,4,25,26],(.dat .bool (.st AQ (.dat (.row .str) (.st (.own Z7 (0,0)) (.st (.ptr (2,0) 6 0 0) (.dat (.int .i64) (.st (.ptr (3,0) 8 0 0) (.st (.ptr (4,0) 5 0 0) nk)))))))),(.arr Z7 false (.box 6 PN (.box 6 Rj (.box 8 mV (.box 5 Qx Ik)))))⟩,none)
  |_=>none) (fun
  |4=>some ⟨⟨[26,11,10,3,24,8,2,5,4,25],(.dat (.int .i64) (.dat .bool (.st AQ (.dat (.row .str) (.st (.own Z7 (0,0)) (.st (.ptr (2,0) 6 0 0) (.dat (.int .i64) (.st (.ptr (3,0) 8 0 0) (.st (.ptr (4,0) 5 0 0) bn))))))))),(.arr Z7 false (.box 6 PN (.box 6 Rj (.box 8 mV (.box 5 Qx Ik)))))⟩,(.one (.exit 0) ⟨[8,10,11,2,5,4],(.st AQ (.st (.ptr (2,0) 6 0 0) (.dat .bool (.dat (.int .i64) (.st (.ptr (3,0) 8 0 0) (.st (.ptr (4,0) 5 0 0) .nil)))))),(.arr Z7 false (.box 6 Rj (.box 6 PN (.box 8 mV (.box 5 Qx Ik)))))⟩)⟩
  |_=>none) (fun _ _=>0)
 |2=>Abs.aW.mk (fun
  |1=>some ⟨[0,5,1],(.st (.own Z7 (0,0)) (.dat (.int .i64) (.st (.clo 183 [((1,0),6,0,0)]) .nil))),(.arr Z7 false Ya)⟩
  |_=>none) (fun
  |6=>some (⟨[5,0,1,6],(.dat (.int .i64) (.st (.own Z7 (0,0)) (.st (.clo 183 [((1,0),6,0,0)]) bn))),(.arr Z7 false Ya)⟩,none)
  |_=>none) (fun
  |5=>some ⟨⟨[6,5,0,1],(.dat (.int .i64) (.dat (.int .i64) (.st (.own Z7 (0,0)) (.st (.clo 183 [((1,0),6,0,0)]) .nil)))),(.arr Z7 false Ya)⟩,(.one (.exit 0) ⟨[5,0],(.dat (.int .i64) (.st (.own Z7 (0,0)) .nil)),(.arr Z7 false Ya)⟩)⟩
  |_=>none) (fun
  |8,2=>5
  |1,2=>3
  |_,_=>0)
 |3=>Abs.aW.mk (fun _=>none) (fun _=>none) (fun
  |2=>some ⟨⟨[8,0,1,7],(.dat (.int .i64) (.st (.own Z7 (0,0)) (.st (.clo 183 [((1,0),6,0,0)]) bn))),(.arr Z7 false Ya)⟩,(.more .ret ⟨[4],bn,(.arr Z7 false Ya)⟩ (.one (.exit 0) ⟨[],.nil,(.arr Z7 false Ya)⟩))⟩
  |_=>none) (fun
  |4,5=>4
  |_,_=>0)
 |6=>Abs.aW.mk (fun
  |1=>some ⟨[4],dQ,.nil⟩
  |_=>none) (fun _=>none) (fun _=>none) (fun
  |1,2=>7
  |_,_=>0)
 |7=>Abs.aW.mk (fun _=>none) (fun _=>none) (fun
  |2=>some ⟨⟨[8,0,1,7],(.dat (.int .i64) (.dat (.row Z7) (.st (.clo 184 []) bn))),.nil⟩,(.more .ret ⟨[4],bn,.nil⟩ (.one (.exit 0) ⟨[],.nil,.nil⟩))⟩
  |_=>none) (fun _ _=>0)
 |8=>Abs.aW.mk (fun _=>none) (fun
  |3=>some (⟨[2,1],(.st qM (.st Aw .nil)),(.arr Z7 false (.box 5 Ju (.box 5 (.agg (.dat (.int .i64) (.dat .str (.part Z7 (0,0) nk))) .nil) .nil)))⟩,none)
  |_=>none) (fun _=>none) (fun
  |1,1=>9
  |_,_=>0)
 |_=>{}
theorem adf:Abs.aD Tryz.prog 134 abl:=
 okW (an:=aaX) (bg Xp (bg SE (bg Lh (bg O7 (bg XB (bg ac0 (bg TF dZ))))))) rfl (by intro v;kernel_rfl)
def i83:Abs.Sg:=⟨[0,1,2],(.dat Tv (.dat Z1 bn)),.nil⟩
def o83:Abs.Sg:=⟨[6],dQ,.nil⟩
def UX(v:((lK×Y3×Int×Unit)×(Unit))):Option fH:=
(((YB ((v.1.2.1,()),())).bind fun a=>
bif a.1.1 then(bif ((v.1.2.1.2.2.2.2.1:Int)==(-1)) then(some ((true,()),()))
else(Abs.rowAt v.1.1.1 v.1.2.1.1 fun b _=>
let c:=(decide (((aT (v.1.2.1.2.2.2.2.1+b.2.2.2.2.2.1)):Int) ≤v.1.2.2.1))
some ((c,()),())))
else(some ((false,()),()))):Option fH).bind fun d=>
some d
def aft:Abs.Spec:=⟨0,i83,o83,UX⟩
def ahG:Nat→Abs.aW
 |0=>Abs.aW.mk (fun
  |1=>some ⟨[6],dQ,.nil⟩
  |_=>none) (fun _=>none) (fun _=>none) (fun _ _=>0)
 |_=>{}
theorem Zl:Abs.aD Tryz.prog 83 aft:=
 okW (an:=ahG) (bg aa4 dZ) rfl (by intro v;kernel_rfl)
def zh(v:((Int×Int×Int×Unit)×((lK×Unit)×j4×(List Y3)×j4×eF×Unit))):Option (((Int×Int×Int×Unit)×((lK×Unit)×j4×(List Y3)×j4×eF×Unit)) ⊕((Int×Unit)×(j4×(lK×Unit)×j4×(List Y3)×eF×Unit))):=
bif (decide ((v.1.1:Int)< v.1.2.2.1)) then(bif (decide ((0:Int) ≤v.1.1∧(v.1.1:Int)< v.2.2.2.1.length)) then
(v.2.2.2.1[v.1.1.toNat]?).bind fun b=>
Abs.rowAt v.2.1.1.1 b.1 fun c _=>
(UO ((b,c,v.1.2.1,v.2.1.1.2.2),())).bind fun a=>
bif (decide ((0:Int) ≤v.1.1∧(v.1.1:Int)< v.2.2.2.1.length)) then
bif (decide (v.1.1.toNat< v.2.2.2.1.length)) then
some (.inl (((aT (v.1.1+1)),v.1.2),v.2.1,v.2.2.1,(v.2.2.2.1.set v.1.1.toNat (a.2.1.1.1,a.2.1.1.2.1,a.2.2.1,a.2.1.1.2.2)),v.2.2.2.2))
else none
else none
else none)
else(some (.inr ((v.1.2.1,()),v.2.2.1,v.2.1,v.2.2.2.2.1,v.2.2.2.1,v.2.2.2.2.2)))
def xW(v:((Int×(List bW)×(List Y9)×Int×Unit)×((List Y3)×eF×(List ByteArray)×j4×(lK×Unit)×Unit))):Option (((Int×(List bW)×(List Y9)×Int×Unit)×((List Y3)×eF×(List ByteArray)×j4×(lK×Unit)×Unit)) ⊕((Unit)×((List Y3)×eF×(List ByteArray)×Unit))):=
bif (decide ((v.1.1:Int)< v.1.2.2.2.1)) then(((Abs.rowAt v.1.2.2.1 v.1.1 fun b _=>
(Vi ((v.2.2.2.2.2.1.1.2.1,v.2.2.1,b.2.1,v.1.2.1,v.2.2.2.2.1.1.1,()),())).bind fun c=>
bif c.1.1 then(bif (decide (v.2.2.2.1.length+ [b.1].length≤4294967296)) then
some ((v.1.2.1,v.1.2.2.1,v.1.2.2.2.1,v.1.1,()),v.2.1,v.2.2.1,(v.2.2.2.1++ [b.1]),v.2.2.2.2)
else none)
else(some ((v.1.2.1,v.1.2.2.1,v.1.2.2.2.1,v.1.1,()),v.2))):Option (((List bW)×(List Y9)×Int×Int×Unit)×((List Y3)×eF×(List ByteArray)×j4×(lK×Unit)×Unit))).bind fun a=>
some (.inl (((aT (a.1.2.2.2.1+1)),a.1.1,a.1.2.1,a.1.2.2.1,()),a.2)))
else(some (.inr ((),v.2.1,v.2.2.1,v.2.2.2.1,())))
def rT(v:((Int×(List bW)×Int×Int×Unit)×((List FN)×j4×(lK×Unit)×(List Y3)×j4×eF×Unit))):Option (((Int×(List bW)×Int×Int×Unit)×((List FN)×j4×(lK×Unit)×(List Y3)×j4×eF×Unit)) ⊕((Unit)×(j4×(List FN)×j4×(lK×Unit)×(List Y3)×eF×Unit))):=
bif (decide ((v.1.1:Int)< v.1.2.2.2.1)) then(((bif (decide ((0:Int) ≤v.1.1∧(v.1.1:Int)< v.2.2.2.2.1.length)) then
(v.2.2.2.2.1[v.1.1.toNat]?).bind fun d=>
Abs.rowAt v.2.2.2.1.1.1 d.1 fun e _=>
(aB xW ((0,v.1.2.1,d.2.2.1,(d.2.2.1.length:Int),()),v.2.2.2.2.1,v.2.2.2.2.2.2.1,[],v.2.2.1,v.2.2.2.1,())).bind fun b=>
bif (decide (b.2.1.length=v.2.2.2.2.1.length)&&(decide (b.2.2.1.length=v.2.2.2.2.2.2.1.length)&&true)) then
(Wy ((d,e,v.1.2.2.1,b.2.2.2),())).bind fun a=>
bif (decide ((0:Int) ≤v.1.1∧(v.1.1:Int)< b.2.1.length)) then
bif (decide (a.2.1.1.2.2.1.1+a.2.1.1.2.2.1.2≤a.2.2.2.1.length)) then
bif (decide (v.1.1.toNat< b.2.1.length)) then
bif a.1.1 then(bif (decide (v.2.1.length+([(a.2.2.1.1.1,a.2.2.1.1.2.1,a.2.2.1.1.2.2.1,a.2.2.1.1.2.2.2.1,a.2.2.2.2)]:List FN).length≤4294967296)) then
let f:=(v.2.1++([(a.2.2.1.1.1,a.2.2.1.1.2.1,a.2.2.1.1.2.2.1,a.2.2.1.1.2.2.2.1,a.2.2.2.2)]:List FN))
some ((v.1.2.1,v.1.2.2.1,v.1.2.2.2.1,v.1.1,()),f,v.2.2.1,v.2.2.2.1,(b.2.1.set v.1.1.toNat (a.2.1.1.1,a.2.1.1.2.1,((a.2.2.2.1.drop a.2.1.1.2.2.1.1).take a.2.1.1.2.2.1.2),a.2.1.1.2.2.2)),v.2.2.2.2.2.1,b.2.2.1,())
else none)
else(some ((v.1.2.1,v.1.2.2.1,v.1.2.2.2.1,v.1.1,()),v.2.1,v.2.2.1,v.2.2.2.1,(b.2.1.set v.1.1.toNat (a.2.1.1.1,a.2.1.1.2.1,((a.2.2.2.1.drop a.2.1.1.2.2.1.1).take a.2.1.1.2.2.1.2),a.2.1.1.2.2.2)),v.2.2.2.2.2.1,b.2.2.1,()))
else none
else none
else none
else none
else none):Option (((List bW)×Int×Int×Int×Unit)×((List FN)×j4×(lK×Unit)×(List Y3)×j4×eF×Unit))).bind fun c=>
some (.inl (((aT (c.1.2.2.2.1+1)),c.1.1,c.1.2.1,c.1.2.2.1,()),c.2)))
else(some (.inr ((),v.2.2.2.2.2.1,v.2.1,v.2.2.1,v.2.2.2.1,v.2.2.2.2.1,v.2.2.2.2.2.2)))
def qH(v:((Int×Int×Unit)×JI)):Option (((Int×Int×Unit)×JI) ⊕(((Int×Unit)×JI) ⊕((Unit)×JI))):=
bif (decide ((v.1.1:Int)< v.1.2.1)) then(bif (decide ((0:Int) ≤v.1.1∧(v.1.1:Int)< v.2.1.length)) then
(v.2.1[v.1.1.toNat]?).bind fun a=>
(UX ((v.2.2.1.1,a,v.2.2.2.1.1.1,()),())).bind fun b=>
bif (decide (v.2.1.length=v.2.1.length)&&(decide (v.2.2.2.2.1.length=v.2.2.2.2.1.length)&&true)) then
bif b.1.1 then(some (.inr (.inl ((v.1.1,()),v.2))))
else(some (.inl (((aT (v.1.1+1)),v.1.2),v.2)))
else none
else none)
else(some (.inr (.inr ((),v.2))))
def vD(v:((Int×Int×Unit)×JI)):Option (((Int×Int×Unit)×JI) ⊕((Int×Unit)×JI)):=
let c:=(decide ((v.1.1:Int)< ((v.2.1.length:Nat):Int)))
bif c then(((bif (decide ((0:Int) ≤v.1.1∧(v.1.1:Int)< v.2.1.length)) then
(v.2.1[v.1.1.toNat]?).bind fun b=>
(UX ((v.2.2.1.1,b,v.2.2.2.1.1.1,()),())).bind fun d=>
bif (decide (v.2.1.length=v.2.1.length)&&(decide (v.2.2.2.2.1.length=v.2.2.2.2.1.length)&&true)) then
bif (!d.1.1) then(bif (decide ((0:Int) ≤v.1.2.1∧(v.1.2.1:Int)< v.2.1.length)) then
bif (decide (v.1.2.1.toNat< v.2.1.length)) then
some (((aT (v.1.2.1+1)),v.1.1,()),(v.2.1.set v.1.2.1.toNat b),v.2.2)
else none
else none)
else(some ((v.1.2.1,v.1.1,()),v.2))
else none
else none):Option ((Int×Int×Unit)×JI)).bind fun a=>
some (.inl (((aT (a.1.2.1+1)),a.1.1,()),a.2)))
else(some (.inr (v.1.2,v.2)))
def i75:Abs.Sg:=⟨[0,1,2],(.dat Tv (.dat XA bn)),.nil⟩
def o75:Abs.Sg:=⟨[6,7],(.st gN (.st (.own JL (1,0)) .nil)),ZG⟩
def ZX(v:((lK×(Int×(List Y3)×eF×Int×Unit)×Int×Unit)×(Unit))):Option ((Unit)×(((Int×(Nat×Nat)×Int×Unit)×Unit)×(List FN)×(List Y3)×eF×Unit)):=
(m64 ((v.1.2.1,()),())).bind fun f=>
(aB zh ((0,v.1.2.2.1,((f.2.2.1.length:Nat):Int),()),(v.1.1,()),((v.1.2.2.1,f.2.1.1.2),()),f.2.2.1,((0,0,()),()),f.2.2.2)).bind fun c=>
bif (vW c.2.2.2.2.1) then
bif (decide (c.2.2.2.2.1.length=c.2.2.2.2.1.length)&&(decide (c.2.2.2.2.2.1.length=c.2.2.2.2.2.1.length)&&true)) then
(aB rT ((0,(o6 c.2.2.2.2.1),c.1.1,((c.2.2.2.2.1.length:Nat):Int),()),[],c.2.1,c.2.2.1,c.2.2.2.2.1,c.2.2.2.1,c.2.2.2.2.2)).bind fun b=>
(((((aB qH ((0,((b.2.2.2.2.2.1.length:Nat):Int),()),b.2.2.2.2.2.1,b.2.2.2.2.1,b.2.2.2.1,b.2.2.2.2.2.2)).bind fun k=>
au k (fun g=>(bif (decide (g.2.1.length=b.2.2.2.2.2.1.length)&&(decide (g.2.2.2.2.1.length=b.2.2.2.2.2.2.1.length)&&true)) then
some g
else none)) (fun h=>(bif (decide (h.2.1.length=b.2.2.2.2.2.1.length)&&(decide (h.2.2.2.2.1.length=b.2.2.2.2.2.2.1.length)&&true)) then
some (((-1),()),h.2)
else none))):Option ((Int×Unit)×JI)).bind fun d=>
bif ((d.1.1:Int)==(-1)) then(bif (decide (d.2.1.length=b.2.2.2.2.2.1.length)&&(decide (d.2.2.2.2.1.length=b.2.2.2.2.2.2.1.length)&&true)) then
some ((),d.2.1,d.2.2.2.2.1,((0,0,()),()),((d.2.2.2.1.1.1,(0,d.2.1.length),d.2.2.2.1.1.2),()),())
else none)
else((aB vD (((aT (d.1.1+1)),d.1),d.2)).bind fun a=>
bif (decide ((0:Int) ≤a.1.1)) then
bif (decide (a.1.1.toNat≤a.2.1.length∧a.2.1.length≤a.2.1.length)) then
bif (decide (a.1.1.toNat+(a.2.1.length - a.1.1.toNat) ≤a.2.1.length)) then
let j:=(bU a.2.1 a.1.1.toNat (List.replicate (a.2.1.length - a.1.1.toNat) ((0,ByteArray.empty,[],0,0,()):Y3)))
bif (decide ((0:Int) ≤a.1.1)) then
bif (decide (0≤a.1.1.toNat∧a.1.1.toNat≤j.length)) then
bif (decide (j.length=b.2.2.2.2.2.1.length)&&(decide (a.2.2.2.2.1.length=b.2.2.2.2.2.2.1.length)&&true)) then
some ((),j,a.2.2.2.2.1,((0,0,()),()),((a.2.2.2.1.1.1,(0,a.1.1.toNat),a.2.2.2.1.1.2),()),())
else none
else none
else none
else none
else none
else none)):Option ((Unit)×((List Y3)×eF×j4×((Int×(Nat×Nat)×Int×Unit)×Unit)×Unit))).bind fun e=>
bif (decide (e.2.1.length=b.2.2.2.2.2.1.length)&&(decide (e.2.2.1.length=b.2.2.2.2.2.2.1.length)&&true)) then
some ((),e.2.2.2.2.1,b.2.2.1,e.2.1,e.2.2.1,())
else none
else none
else none
def aeo:Abs.Spec:=⟨0,i75,o75,ZX⟩
def aeU:Nat→Abs.aW
 |0=>Abs.aW.mk (fun _=>none) (fun
  |17=>some (⟨[11,4,10,3,2,52,6,53,54],(.st (.own JL (0,0)) (.st q9 (.dat (.row (.row iE)) (.st (.ptr (2,0) 3 0 0) (.dat (.int .i64) (.st (.own Z1 (3,0)) (.st (.ptr (4,0) 4 0 0) nk))))))),(.arr JL false (.box 4 (.agg (.dat (.int .i64) (.st (.own Z1 (3,0)) (.st (.own Z6 (5,0)) bn))) .nil) (.box 3 oH (.arr Z1 false (.box 4 qF qY)))))⟩,none)
  |_=>none) (fun
  |11=>some ⟨⟨[54,11,4,10,3,2,52,6,53],(.dat (.int .i64) (.st (.own JL (0,0)) (.st q9 (.dat (.row (.row iE)) (.st (.ptr (2,0) 3 0 0) (.dat (.int .i64) (.st (.own Z1 (3,0)) (.st (.ptr (4,0) 4 0 0) bn)))))))),(.arr JL false (.box 4 (.agg (.dat (.int .i64) (.st (.own Z1 (3,0)) (.st (.own Z6 (5,0)) bn))) .nil) (.box 3 oH (.arr Z1 false (.box 4 qF qY)))))⟩,(.one (.exit 2) ⟨[6,11,4,3],(.st gN (.st (.own JL (1,0)) (.st (.ptr (2,0) 4 0 0) (.st (.ptr (3,0) 3 0 0) .nil)))),(.box 4 qF (.arr JL false (.box 4 (.agg (.dat (.int .i64) (.st (.own Z1 (4,0)) (.st (.own Z6 (5,0)) bn))) .nil) (.box 3 oH (.arr Z1 false qY)))))⟩)⟩
  |4=>some ⟨⟨[25,3,2,4,23,6,24],(.dat (.int .i64) (.st zV (.dat (.int .i64) (.st q9 (.st (.own Z1 (2,0)) (.st (.ptr (3,0) 4 0 0) bn)))))),(.box 3 oH (.box 4 (.agg (.dat (.int .i64) (.st (.own Z1 (2,0)) (.st (.own Z6 (4,0)) bn))) .nil) (.arr Z1 false (.box 4 qF qY))))⟩,(.one (.exit 0) ⟨[4,3,2,6],(.st gN (.st (.ptr (1,0) 3 0 0) (.dat (.int .i64) (.st (.ptr (2,0) 4 0 0) .nil)))),(.box 4 (.agg (.dat (.int .i64) (.st (.own Z1 (3,0)) (.st (.own Z6 (4,0)) bn))) .nil) (.box 3 oH (.box 4 qF (.arr Z1 false qY))))⟩)⟩
  |_=>none) (fun
  |18,2=>2
  |13,12=>1
  |_,_=>0)
 |1=>Abs.aW.mk (fun _=>none) (fun
  |7=>some (⟨[9,5,3,4,13,14,15],(.st (.own .str (2,0)) (.st (.ptr (3,0) 4 0 0) (.dat (.row (.row iE)) (.st (.ptr (4,0) 3 0 0) (.dat (.row Z7) nk))))),(.arr Z1 false (.arr Z6 false (.arr .str false (.box 4 (.agg (.dat (.int .i64) (.st (.own Z1 (0,0)) (.st (.own Z6 (1,0)) bn))) .nil) (.box 3 oH .nil)))))⟩,none)
  |_=>none) (fun
  |3=>some ⟨⟨[15,9,5,3,4,13,14],(.dat (.int .i64) (.st (.own .str (2,0)) (.st (.ptr (3,0) 4 0 0) (.dat (.row (.row iE)) (.st (.ptr (4,0) 3 0 0) (.dat (.row Z7) bn)))))),(.arr Z1 false (.arr Z6 false (.arr .str false (.box 4 (.agg (.dat (.int .i64) (.st (.own Z1 (0,0)) (.st (.own Z6 (1,0)) bn))) .nil) (.box 3 oH .nil)))))⟩,(.one (.exit 0) ⟨[9],(.st (.own .str (2,0)) .nil),(.arr Z1 false (.arr Z6 false (.arr .str false .nil)))⟩)⟩
  |_=>none) (fun _ _=>0)
 |2=>Abs.aW.mk (fun
  |1=>some ⟨[4,3],(.st (.ptr (2,0) 4 0 0) (.st (.ptr (3,0) 4 0 0) .nil)),(.arr Z1 false (.arr Z6 false (.box 4 qF (.box 4 (.agg (.dat (.int .i64) (.part Z1 (0,0) (.st (.own Z6 (1,0)) bn))) .nil) .nil))))⟩
  |_=>none) (fun _=>none) (fun _=>none) (fun
  |1,3=>3
  |_,_=>0)
 |3=>Abs.aW.mk (fun
  |1=>some ⟨[0,5,1],(.st (.own Z1 (0,0)) (.dat (.int .i64) Xd)),Om⟩
  |_=>none) (fun
  |6=>some (⟨[5,0,1,6],Xq,Om⟩,none)
  |_=>none) (fun
  |5=>some ⟨⟨[6,5,0,1],(.dat (.int .i64) (.dat (.int .i64) (.st (.own Z1 (0,0)) Xd))),Om⟩,(.one (.exit 0) ⟨[5,0],(.dat (.int .i64) (.st (.own Z1 (0,0)) .nil)),Om⟩)⟩
  |_=>none) (fun
  |8,2=>6
  |1,2=>4
  |_,_=>0)
 |4=>Abs.aW.mk (fun _=>none) (fun _=>none) (fun
  |2=>some ⟨⟨[8,0,1,7],Xq,Om⟩,(.more .ret ⟨[4],bn,Om⟩ (.one (.exit 0) ⟨[],.nil,Om⟩))⟩
  |_=>none) (fun
  |4,5=>5
  |_,_=>0)
 |_=>{}
theorem aak:Abs.aD Tryz.prog 75 aeo:=
 okW (an:=aeU) (bg Vy (bg abd (bg aaC (bg adf (bg Zl dZ))))) rfl (by intro v;kernel_rfl)
def uK(v:((Int×Y4×Int×Unit)×(Unit))):Option (((Int×Y4×Int×Unit)×(Unit)) ⊕(((Int×Unit)×(Unit)) ⊕((Unit)×(Unit)))):=
bif (decide ((v.1.1:Int)< v.1.2.2.1)) then(Abs.rowAt v.1.2.1 v.1.1 fun a _=>
(P9 ((a,()),())).bind fun b=>
bif b.1.1 then(some (.inr (.inl ((v.1.1,()),()))))
else(some (.inl (((aT (v.1.1+1)),v.1.2),()))))
else(some (.inr (.inr ((),()))))
def i143:Abs.Sg:=⟨[0,1],(.dat Z6 bn),.nil⟩
def aed:Abs.Sg:=⟨[4],bn,.nil⟩
def Wl(v:((Ma×Int×Unit)×(Unit))):Option ((Int×Unit)×(Unit)):=
((bif (decide ((v.1.1.1:Int)< 1)) then(some ((true,()),(v.1.1,()),()))
else(some (((decide ((v.1.1.1:Int) ≤v.1.2.1)),()),(v.1.1,()),()))):Option ((Bool×Unit)×((Ma×Unit)×Unit))).bind fun a=>
bif a.1.1 then(some ((6,()),()))
else(((bif (decide ((a.2.1.1.2.1:Int)< 0)) then(some ((true,()),a.2))
else(let c:=(decide ((a.2.1.1.2.1:Int) ≥a.2.1.1.2.2.1))
bif c then(some ((true,()),a.2))
else(bif (decide ((a.2.1.1.2.2.1:Int)>8589934592)) then(some ((true,()),a.2))
else(some (((decide ((a.2.1.1.2.2.2.1:Int)< 0)),()),a.2))))):Option ((Bool×Unit)×((Ma×Unit)×Unit))).bind fun b=>
bif b.1.1 then(some ((1,()),()))
else(let d:=(((b.2.1.1.2.2.2.2.1.length:Int):Int)==0)
bif d then(some ((7,()),()))
else(let e:=(decide (((b.2.1.1.2.2.2.2.1.length:Int):Int)>8))
bif e then(some ((5,()),()))
else((((aB uK ((0,b.2.1.1.2.2.2.2.1,(b.2.1.1.2.2.2.2.1.length:Int),()),())).bind fun f=>
au f (fun g=>(some (((decide ((g.1.1:Int) ≥0)),()),()))) (fun j=>(some ((false,()),())))):Option fH).bind fun h=>
bif h.1.1 then(some ((8,()),()))
else(some ((0,()),()))))))
def aa7:Abs.Spec:=⟨0,i143,aed,Wl⟩
def abr:Nat→Abs.aW
 |0=>Abs.aW.mk (fun
  |3=>some ⟨[15,2],(.dat .bool (.st fI .nil)),(.box 5 (.dat Z6 .nil) .nil)⟩
  |1=>some ⟨[5,2],(.dat .bool (.st fI .nil)),(.box 5 (.dat Z6 .nil) .nil)⟩
  |_=>none) (fun _=>none) (fun _=>none) (fun
  |9,2=>1
  |_,_=>0)
 |1=>Abs.aW.mk (fun
  |1=>some ⟨[4],dQ,.nil⟩
  |_=>none) (fun _=>none) (fun _=>none) (fun
  |1,2=>2
  |_,_=>0)
 |2=>Abs.aW.mk (fun _=>none) (fun _=>none) (fun
  |2=>some ⟨⟨[8,0,1,7],(.dat (.int .i64) (.dat Z2 (.st (.clo 189 []) bn))),.nil⟩,(.more .ret ⟨[4],bn,.nil⟩ (.one (.exit 0) ⟨[],.nil,.nil⟩))⟩
  |_=>none) (fun _ _=>0)
 |_=>{}
theorem abA:Abs.aD Tryz.prog 143 aa7:=
 okW (an:=abr) (bg XF dZ) rfl (by intro v;kernel_rfl)
def Dc(v:((Int×Int×eF×Int×Unit)×(Unit))):Option (((Int×Int×eF×Int×Unit)×(Unit)) ⊕(((Int×Unit)×(Unit)) ⊕((Unit)×(Unit)))):=
bif (decide ((v.1.1:Int)< v.1.2.2.2.1)) then(Abs.rowAt v.1.2.2.1 v.1.1 fun a _=>
(Wl ((a,v.1.2.1,()),())).bind fun b=>
bif ((b.1.1:Int) !=0) then(some (.inr (.inl b)))
else(some (.inl (((aT (v.1.1+1)),a.1,v.1.2.2),()))))
else(some (.inr (.inr ((),()))))
def i81:Abs.Sg:=⟨[0],(.dat (.row Z6) .nil),.nil⟩
def o81:Abs.Sg:=⟨[2],bn,.nil⟩
def m81(v:((eF×Unit)×(Unit))):Option ((Int×Unit)×(Unit)):=
bif (decide (((v.1.1.length:Int):Int)>24)) then(some ((5,()),()))
else((aB Dc ((0,0,v.1.1,(v.1.1.length:Int),()),())).bind fun a=>
au a (fun b=>(some b)) (fun c=>(some ((0,()),()))))
def aey:Abs.Spec:=⟨0,i81,o81,m81⟩
def afB:Nat→Abs.aW
 |0=>Abs.aW.mk (fun _=>none) (fun _=>none) (fun
  |5=>some ⟨⟨[12,3,10,11],(.dat (.int .i64) (.dat (.int .i64) (.dat (.row Z6) bn))),.nil⟩,(.more .ret ⟨[2],bn,.nil⟩ (.one (.exit 0) ⟨[],.nil,.nil⟩))⟩
  |_=>none) (fun _ _=>0)
 |_=>{}
theorem Yg:Abs.aD Tryz.prog 81 aey:=
 okW (an:=afB) (bg abA dZ) rfl (by intro v;kernel_rfl)
def i84:Abs.Sg:=⟨[0,1,2],(.dat Z1 IQ),.nil⟩
def o84:Abs.Sg:=⟨[6],bn,.nil⟩
def Zj(v:((Y3×Int×ByteArray×Unit)×(Unit))):Option ((Int×Unit)×(Unit)):=
bif ((v.1.1.1:Int) !=v.1.2.1) then(some (((aT (v.1.1.1 - v.1.2.1)),()),()))
else((RX ((v.1.1.2.1,v.1.2.2),())).bind fun a=>
some a)
def ahH:Abs.Spec:=⟨0,i84,o84,Zj⟩
def afJ:Nat→Abs.aW
 |_=>{}
theorem adv:Abs.aD Tryz.prog 84 ahH:=
 okW (an:=afJ) (bg XR dZ) rfl (by intro v;kernel_rfl)
def sP(v:((Int×(List ByteArray)×bW×Int×Unit)×(bW×Unit))):Option (((Int×(List ByteArray)×bW×Int×Unit)×(bW×Unit)) ⊕((Unit)×(bW×Unit))):=
bif (decide ((v.1.1:Int)< v.1.2.2.2.1)) then(((Abs.rowAt v.1.2.2.1 v.1.1 fun b _=>
(JB ((v.1.2.1,b.1,()),())).bind fun c=>
bif c.1.1 then(bif (decide (v.2.1.length+([b]:List (ByteArray×ByteArray×Unit)).length≤4294967296)) then
let d:=(v.2.1++([b]:List (ByteArray×ByteArray×Unit)))
some ((v.1.2.1,v.1.2.2.1,v.1.2.2.2.1,v.1.1,()),d,())
else none)
else(some ((v.1.2.1,v.1.2.2.1,v.1.2.2.2.1,v.1.1,()),v.2))):Option (((List ByteArray)×bW×Int×Int×Unit)×(bW×Unit))).bind fun a=>
some (.inl (((aT (a.1.2.2.2.1+1)),a.1.1,a.1.2.1,a.1.2.2.1,()),a.2)))
else(some (.inr ((),v.2)))
def adP:Abs.Sg:=⟨[0,1],(.dat (.row iE) FK),.nil⟩
def agy:Abs.Sg:=⟨[4],(.st (.own iE (0,0)) .nil),yT⟩
def Vo(v:((bW×(List ByteArray)×Unit)×(Unit))):Option ((Unit)×(bW×Unit)):=
(aB sP ((0,v.1.2.1,v.1.1,(v.1.1.length:Int),()),[],())).bind fun a=>
some ((),a.2)
def aah:Abs.Spec:=⟨0,adP,agy,Vo⟩
def abq:Nat→Abs.aW
 |0=>Abs.aW.mk (fun _=>none) (fun
  |7=>some (⟨[5,1,8,9,10],(.st (.own iE (0,0)) (.dat (.row .str) (.dat (.row iE) nk))),yT⟩,none)
  |_=>none) (fun
  |3=>some ⟨⟨[10,5,1,8,9],(.dat (.int .i64) (.st (.own iE (0,0)) (.dat (.row .str) (.dat (.row iE) bn)))),yT⟩,(.one (.exit 0) ⟨[5],(.st (.own iE (0,0)) .nil),yT⟩)⟩
  |_=>none) (fun _ _=>0)
 |_=>{}
theorem abh:Abs.aD Tryz.prog 119 aah:=
 okW (an:=abq) (bg XB dZ) rfl (by intro v;kernel_rfl)
def i69:Abs.Sg:=⟨[0,1],(.dat Z5 jX),.nil⟩
def o69:Abs.Sg:=⟨[4],gG,.nil⟩
def ZR(v:((Y8×bW×Unit)×(Unit))):Option Fe:=
(WX (v.1.2,())).bind fun a=>
bif (!a.1.1) then(some ((ByteArray.empty,()),()))
else((Vo ((v.1.2.1,v.1.1.2.2.2.1,()),())).bind fun b=>
(Ql (b.2,())).bind fun c=>
some c)
def agv:Abs.Spec:=⟨0,i69,o69,ZR⟩
def ahs:Nat→Abs.aW
 |_=>{}
theorem ab9:Abs.aD Tryz.prog 69 agv:=
 okW (an:=ahs) (bg Qa (bg abh (bg TA dZ))) rfl (by intro v;kernel_rfl)
def yB(v:((Int×(List Y9)×Int×Unit)×((lK×Unit)×(Y3×Unit)×Unit))):Option (((Int×(List Y9)×Int×Unit)×((lK×Unit)×(Y3×Unit)×Unit)) ⊕(((Int×Unit)×((lK×Unit)×(Y3×Unit)×Unit)) ⊕((Unit)×((lK×Unit)×(Y3×Unit)×Unit)))):=
bif (decide ((v.1.1:Int)< v.1.2.2.1)) then(Abs.rowAt v.1.2.1 v.1.1 fun a _=>
Abs.rowAt v.2.1.1.1 v.2.2.1.1.1 fun b _=>
(ZR ((b,a.2.1,()),())).bind fun c=>
bif (!(c.1.1.toList==v.2.2.1.1.2.1.toList)) then(some (.inr (.inl ((v.1.1,()),v.2))))
else(some (.inl (((aT (v.1.1+1)),v.1.2),v.2))))
else(some (.inr (.inr ((),v.2))))
def qO(v:((Int×(List Y3)×Int×Unit)×((lK×Unit)×wu×Unit))):Option (((Int×(List Y3)×Int×Unit)×((lK×Unit)×wu×Unit)) ⊕(fH⊕((Unit)×(Unit)))):=
bif (decide ((v.1.1:Int)< v.1.2.2.1)) then(Abs.rowAt v.1.2.1 v.1.1 fun a _=>
(((Y1 ((a,()),())).bind fun e=>
bif (!e.1.1) then(some ((true,v.1.2.1,v.1.2.2.1,v.1.1,()),v.2.1,v.2.2.1,(a,()),()))
else(let f:=(decide ((a.1:Int) ≥(v.2.1.1.1.length:Int)))
bif f then(some ((true,v.1.2.1,v.1.2.2.1,v.1.1,()),v.2.1,v.2.2.1,(a,()),()))
else((UX ((v.2.1.1,a,v.2.2.1.1.1,()),())).bind fun g=>
bif g.1.1 then(some ((true,v.1.2.1,v.1.2.2.1,v.1.1,()),v.2.1,v.2.2.1,(a,()),()))
else(bif (decide ((v.1.1:Int)>0)) then(Abs.rowAt v.2.2.1.1.2.1 (aT (v.1.1 - 1)) fun h _=>
(Zj ((h,a.1,a.2.1,()),())).bind fun j=>
some (((decide ((j.1.1:Int) ≥0)),v.1.2.1,v.1.2.2.1,v.1.1,()),v.2.1,v.2.2.1,(a,()),()))
else(some ((false,v.1.2.1,v.1.2.2.1,v.1.1,()),v.2.1,v.2.2.1,(a,()),())))))):Option ((Bool×(List Y3)×Int×Int×Unit)×((lK×Unit)×wu×(Y3×Unit)×Unit))).bind fun b=>
bif b.1.1 then(some (.inr (.inl ((false,()),()))))
else((((aB yB ((0,b.2.2.2.1.1.2.2.1,(b.2.2.2.1.1.2.2.1.length:Int),()),b.2.1,b.2.2.2)).bind fun k=>
au k (fun c=>(some (((decide ((c.1.1:Int) ≥0)),()),c.2))) (fun l=>(some ((false,()),l.2)))):Option ((Bool×Unit)×((lK×Unit)×(Y3×Unit)×Unit))).bind fun d=>
bif d.1.1 then(some (.inr (.inl ((false,()),()))))
else(some (.inl (((aT (b.1.2.2.2.1+1)),b.1.2.1,b.1.2.2.1,()),d.2.1,b.2.2.1,())))))
else(some (.inr (.inr ((),()))))
def i36:Abs.Sg:=⟨[0,1],(.dat Tv qU),.nil⟩
def o36:Abs.Sg:=⟨[4],dQ,.nil⟩
def Un(v:((lK×(Int×(List Y3)×eF×Int×Unit)×Unit)×(Unit))):Option fH:=
(((ZV ((v.1.1,()),())).bind fun c=>
bif ((c.1.1:Int) !=0) then(some ((true,()),(v.1.1,()),v.1.2,()))
else(bif (decide ((v.1.2.1.1:Int)< 0)) then(some ((true,()),(v.1.1,()),v.1.2,()))
else(bif (decide ((v.1.2.1.1:Int)>8589934592)) then(some ((true,()),(v.1.1,()),v.1.2,()))
else(let d:=(decide (((v.1.2.1.2.1.length:Int):Int)>64))
bif d then(some ((true,()),(v.1.1,()),v.1.2,()))
else((m81 ((v.1.2.1.2.2.1,()),())).bind fun e=>
bif ((e.1.1:Int) !=0) then(some ((true,()),(v.1.1,()),v.1.2,()))
else(some (((decide ((v.1.2.1.2.2.2.1:Int)< 1)),()),(v.1.1,()),v.1.2,()))))))):Option ((Bool×Unit)×((lK×Unit)×wu×Unit))).bind fun a=>
bif a.1.1 then(some ((false,()),()))
else(((let f:=(decide (((a.2.2.1.1.2.2.1.length:Int):Int)>0))
bif f then(Abs.rowAt a.2.2.1.1.2.2.1 (aT ((a.2.2.1.1.2.2.1.length:Int) - 1)) fun g _=>
some (((decide ((g.1:Int) ≥a.2.2.1.1.2.2.2.1)),()),a.2))
else(some ((false,()),a.2))):Option ((Bool×Unit)×((lK×Unit)×wu×Unit))).bind fun b=>
bif b.1.1 then(some ((false,()),()))
else((aB qO ((0,b.2.2.1.1.2.1,(b.2.2.1.1.2.1.length:Int),()),b.2)).bind fun h=>
au h (fun j=>(some j)) (fun k=>(some ((true,()),())))))
def ahh:Abs.Spec:=⟨0,i36,o36,Un⟩
def afm:Nat→Abs.aW
 |0=>Abs.aW.mk (fun
  |9=>some ⟨[98,2,3,56,57,58,7],(.dat .bool (.st zV (.st q9 (.dat (.row Z1) (.dat (.int .i64) (.dat (.int .i64) (.st Aw .nil))))))),(.box 3 oH (.box 4 qU uy))⟩
  |4=>some ⟨[54,2,3],(.dat .bool (.st zV (.st q9 .nil))),Kn⟩
  |1=>some ⟨[37,2,3],(.dat .bool (.st zV (.st q9 .nil))),Kn⟩
  |_=>none) (fun _=>none) (fun
  |7=>some ⟨⟨[58,2,3,56,57],(.dat (.int .i64) (.st zV (.st q9 (.dat (.row Z1) bn)))),Kn⟩,(.more .ret ⟨[4],dQ,.nil⟩ (.one (.exit 0) ⟨[],.nil,.nil⟩))⟩
  |_=>none) (fun
  |11,3=>1
  |_,_=>0)
 |1=>Abs.aW.mk (fun
  |1=>some ⟨[4],dQ,(.box 3 oH uy)⟩
  |_=>none) (fun _=>none) (fun _=>none) (fun
  |1,2=>2
  |_,_=>0)
 |2=>Abs.aW.mk (fun _=>none) (fun _=>none) (fun
  |2=>some ⟨⟨[8,0,1,7],(.dat (.int .i64) (.dat (.row Z7) (.st (.clo 86 [((0,0),3,0,0),((1,0),5,0,0)]) bn))),(.box 3 oH uy)⟩,(.more .ret ⟨[4],bn,(.box 3 oH uy)⟩ (.one (.exit 0) ⟨[],.nil,(.box 3 oH uy)⟩))⟩
  |_=>none) (fun
  |4,5=>3
  |_,_=>0)
 |_=>{}
theorem Qd:Abs.aD Tryz.prog 36 ahh:=
 okW (an:=afm) (bg ZC (bg Yg (bg Xp (bg Zl (bg adv (bg ab9 dZ)))))) rfl (by intro v;kernel_rfl)
def i67:Abs.Sg:=⟨[0,1],(.dat XA bn),.nil⟩
def o67:Abs.Sg:=⟨[4],bn,.nil⟩
def m67(v:(((Int×(List Y3)×eF×Int×Unit)×Int×Unit)×(Unit))):Option ((Int×Unit)×(Unit)):=
bif (decide ((v.1.2.1:Int)< v.1.1.1)) then(some ((6,()),()))
else(bif (decide ((v.1.2.1:Int)>8589934592)) then(some ((1,()),()))
else(some ((0,()),())))
def agj:Abs.Spec:=⟨0,i67,o67,m67⟩
def aeV:Nat→Abs.aW
 |_=>{}
theorem ac8:Abs.aD Tryz.prog 67 agj:=
 okW (an:=aeV) dZ rfl (by intro v;kernel_rfl)
def rP(v:((Int×Int×(List Y8)×Int×Unit)×((List Int)×Unit))):Option (((Int×Int×(List Y8)×Int×Unit)×((List Int)×Unit)) ⊕((Unit)×((List Int)×Unit))):=
bif (decide ((v.1.1:Int)< v.1.2.2.2.1)) then(((Abs.rowAt v.1.2.2.1 v.1.1 fun b _=>
bif ((b.1:Int)==v.1.2.1) then(bif (decide (v.2.1.length+ [v.1.1].length≤4294967296)) then
some ((v.1.2.1,v.1.2.2.1,v.1.2.2.2.1,v.1.1,()),(v.2.1++ [v.1.1]),())
else none)
else(some ((v.1.2.1,v.1.2.2.1,v.1.2.2.2.1,v.1.1,()),v.2))):Option ((Int×(List Y8)×Int×Int×Unit)×((List Int)×Unit))).bind fun a=>
some (.inl (((aT (a.1.2.2.2.1+1)),a.1.1,a.1.2.1,a.1.2.2.1,()),a.2)))
else(some (.inr ((),v.2)))
def i168:Abs.Sg:=⟨[0,1],(.dat (.row Z5) bn),.nil⟩
def agT:Abs.Sg:=⟨[4],(.st FP .nil),Ga⟩
def UQ(v:(((List Y8)×Int×Unit)×(Unit))):Option ((Unit)×((List Int)×Unit)):=
(aB rP ((0,v.1.2.1,v.1.1,(v.1.1.length:Int),()),[],())).bind fun a=>
some ((),a.2)
def XJ:Abs.Spec:=⟨0,i168,agT,UQ⟩
def aaH:Nat→Abs.aW
 |0=>Abs.aW.mk (fun _=>none) (fun
  |7=>some (⟨[5,1,8,9,10],(.st FP (.dat (.int .i64) (.dat (.row Z5) nk))),Ga⟩,none)
  |_=>none) (fun
  |3=>some ⟨⟨[10,5,1,8,9],(.dat (.int .i64) (.st FP (.dat (.int .i64) (.dat (.row Z5) bn)))),Ga⟩,(.one (.exit 0) ⟨[5],(.st FP .nil),Ga⟩)⟩
  |_=>none) (fun _ _=>0)
 |_=>{}
theorem aar:Abs.aD Tryz.prog 168 XJ:=
 okW (an:=aaH) dZ rfl (by intro v;kernel_rfl)
def nE(rc:(((List Y8)×Int×bW×Unit)×(Unit)) →Option ((Unit)×((List Int)×Unit)))(v:((Int×Int×(List Y8)×bW×Int×Unit)×((List Int)×(List Int)×Unit))):Option (((Int×Int×(List Y8)×bW×Int×Unit)×((List Int)×(List Int)×Unit)) ⊕((Int×Unit)×((List Int)×Unit))):=
bif (decide ((v.1.1:Int)< v.1.2.2.2.2.1)) then(((bif (decide ((0:Int) ≤v.1.1∧(v.1.1:Int)< v.2.2.1.length)) then
(v.2.2.1[v.1.1.toNat]?).bind fun e47=>
Abs.rowAt v.1.2.2.1 e47 fun e48 _=>
(KJ ((e48.2.1,v.1.2.2.2.1,()),())).bind fun u49=>
bif (!u49.1.1) then(some (.inl ((v.1.2.1,v.1.2.2.1,v.1.2.2.2.1,v.1.2.2.2.2.1,v.1.1,()),v.2.1,v.2.2.1,())))
else((rc ((v.1.2.2.1,e47,v.1.2.2.2.1,()),())).bind fun u50=>
bif (decide (v.2.1.length+u50.2.1.length≤4294967296)) then
Abs.rowAt v.1.2.2.1 e47 fun e51 _=>
bif (!e51.2.2.2.2.2.2.2.1) then(some (.inr ((v.1.2.1,()),(v.2.1++u50.2.1),())))
else(some (.inl ((v.1.2.1,v.1.2.2.1,v.1.2.2.2.1,v.1.2.2.2.2.1,v.1.1,()),(v.2.1++u50.2.1),v.2.2.1,())))
else none)
else none):Option (((Int×(List Y8)×bW×Int×Int×Unit)×((List Int)×(List Int)×Unit)) ⊕((Int×Unit)×((List Int)×Unit)))).bind fun r54=>
au r54 (fun v52=>(some (.inl (((aT (v52.1.2.2.2.2.1+1)),v52.1.1,v52.1.2.1,v52.1.2.2.1,v52.1.2.2.2.1,()),v52.2.1,v52.2.2.1,())))) (fun d53=>(some (.inr ((d53.1.1,()),d53.2.1,())))))
else(some (.inr ((v.1.2.1,()),v.2.1,())))
def i117:Abs.Sg:=⟨[0,1,2],(.dat (.row Z5) (.dat (.int .i64) jX)),.nil⟩
def adq:Abs.Sg:=⟨[6],(.st FP .nil),Ga⟩
def Sv(rc:(((List Y8)×Int×bW×Unit)×(Unit)) →Option ((Unit)×((List Int)×Unit)))(v:(((List Y8)×Int×bW×Unit)×(Unit))):Option ((Unit)×((List Int)×Unit)):=
(UQ ((v.1.1,(v.1.2.1,())),())).bind fun u46=>
(aB (nE rc) ((0,(v.1.2.1,(v.1.1,(v.1.2.2.1,(((u46.2.1.length:Nat):Int),()))))),([],(u46.2.1,())))).bind fun d55=>
bif ((((d55.2.1.length:Nat):Int):Int)==0) then(some ((),([d55.1.1],())))
else(some ((),(d55.2.1,())))
def GJ(n:Nat):(((List Y8)×Int×bW×Unit)×(Unit)) →Option ((Unit)×((List Int)×Unit)):=Nat.rec (motive:=fun _=>(((List Y8)×Int×bW×Unit)×(Unit)) →Option ((Unit)×((List Int)×Unit))) (fun _=>none) (fun _ rc=>Sv rc) n
def abv:(((List Y8)×Int×bW×Unit)×(Unit)) →Option ((Unit)×((List Int)×Unit)):=GJ 400
def TQ(n:Nat):Abs.Spec:=⟨0,i117,adq,GJ n⟩
def abK:Abs.Spec:=⟨0,i117,adq,abv⟩
def aam:Nat→Abs.aW
 |0=>Abs.aW.mk (fun _=>none) (fun
  |8=>some (⟨[1,0,2,7,12,13,14],(.dat (.int .i64) (.dat (.row Z5) (.dat (.row iE) (.st FP (.st (.own (.int .i64) (1,0)) nk))))),(.arr (.int .i64) false Ga)⟩,some (.one (.exit 0) ⟨[1,7],(.dat (.int .i64) (.st FP .nil)),Ga⟩))
  |_=>none) (fun
  |3=>some ⟨⟨[14,1,0,2,7,12,13],(.dat (.int .i64) (.dat (.int .i64) (.dat (.row Z5) (.dat (.row iE) (.st FP (.st (.own (.int .i64) (1,0)) bn)))))),(.arr (.int .i64) false Ga)⟩,(.one (.exit 0) ⟨[1,7],(.dat (.int .i64) (.st FP .nil)),Ga⟩)⟩
  |_=>none) (fun _ _=>0)
 |_=>{}
theorem Sk:∀n,Abs.aD Tryz.prog 117 (TQ n)
 |0=>fun _ _ _ _ _ _ h=>by cases h
 |n+1=>Abs.AJ (C:=X5) (mv:=RN) OW (n:=12) (an:=aam) (T:=Abs.wC [(117,TQ n),(168,XJ),(169,XP)]) good Cn (Abs.mR _ (by simp only [List.forall_mem_cons];exact⟨Sk n,aar,Sm,fun _ h=>by cases h⟩)) rfl (by intro v;kernel_rfl)
theorem ab3:Abs.aD Tryz.prog 117 abK:=Sk 400
def i68:Abs.Sg:=⟨[0,1],(.dat (.row Z5) jX),.nil⟩
def o68:Abs.Sg:=⟨[4],(.st FP .nil),Ga⟩
def m68(v:(((List Y8)×bW×Unit)×(Unit))):Option ((Unit)×((List Int)×Unit)):=
(((m78 ((v.1.1,()),())).bind fun b=>
bif ((b.1.1:Int) !=0) then(some ((true,v.1.2.1,v.1.1,()),()))
else((WX (v.1.2,())).bind fun c=>
some (((!c.1.1),v.1.2.1,v.1.1,()),()))):Option ((Bool×bW×(List Y8)×Unit)×(Unit))).bind fun a=>
bif a.1.1 then(some ((),[],()))
else((abv ((a.1.2.2.1,0,a.1.2.1,()),())).bind fun d=>
some ((),d.2.1,()))
def ah4:Abs.Spec:=⟨0,i68,o68,m68⟩
def agZ:Nat→Abs.aW
 |0=>Abs.aW.mk (fun
  |1=>some ⟨[12,1,0],(.dat .bool (.dat (.row iE) (.dat (.row Z5) .nil))),.nil⟩
  |_=>none) (fun _=>none) (fun _=>none) (fun _ _=>0)
 |_=>{}
theorem agb:Abs.aD Tryz.prog 68 ah4:=
 okW (an:=agZ) (bg Zb (bg Qa (bg ab3 dZ))) rfl (by intro v;kernel_rfl)
def i72:Abs.Sg:=⟨[0,1],IQ,.nil⟩
def o72:Abs.Sg:=⟨[4],(.st fI .nil),(.box 5 Ju .nil)⟩
def m72(v:((Int×ByteArray×Unit)×(Unit))):Option ((Unit)×(jF×Unit)):=
some ((),((v.1.1,v.1.2.1,(-1),(-1),()),()),())
def ah7:Abs.Spec:=⟨0,i72,o72,m72⟩
def aeX:Nat→Abs.aW
 |_=>{}
theorem af0:Abs.aD Tryz.prog 72 ah7:=
 okW (an:=aeX) dZ rfl (by intro v;kernel_rfl)
def i73:Abs.Sg:=⟨[0,1,2,3,4],(.dat Z1 (.dat Z5 (.dat (.row iE) (.dat .bool bn)))),.nil⟩
def o73:Abs.Sg:=⟨[10,11],(.st fI bn),Ie⟩
def m73(v:((Y3×Y8×bW×Bool×Int×Unit)×(Unit))):Option ((Int×Unit)×(jF×(List Y9)×Unit)):=
(((Y1 ((v.1.1,()),())).bind fun y=>
bif (!y.1.1) then(some ((true,v.1.2.2.2.2.1,v.1.2.2.2.1,v.1.2.2.1,()),((0,ByteArray.empty,0,0,()),()),(v.1.1,()),(v.1.2.1,()),()))
else((QU ((v.1.2.1,()),())).bind fun z=>
bif (!z.1.1) then(some ((true,v.1.2.2.2.2.1,v.1.2.2.2.1,v.1.2.2.1,()),((0,ByteArray.empty,0,0,()),()),(v.1.1,()),(v.1.2.1,()),()))
else((WX ((v.1.2.2.1,()),())).bind fun aa=>
some (((!aa.1.1),v.1.2.2.2.2.1,v.1.2.2.2.1,v.1.2.2.1,()),((0,ByteArray.empty,0,0,()),()),(v.1.1,()),(v.1.2.1,()),())))):Option ((Bool×Int×Bool×bW×Unit)×(jF×(Y3×Unit)×(Y8×Unit)×Unit))).bind fun c=>
bif c.1.1 then(some ((8,()),((0,ByteArray.empty,0,0,()),()),[],()))
else((Er ((c.1.2.1,0,8589934592,()),())).bind fun ab=>
bif (!ab.1.1) then(some ((1,()),((0,ByteArray.empty,0,0,()),()),[],()))
else((Ql (c.1.2.2.2,())).bind fun s=>
(Kb ((c.2.2.1.1,s.1),())).bind fun b=>
(MP (c.2.2.1,())).bind fun e=>
((bif b.1.2.1 then(bif (decide ((0:Int) ≤b.1.1∧(b.1.1:Int)< e.2.2.1.length)) then
(e.2.2.1[b.1.1.toNat]?).bind fun a=>
((bif (decide ((0:Int) ≤b.1.1∧(b.1.1:Int)< (e.2.2.1.set b.1.1.toNat (a.1,a.2.1,a.2.2.1,c.1.2.1,a.2.2.2.2)).length)) then
((e.2.2.1.set b.1.1.toNat (a.1,a.2.1,a.2.2.1,c.1.2.1,a.2.2.2.2))[b.1.1.toNat]?).bind fun ac=>
bif (ac.2.2.2.2.1==c.1.2.2.1) then(bif (decide ((e.2.2.1.set b.1.1.toNat (a.1,a.2.1,a.2.2.1,c.1.2.1,a.2.2.2.2)).length=(e.2.2.1.set b.1.1.toNat (a.1,a.2.1,a.2.2.1,c.1.2.1,a.2.2.2.2)).length)&&true) then
some ((),c.2.1,e.2.1,(e.2.2.1.set b.1.1.toNat (a.1,a.2.1,a.2.2.1,c.1.2.1,a.2.2.2.2)),())
else none)
else(bif c.1.2.2.1 then(((e.2.2.1.set b.1.1.toNat (a.1,a.2.1,a.2.2.1,c.1.2.1,a.2.2.2.2))[b.1.1.toNat]?).bind fun g=>
(((e.2.2.1.set b.1.1.toNat (a.1,a.2.1,a.2.2.1,c.1.2.1,a.2.2.2.2)).set b.1.1.toNat (g.1,g.2.1,g.2.2.1,g.2.2.2.1,true,g.2.2.2.2.2))[b.1.1.toNat]?).bind fun j=>
((((e.2.2.1.set b.1.1.toNat (a.1,a.2.1,a.2.2.1,c.1.2.1,a.2.2.2.2)).set b.1.1.toNat (g.1,g.2.1,g.2.2.1,g.2.2.2.1,true,g.2.2.2.2.2)).set b.1.1.toNat (j.1,j.2.1,j.2.2.1,j.2.2.2.1,j.2.2.2.2.1,true,()))[b.1.1.toNat]?).bind fun p=>
bif (decide (((((e.2.2.1.set b.1.1.toNat (a.1,a.2.1,a.2.2.1,c.1.2.1,a.2.2.2.2)).set b.1.1.toNat (g.1,g.2.1,g.2.2.1,g.2.2.2.1,true,g.2.2.2.2.2)).set b.1.1.toNat (j.1,j.2.1,j.2.2.1,j.2.2.2.1,j.2.2.2.2.1,true,())).set b.1.1.toNat (p.1,p.2.1,c.1.2.1,p.2.2.2)).length=(e.2.2.1.set b.1.1.toNat (a.1,a.2.1,a.2.2.1,c.1.2.1,a.2.2.2.2)).length)&&true) then
some ((),c.2.1,e.2.1,((((e.2.2.1.set b.1.1.toNat (a.1,a.2.1,a.2.2.1,c.1.2.1,a.2.2.2.2)).set b.1.1.toNat (g.1,g.2.1,g.2.2.1,g.2.2.2.1,true,g.2.2.2.2.2)).set b.1.1.toNat (j.1,j.2.1,j.2.2.1,j.2.2.2.1,j.2.2.2.2.1,true,())).set b.1.1.toNat (p.1,p.2.1,c.1.2.1,p.2.2.2)),())
else none)
else(((e.2.2.1.set b.1.1.toNat (a.1,a.2.1,a.2.2.1,c.1.2.1,a.2.2.2.2))[b.1.1.toNat]?).bind fun ad=>
bif (!ad.2.2.2.2.2.1) then(bif (decide ((0:Int) ≤b.1.1∧(b.1.1:Int)< (aT (b.1.1+1)) ∧((aT (b.1.1+1)):Int) ≤(e.2.2.1.set b.1.1.toNat (a.1,a.2.1,a.2.2.1,c.1.2.1,a.2.2.2.2)).length∧(e.2.2.1.set b.1.1.toNat (a.1,a.2.1,a.2.2.1,c.1.2.1,a.2.2.2.2)).length≤4294967296)) then
bif (decide ((e.2.2.1.set b.1.1.toNat (a.1,a.2.1,a.2.2.1,c.1.2.1,a.2.2.2.2)).length=(e.2.2.1.set b.1.1.toNat (a.1,a.2.1,a.2.2.1,c.1.2.1,a.2.2.2.2)).length)&&true) then
bif (decide ((e.2.2.1.set b.1.1.toNat (a.1,a.2.1,a.2.2.1,c.1.2.1,a.2.2.2.2)).length=(e.2.2.1.set b.1.1.toNat (a.1,a.2.1,a.2.2.1,c.1.2.1,a.2.2.2.2)).length)&&true) then
some ((),c.2.1,e.2.1,((e.2.2.1.set b.1.1.toNat (a.1,a.2.1,a.2.2.1,c.1.2.1,a.2.2.2.2)).take b.1.1.toNat++(e.2.2.1.set b.1.1.toNat (a.1,a.2.1,a.2.2.1,c.1.2.1,a.2.2.2.2)).drop (aT (b.1.1+1)).toNat),())
else none
else none
else none)
else(((e.2.2.1.set b.1.1.toNat (a.1,a.2.1,a.2.2.1,c.1.2.1,a.2.2.2.2))[b.1.1.toNat]?).bind fun f=>
(((e.2.2.1.set b.1.1.toNat (a.1,a.2.1,a.2.2.1,c.1.2.1,a.2.2.2.2)).set b.1.1.toNat (f.1,f.2.1,f.2.2.1,f.2.2.2.1,false,f.2.2.2.2.2))[b.1.1.toNat]?).bind fun h=>
((((e.2.2.1.set b.1.1.toNat (a.1,a.2.1,a.2.2.1,c.1.2.1,a.2.2.2.2)).set b.1.1.toNat (f.1,f.2.1,f.2.2.1,f.2.2.2.1,false,f.2.2.2.2.2)).set b.1.1.toNat (h.1,h.2.1,h.2.2.1,h.2.2.2.1,h.2.2.2.2.1,false,()))[b.1.1.toNat]?).bind fun l=>
((bif ((e.2.1.1.2.2.2.1:Int) !=(-1)) then(let u:=(aT (e.2.1.1.2.2.2.1+c.2.2.2.1.1.2.2.2.2.2.1))
let ae:=(if(u:Int)>c.1.2.1 then u else c.1.2.1)
some ((ae,()),e.2.1,((((e.2.2.1.set b.1.1.toNat (a.1,a.2.1,a.2.2.1,c.1.2.1,a.2.2.2.2)).set b.1.1.toNat (f.1,f.2.1,f.2.2.1,f.2.2.2.1,false,f.2.2.2.2.2)).set b.1.1.toNat (h.1,h.2.1,h.2.2.1,h.2.2.2.1,h.2.2.2.2.1,false,())).set b.1.1.toNat (l.1,l.2.1,c.1.2.1,l.2.2.2)),()))
else(some (((aT (c.1.2.1+c.2.2.2.1.1.2.2.2.2.1)),()),e.2.1,((((e.2.2.1.set b.1.1.toNat (a.1,a.2.1,a.2.2.1,c.1.2.1,a.2.2.2.2)).set b.1.1.toNat (f.1,f.2.1,f.2.2.1,f.2.2.2.1,false,f.2.2.2.2.2)).set b.1.1.toNat (h.1,h.2.1,h.2.2.1,h.2.2.2.1,h.2.2.2.2.1,false,())).set b.1.1.toNat (l.1,l.2.1,c.1.2.1,l.2.2.2)),()))):Option ((Int×Unit)×(jF×(List Y9)×Unit))).bind fun m=>
((bif ((m.2.1.1.2.2.1:Int) !=(-1)) then(let af:=(if(m.2.1.1.2.2.1:Int)< m.1.1 then m.2.1.1.2.2.1 else m.1.1)
some ((af,()),m.2))
else(some m)):Option ((Int×Unit)×(jF×(List Y9)×Unit))).bind fun n=>
(Kl (n.1,())).bind fun ag=>
bif (decide (n.2.2.1.length=((((e.2.2.1.set b.1.1.toNat (a.1,a.2.1,a.2.2.1,c.1.2.1,a.2.2.2.2)).set b.1.1.toNat (f.1,f.2.1,f.2.2.1,f.2.2.2.1,false,f.2.2.2.2.2)).set b.1.1.toNat (h.1,h.2.1,h.2.2.1,h.2.2.2.1,h.2.2.2.2.1,false,())).set b.1.1.toNat (l.1,l.2.1,c.1.2.1,l.2.2.2)).length)&&true) then
bif (decide (n.2.2.1.length=(e.2.2.1.set b.1.1.toNat (a.1,a.2.1,a.2.2.1,c.1.2.1,a.2.2.2.2)).length)&&true) then
some ((),c.2.1,((n.2.1.1.1,n.2.1.1.2.1,ag.1.1,n.2.1.1.2.2.2),()),n.2.2)
else none
else none)))
else none):Option ((Unit)×(jF×jF×(List Y9)×Unit))).bind fun ah=>
some (.inl ((),ah.2))
else none)
else(((bif c.1.2.2.1 then(let ai:=((((e.2.2.1.length:Nat):Int):Int)==256)
some ((ai,c.1.2.1,b.1.1,c.1.2.2.2.1,s.1.1,c.1.2.2.1,()),c.2.1,e.2.1,c.2.2.2.1,e.2.2))
else(some ((false,c.1.2.1,b.1.1,c.1.2.2.2.1,s.1.1,c.1.2.2.1,()),c.2.1,e.2.1,c.2.2.2.1,e.2.2))):Option ((Bool×Int×Int×bW×ByteArray×Bool×Unit)×(jF×jF×(Y8×Unit)×(List Y9)×Unit))).bind fun d=>
bif d.1.1 then(some (.inr ((5,()),((0,ByteArray.empty,0,0,()),()),())))
else(bif d.1.2.2.2.2.2.1 then((Uc ((d.1.2.2.2.1,()),())).bind fun q=>
bif (decide ((0:Int) ≤d.1.2.2.1∧(d.1.2.2.1:Int) ≤d.2.2.2.2.1.length∧d.2.2.2.2.1.length≤4294967295∧([(d.1.2.2.2.2.1,q.2.1,d.1.2.1,d.1.2.1,true,false,())]:List Y9).length=1)) then
bif (decide (d.2.2.2.2.1.length=d.2.2.2.2.1.length)&&(decide (([(d.1.2.2.2.2.1,q.2.1,d.1.2.1,d.1.2.1,true,false,())]:List Y9).length=([(d.1.2.2.2.2.1,q.2.1,d.1.2.1,d.1.2.1,true,false,())]:List Y9).length)&&true)) then
((bif ((d.2.2.1.1.2.2.2.1:Int) !=(-1)) then(let w:=(aT (d.2.2.1.1.2.2.2.1+d.2.2.2.1.1.2.2.2.2.2.1))
let aj:=(if(w:Int)>d.1.2.1 then w else d.1.2.1)
some ((aj,()),d.2.2.1,(d.2.2.2.2.1.take d.1.2.2.1.toNat++([(d.1.2.2.2.2.1,q.2.1,d.1.2.1,d.1.2.1,true,false,())]:List Y9)++d.2.2.2.2.1.drop d.1.2.2.1.toNat),()))
else(some (((aT (d.1.2.1+d.2.2.2.1.1.2.2.2.2.1)),()),d.2.2.1,(d.2.2.2.2.1.take d.1.2.2.1.toNat++([(d.1.2.2.2.2.1,q.2.1,d.1.2.1,d.1.2.1,true,false,())]:List Y9)++d.2.2.2.2.1.drop d.1.2.2.1.toNat),()))):Option ((Int×Unit)×(jF×(List Y9)×Unit))).bind fun o=>
((bif ((o.2.1.1.2.2.1:Int) !=(-1)) then(let ak:=(if(o.2.1.1.2.2.1:Int)< o.1.1 then o.2.1.1.2.2.1 else o.1.1)
some ((ak,()),o.2))
else(some o)):Option ((Int×Unit)×(jF×(List Y9)×Unit))).bind fun r=>
(Kl (r.1,())).bind fun al=>
bif (decide (r.2.2.1.length=(d.2.2.2.2.1.take d.1.2.2.1.toNat++([(d.1.2.2.2.2.1,q.2.1,d.1.2.1,d.1.2.1,true,false,())]:List Y9)++d.2.2.2.2.1.drop d.1.2.2.1.toNat).length)&&true) then
some (.inl ((),d.2.1,((r.2.1.1.1,r.2.1.1.2.1,al.1.1,r.2.1.1.2.2.2),()),r.2.2))
else none
else none
else none)
else(some (.inl ((),d.2.1,d.2.2.1,d.2.2.2.2)))))):Option (((Unit)×(jF×jF×(List Y9)×Unit)) ⊕((Int×Unit)×(jF×Unit)))).bind fun am=>
au am (fun k=>(((let an:=((((k.2.2.2.1.length:Nat):Int):Int)==0)
bif (decide (k.2.2.2.1.length=k.2.2.2.1.length)&&true) then
bif an then(some ((),k.2.2.2.1,((0,ByteArray.empty,0,0,()),()),((k.2.2.1.1.1,k.2.2.1.1.2.1,(-1),k.2.2.1.1.2.2.2),()),()))
else(some ((),k.2.2.2.1,((0,ByteArray.empty,0,0,()),()),k.2.2.1,()))
else none):Option ((Unit)×((List Y9)×jF×jF×Unit))).bind fun t=>
bif (decide (t.2.1.length=k.2.2.2.1.length)&&true) then
some ((0,()),t.2.2.2.1,t.2.1,())
else none)) (fun x=>(some (x.1,x.2.1,[],())))))
def agc:Abs.Spec:=⟨0,i73,o73,m73⟩
def aeA:Nat→Abs.aW
 |0=>Abs.aW.mk (fun
  |11=>some ⟨[59,10,5,4,6,13,2,12,3],(.dat .bool (.st fI (.st qM (.dat (.int .i64) (.st (.ptr (2,0) 8 0 0) (.dat (.int .i64) (.dat (.row iE) (.dat .str dQ)))))))),(.box 5 Ju (.box 5 (.agg (.dat (.int .i64) (.dat .str (.st (.own Z7 (3,0)) nk))) .nil) (.box 8 mV (.arr Z7 false .nil))))⟩
  |10=>some ⟨[10,5],(.st fI (.st qM .nil)),UN⟩
  |1=>some ⟨[16,10,5,4,3,6,2],(.dat .bool (.st fI (.st qM (.dat (.int .i64) (.dat .bool (.st (.ptr (2,0) 8 0 0) jX)))))),(.box 5 Ju (.box 5 (.dat Z1 .nil) (.box 8 mV .nil)))⟩
  |_=>none) (fun
  |17=>some (⟨[10,5],(.st fI (.st qM .nil)),UN⟩,some (.one .ret ⟨[10,11],(.st fI bn),(.box 5 Ju .nil)⟩))
  |_=>none) (fun _=>none) (fun
  |17,1=>4
  |16,2=>3
  |10,4=>1
  |_,_=>0)
 |1=>Abs.aW.mk (fun _=>none) (fun _=>none) (fun _=>none) (fun
  |3,3=>2
  |_,_=>0)
 |2=>Abs.aW.mk (fun _=>none) (fun
  |6=>some (⟨[6,0],Qo,Ie⟩,none)
  |4=>some (⟨[0,6],(.st fI bn),Ie⟩,none)
  |_=>none) (fun _=>none) (fun _ _=>0)
 |3=>Abs.aW.mk (fun _=>none) (fun
  |6=>some (⟨[6,0],Qo,Ie⟩,none)
  |4=>some (⟨[0,6],(.st fI bn),Ie⟩,none)
  |_=>none) (fun _=>none) (fun _ _=>0)
 |4=>Abs.aW.mk (fun _=>none) (fun
  |3=>some (⟨[2,1],(.st qM (.st Aw .nil)),(.arr Z7 false (.box 5 Ju (.box 5 Qx .nil)))⟩,none)
  |_=>none) (fun _=>none) (fun
  |1,1=>5
  |_,_=>0)
 |_=>{}
theorem aeP:Abs.aD Tryz.prog 73 agc:=
 okW (an:=aeA) (bg Xp (bg SE (bg Qa (bg Lh (bg TA (bg X8 (bg O7 (bg TF (bg XW dZ))))))))) rfl (by intro v;kernel_rfl)
def qX(v:((ByteArray×Int×Int×Int×Unit)×((List Y3)×(Int×Unit)×Unit))):Option (((ByteArray×Int×Int×Int×Unit)×((List Y3)×(Int×Unit)×Unit)) ⊕((ByteArray×Int×Int×Unit)×((List Y3)×(Int×Unit)×Unit))):=
bif (decide ((v.1.2.2.1:Int)< v.1.2.1)) then(let a:=(IntKind.wrap .u64 ((aT (v.1.2.2.1+v.1.2.1))))
bif (decide ((0:Int) ≤1)) then
bif (decide ((0:Int) ≤(aT ((zD .u64 (a) (1)))) ∧((aT ((zD .u64 (a) (1)))):Int)< v.2.1.length)) then
(v.2.1[(aT ((zD .u64 (a) (1)))).toNat]?).bind fun b=>
(Zj ((b,v.2.2.1.1,v.1.1,()),())).bind fun c=>
bif (decide ((c.1.1:Int)< 0)) then(some (.inl ((v.1.1,v.1.2.1,(aT ((aT ((zD .u64 (a) (1))))+1)),v.1.2.2.2),v.2)))
else(some (.inl ((v.1.1,(aT ((zD .u64 (a) (1)))),v.1.2.2),v.2)))
else none
else none)
else(some (.inr ((v.1.1,v.1.2.2),v.2)))
def vE(v:((Int×Int×Unit)×(j4×j4×((Int×bW×Bool×Unit)×Unit)×(lK×Unit)×(List Int)×(List Y3)×eF×Unit))):Option (((Int×Int×Unit)×(j4×j4×((Int×bW×Bool×Unit)×Unit)×(lK×Unit)×(List Int)×(List Y3)×eF×Unit)) ⊕(((Int×Unit)×(j4×Unit)) ⊕((Unit)×(j4×j4×(lK×Unit)×(List Y3)×eF×Unit)))):=
bif (decide ((v.1.1:Int)< v.1.2.1)) then(((bif (decide ((0:Int) ≤v.1.1∧(v.1.1:Int)< v.2.2.2.2.2.1.length)) then
(v.2.2.2.2.2.1[v.1.1.toNat]?).bind fun g=>
Abs.rowAt v.2.2.2.2.1.1.1 g fun k _=>
(ZR ((k,v.2.2.2.1.1.2.1,()),())).bind fun h=>
(aB qX ((h.1.1,((v.2.2.2.2.2.2.1.length:Nat):Int),0,((v.2.2.2.2.2.2.1.length:Nat):Int),()),v.2.2.2.2.2.2.1,(g,()),())).bind fun c=>
((bif (decide ((c.1.2.1:Int)< c.1.2.2.1)) then(bif (decide ((0:Int) ≤c.1.2.1∧(c.1.2.1:Int)< c.2.1.length)) then
(c.2.1[c.1.2.1.toNat]?).bind fun l=>
(Zj ((l,c.2.2.1.1,c.1.1,()),())).bind fun m=>
some ((c.1.2.1,((m.1.1:Int)==0),()),c.2)
else none)
else(some ((c.1.2.1,false,()),c.2))):Option ((Int×Bool×Unit)×((List Y3)×(Int×Unit)×Unit))).bind fun e=>
bif (decide (e.2.1.length=v.2.2.2.2.2.2.1.length)&&true) then
bif (decide (e.2.1.length=v.2.2.2.2.2.2.1.length)&&true) then
((bif (!e.1.2.1) then(some (((!v.2.2.2.1.1.2.2.1),v.1.2.1,v.1.1,e.1.1,g,h.1.1,e.1.2),v.2.1,v.2.2.1,v.2.2.2.1,v.2.2.2.2.1,v.2.2.2.2.2.1,e.2.1,v.2.2.2.2.2.2.2))
else(some ((false,v.1.2.1,v.1.1,e.1.1,g,h.1.1,e.1.2),v.2.1,v.2.2.1,v.2.2.2.1,v.2.2.2.2.1,v.2.2.2.2.2.1,e.2.1,v.2.2.2.2.2.2.2))):Option ((Bool×Int×Int×Int×Int×ByteArray×Bool×Unit)×(j4×j4×((Int×bW×Bool×Unit)×Unit)×(lK×Unit)×(List Int)×(List Y3)×eF×Unit))).bind fun a=>
bif a.1.1 then(some (.inl ((a.1.2.1,a.1.2.2.1,()),a.2)))
else(((bif (!a.1.2.2.2.2.2.2.1) then((m72 ((a.1.2.2.2.2.1,a.1.2.2.2.2.2.1,()),())).bind fun d=>
bif (decide ((0:Int) ≤a.1.2.2.2.1∧(a.1.2.2.2.1:Int) ≤a.2.2.2.2.2.2.1.length∧a.2.2.2.2.2.2.1.length≤4294967295∧([(d.2.1.1.1,d.2.1.1.2.1,[],d.2.1.1.2.2)]:List Y3).length=1)) then
bif (decide (a.2.2.2.2.2.2.1.length=a.2.2.2.2.2.2.1.length)&&(decide (([(d.2.1.1.1,d.2.1.1.2.1,[],d.2.1.1.2.2)]:List Y3).length=([(d.2.1.1.1,d.2.1.1.2.1,[],d.2.1.1.2.2)]:List Y3).length)&&true)) then
some ((a.1.2.1,a.1.2.2.1,a.1.2.2.2.1,a.1.2.2.2.2.1,()),a.2.1,a.2.2.1,a.2.2.2.1,a.2.2.2.2.1,a.2.2.2.2.2.1,(a.2.2.2.2.2.2.1.take a.1.2.2.2.1.toNat++([(d.2.1.1.1,d.2.1.1.2.1,[],d.2.1.1.2.2)]:List Y3)++a.2.2.2.2.2.2.1.drop a.1.2.2.2.1.toNat),a.2.2.2.2.2.2.2)
else none
else none)
else(some ((a.1.2.1,a.1.2.2.1,a.1.2.2.2.1,a.1.2.2.2.2.1,()),a.2))):Option ((Int×Int×Int×Int×Unit)×(j4×j4×((Int×bW×Bool×Unit)×Unit)×(lK×Unit)×(List Int)×(List Y3)×eF×Unit))).bind fun b=>
bif (decide ((0:Int) ≤b.1.2.2.1∧(b.1.2.2.1:Int)< b.2.2.2.2.2.2.1.length)) then
(b.2.2.2.2.2.2.1[b.1.2.2.1.toNat]?).bind fun n=>
Abs.rowAt b.2.2.2.2.1.1.1 b.1.2.2.2.1 fun o _=>
(m73 ((n,o,b.2.2.2.1.1.2.1,b.2.2.2.1.1.2.2.1,b.2.2.2.1.1.1,()),())).bind fun f=>
bif ((f.1.1:Int) !=0) then(some (.inr ((5,()),((0,0,()),()),())))
else(bif (decide ((0:Int) ≤b.1.2.2.1∧(b.1.2.2.1:Int)< b.2.2.2.2.2.2.1.length)) then
bif (decide (b.1.2.2.1.toNat< b.2.2.2.2.2.2.1.length)) then
some (.inl ((b.1.1,b.1.2.1,()),b.2.1,b.2.2.1,b.2.2.2.1,b.2.2.2.2.1,b.2.2.2.2.2.1,(b.2.2.2.2.2.2.1.set b.1.2.2.1.toNat (f.2.1.1.1,f.2.1.1.2.1,f.2.2.1,f.2.1.1.2.2)),b.2.2.2.2.2.2.2))
else none
else none)
else none)
else none
else none
else none):Option (((Int×Int×Unit)×(j4×j4×((Int×bW×Bool×Unit)×Unit)×(lK×Unit)×(List Int)×(List Y3)×eF×Unit)) ⊕((Int×Unit)×(j4×Unit)))).bind fun p=>
au p (fun j=>(some (.inl (((aT (j.1.2.1+1)),j.1.1,()),j.2)))) (fun q=>(some (.inr (.inl q)))))
else(some (.inr (.inr ((),v.2.1,v.2.2.1,v.2.2.2.2.1,v.2.2.2.2.2.2))))
def OC(v:((Int×Int×Unit)×JI)):Option (((Int×Int×Unit)×JI) ⊕(((Int×Unit)×JI) ⊕((Unit)×JI))):=
bif (decide ((v.1.1:Int)< v.1.2.1)) then(bif (decide ((0:Int) ≤v.1.1∧(v.1.1:Int)< v.2.1.length)) then
(v.2.1[v.1.1.toNat]?).bind fun a=>
(UX ((v.2.2.1.1,a,v.2.2.2.1.1.1,()),())).bind fun b=>
bif (decide (v.2.1.length=v.2.1.length)&&(decide (v.2.2.2.2.1.length=v.2.2.2.2.1.length)&&true)) then
bif b.1.1 then(some (.inr (.inl ((v.1.1,()),v.2))))
else(some (.inl (((aT (v.1.1+1)),v.1.2),v.2)))
else none
else none)
else(some (.inr (.inr ((),v.2))))
def OU(v:((Int×Int×Unit)×JI)):Option (((Int×Int×Unit)×JI) ⊕((Int×Unit)×JI)):=
let c:=(decide ((v.1.1:Int)< ((v.2.1.length:Nat):Int)))
bif c then(((bif (decide ((0:Int) ≤v.1.1∧(v.1.1:Int)< v.2.1.length)) then
(v.2.1[v.1.1.toNat]?).bind fun b=>
(UX ((v.2.2.1.1,b,v.2.2.2.1.1.1,()),())).bind fun d=>
bif (decide (v.2.1.length=v.2.1.length)&&(decide (v.2.2.2.2.1.length=v.2.2.2.2.1.length)&&true)) then
bif (!d.1.1) then(bif (decide ((0:Int) ≤v.1.2.1∧(v.1.2.1:Int)< v.2.1.length)) then
bif (decide (v.1.2.1.toNat< v.2.1.length)) then
some (((aT (v.1.2.1+1)),v.1.1,()),(v.2.1.set v.1.2.1.toNat b),v.2.2)
else none
else none)
else(some ((v.1.2.1,v.1.1,()),v.2))
else none
else none):Option ((Int×Int×Unit)×JI)).bind fun a=>
some (.inl (((aT (a.1.2.1+1)),a.1.1,()),a.2)))
else(some (.inr (v.1.2,v.2)))
def i27:Abs.Sg:=⟨[0,1,2],(.dat Tv (.dat XA (.dat Z33 .nil))),.nil⟩
def o27:Abs.Sg:=⟨[6,7],(.st gN bn),(.box 4 (.agg (.dat (.int .i64) (.part Z1 (1,0) (.st (.own Z6 (2,0)) bn))) .nil) (.arr Z1 false qY))⟩
def UI(v:((lK×(Int×(List Y3)×eF×Int×Unit)×(Int×bW×Bool×Unit)×Unit)×(Unit))):Option ((Int×Unit)×(((Int×(Nat×Nat)×Int×Unit)×Unit)×(List Y3)×eF×Unit)):=
(((Un ((v.1.1,v.1.2.1,()),())).bind fun n=>
bif (!n.1.1) then(some ((true,()),((0,0,()),()),(v.1.2.1,()),v.1.2.2,(v.1.1,()),()))
else((WX ((v.1.2.2.1.2.1,()),())).bind fun o=>
some (((!o.1.1),()),((0,0,()),()),(v.1.2.1,()),v.1.2.2,(v.1.1,()),()))):Option ((Bool×Unit)×(j4×wu×((Int×bW×Bool×Unit)×Unit)×(lK×Unit)×Unit))).bind fun d=>
bif d.1.1 then(some ((8,()),((0,(0,0),0,()),()),[],[],()))
else((m67 ((d.2.2.1.1,d.2.2.2.1.1.1,()),())).bind fun k=>
bif ((k.1.1:Int) !=0) then(some (k.1,((0,(0,0),0,()),()),[],[],()))
else((m64 (d.2.2.1,())).bind fun l=>
(m68 ((d.2.2.2.2.1.1.1,d.2.2.2.1.1.2.1,()),())).bind fun m=>
(aB vE ((0,((m.2.1.length:Nat):Int),()),d.2.1,((d.2.2.2.1.1.1,l.2.1.1.2),()),d.2.2.2.1,d.2.2.2.2.1,m.2.1,l.2.2)).bind fun p=>
au p (fun f=>(some (f.1,((f.2.1.1.1,(0,0),f.2.1.1.2),()),[],[],()))) (fun b=>((((((aB OC ((0,((b.2.2.2.2.1.length:Nat):Int),()),b.2.2.2.2.1,b.2.2.2.1,b.2.2.1,b.2.2.2.2.2)).bind fun q=>
au q (fun g=>(bif (decide (g.2.1.length=b.2.2.2.2.1.length)&&(decide (g.2.2.2.2.1.length=b.2.2.2.2.2.1.length)&&true)) then
some g
else none)) (fun h=>(bif (decide (h.2.1.length=b.2.2.2.2.1.length)&&(decide (h.2.2.2.2.1.length=b.2.2.2.2.2.1.length)&&true)) then
some (((-1),()),h.2)
else none))):Option ((Int×Unit)×JI)).bind fun c=>
bif ((c.1.1:Int)==(-1)) then(bif (decide (c.2.1.length=b.2.2.2.2.1.length)&&(decide (c.2.2.2.2.1.length=b.2.2.2.2.2.1.length)&&true)) then
some ((),c.2.1,c.2.2.2.2.1,((0,0,()),()),((c.2.2.2.1.1.1,(0,c.2.1.length),c.2.2.2.1.1.2),()),())
else none)
else((aB OU (((aT (c.1.1+1)),c.1),c.2)).bind fun a=>
bif (decide ((0:Int) ≤a.1.1)) then
bif (decide (a.1.1.toNat≤a.2.1.length∧a.2.1.length≤a.2.1.length)) then
bif (decide (a.1.1.toNat+(a.2.1.length - a.1.1.toNat) ≤a.2.1.length)) then
let j:=(bU a.2.1 a.1.1.toNat (List.replicate (a.2.1.length - a.1.1.toNat) ((0,ByteArray.empty,[],0,0,()):Y3)))
bif (decide ((0:Int) ≤a.1.1)) then
bif (decide (0≤a.1.1.toNat∧a.1.1.toNat≤j.length)) then
bif (decide (j.length=b.2.2.2.2.1.length)&&(decide (a.2.2.2.2.1.length=b.2.2.2.2.2.1.length)&&true)) then
some ((),j,a.2.2.2.2.1,((0,0,()),()),((a.2.2.2.1.1.1,(0,a.1.1.toNat),a.2.2.2.1.1.2),()),())
else none
else none
else none
else none
else none
else none)):Option ((Unit)×((List Y3)×eF×j4×((Int×(Nat×Nat)×Int×Unit)×Unit)×Unit))).bind fun e=>
bif (decide (e.2.1.length=b.2.2.2.2.1.length)&&(decide (e.2.2.1.length=b.2.2.2.2.2.1.length)&&true)) then
let r:=(decide ((((e.2.2.2.2.1.1.2.1.2:Nat):Int):Int)>64))
bif r then(some ((5,()),((0,(0,0),0,()),()),[],[],()))
else(some ((0,()),e.2.2.2.2.1,e.2.1,e.2.2.1,()))
else none))))
def agq:Abs.Spec:=⟨0,i27,o27,UI⟩
def ahI:Nat→Abs.aW
 |0=>Abs.aW.mk (fun
  |13=>some ⟨[72,6,4,5,3,44,45,46,12,10,11,13],(.dat .bool (.st gN (.st q9 (.st (.ptr (2,0) 3 0 0) (.st (.ptr (3,0) 3 0 0) (.st (.own (.int .i64) (4,0)) (.dat (.int .i64) (.dat (.int .i64) (.dat (.int .i64) (.dat (.int .i64) (.dat .str dQ))))))))))),Xz⟩
  |1=>some ⟨[25,6,4,5,3],(.dat .bool (.st gN (.st q9 (.st (.ptr (2,0) 3 0 0) (.st (.ptr (3,0) 3 0 0) .nil))))),(.box 4 qF (.box 4 qU (.box 3 (.dat Z33 .nil) (.box 3 oH .nil))))⟩
  |_=>none) (fun
  |20=>some (⟨[6,4,5,3,44,45,46],(.st gN (.st q9 (.st (.ptr (2,0) 3 0 0) (.st (.ptr (3,0) 3 0 0) (.st (.own (.int .i64) (4,0)) nk))))),Xz⟩,some (.one .ret ⟨[6,7],(.st gN bn),(.box 4 qF .nil)⟩))
  |16=>some (⟨[6,4,5,3,44,45,46,12,10],(.st gN (.st q9 (.st (.ptr (2,0) 3 0 0) (.st (.ptr (3,0) 3 0 0) (.st (.own (.int .i64) (4,0)) (.dat (.int .i64) EM)))))),Xz⟩,none)
  |_=>none) (fun
  |9=>some ⟨⟨[46,6,4,5,3,44,45],(.dat (.int .i64) (.st gN (.st q9 (.st (.ptr (2,0) 3 0 0) (.st (.ptr (3,0) 3 0 0) (.st (.own (.int .i64) (4,0)) bn)))))),Xz⟩,(.more .ret ⟨[6,7],(.st gN bn),(.box 4 qF .nil)⟩ (.one (.exit 0) ⟨[6,4,3],(.st gN (.st q9 (.st (.ptr (2,0) 3 0 0) .nil))),(.box 4 qF (.box 4 (.agg (.dat (.int .i64) (.st (.own Z1 (3,0)) (.st (.own Z6 (4,0)) bn))) .nil) (.box 3 oH (.arr Z1 false qY))))⟩))⟩
  |_=>none) (fun
  |21,2=>5
  |12,4=>1
  |_,_=>0)
 |1=>Abs.aW.mk (fun _=>none) (fun _=>none) (fun _=>none) (fun
  |1,3=>2
  |_,_=>0)
 |2=>Abs.aW.mk (fun
  |8=>some ⟨[6,7],(.dat (.int .i64) dQ),(.arr Z1 false (.box 1 bn .nil))⟩
  |_=>none) (fun _=>none) (fun
  |3=>some ⟨⟨[1,0,2,10,9,8],(.dat .str (.st (.own Z1 (0,0)) (.st (.clo 121 [((1,0),1,0,0)]) EM))),(.arr Z1 false (.box 1 bn .nil))⟩,(.one (.exit 0) ⟨[1,9,0,2,8],(.dat .str (.dat (.int .i64) (.st (.own Z1 (0,0)) (.st (.clo 121 [((1,0),1,0,0)]) bn)))),(.arr Z1 false (.box 1 bn .nil))⟩)⟩
  |_=>none) (fun
  |8,11=>4
  |5,6=>3
  |_,_=>0)
 |5=>Abs.aW.mk (fun
  |1=>some ⟨[4,3],(.st (.ptr (2,0) 4 0 0) (.st (.ptr (3,0) 4 0 0) .nil)),(.arr Z1 false (.arr Z6 false (.box 4 qF (.box 4 (.agg (.dat (.int .i64) (.part Z1 (0,0) (.st (.own Z6 (1,0)) bn))) .nil) .nil))))⟩
  |_=>none) (fun _=>none) (fun _=>none) (fun
  |1,3=>6
  |_,_=>0)
 |6=>Abs.aW.mk (fun
  |1=>some ⟨[0,5,1],(.st (.own Z1 (0,0)) (.dat (.int .i64) Xd)),Om⟩
  |_=>none) (fun
  |6=>some (⟨[5,0,1,6],Xq,Om⟩,none)
  |_=>none) (fun
  |5=>some ⟨⟨[6,5,0,1],(.dat (.int .i64) (.dat (.int .i64) (.st (.own Z1 (0,0)) Xd))),Om⟩,(.one (.exit 0) ⟨[5,0],(.dat (.int .i64) (.st (.own Z1 (0,0)) .nil)),Om⟩)⟩
  |_=>none) (fun
  |8,2=>9
  |1,2=>7
  |_,_=>0)
 |7=>Abs.aW.mk (fun _=>none) (fun _=>none) (fun
  |2=>some ⟨⟨[8,0,1,7],Xq,Om⟩,(.more .ret ⟨[4],bn,Om⟩ (.one (.exit 0) ⟨[],.nil,Om⟩))⟩
  |_=>none) (fun
  |4,5=>8
  |_,_=>0)
 |_=>{}
theorem Yr:Abs.aD Tryz.prog 27 agq:=
 okW (an:=ahI) (bg Qd (bg Qa (bg ac8 (bg Vy (bg agb (bg ab9 (bg adv (bg af0 (bg aeP (bg Zl dZ)))))))))) rfl (by intro v;kernel_rfl)
def Wo(v:((Int×Unit)×((((List Y8)×(List kU)×Int×Int×(Nat×Nat)×Int×Int×Unit)×Unit)×(List Y3)×eF×(List FN)×Unit))):Option (((Int×Unit)×((((List Y8)×(List kU)×Int×Int×(Nat×Nat)×Int×Int×Unit)×Unit)×(List Y3)×eF×(List FN)×Unit)) ⊕((Int×Unit)×((((List Y8)×(List kU)×Int×Int×(Nat×Nat)×Int×Int×Unit)×Unit)×(List Y3)×eF×(List FN)×Unit))):=
bif (decide (v.2.1.1.2.2.2.2.1.1+v.2.1.1.2.2.2.2.1.2≤v.2.2.1.length)) then
(m30 (((v.2.1.1.2.2.2.1,((v.2.2.1.drop v.2.1.1.2.2.2.2.1.1).take v.2.1.1.2.2.2.2.1.2),v.2.2.2.1,v.2.1.1.2.2.2.2.2.1,()),()),())).bind fun c=>
((bif (!c.1.2.1) then(some ((true,v.1.1,c.1.1,()),v.2))
else(some (((decide ((c.1.1:Int) ≥v.1.1)),v.1.1,c.1.1,()),v.2))):Option ((Bool×Int×Int×Unit)×((((List Y8)×(List kU)×Int×Int×(Nat×Nat)×Int×Int×Unit)×Unit)×(List Y3)×eF×(List FN)×Unit))).bind fun a=>
bif a.1.1 then(some (.inr ((0,()),a.2)))
else(let d:=(decide (((aT (a.2.1.1.2.2.2.2.2.2.1+1)):Int)>1000))
bif d then(some (.inr ((5,()),((a.2.1.1.1,a.2.1.1.2.1,a.2.1.1.2.2.1,a.2.1.1.2.2.2.1,a.2.1.1.2.2.2.2.1,a.2.1.1.2.2.2.2.2.1,(aT (a.2.1.1.2.2.2.2.2.2.1+1)),()),()),a.2.2)))
else(let e:=(if(a.2.1.1.2.2.2.1:Int)>a.1.2.2.1 then a.2.1.1.2.2.2.1 else a.1.2.2.1)
bif (decide (a.2.1.1.2.2.2.2.1.1+a.2.1.1.2.2.2.2.1.2≤a.2.2.1.length)) then
(ZX (((a.2.1.1.1,a.2.1.1.2.1,a.2.1.1.2.2.1,()),(a.2.1.1.2.2.2.1,((a.2.2.1.drop a.2.1.1.2.2.2.2.1.1).take a.2.1.1.2.2.2.2.1.2),a.2.2.2.1,a.2.1.1.2.2.2.2.2.1,()),e,()),())).bind fun b=>
bif (decide (a.2.2.2.2.1.length+b.2.2.1.length≤4294967296)) then
some (.inl ((a.1.2.1,()),((a.2.1.1.1,a.2.1.1.2.1,a.2.1.1.2.2.1,b.2.1.1.1,b.2.1.1.2.1,b.2.1.1.2.2.1,(aT (a.2.1.1.2.2.2.2.2.2.1+1)),()),()),b.2.2.2.1,b.2.2.2.2.1,(a.2.2.2.2.1++b.2.2.1),()))
else none
else none))
else none
def TW(v:((Int×(List (Int×bW×Bool×Unit))×Int×Int×Unit)×(j4×(((List Y8)×(List kU)×Int×Int×(Nat×Nat)×Int×Int×Unit)×Unit)×(lK×Unit)×(List Y3)×eF×(List FN)×Unit))):Option (((Int×(List (Int×bW×Bool×Unit))×Int×Int×Unit)×(j4×(((List Y8)×(List kU)×Int×Int×(Nat×Nat)×Int×Int×Unit)×Unit)×(lK×Unit)×(List Y3)×eF×(List FN)×Unit)) ⊕(((Int×Unit)×(j4×(List FN)×Unit)) ⊕((Int×Unit)×(j4×(((List Y8)×(List kU)×Int×Int×(Nat×Nat)×Int×Int×Unit)×Unit)×(List Y3)×eF×(List FN)×Unit)))):=
bif (decide ((v.1.1:Int)< v.1.2.2.2.1)) then(Abs.rowAt v.1.2.1 v.1.1 fun c _=>
(aB Wo ((c.1,()),v.2.2.1,v.2.2.2.2)).bind fun a=>
bif (decide (v.2.2.2.2.1.length=v.2.2.2.2.1.length)&&(decide (v.2.2.2.2.2.1.length=v.2.2.2.2.2.1.length)&&(decide (v.2.2.2.2.2.2.1.length=v.2.2.2.2.2.2.1.length)&&true))) then
bif ((a.1.1:Int) !=0) then(some (.inr (.inl (a.1,((0,0,()),()),[],()))))
else(bif (decide (a.2.1.1.2.2.2.2.1.1+a.2.1.1.2.2.2.2.1.2≤a.2.2.1.length)) then
(UI ((v.2.2.2.1.1,(a.2.1.1.2.2.2.1,((a.2.2.1.drop a.2.1.1.2.2.2.2.1.1).take a.2.1.1.2.2.2.2.1.2),a.2.2.2.1,a.2.1.1.2.2.2.2.2.1,()),c,()),())).bind fun b=>
bif ((b.1.1:Int) !=0) then(some (.inr (.inl (b.1,((0,0,()),()),[],()))))
else(some (.inl (((aT (v.1.1+1)),v.1.2),v.2.1,((a.2.1.1.1,a.2.1.1.2.1,a.2.1.1.2.2.1,b.2.1.1.1,b.2.1.1.2.1,b.2.1.1.2.2.1,a.2.1.1.2.2.2.2.2.2),()),v.2.2.2.1,b.2.2.1,b.2.2.2.1,a.2.2.2.2)))
else none)
else none)
else(some (.inr (.inr ((v.1.2.2.1,()),v.2.1,v.2.2.1,v.2.2.2.2))))
def Vw(v:((Int×Unit)×((((List Y8)×(List kU)×Int×Int×(Nat×Nat)×Int×Int×Unit)×Unit)×(List Y3)×eF×(List FN)×Unit))):Option (((Int×Unit)×((((List Y8)×(List kU)×Int×Int×(Nat×Nat)×Int×Int×Unit)×Unit)×(List Y3)×eF×(List FN)×Unit)) ⊕((Int×Unit)×((((List Y8)×(List kU)×Int×Int×(Nat×Nat)×Int×Int×Unit)×Unit)×(List Y3)×eF×(List FN)×Unit))):=
bif (decide (v.2.1.1.2.2.2.2.1.1+v.2.1.1.2.2.2.2.1.2≤v.2.2.1.length)) then
(m30 (((v.2.1.1.2.2.2.1,((v.2.2.1.drop v.2.1.1.2.2.2.2.1.1).take v.2.1.1.2.2.2.2.1.2),v.2.2.2.1,v.2.1.1.2.2.2.2.2.1,()),()),())).bind fun c=>
((bif (!c.1.2.1) then(some ((true,v.1.1,c.1.1,()),v.2))
else(some (((decide ((c.1.1:Int) ≥v.1.1)),v.1.1,c.1.1,()),v.2))):Option ((Bool×Int×Int×Unit)×((((List Y8)×(List kU)×Int×Int×(Nat×Nat)×Int×Int×Unit)×Unit)×(List Y3)×eF×(List FN)×Unit))).bind fun a=>
bif a.1.1 then(some (.inr ((0,()),a.2)))
else(let d:=(decide (((aT (a.2.1.1.2.2.2.2.2.2.1+1)):Int)>1000))
bif d then(some (.inr ((5,()),((a.2.1.1.1,a.2.1.1.2.1,a.2.1.1.2.2.1,a.2.1.1.2.2.2.1,a.2.1.1.2.2.2.2.1,a.2.1.1.2.2.2.2.2.1,(aT (a.2.1.1.2.2.2.2.2.2.1+1)),()),()),a.2.2)))
else(let e:=(if(a.2.1.1.2.2.2.1:Int)>a.1.2.2.1 then a.2.1.1.2.2.2.1 else a.1.2.2.1)
bif (decide (a.2.1.1.2.2.2.2.1.1+a.2.1.1.2.2.2.2.1.2≤a.2.2.1.length)) then
(ZX (((a.2.1.1.1,a.2.1.1.2.1,a.2.1.1.2.2.1,()),(a.2.1.1.2.2.2.1,((a.2.2.1.drop a.2.1.1.2.2.2.2.1.1).take a.2.1.1.2.2.2.2.1.2),a.2.2.2.1,a.2.1.1.2.2.2.2.2.1,()),e,()),())).bind fun b=>
bif (decide (a.2.2.2.2.1.length+b.2.2.1.length≤4294967296)) then
some (.inl ((a.1.2.1,()),((a.2.1.1.1,a.2.1.1.2.1,a.2.1.1.2.2.1,b.2.1.1.1,b.2.1.1.2.1,b.2.1.1.2.2.1,(aT (a.2.1.1.2.2.2.2.2.2.1+1)),()),()),b.2.2.2.1,b.2.2.2.2.1,(a.2.2.2.2.1++b.2.2.1),()))
else none
else none))
else none
def i15:Abs.Sg:=⟨[0,1,2],(.dat Tv (.dat (.row Z33) bn)),.nil⟩
def o15:Abs.Sg:=⟨[6,7,8],(.st gN (.st (.own JL (1,0)) bn)),ZG⟩
def m15(v:((lK×(List (Int×bW×Bool×Unit))×Int×Unit)×(Unit))):Option ((Int×Unit)×(((Int×(Nat×Nat)×Int×Unit)×Unit)×(List FN)×(List Y3)×eF×Unit)):=
(ZV ((v.1.1,()),())).bind fun e=>
bif ((e.1.1:Int) !=0) then(some (e.1,((0,(0,0),0,()),()),[],[],[],()))
else(bif (decide (((v.1.2.1.length:Int):Int)>256)) then(some ((5,()),((0,(0,0),0,()),()),[],[],[],()))
else(((bif (decide ((v.1.2.2.1:Int)< 0)) then(some ((true,v.1.2.2.1,v.1.2.1,()),((0,0,()),()),(v.1.1,()),()))
else(some (((decide ((v.1.2.2.1:Int)>8589934592)),v.1.2.2.1,v.1.2.1,()),((0,0,()),()),(v.1.1,()),()))):Option ((Bool×Int×(List (Int×bW×Bool×Unit))×Unit)×(j4×(lK×Unit)×Unit))).bind fun a=>
bif a.1.1 then(some ((1,()),((0,(0,0),0,()),()),[],[],[],()))
else((m26 ((),())).bind fun f=>
(aB TW ((0,a.1.2.2.1,a.1.2.1,(a.1.2.2.1.length:Int),()),a.2.1,((a.2.2.1.1.1,a.2.2.1.1.2.1,a.2.2.1.1.2.2.1,f.2.1.1.1,(0,0),f.2.1.1.2.1,0,()),()),a.2.2.1,[],[],[],())).bind fun g=>
au g (fun d=>(some (d.1,((d.2.1.1.1,(0,0),d.2.1.1.2),()),d.2.2.1,[],[],()))) (fun b=>((aB Vw (((aT (b.1.1+1)),()),b.2.2)).bind fun c=>
bif (decide (b.2.2.2.1.length=b.2.2.2.1.length)&&(decide (b.2.2.2.2.1.length=b.2.2.2.2.1.length)&&(decide (b.2.2.2.2.2.1.length=b.2.2.2.2.2.1.length)&&true))) then
bif ((c.1.1:Int) !=0) then(some (c.1,((0,(0,0),0,()),()),[],[],[],()))
else(some ((0,()),((c.2.1.1.2.2.2.1,c.2.1.1.2.2.2.2.1,c.2.1.1.2.2.2.2.2.1,()),()),c.2.2.2.2.1,c.2.2.1,c.2.2.2.1,()))
else none)))))
def ahv:Abs.Spec:=⟨0,i15,o15,m15⟩
def aeK:Nat→Abs.aW
 |0=>Abs.aW.mk (fun
  |6=>some ⟨[27,6,3,2,1],(.dat .bool (.st gN (.st (.ptr (1,0) 3 0 0) (.dat (.int .i64) (.dat (.row Z33) .nil))))),(.box 4 qF (.box 3 oH .nil))⟩
  |_=>none) (fun _=>none) (fun
  |10=>some ⟨⟨[6,41,10,3,39,2,40],(.st gN (.dat (.int .i64) (.st (.ptr (1,0) 9 0 0) (.st (.ptr (2,0) 3 0 0) (.dat (.row Z33) nk))))),(.box 4 qF (.box 9 (.agg (.dat (.row Z5) (.dat (.row qo) (.dat (.int .i64) (.dat (.int .i64) (.part Z1 (3,0) (.st (.own Z6 (4,0)) (.dat (.int .i64) (.st (.own JL (5,0)) bn)))))))) .nil) (.box 3 oH (.arr Z1 false (.arr Z6 false (.arr JL false .nil))))))⟩,(.more .ret ⟨[6,7,8],(.st gN (.st (.own JL (1,0)) bn)),(.box 4 qF (.arr JL false .nil))⟩ (.one (.exit 1) ⟨[6,10,2],(.st gN (.st (.ptr (1,0) 9 0 0) bn)),(.box 4 qF (.box 9 (.agg (.dat (.row Z5) (.dat (.row qo) (.dat (.int .i64) (.dat (.int .i64) (.part Z1 (2,0) (.st (.own Z6 (3,0)) (.dat (.int .i64) (.st (.own JL (4,0)) bn)))))))) .nil) (.arr Z1 false (.arr Z6 false (.arr JL false .nil)))))⟩))⟩
  |_=>none) (fun
  |19,3=>3
  |12,3=>2
  |_,_=>0)
 |1=>Abs.aW.mk (fun
  |2=>some ⟨[23,0,1,5],(.dat .bool (.st (.ptr (0,0) 9 0 0) nk)),Vg⟩
  |_=>none) (fun _=>none) (fun
  |1=>some ⟨⟨[0,1],(.st (.ptr (0,0) 9 0 0) bn),Vg⟩,(.one .ret ⟨[4],bn,Vg⟩)⟩
  |_=>none) (fun _ _=>0)
 |2=>Abs.aW.mk (fun
  |2=>some ⟨[23,0,1,5],(.dat .bool (.st (.ptr (0,0) 9 0 0) nk)),Vg⟩
  |_=>none) (fun _=>none) (fun
  |1=>some ⟨⟨[0,1],(.st (.ptr (0,0) 9 0 0) bn),Vg⟩,(.one .ret ⟨[4],bn,Vg⟩)⟩
  |_=>none) (fun _ _=>0)
 |3=>Abs.aW.mk (fun
  |2=>some ⟨[23,0,1,5],(.dat .bool (.st (.ptr (0,0) 9 0 0) nk)),Vg⟩
  |_=>none) (fun _=>none) (fun
  |1=>some ⟨⟨[0,1],(.st (.ptr (0,0) 9 0 0) bn),Vg⟩,(.one .ret ⟨[4],bn,Vg⟩)⟩
  |_=>none) (fun _ _=>0)
 |_=>{}
theorem agf:Abs.aD Tryz.prog 15 ahv:=
 okW (an:=aeK) (bg ZC (bg YK (bg adj (bg aak (bg Yr dZ))))) rfl (by intro v;kernel_rfl)
def i63:Abs.Sg:=⟨[0,1],(.dat (.row Z6) (.dat Z6 .nil)),.nil⟩
def o63:Abs.Sg:=⟨[4,5],(.st (.own Z6 (0,0)) bn),qY⟩
def m63(v:((eF×Ma×Unit)×(Unit))):Option ((Int×Unit)×(eF×Unit)):=
(Mh ((v.1.1,()),())).bind fun a=>
(Mh ((([v.1.2.1]:List Ma),()),())).bind fun b=>
bif (decide (a.2.1.length+b.2.1.length≤4294967296)) then
(m81 (((a.2.1++b.2.1),()),())).bind fun c=>
bif ((c.1.1:Int) !=0) then(some (c.1,[],()))
else(some ((0,()),(a.2.1++b.2.1),()))
else none
def afn:Abs.Spec:=⟨0,i63,o63,m63⟩
def agJ:Nat→Abs.aW
 |_=>{}
theorem agK:Abs.aD Tryz.prog 63 afn:=
 okW (an:=agJ) (bg Rm (bg Yg dZ)) rfl (by intro v;kernel_rfl)
def ahe:Abs.Sg:=⟨[0],(.dat Z7 .nil),.nil⟩
def afi:Abs.Sg:=⟨[2],dQ,.nil⟩
def X4(v:((Y9×Unit)×(Unit))):Option fH:=
some (((!v.1.1.2.2.2.2.2.1),()),())
def abj:Abs.Spec:=⟨0,ahe,afi,X4⟩
def ady:Nat→Abs.aW
 |_=>{}
theorem XM:Abs.aD Tryz.prog 114 abj:=
 okW (an:=ady) dZ rfl (by intro v;kernel_rfl)
def yD(v:((Int×(List Y9)×Int×Unit)×(Unit))):Option (((Int×(List Y9)×Int×Unit)×(Unit)) ⊕(((Int×Unit)×(Unit)) ⊕((Unit)×(Unit)))):=
bif (decide ((v.1.1:Int)< v.1.2.2.1)) then(Abs.rowAt v.1.2.1 v.1.1 fun a _=>
(X4 ((a,()),())).bind fun b=>
bif b.1.1 then(some (.inr (.inl ((v.1.1,()),()))))
else(some (.inl (((aT (v.1.1+1)),v.1.2),()))))
else(some (.inr (.inr ((),()))))
def uX(v:((Int×Int×Int×Unit)×(j4×(List Y3)×eF×Unit))):Option (((Int×Int×Int×Unit)×(j4×(List Y3)×eF×Unit)) ⊕((Unit)×(j4×(List Y3)×eF×Unit))):=
bif (decide ((v.1.1:Int)< v.1.2.2.1)) then(((bif (decide ((0:Int) ≤v.1.1∧(v.1.1:Int)< v.2.2.1.length)) then
(v.2.2.1[v.1.1.toNat]?).bind fun b=>
(((((aB yD ((0,b.2.2.1,(b.2.2.1.length:Int),()),())).bind fun e=>
au e (fun f=>(some (((decide ((f.1.1:Int) ≥0)),()),()))) (fun h=>(some ((false,()),())))):Option fH).bind fun g=>
bif g.1.1 then(bif ((b.2.2.2.1:Int)==(-1)) then(some ((true,v.1.2.1,v.1.2.2.1,v.1.1,v.1.1,()),v.2))
else(some (((decide ((b.2.2.2.1:Int)>v.1.2.1)),v.1.2.1,v.1.2.2.1,v.1.1,v.1.1,()),v.2)))
else(some ((false,v.1.2.1,v.1.2.2.1,v.1.1,v.1.1,()),v.2))):Option ((Bool×Int×Int×Int×Int×Unit)×(j4×(List Y3)×eF×Unit))).bind fun a=>
bif a.1.1 then(bif (decide ((0:Int) ≤a.1.2.2.2.2.1∧(a.1.2.2.2.2.1:Int)< a.2.2.1.length)) then
(a.2.2.1[a.1.2.2.2.2.1.toNat]?).bind fun c=>
some ((a.1.2.1,a.1.2.2.1,a.1.2.2.2.1,()),a.2.1,(a.2.2.1.set a.1.2.2.2.2.1.toNat (c.1,c.2.1,c.2.2.1,a.1.2.1,c.2.2.2.2)),a.2.2.2)
else none)
else(some ((a.1.2.1,a.1.2.2.1,a.1.2.2.2.1,()),a.2))
else none):Option ((Int×Int×Int×Unit)×(j4×(List Y3)×eF×Unit))).bind fun d=>
some (.inl (((aT (d.1.2.2.1+1)),d.1.1,d.1.2.1,()),d.2)))
else(some (.inr ((),v.2)))
def i25:Abs.Sg:=⟨[0,1,2],(.dat Tv (.dat XA (.dat Z6 .nil))),.nil⟩
def o25:Abs.Sg:=⟨[6,7,8],(.st gN nk),TK⟩
def W9(v:((lK×(Int×(List Y3)×eF×Int×Unit)×Ma×Unit)×(Unit))):Option ((Int×Int×Unit)×(j4×(List Y3)×eF×Unit)):=
(Un ((v.1.1,v.1.2.1,()),())).bind fun d=>
bif (!d.1.1) then(some ((0,8,()),((0,0,()),()),[],[],()))
else(bif (decide ((v.1.2.1.2.2.2.1:Int) ≥8589934592)) then(some ((0,5,()),((0,0,()),()),[],[],()))
else((m63 ((v.1.2.1.2.2.1,(v.1.2.1.2.2.2.1,v.1.2.2.1.2),()),())).bind fun b=>
bif ((b.1.1:Int) !=0) then(some ((0,b.1),((0,0,()),()),[],[],()))
else((m64 ((v.1.2.1,()),())).bind fun a=>
(aB uX ((0,v.1.2.2.1.2.2.1,((a.2.2.1.length:Nat):Int),()),((a.2.1.1.1,(aT (a.2.1.1.2.1+1)),()),()),a.2.2.1,b.2)).bind fun c=>
bif (decide (c.2.2.1.length=a.2.2.1.length)&&(decide (c.2.2.2.1.length=b.2.1.length)&&true)) then
some ((v.1.2.1.2.2.2.1,0,()),c.2)
else none)))
def afy:Abs.Spec:=⟨0,i25,o25,W9⟩
def agP:Nat→Abs.aW
 |0=>Abs.aW.mk (fun _=>none) (fun _=>none) (fun _=>none) (fun
  |12,2=>1
  |_,_=>0)
 |1=>Abs.aW.mk (fun
  |3=>some ⟨[29,1,0,9,10,11,4],(.dat .bool (.dat (.int .i64) (.st gN (.st (.own Z1 (1,0)) EM)))),TK⟩
  |_=>none) (fun
  |5=>some (⟨[1,0,9,10,11],(.dat (.int .i64) (.st gN (.st (.own Z1 (1,0)) nk))),TK⟩,none)
  |_=>none) (fun
  |1=>some ⟨⟨[11,1,0,9,10],(.dat (.int .i64) (.dat (.int .i64) (.st gN (.st (.own Z1 (1,0)) bn)))),TK⟩,(.one (.exit 0) ⟨[],.nil,TK⟩)⟩
  |_=>none) (fun
  |3,2=>2
  |_,_=>0)
 |2=>Abs.aW.mk (fun
  |1=>some ⟨[4],dQ,.nil⟩
  |_=>none) (fun _=>none) (fun _=>none) (fun
  |1,2=>3
  |_,_=>0)
 |3=>Abs.aW.mk (fun _=>none) (fun _=>none) (fun
  |2=>some ⟨⟨[8,0,1,7],(.dat (.int .i64) (.dat (.row Z7) (.st (.clo 114 []) bn))),.nil⟩,(.more .ret ⟨[4],bn,.nil⟩ (.one (.exit 0) ⟨[],.nil,.nil⟩))⟩
  |_=>none) (fun _ _=>0)
 |_=>{}
theorem ab0:Abs.aD Tryz.prog 25 afy:=
 okW (an:=agP) (bg Qd (bg agK (bg Vy (bg XM dZ)))) rfl (by intro v;kernel_rfl)
def i28:Abs.Sg:=⟨[0,1,2],(.dat Tv (.dat XA bn)),.nil⟩
def o28:Abs.Sg:=⟨[6,7,8],(.st gN (.st (.own JL (1,0)) bn)),ZG⟩
def XY(v:((lK×(Int×(List Y3)×eF×Int×Unit)×Int×Unit)×(Unit))):Option ((Int×Unit)×(((Int×(Nat×Nat)×Int×Unit)×Unit)×(List FN)×(List Y3)×eF×Unit)):=
(Un ((v.1.1,v.1.2.1,()),())).bind fun b=>
bif (!b.1.1) then(some ((8,()),((0,(0,0),0,()),()),[],[],[],()))
else((m67 (v.1.2,())).bind fun a=>
bif ((a.1.1:Int) !=0) then(some (a.1,((0,(0,0),0,()),()),[],[],[],()))
else((ZX v).bind fun c=>
some ((0,()),c.2)))
def afv:Abs.Spec:=⟨0,i28,o28,XY⟩
def afU:Nat→Abs.aW
 |_=>{}
theorem aaQ:Abs.aD Tryz.prog 28 afv:=
 okW (an:=afU) (bg Qd (bg ac8 (bg aak dZ))) rfl (by intro v;kernel_rfl)
def i10:Abs.Sg:=⟨[],.nil,.nil⟩
def o10:Abs.Sg:=⟨[0],dQ,.nil⟩
def m10(v:((Unit)×(Unit))):Option fH:=
(m15 (((([((-1),[],0,[],30,300,3600,false,())]:List Y8),[],0,()),([(100,([((bs [97]),(bs [120]),())]:List (ByteArray×ByteArray×Unit)),true,())]:List (Int×bW×Bool×Unit)),200,()),())).bind fun d=>
(m26 ((),())).bind fun e=>
(W9 (((([((-1),[],0,[],30,300,3600,false,())]:List Y8),[],0,()),(e.2.1.1.1,[],[],e.2.1.1.2),(0,0,1000,0,([((bs [97]),0,(bs [120]),())]:List Ke),()),()),())).bind fun c=>
(UI (((([((-1),[],0,[],30,300,3600,false,())]:List Y8),[],0,()),(c.2.1.1.1,c.2.2.1,c.2.2.2.1,c.2.1.1.2),(100,([((bs [97]),(bs [120]),())]:List (ByteArray×ByteArray×Unit)),true,()),()),())).bind fun b=>
bif (decide (b.2.1.1.2.1.1+b.2.1.1.2.1.2≤b.2.2.1.length)) then
(XY (((([((-1),[],0,[],30,300,3600,false,())]:List Y8),[],0,()),(b.2.1.1.1,((b.2.2.1.drop b.2.1.1.2.1.1).take b.2.1.1.2.1.2),b.2.2.2.1,b.2.1.1.2.2),130,()),())).bind fun a=>
bif (decide (a.2.1.1.2.1.1+a.2.1.1.2.1.2≤a.2.2.2.1.length)) then
(m30 (((a.2.1.1.1,((a.2.2.2.1.drop a.2.1.1.2.1.1).take a.2.1.1.2.1.2),a.2.2.2.2.1,a.2.1.1.2.2),()),())).bind fun f=>
((bif ((d.1.1:Int)==0) then(bif ((c.1.2.1:Int)==0) then(bif ((b.1.1:Int)==0) then(bif ((a.1.1:Int)==0) then(bif ((((d.2.2.1.length:Nat):Int):Int)==1) then(bif (decide ((0:Int) ≤0∧(0:Int)< d.2.2.1.length)) then
(d.2.2.1[0]?).bind fun g=>
bif ((g.1:Int)==130) then(bif ((c.1.1:Int)==1) then(bif ((((a.2.2.1.length:Nat):Int):Int)==0) then(bif f.1.2.1 then(bif ((f.1.1:Int)==430) then(bif (decide (a.2.1.1.2.1.1+a.2.1.1.2.1.2≤a.2.2.2.1.length)) then
bif (vW ((a.2.2.2.1.drop a.2.1.1.2.1.1).take a.2.1.1.2.1.2)) then
bif (decide (a.2.2.2.1.length=a.2.2.2.1.length)&&(decide (a.2.2.2.2.1.length=a.2.2.2.2.1.length)&&true)) then
let h:=((((o6 ((a.2.2.2.1.drop a.2.1.1.2.1.1).take a.2.1.1.2.1.2)).length:Int):Int)==1)
bif h then((ZV (((([((-1),[],0,[],30,300,3600,false,())]:List Y8),[],0,()),()),())).bind fun j=>
bif ((j.1.1:Int)==0) then(bif (decide (a.2.1.1.2.1.1+a.2.1.1.2.1.2≤a.2.2.2.1.length)) then
(Un (((([((-1),[],0,[],30,300,3600,false,())]:List Y8),[],0,()),(a.2.1.1.1,((a.2.2.2.1.drop a.2.1.1.2.1.1).take a.2.1.1.2.1.2),a.2.2.2.2.1,a.2.1.1.2.2),()),())).bind fun k=>
some k
else none)
else(some ((false,()),())))
else(some ((false,()),()))
else none
else none
else none)
else(some ((false,()),())))
else(some ((false,()),())))
else(some ((false,()),())))
else(some ((false,()),())))
else(some ((false,()),()))
else none)
else(some ((false,()),())))
else(some ((false,()),())))
else(some ((false,()),())))
else(some ((false,()),())))
else(some ((false,()),()))):Option fH).bind fun l=>
some l
else none
else none
def ahc:Abs.Spec:=⟨0,i10,o10,m10⟩
def agn:Nat→Abs.aW
 |0=>Abs.aW.mk (fun
  |8=>some ⟨[0],dQ,.nil⟩
  |_=>none) (fun _=>none) (fun _=>none) (fun _ _=>0)
 |_=>{}
theorem ahm:Abs.aD Tryz.prog 10 ahc:=
 okW (an:=agn) (bg agf (bg YK (bg ab0 (bg Yr (bg aaQ (bg adj (bg ZC (bg Qd dZ)))))))) rfl (by intro v;kernel_rfl)
def i11:Abs.Sg:=⟨[0],(.dat (.row (.int .i64)) .nil),.nil⟩
def o11:Abs.Sg:=⟨[2],(.st oJ .nil),rG⟩
def m11(v:(((List Int)×Unit)×(Unit))):Option ((Unit)×(lH×Unit)):=
some ((),((v.1.1,0,()),()),())
def afu:Abs.Spec:=⟨0,i11,o11,m11⟩
def ahw:Nat→Abs.aW
 |_=>{}
theorem ae0:Abs.aD Tryz.prog 11 afu:=
 okW (an:=ahw) dZ rfl (by intro v;kernel_rfl)
def i38:Abs.Sg:=⟨[0,1],(.st oJ bn),rG⟩
def o38:Abs.Sg:=⟨[4],bn,rG⟩
def Fp(v:((Int×Unit)×(lH×Unit))):Option ((Int×Unit)×(lH×Unit)):=
((let c:=(decide ((v.2.1.1.2.1:Int) ≥(v.2.1.1.1.length:Int)))
bif c then(some ((true,v.1),v.2))
else(some (((decide ((v.1.1:Int)< 1)),v.1),v.2))):Option ((Bool×Int×Unit)×(lH×Unit))).bind fun a=>
bif a.1.1 then(some ((0,()),a.2))
else(Abs.rowAt a.2.1.1.1 a.2.1.1.2.1 fun b _=>
bif (decide (a.1.2.1≠(0:Int))) then
((let d:=(decide ((((b:Int).tmod a.1.2.1):Int)< 0))
bif d then(some (((aT (((b:Int).tmod a.1.2.1)+a.1.2.1)),()),((a.2.1.1.1,(aT (a.2.1.1.2.1+1)),()),()),()))
else(some ((((b:Int).tmod a.1.2.1),()),((a.2.1.1.1,(aT (a.2.1.1.2.1+1)),()),()),()))):Option ((Int×Unit)×(lH×Unit))).bind fun e=>
some e
else none)
def agk:Abs.Spec:=⟨1,i38,o38,Fp⟩
def afO:Nat→Abs.aW
 |0=>Abs.aW.mk (fun
  |1=>some ⟨[19,1,0],(.dat .bool (.dat (.int .i64) (.st oJ .nil))),rG⟩
  |_=>none) (fun
  |7=>some (⟨[5],bn,rG⟩,none)
  |_=>none) (fun _=>none) (fun _ _=>0)
 |_=>{}
theorem FO:Abs.aD Tryz.prog 38 agk:=
 okW (an:=afO) dZ rfl (by intro v;kernel_rfl)
def i32:Abs.Sg:=⟨[0,1],(.st oJ (.dat (.row (.int .i64)) .nil)),rG⟩
def o32:Abs.Sg:=⟨[4],bn,rG⟩
def m32(v:(((List Int)×Unit)×(lH×Unit))):Option ((Int×Unit)×(lH×Unit)):=
(Fp (((v.1.1.length:Int),()),v.2)).bind fun a=>
Abs.rowAt v.1.1 a.1.1 fun b _=>
some ((b,()),a.2)
def afo:Abs.Spec:=⟨1,i32,o32,m32⟩
def aex:Nat→Abs.aW
 |_=>{}
theorem ok32:Abs.aD Tryz.prog 32 afo:=
 okW (an:=aex) (bg FO dZ) rfl (by intro v;kernel_rfl)
def i40:Abs.Sg:=⟨[0,1],(.st oJ bn),rG⟩
def o40:Abs.Sg:=⟨[4],dQ,rG⟩
def m40(v:((Int×Unit)×(lH×Unit))):Option ((Bool×Unit)×(lH×Unit)):=
(Fp v).bind fun a=>
some ((((a.1.1:Int)==(aT (v.1.1 - 1))),()),a.2)
def ahE:Abs.Spec:=⟨1,i40,o40,m40⟩
def aeH:Nat→Abs.aW
 |_=>{}
theorem abk:Abs.aD Tryz.prog 40 ahE:=
 okW (an:=aeH) (bg FO dZ) rfl (by intro v;kernel_rfl)
def zR(v:((Int×(ByteArray×ByteArray×ByteArray×ByteArray×Unit)×Unit)×(lH×(List ByteArray)×Unit))):Option (((Int×(ByteArray×ByteArray×ByteArray×ByteArray×Unit)×Unit)×(lH×(List ByteArray)×Unit)) ⊕((Unit)×(lH×(List ByteArray)×Unit))):=
bif (decide ((v.1.1:Int)< 4)) then(((Abs.rowAt ([v.1.2.1.1,v.1.2.1.2.1,v.1.2.1.2.2.1,v.1.2.1.2.2.2.1]:List ByteArray) v.1.1 fun c _=>
(m40 ((3,()),v.2.1,())).bind fun a=>
bif a.1.1 then(bif (decide (v.2.2.1.length+ [c].length≤4294967296)) then
some ((v.1.2.1,v.1.1,()),a.2.1,(v.2.2.1++ [c]),())
else none)
else(some ((v.1.2.1,v.1.1,()),a.2.1,v.2.2))):Option (((ByteArray×ByteArray×ByteArray×ByteArray×Unit)×Int×Unit)×(lH×(List ByteArray)×Unit))).bind fun b=>
some (.inl (((aT (b.1.2.1+1)),b.1.1,()),b.2)))
else(some (.inr ((),v.2)))
def i62:Abs.Sg:=⟨[0],(.st oJ .nil),rG⟩
def o62:Abs.Sg:=⟨[2],(.st (.own .str (1,0)) .nil),(.box 2 lg (.arr .str false .nil))⟩
def m62(v:((Unit)×(lH×Unit))):Option ((Unit)×(lH×(List ByteArray)×Unit)):=
(aB zR ((0,((bs [97,112,112]),(bs [104,111,115,116]),(bs [115,101,118]),(bs [116,101,97,109]),()),()),v.2.1,[],())).bind fun a=>
some ((),a.2)
def agL:Abs.Spec:=⟨1,i62,o62,m62⟩
def afh:Nat→Abs.aW
 |0=>Abs.aW.mk (fun _=>none) (fun
  |7=>some (⟨[3,0,6,7],(.st (.own .str (1,0)) (.st oJ (.dat (.cons .str (.cons .str iE)) bn))),(.box 2 lg (.arr .str false .nil))⟩,none)
  |_=>none) (fun
  |3=>some ⟨⟨[7,3,0,6],(.dat (.int .i64) (.st (.own .str (1,0)) (.st oJ (.dat (.cons .str (.cons .str iE)) .nil)))),(.box 2 lg (.arr .str false .nil))⟩,(.one (.exit 0) ⟨[3],(.st (.own .str (1,0)) .nil),(.box 2 lg (.arr .str false .nil))⟩)⟩
  |_=>none) (fun _ _=>0)
 |_=>{}
theorem aaI:Abs.aD Tryz.prog 62 agL:=
 okW (an:=afh) (bg abk dZ) rfl (by intro v;kernel_rfl)
def i24:Abs.Sg:=⟨[0],(.st oJ .nil),rG⟩
def o24:Abs.Sg:=⟨[2],(.st (.ptr (1,0) 8 0 0) .nil),(.box 2 lg (.box 8 (.agg (.dat (.int .i64) (.st .nil (.dat (.int .i64) (.st (.own .str (2,0)) (.dat (.int .i64) (.dat (.int .i64) (.dat (.int .i64) dQ))))))) .nil) (.arr .str false .nil)))⟩
def m24(v:((Unit)×(lH×Unit))):Option ((Unit)×(lH×((Int×Int×Int×Int×Int×Bool×Unit)×Unit)×(List ByteArray)×Unit)):=
(m32 (([0,30,10,60],()),v.2)).bind fun a=>
(m32 (([20,300,40],()),a.2)).bind fun b=>
(Fp ((3,()),b.2)).bind fun c=>
(m62 ((),c.2)).bind fun d=>
(m32 (([0,3600,100],()),d.2.1,())).bind fun e=>
(m40 ((2,()),e.2)).bind fun f=>
some ((),f.2.1,(((-1),c.1.1,a.1.1,(aT (a.1.1+b.1.1)),(aT ((aT (a.1.1+b.1.1))+e.1.1)),f.1),()),d.2.2)
def afd:Abs.Spec:=⟨1,i24,o24,m24⟩
def agV:Nat→Abs.aW
 |_=>{}
theorem ae5:Abs.aD Tryz.prog 24 afd:=
 okW (an:=agV) (bg ok32 (bg FO (bg aaI (bg abk dZ)))) rfl (by intro v;kernel_rfl)
def i98:Abs.Sg:=⟨[0],(.st oJ .nil),rG⟩
def o98:Abs.Sg:=⟨[2],(.st (.ptr (1,0) 3 0 0) .nil),(.box 2 lg (.box 3 (.dat JK .nil) .nil))⟩
def ZW(v:((Unit)×(lH×Unit))):Option ((Unit)×(lH×(Ke×Unit)×Unit)):=
(Fp ((5,()),v.2)).bind fun a=>
bif (decide ((0:Int) ≤a.1.1∧(a.1.1:Int)< [(bs [97,112,112]),(bs [104,111,115,116]),(bs [115,101,118]),(bs [116,101,97,109]),(bs [122,111,110,101])].length)) then
([(bs [97,112,112]),(bs [104,111,115,116]),(bs [115,101,118]),(bs [116,101,97,109]),(bs [122,111,110,101])][a.1.1.toNat]?).bind fun d=>
(Fp ((4,()),a.2)).bind fun c=>
(Fp ((8,()),c.2)).bind fun b=>
bif (decide ((0:Int) ≤b.1.1∧(b.1.1:Int)< [(bs [97]),(bs [98]),ByteArray.empty,(bs [42]),(bs [99,114,105,116]),(bs [63]),(bs [119,101,98,45,42]),(bs [97,34,98,92])].length)) then
([(bs [97]),(bs [98]),ByteArray.empty,(bs [42]),(bs [99,114,105,116]),(bs [63]),(bs [119,101,98,45,42]),(bs [97,34,98,92])][b.1.1.toNat]?).bind fun e=>
some ((),b.2.1,((d,c.1.1,e,()),()),())
else none
else none
def afT:Abs.Spec:=⟨1,i98,o98,ZW⟩
def aen:Nat→Abs.aW
 |_=>{}
theorem Yy:Abs.aD Tryz.prog 98 afT:=
 okW (an:=aen) (bg FO dZ) rfl (by intro v;kernel_rfl)
def C8(v:((Int×Unit)×(lH×Y4×Unit))):Option (((Int×Unit)×(lH×Y4×Unit)) ⊕((Unit)×(lH×Y4×Unit))):=
bif (decide ((v.1.1:Int)>0)) then((ZW ((),v.2.1,())).bind fun a=>
bif (decide (v.2.2.1.length+([a.2.2.1.1]:List Ke).length≤4294967296)) then
let b:=(v.2.2.1++([a.2.2.1.1]:List Ke))
some (.inl (((aT (v.1.1 - 1)),()),a.2.1,b,()))
else none)
else(some (.inr ((),v.2)))
def i97:Abs.Sg:=⟨[0,1],(.st oJ bn),rG⟩
def o97:Abs.Sg:=⟨[4],(.st (.own JK (1,0)) .nil),(.box 2 lg (.arr JK false .nil))⟩
def Zz(v:((Int×Unit)×(lH×Unit))):Option ((Unit)×(lH×Y4×Unit)):=
(Fp (((aT (v.1.1+1)),()),v.2)).bind fun a=>
(aB C8 (a.1,a.2.1,[],())).bind fun b=>
some ((),b.2)
def ah9:Abs.Spec:=⟨1,i97,o97,Zz⟩
def ae7:Nat→Abs.aW
 |0=>Abs.aW.mk (fun _=>none) (fun _=>none) (fun
  |3=>some ⟨⟨[6,0,5],(.dat (.int .i64) (.st oJ (.st (.own JK (1,0)) .nil))),(.box 2 lg (.arr JK false .nil))⟩,(.one (.exit 0) ⟨[5],(.st (.own JK (1,0)) .nil),(.box 2 lg (.arr JK false .nil))⟩)⟩
  |_=>none) (fun _ _=>0)
 |_=>{}
theorem Z4:Abs.aD Tryz.prog 97 ah9:=
 okW (an:=ae7) (bg FO (bg Yy dZ)) rfl (by intro v;kernel_rfl)
def Cy(v:((Int×Unit)×(lH×(List Y8)×Unit))):Option (((Int×Unit)×(lH×(List Y8)×Unit)) ⊕((Unit)×(lH×(List Y8)×Unit))):=
bif (decide ((v.1.1:Int)>0)) then((m24 ((),v.2.1,())).bind fun a=>
(Fp ((((v.2.2.1.length:Nat):Int),()),a.2.1,())).bind fun b=>
(Zz ((2,()),b.2)).bind fun c=>
bif (decide (v.2.2.1.length+([(b.1.1,c.2.2.1,a.2.2.1.1.2.1,a.2.2.2.1,a.2.2.1.1.2.2)]:List Y8).length≤4294967296)) then
let d:=(v.2.2.1++([(b.1.1,c.2.2.1,a.2.2.1.1.2.1,a.2.2.2.1,a.2.2.1.1.2.2)]:List Y8))
some (.inl (((aT (v.1.1 - 1)),()),c.2.1,d,()))
else none)
else(some (.inr ((),v.2)))
def i50:Abs.Sg:=⟨[0,1],(.st oJ bn),rG⟩
def o50:Abs.Sg:=⟨[4],(.st (.own Z5 (1,0)) .nil),(.box 2 lg (.arr Z5 false .nil))⟩
def m50(v:((Int×Unit)×(lH×Unit))):Option ((Unit)×(lH×(List Y8)×Unit)):=
(m24 ((),v.2)).bind fun a=>
(Fp (((aT (v.1.1+1)),()),a.2.1,())).bind fun b=>
(aB Cy (b.1,b.2.1,([(a.2.2.1.1.1,[],a.2.2.1.1.2.1,a.2.2.2.1,a.2.2.1.1.2.2)]:List Y8),())).bind fun c=>
some ((),c.2)
def adV:Abs.Spec:=⟨1,i50,o50,m50⟩
def afl:Nat→Abs.aW
 |0=>Abs.aW.mk (fun _=>none) (fun _=>none) (fun
  |3=>some ⟨⟨[6,5,0],(.dat (.int .i64) (.st (.own Z5 (1,0)) (.st oJ .nil))),(.box 2 lg (.arr Z5 false .nil))⟩,(.one (.exit 0) ⟨[5],(.st (.own Z5 (1,0)) .nil),(.box 2 lg (.arr Z5 false .nil))⟩)⟩
  |_=>none) (fun _ _=>0)
 |_=>{}
theorem afV:Abs.aD Tryz.prog 50 adV:=
 okW (an:=afl) (bg ae5 (bg FO (bg Z4 dZ))) rfl (by intro v;kernel_rfl)
def Cr(v:((Int×Unit)×(lH×(List kU)×Unit))):Option (((Int×Unit)×(lH×(List kU)×Unit)) ⊕((Unit)×(lH×(List kU)×Unit))):=
bif (decide ((v.1.1:Int)>0)) then((Zz ((1,()),v.2.1,())).bind fun a=>
bif (decide (a.2.2.1.length+([((bs [115,101,118]),0,(bs [99,114,105,116]),())]:List Ke).length≤4294967296)) then
let e:=(a.2.2.1++([((bs [115,101,118]),0,(bs [99,114,105,116]),())]:List Ke))
(Zz ((1,()),a.2.1,())).bind fun b=>
(ZW ((),b.2.1,())).bind fun c=>
bif (decide (b.2.2.1.length+([c.2.2.1.1]:List Ke).length≤4294967296)) then
let f:=(b.2.2.1++([c.2.2.1.1]:List Ke))
(m62 ((),c.2.1,())).bind fun d=>
bif (decide (v.2.2.1.length+([(e,f,d.2.2)]:List kU).length≤4294967296)) then
let g:=(v.2.2.1++([(e,f,d.2.2)]:List kU))
some (.inl (((aT (v.1.1 - 1)),()),d.2.1,g,()))
else none
else none
else none)
else(some (.inr ((),v.2)))
def i51:Abs.Sg:=⟨[0],(.st oJ .nil),rG⟩
def o51:Abs.Sg:=⟨[2],(.st (.own qo (1,0)) .nil),(.box 2 lg (.arr qo false .nil))⟩
def m51(v:((Unit)×(lH×Unit))):Option ((Unit)×(lH×(List kU)×Unit)):=
(Fp ((3,()),v.2)).bind fun a=>
(aB Cr (a.1,a.2.1,[],())).bind fun b=>
some ((),b.2)
def afz:Abs.Spec:=⟨1,i51,o51,m51⟩
def agW:Nat→Abs.aW
 |0=>Abs.aW.mk (fun _=>none) (fun _=>none) (fun
  |3=>some ⟨⟨[4,3,0],(.dat (.int .i64) (.st (.own qo (1,0)) (.st oJ .nil))),(.box 2 lg (.arr qo false .nil))⟩,(.one (.exit 0) ⟨[3],(.st (.own qo (1,0)) .nil),(.box 2 lg (.arr qo false .nil))⟩)⟩
  |_=>none) (fun _ _=>0)
 |_=>{}
theorem aeO:Abs.aD Tryz.prog 51 afz:=
 okW (an:=agW) (bg FO (bg Z4 (bg Yy (bg aaI dZ)))) rfl (by intro v;kernel_rfl)
def i12:Abs.Sg:=⟨[0,1],(.st oJ bn),rG⟩
def o12:Abs.Sg:=⟨[4],(.st (.ptr (1,0) 3 0 0) .nil),(.box 2 lg (.box 3 (.agg (.st (.own Z5 (2,0)) (.st (.own qo (3,0)) bn)) .nil) (.arr Z5 false (.arr qo false .nil))))⟩
def m12(v:((Int×Unit)×(lH×Unit))):Option ((Unit)×(lH×((Int×Unit)×Unit)×(List Y8)×(List kU)×Unit)):=
(m50 v).bind fun a=>
(m51 ((),a.2.1,())).bind fun b=>
(m32 (([0,0,200,1000],()),b.2.1,())).bind fun c=>
some ((),c.2.1,(c.1,()),a.2.2.1,b.2.2)
def afx:Abs.Spec:=⟨1,i12,o12,m12⟩
def ag4:Nat→Abs.aW
 |_=>{}
theorem ahb:Abs.aD Tryz.prog 12 afx:=
 okW (an:=ag4) (bg afV (bg aeO (bg ok32 dZ))) rfl (by intro v;kernel_rfl)
def zU(v:((Int×(ByteArray×ByteArray×ByteArray×ByteArray×Unit)×Unit)×(lH×bW×Unit))):Option (((Int×(ByteArray×ByteArray×ByteArray×ByteArray×Unit)×Unit)×(lH×bW×Unit)) ⊕((Unit)×(lH×bW×Unit))):=
bif (decide ((v.1.1:Int)< 4)) then(((Abs.rowAt ([v.1.2.1.1,v.1.2.1.2.1,v.1.2.1.2.2.1,v.1.2.1.2.2.2.1]:List ByteArray) v.1.1 fun d _=>
(Fp ((6,()),v.2.1,())).bind fun a=>
bif (decide ((0:Int) ≤a.1.1∧(a.1.1:Int)< [ByteArray.empty,(bs [97]),(bs [98]),(bs [99,114,105,116]),(bs [97,34,98,92]),(bs [119,101,98,45,49])].length)) then
([ByteArray.empty,(bs [97]),(bs [98]),(bs [99,114,105,116]),(bs [97,34,98,92]),(bs [119,101,98,45,49])][a.1.1.toNat]?).bind fun b=>
bif (!(b.toList==ByteArray.empty.toList)) then(bif (decide (v.2.2.1.length+([(d,b,())]:List (ByteArray×ByteArray×Unit)).length≤4294967296)) then
let e:=(v.2.2.1++([(d,b,())]:List (ByteArray×ByteArray×Unit)))
some ((v.1.2.1,v.1.1,()),a.2.1,e,())
else none)
else(some ((v.1.2.1,v.1.1,()),a.2.1,v.2.2))
else none):Option (((ByteArray×ByteArray×ByteArray×ByteArray×Unit)×Int×Unit)×(lH×bW×Unit))).bind fun c=>
some (.inl (((aT (c.1.2.1+1)),c.1.1,()),c.2)))
else(some (.inr ((),v.2)))
def i39:Abs.Sg:=⟨[0],(.st oJ .nil),rG⟩
def o39:Abs.Sg:=⟨[2],(.st (.own iE (1,0)) .nil),(.box 2 lg yT)⟩
def m39(v:((Unit)×(lH×Unit))):Option ((Unit)×(lH×bW×Unit)):=
(aB zU ((0,((bs [97,112,112]),(bs [104,111,115,116]),(bs [115,101,118]),(bs [116,101,97,109]),()),()),v.2.1,[],())).bind fun a=>
some ((),a.2)
def af9:Abs.Spec:=⟨1,i39,o39,m39⟩
def agB:Nat→Abs.aW
 |0=>Abs.aW.mk (fun _=>none) (fun
  |8=>some (⟨[3,0,7,8],(.st (.own iE (1,0)) (.st oJ (.dat (.cons .str (.cons .str iE)) bn))),(.box 2 lg yT)⟩,none)
  |_=>none) (fun
  |3=>some ⟨⟨[8,3,0,7],(.dat (.int .i64) (.st (.own iE (1,0)) (.st oJ (.dat (.cons .str (.cons .str iE)) .nil)))),(.box 2 lg yT)⟩,(.one (.exit 0) ⟨[3],(.st (.own iE (1,0)) .nil),(.box 2 lg yT)⟩)⟩
  |_=>none) (fun _ _=>0)
 |_=>{}
theorem agY:Abs.aD Tryz.prog 39 af9:=
 okW (an:=agB) (bg FO dZ) rfl (by intro v;kernel_rfl)
def i43:Abs.Sg:=⟨[0,1],(.st oJ bn),rG⟩
def o43:Abs.Sg:=⟨[4],(.st qM .nil),(.box 2 lg (.box 5 (.agg (.dat (.int .i64) (.dat (.int .i64) (.dat (.int .i64) (.dat (.int .i64) (.st (.own JK (2,0)) .nil))))) .nil) (.arr JK false .nil)))⟩
def m43(v:((Int×Unit)×(lH×Unit))):Option ((Unit)×(lH×((Int×Int×Int×Int×Unit)×Unit)×Y4×Unit)):=
(Fp ((600,()),v.2)).bind fun a=>
(Fp ((900,()),a.2)).bind fun d=>
(Fp ((3,()),d.2)).bind fun e=>
(Zz ((1,()),e.2)).bind fun b=>
(ZW ((),b.2.1,())).bind fun c=>
bif (decide (b.2.2.1.length+([c.2.2.1.1]:List Ke).length≤4294967296)) then
let f:=(b.2.2.1++([c.2.2.1.1]:List Ke))
some ((),c.2.1,((v.1.1,a.1.1,(aT ((aT (a.1.1+1))+d.1.1)),e.1),()),f,())
else none
def aec:Abs.Spec:=⟨1,i43,o43,m43⟩
def aeB:Nat→Abs.aW
 |_=>{}
theorem aek:Abs.aD Tryz.prog 43 aec:=
 okW (an:=aeB) (bg FO (bg Z4 (bg Yy dZ))) rfl (by intro v;kernel_rfl)
def zA(v:((Int×eF×Int×Unit)×((Int×Unit)×Unit))):Option (((Int×eF×Int×Unit)×((Int×Unit)×Unit)) ⊕(((Int×Unit)×((Int×Unit)×Unit)) ⊕((Unit)×((Int×Unit)×Unit)))):=
bif (decide ((v.1.1:Int)< v.1.2.2.1)) then(Abs.rowAt v.1.2.1 v.1.1 fun a _=>
bif ((a.1:Int)==v.2.1.1) then(some (.inr (.inl ((v.1.1,()),v.2))))
else(some (.inl (((aT (v.1.1+1)),v.1.2),v.2))))
else(some (.inr (.inr ((),v.2))))
def i76:Abs.Sg:=⟨[0,1,2],(.dat (.row Z6) nk),.nil⟩
def o76:Abs.Sg:=⟨[6,7],(.st (.own Z6 (0,0)) bn),qY⟩
def Vv(v:((eF×Int×Int×Unit)×(Unit))):Option ((Int×Unit)×(eF×Unit)):=
(m81 ((v.1.1,()),())).bind fun d=>
bif ((d.1.1:Int) !=0) then(some (d.1,[],()))
else((((aB zA ((0,v.1.1,(v.1.1.length:Int),()),(v.1.2.1,()),())).bind fun e=>
au e (fun f=>(some ((f.1.1,v.1.2.2.1,v.1.1,()),()))) (fun j=>(some (((-1),v.1.2.2.1,v.1.1,()),())))):Option ((Int×Int×eF×Unit)×(Unit))).bind fun a=>
bif (decide ((a.1.1:Int)< 0)) then(some ((3,()),[],()))
else(Abs.rowAt a.1.2.2.1 a.1.1 fun g _=>
bif (decide ((g.2.2.1:Int) ≤a.1.2.1)) then(some ((9,()),[],()))
else((Mh (a.1.2.2,())).bind fun b=>
bif (decide ((0:Int) ≤a.1.1∧(a.1.1:Int)< b.2.1.length)) then
(b.2.1[a.1.1.toNat]?).bind fun h=>
bif (decide ((h.2.1:Int) ≥a.1.2.1)) then(bif (decide ((0:Int) ≤a.1.1∧(a.1.1:Int)< (aT (a.1.1+1)) ∧((aT (a.1.1+1)):Int) ≤b.2.1.length∧b.2.1.length≤4294967296)) then
bif (decide (b.2.1.length=b.2.1.length)&&true) then
some ((0,()),(b.2.1.take a.1.1.toNat++b.2.1.drop (aT (a.1.1+1)).toNat),())
else none
else none)
else(bif (decide ((0:Int) ≤a.1.1∧(a.1.1:Int)< b.2.1.length)) then
(b.2.1[a.1.1.toNat]?).bind fun c=>
some ((0,()),(b.2.1.set a.1.1.toNat (c.1,c.2.1,a.1.2.1,c.2.2.2)),())
else none)
else none)))
def ahu:Abs.Spec:=⟨0,i76,o76,Vv⟩
def ahL:Nat→Abs.aW
 |0=>Abs.aW.mk (fun
  |4=>some ⟨[9,2,0],(.dat (.int .i64) (.dat (.int .i64) (.dat (.row Z6) .nil))),.nil⟩
  |_=>none) (fun _=>none) (fun _=>none) (fun
  |4,2=>1
  |_,_=>0)
 |1=>Abs.aW.mk (fun _=>none) (fun _=>none) (fun
  |2=>some ⟨⟨[8,0,1,7],(.dat (.int .i64) (.dat (.row Z6) (.st (.clo 137 [((0,0),1,0,0)]) bn))),(.box 1 bn .nil)⟩,(.more .ret ⟨[4],bn,(.box 1 bn .nil)⟩ (.one (.exit 0) ⟨[],.nil,(.box 1 bn .nil)⟩))⟩
  |_=>none) (fun
  |4,5=>2
  |_,_=>0)
 |_=>{}
theorem agD:Abs.aD Tryz.prog 76 ahu:=
 okW (an:=ahL) (bg Yg (bg Rm dZ)) rfl (by intro v;kernel_rfl)
def Xv(v:((Int×(List Y9)×Int×Unit)×(Unit))):Option (((Int×(List Y9)×Int×Unit)×(Unit)) ⊕(((Int×Unit)×(Unit)) ⊕((Unit)×(Unit)))):=
bif (decide ((v.1.1:Int)< v.1.2.2.1)) then(Abs.rowAt v.1.2.1 v.1.1 fun a _=>
(X4 ((a,()),())).bind fun b=>
bif b.1.1 then(some (.inr (.inl ((v.1.1,()),()))))
else(some (.inl (((aT (v.1.1+1)),v.1.2),()))))
else(some (.inr (.inr ((),()))))
end
noncomputable section
def OQ(v:((Int×Int×Int×Unit)×(j4×(List Y3)×eF×Unit))):Option (((Int×Int×Int×Unit)×(j4×(List Y3)×eF×Unit)) ⊕((Unit)×(j4×(List Y3)×eF×Unit))):=
bif (decide ((v.1.1:Int)< v.1.2.2.1)) then(((bif (decide ((0:Int) ≤v.1.1∧(v.1.1:Int)< v.2.2.1.length)) then
(v.2.2.1[v.1.1.toNat]?).bind fun b=>
(((((aB Xv ((0,b.2.2.1,(b.2.2.1.length:Int),()),())).bind fun e=>
au e (fun f=>(some (((decide ((f.1.1:Int) ≥0)),()),()))) (fun h=>(some ((false,()),())))):Option fH).bind fun g=>
bif g.1.1 then(bif ((b.2.2.2.1:Int)==(-1)) then(some ((true,v.1.2.1,v.1.2.2.1,v.1.1,v.1.1,()),v.2))
else(some (((decide ((b.2.2.2.1:Int)>v.1.2.1)),v.1.2.1,v.1.2.2.1,v.1.1,v.1.1,()),v.2)))
else(some ((false,v.1.2.1,v.1.2.2.1,v.1.1,v.1.1,()),v.2))):Option ((Bool×Int×Int×Int×Int×Unit)×(j4×(List Y3)×eF×Unit))).bind fun a=>
bif a.1.1 then(bif (decide ((0:Int) ≤a.1.2.2.2.2.1∧(a.1.2.2.2.2.1:Int)< a.2.2.1.length)) then
(a.2.2.1[a.1.2.2.2.2.1.toNat]?).bind fun c=>
some ((a.1.2.1,a.1.2.2.1,a.1.2.2.2.1,()),a.2.1,(a.2.2.1.set a.1.2.2.2.2.1.toNat (c.1,c.2.1,c.2.2.1,a.1.2.1,c.2.2.2.2)),a.2.2.2)
else none)
else(some ((a.1.2.1,a.1.2.2.1,a.1.2.2.2.1,()),a.2))
else none):Option ((Int×Int×Int×Unit)×(j4×(List Y3)×eF×Unit))).bind fun d=>
some (.inl (((aT (d.1.2.2.1+1)),d.1.1,d.1.2.1,()),d.2)))
else(some (.inr ((),v.2)))
def i29:Abs.Sg:=⟨[0,1,2],(.dat Tv (.dat XA bn)),.nil⟩
def o29:Abs.Sg:=⟨[6,7],(.st gN bn),TK⟩
def YR(v:((lK×(Int×(List Y3)×eF×Int×Unit)×Int×Unit)×(Unit))):Option ((Int×Unit)×(j4×(List Y3)×eF×Unit)):=
(Un ((v.1.1,v.1.2.1,()),())).bind fun d=>
bif (!d.1.1) then(some ((8,()),((0,0,()),()),[],[],()))
else((Vv ((v.1.2.1.2.2.1,v.1.2.2.1,v.1.2.1.1,()),())).bind fun b=>
bif ((b.1.1:Int) !=0) then(some (b.1,((0,0,()),()),[],[],()))
else((m64 ((v.1.2.1,()),())).bind fun a=>
let e:=(if(8589934592:Int)< (aT (a.2.1.1.1+1)) then 8589934592 else(aT (a.2.1.1.1+1)))
(aB OQ ((0,e,((a.2.2.1.length:Nat):Int),()),a.2.1,a.2.2.1,b.2)).bind fun c=>
bif (decide (c.2.2.1.length=a.2.2.1.length)&&(decide (c.2.2.2.1.length=b.2.1.length)&&true)) then
some ((0,()),c.2)
else none))
def agX:Abs.Spec:=⟨0,i29,o29,YR⟩
def agl:Nat→Abs.aW
 |0=>Abs.aW.mk (fun _=>none) (fun _=>none) (fun _=>none) (fun
  |8,4=>1
  |_,_=>0)
 |1=>Abs.aW.mk (fun
  |3=>some ⟨[29,1,0,9,10,11,4],(.dat .bool (.dat (.int .i64) (.st gN (.st (.own Z1 (1,0)) EM)))),TK⟩
  |_=>none) (fun
  |5=>some (⟨[1,0,9,10,11],(.dat (.int .i64) (.st gN (.st (.own Z1 (1,0)) nk))),TK⟩,none)
  |_=>none) (fun
  |1=>some ⟨⟨[11,1,0,9,10],(.dat (.int .i64) (.dat (.int .i64) (.st gN (.st (.own Z1 (1,0)) bn)))),TK⟩,(.one (.exit 0) ⟨[],.nil,TK⟩)⟩
  |_=>none) (fun
  |3,2=>2
  |_,_=>0)
 |2=>Abs.aW.mk (fun
  |1=>some ⟨[4],dQ,.nil⟩
  |_=>none) (fun _=>none) (fun _=>none) (fun
  |1,2=>3
  |_,_=>0)
 |3=>Abs.aW.mk (fun _=>none) (fun _=>none) (fun
  |2=>some ⟨⟨[8,0,1,7],(.dat (.int .i64) (.dat (.row Z7) (.st (.clo 114 []) bn))),.nil⟩,(.more .ret ⟨[4],bn,.nil⟩ (.one (.exit 0) ⟨[],.nil,.nil⟩))⟩
  |_=>none) (fun _ _=>0)
 |_=>{}
theorem ahx:Abs.aD Tryz.prog 29 agX:=
 okW (an:=agl) (bg Qd (bg agD (bg Vy (bg XM dZ)))) rfl (by intro v;kernel_rfl)
def zi(v:((Int×eF×eF×Int×Unit)×((Ma×Unit)×(Ma×Unit)×Unit))):Option (((Int×eF×eF×Int×Unit)×((Ma×Unit)×(Ma×Unit)×Unit)) ⊕(fH⊕((eF×eF×Int×Unit)×(Unit)))):=
let c:=(decide ((v.1.1:Int)< (v.2.2.1.1.2.2.2.2.1.length:Int)))
bif c then(Abs.rowAt v.2.2.1.1.2.2.2.2.1 v.1.1 fun a _=>
Abs.rowAt v.2.1.1.2.2.2.2.1 v.1.1 fun b _=>
let d:=(!((a.1==b.1)&&(((a.2.1:Int)==b.2.1)&&((a.2.2.1==b.2.2.1)&&true))))
bif d then(some (.inr (.inl ((false,()),()))))
else(some (.inl (((aT (v.1.1+1)),v.1.2),v.2))))
else(some (.inr (.inr (v.1.2,()))))
def CF(v:((Int×eF×eF×Unit)×(Unit))):Option (((Int×eF×eF×Unit)×(Unit)) ⊕(fH⊕((Unit)×(Unit)))):=
let e:=(decide ((v.1.1:Int)< (v.1.2.2.1.length:Int)))
bif e then(Abs.rowAt v.1.2.2.1 v.1.1 fun a _=>
Abs.rowAt v.1.2.1 v.1.1 fun b _=>
((bif ((a.1:Int) !=b.1) then(some ((true,v.1.2.1,v.1.2.2.1,v.1.1,()),(b,()),(a,()),()))
else(bif ((a.2.1:Int) !=b.2.1) then(some ((true,v.1.2.1,v.1.2.2.1,v.1.1,()),(b,()),(a,()),()))
else(bif ((a.2.2.1:Int) !=b.2.2.1) then(some ((true,v.1.2.1,v.1.2.2.1,v.1.1,()),(b,()),(a,()),()))
else(bif ((a.2.2.2.1:Int) !=b.2.2.2.1) then(some ((true,v.1.2.1,v.1.2.2.1,v.1.1,()),(b,()),(a,()),()))
else(let f:=(((a.2.2.2.2.1.length:Int):Int) !=(b.2.2.2.2.1.length:Int))
some ((f,v.1.2.1,v.1.2.2.1,v.1.1,()),(b,()),(a,()),())))))):Option ((Bool×eF×eF×Int×Unit)×((Ma×Unit)×(Ma×Unit)×Unit))).bind fun c=>
bif c.1.1 then(some (.inr (.inl ((false,()),()))))
else((aB zi ((0,c.1.2),c.2)).bind fun g=>
au g (fun h=>(some (.inr (.inl h)))) (fun d=>(some (.inl (((aT (d.1.2.2.1+1)),d.1.1,d.1.2.1,()),()))))))
else(some (.inr (.inr ((),()))))
def i53:Abs.Sg:=⟨[0,1],(.dat (.row Z6) (.dat (.row Z6) .nil)),.nil⟩
def o53:Abs.Sg:=⟨[4],dQ,.nil⟩
def m53(v:((eF×eF×Unit)×(Unit))):Option fH:=
let a:=(((v.1.1.length:Int):Int) !=(v.1.2.1.length:Int))
bif a then(some ((false,()),()))
else((aB CF ((0,v.1.2.1,v.1.1,()),())).bind fun b=>
au b (fun c=>(some c)) (fun d=>(some ((true,()),()))))
def ahy:Abs.Spec:=⟨0,i53,o53,m53⟩
def ae1:Nat→Abs.aW
 |0=>Abs.aW.mk (fun
  |7=>some ⟨[62,7,6,1,0,5],(.dat .bool (.st fI (.st qM (.dat (.row Z6) (.dat (.row Z6) bn))))),(.box 5 (.dat Z6 .nil) (.box 5 (.dat Z6 .nil) .nil))⟩
  |_=>none) (fun _=>none) (fun
  |4=>some ⟨⟨[5,1,0],(.dat (.int .i64) (.dat (.row Z6) (.dat (.row Z6) .nil))),.nil⟩,(.more .ret ⟨[4],dQ,.nil⟩ (.one (.exit 0) ⟨[],.nil,.nil⟩))⟩
  |10=>some ⟨⟨[8,7,6,1,0,5],(.dat (.int .i64) (.st fI (.st qM (.dat (.row Z6) (.dat (.row Z6) bn))))),(.box 5 (.dat Z6 .nil) (.box 5 (.dat Z6 .nil) .nil))⟩,(.more .ret ⟨[4],dQ,.nil⟩ (.one (.exit 2) ⟨[1,0,5],(.dat (.row Z6) (.dat (.row Z6) bn)),.nil⟩))⟩
  |_=>none) (fun _ _=>0)
 |_=>{}
theorem afZ:Abs.aD Tryz.prog 53 ahy:=
 okW (an:=ae1) dZ rfl (by intro v;kernel_rfl)
def CY(v:((Int×bW×bW×Unit)×(Unit))):Option (((Int×bW×bW×Unit)×(Unit)) ⊕(fH⊕((Unit)×(Unit)))):=
let c:=(decide ((v.1.1:Int)< (v.1.2.2.1.length:Int)))
bif c then(Abs.rowAt v.1.2.2.1 v.1.1 fun a _=>
Abs.rowAt v.1.2.1 v.1.1 fun b _=>
let d:=(!((a.1==b.1)&&((a.2.1==b.2.1)&&true)))
bif d then(some (.inr (.inl ((false,()),()))))
else(some (.inl (((aT (v.1.1+1)),v.1.2),()))))
else(some (.inr (.inr ((),()))))
def i49:Abs.Sg:=⟨[0,1],(.dat (.row iE) jX),.nil⟩
def o49:Abs.Sg:=⟨[4],dQ,.nil⟩
def m49(v:((bW×bW×Unit)×(Unit))):Option fH:=
let a:=(((v.1.1.length:Int):Int) !=(v.1.2.1.length:Int))
bif a then(some ((false,()),()))
else((aB CY ((0,v.1.2.1,v.1.1,()),())).bind fun b=>
au b (fun c=>(some c)) (fun d=>(some ((true,()),()))))
def aem:Abs.Spec:=⟨0,i49,o49,m49⟩
def agH:Nat→Abs.aW
 |0=>Abs.aW.mk (fun _=>none) (fun _=>none) (fun
  |4=>some ⟨⟨[5,1,0],(.dat (.int .i64) (.dat (.row iE) jX)),.nil⟩,(.more .ret ⟨[4],dQ,.nil⟩ (.one (.exit 0) ⟨[],.nil,.nil⟩))⟩
  |_=>none) (fun _ _=>0)
 |_=>{}
theorem aeW:Abs.aD Tryz.prog 49 aem:=
 okW (an:=agH) dZ rfl (by intro v;kernel_rfl)
def CB(v:((Int×Unit)×((Y3×Unit)×(Y3×Unit)×Unit))):Option (((Int×Unit)×((Y3×Unit)×(Y3×Unit)×Unit)) ⊕(fH⊕((Unit)×(Unit)))):=
let d:=(decide ((v.1.1:Int)< (v.2.2.1.1.2.2.1.length:Int)))
bif d then(Abs.rowAt v.2.2.1.1.2.2.1 v.1.1 fun a _=>
Abs.rowAt v.2.1.1.2.2.1 v.1.1 fun b _=>
((bif (!(a.1.toList==b.1.toList)) then(some ((true,v.1),v.2))
else((m49 ((a.2.1,b.2.1,()),())).bind fun e=>
bif (!e.1.1) then(some ((true,v.1),v.2))
else(bif ((a.2.2.1:Int) !=b.2.2.1) then(some ((true,v.1),v.2))
else(bif ((a.2.2.2.1:Int) !=b.2.2.2.1) then(some ((true,v.1),v.2))
else(bif (!(a.2.2.2.2.1==b.2.2.2.2.1)) then(some ((true,v.1),v.2))
else(some (((!(a.2.2.2.2.2.1==b.2.2.2.2.2.1)),v.1),v.2))))))):Option ((Bool×Int×Unit)×((Y3×Unit)×(Y3×Unit)×Unit))).bind fun c=>
bif c.1.1 then(some (.inr (.inl ((false,()),()))))
else(some (.inl (((aT (c.1.2.1+1)),()),c.2))))
else(some (.inr (.inr ((),()))))
def i54:Abs.Sg:=⟨[0,1],(.dat Z1 (.dat Z1 .nil)),.nil⟩
def o54:Abs.Sg:=⟨[4],dQ,.nil⟩
def m54(v:((Y3×Y3×Unit)×(Unit))):Option fH:=
((bif ((v.1.1.1:Int) !=v.1.2.1.1) then(some ((true,()),v.1.2,(v.1.1,()),()))
else(bif (!(v.1.1.2.1.toList==v.1.2.1.2.1.toList)) then(some ((true,()),v.1.2,(v.1.1,()),()))
else(bif ((v.1.1.2.2.2.1:Int) !=v.1.2.1.2.2.2.1) then(some ((true,()),v.1.2,(v.1.1,()),()))
else(bif ((v.1.1.2.2.2.2.1:Int) !=v.1.2.1.2.2.2.2.1) then(some ((true,()),v.1.2,(v.1.1,()),()))
else(let b:=(((v.1.1.2.2.1.length:Int):Int) !=(v.1.2.1.2.2.1.length:Int))
some ((b,()),v.1.2,(v.1.1,()),())))))):Option ((Bool×Unit)×((Y3×Unit)×(Y3×Unit)×Unit))).bind fun a=>
bif a.1.1 then(some ((false,()),()))
else((aB CB ((0,()),a.2)).bind fun c=>
au c (fun d=>(some d)) (fun e=>(some ((true,()),()))))
def ag8:Abs.Spec:=⟨0,i54,o54,m54⟩
def ahO:Nat→Abs.aW
 |0=>Abs.aW.mk (fun
  |7=>some ⟨[100,3,2,5],(.dat .bool (.st fI (.st qM bn))),(.box 5 (.dat Z1 .nil) uy)⟩
  |1=>some ⟨[42,3,2],(.dat .bool (.st fI (.st qM .nil))),(.box 5 (.dat Z1 .nil) uy)⟩
  |_=>none) (fun _=>none) (fun
  |4=>some ⟨⟨[5,3,2],(.dat (.int .i64) (.st fI (.st qM .nil))),(.box 5 (.dat Z1 .nil) uy)⟩,(.more .ret ⟨[4],dQ,.nil⟩ (.one (.exit 0) ⟨[],.nil,.nil⟩))⟩
  |_=>none) (fun _ _=>0)
 |_=>{}
theorem ags:Abs.aD Tryz.prog 54 ag8:=
 okW (an:=ahO) (bg aeW dZ) rfl (by intro v;kernel_rfl)
def Cv(v:((Int×Unit)×(wu×wu×Unit))):Option (((Int×Unit)×(wu×wu×Unit)) ⊕(fH⊕((Unit)×(Unit)))):=
let a:=(decide ((v.1.1:Int)< (v.2.2.1.1.2.1.length:Int)))
bif a then(Abs.rowAt v.2.2.1.1.2.1 v.1.1 fun b _=>
Abs.rowAt v.2.1.1.2.1 v.1.1 fun c _=>
(m54 ((b,c,()),())).bind fun d=>
bif (!d.1.1) then(some (.inr (.inl ((false,()),()))))
else(some (.inl (((aT (v.1.1+1)),()),v.2))))
else(some (.inr (.inr ((),()))))
def i17:Abs.Sg:=⟨[0,1],(.dat XA qU),.nil⟩
def o17:Abs.Sg:=⟨[4],dQ,.nil⟩
def m17(v:(((Int×(List Y3)×eF×Int×Unit)×(Int×(List Y3)×eF×Int×Unit)×Unit)×(Unit))):Option fH:=
((bif ((v.1.1.1:Int) !=v.1.2.1.1) then(some ((true,()),v.1.2,(v.1.1,()),()))
else(bif ((v.1.1.2.2.2.1:Int) !=v.1.2.1.2.2.2.1) then(some ((true,()),v.1.2,(v.1.1,()),()))
else(let b:=(((v.1.1.2.1.length:Int):Int) !=(v.1.2.1.2.1.length:Int))
bif b then(some ((true,()),v.1.2,(v.1.1,()),()))
else((m53 ((v.1.1.2.2.1,v.1.2.1.2.2.1,()),())).bind fun c=>
some (((!c.1.1),()),v.1.2,(v.1.1,()),()))))):Option ((Bool×Unit)×(wu×wu×Unit))).bind fun a=>
bif a.1.1 then(some ((false,()),()))
else((aB Cv ((0,()),a.2)).bind fun d=>
au d (fun e=>(some e)) (fun f=>(some ((true,()),()))))
def afR:Abs.Spec:=⟨0,i17,o17,m17⟩
def aeS:Nat→Abs.aW
 |0=>Abs.aW.mk (fun
  |1=>some ⟨[34,3,2],(.dat .bool (.st gN (.st q9 .nil))),(.box 4 qU (.box 4 qU .nil))⟩
  |_=>none) (fun _=>none) (fun
  |4=>some ⟨⟨[5,3,2],(.dat (.int .i64) (.st gN (.st q9 .nil))),(.box 4 qU (.box 4 qU .nil))⟩,(.more .ret ⟨[4],dQ,.nil⟩ (.one (.exit 0) ⟨[],.nil,.nil⟩))⟩
  |_=>none) (fun _ _=>0)
 |_=>{}
theorem agI:Abs.aD Tryz.prog 17 afR:=
 okW (an:=aeS) (bg afZ (bg ags dZ)) rfl (by intro v;kernel_rfl)
def sF(v:((Int×ByteArray×Unit)×(Unit))):Option (((Int×ByteArray×Unit)×(Unit)) ⊕(fH⊕((Unit)×(Unit)))):=
bif (decide ((v.1.1:Int)< (v.1.2.1.size:Int))) then(((bif (decide ((0:Int) ≤v.1.1∧(v.1.1:Int)< v.1.2.1.size)) then
let b:=(decide (((((v.1.2.1[v.1.1.toNat]?.getD 0).toNat:Nat):Int):Int)< 97))
bif b then(bif (decide ((0:Int) ≤v.1.1∧(v.1.1:Int)< v.1.2.1.size)) then
let c:=(decide (((((v.1.2.1[v.1.1.toNat]?.getD 0).toNat:Nat):Int):Int)< 48))
bif c then(bif (decide ((0:Int) ≤v.1.1∧(v.1.1:Int)< v.1.2.1.size)) then
let d:=(((((v.1.2.1[v.1.1.toNat]?.getD 0).toNat:Nat):Int):Int) !=95)
some ((d,v.1.2.1,v.1.1,()),())
else none)
else(bif (decide ((0:Int) ≤v.1.1∧(v.1.1:Int)< v.1.2.1.size)) then
let e:=(decide (((((v.1.2.1[v.1.1.toNat]?.getD 0).toNat:Nat):Int):Int)>57))
bif e then(bif (decide ((0:Int) ≤v.1.1∧(v.1.1:Int)< v.1.2.1.size)) then
let f:=(((((v.1.2.1[v.1.1.toNat]?.getD 0).toNat:Nat):Int):Int) !=95)
some ((f,v.1.2.1,v.1.1,()),())
else none)
else(some ((false,v.1.2.1,v.1.1,()),()))
else none)
else none)
else(bif (decide ((0:Int) ≤v.1.1∧(v.1.1:Int)< v.1.2.1.size)) then
let g:=(decide (((((v.1.2.1[v.1.1.toNat]?.getD 0).toNat:Nat):Int):Int)>122))
bif g then(bif (decide ((0:Int) ≤v.1.1∧(v.1.1:Int)< v.1.2.1.size)) then
let h:=(decide (((((v.1.2.1[v.1.1.toNat]?.getD 0).toNat:Nat):Int):Int)< 48))
bif h then(bif (decide ((0:Int) ≤v.1.1∧(v.1.1:Int)< v.1.2.1.size)) then
let j:=(((((v.1.2.1[v.1.1.toNat]?.getD 0).toNat:Nat):Int):Int) !=95)
some ((j,v.1.2.1,v.1.1,()),())
else none)
else(bif (decide ((0:Int) ≤v.1.1∧(v.1.1:Int)< v.1.2.1.size)) then
let k:=(decide (((((v.1.2.1[v.1.1.toNat]?.getD 0).toNat:Nat):Int):Int)>57))
bif k then(bif (decide ((0:Int) ≤v.1.1∧(v.1.1:Int)< v.1.2.1.size)) then
let l:=(((((v.1.2.1[v.1.1.toNat]?.getD 0).toNat:Nat):Int):Int) !=95)
some ((l,v.1.2.1,v.1.1,()),())
else none)
else(some ((false,v.1.2.1,v.1.1,()),()))
else none)
else none)
else(some ((false,v.1.2.1,v.1.1,()),()))
else none)
else none):Option ((Bool×ByteArray×Int×Unit)×(Unit))).bind fun a=>
bif a.1.1 then(some (.inr (.inl ((false,()),()))))
else(some (.inl (((aT (a.1.2.2.1+1)),a.1.2.1,()),()))))
else(some (.inr (.inr ((),()))))
def i105:Abs.Sg:=⟨[0],gG,.nil⟩
def afK:Abs.Sg:=⟨[2],dQ,.nil⟩
def PX(v:Fe):Option fH:=
((bif (decide (((v.1.1.size:Int):Int)< 1)) then(some ((true,v.1),()))
else(bif (decide (((v.1.1.size:Int):Int)>24)) then(some ((true,v.1),()))
else(bif (decide ((0:Int) ≤0∧(0:Int)< v.1.1.size)) then
let b:=(decide (((((v.1.1[0]?.getD 0).toNat:Nat):Int):Int)< 97))
bif b then(some ((true,v.1),()))
else(bif (decide ((0:Int) ≤0∧(0:Int)< v.1.1.size)) then
let c:=(decide (((((v.1.1[0]?.getD 0).toNat:Nat):Int):Int)>122))
some ((c,v.1),())
else none)
else none))):Option ((Bool×ByteArray×Unit)×(Unit))).bind fun a=>
bif a.1.1 then(some ((false,()),()))
else((aB sF ((0,a.1.2),())).bind fun d=>
au d (fun e=>(some e)) (fun f=>(some ((true,()),()))))
def aaV:Abs.Spec:=⟨0,i105,afK,PX⟩
def abm:Nat→Abs.aW
 |0=>Abs.aW.mk (fun
  |6=>some ⟨[55,0,3],(.dat .bool (.dat .str bn)),.nil⟩
  |1=>some ⟨[21,0],(.dat .bool gG),.nil⟩
  |_=>none) (fun _=>none) (fun
  |4=>some ⟨⟨[3,0],IQ,.nil⟩,(.more .ret ⟨[2],dQ,.nil⟩ (.one (.exit 0) ⟨[],.nil,.nil⟩))⟩
  |_=>none) (fun _ _=>0)
 |_=>{}
theorem Rv:Abs.aD Tryz.prog 105 aaV:=
 okW (an:=abm) dZ rfl (by intro v;kernel_rfl)
def sV(v:((Int×ByteArray×Unit)×(Unit))):Option (((Int×ByteArray×Unit)×(Unit)) ⊕(fH⊕((Unit)×(Unit)))):=
bif (decide ((v.1.1:Int)< (v.1.2.1.size:Int))) then(((bif (decide ((0:Int) ≤v.1.1∧(v.1.1:Int)< v.1.2.1.size)) then
let b:=(decide (((((v.1.2.1[v.1.1.toNat]?.getD 0).toNat:Nat):Int):Int)< 32))
bif b then(some ((true,v.1.2.1,v.1.1,()),()))
else(bif (decide ((0:Int) ≤v.1.1∧(v.1.1:Int)< v.1.2.1.size)) then
let c:=(decide (((((v.1.2.1[v.1.1.toNat]?.getD 0).toNat:Nat):Int):Int)>126))
some ((c,v.1.2.1,v.1.1,()),())
else none)
else none):Option ((Bool×ByteArray×Int×Unit)×(Unit))).bind fun a=>
bif a.1.1 then(some (.inr (.inl ((false,()),()))))
else(some (.inl (((aT (a.1.2.2.1+1)),a.1.2.1,()),()))))
else(some (.inr (.inr ((),()))))
def aeM:Abs.Sg:=⟨[0],gG,.nil⟩
def ag7:Abs.Sg:=⟨[2],dQ,.nil⟩
def Tj(v:Fe):Option fH:=
bif (decide (((v.1.1.size:Int):Int)>64)) then(some ((false,()),()))
else((aB sV ((0,v.1),())).bind fun a=>
au a (fun b=>(some b)) (fun c=>(some ((true,()),()))))
def abU:Abs.Spec:=⟨0,aeM,ag7,Tj⟩
def aaJ:Nat→Abs.aW
 |0=>Abs.aW.mk (fun
  |6=>some ⟨[22,0,3],(.dat .bool (.dat .str bn)),.nil⟩
  |_=>none) (fun _=>none) (fun
  |4=>some ⟨⟨[3,0],IQ,.nil⟩,(.more .ret ⟨[2],dQ,.nil⟩ (.one (.exit 0) ⟨[],.nil,.nil⟩))⟩
  |_=>none) (fun _ _=>0)
 |_=>{}
theorem Yb:Abs.aD Tryz.prog 106 abU:=
 okW (an:=aaJ) dZ rfl (by intro v;kernel_rfl)
def i162:Abs.Sg:=⟨[0],(.dat JK .nil),.nil⟩
def aeT:Abs.Sg:=⟨[2],dQ,.nil⟩
def Ut(v:((Ke×Unit)×(Unit))):Option fH:=
(((PX ((v.1.1.1,()),())).bind fun a=>
bif a.1.1 then(bif (decide ((v.1.1.2.1:Int) ≥0)) then(bif (decide ((v.1.1.2.1:Int) ≤3)) then((Tj (v.1.1.2.2,())).bind fun b=>
some b)
else(some ((false,()),())))
else(some ((false,()),())))
else(some ((false,()),()))):Option fH).bind fun c=>
some c
def abg:Abs.Spec:=⟨0,i162,aeT,Ut⟩
def abI:Nat→Abs.aW
 |0=>Abs.aW.mk (fun
  |1=>some ⟨[2],dQ,.nil⟩
  |_=>none) (fun _=>none) (fun _=>none) (fun _ _=>0)
 |_=>{}
theorem Yf:Abs.aD Tryz.prog 162 abg:=
 okW (an:=abI) (bg Rv (bg Yb dZ)) rfl (by intro v;kernel_rfl)
def uh(v:((Int×(List ByteArray)×Unit)×(Unit))):Option (((Int×(List ByteArray)×Unit)×(Unit)) ⊕(fH⊕((Unit)×(Unit)))):=
let d:=(decide ((v.1.1:Int)< (v.1.2.1.length:Int)))
bif d then(((Abs.rowAt v.1.2.1 v.1.1 fun e _=>
(PX ((e,()),())).bind fun f=>
bif (!f.1.1) then(some ((true,v.1.2.1,v.1.1,()),()))
else(bif (decide ((v.1.1:Int)>0)) then(Abs.rowAt v.1.2.1 v.1.1 fun b _=>
Abs.rowAt v.1.2.1 (aT (v.1.1 - 1)) fun c _=>
some (((Op.bytesLess b.toList c.toList||b.toList==c.toList),v.1.2.1,v.1.1,()),()))
else(some ((false,v.1.2.1,v.1.1,()),())))):Option ((Bool×(List ByteArray)×Int×Unit)×(Unit))).bind fun a=>
bif a.1.1 then(some (.inr (.inl ((false,()),()))))
else(some (.inl (((aT (a.1.2.2.1+1)),a.1.2.1,()),()))))
else(some (.inr (.inr ((),()))))
def aeD:Abs.Sg:=⟨[0],FK,.nil⟩
def ahP:Abs.Sg:=⟨[2],dQ,.nil⟩
def Tx(v:(((List ByteArray)×Unit)×(Unit))):Option fH:=
(aB uh ((0,v.1),())).bind fun a=>
au a (fun b=>(some b)) (fun c=>(some ((true,()),())))
def aay:Abs.Spec:=⟨0,aeD,ahP,Tx⟩
def aaA:Nat→Abs.aW
 |0=>Abs.aW.mk (fun
  |4=>some ⟨[31,0,3],(.dat .bool (.dat (.row .str) bn)),.nil⟩
  |_=>none) (fun _=>none) (fun
  |2=>some ⟨⟨[3,0],(.dat (.int .i64) FK),.nil⟩,(.more .ret ⟨[2],dQ,.nil⟩ (.one (.exit 0) ⟨[],.nil,.nil⟩))⟩
  |_=>none) (fun _ _=>0)
 |_=>{}
theorem XK:Abs.aD Tryz.prog 142 aay:=
 okW (an:=aaA) (bg Rv dZ) rfl (by intro v;kernel_rfl)
def sI(v:((Int×Unit)×((Y8×Unit)×Unit))):Option (((Int×Unit)×((Y8×Unit)×Unit)) ⊕(((Int×Unit)×(Unit)) ⊕((Unit)×((Y8×Unit)×Unit)))):=
let a:=(decide ((v.1.1:Int)< (v.2.1.1.2.1.length:Int)))
bif a then(Abs.rowAt v.2.1.1.2.1 v.1.1 fun b _=>
(Ut ((b,()),())).bind fun c=>
bif (!c.1.1) then(some (.inr (.inl ((8,()),()))))
else(some (.inl (((aT (v.1.1+1)),()),v.2))))
else(some (.inr (.inr ((),v.2))))
def agm:Abs.Sg:=⟨[0],mV,.nil⟩
def ahk:Abs.Sg:=⟨[2],bn,.nil⟩
def VX(v:((Y8×Unit)×(Unit))):Option ((Int×Unit)×(Unit)):=
((bif (decide (((v.1.1.2.1.length:Int):Int)>8)) then(some ((true,()),v))
else(let c:=(decide (((v.1.1.2.2.2.1.length:Int):Int)>12))
some ((c,()),v))):Option ((Bool×Unit)×((Y8×Unit)×Unit))).bind fun b=>
bif b.1.1 then(some ((5,()),()))
else((aB sI ((0,()),b.2)).bind fun d=>
au d (fun e=>(some e)) (fun a=>((Tx ((a.2.1.1.2.2.2.1,()),())).bind fun f=>
bif (!f.1.1) then(some ((8,()),()))
else(((bif (decide ((a.2.1.1.2.2.1:Int)< 0)) then(some ((true,()),()))
else(bif (decide ((a.2.1.1.2.2.2.2.1:Int)< 0)) then(some ((true,()),()))
else(let g:=(decide ((a.2.1.1.2.2.2.2.1:Int)>a.2.1.1.2.2.2.2.2.1))
bif g then(some ((true,()),()))
else(let h:=(decide ((a.2.1.1.2.2.2.2.2.1:Int)>a.2.1.1.2.2.2.2.2.2.1))
bif h then(some ((true,()),()))
else(let j:=(decide ((a.2.1.1.2.2.2.2.2.2.1:Int)>604800))
bif j then(some ((true,()),()))
else(some ((((a.2.1.1.2.2.2.2.2.2.1:Int)==0),()),()))))))):Option fH).bind fun k=>
bif k.1.1 then(some ((1,()),()))
else(some ((0,()),()))))))
def aa0:Abs.Spec:=⟨0,agm,ahk,VX⟩
def aa1:Nat→Abs.aW
 |0=>Abs.aW.mk (fun
  |10=>some ⟨[33],dQ,.nil⟩
  |1=>some ⟨[13,1],(.dat .bool (.st (.ptr (0,0) 8 0 0) .nil)),(.box 8 mV .nil)⟩
  |_=>none) (fun _=>none) (fun
  |4=>some ⟨⟨[3,1],(.dat (.int .i64) (.st (.ptr (0,0) 8 0 0) .nil)),(.box 8 mV .nil)⟩,(.more .ret ⟨[2],bn,.nil⟩ (.one (.exit 0) ⟨[1],(.st (.ptr (0,0) 8 0 0) .nil),(.box 8 mV .nil)⟩))⟩
  |_=>none) (fun _ _=>0)
 |_=>{}
theorem abP:Abs.aD Tryz.prog 104 aa0:=
 okW (an:=aa1) (bg Yf (bg XK dZ)) rfl (by intro v;kernel_rfl)
def yx(v:((Int×(List Y8)×Unit)×(Unit))):Option (((Int×(List Y8)×Unit)×(Unit)) ⊕(((Int×Unit)×(Unit)) ⊕(((List Y8)×Unit)×(Unit)))):=
let c:=(decide ((v.1.1:Int)< (v.1.2.1.length:Int)))
bif c then(((bif ((v.1.1:Int)==0) then(Abs.rowAt v.1.2.1 v.1.1 fun d _=>
bif ((d.1:Int) !=(-1)) then(some ((true,v.1.2.1,v.1.1,()),()))
else(bif (decide ((v.1.1:Int)>0)) then(Abs.rowAt v.1.2.1 v.1.1 fun e _=>
bif (decide ((e.1:Int)< 0)) then(some ((true,v.1.2.1,v.1.1,()),()))
else(Abs.rowAt v.1.2.1 v.1.1 fun f _=>
some (((decide ((f.1:Int) ≥v.1.1)),v.1.2.1,v.1.1,()),())))
else(some ((false,v.1.2.1,v.1.1,()),()))))
else(bif (decide ((v.1.1:Int)>0)) then(Abs.rowAt v.1.2.1 v.1.1 fun g _=>
bif (decide ((g.1:Int)< 0)) then(some ((true,v.1.2.1,v.1.1,()),()))
else(Abs.rowAt v.1.2.1 v.1.1 fun h _=>
some (((decide ((h.1:Int) ≥v.1.1)),v.1.2.1,v.1.1,()),())))
else(some ((false,v.1.2.1,v.1.1,()),())))):Option ((Bool×(List Y8)×Int×Unit)×(Unit))).bind fun a=>
bif a.1.1 then(some (.inr (.inl ((3,()),()))))
else(Abs.rowAt a.1.2.1 a.1.2.2.1 fun j _=>
(VX ((j,()),())).bind fun b=>
bif ((b.1.1:Int) !=0) then(some (.inr (.inl b)))
else(some (.inl (((aT (a.1.2.2.1+1)),a.1.2.1,()),())))))
else(some (.inr (.inr (v.1.2,()))))
def i56:Abs.Sg:=⟨[0],(.dat (.row Z5) .nil),.nil⟩
def o56:Abs.Sg:=⟨[2],bn,.nil⟩
def m56(v:(((List Y8)×Unit)×(Unit))):Option ((Int×Unit)×(Unit)):=
bif (((v.1.1.length:Int):Int)==0) then(some ((7,()),()))
else(bif (decide (((v.1.1.length:Int):Int)>24)) then(some ((5,()),()))
else((aB yx ((0,v.1),())).bind fun a=>
au a (fun b=>(some b)) (fun c=>(Abs.rowAt c.1.1 0 fun d _=>
bif (decide (((d.2.1.length:Int):Int)>0)) then(some ((8,()),()))
else(some ((0,()),()))))))
def agz:Abs.Spec:=⟨0,i56,o56,m56⟩
def afj:Nat→Abs.aW
 |0=>Abs.aW.mk (fun
  |8=>some ⟨[47,0,3],(.dat .bool (.dat (.row Z5) bn)),.nil⟩
  |_=>none) (fun _=>none) (fun
  |6=>some ⟨⟨[3,0],(.dat (.int .i64) (.dat (.row Z5) .nil)),.nil⟩,(.more .ret ⟨[2],bn,.nil⟩ (.one (.exit 0) ⟨[0],(.dat (.row Z5) .nil),.nil⟩))⟩
  |_=>none) (fun _ _=>0)
 |_=>{}
theorem aeQ:Abs.aD Tryz.prog 56 agz:=
 okW (an:=afj) (bg abP dZ) rfl (by intro v;kernel_rfl)
def yP(v:((Int×Y4×Unit)×(Unit))):Option (((Int×Y4×Unit)×(Unit)) ⊕(fH⊕((Unit)×(Unit)))):=
let a:=(decide ((v.1.1:Int)< (v.1.2.1.length:Int)))
bif a then(Abs.rowAt v.1.2.1 v.1.1 fun b _=>
(Ut ((b,()),())).bind fun c=>
bif (!c.1.1) then(some (.inr (.inl ((false,()),()))))
else(some (.inl (((aT (v.1.1+1)),v.1.2),()))))
else(some (.inr (.inr ((),()))))
def i141:Abs.Sg:=⟨[0],(.dat Z2 .nil),.nil⟩
def aei:Abs.Sg:=⟨[2],dQ,.nil⟩
def Qw(v:((Y4×Unit)×(Unit))):Option fH:=
(aB yP ((0,v.1),())).bind fun a=>
au a (fun b=>(some b)) (fun c=>(some ((true,()),())))
def aan:Abs.Spec:=⟨0,i141,aei,Qw⟩
def abt:Nat→Abs.aW
 |0=>Abs.aW.mk (fun _=>none) (fun _=>none) (fun
  |2=>some ⟨⟨[3,0],(.dat (.int .i64) (.dat Z2 .nil)),.nil⟩,(.more .ret ⟨[2],dQ,.nil⟩ (.one (.exit 0) ⟨[],.nil,.nil⟩))⟩
  |_=>none) (fun _ _=>0)
 |_=>{}
theorem XC:Abs.aD Tryz.prog 141 aan:=
 okW (an:=abt) (bg Yf dZ) rfl (by intro v;kernel_rfl)
def Da(v:((Int×(List kU)×Unit)×(Unit))):Option (((Int×(List kU)×Unit)×(Unit)) ⊕(((Int×Unit)×(Unit)) ⊕((Unit)×(Unit)))):=
let e:=(decide ((v.1.1:Int)< (v.1.2.1.length:Int)))
bif e then(Abs.rowAt v.1.2.1 v.1.1 fun c _=>
((bif (((c.1.length:Int):Int)==0) then(some ((true,v.1.2.1,v.1.1,()),(c,()),()))
else(some (((((c.2.1.length:Int):Int)==0),v.1.2.1,v.1.1,()),(c,()),()))):Option ((Bool×(List kU)×Int×Unit)×((kU×Unit)×Unit))).bind fun a=>
bif a.1.1 then(some (.inr (.inl ((7,()),()))))
else(((let f:=(decide (((a.2.1.1.1.length:Int):Int)>8))
bif f then(some ((true,a.1.2),a.2))
else(let g:=(decide (((a.2.1.1.2.1.length:Int):Int)>8))
bif g then(some ((true,a.1.2),a.2))
else(let h:=(decide (((a.2.1.1.2.2.1.length:Int):Int)>12))
some ((h,a.1.2),a.2)))):Option ((Bool×(List kU)×Int×Unit)×((kU×Unit)×Unit))).bind fun b=>
bif b.1.1 then(some (.inr (.inl ((5,()),()))))
else((((Qw ((b.2.1.1.1,()),())).bind fun j=>
bif (!j.1.1) then(some ((true,b.1.2),()))
else((Qw ((b.2.1.1.2.1,()),())).bind fun k=>
bif (!k.1.1) then(some ((true,b.1.2),()))
else((Tx (b.2.1.1.2.2,())).bind fun l=>
some (((!l.1.1),b.1.2),())))):Option ((Bool×(List kU)×Int×Unit)×(Unit))).bind fun d=>
bif d.1.1 then(some (.inr (.inl ((8,()),()))))
else(some (.inl (((aT (d.1.2.2.1+1)),d.1.2.1,()),()))))))
else(some (.inr (.inr ((),()))))
def i80:Abs.Sg:=⟨[0],(.dat (.row qo) .nil),.nil⟩
def o80:Abs.Sg:=⟨[2],bn,.nil⟩
def m80(v:(((List kU)×Unit)×(Unit))):Option ((Int×Unit)×(Unit)):=
bif (decide (((v.1.1.length:Int):Int)>12)) then(some ((5,()),()))
else((aB Da ((0,v.1),())).bind fun a=>
au a (fun b=>(some b)) (fun c=>(some ((0,()),()))))
def afC:Abs.Spec:=⟨0,i80,o80,m80⟩
def agS:Nat→Abs.aW
 |0=>Abs.aW.mk (fun
  |11=>some ⟨[46,0,3],(.dat .bool (.dat (.row qo) bn)),.nil⟩
  |9=>some ⟨[29,0,3,4],(.dat .bool (.dat (.row qo) (.dat (.int .i64) (.st zV .nil)))),(.box 3 (.dat qo .nil) .nil)⟩
  |7=>some ⟨[18,0,3,4],(.dat .bool (.dat (.row qo) (.dat (.int .i64) (.st zV .nil)))),(.box 3 (.dat qo .nil) .nil)⟩
  |_=>none) (fun _=>none) (fun
  |4=>some ⟨⟨[3,0],(.dat (.int .i64) (.dat (.row qo) .nil)),.nil⟩,(.more .ret ⟨[2],bn,.nil⟩ (.one (.exit 0) ⟨[],.nil,.nil⟩))⟩
  |_=>none) (fun _ _=>0)
 |_=>{}
theorem adO:Abs.aD Tryz.prog 80 afC:=
 okW (an:=agS) (bg XC (bg XK dZ)) rfl (by intro v;kernel_rfl)
def i35:Abs.Sg:=⟨[0],oH,.nil⟩
def o35:Abs.Sg:=⟨[2],bn,.nil⟩
def m35(v:((lK×Unit)×(Unit))):Option ((Int×Unit)×(Unit)):=
(m56 ((v.1.1.1,()),())).bind fun a=>
bif ((a.1.1:Int) !=0) then(some a)
else((m80 ((v.1.1.2.1,()),())).bind fun b=>
bif ((b.1.1:Int) !=0) then(some b)
else(((bif (decide ((v.1.1.2.2.1:Int)< 0)) then(some ((true,()),()))
else(some (((decide ((v.1.1.2.2.1:Int)>604800)),()),()))):Option fH).bind fun c=>
bif c.1.1 then(some ((1,()),()))
else(some ((0,()),()))))
def aff:Abs.Spec:=⟨0,i35,o35,m35⟩
def afr:Nat→Abs.aW
 |0=>Abs.aW.mk (fun
  |7=>some ⟨[24],dQ,.nil⟩
  |_=>none) (fun _=>none) (fun _=>none) (fun _ _=>0)
 |_=>{}
theorem agE:Abs.aD Tryz.prog 35 aff:=
 okW (an:=afr) (bg aeQ (bg adO dZ)) rfl (by intro v;kernel_rfl)
def Ct(v:((Int×eF×Unit)×(Unit))):Option (((Int×eF×Unit)×(Unit)) ⊕(((Int×Unit)×(Unit)) ⊕((Unit)×(Unit)))):=
let d:=(decide ((v.1.1:Int)< (v.1.2.1.length:Int)))
bif d then(Abs.rowAt v.1.2.1 v.1.1 fun c _=>
((bif (decide ((c.1:Int)< 1)) then(some ((true,v.1.2.1,v.1.1,()),(c,()),()))
else(bif (decide ((v.1.1:Int)>0)) then(Abs.rowAt v.1.2.1 (aT (v.1.1 - 1)) fun e _=>
some (((decide ((c.1:Int) ≤e.1)),v.1.2.1,v.1.1,()),(c,()),()))
else(some ((false,v.1.2.1,v.1.1,()),(c,()),())))):Option ((Bool×eF×Int×Unit)×((Ma×Unit)×Unit))).bind fun a=>
bif a.1.1 then(some (.inr (.inl ((6,()),()))))
else(((bif (decide ((a.2.1.1.2.1:Int)< 0)) then(some ((true,a.1.2),a.2))
else(let f:=(decide ((a.2.1.1.2.1:Int) ≥a.2.1.1.2.2.1))
bif f then(some ((true,a.1.2),a.2))
else(bif (decide ((a.2.1.1.2.2.1:Int)>8589934592)) then(some ((true,a.1.2),a.2))
else(some (((decide ((a.2.1.1.2.2.2.1:Int)< 0)),a.1.2),a.2))))):Option ((Bool×eF×Int×Unit)×((Ma×Unit)×Unit))).bind fun b=>
bif b.1.1 then(some (.inr (.inl ((1,()),()))))
else(let g:=(((b.2.1.1.2.2.2.2.1.length:Int):Int)==0)
bif g then(some (.inr (.inl ((7,()),()))))
else(let h:=(decide (((b.2.1.1.2.2.2.2.1.length:Int):Int)>8))
bif h then(some (.inr (.inl ((5,()),()))))
else((Qw (b.2.1.1.2.2.2.2,())).bind fun j=>
bif (!j.1.1) then(some (.inr (.inl ((8,()),()))))
else(some (.inl (((aT (b.1.2.2.1+1)),b.1.2.1,()),()))))))))
else(some (.inr (.inr ((),()))))
def i87:Abs.Sg:=⟨[0],(.dat (.row Z6) .nil),.nil⟩
def o87:Abs.Sg:=⟨[2],bn,.nil⟩
def m87(v:((eF×Unit)×(Unit))):Option ((Int×Unit)×(Unit)):=
bif (decide (((v.1.1.length:Int):Int)>24)) then(some ((5,()),()))
else((aB Ct ((0,v.1),())).bind fun a=>
au a (fun b=>(some b)) (fun c=>(some ((0,()),()))))
def af5:Abs.Spec:=⟨0,i87,o87,m87⟩
def ae8:Nat→Abs.aW
 |0=>Abs.aW.mk (fun
  |9=>some ⟨[37,0,3,4],(.dat .bool (.dat (.row Z6) Qo)),(.box 5 (.dat Z6 .nil) .nil)⟩
  |7=>some ⟨[18,0,3,4],(.dat .bool (.dat (.row Z6) Qo)),(.box 5 (.dat Z6 .nil) .nil)⟩
  |_=>none) (fun _=>none) (fun
  |4=>some ⟨⟨[3,0],(.dat (.int .i64) (.dat (.row Z6) .nil)),.nil⟩,(.more .ret ⟨[2],bn,.nil⟩ (.one (.exit 0) ⟨[],.nil,.nil⟩))⟩
  |_=>none) (fun _ _=>0)
 |_=>{}
theorem ag5:Abs.aD Tryz.prog 87 af5:=
 okW (an:=ae8) (bg XC dZ) rfl (by intro v;kernel_rfl)
def i148:Abs.Sg:=⟨[0],bn,.nil⟩
def afF:Abs.Sg:=⟨[2],dQ,.nil⟩
def JW(v:((Int×Unit)×(Unit))):Option fH:=
((bif (decide ((v.1.1:Int) ≥0)) then(some (((decide ((v.1.1:Int) ≤8589934592)),()),()))
else(some ((false,()),()))):Option fH).bind fun a=>
some a
def aau:Abs.Spec:=⟨0,i148,afF,JW⟩
def aaY:Nat→Abs.aW
 |0=>Abs.aW.mk (fun
  |1=>some ⟨[2],dQ,.nil⟩
  |_=>none) (fun _=>none) (fun _=>none) (fun _ _=>0)
 |_=>{}
theorem adl:Abs.aD Tryz.prog 148 aau:=
 okW (an:=aaY) dZ rfl (by intro v;kernel_rfl)
def zL(v:((Int×bW×Unit)×(Unit))):Option (((Int×bW×Unit)×(Unit)) ⊕(fH⊕((Unit)×(Unit)))):=
let d:=(decide ((v.1.1:Int)< (v.1.2.1.length:Int)))
bif d then(((Abs.rowAt v.1.2.1 v.1.1 fun e _=>
(PX ((e.1,()),())).bind fun f=>
bif (!f.1.1) then(some ((true,v.1.2.1,v.1.1,()),()))
else(Abs.rowAt v.1.2.1 v.1.1 fun g _=>
(Tj (g.2,())).bind fun h=>
bif (!h.1.1) then(some ((true,v.1.2.1,v.1.1,()),()))
else(Abs.rowAt v.1.2.1 v.1.1 fun j _=>
bif (j.2.1.toList==ByteArray.empty.toList) then(some ((true,v.1.2.1,v.1.1,()),()))
else(bif (decide ((v.1.1:Int)>0)) then(Abs.rowAt v.1.2.1 v.1.1 fun b _=>
Abs.rowAt v.1.2.1 (aT (v.1.1 - 1)) fun c _=>
some (((Op.bytesLess b.1.toList c.1.toList||b.1.toList==c.1.toList),v.1.2.1,v.1.1,()),()))
else(some ((false,v.1.2.1,v.1.1,()),())))))):Option ((Bool×bW×Int×Unit)×(Unit))).bind fun a=>
bif a.1.1 then(some (.inr (.inl ((false,()),()))))
else(some (.inl (((aT (a.1.2.2.1+1)),a.1.2.1,()),()))))
else(some (.inr (.inr ((),()))))
def i57:Abs.Sg:=⟨[0],jX,.nil⟩
def o57:Abs.Sg:=⟨[2],dQ,.nil⟩
def ZT(v:((bW×Unit)×(Unit))):Option fH:=
bif (decide (((v.1.1.length:Int):Int)>12)) then(some ((false,()),()))
else((aB zL ((0,v.1),())).bind fun a=>
au a (fun b=>(some b)) (fun c=>(some ((true,()),()))))
def aea:Abs.Spec:=⟨0,i57,o57,ZT⟩
def aeE:Nat→Abs.aW
 |0=>Abs.aW.mk (fun
  |6=>some ⟨[54,0,3],(.dat .bool (.dat (.row iE) bn)),.nil⟩
  |_=>none) (fun _=>none) (fun
  |4=>some ⟨⟨[3,0],(.dat (.int .i64) jX),.nil⟩,(.more .ret ⟨[2],dQ,.nil⟩ (.one (.exit 0) ⟨[],.nil,.nil⟩))⟩
  |_=>none) (fun _ _=>0)
 |_=>{}
theorem Zv:Abs.aD Tryz.prog 57 aea:=
 okW (an:=aeE) (bg Rv (bg Yb dZ)) rfl (by intro v;kernel_rfl)
def rO(v:((Int×ByteArray×ByteArray×Unit)×(Unit))):Option (((Int×ByteArray×ByteArray×Unit)×(Unit)) ⊕Fe):=
bif (decide ((v.1.1:Int)< (v.1.2.1.size:Int))) then(((((bif (decide ((0:Int) ≤v.1.1∧(v.1.1:Int)< v.1.2.1.size)) then
let d:=(((((v.1.2.1[v.1.1.toNat]?.getD 0).toNat:Nat):Int):Int)==34)
bif d then(some ((true,v.1.2.1,v.1.1,v.1.2.2),()))
else(bif (decide ((0:Int) ≤v.1.1∧(v.1.1:Int)< v.1.2.1.size)) then
let e:=(((((v.1.2.1[v.1.1.toNat]?.getD 0).toNat:Nat):Int):Int)==92)
some ((e,v.1.2.1,v.1.1,v.1.2.2),())
else none)
else none):Option ((Bool×ByteArray×Int×ByteArray×Unit)×(Unit))).bind fun b=>
bif b.1.1 then(bif (decide (b.1.2.2.2.1.size+1≤4294967296)) then
some ((b.1.2.1,b.1.2.2.1,(b.1.2.2.2.1++(bs [92])),()),())
else none)
else(some (b.1.2,()))):Option (Ke×(Unit))).bind fun a=>
bif (decide ((0:Int) ≤a.1.2.1)) then
bif (decide ((0:Int) ≤(aT (a.1.2.1+1)))) then
bif (decide (a.1.2.1.toNat≤(aT (a.1.2.1+1)).toNat∧(aT (a.1.2.1+1)).toNat≤a.1.1.size)) then
let c:=(a.1.1.extract a.1.2.1.toNat (aT (a.1.2.1+1)).toNat)
bif (decide (a.1.2.2.1.size+c.size≤4294967296)) then
some (.inl (((aT (a.1.2.1+1)),a.1.1,(a.1.2.2.1++c),()),()))
else none
else none
else none
else none)
else(some (.inr (v.1.2.2,())))
def i109:Abs.Sg:=⟨[0],gG,.nil⟩
def ahr:Abs.Sg:=⟨[2],gG,.nil⟩
def Va(v:Fe):Option Fe:=
(aB rO ((0,v.1.1,(bs [34]),()),())).bind fun a=>
bif (decide (a.1.1.size+1≤4294967296)) then
some (((a.1.1++(bs [34])),()),())
else none
def aaS:Abs.Spec:=⟨0,i109,ahr,Va⟩
def aas:Nat→Abs.aW
 |0=>Abs.aW.mk (fun
  |5=>some ⟨[20,0,4,3],(.dat .bool (.dat .str IQ)),.nil⟩
  |_=>none) (fun
  |7=>some (⟨[0,4,3],(.dat .str IQ),.nil⟩,none)
  |_=>none) (fun
  |3=>some ⟨⟨[4,0,3],(.dat (.int .i64) (.dat .str gG)),.nil⟩,(.one (.exit 0) ⟨[3],gG,.nil⟩)⟩
  |_=>none) (fun _ _=>0)
 |_=>{}
theorem abS:Abs.aD Tryz.prog 109 aaS:=
 okW (an:=aas) dZ rfl (by intro v;kernel_rfl)
def uV(v:((Int×bW×ByteArray×Unit)×(Unit))):Option (((Int×bW×ByteArray×Unit)×(Unit)) ⊕Fe):=
let d:=(decide ((v.1.1:Int)< (v.1.2.1.length:Int)))
bif d then(((bif (decide ((v.1.1:Int)>0)) then(bif (decide (v.1.2.2.1.size+1≤4294967296)) then
some ((v.1.2.1,v.1.1,(v.1.2.2.1++(bs [44])),()),())
else none)
else(some ((v.1.2.1,v.1.1,v.1.2.2),()))):Option ((bW×Int×ByteArray×Unit)×(Unit))).bind fun a=>
Abs.rowAt a.1.1 a.1.2.1 fun b _=>
bif (decide (b.1.size+1≤4294967296)) then
Abs.rowAt a.1.1 a.1.2.1 fun e _=>
(Va (e.2,())).bind fun c=>
bif (decide ((b.1++(bs [61])).size+c.1.1.size≤4294967296)) then
bif (decide (a.1.2.2.1.size+((b.1++(bs [61]))++c.1.1).size≤4294967296)) then
let f:=(a.1.2.2.1++((b.1++(bs [61]))++c.1.1))
some (.inl (((aT (a.1.2.1+1)),a.1.1,f,()),()))
else none
else none
else none)
else(some (.inr (v.1.2.2,())))
def i59:Abs.Sg:=⟨[0],jX,.nil⟩
def o59:Abs.Sg:=⟨[2],gG,.nil⟩
def m59(v:((bW×Unit)×(Unit))):Option Fe:=
(ZT v).bind fun b=>
bif (!b.1.1) then(some ((ByteArray.empty,()),()))
else((aB uV ((0,v.1.1,(bs [123]),()),())).bind fun a=>
bif (decide (a.1.1.size+1≤4294967296)) then
some (((a.1.1++(bs [125])),()),())
else none)
def aeF:Abs.Spec:=⟨0,i59,o59,m59⟩
def aes:Nat→Abs.aW
 |0=>Abs.aW.mk (fun _=>none) (fun
  |9=>some (⟨[0,4,3],(.dat (.row iE) IQ),.nil⟩,none)
  |_=>none) (fun
  |5=>some ⟨⟨[4,0,3],(.dat (.int .i64) (.dat (.row iE) gG)),.nil⟩,(.one (.exit 0) ⟨[3],gG,.nil⟩)⟩
  |_=>none) (fun _ _=>0)
 |_=>{}
theorem aaG:Abs.aD Tryz.prog 59 aeF:=
 okW (an:=aes) (bg Zv (bg abS dZ)) rfl (by intro v;kernel_rfl)
def vF(v:((Int×Unit)×((Y3×Unit)×Unit))):Option (((Int×Unit)×((Y3×Unit)×Unit)) ⊕(fH⊕((Unit)×(Unit)))):=
let e:=(decide ((v.1.1:Int)< (v.2.1.1.2.2.1.length:Int)))
bif e then(Abs.rowAt v.2.1.1.2.2.1 v.1.1 fun a _=>
(((ZT ((a.2.1,()),())).bind fun f=>
bif (!f.1.1) then(some ((true,v.1),v.2))
else((m59 ((a.2.1,()),())).bind fun g=>
bif (!(g.1.1.toList==a.1.toList)) then(some ((true,v.1),v.2))
else((JW ((a.2.2.1,()),())).bind fun h=>
bif (!h.1.1) then(some ((true,v.1),v.2))
else((JW ((a.2.2.2.1,()),())).bind fun j=>
bif (!j.1.1) then(some ((true,v.1),v.2))
else(bif (!a.2.2.2.2.1) then(bif a.2.2.2.2.2.1 then(some ((true,v.1),v.2))
else(bif (decide ((v.1.1:Int)>0)) then(Abs.rowAt v.2.1.1.2.2.1 (aT (v.1.1 - 1)) fun c _=>
some (((Op.bytesLess a.1.toList c.1.toList||a.1.toList==c.1.toList),v.1),v.2))
else(some ((false,v.1),v.2))))
else(bif (decide ((v.1.1:Int)>0)) then(Abs.rowAt v.2.1.1.2.2.1 (aT (v.1.1 - 1)) fun d _=>
some (((Op.bytesLess a.1.toList d.1.toList||a.1.toList==d.1.toList),v.1),v.2))
else(some ((false,v.1),v.2)))))))):Option ((Bool×Int×Unit)×((Y3×Unit)×Unit))).bind fun b=>
bif b.1.1 then(some (.inr (.inl ((false,()),()))))
else(some (.inl (((aT (b.1.2.1+1)),()),b.2))))
else(some (.inr (.inr ((),()))))
def i88:Abs.Sg:=⟨[0],(.dat Z1 .nil),.nil⟩
def o88:Abs.Sg:=⟨[2],dQ,.nil⟩
def m88(v:((Y3×Unit)×(Unit))):Option fH:=
((let b:=(decide (((v.1.1.2.2.1.length:Int):Int)>256))
bif b then(some ((true,()),v))
else(bif (decide ((v.1.1.1:Int)< 0)) then(some ((true,()),v))
else(bif ((v.1.1.2.2.2.1:Int) !=(-1)) then((JW ((v.1.1.2.2.2.1,()),())).bind fun c=>
bif (!c.1.1) then(some ((true,()),v))
else(bif ((v.1.1.2.2.2.2.1:Int) !=(-1)) then((JW (v.1.1.2.2.2.2,())).bind fun d=>
some (((!d.1.1),()),v))
else(some ((false,()),v))))
else(bif ((v.1.1.2.2.2.2.1:Int) !=(-1)) then((JW (v.1.1.2.2.2.2,())).bind fun e=>
some (((!e.1.1),()),v))
else(some ((false,()),v)))))):Option ((Bool×Unit)×((Y3×Unit)×Unit))).bind fun a=>
bif a.1.1 then(some ((false,()),()))
else((aB vF ((0,()),a.2)).bind fun f=>
au f (fun g=>(some g)) (fun h=>(some ((true,()),()))))
def afc:Abs.Spec:=⟨0,i88,o88,m88⟩
def ae4:Nat→Abs.aW
 |0=>Abs.aW.mk (fun
  |7=>some ⟨[96,1,3],(.dat .bool (.st fI bn)),uy⟩
  |1=>some ⟨[35,1],(.dat .bool (.st fI .nil)),uy⟩
  |_=>none) (fun _=>none) (fun
  |4=>some ⟨⟨[3,1],Qo,uy⟩,(.more .ret ⟨[2],dQ,.nil⟩ (.one (.exit 0) ⟨[],.nil,.nil⟩))⟩
  |_=>none) (fun _ _=>0)
 |_=>{}
theorem agQ:Abs.aD Tryz.prog 88 afc:=
 okW (an:=ae4) (bg adl (bg Zv (bg aaG dZ))) rfl (by intro v;kernel_rfl)
def agx:Abs.Sg:=⟨[0],(.dat Z1 .nil),.nil⟩
def aez:Abs.Sg:=⟨[2],dQ,.nil⟩
def acV(v:((Y3×Unit)×(Unit))):Option fH:=
some (((((v.1.1.2.2.1.length:Int):Int)==0),()),())
def aaP:Abs.Spec:=⟨0,agx,aez,acV⟩
def acy:Nat→Abs.aW
 |_=>{}
theorem aaw:Abs.aD Tryz.prog 149 aaP:=
 okW (an:=acy) dZ rfl (by intro v;kernel_rfl)
def i89:Abs.Sg:=⟨[0,1,2],(.dat Tv (.dat Z1 bn)),.nil⟩
def o89:Abs.Sg:=⟨[6],dQ,.nil⟩
def m89(v:((lK×Y3×Int×Unit)×(Unit))):Option fH:=
(((acV ((v.1.2.1,()),())).bind fun a=>
bif a.1.1 then(bif ((v.1.2.1.2.2.2.2.1:Int)==(-1)) then(some ((true,()),()))
else(Abs.rowAt v.1.1.1 v.1.2.1.1 fun b _=>
let c:=(decide (((aT (v.1.2.1.2.2.2.2.1+b.2.2.2.2.2.1)):Int) ≤v.1.2.2.1))
some ((c,()),())))
else(some ((false,()),()))):Option fH).bind fun d=>
some d
def ae6:Abs.Spec:=⟨0,i89,o89,m89⟩
def aeY:Nat→Abs.aW
 |0=>Abs.aW.mk (fun
  |1=>some ⟨[6],dQ,.nil⟩
  |_=>none) (fun _=>none) (fun _=>none) (fun _ _=>0)
 |_=>{}
theorem aeJ:Abs.aD Tryz.prog 89 ae6:=
 okW (an:=aeY) (bg aaw dZ) rfl (by intro v;kernel_rfl)
def i90:Abs.Sg:=⟨[0,1,2],(.dat Z1 IQ),.nil⟩
def o90:Abs.Sg:=⟨[6],dQ,.nil⟩
def m90(v:((Y3×Int×ByteArray×Unit)×(Unit))):Option fH:=
((bif (decide ((v.1.1.1:Int)< v.1.2.1)) then(some ((true,()),()))
else(bif ((v.1.1.1:Int)==v.1.2.1) then(some (((Op.bytesLess v.1.1.2.1.toList v.1.2.2.1.toList),()),()))
else(some ((false,()),())))):Option fH).bind fun a=>
some a
def aeG:Abs.Spec:=⟨0,i90,o90,m90⟩
def ag9:Nat→Abs.aW
 |0=>Abs.aW.mk (fun
  |1=>some ⟨[6],dQ,.nil⟩
  |_=>none) (fun _=>none) (fun _=>none) (fun _ _=>0)
 |_=>{}
theorem aeL:Abs.aD Tryz.prog 90 aeG:=
 okW (an:=ag9) dZ rfl (by intro v;kernel_rfl)
def xU(v:((bW×(List ByteArray)×Int×Int×Unit)×(bW×Unit))):Option (((bW×(List ByteArray)×Int×Int×Unit)×(bW×Unit)) ⊕((bW×(List ByteArray)×Int×Unit)×(bW×Unit))):=
let b:=(decide ((v.1.2.2.2.1:Int)< (v.1.2.1.length:Int)))
bif b then(Abs.rowAt v.1.2.1 v.1.2.2.2.1 fun c _=>
Abs.rowAt v.1.1 v.1.2.2.1 fun d _=>
bif (c.toList==d.1.toList) then(Abs.rowAt v.1.1 v.1.2.2.1 fun a _=>
bif (decide (v.2.1.length+([a]:List (ByteArray×ByteArray×Unit)).length≤4294967296)) then
let e:=(v.2.1++([a]:List (ByteArray×ByteArray×Unit)))
some (.inr ((v.1.1,v.1.2.1,v.1.2.2.1,()),e,()))
else none)
else(some (.inl ((v.1.1,v.1.2.1,v.1.2.2.1,(aT (v.1.2.2.2.1+1)),()),v.2))))
else(some (.inr ((v.1.1,v.1.2.1,v.1.2.2.1,()),v.2)))
def zY(v:((Int×bW×(List ByteArray)×Unit)×(bW×Unit))):Option (((Int×bW×(List ByteArray)×Unit)×(bW×Unit)) ⊕((Unit)×(bW×Unit))):=
let b:=(decide ((v.1.1:Int)< (v.1.2.1.length:Int)))
bif b then((aB xU ((v.1.2.1,v.1.2.2.1,v.1.1,0,()),v.2)).bind fun a=>
some (.inl (((aT (a.1.2.2.1+1)),a.1.1,a.1.2.1,()),a.2)))
else(some (.inr ((),v.2)))
def i60:Abs.Sg:=⟨[0,1],(.dat (.row iE) FK),.nil⟩
def o60:Abs.Sg:=⟨[4],(.st (.own iE (0,0)) .nil),yT⟩
def m60(v:((bW×(List ByteArray)×Unit)×(Unit))):Option ((Unit)×(bW×Unit)):=
(aB zY ((0,v.1),[],())).bind fun a=>
some ((),a.2)
def aha:Abs.Spec:=⟨0,i60,o60,m60⟩
def ahJ:Nat→Abs.aW
 |0=>Abs.aW.mk (fun _=>none) (fun _=>none) (fun
  |3=>some ⟨⟨[6,0,5,1],(.dat (.int .i64) (.dat (.row iE) (.st (.own iE (0,0)) FK))),yT⟩,(.one (.exit 0) ⟨[5],(.st (.own iE (0,0)) .nil),yT⟩)⟩
  |6=>some ⟨⟨[0,1,6,5,7],(.dat (.row iE) (.dat (.row .str) (.dat (.int .i64) (.st (.own iE (0,0)) bn)))),yT⟩,(.one (.exit 2) ⟨[0,5,1,6],(.dat (.row iE) (.st (.own iE (0,0)) (.dat (.row .str) bn))),yT⟩)⟩
  |_=>none) (fun _ _=>0)
 |_=>{}
theorem ah1:Abs.aD Tryz.prog 60 aha:=
 okW (an:=ahJ) dZ rfl (by intro v;kernel_rfl)
def i20:Abs.Sg:=⟨[0,1],(.dat Z5 jX),.nil⟩
def o20:Abs.Sg:=⟨[4],gG,.nil⟩
def m20(v:((Y8×bW×Unit)×(Unit))):Option Fe:=
(ZT (v.1.2,())).bind fun a=>
bif (!a.1.1) then(some ((ByteArray.empty,()),()))
else((m60 ((v.1.2.1,v.1.1.2.2.2.1,()),())).bind fun b=>
(m59 (b.2,())).bind fun c=>
some c)
def adX:Abs.Spec:=⟨0,i20,o20,m20⟩
def aep:Nat→Abs.aW
 |_=>{}
theorem afa:Abs.aD Tryz.prog 20 adX:=
 okW (an:=aep) (bg Zv (bg ah1 (bg aaG dZ))) rfl (by intro v;kernel_rfl)
def u7(v:((Int×Int×Unit)×((Y3×Unit)×(lK×Unit)×wu×Unit))):Option (((Int×Int×Unit)×((Y3×Unit)×(lK×Unit)×wu×Unit)) ⊕(fH⊕((Int×Unit)×((lK×Unit)×wu×Unit)))):=
let a:=(decide ((v.1.1:Int)< (v.2.1.1.2.2.1.length:Int)))
bif a then(Abs.rowAt v.2.2.1.1.1 v.2.1.1.1 fun b _=>
Abs.rowAt v.2.1.1.2.2.1 v.1.1 fun c _=>
(m20 ((b,c.2.1,()),())).bind fun d=>
bif (!(d.1.1.toList==v.2.1.1.2.1.toList)) then(some (.inr (.inl ((false,()),()))))
else(some (.inl (((aT (v.1.1+1)),v.1.2),v.2))))
else(some (.inr (.inr (v.1.2,v.2.2))))
def q8(v:((Int×Unit)×((lK×Unit)×wu×Unit))):Option (((Int×Unit)×((lK×Unit)×wu×Unit)) ⊕(fH⊕((Unit)×(wu×Unit)))):=
let d:=(decide ((v.1.1:Int)< (v.2.2.1.1.2.1.length:Int)))
bif d then(Abs.rowAt v.2.2.1.1.2.1 v.1.1 fun a _=>
(((m88 ((a,()),())).bind fun e=>
bif (!e.1.1) then(some ((true,v.1),(a,()),v.2))
else(let f:=(decide ((a.1:Int) ≥(v.2.1.1.1.length:Int)))
bif f then(some ((true,v.1),(a,()),v.2))
else((m89 ((v.2.1.1,a,v.2.2.1.1.1,()),())).bind fun g=>
bif g.1.1 then(some ((true,v.1),(a,()),v.2))
else(bif (decide ((v.1.1:Int)>0)) then(Abs.rowAt v.2.2.1.1.2.1 (aT (v.1.1 - 1)) fun h _=>
(m90 ((h,a.1,a.2.1,()),())).bind fun j=>
some (((!j.1.1),v.1),(a,()),v.2))
else(some ((false,v.1),(a,()),v.2)))))):Option ((Bool×Int×Unit)×((Y3×Unit)×(lK×Unit)×wu×Unit))).bind fun b=>
bif b.1.1 then(some (.inr (.inl ((false,()),()))))
else((aB u7 ((0,b.1.2),b.2)).bind fun k=>
au k (fun l=>(some (.inr (.inl l)))) (fun c=>(some (.inl (((aT (c.1.1+1)),()),c.2))))))
else(some (.inr (.inr ((),v.2.2))))
def rU(v:((Int×Unit)×(wu×Unit))):Option (((Int×Unit)×(wu×Unit)) ⊕(fH⊕((Unit)×(Unit)))):=
let a:=(decide ((v.1.1:Int)< (v.2.1.1.2.2.1.length:Int)))
bif a then(Abs.rowAt v.2.1.1.2.2.1 v.1.1 fun b _=>
bif (decide ((b.1:Int) ≥v.2.1.1.2.2.2.1)) then(some (.inr (.inl ((false,()),()))))
else(some (.inl (((aT (v.1.1+1)),()),v.2))))
else(some (.inr (.inr ((),()))))
def i37:Abs.Sg:=⟨[0,1],(.dat Tv qU),.nil⟩
def o37:Abs.Sg:=⟨[4],dQ,.nil⟩
def ZQ(v:((lK×(Int×(List Y3)×eF×Int×Unit)×Unit)×(Unit))):Option fH:=
(((m35 ((v.1.1,()),())).bind fun b=>
bif ((b.1.1:Int) !=0) then(some ((true,()),(v.1.1,()),v.1.2,()))
else(bif (decide ((v.1.2.1.1:Int)< 0)) then(some ((true,()),(v.1.1,()),v.1.2,()))
else(bif (decide ((v.1.2.1.1:Int)>8589934592)) then(some ((true,()),(v.1.1,()),v.1.2,()))
else(let c:=(decide (((v.1.2.1.2.1.length:Int):Int)>64))
bif c then(some ((true,()),(v.1.1,()),v.1.2,()))
else((m87 ((v.1.2.1.2.2.1,()),())).bind fun d=>
bif ((d.1.1:Int) !=0) then(some ((true,()),(v.1.1,()),v.1.2,()))
else(some (((decide ((v.1.2.1.2.2.2.1:Int)< 1)),()),(v.1.1,()),v.1.2,()))))))):Option ((Bool×Unit)×((lK×Unit)×wu×Unit))).bind fun a=>
bif a.1.1 then(some ((false,()),()))
else((aB q8 ((0,()),a.2)).bind fun e=>
au e (fun f=>(some f)) (fun g=>((aB rU ((0,()),g.2)).bind fun h=>
au h (fun j=>(some j)) (fun k=>(some ((true,()),()))))))
def aeR:Abs.Spec:=⟨0,i37,o37,ZQ⟩
def aeg:Nat→Abs.aW
 |0=>Abs.aW.mk (fun
  |7=>some ⟨[86,6,2,3,5],(.dat .bool (.st fI (.st (.ptr (1,0) 3 0 0) (.st (.ptr (2,0) 4 0 0) bn)))),(.box 5 (.dat Z1 .nil) Kn)⟩
  |1=>some ⟨[38,2,3],(.dat .bool (.st zV (.st q9 .nil))),Kn⟩
  |_=>none) (fun _=>none) (fun
  |15=>some ⟨⟨[8,3],(.dat (.int .i64) (.st gN .nil)),(.box 4 qU .nil)⟩,(.more .ret ⟨[4],dQ,.nil⟩ (.one (.exit 4) ⟨[],.nil,.nil⟩))⟩
  |4=>some ⟨⟨[2,5,3],(.st zV (.dat (.int .i64) (.st q9 .nil))),Kn⟩,(.more .ret ⟨[4],dQ,.nil⟩ (.one (.exit 0) ⟨[3],(.st gN .nil),(.box 4 qU .nil)⟩))⟩
  |10=>some ⟨⟨[7,6,2,3,5],(.dat (.int .i64) (.st fI (.st (.ptr (1,0) 3 0 0) (.st (.ptr (2,0) 4 0 0) bn)))),(.box 5 (.dat Z1 .nil) Kn)⟩,(.more .ret ⟨[4],dQ,.nil⟩ (.one (.exit 2) ⟨[2,3,5],(.st zV (.st q9 bn)),Kn⟩))⟩
  |_=>none) (fun _ _=>0)
 |_=>{}
theorem ahg:Abs.aD Tryz.prog 37 aeR:=
 okW (an:=aeg) (bg agE (bg ag5 (bg agQ (bg aeJ (bg aeL (bg afa dZ)))))) rfl (by intro v;kernel_rfl)
def jA(v:((Int×Unit)×(wu×((Int×Unit)×Unit)×lH×(List Y8)×(List kU)×Unit))):Option (((Int×Unit)×(wu×((Int×Unit)×Unit)×lH×(List Y8)×(List kU)×Unit)) ⊕(fH⊕((Unit)×(Unit)))):=
bif (decide ((v.1.1:Int)< 14)) then((m32 (([0,1,10,30,400,(-1)],()),v.2.2.2.1,())).bind fun k=>
(((Fp ((6,()),k.2)).bind fun d=>
((bif ((d.1.1:Int)==0) then(some ((((d.1.1:Int)==0),v.1.1,(aT (v.2.1.1.1+k.1.1)),0,d.1),v.2.1,v.2.2.1,d.2.1,v.2.1,v.2.2.2.2))
else(bif ((d.1.1:Int)==1) then(some ((((d.1.1:Int)==1),v.1.1,(aT (v.2.1.1.1+k.1.1)),0,d.1),v.2.1,v.2.2.1,d.2.1,v.2.1,v.2.2.2.2))
else(some ((((d.1.1:Int)==2),v.1.1,(aT (v.2.1.1.1+k.1.1)),0,d.1),v.2.1,v.2.2.1,d.2.1,v.2.1,v.2.2.2.2)))):Option ((Bool×Int×Int×Int×Int×Unit)×(wu×((Int×Unit)×Unit)×lH×wu×(List Y8)×(List kU)×Unit))).bind fun a=>
bif a.1.1 then((m39 ((),a.2.2.2.1,())).bind fun m=>
(Fp ((3,()),m.2.1,())).bind fun n=>
(UI (((a.2.2.2.2.2.1,a.2.2.2.2.2.2.1,a.2.2.1.1),a.2.1.1,(a.1.2.2.1,m.2.2.1,(decide ((n.1.1:Int)>0)),()),()),())).bind fun e=>
bif (decide (e.2.1.1.2.1.1+e.2.1.1.2.1.2≤e.2.2.1.length)) then
some ((a.1.2.1,e.1),a.2.1,a.2.2.1,n.2.1,((e.2.1.1.1,((e.2.2.1.drop e.2.1.1.2.1.1).take e.2.1.1.2.1.2),e.2.2.2.1,e.2.1.1.2.2),()),a.2.2.2.2.2)
else none)
else(bif ((a.1.2.2.2.2.1:Int)==3) then((XY (((a.2.2.2.2.2.1,a.2.2.2.2.2.2.1,a.2.2.1.1),a.2.1.1,a.1.2.2.1,()),())).bind fun f=>
bif (decide (f.2.1.1.2.1.1+f.2.1.1.2.1.2≤f.2.2.2.1.length)) then
some ((a.1.2.1,f.1),a.2.1,a.2.2.1,a.2.2.2.1,((f.2.1.1.1,((f.2.2.2.1.drop f.2.1.1.2.1.1).take f.2.1.1.2.1.2),f.2.2.2.2.1,f.2.1.1.2.2),()),a.2.2.2.2.2)
else none)
else(bif ((a.1.2.2.2.2.1:Int)==4) then((m43 ((0,()),a.2.2.2.1,())).bind fun g=>
(W9 (((a.2.2.2.2.2.1,a.2.2.2.2.2.2.1,a.2.2.1.1),a.2.1.1,(g.2.2.1.1.1,g.2.2.1.1.2.1,g.2.2.1.1.2.2.1,g.2.2.1.1.2.2.2.1,g.2.2.2),()),())).bind fun h=>
some ((a.1.2.1,h.1.2),a.2.1,a.2.2.1,g.2.1,((h.2.1.1.1,h.2.2.1,h.2.2.2.1,h.2.1.1.2),()),a.2.2.2.2.2))
else(bif ((a.1.2.2.2.2.1:Int)==5) then((Fp ((3,()),a.2.2.2.1,())).bind fun o=>
(YR (((a.2.2.2.2.2.1,a.2.2.2.2.2.2.1,a.2.2.1.1),a.2.1.1,(aT (1+o.1.1)),()),())).bind fun j=>
some ((a.1.2.1,j.1),a.2.1,a.2.2.1,o.2.1,((j.2.1.1.1,j.2.2.1,j.2.2.2.1,j.2.1.1.2),()),a.2.2.2.2.2))
else(some ((a.1.2.1,a.1.2.2.2.1,()),a.2)))))):Option ((Int×Int×Unit)×(wu×((Int×Unit)×Unit)×lH×wu×(List Y8)×(List kU)×Unit))).bind fun b=>
((bif ((b.1.2.1:Int)==0) then(some (.inl ((b.1.1,()),b.2.2.2.2.1,b.2.2.1,b.2.2.2.1,b.2.2.2.2.2)))
else((m17 ((b.2.2.2.2.1.1,(0,[],[],0,()),()),())).bind fun p=>
bif (!p.1.1) then(some (.inr ((false,()),())))
else(some (.inl ((b.1.1,()),b.2.1,b.2.2.1,b.2.2.2.1,b.2.2.2.2.2))))):Option (((Int×Unit)×(wu×((Int×Unit)×Unit)×lH×(List Y8)×(List kU)×Unit)) ⊕fH)).bind fun q=>
au q (fun c=>((((Un (((c.2.2.2.2.1,c.2.2.2.2.2.1,c.2.2.1.1),c.2.1),())).bind fun r=>
bif (!r.1.1) then(some ((true,c.1),c.2))
else((ZQ (((c.2.2.2.2.1,c.2.2.2.2.2.1,c.2.2.1.1),c.2.1),())).bind fun s=>
some (((!s.1.1),c.1),c.2))):Option ((Bool×Int×Unit)×(wu×((Int×Unit)×Unit)×lH×(List Y8)×(List kU)×Unit))).bind fun l=>
bif l.1.1 then(some (.inr (.inl ((false,()),()))))
else(some (.inl (((aT (l.1.2.1+1)),()),l.2))))) (fun t=>(some (.inr (.inl t)))))
else(some (.inr (.inr ((),()))))
def i8:Abs.Sg:=⟨[0],(.dat (.row (.int .i64)) .nil),.nil⟩
def o8:Abs.Sg:=⟨[2],dQ,.nil⟩
def m8(v:(((List Int)×Unit)×(Unit))):Option fH:=
(m9 v).bind fun c=>
bif (!c.1.1) then((m10 ((),())).bind fun d=>
some d)
else((m11 v).bind fun e=>
(m12 ((3,()),e.2)).bind fun a=>
(m26 ((),())).bind fun b=>
(aB jA ((0,()),((b.2.1.1.1,[],[],b.2.1.1.2),()),a.2.2.1,a.2.1,a.2.2.2)).bind fun f=>
au f (fun g=>(some g)) (fun j=>((m10 ((),())).bind fun h=>
some h)))
def sp8:Abs.Spec:=⟨0,i8,o8,m8⟩
def an8:Nat→Abs.aW
 |0=>Abs.aW.mk (fun
  |26=>some ⟨[97,5,4,3,6],(.dat .bool (.st gN (.st (.ptr (1,0) 3 0 0) (.st (.ptr (2,0) 2 0 0) bn)))),Zt⟩
  |_=>none) (fun
  |26=>some (⟨[5,4,3,6],(.st gN (.st (.ptr (1,0) 3 0 0) (.st (.ptr (2,0) 2 0 0) bn))),Zt⟩,some (.one .ret ⟨[2],dQ,.nil⟩))
  |22=>some (⟨[5,4,3,6,7,8],(.st gN (.st (.ptr (1,0) 3 0 0) (.st (.ptr (2,0) 2 0 0) (.dat (.int .i64) (.st (.ptr (3,0) 4 0 0) bn))))),(.box 4 qU (.box 3 (.agg (.st (.own Z5 (4,0)) (.st (.own qo (5,0)) bn)) .nil) (.box 2 lg (.box 4 qU (.arr Z5 true (.arr qo true .nil))))))⟩,none)
  |15=>some (⟨[32,5,4,3,6,7,9,8,31],(.dat .bool (.st gN (.st (.ptr (1,0) 3 0 0) (.st (.ptr (2,0) 2 0 0) (.dat (.int .i64) (.st (.ptr (3,0) 4 0 0) EM)))))),(.box 4 qU (.box 3 (.agg (.st (.own Z5 (4,0)) (.st (.own qo (5,0)) bn)) .nil) (.box 2 lg (.box 4 qU (.arr Z5 true (.arr qo true .nil))))))⟩,none)
  |_=>none) (fun
  |7=>some ⟨⟨[6,5,4,3],(.dat (.int .i64) (.st gN (.st (.ptr (1,0) 3 0 0) (.st (.ptr (2,0) 2 0 0) .nil)))),Zt⟩,(.more .ret ⟨[2],dQ,.nil⟩ (.one (.exit 0) ⟨[],.nil,.nil⟩))⟩
  |_=>none) (fun _ _=>0)
 |_=>{}
theorem ok8:Abs.aD Tryz.prog 8 sp8:=
 okW (an:=an8) (bg ok9 (bg ahm (bg ae0 (bg ahb (bg YK (bg ok32 (bg FO (bg agY (bg Yr (bg aaQ (bg aek (bg ab0 (bg ahx (bg agI (bg Qd (bg ahg dZ)))))))))))))))) rfl (by intro v;kernel_rfl)
end
end Go.Proofs.YtchnmpafhfjimaaGreatDoor
namespace Go.Proofs.YtchnmpafhfjimaaGreatDoor
open Go Go.Abs Go.Lab
theorem sS:(∀h:Decidable True,@decide True h=true) ∧(∀h:Decidable False,@decide False h=false) ∧(∀{α:Type} (a b:α),cond true a b=a) ∧(∀{α:Type} (a b:α),cond false a b=b) ∧(∀{α β:Type} (a:α) (f:α→Option β),(some a).bind f=f a) ∧(!true)=false∧(!false)=true∧(∀b:Bool,(true&&b)=b) ∧(∀b:Bool,(b&&true)=b) ∧(∀b:Bool,(false&&b)=false) ∧(∀b:Bool,(b&&false)=false) ∧(∀{α:Type} [BEq α] [LawfulBEq α] (a:α),(a==a)=true) ∧(∀{α:Type} [BEq α] [LawfulBEq α] (a:α),(a !=a)=false):=
 ⟨fun _=>decide_true _,fun _=>decide_false _,fun _ _=>rfl,fun _ _=>rfl,fun _ _=>rfl,rfl,rfl,Bool.true_and,Bool.and_true,Bool.false_and,Bool.and_false,fun _=>beq_self_eq_true _,fun _=>bne_self_eq_false _⟩
def qK{A B:Type}(l:List A)(n:Int)(F:A→Option B):Option B:=bif decide (0≤n) then(l[n.toNat]?).bind F else none
theorem aH{A B:Type}{l:List A}{n:Int}(F:A→Option B):Abs.rowAt l n (fun e _=>F e)=qK l n F:=by
 unfold Abs.rowAt qK;cases l[n.toNat]?<;>rfl
theorem aC{A B:Type}{l:List A}{i:Nat}{e:A}(h:l[i]?=some e)(F:A→Option B):qK l (i:Int) F=F e:=by
 unfold qK;rw [show decide (0≤(i:Int))=true from decide_eq_true (by omega),Int.toNat_natCast,h];rfl
theorem jf{A B:Type}{l:List A}{n:Int}{e:A}(h0:0≤n)(h:l[n.toNat]?=some e)(F:A→Option B):qK l n F=F e:=by
 unfold qK;rw [show decide (0≤n)=true from decide_eq_true h0,h];rfl
theorem aI{i:Nat}(h:i< 9223372036854775807):aT ((i:Int)+1)=((i+1:Nat):Int):=by rw [bO (by omega) (by omega)];omega
theorem drop_at{A:Type}{l:List A}{i:Nat}(h:i< l.length):∃e,l[i]?=some e∧l.drop i=e::l.drop (i+1):=
 ⟨l[i],List.getElem?_eq_getElem h,List.drop_eq_getElem_cons h⟩
theorem getD_some{A:Type}{l:List A}{i:Nat}(h:i< l.length):∃e,l[i]?=some e:=⟨_,List.getElem?_eq_getElem h⟩
theorem aQ{A B:Type}{o:Option A}{f:A→Option B}{y:Option B}(x:A)(h:o=some x)(h2:f x=y):o.bind f=y:=by rw [h];exact h2
theorem dD(a b:Int):(a==b)=decide (a=b):=by
 by_cases h:a=b<;>simp [h]
abbrev bl(s:ByteArray):List UInt8:=s.data.toList
theorem bI(s:ByteArray):(bl s).length=s.size:=Array.length_toList
theorem Km(s:ByteArray)(i:Nat):(s[i]?:Option UInt8)=(bl s)[i]?:=by
 rw [Array.getElem?_toList];by_cases h:i< s.size
 ·rw [getElem?_pos s i h,getElem?_pos s.data i h];rfl
 ·rw [getElem?_neg s i h,getElem?_neg s.data i h]
theorem bH(s:ByteArray):s.toList=bl s:=ByteArray.toList_eq s
theorem DI{s t:ByteArray}(h:bl s=bl t):s=t:=ByteArray.ext (Array.toList_inj.1 h)
theorem GH(l:List UInt8):bl (gX l)=l:=rfl
theorem Ep:bl ByteArray.empty=[]:=rfl
theorem jZ(s t:ByteArray):(bl s==bl t)=decide (s=t):=by
 by_cases h:s=t
 ·subst h;simp
 ·have:bl s≠bl t:=fun e=>h (DI e)
  rw [decide_eq_false h];exact beq_eq_false_iff_ne.2 this
theorem size_mk(l:List UInt8):(gX l).size=l.length:=rfl
theorem nJ(s:ByteArray)(a b:Nat):bl (s.extract a b)=((bl s).drop a).take (b - a):=by
 exact Lib.extract_data s a b
abbrev LT:Type:=ByteArray×ByteArray×Unit
abbrev MT:Type:=ByteArray×Int×ByteArray×Unit
def u8(c:UInt8):Int:=((c.toNat:Nat):Int)
theorem En(c:UInt8):iW c=((decide (97≤u8 c)&&decide (u8 c≤122))||(decide (48≤u8 c)&&decide (u8 c≤57))||u8 c==95):=by
 have e:(c==95)=(u8 c==95):=by
  by_cases h:c=95
  ·subst h;rfl
  ·have:u8 c≠95:=fun e=>h (UInt8.toNat_inj.1 (by unfold u8 at e;show c.toNat=95;omega))
   rw [beq_eq_false_iff_ne.2 h,beq_eq_false_iff_ne.2 this]
 unfold iW;rw [e];have le:∀(n:UInt8),decide (n≤c)=decide ((n.toNat:Int) ≤u8 c):=fun n=>decide_eq_decide.2 (by rw [UInt8.le_iff_toNat_le];unfold u8;omega)
 have ge:∀(n:UInt8),decide (c≤n)=decide (u8 c≤(n.toNat:Int)):=fun n=>decide_eq_decide.2 (by rw [UInt8.le_iff_toNat_le];unfold u8;omega)
 rw [le,ge,le,ge];rfl
theorem Mw(c:UInt8):(decide (32≤c)&&decide (c≤126))=(decide (32≤u8 c)&&decide (u8 c≤126)):=by
 have le:∀(n:UInt8),decide (n≤c)=decide ((n.toNat:Int) ≤u8 c):=fun n=>decide_eq_decide.2 (by rw [UInt8.le_iff_toNat_le];unfold u8;omega)
 have ge:∀(n:UInt8),decide (c≤n)=decide (u8 c≤(n.toNat:Int)):=fun n=>decide_eq_decide.2 (by rw [UInt8.le_iff_toNat_le];unfold u8;omega)
 rw [le,ge];rfl
theorem byte_at{s:ByteArray}{i:Nat}{c:UInt8}(h:(bl s)[i]?=some c):(((s[(i:Int).toNat]?.getD 0).toNat:Nat):Int)=u8 c:=by
 rw [Int.toNat_natCast,Km,h];rfl
theorem Hq(a b:Int):decide (a< b)= !decide (b≤a):=by
 by_cases h:a< b
 ·rw [decide_eq_true h,decide_eq_false (by omega)];rfl
 ·rw [decide_eq_false h,decide_eq_true (by omega)];rfl
theorem Bf(a b:Int):decide (a>b)= !decide (a≤b):=by
 by_cases h:a>b
 ·rw [decide_eq_true h,decide_eq_false (by omega)];rfl
 ·rw [decide_eq_false h,decide_eq_true (by omega)];rfl
theorem YT(s:ByteArray)(hs:s.size≤9223372036854775807):∀(k i:Nat),i+k=s.size→
  aB uz (((i:Int),s,(s.size:Int),()),())=some (if((bl s).drop i).all iW then .inr ((),()) else .inl ((false,()),())):=by
 intro k
 induction k with
 |zero=>
  intro i h;rw [List.drop_eq_nil_of_le (by rw [bI];omega)];refine aF ?_;have:¬(i:Int)< (s.size:Int):=by omega
  simp only [uz,decide_eq_false this,au,sS,List.all_nil,if_true]
 |succ k ih=>
  intro i h;obtain⟨c,hc,hd⟩:=drop_at (l:=bl s) (i:=i) (by rw [bI];omega);have hlt:decide ((i:Int)< (s.size:Int))=true:=decide_eq_true (by omega);have hbd:decide ((0:Int) ≤(i:Int) ∧(i:Int)< (s.size:Int))=true:=decide_eq_true (by omega);rw [hd,List.all_cons]
  have hstep:uz (((i:Int),s,(s.size:Int),()),())=if iW c then some (.inl ((aT ((i:Int)+1),s,(s.size:Int),()),())) else some (.inr (.inl ((false,()),()))):=by
   rw [En];simp only [uz,hlt,hbd,byte_at hc,au,sS,Hq,Bf,bne];cases decide (97≤u8 c)<;>cases decide (u8 c≤122)<;>cases decide (48≤u8 c)<;>cases decide (u8 c≤57)<;>cases (u8 c==95)<;>rfl
  cases hk:iW c
  ·rw [hk] at hstep;exact aF hstep
  ·rw [hk,aI (by omega)] at hstep;rw [aN hstep,ih (i+1) (by omega)];rfl
theorem ZM{s:ByteArray}{i:Nat}{c:UInt8}(h:(bl s)[i]?=some c):(((s[i]?.getD 0).toNat:Nat):Int)=u8 c:=by
 rw [Km,h];rfl
def kI(c:UInt8):Bool:=decide (32≤c)&&decide (c≤126)
theorem Dn(c:UInt8):kI c=(decide (32≤u8 c)&&decide (u8 c≤126)):=Mw c
theorem Zn(s:ByteArray)(hs:s.size≤9223372036854775807):∀(k i:Nat),i+k=s.size→
  aB sF (((i:Int),s,()),())=some (if((bl s).drop i).all iW then .inr ((),()) else .inl ((false,()),())):=by
 intro k
 induction k with
 |zero=>
  intro i h;rw [List.drop_eq_nil_of_le (by rw [bI];omega)];refine aF ?_;have:¬(i:Int)< (s.size:Int):=by omega
  simp only [sF,decide_eq_false this,au,sS,List.all_nil,if_true]
 |succ k ih=>
  intro i h;obtain⟨c,hc,hd⟩:=drop_at (l:=bl s) (i:=i) (by rw [bI];omega);have hlt:decide ((i:Int)< (s.size:Int))=true:=decide_eq_true (by omega);have hbd:decide ((0:Int) ≤(i:Int) ∧(i:Int)< (s.size:Int))=true:=decide_eq_true (by omega);rw [hd,List.all_cons]
  have hstep:sF (((i:Int),s,()),())=if iW c then some (.inl ((aT ((i:Int)+1),s,()),())) else some (.inr (.inl ((false,()),()))):=by
   rw [En];simp only [sF,hlt,hbd,byte_at hc,au,sS,Hq,Bf,bne];cases decide (97≤u8 c)<;>cases decide (u8 c≤122)<;>cases decide (48≤u8 c)<;>cases decide (u8 c≤57)<;>cases (u8 c==95)<;>rfl
  cases hk:iW c
  ·rw [hk] at hstep;exact aF hstep
  ·rw [hk,aI (by omega)] at hstep;rw [aN hstep,ih (i+1) (by omega)];rfl
theorem Z9(s:ByteArray)(hs:s.size≤9223372036854775807):∀(k i:Nat),i+k=s.size→
  aB sZ (((i:Int),s,(s.size:Int),()),())=some (if((bl s).drop i).all kI then .inr ((s,()),()) else .inl ((false,()),())):=by
 intro k
 induction k with
 |zero=>
  intro i h;rw [List.drop_eq_nil_of_le (by rw [bI];omega)];refine aF ?_;have:¬(i:Int)< (s.size:Int):=by omega
  simp only [sZ,decide_eq_false this,au,sS,List.all_nil,if_true]
 |succ k ih=>
  intro i h;obtain⟨c,hc,hd⟩:=drop_at (l:=bl s) (i:=i) (by rw [bI];omega);have hlt:decide ((i:Int)< (s.size:Int))=true:=decide_eq_true (by omega);have hbd:decide ((0:Int) ≤(i:Int) ∧(i:Int)< (s.size:Int))=true:=decide_eq_true (by omega);rw [hd,List.all_cons]
  have hstep:sZ (((i:Int),s,(s.size:Int),()),())=if kI c then some (.inl ((aT ((i:Int)+1),s,(s.size:Int),()),())) else some (.inr (.inl ((false,()),()))):=by
   rw [Dn];simp only [sZ,hlt,hbd,byte_at hc,au,sS,Hq,Bf,bne];cases decide (32≤u8 c)<;>cases decide (u8 c≤126)<;>rfl
  cases hk:kI c
  ·rw [hk] at hstep;exact aF hstep
  ·rw [hk,aI (by omega)] at hstep;rw [aN hstep,ih (i+1) (by omega)];rfl
theorem YN(s:ByteArray)(hs:s.size≤9223372036854775807):∀(k i:Nat),i+k=s.size→
  aB sV (((i:Int),s,()),())=some (if((bl s).drop i).all kI then .inr ((),()) else .inl ((false,()),())):=by
 intro k
 induction k with
 |zero=>
  intro i h;rw [List.drop_eq_nil_of_le (by rw [bI];omega)];refine aF ?_;have:¬(i:Int)< (s.size:Int):=by omega
  simp only [sV,decide_eq_false this,au,sS,List.all_nil,if_true]
 |succ k ih=>
  intro i h;obtain⟨c,hc,hd⟩:=drop_at (l:=bl s) (i:=i) (by rw [bI];omega);have hlt:decide ((i:Int)< (s.size:Int))=true:=decide_eq_true (by omega);have hbd:decide ((0:Int) ≤(i:Int) ∧(i:Int)< (s.size:Int))=true:=decide_eq_true (by omega);rw [hd,List.all_cons]
  have hstep:sV (((i:Int),s,()),())=if kI c then some (.inl ((aT ((i:Int)+1),s,()),())) else some (.inr (.inl ((false,()),()))):=by
   rw [Dn];simp only [sV,hlt,hbd,byte_at hc,au,sS,Hq,Bf,bne];cases decide (32≤u8 c)<;>cases decide (u8 c≤126)<;>rfl
  cases hk:kI c
  ·rw [hk] at hstep;exact aF hstep
  ·rw [hk,aI (by omega)] at hstep;rw [aN hstep,ih (i+1) (by omega)];rfl
abbrev l6(s:ByteArray):Bool:=Wp (bl s)
abbrev vS(s:ByteArray):Bool:=Xr (bl s)
theorem JX(s:ByteArray):l6 s=match bl s with
  | []=>false
  |c::_=>(!decide ((s.size:Int)>24))&&(decide (97≤u8 c)&&decide (u8 c≤122))&&(bl s).all iW:=by
 have hl:=bI s;unfold l6 Wp
 cases h:bl s with
 |nil=>rfl
 |cons c r=>
  rw [h] at hl;have le:∀(n:UInt8),decide (n≤c)=decide ((n.toNat:Int) ≤u8 c):=fun n=>decide_eq_decide.2 (by rw [UInt8.le_iff_toNat_le];unfold u8;omega)
  have ge:∀(n:UInt8),decide (c≤n)=decide (u8 c≤(n.toNat:Int)):=fun n=>decide_eq_decide.2 (by rw [UInt8.le_iff_toNat_le];unfold u8;omega)
  simp only [Bf,Bool.not_not];rw [show decide ((c::r).length≤24)=decide ((s.size:Int) ≤24) from decide_eq_decide.2 (by rw [hl];omega),le,ge];rfl
theorem IC(s:ByteArray)(hs:s.size≤9223372036854775807):PL ((s,()),())=some ((l6 s,()),()):=by
 rw [JX];have hl:=bI s;have hlp:=YT s hs s.size 0 (by omega);unfold PL
 cases h:bl s with
 |nil=>
  simp only [bH,h,Ep,au,sS]
 |cons c r=>
  have hne:(bl s==bl ByteArray.empty)=false:=by rw [h];rfl
  have h0:(((s[0]?.getD 0).toNat:Nat):Int)=u8 c:=by rw [Km,h];rfl
  have hpos:decide ((0:Int) ≤0∧(0:Int)< s.size)=true:=decide_eq_true (by rw [h] at hl;simp at hl;omega);simp only [bH,hne,hpos,h0,au,sS];cases decide ((s.size:Int)>24)
  ·simp only [Hq,Bf,au,sS];cases decide (97≤u8 c)
   ·rfl
   ·cases decide (u8 c≤122)
    ·rfl
    ·simp only [au,sS];rw [List.drop_zero] at hlp;refine aQ _ hlp ?_;cases ha:(bl s).all iW<;>rw [←h]<;>simp only [ha,au,sS]<;>rfl
  ·rfl
theorem Jw(s:ByteArray)(hs:s.size≤9223372036854775807):PX ((s,()),())=some ((l6 s,()),()):=by
 rw [JX];have hl:=bI s;have hlp:=Zn s hs s.size 0 (by omega);unfold PX
 cases h:bl s with
 |nil=>
  have:decide ((s.size:Int)< 1)=true:=decide_eq_true (by rw [h] at hl;simp at hl;omega);simp only [this,au,sS]
 |cons c r=>
  have hne:decide ((s.size:Int)< 1)=false:=decide_eq_false (by rw [h] at hl;simp at hl;omega);have h0:(((s[0]?.getD 0).toNat:Nat):Int)=u8 c:=by rw [Km,h];rfl
  have hpos:decide ((0:Int) ≤0∧(0:Int)< s.size)=true:=decide_eq_true (by rw [h] at hl;simp at hl;omega);simp only [hne,hpos,h0,au,sS];cases decide ((s.size:Int)>24)
  ·simp only [Hq,Bf,au,sS];cases decide (97≤u8 c)
   ·rfl
   ·cases decide (u8 c≤122)
    ·rfl
    ·simp only [au,sS];rw [List.drop_zero] at hlp;refine aQ _ hlp ?_;cases ha:(bl s).all iW<;>rw [←h]<;>simp only [ha,au,sS]<;>rfl
  ·rfl
theorem O4(s:ByteArray):vS s=((bl s).all kI&&decide ((s.size:Int) ≤64)):=by
 unfold vS Xr;rw [bI,show decide (s.size≤64)=decide ((s.size:Int) ≤64) from decide_eq_decide.2 (by omega)];rfl
theorem Pm(s:ByteArray)(hs:s.size≤9223372036854775807):U4 ((s,()),())=some ((vS s,()),()):=by
 rw [O4];have hlp:=Z9 s hs s.size 0 (by omega);rw [List.drop_zero] at hlp;unfold U4;refine aQ _ hlp ?_;cases ha:(bl s).all kI<;>simp only [au,sS]<;>rfl
theorem O5(s:ByteArray)(hs:s.size≤9223372036854775807):Tj ((s,()),())=some ((vS s,()),()):=by
 rw [O4];have hlp:=YN s hs s.size 0 (by omega);rw [List.drop_zero] at hlp;unfold Tj;simp only [Bf];cases decide ((s.size:Int) ≤64)
 ·simp only [au,sS]
 ·simp only [au,sS];refine aQ _ hlp ?_;cases ha:(bl s).all kI<;>rfl
def aX(m:MT):Bool:=l6 m.1&&(decide (m.2.1≥0)&&(decide (m.2.1≤3)&&vS m.2.2.1))
def Po(m:MT):Prop:=m.1.size≤9223372036854775807∧m.2.2.1.size≤9223372036854775807
theorem Og(m:MT)(hm:Po m):SL ((m,()),())=some ((aX m,()),()):=by
 unfold SL aX;simp only [IC _ hm.1,Pm _ hm.2,au,sS];cases l6 m.1<;>cases decide (m.2.1≥0)<;>cases decide (m.2.1≤3)<;>simp only [au,sS]
theorem OV(m:MT)(hm:Po m):Ut ((m,()),())=some ((aX m,()),()):=by
 unfold Ut aX;simp only [Jw _ hm.1,O5 _ hm.2,au,sS];cases l6 m.1<;>cases decide (m.2.1≥0)<;>cases decide (m.2.1≤3)<;>simp only [au,sS]
def yc(k:ByteArray):List LT→Option ByteArray
 | []=>none
 |x::l=>if x.1=k then some x.2.1 else yc k l
def xk(l:List LT)(k:ByteArray):ByteArray:=(yc k l).getD ByteArray.empty
theorem Yt(l:List LT)(key:ByteArray)(hl:l.length≤9223372036854775807):∀(k i:Nat),i+k=l.length→
  aB tY (((i:Int),key,l,(l.length:Int),()),())=some (match yc key (l.drop i) with|some v=> .inl ((v,()),())|none=> .inr ((),())):=by
 intro k
 induction k with
 |zero=>
  intro i h;rw [List.drop_eq_nil_of_le (by omega)];refine aF ?_;have:¬(i:Int)< (l.length:Int):=by omega
  simp only [tY,decide_eq_false this,au,sS,yc]
 |succ k ih=>
  intro i h;obtain⟨e,he,hd⟩:=drop_at (l:=l) (i:=i) (by omega);have hlt:decide ((i:Int)< (l.length:Int))=true:=decide_eq_true (by omega);rw [hd,yc];by_cases hk:e.1=key
  ·rw [if_pos hk];refine aF ?_;simp only [tY,aH,aC he,hlt,bH,jZ,decide_eq_true hk,au,sS]
  ·rw [if_neg hk,←ih (i+1) (by omega)];refine aN ?_;simp only [tY,aH,aC he,hlt,bH,jZ,decide_eq_false hk,au,sS,aI (show i< 9223372036854775807 by omega)]
theorem Hw(l:List LT)(key:ByteArray)(hl:l.length≤9223372036854775807):Qu ((l,key,()),())=some ((xk l key,()),()):=by
 have h:=Yt l key hl l.length 0 (by omega);rw [List.drop_zero] at h;unfold Qu xk;refine aQ _ h ?_;cases yc key l<;>rfl
theorem VT(s:ByteArray)(h:0< s.size):∃c,(bl s)[s.size - 1]?=some c∧bl s=bl (s.extract 0 (s.size - 1))++ [c]:=by
 have hl:=bI s;obtain⟨c,hc⟩:=getD_some (l:=bl s) (i:=s.size - 1) (by omega);refine⟨c,hc,?_⟩;rw [nJ,List.drop_zero,Nat.sub_zero];have:=List.take_append_drop (s.size - 1) (bl s)
 conv=>lhs;rw [←this]
 congr 1
 obtain⟨e,he,hd⟩:=drop_at (l:=bl s) (i:=s.size - 1) (by omega);rw [hc] at he;cases he;rw [hd,List.drop_eq_nil_of_le (by omega)]
theorem aao(n:Nat):∀(s:ByteArray),s.size=n→n≤9223372036854775807→∃t,aB uS ((s,42,()),())=some ((t,()),()) ∧∃k,bl s=bl t++List.replicate k 42:=by
 induction n with
 |zero=>
  intro s hs _;refine⟨s,aF ?_,0,by simp⟩;have:decide ((s.size:Int)>0)=false:=decide_eq_false (by omega);simp only [uS,this,au,sS]
 |succ n ih=>
  intro s hs hn;obtain⟨c,hc,hsp⟩:=VT s (by omega);have hw:aT ((s.size:Int) - 1)=((s.size - 1:Nat):Int):=by rw [bO (by omega) (by omega)];omega
  have h0:decide ((s.size:Int)>0)=true:=decide_eq_true (by omega);have h1:decide ((0:Int) ≤((s.size - 1:Nat):Int) ∧((s.size - 1:Nat):Int)< s.size)=true:=decide_eq_true (by omega);have h2:decide ((0:Int) ≤((s.size - 1:Nat):Int))=true:=decide_eq_true (by omega);have h3:decide (0≤s.size - 1∧s.size - 1≤s.size)=true:=decide_eq_true (by omega);have hb:=byte_at hc;by_cases h42:u8 c=42
  ·have hc42:c=42:=UInt8.toNat_inj.1 (by unfold u8 at h42;show c.toNat=42;omega);have hsz:(s.extract 0 (s.size - 1)).size=n:=by rw [←bI,nJ,List.length_take,List.length_drop,bI];omega
   obtain⟨t,ht,k,hk⟩:=ih (s.extract 0 (s.size - 1)) hsz (by omega);refine⟨t,?_,k+1,?_⟩
   ·rw [←ht];refine aN ?_;simp only [uS,h0,hw,h1,h2,Int.toNat_natCast,ZM hc,dD,decide_eq_true h42,h3,au,sS]
   ·rw [hsp,hk,hc42,List.append_assoc]
    congr 1
    rw [List.replicate_succ']
  ·refine⟨s,aF ?_,0,by simp⟩;simp only [uS,h0,hw,h1,hb,dD,decide_eq_false h42,au,sS]
theorem aa9(n:Nat):∀(s:ByteArray),s.size=n→n≤9223372036854775807→∃t,aB sW ((s,42,()),())=some ((t,()),()) ∧(∃k,bl s=List.replicate k 42++bl t) ∧(∀c r,bl t=c::r→c≠42):=by
 induction n with
 |zero=>
  intro s hs _;refine⟨s,aF ?_,⟨0,by simp⟩,fun c r h=> ?_⟩
  ·have:decide ((s.size:Int)>0)=false:=decide_eq_false (by omega);simp only [sW,this,au,sS]
  ·have:=bI s;rw [h] at this;simp at this;omega
 |succ n ih=>
  intro s hs hn;obtain⟨c,hc,hsp⟩:=drop_at (l:=bl s) (i:=0) (by rw [bI];omega);rw [List.drop_zero] at hsp;have h0:decide ((s.size:Int)>0)=true:=decide_eq_true (by omega);have h1:decide ((0:Int) ≤0∧(0:Int)< s.size)=true:=decide_eq_true (by omega);have h3:decide (1≤s.size∧s.size≤s.size)=true:=decide_eq_true (by omega);have hb:(((s[0]?.getD 0).toNat:Nat):Int)=u8 c:=by rw [Km,hc];rfl
  by_cases h42:u8 c=42
  ·have hc42:c=42:=UInt8.toNat_inj.1 (by unfold u8 at h42;show c.toNat=42;omega)
   have hex:bl (s.extract 1 s.size)=(bl s).drop 1:=by
    rw [nJ,List.take_of_length_le];rw [List.length_drop,bI];exact Nat.le_refl _
   have hsz:(s.extract 1 s.size).size=n:=by rw [←bI,hex,List.length_drop,bI];omega
   obtain⟨t,ht,⟨k,hk⟩,hf⟩:=ih (s.extract 1 s.size) hsz (by omega);refine⟨t,?_,⟨k+1,?_⟩,hf⟩
   ·rw [←ht];refine aN ?_;simp only [sW,h0,h1,hb,dD,decide_eq_true h42,h3,au,sS]
   ·rw [hsp,←hex,hk,hc42];rfl
  ·refine⟨s,aF ?_,⟨0,by simp⟩,fun d r h=> ?_⟩
   ·simp only [sW,h0,h1,hb,dD,decide_eq_false h42,au,sS]
   ·rw [hsp] at h;cases h;intro e;subst e;exact h42 rfl
theorem Wh(s:ByteArray)(hs:s.size≤9223372036854775807):∃t,Rz ((s,bs [42],()),())=some ((t,()),()) ∧(bl t==bl ByteArray.empty)=(bl s).all (· ==42):=by
 by_cases he:bl s=[]
 ·refine⟨s,?_,?_⟩
  ·unfold Rz;simp only [bH,he,Ep,au,sS]
  ·rw [he];rfl
 ·obtain⟨t1,h1,k1,e1⟩:=aao s.size s rfl hs;have hsz1:t1.size≤s.size:=by rw [←bI t1,←bI s,e1,List.length_append];omega
  obtain⟨t2,h2,⟨k2,e2⟩,hf⟩:=aa9 t1.size t1 rfl (by omega);have m124e:Vn ((s,42,()),())=some ((t1,()),()):=by unfold Vn;exact aQ _ h1 rfl
  have m123e:Xj ((t1,42,()),())=some ((t2,()),()):=by unfold Xj;exact aQ _ h2 rfl
  refine⟨t2,?_,?_⟩
  ·have hne:(bl s==bl ByteArray.empty)=false:=beq_eq_false_iff_ne.2 he;have hb:((((bs [42])[0]?.getD 0).toNat:Nat):Int)=42:=by rfl
   have hbe:(bl (bs [42])==bl ByteArray.empty)=false:=by rfl
   have hbs:(((bs [42]).size:Int)==1)=true:=by rfl
   have hbd:decide ((0:Int) ≤0∧(0:Int)< (bs [42]).size)=true:=by rfl
   unfold Rz;simp only [bH,hne,hb,hbe,hbs,hbd,m124e,m123e,au,sS];rfl
  ·rw [e1,e2,List.all_append,List.all_append];rw [show(List.replicate k1 (42:UInt8)).all (· ==42)=true by simp,show(List.replicate k2 (42:UInt8)).all (· ==42)=true by simp,Bool.and_true,Bool.true_and]
   cases h:bl t2 with
   |nil=>rfl
   |cons c r=>
    have:(c==42)=false:=beq_eq_false_iff_ne.2 (hf c r h);simp [this,Ep]
end Go.Proofs.YtchnmpafhfjimaaGreatDoor
