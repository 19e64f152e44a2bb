/- Lemmas for the statement of the last text of this claim. -/
import Derived.Test.YtchnmpafhfjimaaGreatDoorV3D
set_option linter.unusedSimpArgs false
set_option linter.unusedVariables false
namespace Go.Proofs.YtchnmpafhfjimaaGreatDoor
open Go Go.Abs Go.Lab
theorem sS:(∀h:Decidable True,@decide True h=true)∧(∀h:Decidable False,@decide False h=false)∧(∀{α:Type} (a b:α),cond true a b=a)∧(∀{α:Type} (a b:α),cond false a b=b)∧(∀{α β:Type} (a:α) (f:α→Option β),(some a).bind f=f a)∧(!true)=false∧(!false)=true∧(∀b:Bool,(true&&b)=b)∧(∀b:Bool,(b&&true)=b)∧(∀b:Bool,(false&&b)=false)∧(∀b:Bool,(b&&false)=false)∧(∀{α:Type} [BEq α] [LawfulBEq α] (a:α),(a==a)=true)∧(∀{α:Type} [BEq α] [LawfulBEq α] (a:α),(a !=a)=false):=
 ⟨fun _=>aqg _,fun _=>aqn _,fun _ _=>rfl,fun _ _=>rfl,fun _ _=>rfl,rfl,rfl,apB,Bool.and_true,apX,Bool.and_false,fun _=>apW _,fun _=>ap4 _⟩
def pX{A B:Type}(l:List A)(n:Int)(F:A→Option B):Option B:=bif decide (0≤n)then(l[n.toNat]?).bind F else none
theorem aJ{A B:Type}{l:List A}{n:Int}(F:A→Option B):Abs.rowAt l n (fun e _=>F e)=pX l n F:=by
 unfold Abs.rowAt pX;cases l[n.toNat]?<;>rfl
theorem aG{A B:Type}{l:List A}{i:Nat}{e:A}(h:l[i]?=some e)(F:A→Option B):pX l (i:Int) F=F e:=by
 unfold pX;rw[show decide (0≤(i:Int))=true from aoS (by omega),aoV,h];rfl
theorem gV{A B:Type}{l:List A}{n:Int}{e:A}(h0:0≤n)(h:l[n.toNat]?=some e)(F:A→Option B):pX l n F=F e:=by
 unfold pX;rw[show decide (0≤n)=true from aoS h0,h];rfl
theorem aI{i:Nat}(h:i<9223372036854775807):aP ((i:Int)+1)=((i+1:Nat):Int):=by rw[bH (by omega) (by omega)];omega
theorem drop_at{A:Type}{l:List A}{i:Nat}(h:i<l.length):∃e,l[i]?=some e∧l.drop i=e::l.drop (i+1):=
 ⟨l[i],apc h,List.drop_eq_getElem_cons h⟩
theorem getD_some{A:Type}{l:List A}{i:Nat}(h:i<l.length):∃e,l[i]?=some e:=⟨_,apc h⟩
theorem aM{A B:Type}{o:Option A}{f:A→Option B}{y:Option B}(x:A)(h:o=some x)(h2:f x=y):o.bind f=y:=by rw[h];exact h2
theorem dX(a b:Int):(a==b)=decide (a=b):=by
 by_cases h:a=b<;>simp[h]
abbrev bl(s:ByteArray):List UInt8:=s.data.toList
theorem bJ(s:ByteArray):(bl s).length=s.size:=Array.length_toList
theorem Ob(s:ByteArray)(i:Nat):(s[i]?:Option UInt8)=(bl s)[i]?:=by
 rw[Array.getElem?_toList];by_cases h:i<s.size
 ·rw[getElem?_pos s i h,getElem?_pos s.data i h];rfl
 ·rw[getElem?_neg s i h,getElem?_neg s.data i h]
theorem bD(s:ByteArray):s.toList=bl s:=ByteArray.toList_eq s
theorem Ie{s t:ByteArray}(h:bl s=bl t):s=t:=ByteArray.ext (Array.toList_inj.1 h)
theorem Jy(l:List UInt8):bl (gL l)=l:=rfl
theorem GJ:bl ByteArray.empty=[]:=rfl
theorem gF(s t:ByteArray):(bl s==bl t)=decide (s=t):=by
 by_cases h:s=t
 ·subst h;simp
 ·have:bl s≠bl t:=fun e=>h (Ie e)
  rw[aoU h];exact apn.2 this
theorem size_mk(l:List UInt8):(gL l).size=l.length:=rfl
theorem oG(s:ByteArray)(a b:Nat):bl (s.extract a b)=((bl s).drop a).take (b-a):=by
 exact Lib.extract_data s a b
abbrev LT:Type:=ByteArray×ByteArray×Unit
abbrev MT:Type:=ByteArray×Int×ByteArray×Unit
def u8(c:UInt8):Int:=((c.toNat:Nat):Int)
theorem Gu(c:UInt8):jw c=((decide (97≤u8 c)&&decide (u8 c≤122))||(decide (48≤u8 c)&&decide (u8 c≤57))||u8 c==95):=by
 have e:(c==95)=(u8 c==95):=by
  by_cases h:c=95
  ·subst h;rfl
  ·have:u8 c≠95:=fun e=>h (UInt8.toNat_inj.1 (by unfold u8 at e;show c.toNat=95;omega))
   rw[apn.2 h,apn.2 this]
 unfold jw;rw[e];have le:∀(n:UInt8),decide (n≤c)=decide ((n.toNat:Int)≤u8 c):=fun n=>aqb.2 (by rw[UInt8.le_iff_toNat_le];unfold u8;omega)
 have ge:∀(n:UInt8),decide (c≤n)=decide (u8 c≤(n.toNat:Int)):=fun n=>aqb.2 (by rw[UInt8.le_iff_toNat_le];unfold u8;omega)
 rw[le,ge,le,ge];rfl
theorem Qy(c:UInt8):(decide (32≤c)&&decide (c≤126))=(decide (32≤u8 c)&&decide (u8 c≤126)):=by
 have le:∀(n:UInt8),decide (n≤c)=decide ((n.toNat:Int)≤u8 c):=fun n=>aqb.2 (by rw[UInt8.le_iff_toNat_le];unfold u8;omega)
 have ge:∀(n:UInt8),decide (c≤n)=decide (u8 c≤(n.toNat:Int)):=fun n=>aqb.2 (by rw[UInt8.le_iff_toNat_le];unfold u8;omega)
 rw[le,ge];rfl
theorem byte_at{s:ByteArray}{i:Nat}{c:UInt8}(h:(bl s)[i]?=some c):(((s[(i:Int).toNat]?.getD 0).toNat:Nat):Int)=u8 c:=by
 rw[aoV,Ob,h];rfl
theorem Jt(a b:Int):decide (a<b)= !decide (b≤a):=by
 by_cases h:a<b
 ·rw[aoS h,aoU (by omega)];rfl
 ·rw[aoU h,aoS (by omega)];rfl
theorem D5(a b:Int):decide (a>b)= !decide (a≤b):=by
 by_cases h:a>b
 ·rw[aoS h,aoU (by omega)];rfl
 ·rw[aoU h,aoS (by omega)];rfl
theorem aeG(s:ByteArray)(hs:s.size≤9223372036854775807):∀(k i:Nat),i+k=s.size→
  aC uh (((i:Int),s,(s.size:Int),()),())=some (if((bl s).drop i).all jw then .inr ((),())else .inl ((false,()),())):=by
 intro k
 induction k with
 |zero=>
  intro i h;rw[apz (by rw[bJ];omega)];refine aD ?_;have:¬(i:Int)<(s.size:Int):=by omega
  simp only[uh,aoU this,aA,sS,List.all_nil,if_true]
 |succ k ih=>
  intro i h;obtain⟨c,hc,hd⟩:=drop_at (l:=bl s) (i:=i) (by rw[bJ];omega);have hlt:decide ((i:Int)<(s.size:Int))=true:=aoS (by omega);have hbd:decide ((0:Int)≤(i:Int)∧(i:Int)<(s.size:Int))=true:=aoS (by omega);rw[hd,List.all_cons]
  have hstep:uh (((i:Int),s,(s.size:Int),()),())=if jw c then some (.inl ((aP ((i:Int)+1),s,(s.size:Int),()),()))else some (.inr (.inl ((false,()),()))):=by
   rw[Gu];simp only[uh,hlt,hbd,byte_at hc,aA,sS,Jt,D5,bne];cases decide (97≤u8 c)<;>cases decide (u8 c≤122)<;>cases decide (48≤u8 c)<;>cases decide (u8 c≤57)<;>cases (u8 c==95)<;>rfl
  cases hk:jw c
  ·rw[hk]at hstep;exact aD hstep
  ·rw[hk,aI (by omega)]at hstep;rw[aK hstep,ih (i+1) (by omega)];rfl
theorem Qo{s:ByteArray}{i:Nat}{c:UInt8}(h:(bl s)[i]?=some c):(((s[i]?.getD 0).toNat:Nat):Int)=u8 c:=by
 rw[Ob,h];rfl
def l5(c:UInt8):Bool:=decide (32≤c)&&decide (c≤126)
theorem Gw(c:UInt8):l5 c=(decide (32≤u8 c)&&decide (u8 c≤126)):=Qy c
theorem agq(s:ByteArray)(hs:s.size≤9223372036854775807):∀(k i:Nat),i+k=s.size→
  aC wV (((i:Int),s,()),())=some (if((bl s).drop i).all jw then .inr ((),())else .inl ((false,()),())):=by
 intro k
 induction k with
 |zero=>
  intro i h;rw[apz (by rw[bJ];omega)];refine aD ?_;have:¬(i:Int)<(s.size:Int):=by omega
  simp only[wV,aoU this,aA,sS,List.all_nil,if_true]
 |succ k ih=>
  intro i h;obtain⟨c,hc,hd⟩:=drop_at (l:=bl s) (i:=i) (by rw[bJ];omega);have hlt:decide ((i:Int)<(s.size:Int))=true:=aoS (by omega);have hbd:decide ((0:Int)≤(i:Int)∧(i:Int)<(s.size:Int))=true:=aoS (by omega);rw[hd,List.all_cons]
  have hstep:wV (((i:Int),s,()),())=if jw c then some (.inl ((aP ((i:Int)+1),s,()),()))else some (.inr (.inl ((false,()),()))):=by
   rw[Gu];simp only[wV,hlt,hbd,byte_at hc,aA,sS,Jt,D5,bne];cases decide (97≤u8 c)<;>cases decide (u8 c≤122)<;>cases decide (48≤u8 c)<;>cases decide (u8 c≤57)<;>cases (u8 c==95)<;>rfl
  cases hk:jw c
  ·rw[hk]at hstep;exact aD hstep
  ·rw[hk,aI (by omega)]at hstep;rw[aK hstep,ih (i+1) (by omega)];rfl
theorem aff(s:ByteArray)(hs:s.size≤9223372036854775807):∀(k i:Nat),i+k=s.size→
  aC tV (((i:Int),s,(s.size:Int),()),())=some (if((bl s).drop i).all l5 then .inr ((s,()),())else .inl ((false,()),())):=by
 intro k
 induction k with
 |zero=>
  intro i h;rw[apz (by rw[bJ];omega)];refine aD ?_;have:¬(i:Int)<(s.size:Int):=by omega
  simp only[tV,aoU this,aA,sS,List.all_nil,if_true]
 |succ k ih=>
  intro i h;obtain⟨c,hc,hd⟩:=drop_at (l:=bl s) (i:=i) (by rw[bJ];omega);have hlt:decide ((i:Int)<(s.size:Int))=true:=aoS (by omega);have hbd:decide ((0:Int)≤(i:Int)∧(i:Int)<(s.size:Int))=true:=aoS (by omega);rw[hd,List.all_cons]
  have hstep:tV (((i:Int),s,(s.size:Int),()),())=if l5 c then some (.inl ((aP ((i:Int)+1),s,(s.size:Int),()),()))else some (.inr (.inl ((false,()),()))):=by
   rw[Gw];simp only[tV,hlt,hbd,byte_at hc,aA,sS,Jt,D5,bne];cases decide (32≤u8 c)<;>cases decide (u8 c≤126)<;>rfl
  cases hk:l5 c
  ·rw[hk]at hstep;exact aD hstep
  ·rw[hk,aI (by omega)]at hstep;rw[aK hstep,ih (i+1) (by omega)];rfl
theorem aeW(s:ByteArray)(hs:s.size≤9223372036854775807):∀(k i:Nat),i+k=s.size→
  aC uW (((i:Int),s,()),())=some (if((bl s).drop i).all l5 then .inr ((),())else .inl ((false,()),())):=by
 intro k
 induction k with
 |zero=>
  intro i h;rw[apz (by rw[bJ];omega)];refine aD ?_;have:¬(i:Int)<(s.size:Int):=by omega
  simp only[uW,aoU this,aA,sS,List.all_nil,if_true]
 |succ k ih=>
  intro i h;obtain⟨c,hc,hd⟩:=drop_at (l:=bl s) (i:=i) (by rw[bJ];omega);have hlt:decide ((i:Int)<(s.size:Int))=true:=aoS (by omega);have hbd:decide ((0:Int)≤(i:Int)∧(i:Int)<(s.size:Int))=true:=aoS (by omega);rw[hd,List.all_cons]
  have hstep:uW (((i:Int),s,()),())=if l5 c then some (.inl ((aP ((i:Int)+1),s,()),()))else some (.inr (.inl ((false,()),()))):=by
   rw[Gw];simp only[uW,hlt,hbd,byte_at hc,aA,sS,Jt,D5,bne];cases decide (32≤u8 c)<;>cases decide (u8 c≤126)<;>rfl
  cases hk:l5 c
  ·rw[hk]at hstep;exact aD hstep
  ·rw[hk,aI (by omega)]at hstep;rw[aK hstep,ih (i+1) (by omega)];rfl
abbrev mr(s:ByteArray):Bool:=ZK (bl s)
abbrev yj(s:ByteArray):Bool:=abw (bl s)
theorem Py(s:ByteArray):mr s=match bl s with
  | []=>false
  |c::_=>(!decide ((s.size:Int)>24))&&(decide (97≤u8 c)&&decide (u8 c≤122))&&(bl s).all jw:=by
 have hl:=bJ s;unfold mr ZK
 cases h:bl s with
 |nil=>rfl
 |cons c r=>
  rw[h]at hl;have le:∀(n:UInt8),decide (n≤c)=decide ((n.toNat:Int)≤u8 c):=fun n=>aqb.2 (by rw[UInt8.le_iff_toNat_le];unfold u8;omega)
  have ge:∀(n:UInt8),decide (c≤n)=decide (u8 c≤(n.toNat:Int)):=fun n=>aqb.2 (by rw[UInt8.le_iff_toNat_le];unfold u8;omega)
  simp only[D5,Bool.not_not];rw[show decide ((c::r).length≤24)=decide ((s.size:Int)≤24)from aqb.2 (by rw[hl];omega),le,ge];rfl
theorem Lf(s:ByteArray)(hs:s.size≤9223372036854775807):UO ((s,()),())=some ((mr s,()),()):=by
 rw[Py];have hl:=bJ s;have hlp:=aeG s hs s.size 0 (by omega);unfold UO
 cases h:bl s with
 |nil=>
  simp only[bD,h,GJ,aA,sS]
 |cons c r=>
  have hne:(bl s==bl ByteArray.empty)=false:=by rw[h];rfl
  have h0:(((s[0]?.getD 0).toNat:Nat):Int)=u8 c:=by rw[Ob,h];rfl
  have hpos:decide ((0:Int)≤0∧(0:Int)<s.size)=true:=aoS (by rw[h]at hl;simp at hl;omega);simp only[bD,hne,hpos,h0,aA,sS];cases decide ((s.size:Int)>24)
  ·simp only[Jt,D5,aA,sS];cases decide (97≤u8 c)
   ·rfl
   ·cases decide (u8 c≤122)
    ·rfl
    ·simp only[aA,sS];rw[ap2]at hlp;refine aM _ hlp ?_;cases ha:(bl s).all jw<;>rw[←h]<;>simp only[ha,aA,sS]<;>rfl
  ·rfl
theorem Km(s:ByteArray)(hs:s.size≤9223372036854775807):Uk ((s,()),())=some ((mr s,()),()):=by
 rw[Py];have hl:=bJ s;have hlp:=agq s hs s.size 0 (by omega);unfold Uk
 cases h:bl s with
 |nil=>
  have:decide ((s.size:Int)<1)=true:=aoS (by rw[h]at hl;simp at hl;omega);simp only[this,aA,sS]
 |cons c r=>
  have hne:decide ((s.size:Int)<1)=false:=aoU (by rw[h]at hl;simp at hl;omega);have h0:(((s[0]?.getD 0).toNat:Nat):Int)=u8 c:=by rw[Ob,h];rfl
  have hpos:decide ((0:Int)≤0∧(0:Int)<s.size)=true:=aoS (by rw[h]at hl;simp at hl;omega);simp only[hne,hpos,h0,aA,sS];cases decide ((s.size:Int)>24)
  ·simp only[Jt,D5,aA,sS];cases decide (97≤u8 c)
   ·rfl
   ·cases decide (u8 c≤122)
    ·rfl
    ·simp only[aA,sS];rw[ap2]at hlp;refine aM _ hlp ?_;cases ha:(bl s).all jw<;>rw[←h]<;>simp only[ha,aA,sS]<;>rfl
  ·rfl
theorem Si(s:ByteArray):yj s=((bl s).all l5&&decide ((s.size:Int)≤64)):=by
 unfold yj abw;rw[bJ,show decide (s.size≤64)=decide ((s.size:Int)≤64)from aqb.2 (by omega)];rfl
theorem SF(s:ByteArray)(hs:s.size≤9223372036854775807):YD ((s,()),())=some ((yj s,()),()):=by
 rw[Si];have hlp:=aff s hs s.size 0 (by omega);rw[ap2]at hlp;unfold YD;refine aM _ hlp ?_;cases ha:(bl s).all l5<;>simp only[aA,sS]<;>rfl
theorem RD(s:ByteArray)(hs:s.size≤9223372036854775807):ZA ((s,()),())=some ((yj s,()),()):=by
 rw[Si];have hlp:=aeW s hs s.size 0 (by omega);rw[ap2]at hlp;unfold ZA;simp only[D5];cases decide ((s.size:Int)≤64)
 ·simp only[aA,sS]
 ·simp only[aA,sS];refine aM _ hlp ?_;cases ha:(bl s).all l5<;>rfl
def bB(m:MT):Bool:=mr m.1&&(decide (m.2.1≥0)&&(decide (m.2.1≤3)&&yj m.2.2.1))
def TH(m:MT):Prop:=m.1.size≤9223372036854775807∧m.2.2.1.size≤9223372036854775807
theorem Sm(m:MT)(hm:TH m):WM ((m,()),())=some ((bB m,()),()):=by
 unfold WM bB;simp only[Lf _ hm.1,SF _ hm.2,aA,sS];cases mr m.1<;>cases decide (m.2.1≥0)<;>cases decide (m.2.1≤3)<;>simp only[aA,sS]
theorem TS(m:MT)(hm:TH m):Yr ((m,()),())=some ((bB m,()),()):=by
 unfold Yr bB;simp only[Km _ hm.1,RD _ hm.2,aA,sS];cases mr m.1<;>cases decide (m.2.1≥0)<;>cases decide (m.2.1≤3)<;>simp only[aA,sS]
def qD(k:ByteArray):List LT→Option ByteArray
 | []=>none
 |x::l=>if x.1=k then some x.2.1 else qD k l
def qf(l:List LT)(k:ByteArray):ByteArray:=(qD k l).getD ByteArray.empty
theorem aeC(l:List LT)(key:ByteArray)(hl:l.length≤9223372036854775807):∀(k i:Nat),i+k=l.length→
  aC wP (((i:Int),key,l,(l.length:Int),()),())=some (match qD key (l.drop i)with|some v=>.inl ((v,()),())|none=>.inr ((),())):=by
 intro k
 induction k with
 |zero=>
  intro i h;rw[apz (by omega)];refine aD ?_;have:¬(i:Int)<(l.length:Int):=by omega
  simp only[wP,aoU this,aA,sS,qD]
 |succ k ih=>
  intro i h;obtain⟨e,he,hd⟩:=drop_at (l:=l) (i:=i) (by omega);have hlt:decide ((i:Int)<(l.length:Int))=true:=aoS (by omega);rw[hd,qD];by_cases hk:e.1=key
  ·rw[if_pos hk];refine aD ?_;simp only[wP,aJ,aG he,hlt,bD,gF,aoS hk,aA,sS]
  ·rw[if_neg hk,←ih (i+1) (by omega)];refine aK ?_;simp only[wP,aJ,aG he,hlt,bD,gF,aoU hk,aA,sS,aI (show i<9223372036854775807 by omega)]
theorem L8(l:List LT)(key:ByteArray)(hl:l.length≤9223372036854775807):VE ((l,key,()),())=some ((qf l key,()),()):=by
 have h:=aeC l key hl l.length 0 (by omega);rw[ap2]at h;unfold VE qf;refine aM _ h ?_;cases qD key l<;>rfl
theorem afJ(l:List LT)(key:ByteArray)(hl:l.length≤9223372036854775807):∀(k i:Nat),i+k=l.length→
  aC wD (((i:Int),l,key,()),())=some (match qD key (l.drop i)with|some v=>.inl ((v,()),())|none=>.inr ((),())):=by
 intro k
 induction k with
 |zero=>
  intro i h;rw[apz (by omega)];refine aD ?_;have:¬(i:Int)<(l.length:Int):=by omega
  simp only[wD,aoU this,aA,sS,qD]
 |succ k ih=>
  intro i h;obtain⟨e,he,hd⟩:=drop_at (l:=l) (i:=i) (by omega);have hlt:decide ((i:Int)<(l.length:Int))=true:=aoS (by omega);rw[hd,qD];by_cases hk:e.1=key
  ·rw[if_pos hk];refine aD ?_;simp only[wD,aJ,aG he,hlt,bD,gF,aoS hk,aA,sS]
  ·rw[if_neg hk,←ih (i+1) (by omega)];refine aK ?_;simp only[wD,aJ,aG he,hlt,bD,gF,aoU hk,aA,sS,aI (show i<9223372036854775807 by omega)]
theorem Me(l:List LT)(key:ByteArray)(hl:l.length≤9223372036854775807):TV ((l,key,()),())=some ((qf l key,()),()):=by
 have h:=afJ l key hl l.length 0 (by omega);rw[ap2]at h;unfold TV qf;refine aM _ h ?_;cases qD key l<;>rfl
theorem aco(s:ByteArray)(h:0<s.size):∃c,(bl s)[s.size-1]?=some c∧bl s=bl (s.extract 0 (s.size-1))++ [c]:=by
 have hl:=bJ s;obtain⟨c,hc⟩:=getD_some (l:=bl s) (i:=s.size-1) (by omega);refine⟨c,hc,?_⟩;rw[oG,ap2,Nat.sub_zero];have:=aqj (s.size-1) (bl s)
 conv=>lhs;rw[←this]
 congr 1
 obtain⟨e,he,hd⟩:=drop_at (l:=bl s) (i:=s.size-1) (by omega);rw[hc]at he;cases he;rw[hd,apz (by omega)]
theorem aiW(n:Nat):∀(s:ByteArray),s.size=n→n≤9223372036854775807→∃t,aC vG ((s,42,()),())=some ((t,()),())∧∃k,bl s=bl t++List.replicate k 42:=by
 induction n with
 |zero=>
  intro s hs _;refine⟨s,aD ?_,0,by simp⟩;have:decide ((s.size:Int)>0)=false:=aoU (by omega);simp only[vG,this,aA,sS]
 |succ n ih=>
  intro s hs hn;obtain⟨c,hc,hsp⟩:=aco s (by omega);have hw:aP ((s.size:Int)-1)=((s.size-1:Nat):Int):=by rw[bH (by omega) (by omega)];omega
  have h0:decide ((s.size:Int)>0)=true:=aoS (by omega);have h1:decide ((0:Int)≤((s.size-1:Nat):Int)∧((s.size-1:Nat):Int)<s.size)=true:=aoS (by omega);have h2:decide ((0:Int)≤((s.size-1:Nat):Int))=true:=aoS (by omega);have h3:decide (0≤s.size-1∧s.size-1≤s.size)=true:=aoS (by omega);have hb:=byte_at hc;by_cases h42:u8 c=42
  ·have hc42:c=42:=UInt8.toNat_inj.1 (by unfold u8 at h42;show c.toNat=42;omega);have hsz:(s.extract 0 (s.size-1)).size=n:=by rw[←bJ,oG,apq,ap8,bJ];omega
   obtain⟨t,ht,k,hk⟩:=ih (s.extract 0 (s.size-1)) hsz (by omega);refine⟨t,?_,k+1,?_⟩
   ·rw[←ht];refine aK ?_;simp only[vG,h0,hw,h1,h2,aoV,Qo hc,dX,aoS h42,h3,aA,sS]
   ·rw[hsp,hk,hc42,ap0]
    congr 1
    rw[List.replicate_succ']
  ·refine⟨s,aD ?_,0,by simp⟩;simp only[vG,h0,hw,h1,hb,dX,aoU h42,aA,sS]
theorem ahi(n:Nat):∀(s:ByteArray),s.size=n→n≤9223372036854775807→∃t,aC uG ((s,42,()),())=some ((t,()),())∧(∃k,bl s=List.replicate k 42++bl t)∧(∀c r,bl t=c::r→c≠42):=by
 induction n with
 |zero=>
  intro s hs _;refine⟨s,aD ?_,⟨0,by simp⟩,fun c r h=> ?_⟩
  ·have:decide ((s.size:Int)>0)=false:=aoU (by omega);simp only[uG,this,aA,sS]
  ·have:=bJ s;rw[h]at this;simp at this;omega
 |succ n ih=>
  intro s hs hn;obtain⟨c,hc,hsp⟩:=drop_at (l:=bl s) (i:=0) (by rw[bJ];omega);rw[ap2]at hsp;have h0:decide ((s.size:Int)>0)=true:=aoS (by omega);have h1:decide ((0:Int)≤0∧(0:Int)<s.size)=true:=aoS (by omega);have h3:decide (1≤s.size∧s.size≤s.size)=true:=aoS (by omega);have hb:(((s[0]?.getD 0).toNat:Nat):Int)=u8 c:=by rw[Ob,hc];rfl
  by_cases h42:u8 c=42
  ·have hc42:c=42:=UInt8.toNat_inj.1 (by unfold u8 at h42;show c.toNat=42;omega)
   have hex:bl (s.extract 1 s.size)=(bl s).drop 1:=by
    rw[oG,apF];rw[ap8,bJ];exact ape _
   have hsz:(s.extract 1 s.size).size=n:=by rw[←bJ,hex,ap8,bJ];omega
   obtain⟨t,ht,⟨k,hk⟩,hf⟩:=ih (s.extract 1 s.size) hsz (by omega);refine⟨t,?_,⟨k+1,?_⟩,hf⟩
   ·rw[←ht];refine aK ?_;simp only[uG,h0,h1,hb,dX,aoS h42,h3,aA,sS]
   ·rw[hsp,←hex,hk,hc42];rfl
  ·refine⟨s,aD ?_,⟨0,by simp⟩,fun d r h=> ?_⟩
   ·simp only[uG,h0,h1,hb,dX,aoU h42,aA,sS]
   ·rw[hsp]at h;cases h;intro e;subst e;exact h42 rfl
theorem ac0(s:ByteArray)(hs:s.size≤9223372036854775807):∃t,YR ((s,bs [42],()),())=some ((t,()),())∧(bl t==bl ByteArray.empty)=(bl s).all (· ==42):=by
 by_cases he:bl s=[]
 ·refine⟨s,?_,?_⟩
  ·unfold YR;simp only[bD,he,GJ,aA,sS]
  ·rw[he];rfl
 ·obtain⟨t1,h1,k1,e1⟩:=aiW s.size s rfl hs;have hsz1:t1.size≤s.size:=by rw[←bJ t1,←bJ s,e1,apt];omega
  obtain⟨t2,h2,⟨k2,e2⟩,hf⟩:=ahi t1.size t1 rfl (by omega);have m124e:ZU ((s,42,()),())=some ((t1,()),()):=by unfold ZU;exact aM _ h1 rfl
  have m123e:acu ((t1,42,()),())=some ((t2,()),()):=by unfold acu;exact aM _ h2 rfl
  refine⟨t2,?_,?_⟩
  ·have hne:(bl s==bl ByteArray.empty)=false:=apn.2 he;have hb:((((bs [42])[0]?.getD 0).toNat:Nat):Int)=42:=by rfl
   have hbe:(bl (bs [42])==bl ByteArray.empty)=false:=by rfl
   have hbs:(((bs [42]).size:Int)==1)=true:=by rfl
   have hbd:decide ((0:Int)≤0∧(0:Int)<(bs [42]).size)=true:=by rfl
   unfold YR;simp only[bD,hne,hb,hbe,hbs,hbd,m124e,m123e,aA,sS];rfl
  ·rw[e1,e2,List.all_append,List.all_append];rw[show(List.replicate k1 (42:UInt8)).all (· ==42)=true by simp,show(List.replicate k2 (42:UInt8)).all (· ==42)=true by simp,Bool.and_true,apB]
   cases h:bl t2 with
   |nil=>rfl
   |cons c r=>
    have:(c==42)=false:=apn.2 (hf c r h);simp[this,GJ]
def Em(p s:ByteArray):Bool:=like (bl p) (bl s)
theorem afG{c d:UInt8}(h:u8 c=u8 d):c=d:=UInt8.toNat_inj.1 (by unfold u8 at h;omega)
theorem GV(c d:UInt8):(u8 c==u8 d)=(c==d):=by
 by_cases h:c=d
 ·subst h;simp
 ·rw[apn.2 h,apn.2 (fun e=>h (afG e))]
theorem yI(c:UInt8):(u8 c==42)=decide (c=42):=by
 rw[show(42:Int)=u8 42 from rfl,GV];by_cases h:c=42<;>simp[h]
theorem RF(c:UInt8):(u8 c==63)=(c==63):=GV c 63
def agi:Option (Nat×Nat)→Int→Int→Prop
 |none,s,_=>s= -1
 |some q,s,f=>s=((q.1:Nat):Int)∧f=((q.2:Nat):Int)
structure LS(P V:ByteArray)(p v:Nat)(star:Option (Nat×Nat))(a:(Int×Int×Int×Int×ByteArray×ByteArray×Unit)×Unit):Prop where
 inv:vR (bl P) (bl V) p v star
 st:∃(s f:Int),a=(((p:Int),(v:Int),s,f,V,P,()),())∧agi star s f
def X4(P V:ByteArray)(p:Nat)(star:Option (Nat×Nat)):Nat:=(V.size+1-(star.map (·.2)).getD 0)*(P.size+1)+(P.size-p)
theorem Ue(P V:ByteArray)(hP:P.size≤4294967295)(hV:V.size≤4294967295):∀(n p v:Nat) (star:Option (Nat×Nat)) (a),LS P V p v star a→X4 P V p star≤n→
  ∃d,aC ic a=some d∧((d= .inl ((false,()),())∧Em P V=false)∨∃q:Nat,q≤P.size∧d= .inr (((q:Int),P,()),())∧Em P V=((bl P).drop q).all (· ==42)):=by
 intro n
 induction n with
 |zero=>
  intro p v star a h hn
  exfalso
  have hp:=h.inv.hp;have hv:=h.inv.hv;rw[bJ]at hp hv;unfold X4 at hn
  have hf:(star.map (·.2)).getD 0≤V.size:=by
   cases star with
   |none=>exact ap5 _
   |some q=>have:=(h.inv.ok:_∧_∧_).2.1;simp;omega
  have:1*(P.size+1)≤(V.size+1-(star.map (·.2)).getD 0)*(P.size+1):=apl _ (by omega);omega
 |succ n ih=>
  intro p v star a h hn;obtain⟨inv,s,f,rfl,hst⟩:=h;have hp:=inv.hp;have hv:=inv.hv;rw[bJ]at hp hv
  have hf:(star.map (·.2)).getD 0≤v:=by
   cases star with
   |none=>exact ap5 _
   |some q=>exact(inv.ok:_∧_∧_).2.1
  by_cases hve:v=V.size
  ·refine⟨.inr (((p:Int),P,()),()),aD ?_,.inr ⟨p,hp,rfl,inv.akb (by rw[bJ];exact hve)⟩⟩;have:decide ((v:Int)<(V.size:Int))=false:=aoU (by omega);simp only[ic,this,aA,sS]
  ·have hvlt:decide ((v:Int)<(V.size:Int))=true:=aoS (by omega);have hvb:decide ((0:Int)≤(v:Int)∧(v:Int)<(V.size:Int))=true:=aoS (by omega);obtain⟨x,hx,_⟩:=drop_at (l:=bl V) (i:=v) (by rw[bJ];omega);have bx:=byte_at hx;have w1:aP ((v:Int)+1)=((v+1:Nat):Int):=aI (by omega);have w2:aP ((p:Int)+1)=((p+1:Nat):Int):=aI (by omega)
   have miss:(∀c,(bl P)[p]?=some c→c≠42∧(c==63||c==x)=false)→ic (((p:Int),(v:Int),s,f,V,P,()),())=(bif decide (s≥0)then some (.inl ((aP (s+1),aP (f+1),s,aP (f+1),V,P,()),()))else some (.inr (.inl ((false,()),()))))→
     ∃d,aC ic (((p:Int),(v:Int),s,f,V,P,()),())=some d∧((d= .inl ((false,()),())∧Em P V=false)∨∃q:Nat,q≤P.size∧d= .inr (((q:Int),P,()),())∧Em P V=((bl P).drop q).all (· ==42)):=by
    intro hm hstep
    cases star with
    |none=>
     have hs:s= -1:=hst;subst hs;exact⟨_,aD hstep,.inl ⟨rfl,inv.onFail hx hm⟩⟩
    |some q=>
     obtain⟨q1,q2⟩:=q;obtain⟨rfl,rfl⟩:s=((q1:Nat):Int)∧f=((q2:Nat):Int):=hst;have hq:=(inv.ok:_∧_∧_)
     have hq1:q1+1≤p:=hq.1;have hq2:q2≤v:=hq.2.1;rw[aoS (show((q1:Nat):Int)≥0 by omega),aI (by omega),aI (by omega)]at hstep;rw[aK hstep];refine ih (q1+1) (q2+1) (some (q1,q2+1)) _ ⟨inv.aeJ hx hm,_,_,rfl,⟨rfl,rfl⟩⟩ ?_;unfold X4 at hn ⊢;simp only[apx,aqi]at hn ⊢;have e:V.size+1-q2=(V.size+1-(q2+1))+1:=by omega
     rw[e,Nat.succ_mul]at hn;omega
   by_cases hpe:p<P.size
   ·have hplt:decide ((p:Int)<(P.size:Int))=true:=aoS (by omega);have hpb:decide ((0:Int)≤(p:Int)∧(p:Int)<(P.size:Int))=true:=aoS (by omega);obtain⟨c,hc,_⟩:=drop_at (l:=bl P) (i:=p) (by rw[bJ];omega);have bc:=byte_at hc;by_cases h42:c=42
    ·subst h42
     rw[show aC ic (((p:Int),(v:Int),s,f,V,P,()),())=aC ic ((((p+1:Nat):Int),(v:Int),(p:Int),(v:Int),V,P,()),())from aK (by
      simp only[ic,hvlt,hplt,hpb,bc,yI,aA,sS,w2])]
     refine ih (p+1) v (some (p,v)) _ ⟨inv.agx hc,_,_,rfl,⟨rfl,rfl⟩⟩ ?_;unfold X4 at hn ⊢;simp only[apx,aqi];have:=apl (P.size+1) (show V.size+1-v≤V.size+1-(star.map (·.2)).getD 0 by omega);omega
    ·by_cases hm:(c==63||c==x)=true
     ·rw[show aC ic (((p:Int),(v:Int),s,f,V,P,()),())=aC ic ((((p+1:Nat):Int),((v+1:Nat):Int),s,f,V,P,()),())from aK (by
       simp only[ic,hvlt,hplt,hpb,hvb,bc,bx,yI,RF,GV,aoU h42,aA,sS,w2];rcases Bool.or_eq_true_iff.1 hm with h|h
       ·simp only[h,aA,sS,w1,w2]
       ·cases (c==63)<;>simp only[h,aA,sS,w1,w2])]
      refine ih (p+1) (v+1) star _ ⟨inv.aeE hc hx h42 hm,s,f,rfl,hst⟩ ?_;unfold X4 at hn ⊢;omega
     ·have hm:(c==63||c==x)=false:=by simpa using hm
      refine miss (fun d hd=> ?_) ?_
      ·rw[hc]at hd;cases hd;exact⟨h42,hm⟩
      ·rw[apM]at hm;simp only[ic,hvlt,hplt,hpb,hvb,bc,bx,yI,RF,GV,aoU h42,hm.1,hm.2,aA,sS]
   ·have hplt:decide ((p:Int)<(P.size:Int))=false:=aoU (by omega);refine miss (fun d hd=> ?_) ?_
    ·have:=(aoT.1 hd).1;rw[bJ]at this;omega
    ·simp only[ic,hvlt,hplt,aA,sS]
theorem aaL(P V:ByteArray)(hP:P.size≤4294967295)(hV:V.size≤4294967295):WA ((P,V,()),())=some ((Em P V,()),()):=by
 obtain⟨d,h1,h2⟩:=Ue P V hP hV _ 0 0 none (((0:Int),(0:Int),(-1),(0:Int),V,P,()),()) ⟨vR.start _ _,-1,0,rfl,rfl⟩ (ape _);unfold WA;refine aM _ h1 ?_;rcases h2 with⟨rfl,h⟩|⟨q,hq,rfl,h⟩
 ·rw[h];rfl
 ·have ex:bl (P.extract q P.size)=(bl P).drop q:=by
   rw[oG,apF];rw[ap8,bJ];exact ape _
  have hsz:(P.extract q P.size).size≤P.size:=by rw[←bJ,ex,ap8,bJ];omega
  obtain⟨t,ht,he⟩:=ac0 (P.extract q P.size) (by omega);simp only[aA,sS,aoS (show(0:Int)≤(q:Int) by omega),aoV,aoS (show q≤P.size∧P.size≤P.size by omega),ht,bD,he,ex,h]
def cell(c:UInt8)(V:List UInt8)(r r':List Bool)(k:Nat):Bool:=
 if c=42 then(r[k]?.getD false||(decide (0<k)&&r'[k-1]?.getD false))else(decide (0<k)&&r[k-1]?.getD false&&(c==63||some c==V[k-1]?))
theorem Yy(P V:ByteArray)(c:UInt8)(i:Nat)(hc:(bl P)[i]?=some c)(hi:i<P.size)(hV:V.size≤4294967295)(hP:P.size≤4294967295)(r:List Bool)(hr:r.length=V.size+1):
  ∀(n k:Nat) (N:List Bool),k+n=V.size+1→N.length=V.size+1→(∀j,j<k→N[j]?.getD false=cell c (bl V) r N j)→(∀j,k≤j→N[j]?.getD false=false)→
   ∃N',aC ja (((k:Int),V,(i:Int),P,()),(N,r,()))=some ((V,P,(i:Int),()),(N',()))∧N'.length=V.size+1∧∀j,j≤V.size→N'[j]?.getD false=cell c (bl V) r N' j:=by
 intro n
 induction n with
 |zero=>
  intro k N h hN h1 _;refine⟨N,aD ?_,hN,fun j hj=>h1 j (by omega)⟩;have:decide ((k:Int)≤(V.size:Int))=false:=aoU (by omega);simp only[ja,this,aA,sS]
 |succ n ih=>
  intro k N h hN h1 h2;have hle:decide ((k:Int)≤(V.size:Int))=true:=aoS (by omega);have hib:decide ((0:Int)≤(i:Int)∧(i:Int)<(P.size:Int))=true:=aoS (by omega);have hkr:decide ((0:Int)≤(k:Int)∧(k:Int)<(r.length:Int))=true:=aoS (by omega);have hkN:decide ((0:Int)≤(k:Int)∧(k:Int)<(N.length:Int))=true:=aoS (by omega);have hkN2:decide (k<N.length)=true:=aoS (by omega);have w1:aP ((k:Int)+1)=((k+1:Nat):Int):=aI (by omega);have bc:=byte_at hc;have bn:=Qo hc
  have next:∀b:Bool,b=cell c (bl V) r N k→∃N',aC ja ((((k+1:Nat):Int),V,(i:Int),P,()),(N.set k b,r,()))=some ((V,P,(i:Int),()),(N',()))∧N'.length=V.size+1∧∀j,j≤V.size→N'[j]?.getD false=cell c (bl V) r N' j:=by
   intro b hb;have same:∀j,j<k→(N.set k b)[j]?=N[j]?:=fun j hj=>by rw[List.getElem?_set_ne (by omega)]
   refine ih (k+1) (N.set k b) (by omega) (by simpa using hN) (fun j hj=> ?_) (fun j hj=>by rw[List.getElem?_set_ne (by omega)];exact h2 j (by omega));rcases aqz j k with hlt|hge
   ·rw[same j hlt,h1 j hlt];unfold cell
    cases j with
    |zero=>rfl
    |succ j=>simp only[Nat.add_sub_cancel,same j (by omega)]
   ·have:j=k:=by omega
    subst this;rw[List.getElem?_set_self (by omega),aqi];refine hb.trans ?_;unfold cell
    cases j with
    |zero=>rfl
    |succ j=>simp only[Nat.add_sub_cancel,same j (by omega)]
  obtain⟨rk,hrk⟩:=getD_some (l:=r) (i:=k) (by omega);by_cases h42:c=42
  ·have hcell:cell c (bl V) r N k=(rk||(decide (0<k)&&N[k-1]?.getD false)):=by unfold cell;rw[if_pos h42,hrk];rfl
   cases rk with
   |true=>
    obtain⟨N',e1,e2⟩:=next true (by rw[hcell];rfl);refine⟨N',?_,e2⟩;rw[←e1];refine aK ?_;simp only[ja,hle,hib,bc,bn,yI,aoS h42,hkr,aoV,hrk,hkN,hkN2,aA,sS,w1]
   |false=>
    rw[apf]at hcell;by_cases hk0:k=0
    ·subst hk0;obtain⟨N',e1,e2⟩:=next false (by rw[hcell];rfl);refine⟨N',?_,e2⟩;rw[←e1];refine aK ?_;have hg:decide (((0:Nat):Int)>0)=false:=rfl;simp only[ja,hle,hib,bc,bn,yI,aoS h42,hkr,aoV,hrk,hkN,hkN2,hg,aA,sS,w1]
    ·obtain⟨b,hb⟩:=getD_some (l:=N) (i:=k-1) (by omega);have hg:decide ((k:Int)>0)=true:=aoS (by omega);have hw:aP ((k:Int)-1)=((k-1:Nat):Int):=by rw[bH (by omega) (by omega)];omega
     have hk1:decide ((0:Int)≤((k-1:Nat):Int)∧((k-1:Nat):Int)<(N.length:Int))=true:=aoS (by omega);rw[aoS (show 0<k by omega),hb,aqi,apB]at hcell;obtain⟨N',e1,e2⟩:=next b hcell.symm;refine⟨N',?_,e2⟩;rw[←e1];refine aK ?_;simp only[ja,hle,hib,bc,bn,yI,aoS h42,hkr,aoV,hrk,hkN,hkN2,hg,hw,hk1,hb,aA,sS,w1]
  ·have hcell:cell c (bl V) r N k=(decide (0<k)&&r[k-1]?.getD false&&(c==63||some c==(bl V)[k-1]?)):=by unfold cell;rw[if_neg h42]
   by_cases hk0:k=0
   ·subst hk0
    have hset:N.set 0 false=N:=by
     refine List.ext_getElem? fun j=> ?_
     cases j with
     |zero=>
      rw[List.getElem?_set_self (by omega)];obtain⟨b,hb⟩:=getD_some (l:=N) (i:=0) (by omega);have:=h2 0 (ape _);rw[hb]at this ⊢;exact congrArg some this.symm
     |succ j=>rw[List.getElem?_set_ne (by omega)]
    obtain⟨N',e1,e2⟩:=next false (by rw[hcell];rfl);rw[hset]at e1;refine⟨N',?_,e2⟩;rw[←e1];refine aK ?_;have hg:decide (((0:Nat):Int)>0)=false:=rfl;simp only[ja,hle,hib,bc,bn,yI,aoU h42,hg,aA,sS,w1]
   ·obtain⟨b,hb⟩:=getD_some (l:=r) (i:=k-1) (by omega);obtain⟨x,hx⟩:=getD_some (l:=bl V) (i:=k-1) (by rw[bJ];omega);have hg:decide ((k:Int)>0)=true:=aoS (by omega);have hw:aP ((k:Int)-1)=((k-1:Nat):Int):=by rw[bH (by omega) (by omega)];omega
    have hk1:decide ((0:Int)≤((k-1:Nat):Int)∧((k-1:Nat):Int)<(r.length:Int))=true:=aoS (by omega);have hk2:decide ((0:Int)≤((k-1:Nat):Int)∧((k-1:Nat):Int)<(V.size:Int))=true:=aoS (by omega);rw[aoS (show 0<k by omega),hb,aqi,apB,hx]at hcell;have hso:(some c==some x)=(c==x):=rfl;rw[hso]at hcell
    cases b with
    |false=>
     obtain⟨N',e1,e2⟩:=next false (by rw[hcell];rfl);refine⟨N',?_,e2⟩;rw[←e1];refine aK ?_;simp only[ja,hle,hib,bc,bn,yI,aoU h42,hg,hw,hk1,aoV,hb,hkN,hkN2,aA,sS,w1]
    |true=>
     rw[apB]at hcell
     cases h63:(c==63)with
     |true=>
      obtain⟨N',e1,e2⟩:=next true (by rw[hcell,h63];rfl);refine⟨N',?_,e2⟩;rw[←e1];refine aK ?_;simp only[ja,hle,hib,bc,bn,yI,RF,h63,aoU h42,hg,hw,hk1,aoV,hb,hkN,hkN2,aA,sS,w1]
     |false=>
      obtain⟨N',e1,e2⟩:=next (c==x) (by rw[hcell,h63];rfl);refine⟨N',?_,e2⟩;rw[←e1];refine aK ?_;simp only[ja,hle,hib,bc,bn,yI,RF,h63,aoU h42,hg,hw,hk1,hk2,Qo hx,byte_at hx,GV,aoV,hb,hkN,hkN2,aA,sS,w1]
theorem Yg(P V:ByteArray)(hP:P.size≤4294967295)(hV:V.size≤4294967294):∀(n i:Nat) (r:List Bool),i+n=P.size→RInv (bl P) (bl V) i r→
  ∃r',aC BF ((V,(i:Int),P,()),(r,()))=some ((V,()),(r',()))∧RInv (bl P) (bl V) P.size r':=by
 intro n
 induction n with
 |zero=>
  intro i r h hr;refine⟨r,aD ?_,by rw[show P.size=i by omega];exact hr⟩;have:decide ((i:Int)<(P.size:Int))=false:=aoU (by omega);simp only[BF,this,aA,sS]
 |succ n ih=>
  intro i r h hr;obtain⟨c,hc,_⟩:=drop_at (l:=bl P) (i:=i) (by rw[bJ];omega);have hlt:decide ((i:Int)<(P.size:Int))=true:=aoS (by omega);have wv:aP ((V.size:Int)+1)=((V.size+1:Nat):Int):=aI (by omega);have hb:decide ((0:Int)≤((V.size+1:Nat):Int)∧((V.size+1:Nat):Int)≤((V.size+1:Nat):Int)∧((V.size+1:Nat):Int)≤4294967296)=true:=aoS (by omega);have hrl:r.length=V.size+1:=by rw[hr.1,bJ]
  obtain⟨N',e1,e2,e3⟩:=Yy P V c i hc (by omega) (by omega) hP r hrl (V.size+1) 0 (List.replicate (V.size+1) false) (by omega) (by simp) (fun j hj=>by omega) (fun j _=>by
   rw[List.getElem?_replicate];split<;>rfl)
  obtain⟨r',e4,e5⟩:=ih (i+1) N' (by omega) (RInv.step hr hc ⟨by rw[e2,bJ],fun k hk=>e3 k (by rw[bJ]at hk;exact hk)⟩);refine⟨r',?_,e5⟩;rw[←e4];refine aK ?_;simp only[BF,hlt,wv,hb,aoV,aA,sS];refine aM _ e1 ?_;simp only[aI (show i<9223372036854775807 by omega)]
theorem abX(P V:ByteArray)(hP:P.size≤4294967295)(hV:V.size≤4294967294):Ws ((P,V,()),())=some ((Em P V,()),()):=by
 have wv:aP ((V.size:Int)+1)=((V.size+1:Nat):Int):=aI (by omega);have hb:decide ((0:Int)≤((V.size+1:Nat):Int)∧((V.size+1:Nat):Int)≤((V.size+1:Nat):Int)∧((V.size+1:Nat):Int)≤4294967296)=true:=aoS (by omega);have hl:(List.replicate (V.size+1) false).length=V.size+1:=by simp
 have h0:decide ((0:Int)≤0∧(0:Int)<((V.size+1:Nat):Int))=true:=aoS (by omega);have h1:decide (0<V.size+1)=true:=aoS (by omega);have hst:(List.replicate (V.size+1) false).set 0 true=true::List.replicate (bl V).length false:=by rw[List.replicate_succ,List.set_cons_zero,bJ]
 obtain⟨r',e1,e2⟩:=Yg P V hP hV P.size 0 _ (by omega) (RInv.start (bl P) (bl V));have hd:=RInv.done (P:=bl P) (V:=bl V) (r:=r') (by rw[bJ];exact e2);rw[bJ]at hd;have hrl:r'.length=V.size+1:=by rw[e2.1,bJ]
 obtain⟨b,hb2⟩:=getD_some (l:=r') (i:=V.size) (by omega);rw[hb2,aqi]at hd;subst hd;have h3:decide ((0:Int)≤(V.size:Int)∧(V.size:Int)<(r'.length:Int))=true:=aoS (by omega);unfold Ws;simp only[wv,hb,aoV,hl,h0,h1,hst,aA,sS];refine aM _ e1 ?_;simp only[h3,hb2,aoV,aA,sS];rfl
def zO(m:MT)(l:List LT):Bool:=
 let v:=qf l m.1
 if m.2.1=0 then decide (v=m.2.2.1)else if m.2.1=1 then !decide (v=m.2.2.1)else if m.2.1=2 then Em m.2.2.1 v else if m.2.1=3 then !Em m.2.2.1 v else false
def allM(ms:List MT)(l:List LT):Bool:=ms.all fun m=>zO m l
def EY(l:List LT):Prop:=l.length≤9223372036854775807∧∀x∈l,x.2.1.size≤4294967294
def PSz(m:MT):Prop:=m.2.2.1.size≤4294967295
theorem JH{k v:ByteArray}:∀{l:List LT},qD k l=some v→∃x∈l,x.2.1=v
 | [],h=>by cases h
 |x::l,h=>by
  simp only[qD]at h;split at h
  ·cases h;exact⟨x,by simp,rfl⟩
  ·obtain⟨y,h1,h2⟩:=JH h;exact⟨y,by simp[h1],h2⟩
theorem O1{l:List LT}(h:EY l)(k:ByteArray):(qf l k).size≤4294967294:=by
 unfold qf
 cases hf:qD k l with
 |none=>exact ap5 _
 |some v=>
  obtain⟨x,h1,rfl⟩:=JH hf;exact h.2 x h1
theorem abg(m:MT)(l:List LT)(hm:PSz m)(hl:EY l):aai ((m,l,()),())=some ((zO m l,()),()):=by
 have hg:=O1 hl m.1;unfold aai zO;simp only[L8 l m.1 hl.1,aaL m.2.2.1 _ hm (show(qf l m.1).size≤4294967295 by omega),aA,sS,dX,bD,gF];by_cases h0:m.2.1=0
 ·simp only[aoS h0,if_pos h0,aA,sS]
 ·by_cases h1:m.2.1=1
  ·simp only[aoU h0,aoS h1,if_neg h0,if_pos h1,aA,sS]
  ·by_cases h2:m.2.1=2
   ·simp only[aoU h0,aoU h1,aoS h2,if_neg h0,if_neg h1,if_pos h2,aA,sS]
   ·by_cases h3:m.2.1=3
    ·simp only[aoU h0,aoU h1,aoU h2,aoS h3,if_neg h0,if_neg h1,if_neg h2,if_pos h3,aA,sS]
    ·simp only[aoU h0,aoU h1,aoU h2,aoU h3,if_neg h0,if_neg h1,if_neg h2,if_neg h3,aA,sS]
theorem abB(m:MT)(l:List LT)(hm:PSz m)(hl:EY l):aay ((m,l,()),())=some ((zO m l,()),()):=by
 have hg:=O1 hl m.1;unfold aay zO;simp only[Me l m.1 hl.1,abX m.2.2.1 _ hm hg,aA,sS,dX,bD,gF];by_cases h0:m.2.1=0
 ·simp only[aoS h0,if_pos h0,aA,sS]
 ·by_cases h1:m.2.1=1
  ·simp only[aoU h0,aoS h1,if_neg h0,if_pos h1,aA,sS]
  ·by_cases h2:m.2.1=2
   ·simp only[aoU h0,aoU h1,aoS h2,if_neg h0,if_neg h1,if_pos h2,aA,sS]
   ·by_cases h3:m.2.1=3
    ·simp only[aoU h0,aoU h1,aoU h2,aoS h3,if_neg h0,if_neg h1,if_neg h2,if_pos h3,aA,sS]
    ·simp only[aoU h0,aoU h1,aoU h2,aoU h3,if_neg h0,if_neg h1,if_neg h2,if_neg h3,aA,sS]
def PSs(ms:List MT):Prop:=ms.length≤9223372036854775807∧∀m∈ms,PSz m
theorem ag0(ms:List MT)(l:List LT)(hm:PSs ms)(hl:EY l):∀(k i:Nat),i+k=ms.length→
  ∃j:Nat,aC qC (((i:Int),ms,(ms.length:Int),()),((l,()),()))=some (if allM (ms.drop i) l then .inr ((),((l,()),()))else .inl (((j:Int),()),((l,()),()))):=by
 intro k
 induction k with
 |zero=>
  intro i h;refine⟨0,?_⟩;rw[apz (by omega)];refine aD ?_;have:decide ((i:Int)<(ms.length:Int))=false:=aoU (by omega);simp only[qC,this,aA,sS,allM,List.all_nil,if_true]
 |succ k ih=>
  intro i h;obtain⟨e,he,hd⟩:=drop_at (l:=ms) (i:=i) (by omega);have hlt:decide ((i:Int)<(ms.length:Int))=true:=aoS (by omega);have hle:=hm.1;have hme:=abg e l (hm.2 e (aoX he)) hl;rw[hd];unfold allM;rw[List.all_cons];cases hq:zO e l
  ·refine⟨i,aD ?_⟩;simp only[qC,aJ,aG he,hlt,hme,hq,aA,sS];rfl
  ·obtain⟨j,hj⟩:=ih (i+1) (by omega);refine⟨j,?_⟩;rw[apB];unfold allM at hj;rw[←hj];refine aK ?_;simp only[qC,aJ,aG he,hlt,hme,hq,aA,sS,aI (show i<9223372036854775807 by omega)]
theorem sJ(ms:List MT)(l:List LT)(hm:PSs ms)(hl:EY l):OA ((ms,l,()),())=some ((allM ms l,()),()):=by
 obtain⟨j,h⟩:=ag0 ms l hm hl ms.length 0 (by omega);rw[ap2]at h;unfold OA;rw[show aC qC ((0,ms,(ms.length:Int),()),((l,()),()))=_ from h];cases allM ms l
 ·simp only[aA,sS,apj,if_false,aoS (show(j:Int)≥0 by omega)]
 ·simp only[aA,sS,if_true]
theorem afT(ms:List MT)(l:List LT)(hm:PSs ms)(hl:EY l):∀(k i:Nat),i+k=ms.length→
  aC uR (((i:Int),l,ms,()),())=some (if allM (ms.drop i) l then .inr ((),())else .inl ((false,()),())):=by
 intro k
 induction k with
 |zero=>
  intro i h;rw[apz (by omega)];refine aD ?_;have:decide ((i:Int)<(ms.length:Int))=false:=aoU (by omega);simp only[uR,this,aA,sS,allM,List.all_nil,if_true]
 |succ k ih=>
  intro i h;obtain⟨e,he,hd⟩:=drop_at (l:=ms) (i:=i) (by omega);have hlt:decide ((i:Int)<(ms.length:Int))=true:=aoS (by omega);have hle:=hm.1;have hme:=abB e l (hm.2 e (aoX he)) hl;rw[hd];unfold allM;rw[List.all_cons];cases hq:zO e l
  ·refine aD ?_;simp only[uR,aJ,aG he,hlt,hme,hq,aA,sS];rfl
  ·rw[apB];have hj:=ih (i+1) (by omega);unfold allM at hj;rw[←hj];refine aK ?_;simp only[uR,aJ,aG he,hlt,hme,hq,aA,sS,aI (show i<9223372036854775807 by omega)]
theorem rU(ms:List MT)(l:List LT)(hm:PSs ms)(hl:EY l):MI ((ms,l,()),())=some ((allM ms l,()),()):=by
 have h:=afT ms l hm hl ms.length 0 (by omega);rw[ap2]at h;unfold MI;refine aM _ h ?_;cases allM ms l<;>rfl
end Go.Proofs.YtchnmpafhfjimaaGreatDoor
namespace Go.Proofs.YtchnmpafhfjimaaGreatDoor
open Go Go.Abs Go.Lab
abbrev iU:=List Int×Int×Unit
def tO(d:iU):Prop:=0≤d.2.1∧d.2.1≤d.1.length∧d.1.length≤500
theorem an9{l:List Int}(h:l.length≤500):tO (l,0,()):=⟨Int.le_refl _,Int.natCast_nonneg _,h⟩
theorem fP(n:Int)(d:iU)(hd:tO d)(hn:n≤9223372036854775807):
  ∃(r:Int) (d':iU),M7 ((n,()),((d,()),()))=some ((r,()),((d',()),()))∧tO d'∧(1≤n→0≤r∧r<n)∧(n<1→r=0):=by
 obtain⟨l,at_,u⟩:=d;obtain⟨h1,h2,h3⟩:=hd;simp only at h1 h2 h3;unfold M7;simp only[aJ];by_cases c1:at_≥(l.length:Int)
 ·refine⟨0,(l,at_,()),?_,⟨h1,h2,h3⟩,fun h=>⟨by omega,by omega⟩,fun _=>rfl⟩;simp only[aoS c1,aA,sS]
 ·by_cases c2:n<1
  ·refine⟨0,(l,at_,()),?_,⟨h1,h2,h3⟩,fun h=>⟨by omega,by omega⟩,fun _=>rfl⟩;simp only[aoU c1,aoS c2,aA,sS]
  ·have hat:aP (at_+1)=at_+1:=bH (by omega) (by omega);have hne:n≠0:=by omega
   obtain⟨e,he⟩:=getD_some (l:=l) (i:=at_.toNat) (by omega);have hb:=Int.tmod_lt_of_pos e (show(0:Int)<n by omega)
   have hb2: -n<e.tmod n:=by
    have:=Int.lt_tmod_of_pos e (show(0:Int)<n by omega);omega
   by_cases c3:e.tmod n<0
   ·refine⟨e.tmod n+n,(l,at_+1,()),?_,⟨by simp only;omega,by simp only;omega,h3⟩,fun h=>⟨by omega,by omega⟩,fun h=>by omega⟩;simp only[aoU c1,aoU c2,aA,sS,gV h1 he,aoS hne,aoS c3,hat,bH (x:=e.tmod n+n) (by omega) (by omega)]
   ·refine⟨e.tmod n,(l,at_+1,()),?_,⟨by simp only;omega,by simp only;omega,h3⟩,fun h=>⟨by omega,by omega⟩,fun h=>by omega⟩;simp only[aoU c1,aoU c2,aA,sS,gV h1 he,aoS hne,aoU c3,hat]
theorem qX(l:List Int)(d:iU)(hd:tO d)(h0:0<l.length)(h1:l.length≤4294967296):
  ∃(r:Int) (d':iU),m32 ((l,()),((d,()),()))=some ((r,()),((d',()),()))∧tO d'∧r∈l:=by
 obtain⟨n,d',e1,e2,e3,_⟩:=fP l.length d hd (by omega);obtain⟨hn0,hn1⟩:=e3 (by omega);obtain⟨r,hr⟩:=getD_some (l:=l) (i:=n.toNat) (by omega);refine⟨r,d',?_,e2,aoX hr⟩;unfold m32;simp only[e1,apH,aJ,gV hn0 hr]
theorem JN(n:Int)(d:iU)(hd:tO d)(hn:1≤n)(hn2:n≤9223372036854775807):∃(b:Bool) (d':iU),m40 ((n,()),((d,()),()))=some ((b,()),((d',()),()))∧tO d':=by
 obtain⟨r,d',e1,e2,_⟩:=fP n d hd hn2;refine⟨(r==aP (n-1)),d',?_,e2⟩;unfold m40;simp only[e1,apH]
theorem Tx{A B:Type}(l:List A){n:Int}(h0:0≤n)(h1:n<l.length)(F:A→Option B):∃e,e∈l∧(bif decide ((0:Int)≤n∧(n:Int)<l.length)then(l[n.toNat]?).bind F else none)=F e:=by
 obtain⟨e,he⟩:=getD_some (l:=l) (i:=n.toNat) (by omega);exact⟨e,aoX he,by rw[aoS (And.intro h0 h1),he];rfl⟩
def mQ(m:MT):Prop:=bB m=true∧m.1.size≤64∧m.2.2.1.size≤64∧0≤m.2.1∧m.2.1≤3
theorem mQ.p{m:MT}(h:mQ m):PSz m:=by have:=h.2.2.1;unfold PSz;omega
theorem mQ.z{m:MT}(h:mQ m):TH m:=by have:=h.2.1;have:=h.2.2.1;unfold TH;omega
theorem ajs:∀k∈ [(bs [97,112,112]),(bs [104,111,115,116]),(bs [115,101,118]),(bs [116,101,97,109]),(bs [122,111,110,101])],mr k=true∧k.size≤64:=by decide+kernel
theorem aix:∀v∈ [(bs [97]),(bs [98]),ByteArray.empty,(bs [42]),(bs [99,114,105,116]),(bs [63]),(bs [119,101,98,45,42]),(bs [97,34,98,92])],yj v=true∧v.size≤64:=by decide+kernel
theorem AO(d:iU)(hd:tO d):∃(m:MT) (d':iU),m98 ((),((d,()),()))=some ((),((d',()),((m,()),())))∧tO d'∧mQ m:=by
 obtain⟨a,d1,e1,hd1,b1,_⟩:=fP 5 d hd (by omega);have b1:=b1 (by omega);obtain⟨o,d2,e2,hd2,b2,_⟩:=fP 4 d1 hd1 (by omega);have b2:=b2 (by omega);obtain⟨c,d3,e3,hd3,b3,_⟩:=fP 8 d2 hd2 (by omega);have b3:=b3 (by omega);unfold m98;simp only[e1,apH]
 obtain⟨k,hk,ek⟩:=Tx [(bs [97,112,112]),(bs [104,111,115,116]),(bs [115,101,118]),(bs [116,101,97,109]),(bs [122,111,110,101])] b1.1 b1.2 (fun e11=>(M7 ((4,()),((d1,()),()))).bind fun u12=>
  (M7 ((8,()),((u12.2.1.1,()),()))).bind fun u13=>
  bif (decide ((0:Int)≤u13.1.1∧(u13.1.1:Int)< [(bs [97]),(bs [98]),ByteArray.empty,(bs [42]),(bs [99,114,105,116]),(bs [63]),(bs [119,101,98,45,42]),(bs [97,34,98,92])].length))then
  ([(bs [97]),(bs [98]),ByteArray.empty,(bs [42]),(bs [99,114,105,116]),(bs [63]),(bs [119,101,98,45,42]),(bs [97,34,98,92])][u13.1.1.toNat]?).bind fun e14=>
  some (((),((u13.2.1.1,()),(((e11,(u12.1.1,(e14,()))),()),()))):(Unit)×(((List Int×Int×Unit)×Unit)×(MT×Unit)×Unit))
  else none)
 rw[ek];simp only[e2,e3,apH];obtain⟨v,hv,ev⟩:=Tx [(bs [97]),(bs [98]),ByteArray.empty,(bs [42]),(bs [99,114,105,116]),(bs [63]),(bs [119,101,98,45,42]),(bs [97,34,98,92])] b3.1 b3.2 (fun e14=>some (((),((d3,()),(((k,(o,(e14,()))),()),()))):(Unit)×(((List Int×Int×Unit)×Unit)×(MT×Unit)×Unit)));rw[ev];have h1:=ajs k hk;have h2:=aix v hv;refine⟨(k,o,v,()),d3,rfl,hd3,?_,h1.2,h2.2,b2.1,by simp only;omega⟩;unfold bB;simp only[h1.1,h2.1,aoS b2.1,aoS (show o≤3 by omega),Bool.and_self]
theorem I6:∀(n:Nat) (i:Int) (d:iU) (l:List MT),tO d→i=n→l.length+n≤1000→(∀m∈l,mQ m)→
  ∃(l':List MT) (d':iU),aC EW ((i,()),((d,()),(l,())))=some ((),((d',()),(l',())))∧tO d'∧l'.length=l.length+n∧∀m∈l',mQ m:=by
 intro n
 induction n with
 |zero=>
  intro i d l hd hi hl hg;refine⟨l,d,aD ?_,hd,rfl,hg⟩;have:decide (i>0)=false:=aoU (by omega);simp only[EW,this,aA,sS]
 |succ n ih=>
  intro i d l hd hi hl hg;obtain⟨m,d1,e1,hd1,hm⟩:=AO d hd
  obtain⟨l',d',e2,hd',hl',hg'⟩:=ih (i-1) d1 (l++ [m]) hd1 (by omega) (by simp;omega) (fun x hx=>by
   rcases apr.1 hx with h|h
   ·exact hg x h
   ·simp at h;subst h;exact hm)
  refine⟨l',d',?_,hd',by rw[hl'];simp;omega,hg'⟩;rw[←e2];refine aK ?_;have h0:decide (i>0)=true:=aoS (by omega);have h1:decide (l.length+([m]:List MT).length≤4294967296)=true:=aoS (by simp;omega);simp only[EW,h0,e1,aA,sS,h1,bH (x:=i-1) (by omega) (by omega)]
theorem qh(n:Int)(d:iU)(hd:tO d)(h0:0≤n)(hn:n≤900):∃(l:List MT) (d':iU),m97 ((n,()),((d,()),()))=some ((),((d',()),(l,())))∧tO d'∧(l.length:Int)≤n∧∀m∈l,mQ m:=by
 obtain⟨a,d1,e1,hd1,b1,_⟩:=fP (aP (n+1)) d hd (by rw[bH (by omega) (by omega)];omega);rw[bH (x:=n+1) (by omega) (by omega)]at e1 b1;have b1:=b1 (by omega);obtain⟨l',d',e2,hd',hl',hg'⟩:=I6 a.toNat a d1 [] hd1 (by omega) (by simp;omega) (fun m hm=>by cases hm);refine⟨l',d',?_,hd',by rw[hl'];simp;omega,hg'⟩;unfold m97;simp only[bH (x:=n+1) (by omega) (by omega),e1,apH,e2]
def Wn(l:List LT):Prop:=l.length≤4∧∀x∈l,x.1.size≤64∧x.2.1.size≤64
theorem Wn.z{l:List LT}(h:Wn l):EY l:=⟨by have:=h.1;omega,fun x hx=>by have:=(h.2 x hx).2;omega⟩
abbrev iM:List ByteArray:=[(bs [97,112,112]),(bs [104,111,115,116]),(bs [115,101,118]),(bs [116,101,97,109])]
abbrev Sk:List ByteArray:=[ByteArray.empty,(bs [97]),(bs [98]),(bs [99,114,105,116]),(bs [97,34,98,92]),(bs [119,101,98,45,49])]
abbrev akr:ByteArray×ByteArray×ByteArray×ByteArray×Unit:=((bs [97,112,112]),((bs [104,111,115,116]),((bs [115,101,118]),((bs [116,101,97,109]),()))))
theorem YS:∀v∈Sk,yj v=true∧v.size≤64:=by decide+kernel
theorem BB:∀k∈iM,mr k=true∧k.size≤64:=by decide+kernel
def qp(ks:List ByteArray)(l:List LT):Prop:=(l.map (·.1)).Sublist ks∧∀x∈l,x.2.1∈Sk∧x.2.1≠ByteArray.empty
theorem Oq:∀(n i:Nat) (d:iU) (l:List LT),i+n=4→tO d→qp (iM.take i) l→
  ∃(l':List LT) (d':iU),aC Ad (((i:Int),akr,()),((d,()),(l,())))=some ((),((d',()),(l',())))∧tO d'∧qp iM l':=by
 intro n
 induction n with
 |zero=>
  intro i d l hi hd hl;refine⟨l,d,aD ?_,hd,by rw[show i=4 by omega]at hl;exact hl⟩;have:decide ((i:Int)<4)=false:=aoU (by omega);simp only[Ad,this,aA,sS]
 |succ n ih=>
  intro i d l hi hd hl;obtain⟨k,hk⟩:=getD_some (l:=iM) (i:=i) (by show i<4;omega);obtain⟨a,d1,e1,hd1,b1,_⟩:=fP 6 d hd (by omega);have b1:=b1 (by omega);obtain⟨v,hv⟩:=getD_some (l:=Sk) (i:=a.toNat) (by show a.toNat<6;omega);have h0:decide ((i:Int)<4)=true:=aoS (by omega);have hb:decide ((0:Int)≤a∧(a:Int)<Sk.length)=true:=aoS ⟨b1.1,b1.2⟩;have htk:iM.take (i+1)=iM.take i++ [k]:=by rw[aq0,hk];rfl
  have hw:aP ((i:Int)+1)=((i+1:Nat):Int):=aI (by omega)
  have hlen:l.length≤4:=by
   have:=hl.1.length_le;rw[aoY,apq]at this;omega
  by_cases he:v=ByteArray.empty
  ·obtain⟨l',d',e2,hd',hl'⟩:=ih (i+1) d1 l (by omega) hd1 ⟨by rw[htk];exact hl.1.trans (List.sublist_append_left _ _),hl.2⟩;refine⟨l',d',?_,hd',hl'⟩;rw[←e2];refine aK ?_;simp only[Ad,h0,aJ,aG hk,e1,hb,hv,bD,gF,aoS he,aA,sS,hw]
  ·obtain⟨l',d',e2,hd',hl'⟩:=ih (i+1) d1 (l++ [(k,v,())]) (by omega) hd1 ⟨by rw[htk,ap3];exact hl.1.append (List.Sublist.refl _),fun x hx=>by
    rcases apr.1 hx with h|h
    ·exact hl.2 x h
    ·simp only[apL]at h;subst h;exact⟨aoX hv,he⟩⟩
   refine⟨l',d',?_,hd',hl'⟩;rw[←e2];refine aK ?_;have h1:decide (l.length+([(k,(v,()))]:List LT).length≤4294967296)=true:=aoS (by simp;omega);simp only[Ad,h0,aJ,aG hk,e1,hb,hv,bD,gF,aoU he,aA,sS,h1,hw]
theorem Ng(d:iU)(hd:tO d):∃(l:List LT) (d':iU),m39 ((),((d,()),()))=some ((),((d',()),(l,())))∧tO d'∧qp iM l:=by
 obtain⟨l,d',h1,h2,h3⟩:=Oq 4 0 d [] (by omega) hd ⟨List.nil_sublist _,fun x hx=>by cases hx⟩;refine⟨l,d',?_,h2,h3⟩;unfold m39;refine aM _ h1 rfl
theorem VN{l:List LT}(h:qp iM l):Wn l:=by
 refine⟨by have:=h.1.length_le;rw[aoY]at this;exact this,fun x hx=>⟨?_,(YS _ (h.2 x hx).1).2⟩⟩;exact(BB _ (h.1.subset (List.mem_map_of_mem hx))).2
theorem Qp:∀(n i:Nat) (d:iU) (l:List ByteArray),i+n=4→tO d→l.Sublist (iM.take i)→
  ∃(l':List ByteArray) (d':iU),aC BR (((i:Int),akr,()),((d,()),(l,())))=some ((),((d',()),(l',())))∧tO d'∧l'.Sublist iM:=by
 intro n
 induction n with
 |zero=>
  intro i d l hi hd hl;refine⟨l,d,aD ?_,hd,by rw[show i=4 by omega]at hl;exact hl⟩;have:decide ((i:Int)<4)=false:=aoU (by omega);simp only[BR,this,aA,sS]
 |succ n ih=>
  intro i d l hi hd hl;obtain⟨k,hk⟩:=getD_some (l:=iM) (i:=i) (by show i<4;omega);obtain⟨b,d1,e1,hd1⟩:=JN 3 d hd (by omega) (by omega);have h0:decide ((i:Int)<4)=true:=aoS (by omega);have htk:iM.take (i+1)=iM.take i++ [k]:=by rw[aq0,hk];rfl
  have hw:aP ((i:Int)+1)=((i+1:Nat):Int):=aI (by omega)
  have hlen:l.length≤4:=by
   have:=hl.length_le;rw[apq]at this;omega
  cases b with
  |false=>
   obtain⟨l',d',e2,hd',hl'⟩:=ih (i+1) d1 l (by omega) hd1 (by rw[htk];exact hl.trans (List.sublist_append_left _ _));refine⟨l',d',?_,hd',hl'⟩;rw[←e2];refine aK ?_;simp only[BR,h0,aJ,aG hk,e1,aA,sS,hw]
  |true=>
   obtain⟨l',d',e2,hd',hl'⟩:=ih (i+1) d1 (l++ [k]) (by omega) hd1 (by rw[htk];exact hl.append (List.Sublist.refl _));refine⟨l',d',?_,hd',hl'⟩;rw[←e2];refine aK ?_;have h1:decide (l.length+ [k].length≤4294967296)=true:=aoS (by simp;omega);simp only[BR,h0,aJ,aG hk,e1,aA,sS,h1,hw]
theorem Hl(d:iU)(hd:tO d):∃(l:List ByteArray) (d':iU),m62 ((),((d,()),()))=some ((),((d',()),(l,())))∧tO d'∧l.Sublist iM:=by
 obtain⟨l,d',h1,h2,h3⟩:=Qp 4 0 d [] (by omega) hd (List.nil_sublist _);refine⟨l,d',?_,h2,h3⟩;unfold m62;refine aM _ h1 rfl
theorem light(l:List Int):m9 ((l,()),())=some ((decide (l.length≤500),()),()):=by
 unfold m9;rw[show decide ((l.length:Int)≤500)=decide (l.length≤500)from aqb.2 (by omega)]
theorem roll(l:List Int):m11 ((l,()),())=some ((),(((l,0,()),()),())):=rfl
abbrev y8:Type:=List MT×List MT×List ByteArray×Unit
abbrev big:Nat:=9223372036854775807
def qz(a b:List LT)(ks:List ByteArray):Bool:=ks.any fun k=> !decide (qf a k=qf b k)
theorem aa1(a b:List LT)(ha:a.length≤big)(hb:b.length≤big)(ks:List ByteArray)(hk:ks.length≤big):∀(k i:Nat),i+k=ks.length→
  ∃j:Nat,aC qN (((i:Int),ks,(ks.length:Int),()),((a,()),((b,()),())))=some (if qz a b (ks.drop i)then .inl (((j:Int),()),((a,()),((b,()),())))else .inr ((),((a,()),((b,()),())))):=by
 intro k
 induction k with
 |zero=>
  intro i h;refine⟨0,?_⟩;rw[apz (by omega)];refine aD ?_;have:decide ((i:Int)<(ks.length:Int))=false:=aoU (by omega);simp only[qN,this,aA,sS];rfl
 |succ k ih=>
  intro i h;obtain⟨e,he,hd⟩:=drop_at (l:=ks) (i:=i) (by omega);have hlt:decide ((i:Int)<(ks.length:Int))=true:=aoS (by omega);have hw:aP ((i:Int)+1)=((i+1:Nat):Int):=aI (by unfold big at hk;omega);have q1:=L8 a e ha;have q2:=L8 b e hb;rw[hd,show qz a b (e::ks.drop (i+1))=((!decide (qf a e=qf b e))||qz a b (ks.drop (i+1)))from List.any_cons];cases hq:decide (qf a e=qf b e)
  ·refine⟨i,aD ?_⟩;simp only[qN,aJ,aG he,hlt,q1,q2,bD,gF,hq,aA,sS];rfl
  ·obtain⟨j,hj⟩:=ih (i+1) (by omega);refine⟨j,?_⟩;rw[apv,apf,←hj];refine aK ?_;simp only[qN,aJ,aG he,hlt,q1,q2,bD,gF,hq,aA,sS,hw]
theorem ZN(a b:List LT)(ha:a.length≤big)(hb:b.length≤big)(ks:List ByteArray)(hk:ks.length≤big):abj ((a,b,ks,()),())=some ((!qz a b ks,()),()):=by
 obtain⟨j,h⟩:=aa1 a b ha hb ks hk ks.length 0 (by omega);rw[ap2]at h;unfold abj;rw[show aC qN ((0,ks,(ks.length:Int),()),((a,()),((b,()),())))=_ from h];cases qz a b ks
 ·simp only[aA,sS,apj,if_false]
 ·simp only[aA,sS,if_true,aoS (show(j:Int)≥0 by omega)]
theorem aa6(a b:List LT)(ha:a.length≤big)(hb:b.length≤big)(ks:List ByteArray)(hk:ks.length≤big):∀(k i:Nat),i+k=ks.length→
  aC wQ (((i:Int),ks,b,a,()),())=some (if qz a b (ks.drop i)then .inl ((false,()),())else .inr ((),())):=by
 intro k
 induction k with
 |zero=>
  intro i h;rw[apz (by omega)];refine aD ?_;have:decide ((i:Int)<(ks.length:Int))=false:=aoU (by omega);simp only[wQ,this,aA,sS];rfl
 |succ k ih=>
  intro i h;obtain⟨e,he,hd⟩:=drop_at (l:=ks) (i:=i) (by omega);have hlt:decide ((i:Int)<(ks.length:Int))=true:=aoS (by omega);have hw:aP ((i:Int)+1)=((i+1:Nat):Int):=aI (by unfold big at hk;omega);have q1:=Me a e ha;have q2:=Me b e hb;rw[hd,show qz a b (e::ks.drop (i+1))=((!decide (qf a e=qf b e))||qz a b (ks.drop (i+1)))from List.any_cons];cases hq:decide (qf a e=qf b e)
  ·refine aD ?_;simp only[wQ,aJ,aG he,hlt,q1,q2,bD,gF,hq,aA,sS];rfl
  ·rw[apv,apf,←ih (i+1) (by omega)];refine aK ?_;simp only[wQ,aJ,aG he,hlt,q1,q2,bD,gF,hq,aA,sS,hw]
theorem acA(a b:List LT)(ha:a.length≤big)(hb:b.length≤big)(ks:List ByteArray)(hk:ks.length≤big):aaz ((ks,a,b,()),())=some ((!qz a b ks,()),()):=by
 have h:=aa6 a b ha hb ks hk ks.length 0 (by omega);rw[ap2]at h;unfold aaz;refine aM _ h ?_;cases qz a b ks<;>rfl
def RSz(r:y8):Prop:=PSs r.1∧PSs r.2.1∧r.2.2.1.length≤big
def VU(l:List y8):Prop:=l.length≤big∧∀r∈l,RSz r
def Vw(f:List (List LT)):Prop:=f.length≤big∧∀l∈f,EY l
def FP(r:y8)(x f:List LT):Bool:=allM r.1 f&&(!allM r.2.1 f&& !qz x f r.2.2.1)
def Ga(x:List LT)(fs:List (List LT))(r:y8):Bool:=allM r.2.1 x&&fs.any (FP r x)
def ou(l:List y8)(x:List LT)(fs:List (List LT)):Bool:=l.any (Ga x fs)
theorem aaj(r:y8)(hr:RSz r)(x:List LT)(hx:EY x)(fs:List (List LT))(hf:Vw fs)(l:List y8)(n o:Int):∀(k i:Nat),i+k=fs.length→
  aC rq (((i:Int),x,fs,fs,l,n,o,(fs.length:Int),()),((r,()),()))=some (if(fs.drop i).any (FP r x)then .inl ((true,()),())else .inr ((x,fs,l,n,o,()),())):=by
 intro k
 induction k with
 |zero=>
  intro i h;rw[apz (by omega)];refine aD ?_;have:decide ((i:Int)<(fs.length:Int))=false:=aoU (by omega);simp only[rq,this,aA,sS];rfl
 |succ k ih=>
  intro i h;obtain⟨e,he,hd⟩:=drop_at (l:=fs) (i:=i) (by omega);have hlt:decide ((i:Int)<(fs.length:Int))=true:=aoS (by omega);have hlen:=hf.1;have hw:aP ((i:Int)+1)=((i+1:Nat):Int):=aI (by unfold big at hlen;omega);have hze:=hf.2 e (aoX he);have q1:=sJ r.1 e hr.1 hze;have q2:=sJ r.2.1 e hr.2.1 hze;have q3:=ZN x e hx.1 hze.1 r.2.2.1 hr.2.2;rw[hd,List.any_cons]
  have go:∀b,FP r x e=b→rq (((i:Int),x,fs,fs,l,n,o,(fs.length:Int),()),((r,()),()))=(if b then some (.inr (.inl ((true,()),())))else some (.inl ((((i+1:Nat):Int),x,fs,fs,l,n,o,(fs.length:Int),()),((r,()),())))):=by
   intro b hb;unfold FP at hb;subst hb;simp only[rq,aJ,aG he,hlt,q1,q2,q3,aA,sS];cases allM r.1 e<;>cases allM r.2.1 e<;>cases qz x e r.2.2.1<;>simp only[aA,sS,hw]<;>rfl
  cases hq:FP r x e
  ·rw[apf,←ih (i+1) (by omega)];exact aK (go false hq)
  ·exact aD (go true hq)
theorem ZR(l:List y8)(hl:VU l)(x:List LT)(hx:EY x)(fs:List (List LT))(hf:Vw fs):∀(k i:Nat),i+k=l.length→
  aC vg (((i:Int),x,fs,l,(l.length:Int),()),())=some (if(l.drop i).any (Ga x fs)then .inl ((true,()),())else .inr ((),())):=by
 intro k
 induction k with
 |zero=>
  intro i h;rw[apz (by omega)];refine aD ?_;have:decide ((i:Int)<(l.length:Int))=false:=aoU (by omega);simp only[vg,this,aA,sS];rfl
 |succ k ih=>
  intro i h;obtain⟨e,he,hd⟩:=drop_at (l:=l) (i:=i) (by omega);have hlt:decide ((i:Int)<(l.length:Int))=true:=aoS (by omega);have hlen:=hl.1;have hw:aP ((i:Int)+1)=((i+1:Nat):Int):=aI (by unfold big at hlen;omega);have hze:=hl.2 e (aoX he);have q1:=sJ e.2.1 x hze.2.1 hx;have q2:=aaj e hze x hx fs hf l (l.length:Int) (i:Int) fs.length 0 (by omega);rw[ap2]at q2;rw[hd,List.any_cons]
  have go:∀b,Ga x fs e=b→vg (((i:Int),x,fs,l,(l.length:Int),()),())=(if b then some (.inr (.inl ((true,()),())))else some (.inl ((((i+1:Nat):Int),x,fs,l,(l.length:Int),()),()))):=by
   intro b hb;unfold Ga at hb;subst hb;simp only[vg,aJ,aG he,hlt,q1,aA,sS];cases allM e.2.1 x
   ·simp only[aA,sS,hw];rfl
   ·simp only[aA,sS];rw[show aC rq ((0,x,fs,fs,l,(l.length:Int),(i:Int),(fs.length:Int),()),((e,()),()))=_ from q2];cases fs.any (FP e x)
    ·simp only[apj,if_false,aA,sS,hw]
    ·simp only[if_true,aA,sS]
  cases hq:Ga x fs e
  ·rw[apf,←ih (i+1) (by omega)];exact aK (go false hq)
  ·exact aD (go true hq)
theorem abR(l:List y8)(hl:VU l)(x:List LT)(hx:EY x)(fs:List (List LT))(hf:Vw fs):abG ((l,x,fs,()),())=some ((ou l x fs,()),()):=by
 have h:=ZR l hl x hx fs hf l.length 0 (by omega);rw[ap2]at h;unfold abG;refine aM _ h ?_;unfold ou;cases l.any (Ga x fs)<;>rfl
theorem ace(r:y8)(hr:RSz r)(x:List LT)(hx:EY x)(fs:List (List LT))(hf:Vw fs)(l:List y8)(o:Nat)(ho:l[o]?=some r):∀(k i:Nat),i+k=fs.length→
  aC qw (((i:Int),fs,x,(o:Int),l,()),())=some (if(fs.drop i).any (FP r x)then .inl ((true,()),())else .inr ((fs,x,l,(o:Int),()),())):=by
 intro k
 induction k with
 |zero=>
  intro i h;rw[apz (by omega)];refine aD ?_;have:decide ((i:Int)<(fs.length:Int))=false:=aoU (by omega);simp only[qw,this,aA,sS];rfl
 |succ k ih=>
  intro i h;obtain⟨e,he,hd⟩:=drop_at (l:=fs) (i:=i) (by omega);have hlt:decide ((i:Int)<(fs.length:Int))=true:=aoS (by omega);have hlen:=hf.1;have hw:aP ((i:Int)+1)=((i+1:Nat):Int):=aI (by unfold big at hlen;omega);have hze:=hf.2 e (aoX he);have q1:=rU r.1 e hr.1 hze;have q2:=rU r.2.1 e hr.2.1 hze;have q3:=acA x e hx.1 hze.1 r.2.2.1 hr.2.2;rw[hd,List.any_cons]
  have go:∀b,FP r x e=b→qw (((i:Int),fs,x,(o:Int),l,()),())=(if b then some (.inr (.inl ((true,()),())))else some (.inl ((((i+1:Nat):Int),fs,x,(o:Int),l,()),()))):=by
   intro b hb;unfold FP at hb;subst hb;simp only[qw,aJ,aG he,aG ho,hlt,q1,q2,q3,aA,sS];cases allM r.1 e<;>cases allM r.2.1 e<;>cases qz x e r.2.2.1<;>simp only[aA,sS,hw]<;>rfl
  cases hq:FP r x e
  ·rw[apf,←ih (i+1) (by omega)];exact aK (go false hq)
  ·exact aD (go true hq)
theorem acB(l:List y8)(hl:VU l)(x:List LT)(hx:EY x)(fs:List (List LT))(hf:Vw fs):∀(k i:Nat),i+k=l.length→
  aC wE (((i:Int),fs,x,l,()),())=some (if(l.drop i).any (Ga x fs)then .inl ((true,()),())else .inr ((),())):=by
 intro k
 induction k with
 |zero=>
  intro i h;rw[apz (by omega)];refine aD ?_;have:decide ((i:Int)<(l.length:Int))=false:=aoU (by omega);simp only[wE,this,aA,sS];rfl
 |succ k ih=>
  intro i h;obtain⟨e,he,hd⟩:=drop_at (l:=l) (i:=i) (by omega);have hlt:decide ((i:Int)<(l.length:Int))=true:=aoS (by omega);have hlen:=hl.1;have hw:aP ((i:Int)+1)=((i+1:Nat):Int):=aI (by unfold big at hlen;omega);have hze:=hl.2 e (aoX he);have q1:=rU e.2.1 x hze.2.1 hx;have q2:=ace e hze x hx fs hf l i he fs.length 0 (by omega);rw[ap2]at q2;rw[hd,List.any_cons]
  have go:∀b,Ga x fs e=b→wE (((i:Int),fs,x,l,()),())=(if b then some (.inr (.inl ((true,()),())))else some (.inl ((((i+1:Nat):Int),fs,x,l,()),()))):=by
   intro b hb;unfold Ga at hb;subst hb;simp only[wE,aJ,aG he,hlt,q1,aA,sS];cases allM e.2.1 x
   ·simp only[aA,sS,hw];rfl
   ·simp only[aA,sS];rw[show aC qw ((0,fs,x,(i:Int),l,()),())=_ from q2];cases fs.any (FP e x)
    ·simp only[apj,if_false,aA,sS,hw]
    ·simp only[if_true,aA,sS]
  cases hq:Ga x fs e
  ·rw[apf,←ih (i+1) (by omega)];exact aK (go false hq)
  ·exact aD (go true hq)
theorem aaB(l:List y8)(hl:VU l)(x:List LT)(hx:EY x)(fs:List (List LT))(hf:Vw fs):aaI ((l,x,fs,()),())=some ((ou l x fs,()),()):=by
 have h:=acB l hl x hx fs hf l.length 0 (by omega);rw[ap2]at h;unfold aaI;refine aM _ h ?_;unfold ou;cases l.any (Ga x fs)<;>rfl
def uy(r:y8):Prop:=r.1.length≤8∧r.2.1.length≤8∧(∀m∈r.1,mQ m)∧(∀m∈r.2.1,mQ m)∧r.2.2.1.Sublist iM∧r.1≠ []∧r.2.1≠ []
theorem uy.z{r:y8}(h:uy r):RSz r:=by
 obtain⟨h1,h2,h3,h4,h5,_⟩:=h;refine⟨⟨by omega,fun m hm=>(h3 m hm).p⟩,⟨by omega,fun m hm=>(h4 m hm).p⟩,?_⟩;have:=h5.length_le;rw[show iM.length=4 from rfl]at this;unfold big;omega
theorem abz:mQ ((bs [115,101,118]),(0,((bs [99,114,105,116]),()))):=by
 unfold mQ;decide+kernel
theorem Zn:∀(n:Nat) (i:Int) (d:iU) (l:List y8),tO d→i=n→l.length+n≤1000→(∀r∈l,uy r)→
  ∃(l':List y8) (d':iU),aC EN ((i,()),((d,()),(l,())))=some ((),((d',()),(l',())))∧tO d'∧l'.length=l.length+n∧∀r∈l',uy r:=by
 intro n
 induction n with
 |zero=>
  intro i d l hd hi hl hg;refine⟨l,d,aD ?_,hd,rfl,hg⟩;have:decide (i>0)=false:=aoU (by omega);simp only[EN,this,aA,sS]
 |succ n ih=>
  intro i d l hd hi hl hg;obtain⟨s,d1,e1,hd1,hs,hsg⟩:=qh 1 d hd (by omega) (by omega);obtain⟨t,d2,e2,hd2,ht,htg⟩:=qh 1 d1 hd1 (by omega) (by omega);obtain⟨m,d3,e3,hd3,hm⟩:=AO d2 hd2;obtain⟨ks,d4,e4,hd4,hk⟩:=Hl d3 hd3;have h0:decide (i>0)=true:=aoS (by omega);have b1:decide (s.length+([((bs [115,101,118]),(0,((bs [99,114,105,116]),())))]:List MT).length≤4294967296)=true:=aoS (by simp;omega);have b2:decide (t.length+([m]:List MT).length≤4294967296)=true:=aoS (by simp;omega);have b3:∀r:y8,decide (l.length+([r]:List y8).length≤4294967296)=true:=fun r=>aoS (by simp;omega)
  obtain⟨l',d',e5,hd',hl',hg'⟩:=ih (i-1) d4 (l++ [(s++ [((bs [115,101,118]),(0,((bs [99,114,105,116]),())))],(t++ [m],(ks,())))]) hd4 (by omega) (by simp;omega) (fun x hx=>by
   rcases apr.1 hx with h|h
   ·exact hg x h
   ·simp only[apL]at h;subst h;refine⟨by simp;omega,by simp;omega,fun y hy=> ?_,fun y hy=> ?_,hk,by simp,by simp⟩
    ·rcases apr.1 hy with h|h
     ·exact hsg y h
     ·simp only[apL]at h;subst h;exact abz
    ·rcases apr.1 hy with h|h
     ·exact htg y h
     ·simp only[apL]at h;subst h;exact hm)
  refine⟨l',d',?_,hd',by rw[hl'];simp;omega,hg'⟩;rw[←e5];refine aK ?_;simp only[EN,h0,e1,e2,e3,e4,aA,sS,b1,b2,b3,bH (x:=i-1) (by omega) (by omega)]
theorem XI(d:iU)(hd:tO d):∃(l:List y8) (d':iU),m51 ((),((d,()),()))=some ((),((d',()),(l,())))∧tO d'∧l.length≤3∧∀r∈l,uy r:=by
 obtain⟨a,d1,e1,hd1,b1,_⟩:=fP 3 d hd (by omega);have b1:=b1 (by omega);obtain⟨l',d',e2,hd',hl',hg'⟩:=Zn a.toNat a d1 [] hd1 (by omega) (by simp;omega) (fun m hm=>by cases hm);refine⟨l',d',?_,hd',by rw[hl'];simp;omega,hg'⟩;unfold m51;simp only[e1,apH,e2]
def gu{S E B:Type}(step:Nat→S→E→S⊕B)(fin:S→B):Nat→List E→S→B
 |_,[],s=>fin s
 |i,e::r,s=>match step i s e with
  | .inl s'=>gu step fin (i+1) r s'
  | .inr b=>b
theorem wZ{A B S E:Type}{f:A→Option (A⊕B)}(l:List E)(st:Nat→S→A)(step:Nat→S→E→S⊕B)(fin:S→B)(I:Nat→S→Prop)
  (h1:∀i e s,l[i]?=some e→i<l.length→I i s→f (st i s)=some (match step i s e with| .inl s'=>.inl (st (i+1) s')| .inr b=>.inr b))
  (hI:∀i e s s',l[i]?=some e→I i s→step i s e= .inl s'→I (i+1) s')
  (h2:∀s,I l.length s→f (st l.length s)=some (.inr (fin s))):
  ∀(k i:Nat) (s:S),i+k=l.length→I i s→aC f (st i s)=some (gu step fin i (l.drop i) s):=by
 intro k
 induction k with
 |zero=>
  intro i s h hi;obtain rfl:i=l.length:=by omega
  rw[apP];exact aD (h2 s hi)
 |succ k ih=>
  intro i s h hi;obtain⟨e,he,hd⟩:=drop_at (l:=l) (i:=i) (by omega);have q:=h1 i e s he (by omega) hi;rw[hd];unfold gu
  cases hs:step i s e with
  |inl s'=>
   rw[hs]at q;simp only;rw[←ih (i+1) s' (by omega) (hI i e s s' he hi hs)];exact aK q
  |inr b=>
   rw[hs]at q;exact aD q
theorem cB{A B S E:Type}{f:A→Option (A⊕B)}(l:List E)(st:Nat→S→A)(step:Nat→S→E→S⊕B)(fin:S→B)
  (h1:∀i e s,l[i]?=some e→i<l.length→f (st i s)=some (match step i s e with| .inl s'=>.inl (st (i+1) s')| .inr b=>.inr b))
  (h2:∀s,f (st l.length s)=some (.inr (fin s))) (s:S):aC f (st 0 s)=some (gu step fin 0 l s):=by
 have:=wZ l st step fin (fun _ _=>True) (fun i e s he hl _=>h1 i e s he hl) (fun _ _ _ _ _ _ _=>trivial) (fun s _=>h2 s) l.length 0 s (by omega) trivial
 rwa [ap2]at this
theorem kL{S E B:Type}(g:S→E→S)(fin:S→B):∀(l:List E) (i:Nat) (s:S),gu (fun _ s e=>.inl (g s e)) fin i l s=fin (l.foldl g s):=by
 intro l
 induction l with
 |nil=>intro i s;rfl
 |cons e r ih=>intro i s;exact ih (i+1) (g s e)
theorem dL{A B E:Type}{f:A→Option (A⊕B)}(l:List E)(st:Nat→A)(fin:B)
  (h1:∀i e,l[i]?=some e→i<l.length→f (st i)=some (.inl (st (i+1)))) (h2:f (st l.length)=some (.inr fin)):aC f (st 0)=some fin:=by
 have:=cB (S:=Unit) l (fun i _=>st i) (fun _ _ _=>.inl ()) (fun _=>fin) (fun i e _ he hi=>h1 i e he hi) (fun _=>h2) ();exact this.trans (congrArg some (kL (fun _ _=>()) (fun _=>fin) l 0 ()))
theorem lS{A B:Type}{f:A→Option (A⊕B)}{Q:B→Prop}(I:Nat→A→Prop)(n:Nat)
  (h1:∀i a,i<n→I i a→∃a',f a=some (.inl a')∧I (i+1) a') (h2:∀a,I n a→∃b,f a=some (.inr b)∧Q b):∀a,I 0 a→∃b,aC f a=some b∧Q b:=by
 have:∀(k i:Nat) a,i+k=n→I i a→∃b,aC f a=some b∧Q b:=by
  intro k
  induction k with
  |zero=>
   intro i a h hi;obtain rfl:i=n:=by omega
   obtain⟨b,h,hq⟩:=h2 a hi;exact⟨b,aD h,hq⟩
  |succ k ih=>
   intro i a h hi;obtain⟨a',h,hi'⟩:=h1 i a (by omega) hi;obtain⟨b,hb,hq⟩:=ih (i+1) a' (by omega) hi';exact⟨b,by rw[←hb];exact aK h,hq⟩
 exact fun a h=>this n 0 a (by omega) h
theorem bQ{i n:Nat}(h:i<n):decide ((i:Int)<(n:Int))=true:=aoS (by omega)
theorem cO(n:Nat):decide ((n:Int)<(n:Int))=false:=aoU (by omega)
abbrev jD:Type:=Int×Int×Int×Int×List MT×Unit
def SSz(s:jD):Prop:=s.2.2.2.2.1.length≤4294967296∧∀m∈s.2.2.2.2.1,PSz m∧TH m
def Jm(l:List jD):Prop:=l.length≤1000∧∀s∈l,SSz s
theorem SSz.p{s:jD}(h:SSz s):PSs s.2.2.2.2.1:=⟨by have:=h.1;omega,fun m hm=>(h.2 m hm).1⟩
theorem Jm.at{l:List jD}(h:Jm l){i:Nat}{e:jD}(he:l[i]?=some e):SSz e:=h.2 e (aoX he)
def ag3(x:List LT)(t:Int)(s:jD):Bool:=decide (s.2.1≤t)&&(decide (t<s.2.2.1)&&allM s.2.2.2.2.1 x)
def OO(x:List LT)(t:Int)(a:Int×Bool)(s:jD):Int×Bool:=bif ag3 x t s&&(!a.2||decide (s.1<a.1))then(s.1,true)else a
def vT(x:List LT)(t:Int)(l:List jD):Int×Bool:=l.foldl (OO x t) (0,false)
theorem aa2(l:List jD)(hl:Jm l)(x:List LT)(hx:EY x)(t:Int):abS ((l,x,t,()),())=some (((vT x t l).1,(vT x t l).2,()),()):=by
 have h:=cB (f:=BA) l (fun i (a:Int×Bool)=>(((i:Int),a.1,a.2,x,t,l,(l.length:Int),()),())) (fun _ a e=>.inl (OO x t a e)) (fun a=>((a.2,a.1,()),())) ?_ ?_ (0,false)
 ·rw[kL]at h;unfold abS;exact aM _ h rfl
 ·intro i e ⟨a1,a2⟩ he hi;have hl1:=hl.1;have q:=sJ e.2.2.2.2.1 x (hl.at he).p hx;have hw:aP ((i:Int)+1)=((i+1:Nat):Int):=aI (by omega);unfold OO ag3;simp only[BA,aJ,aG he,bQ hi,q,aA,sS];cases decide (e.2.1≤t)<;>cases decide (t<e.2.2.1)<;>cases allM e.2.2.2.2.1 x<;>cases a2<;>cases decide (e.1<a1)<;>simp only[aA,sS,hw,apv,aps,apy,apm,aph,apf]
 ·intro a;simp only[BA,cO,aA,sS]
theorem aaT(l:List jD)(hl:Jm l)(x:List LT)(hx:EY x)(t:Int):aaM ((l,x,t,()),())=some (((vT x t l).1,(vT x t l).2,()),()):=by
 have h:=cB (f:=Ch) l (fun i (a:Int×Bool)=>(((i:Int),a.1,a.2,x,t,l,()),())) (fun _ a e=>.inl (OO x t a e)) (fun a=>((a.2,a.1,()),())) ?_ ?_ (0,false)
 ·rw[kL]at h;unfold aaM;exact aM _ h rfl
 ·intro i e ⟨a1,a2⟩ he hi;have hl1:=hl.1;have q:=rU e.2.2.2.2.1 x (hl.at he).p hx;have hw:aP ((i:Int)+1)=((i+1:Nat):Int):=aI (by omega);unfold OO ag3;simp only[Ch,aJ,aG he,bQ hi,q,aA,sS];cases decide (e.2.1≤t)<;>cases decide (t<e.2.2.1)<;>cases allM e.2.2.2.2.1 x<;>cases a2<;>cases decide (e.1<a1)<;>simp only[aA,sS,hw,apv,aps,apy,apm,aph,apf]
 ·intro a;simp only[Ch,cO,aA,sS]
theorem jG{E B:Type}(p:E→Bool)(b:Nat→B)(fin:B):∀(l:List E) (i:Nat),∃j,i≤j∧gu (fun i (_:Unit) e=>bif p e then .inr (b i)else .inl ()) (fun _=>fin) i l ()=bif l.any p then b j else fin:=by
 intro l
 induction l with
 |nil=>intro i;exact⟨i,ape _,rfl⟩
 |cons e r ih=>
  intro i;cases h:p e
  ·obtain⟨j,h1,h2⟩:=ih (i+1);refine⟨j,by omega,?_⟩;simp only[gu,h,apY,List.any_cons,apf];exact h2
  ·exact⟨i,ape _,by simp only[gu,h,cond_true,List.any_cons,apm]⟩
theorem Mq(m:MT)(hm:TH m):TW ((m,()),())=some ((!bB m,()),()):=by
 unfold TW;exact aM _ (Sm m hm) rfl
theorem wY{E:Type}(p:E→Bool)(l:List E):(l.any fun e=> !p e)= !l.all p:=by
 induction l with
 |nil=>rfl
 |cons e r ih=>rw[List.any_cons,List.all_cons,ih,Bool.not_and]
theorem Xb(ms:List MT)(hs:ms.length≤big)(hm:∀m∈ms,TH m):∃j:Nat,aC vM ((0,ms,(ms.length:Int),()),())=some (bif ms.all bB then .inr ((),())else .inl (((j:Int),()),())):=by
 have h:=cB (f:=vM) ms (fun i (_:Unit)=>(((i:Int),ms,(ms.length:Int),()),())) (fun i _ e=>bif !bB e then .inr (.inl (((i:Int),()),()))else .inl ()) (fun _=>.inr ((),())) ?_ ?_ ()
 ·obtain⟨j,_,hj⟩:=jG (fun e=> !bB e) (fun i:Nat=>(Sum.inl (((i:Int),()),()):((Int×Unit)×Unit)⊕(Unit×Unit))) (.inr ((),())) ms 0;refine⟨j,?_⟩;refine h.trans (congrArg some (hj.trans ?_));rw[wY];cases ms.all bB<;>rfl
 ·intro i e _ he hi;unfold big at hs;have hw:aP ((i:Int)+1)=((i+1:Nat):Int):=aI (by omega);simp only[vM,aJ,aG he,bQ hi,Mq e (hm e (aoX he)),aA,sS];cases bB e<;>simp only[aA,sS,hw,apv,aps]
 ·intro _;simp only[vM,cO,aA,sS]
theorem KA(ms:List MT)(hs:ms.length≤big)(hm:∀m∈ms,TH m):Ul ((ms,()),())=some ((ms.all bB,()),()):=by
 have h:=cB (f:=Bv) ms (fun i (_:Unit)=>(((i:Int),ms,()),())) (fun i _ e=>bif !bB e then .inr (.inl ((false,()),()))else .inl ()) (fun _=>.inr ((),())) ?_ ?_ ()
 ·obtain⟨j,_,hj⟩:=jG (fun e=> !bB e) (fun i:Nat=>(Sum.inl ((false,()),()):((Bool×Unit)×Unit)⊕(Unit×Unit))) (.inr ((),())) ms 0;unfold Ul;refine aM _ (h.trans (congrArg some hj)) ?_;rw[wY];cases ms.all bB<;>rfl
 ·intro i e _ he hi;unfold big at hs;have hw:aP ((i:Int)+1)=((i+1:Nat):Int):=aI (by omega);simp only[Bv,aJ,aG he,bQ hi,TS e (hm e (aoX he)),aA,sS];cases bB e<;>simp only[aA,sS,hw,apv,aps]
 ·intro _;simp only[Bv,cO,aA,sS]
def qo(last:Int)(s:jD):Int:=
 bif decide (s.1<1)||decide (s.1≤last)then 6
 else bif decide (s.2.1<0)||(decide (s.2.1≥s.2.2.1)||(decide (s.2.2.1>8589934592)||decide (s.2.2.2.1<0)))then 1
 else bif (s.2.2.2.2.1.length:Int)==0 then 7
 else bif decide ((s.2.2.2.2.1.length:Int)>8)then 5
 else bif s.2.2.2.2.1.all bB then 0 else 8
theorem acz(s:jD)(hs:SSz s)(last:Int):aak ((s,last,()),())=some ((qo last s,()),()):=by
 obtain⟨j,hj⟩:=Xb s.2.2.2.2.1 (by have:=hs.1;unfold big;omega) (fun m h=>(hs.2 m h).2);unfold aak qo;have hj0:decide ((j:Int)≥0)=true:=aoS (by omega);cases decide (s.1<1)<;>cases decide (s.1≤last)<;>simp only[aA,sS,apy,apm,aph,apf];cases decide (s.2.1<0)<;>simp only[aA,sS,apy,apm,aph,apf];cases decide (s.2.1≥s.2.2.1)<;>simp only[aA,sS,apy,apm,aph,apf];cases decide (s.2.2.1>8589934592)<;>simp only[aA,sS,apy,apm,aph,apf];cases decide (s.2.2.2.1<0)<;>simp only[aA,sS,apy,apm,aph,apf];cases ((s.2.2.2.2.1.length:Int)==0)<;>simp only[aA,sS];cases decide ((s.2.2.2.2.1.length:Int)>8)<;>simp only[aA,sS];rw[hj];cases s.2.2.2.2.1.all bB<;>simp only[aA,sS,hj0]
def P5:Int→List jD→Int
 |_,[]=>0
 |last,s::r=>bif qo last s !=0 then qo last s else P5 s.1 r
def Et(l:List jD):Int:=bif decide ((l.length:Int)>24)then 5 else P5 0 l
theorem Ph{B:Type}(f:Int→B)(fin:B):∀(l:List jD) (i:Nat) (last:Int),∃b,gu (fun _ last e=>bif qo last e !=0 then .inr (f (qo last e))else .inl e.1) (fun _=>fin) i l last=b∧(P5 last l=0∧b=fin∨P5 last l≠0∧b=f (P5 last l)):=by
 intro l
 induction l with
 |nil=>intro i last;exact⟨fin,rfl,.inl ⟨rfl,rfl⟩⟩
 |cons s r ih=>
  intro i last;cases h:(qo last s !=0)
  ·obtain⟨b,h1,h2⟩:=ih (i+1) s.1;refine⟨b,?_,?_⟩
   ·simp only[gu,h,apY];exact h1
   ·simp only[P5,h,apY];exact h2
  ·refine⟨f (qo last s),?_,.inr ⟨?_,?_⟩⟩
   ·simp only[gu,h,cond_true]
   ·simp only[P5,h,cond_true];exact apO.1 h
   ·simp only[P5,h,cond_true]
theorem afQ(l:List jD)(hl:Jm l):m81 ((l,()),())=some ((Et l,()),()):=by
 unfold m81 Et;cases decide ((l.length:Int)>24)
 ·simp only[aA,sS];have h:=cB (f:=FB) l (fun i (last:Int)=>(((i:Int),last,l,(l.length:Int),()),())) (fun _ last e=>bif qo last e !=0 then .inr (.inl ((qo last e,()),()))else .inl e.1) (fun _=>.inr ((),())) ?_ ?_ 0
  ·obtain⟨b,h1,h2⟩:=Ph (fun c:Int=>(Sum.inl ((c,()),()):((Int×Unit)×Unit)⊕(Unit×Unit))) (.inr ((),())) l 0 0;refine aM b (h.trans (congrArg some h1)) ?_;rcases h2 with⟨e1,rfl⟩|⟨e1,rfl⟩
   ·rw[e1]
   ·rfl
  ·intro i e last he hi;have hl1:=hl.1;have hw:aP ((i:Int)+1)=((i+1:Nat):Int):=aI (by omega);simp only[FB,aJ,aG he,bQ hi,acz e (hl.at he) last,aA,sS];cases qo last e !=0<;>simp only[aA,sS,hw]
  ·intro _;simp only[FB,cO,aA,sS]
 ·simp only[aA,sS]
theorem afH (l:List jD) (hl:Jm l):m87 ((l,()),())=some ((Et l,()),()):=by
 unfold m87 Et;cases decide ((l.length:Int)>24)
 ·simp only[aA,sS];have h:=wZ (f:=EX) l (fun i (last:Int)=>(((i:Int),l,()),())) (fun _ last e=>bif qo last e !=0 then .inr (.inl ((qo last e,()),()))else .inl e.1) (fun _=>.inr ((),()))
   (fun i last=>(i=0∧last=0)∨∃e,0<i∧l[i-1]?=some e∧last=e.1) ?_ ?_ ?_ l.length 0 0 (by omega) (.inl ⟨rfl,rfl⟩)
  ·rw[ap2]at h;obtain⟨b,h1,h2⟩:=Ph (fun c:Int=>(Sum.inl ((c,()),()):((Int×Unit)×Unit)⊕(Unit×Unit))) (.inr ((),())) l 0 0;refine aM b (h.trans (congrArg some h1)) ?_;rcases h2 with⟨e1,rfl⟩|⟨e1,rfl⟩
   ·rw[e1]
   ·rfl
  ·intro i e last he hi hI;have hl1:=hl.1;have hw:aP ((i:Int)+1)=((i+1:Nat):Int):=aI (by omega);have hz:=hl.at he;have q:=KA e.2.2.2.2.1 (by have:=hz.1;unfold big;omega) (fun m h=>(hz.2 m h).2)
   have key:((bif (decide (e.1<1))then(some ((true,(l,((i:Int),()))),((e,()),())))else(bif (decide ((i:Int)>0))then(Abs.rowAt l (aP ((i:Int)-1)) fun e60 _=>some ((decide (e.1≤e60.1),(l,((i:Int),()))),((e,()),())))else some ((false,(l,((i:Int),()))),((e,()),())))):Option ((Bool×List jD×Int×Unit)×((jD×Unit)×Unit)))=some ((decide (e.1<1)||decide (e.1≤last),(l,((i:Int),()))),((e,()),())):=by
    rcases hI with⟨rfl,rfl⟩|⟨p,h0,hp,rfl⟩
    ·cases h1:decide (e.1<1)
     ·have:=aqs h1;rw[aoU (show¬ e.1≤0 by omega)];rfl
     ·rfl
    ·cases h1:decide (e.1<1)
     ·have hw1:aP ((i:Int)-1)=((i-1:Nat):Int):=by rw[bH (by omega) (by omega)];omega
      simp only[aoS (show(i:Int)>0 by omega),aJ,hw1,aG hp,aA,sS,apf]
     ·rfl
   simp only[EX,aJ,aG he,bQ hi,aA,sS];simp only[aJ]at key;refine aM _ key ?_;unfold qo;simp only[q,aA,sS];cases decide (e.1<1)||decide (e.1≤last)<;>simp only[aA,sS]
   ·cases decide (e.2.1<0)<;>simp only[aA,sS,apy,apm,aph,apf]
    ·cases decide (e.2.1≥e.2.2.1)<;>simp only[aA,sS,apy,apm,aph,apf]
     ·cases decide (e.2.2.1>8589934592)<;>simp only[aA,sS,apy,apm,aph,apf]
      ·cases decide (e.2.2.2.1<0)<;>simp only[aA,sS,apy,apm,aph,apf]
       ·cases ((e.2.2.2.2.1.length:Int)==0)<;>simp only[aA,sS]
        ·cases decide ((e.2.2.2.2.1.length:Int)>8)<;>simp only[aA,sS]
         ·rw[q];cases e.2.2.2.2.1.all bB<;>simp only[aA,sS,hw,apv,aps]<;>rfl
         ·rfl
        ·rfl
       ·rfl
      ·rfl
     ·rfl
    ·rfl
   ·rfl
  ·intro i e s s' he hI hs;refine .inr ⟨e,by omega,by rw[Nat.add_sub_cancel];exact he,?_⟩;cases hc:(qo s e !=0)<;>rw[hc]at hs<;>simp only[cond_true,apY]at hs
   ·exact(Sum.inl.inj hs).symm
   ·cases hs
  ·intro _ _;simp only[EX,cO,aA,sS]
 ·simp only[aA,sS]
theorem ack(l:List jD)(hl:Jm l):Vu ((l,()),())=some ((),(l,())):=by
 have hl1:=hl.1;have h:=dL (f:=BK) l (fun i=>(((i:Int),(l.length:Int),()),(l,()))) ((),(l,())) ?_ ?_
 ·unfold Vu afB;have hb:decide (l.length≤4294967296)=true:=aoS (by omega);simp only[hb,aA,sS];exact aM _ h rfl
 ·intro i e he hi;have hw:aP ((i:Int)+1)=((i+1:Nat):Int):=aI (by omega);have hb:decide ((0:Int)≤(i:Int)∧(i:Int)<(l.length:Int))=true:=aoS (by omega);have hc:decide (e.2.2.2.2.1.length≤4294967296)=true:=aoS (hl.at he).1
  have hs:l.set i (e.1,(e.2.1,(e.2.2.1,(e.2.2.2.1,(e.2.2.2.2.1,())))))=l:=by
   obtain⟨hlt,rfl⟩:=aoT.1 he;exact List.set_getElem_self hlt
  simp only[BK,afg,bQ hi,hb,aoV,he,hc,hs,hw,aA,sS]
 ·simp only[BK,cO,aA,sS]
theorem acn:∀(l:List jD) (last:Int),P5 last l=0→∀s∈l,last<s.1:=by
 intro l
 induction l with
 |nil=>intro last _ s hs;cases hs
 |cons e r ih=>
  intro last h s hs;unfold P5 at h;cases hc:(qo last e !=0)
  ·rw[hc]at h;simp only[apY]at h;have h0:qo last e=0:=by simpa using hc
   have hlt:last<e.1:=by
    unfold qo at h0;cases h1:decide (e.1≤last)
    ·have:=aqs h1;omega
    ·rw[h1,apy]at h0;cases h0
   rcases apD.1 hs with rfl|hs
   ·exact hlt
   ·have:=ih _ h s hs;omega
  ·rw[hc]at h;simp only[cond_true]at h;rw[h]at hc;cases hc
theorem UN:∀(a:List jD) (last:Int) (s:jD) (b:List jD),P5 last (a++s::b)=0→∀y∈b,s.1<y.1:=by
 intro a
 induction a with
 |nil=>
  intro last s b h;rw[aq3]at h;unfold P5 at h;cases hc:(qo last s !=0)
  ·rw[hc]at h;exact acn b s.1 h
  ·rw[hc]at h;simp only[cond_true]at h;rw[h]at hc;cases hc
 |cons e r ih=>
  intro last s b h;rw[aqr]at h;unfold P5 at h;cases hc:(qo last e !=0)
  ·rw[hc]at h;exact ih e.1 s b h
  ·rw[hc]at h;simp only[cond_true]at h;rw[h]at hc;cases hc
theorem afd{l:List jD}(h:Et l=0):P5 0 l=0∧l.length≤24:=by
 unfold Et at h;cases hc:decide ((l.length:Int)>24)
 ·rw[hc]at h;exact⟨h,by have:=aqs hc;omega⟩
 ·rw[hc]at h;cases h
theorem Xa(l:List jD)(hl:Jm l):m53 ((l,l,()),())=some ((true,()),()):=by
 have hl1:=hl.1;have h:=dL (f:=Fb) l (fun i=>(((i:Int),l,l,()),())) (.inr ((),())) ?_ ?_
 ·unfold m53;simp only[aA,sS];exact aM _ h rfl
 ·intro i e he hi;have hw:aP ((i:Int)+1)=((i+1:Nat):Int):=aI (by omega);have hz:=(hl.at he).1;have h2:=dL (f:=Ac) e.2.2.2.2.1 (fun j=>(((j:Int),l,l,(i:Int),()),((e,()),((e,()),())))) (.inr ((l,l,(i:Int),()),())) ?_ ?_
  ·simp only[Fb,bQ hi,aJ,aG he,aA,sS];refine aM _ h2 ?_;simp only[hw]
  ·intro j m hj hji;have hw2:aP ((j:Int)+1)=((j+1:Nat):Int):=aI (by omega)
   have h1:∀b:ByteArray,(b==b)=true:=fun b=>by
    show(b.data==b.data)=true
    exact apW _
   simp only[Ac,bQ hji,aJ,aG hj,hw2,h1,apW,Bool.and_self,apv,aA,sS]
  ·simp only[Ac,cO,aA,sS]
 ·simp only[Fb,cO,aA,sS]
def GoodS(s:jD):Prop:=0≤s.2.1∧s.2.1<s.2.2.1∧s.2.2.1≤2000∧0≤s.2.2.2.1∧s.2.2.2.2.1≠ []∧s.2.2.2.2.1.length≤8∧∀m∈s.2.2.2.2.1,mQ m
theorem GoodS.z{s:jD}(h:GoodS s):SSz s:=⟨by have:=h.2.2.2.2.2.1;omega,fun m hm=>⟨(h.2.2.2.2.2.2 m hm).p,(h.2.2.2.2.2.2 m hm).z⟩⟩
theorem JE{l:List MT}(h:∀m∈l,mQ m):l.all bB=true:=ap7.2 fun m hm=>(h m hm).1
def KV(l:List jD):Prop:=l.length≤3∧P5 0 l=0∧∀s∈l,s.1≤2*(l.length:Int)∧GoodS s
theorem KV.iQ{l:List jD}(h:KV l):Et l=0:=by
 unfold Et;rw[aoU (by have:=h.1;omega),apY,h.2.1]
theorem KV.z{l:List jD}(h:KV l):Jm l:=⟨by have:=h.1;omega,fun s hs=>(h.2.2 s hs).2.z⟩
def sP{E:Type}(bad:Option E→E→Bool):Option E→List E→Bool
 |_,[]=>true
 |p,e::r=> !bad p e&&sP bad (some e) r
theorem jR{A B E:Type}{f:A→Option (A⊕B)}(l:List E)(st:Nat→A)(bad:Option E→E→Bool)(no yes:B)
  (h1:∀i e,l[i]?=some e→i<l.length→f (st i)=some (bif bad (if i=0 then none else l[i-1]?) e then .inr no else .inl (st (i+1)))) (h2:f (st l.length)=some (.inr yes)):
  aC f (st 0)=some (bif sP bad none l then yes else no):=by
 have key:∀(k i:Nat),i+k=l.length→aC f (st i)=some (bif sP bad (if i=0 then none else l[i-1]?) (l.drop i)then yes else no):=by
  intro k
  induction k with
  |zero=>
   intro i h;obtain rfl:i=l.length:=by omega
   rw[apP];exact aD h2
  |succ k ih=>
   intro i h;obtain⟨e,he,hd⟩:=drop_at (l:=l) (i:=i) (by omega);have q:=h1 i e he (by omega);rw[hd];unfold sP;cases hb:bad (if i=0 then none else l[i-1]?) e
   ·rw[hb]at q;have:=ih (i+1) (by omega);rw[if_neg (by omega),Nat.add_sub_cancel,he]at this;rw[aps,apB,←this];exact aK q
   ·rw[hb]at q;exact aD q
 have:=key l.length 0 (by omega);rw[ap2]at this;exact this
theorem jv{E:Type}{l:List E}{i:Nat}(hi:i<l.length):i=0∨∃p,0<i∧l[i-1]?=some p∧(i≤9223372036854775807→aP ((i:Int)-1)=((i-1:Nat):Int)):=by
 by_cases h:i=0
 ·exact .inl h
 ·obtain⟨p,hp⟩:=getD_some (l:=l) (i:=i-1) (by omega);exact .inr ⟨p,by omega,hp,fun hb=>by rw[bH (by omega) (by omega)];omega⟩
def leB(a b:ByteArray):Bool:=Op.bytesLess a.toList b.toList||a.toList==b.toList
def Ii(p:Option ByteArray)(k:ByteArray):Bool:= !mr k||(match p with|none=>false|some q=>leB k q)
def jB(l:List ByteArray):Bool:=sP Ii none l
theorem abH(s:ByteArray)(hs:s.size≤big):aaP ((s,()),())=some ((mr s,()),()):=by
 unfold aaP;exact aM _ (Lf s hs) rfl
theorem Tg(l:List ByteArray)(hl:l.length≤big)(hs:∀k∈l,k.size≤big):WL ((l,()),())=some ((jB l,()),()):=by
 have h:=jR (f:=vI) l (fun i=>(((i:Int),l,l,(l.length:Int),()),())) Ii (.inl ((false,()),())) (.inr ((),())) ?_ ?_
 ·unfold WL;refine aM _ h ?_;unfold jB;cases sP Ii none l<;>rfl
 ·intro i e he hi;unfold big at hl;have hw:aP ((i:Int)+1)=((i+1:Nat):Int):=aI (by omega);have q:=abH e (hs e (aoX he));rcases jv hi with h0|⟨p,h0,hp,hp1⟩
  ·rw[if_pos h0];have:decide ((i:Int)>0)=false:=aoU (by omega);unfold Ii;simp only[vI,aJ,aG he,bQ hi,q,this,aA,sS];cases mr e<;>simp only[aA,sS,hw,aph]
  ·rw[if_neg (by omega),hp];have:decide ((i:Int)>0)=true:=aoS (by omega);unfold Ii leB;simp only[vI,aJ,aG he,bQ hi,q,this,hp1 (by omega),aG hp,aA,sS];cases mr e<;>cases Op.bytesLess e.toList p.toList||e.toList==p.toList<;>simp only[aA,sS,hw,aph,apy]
 ·simp only[vI,cO,aA,sS]
theorem Tj(l:List ByteArray)(hl:l.length≤big)(hs:∀k∈l,k.size≤big):Xc ((l,()),())=some ((jB l,()),()):=by
 have h:=jR (f:=uO) l (fun i=>(((i:Int),l,()),())) Ii (.inl ((false,()),())) (.inr ((),())) ?_ ?_
 ·unfold Xc;refine aM _ h ?_;unfold jB;cases sP Ii none l<;>rfl
 ·intro i e he hi;unfold big at hl;have hw:aP ((i:Int)+1)=((i+1:Nat):Int):=aI (by omega);have q:=Km e (hs e (aoX he));rcases jv hi with h0|⟨p,h0,hp,hp1⟩
  ·rw[if_pos h0];have:decide ((i:Int)>0)=false:=aoU (by omega);unfold Ii;simp only[uO,aJ,aG he,bQ hi,q,this,aA,sS];cases mr e<;>simp only[aA,sS,hw,aph]
  ·rw[if_neg (by omega),hp];have:decide ((i:Int)>0)=true:=aoS (by omega);unfold Ii leB;simp only[uO,aJ,aG he,bQ hi,q,this,hp1 (by omega),aG hp,aA,sS];cases mr e<;>cases Op.bytesLess e.toList p.toList||e.toList==p.toList<;>simp only[aA,sS,hw,aph,apy]
 ·simp only[uO,cO,aA,sS]
def Mj{E:Type}(iQ:E→Int):List E→Int
 | []=>0
 |e::r=>bif iQ e !=0 then iQ e else Mj iQ r
theorem zi{A B E:Type}{f:A→Option (A⊕B)}(l:List E)(st:Nat→A)(iQ:E→Int)(no:Int→B)(yes:B)
  (h1:∀i e,l[i]?=some e→i<l.length→f (st i)=some (bif iQ e !=0 then .inr (no (iQ e))else .inl (st (i+1)))) (h2:f (st l.length)=some (.inr yes)):
  aC f (st 0)=some (bif Mj iQ l !=0 then no (Mj iQ l)else yes):=by
 have key:∀(k i:Nat),i+k=l.length→aC f (st i)=some (bif Mj iQ (l.drop i) !=0 then no (Mj iQ (l.drop i))else yes):=by
  intro k
  induction k with
  |zero=>
   intro i h;obtain rfl:i=l.length:=by omega
   rw[apP];exact aD h2
  |succ k ih=>
   intro i h;obtain⟨e,he,hd⟩:=drop_at (l:=l) (i:=i) (by omega);have q:=h1 i e he (by omega);rw[hd];unfold Mj;cases hb:(iQ e !=0)
   ·rw[hb]at q;rw[apY,←ih (i+1) (by omega)];exact aK q
   ·rw[hb]at q;rw[cond_true,hb];exact aD q
 have:=key l.length 0 (by omega);rw[ap2]at this;exact this
def TSz(r:y8):Prop:=(r.1.length≤big∧∀m∈r.1,TH m)∧(r.2.1.length≤big∧∀m∈r.2.1,TH m)∧r.2.2.1.length≤big∧∀k∈r.2.2.1,k.size≤big
def CX(r:y8):Int:=
 bif (r.1.length:Int)==0||(r.2.1.length:Int)==0 then 7
 else bif decide ((r.1.length:Int)>8)||(decide ((r.2.1.length:Int)>8)||decide ((r.2.2.1.length:Int)>12))then 5
 else bif !r.1.all bB||(!r.2.1.all bB|| !jB r.2.2.1)then 8 else 0
def wR(l:List y8):Int:=bif decide ((l.length:Int)>12)then 5 else Mj CX l
theorem O6(ms:List MT)(hs:ms.length≤big)(hm:∀m∈ms,TH m):∃j:Nat,aC wB ((0,ms,(ms.length:Int),()),())=some (bif ms.all bB then .inr ((),())else .inl (((j:Int),()),()))∧
  aC vX ((0,ms,(ms.length:Int),()),())=some (bif ms.all bB then .inr ((),())else .inl (((j:Int),()),())):=by
 have h:=cB (f:=wB) ms (fun i (_:Unit)=>(((i:Int),ms,(ms.length:Int),()),())) (fun i _ e=>bif !bB e then .inr (.inl (((i:Int),()),()))else .inl ()) (fun _=>.inr ((),())) ?_ ?_ ();have g:=cB (f:=vX) ms (fun i (_:Unit)=>(((i:Int),ms,(ms.length:Int),()),())) (fun i _ e=>bif !bB e then .inr (.inl (((i:Int),()),()))else .inl ()) (fun _=>.inr ((),())) ?_ ?_ ()
 ·obtain⟨j,_,hj⟩:=jG (fun e=> !bB e) (fun i:Nat=>(Sum.inl (((i:Int),()),()):((Int×Unit)×Unit)⊕(Unit×Unit))) (.inr ((),())) ms 0
  have hh:(bif (ms.any fun e=> !bB e)then(Sum.inl (((j:Int),()),()):((Int×Unit)×Unit)⊕(Unit×Unit))else .inr ((),()))=(bif ms.all bB then .inr ((),())else .inl (((j:Int),()),())):=by
   rw[wY];cases ms.all bB<;>rfl
  exact⟨j,h.trans (congrArg some (hj.trans hh)),g.trans (congrArg some (hj.trans hh))⟩
 ·intro i e _ he hi;unfold big at hs;have hw:aP ((i:Int)+1)=((i+1:Nat):Int):=aI (by omega);simp only[vX,aJ,aG he,bQ hi,Mq e (hm e (aoX he)),aA,sS];cases bB e<;>simp only[aA,sS,hw,apv,aps]
 ·intro _;simp only[vX,cO,aA,sS]
 ·intro i e _ he hi;unfold big at hs;have hw:aP ((i:Int)+1)=((i+1:Nat):Int):=aI (by omega);simp only[wB,aJ,aG he,bQ hi,Mq e (hm e (aoX he)),aA,sS];cases bB e<;>simp only[aA,sS,hw,apv,aps]
 ·intro _;simp only[wB,cO,aA,sS]
theorem abQ(r:y8)(hr:TSz r):ac5 ((r,()),())=some ((CX r,()),()):=by
 obtain⟨⟨a1,a2⟩,⟨b1,b2⟩,c1,c2⟩:=hr;obtain⟨j,hj,_⟩:=O6 r.1 a1 a2;obtain⟨k,_,hk⟩:=O6 r.2.1 b1 b2;have q:=Tg r.2.2.1 c1 c2;have hj0:decide ((j:Int)≥0)=true:=aoS (by omega);have hk0:decide ((k:Int)≥0)=true:=aoS (by omega);unfold ac5 CX;cases ((r.1.length:Int)==0)<;>simp only[aA,sS,apy,apm,aph,apf];cases ((r.2.1.length:Int)==0)<;>simp only[aA,sS,apy,apm,aph,apf];cases decide ((r.1.length:Int)>8)<;>simp only[aA,sS,apy,apm,aph,apf];cases decide ((r.2.1.length:Int)>8)<;>simp only[aA,sS,apy,apm,aph,apf];cases decide ((r.2.2.1.length:Int)>12)<;>simp only[aA,sS,apy,apm,aph,apf];rw[hj,hk];cases r.1.all bB<;>simp only[aA,sS,hj0,q,apv,aps,apy,apm,aph,apf];cases r.2.1.all bB<;>simp only[aA,sS,hk0,apv,aps,apy,apm,aph,apf];cases jB r.2.2.1<;>simp only[aA,sS,apv,aps]
theorem aeD(l:List y8)(hl:l.length≤big)(hr:∀r∈l,TSz r):m79 ((l,()),())=some ((wR l,()),()):=by
 unfold m79 wR;cases decide ((l.length:Int)>12)
 ·simp only[aA,sS];have h:=zi (f:=F9) l (fun i=>(((i:Int),l,(l.length:Int),()),())) CX (fun c=>.inl ((c,()),())) (.inr ((),())) ?_ ?_
  ·refine aM _ h ?_;cases hc:(Mj CX l !=0)
   ·have:Mj CX l=0:=by simpa using hc
    rw[this];rfl
   ·rfl
  ·intro i e he hi;unfold big at hl;have hw:aP ((i:Int)+1)=((i+1:Nat):Int):=aI (by omega);simp only[F9,aJ,aG he,bQ hi,abQ e (hr e (aoX he)),aA,sS];cases CX e !=0<;>simp only[aA,sS,hw]
  ·simp only[F9,cO,aA,sS]
 ·simp only[aA,sS]
theorem agw (l:List y8) (hl:l.length≤big) (hr:∀r∈l,TSz r):m80 ((l,()),())=some ((wR l,()),()):=by
 unfold m80 wR;cases decide ((l.length:Int)>12)
 ·simp only[aA,sS];have h:=zi (f:=Fu) l (fun i=>(((i:Int),l,()),())) CX (fun c=>.inl ((c,()),())) (.inr ((),())) ?_ ?_
  ·refine aM _ h ?_;cases hc:(Mj CX l !=0)
   ·have:Mj CX l=0:=by simpa using hc
    rw[this];rfl
   ·rfl
  ·intro i e he hi;unfold big at hl;have hw:aP ((i:Int)+1)=((i+1:Nat):Int):=aI (by omega);obtain⟨⟨a1,a2⟩,⟨b1,b2⟩,c1,c2⟩:=hr e (aoX he);have q1:=KA e.1 a1 a2;have q2:=KA e.2.1 b1 b2;have q3:=Tj e.2.2.1 c1 c2;unfold CX;simp only[Fu,aJ,aG he,bQ hi,aA,sS];cases ((e.1.length:Int)==0)<;>simp only[aA,sS,apy,apm,aph,apf]
   ·cases ((e.2.1.length:Int)==0)<;>simp only[aA,sS,apy,apm,aph,apf]
    ·cases decide ((e.1.length:Int)>8)<;>simp only[aA,sS,apy,apm,aph,apf]
     ·cases decide ((e.2.1.length:Int)>8)<;>simp only[aA,sS,apy,apm,aph,apf]
      ·cases decide ((e.2.2.1.length:Int)>12)<;>simp only[aA,sS,q1,q2,q3,apy,apm,aph,apf]
       ·cases e.1.all bB<;>simp only[aA,sS,apv,aps,apy,apm,aph,apf]
        ·rfl
        ·cases e.2.1.all bB<;>simp only[aA,sS,apv,aps,apy,apm,aph,apf]
         ·rfl
         ·cases jB e.2.2.1<;>simp only[aA,sS,hw,apv,aps]<;>rfl
       ·rfl
      ·rfl
     ·rfl
    ·rfl
   ·rfl
  ·simp only[Fu,cO,aA,sS]
 ·simp only[aA,sS]
theorem ac7(r:List y8)(hr:VU r)(l:List jD)(hl:Jm l)(x:List LT)(hx:EY x)(f:List (List LT))(hf:Vw f)(t:Int):ZV ((r,l,x,f,t,()),())=some (((vT x t l).2||ou r x f,()),()):=by
 unfold ZV;simp only[aa2 l hl x hx,abR r hr x hx f hf,aA,sS];cases (vT x t l).2<;>rfl
theorem aft(r:List y8)(hr:VU r)(l:List jD)(hl:Jm l)(x:List LT)(hx:EY x)(f:List (List LT))(hf:Vw f)(t:Int):m95 ((r,l,x,f,t,()),())=some (((vT x t l).2||ou r x f,()),()):=by
 unfold m95;simp only[aaT l hl x hx,aaB r hr x hx f hf,aA,sS];cases (vT x t l).2<;>rfl
theorem Za(a b:ByteArray):bl (a++b)=bl a++bl b:=by
 show(a++b).data.toList=_
 rw[ByteArray.data_append,Array.toList_append]
theorem Yu(a b:ByteArray):(a++b).size=a.size+b.size:=ByteArray.size_append
theorem lV(a b:List UInt8):gL a++gL b=gL (a++b):=Ie (by rw[Za,Jy,Jy,Jy])
theorem afR(s:ByteArray)(b:List UInt8):s++gL b=gL (bl s++b):=Ie (by rw[Za,Jy,Jy])
def GL(p:Option LT)(x:LT):Bool:= !mr x.1||(!yj x.2.1||(x.2.1.toList==ByteArray.empty.toList||(match p with|none=>false|some q=>leB x.1 q.1)))
def dh(l:List LT):Bool:= !decide ((l.length:Int)>12)&&sP GL none l
def Eu(l:List LT):Prop:=l.length≤big∧∀x∈l,x.1.size≤big∧x.2.1.size≤big
theorem CP(l:List LT)(hl:Eu l):m66 ((l,()),())=some ((dh l,()),()):=by
 unfold m66 dh;cases hc:decide ((l.length:Int)>12)
 ·simp only[aA,sS];have h:=jR (f:=Af) l (fun i=>(((i:Int),l,l,(l.length:Int),()),())) GL (.inl ((false,()),())) (.inr ((),())) ?_ ?_
  ·refine aM _ h ?_;cases sP GL none l<;>rfl
  ·intro i e he hi;have hl1:=hl.1;unfold big at hl1;have hw:aP ((i:Int)+1)=((i+1:Nat):Int):=aI (by omega);obtain⟨z1,z2⟩:=hl.2 e (aoX he);have q1:=Lf e.1 z1;have q2:=SF e.2.1 z2;rcases jv hi with h0|⟨p,h0,hp,hp1⟩
   ·rw[if_pos h0];have:decide ((i:Int)>0)=false:=aoU (by omega);unfold GL;simp only[Af,aJ,aG he,bQ hi,q1,q2,this,aA,sS];cases mr e.1<;>cases yj e.2.1<;>cases (e.2.1.toList==ByteArray.empty.toList)<;>simp only[aA,sS,hw,aph,apy,apf,apm]
   ·rw[if_neg (by omega),hp];have:decide ((i:Int)>0)=true:=aoS (by omega);unfold GL leB;simp only[Af,aJ,aG he,bQ hi,q1,q2,this,hp1 (by omega),aG hp,aA,sS];cases mr e.1<;>cases yj e.2.1<;>cases (e.2.1.toList==ByteArray.empty.toList)<;>cases Op.bytesLess e.1.toList p.1.toList||e.1.toList==p.1.toList<;>simp only[aA,sS,hw,aph,apy,apf,apm]
  ·simp only[Af,cO,aA,sS]
 ·simp only[aA,sS]
theorem Db(l:List LT)(hl:Eu l):m57 ((l,()),())=some ((dh l,()),()):=by
 unfold m57 dh;cases hc:decide ((l.length:Int)>12)
 ·simp only[aA,sS];have h:=jR (f:=Av) l (fun i=>(((i:Int),l,()),())) GL (.inl ((false,()),())) (.inr ((),())) ?_ ?_
  ·refine aM _ h ?_;cases sP GL none l<;>rfl
  ·intro i e he hi;have hl1:=hl.1;unfold big at hl1;have hw:aP ((i:Int)+1)=((i+1:Nat):Int):=aI (by omega);obtain⟨z1,z2⟩:=hl.2 e (aoX he);have q1:=Km e.1 z1;have q2:=RD e.2.1 z2;rcases jv hi with h0|⟨p,h0,hp,hp1⟩
   ·rw[if_pos h0];have:decide ((i:Int)>0)=false:=aoU (by omega);unfold GL;simp only[Av,aJ,aG he,bQ hi,q1,q2,this,aA,sS];cases mr e.1<;>cases yj e.2.1<;>cases (e.2.1.toList==ByteArray.empty.toList)<;>simp only[aA,sS,hw,aph,apy,apf,apm]
   ·rw[if_neg (by omega),hp];have:decide ((i:Int)>0)=true:=aoS (by omega);unfold GL leB;simp only[Av,aJ,aG he,bQ hi,q1,q2,this,hp1 (by omega),aG hp,aA,sS];cases mr e.1<;>cases yj e.2.1<;>cases (e.2.1.toList==ByteArray.empty.toList)<;>cases Op.bytesLess e.1.toList p.1.toList||e.1.toList==p.1.toList<;>simp only[aA,sS,hw,aph,apy,apf,apm]
  ·simp only[Av,cO,aA,sS]
 ·simp only[aA,sS]
theorem EQ{E:Type}{bad:Option E→E→Bool}:∀{l:List E} {p:Option E},sP bad p l=true→∀x∈l,∃q,bad q x=false
 | [],_,_,x,hx=>by cases hx
 |e::r,p,h,x,hx=>by
  unfold sP at h;rw[apo]at h;rcases apD.1 hx with rfl|hx
  ·exact⟨p,by simpa using h.1⟩
  ·exact EQ h.2 x hx
theorem abu{q:Option LT}{x:LT}(h:GL q x=false):mr x.1=true∧yj x.2.1=true∧x.2.1≠ByteArray.empty:=by
 unfold GL at h;simp only[apM]at h;refine⟨by simpa using h.1,by simpa using h.2.1,fun e=> ?_⟩;rw[e]at h;simp at h
theorem fQ{l:List LT}(h:dh l=true):l.length≤12∧∀x∈l,mr x.1=true∧yj x.2.1=true∧x.2.1≠ByteArray.empty:=by
 unfold dh at h;rw[apo]at h;refine⟨?_,fun x hx=> ?_⟩
 ·have:decide ((l.length:Int)>12)=false:=by simpa using h.1
  have:=aqs this;omega
 ·obtain⟨q,hq⟩:=EQ h.2 x hx;exact abu hq
theorem EO{s:ByteArray}(h:mr s=true):s.size≤24:=by
 have:=(abO (s:=bl s) h).2.1
 rwa [bJ]at this
theorem xU{s:ByteArray}(h:yj s=true):s.size≤64:=by
 have h:abw (bl s)=true:=h;unfold abw at h;rw[apo]at h;have:=apd h.2
 rwa [bJ]at this
theorem TL:∀(a b:List UInt8),esc (a++b)=esc a++esc b
 | [],b=>rfl
 |c::a,b=>by
  rw[aqr];simp only[esc];rw[TL a b];split<;>rfl
theorem FU(s:ByteArray):(kV s).size≤2*s.size+2:=by
 unfold kV;rw[size_mk];have:=xV s.data.toList;have e:s.data.toList.length=s.size:=bJ s;simp;omega
theorem acE(s:ByteArray)(hs:s.size≤1048576):aaH ((s,()),())=some ((kV s,()),()):=by
 have h:=lS (f:=vK) (Q:=fun b=>b=((gL (34::esc (bl s)),()),())) (fun i st=>st=(((i:Int),s,gL (34::esc ((bl s).take i)),()),())) s.size ?_ ?_ _ rfl
 ·obtain⟨b,h1,rfl⟩:=h;unfold aaH;refine aM _ (show aC vK ((0,s,bs [34],()),())=_ from h1) ?_;have hl:=xV (bl s);rw[bJ]at hl;have hb:decide ((gL (34::esc (bl s))).size+1≤4294967296)=true:=aoS (by rw[size_mk,ap9];omega);simp only[hb,aA,sS];unfold kV;rw[show bs [34]=gL [34]from rfl,lV];rfl
 ·rintro i _ hi rfl;obtain⟨c,hc⟩:=getD_some (l:=bl s) (i:=i) (by rw[bJ];exact hi);have hlt:decide ((i:Int)<(s.size:Int))=true:=aoS (by omega);have hbd:decide ((0:Int)≤(i:Int)∧(i:Int)<(s.size:Int))=true:=aoS (by omega);have hw:aP ((i:Int)+1)=((i+1:Nat):Int):=aI (by omega);have h0:decide ((0:Int)≤(i:Int))=true:=aoS (by omega);have h1:decide ((0:Int)≤((i+1:Nat):Int))=true:=aoS (by omega);have h2:decide (i≤i+1∧i+1≤s.size)=true:=aoS (by omega)
  have hx:s.extract i (i+1)=gL [c]:=Ie (by
   have hcl:i<(bl s).length:=by rw[bJ];exact hi
   rw[oG,Jy,List.drop_eq_getElem_cons hcl,show i+1-i=1 by omega,List.take_succ_cons,aq6];rw[(aoT.1 hc).2])
  have htk:(bl s).take (i+1)=(bl s).take i++ [c]:=by rw[aq0,hc];rfl
  have hl:=xV ((bl s).take i);rw[apq]at hl;have hsz:∀b:List UInt8,b.length≤2→decide ((gL (34::(esc ((bl s).take i)++b))).size+1≤4294967296)=true:=fun b hb=>aoS (by rw[size_mk];simp;omega)
  have hs0:decide ((gL (34::esc ((bl s).take i))).size+1≤4294967296)=true:=by have:=hsz [] (by simp);rwa [ap6]at this
  have hs1:(gL [c]).size=1:=rfl
  have hs92:gL (34::esc ((bl s).take i))++bs [92]=gL (34::(esc ((bl s).take i)++ [92])):=by
   rw[show bs [92]=gL [92]from rfl,lV];rfl
  have e34:(u8 c==34)=decide (c=34):=by
   by_cases h:c=34
   ·subst h;rfl
   ·rw[aoU h];exact apn.2 fun e=>h (UInt8.toNat_inj.1 (by unfold u8 at e;show c.toNat=34;omega))
  have e92:(u8 c==92)=decide (c=92):=by
   by_cases h:c=92
   ·subst h;rfl
   ·rw[aoU h];exact apn.2 fun e=>h (UInt8.toNat_inj.1 (by unfold u8 at e;show c.toNat=92;omega))
  refine⟨_,?_,rfl⟩;rw[htk,TL];simp only[vK,hlt,hbd,byte_at hc,e34,e92,aA,sS];by_cases c34:c=34
  ·have he:esc [c]=[92,c]:=by simp[esc,c34]
   simp only[aoS c34,aA,sS,hs0,hs92,h0,hw,h1,aoV,h2,hx,hs1,hsz [92] (by simp),lV,he];simp
  ·by_cases c92:c=92
   ·have he:esc [c]=[92,c]:=by simp[esc,c92]
    simp only[aoU c34,aoS c92,aA,sS,hs0,hs92,h0,hw,h1,aoV,h2,hx,hs1,hsz [92] (by simp),lV,he];simp
   ·have he:esc [c]=[c]:=by simp[esc,c34,c92]
    simp only[aoU c34,aoU c92,aA,sS,hs0,h0,hw,h1,aoV,h2,hx,hs1,lV,he];simp
 ·rintro _ rfl;refine⟨_,?_,rfl⟩;have:decide ((s.size:Int)<(s.size:Int))=false:=aoU (by omega);simp only[vK,this,aA,sS];rw[apF (by rw[bJ];exact ape _)]
theorem Eh:∀l:List (List UInt8),Lib.join l [44]=commas l
 | []=>rfl
 | [x]=>Lib.join_one x [44]
 |x::y::l=>by
  rw[Lib.join_cons,ug x (by simp),←Eh (y::l),Lib.join_cons];simp[Lib.joinTail]
def eO(x:LT):List UInt8:=item (bl x.1) [61] (bl x.2.1)
def dU(l:List LT):List UInt8:=123::(commas (l.map eO)++ [125])
def BN(l:List LT):ByteArray:=if dh l then gL (dU l)else ByteArray.empty
theorem Kn(x:LT):(x.1++bs [61])++kV x.2.1=gL (eO x):=by
 rw[show bs [61]=gL [61]from rfl,afR];unfold kV eO item;rw[lV];simp[bl]
theorem Nh{x:LT}(h1:mr x.1=true)(h2:yj x.2.1=true):(eO x).length≤160:=by
 have a:=EO h1;have b:=xU h2;have:=xV (bl x.2.1);rw[bJ]at this;unfold eO item;simp[bJ];omega
theorem xI{l:List LT}(h:dh l=true)(i:Nat):(commas ((l.map eO).take i)).length≤2000:=by
 obtain⟨h1,h2⟩:=fQ h
 have:=Gb ((l.map eO).take i) 160 (fun x hx=>by
  obtain⟨y,hy,rfl⟩:=apR.1 (List.mem_of_mem_take hx);exact Nh (h2 y hy).1 (h2 y hy).2.1)
 have hl:((l.map eO).take i).length≤12:=by rw[apq,aoY];omega
 have:=apl 161 hl;omega
theorem K9(l:List LT)(hl:Eu l):Ve ((l,()),())=some ((BN l,()),()):=by
 unfold Ve BN;simp only[CP l hl,aA,sS];cases hv:dh l
 ·simp only[aA,sS,apj,if_false]
 ·obtain⟨h1,h2⟩:=fQ hv;simp only[aA,sS,if_true];have h:=lS (f:=vL) (Q:=fun b=>b=((),(l.map fun x=>gL (eO x),()))) (fun i st=>st=(((i:Int),l,(l.length:Int),()),((l.take i).map fun x=>gL (eO x),()))) l.length ?_ ?_ _ rfl
  ·obtain⟨b,h3,rfl⟩:=h;refine aM _ (show aC vL ((0,l,(l.length:Int),()),([],()))=_ from h3) ?_
   have hj:tC (l.map fun x=>gL (eO x)) (bs [44])=gL (commas (l.map eO)):=by
    unfold tC;rw[aqd];exact congrArg gL (Eh _)
   have hp:=xI hv l.length;rw[apF (by rw[aoY];exact ape _)]at hp;have b1:decide (List.length (l.map fun x=>gL (eO x))≤4294967296∧(gL (commas (l.map eO))).size≤140737488355328)=true:=aoS (by rw[aoY,size_mk];omega);have b2:decide (1+(gL (commas (l.map eO))).size≤4294967296)=true:=aoS (by rw[size_mk];omega);have b3:decide ((gL (123::commas (l.map eO))).size+1≤4294967296)=true:=aoS (by rw[size_mk,ap9];omega);simp only[hj,b1,b2,aA,sS];rw[show bs [123]=gL [123]from rfl,lV,show [123]++commas (l.map eO)=123::commas (l.map eO)from rfl,b3,show bs [125]=gL [125]from rfl,lV];rfl
  ·rintro i _ hi rfl;obtain⟨e,he⟩:=getD_some (l:=l) (i:=i) hi;obtain⟨k1,k2,_⟩:=h2 e (aoX he);have z1:=EO k1;have z2:=xU k2;have z3:=FU e.2.1;have hw:aP ((i:Int)+1)=((i+1:Nat):Int):=aI (by omega);have b1:decide (e.1.size+1≤4294967296)=true:=aoS (by omega);have b2:decide (e.2.1.size≤4294967296)=true:=aoS (by omega);have b3:decide ((e.1++(bs [61])).size+(kV e.2.1).size≤4294967296)=true:=aoS (by rw[Yu];show e.1.size+1+_≤_;omega);have b4:decide (((l.take i).map fun x=>gL (eO x)).length+ [gL (eO e)].length≤4294967296)=true:=aoS (by simp;omega);refine⟨_,?_,rfl⟩;rw[show l.take (i+1)=l.take i++ [e] by rw[aq0,he];rfl,ap3];simp only[vL,aJ,aG he,bQ hi,b1,b2,b3,Kn,b4,hw,aA,sS];rfl
  ·rintro _ rfl;refine⟨_,?_,rfl⟩;simp only[vL,cO,aA,sS];rw[apF (ape _)]
theorem Ei:∀(l:List (List UInt8)) (x:List UInt8),l≠ []→commas (l++ [x])=commas l++44::x
 | [],_,h=>absurd rfl h
 | [a],x,_=>rfl
 |a::b::l,x,_=>by
  rw[aqr,ug a (by simp),Ei (b::l) x (by simp),ug a (by simp)];simp
theorem Qu(l:List LT)(hl:Eu l):m59 ((l,()),())=some ((BN l,()),()):=by
 unfold m59 BN;simp only[Db l hl,aA,sS];cases hv:dh l
 ·simp only[aA,sS,apj,if_false]
 ·obtain⟨h1,h2⟩:=fQ hv;simp only[aA,sS,if_true];have h:=lS (f:=xY) (Q:=fun b=>b=((gL (123::commas (l.map eO)),()),())) (fun i st=>st=(((i:Int),l,gL (123::commas ((l.map eO).take i)),()),())) l.length ?_ ?_ _ rfl
  ·obtain⟨b,h3,rfl⟩:=h;refine aM _ (show aC xY ((0,l,bs [123],()),())=_ from h3) ?_;have hp:=xI hv l.length;rw[apF (by rw[aoY];exact ape _)]at hp;have b3:decide ((gL (123::commas (l.map eO))).size+1≤4294967296)=true:=aoS (by rw[size_mk,ap9];omega);simp only[b3,aA,sS];rw[show bs [125]=gL [125]from rfl,lV];rfl
  ·rintro i _ hi rfl;obtain⟨e,he⟩:=getD_some (l:=l) (i:=i) hi;obtain⟨k1,k2,_⟩:=h2 e (aoX he);have z1:=EO k1;have z2:=xU k2;have z3:=FU e.2.1;have q:=acE e.2.1 (by omega);have hp:=xI hv i;have hl2:=Nh k1 k2;have hw:aP ((i:Int)+1)=((i+1:Nat):Int):=aI (by omega);have b1:decide (e.1.size+1≤4294967296)=true:=aoS (by omega);have b3:decide ((e.1++(bs [61])).size+(kV e.2.1).size≤4294967296)=true:=aoS (by rw[Yu];show e.1.size+1+_≤_;omega);have hm:(l.map eO)[i]?=some (eO e):=by rw[aoZ,he];rfl
   have htk:(l.map eO).take (i+1)=(l.map eO).take i++ [eO e]:=by rw[aq0,hm];rfl
   refine⟨_,?_,rfl⟩;rw[htk];by_cases h0:i=0
   ·subst h0;have b5:decide ((gL (123::commas ((l.map eO).take 0))).size+(gL (eO e)).size≤4294967296)=true:=aoS (by rw[size_mk,size_mk,ap9];omega);have d0:decide (((0:Nat):Int)>0)=false:=rfl;simp only[xY,aJ,aG he,bQ hi,d0,b1,q,b3,Kn,b5,hw,lV,aA,sS];rfl
   ·have d0:decide ((i:Int)>0)=true:=aoS (by omega);have b4:decide ((gL (123::commas ((l.map eO).take i))).size+1≤4294967296)=true:=aoS (by rw[size_mk,ap9];omega)
    have e44:gL (123::commas ((l.map eO).take i))++bs [44]=gL (123::(commas ((l.map eO).take i)++ [44])):=by
     rw[show bs [44]=gL [44]from rfl,lV];rfl
    have b5:decide ((gL (123::(commas ((l.map eO).take i)++ [44]))).size+(gL (eO e)).size≤4294967296)=true:=aoS (by rw[size_mk,size_mk,ap9,apt];simp;omega)
    have hne:(l.map eO).take i≠ []:=by
     intro h;have:=congrArg List.length h;rw[apq,aoY,List.length_nil]at this;omega
    simp only[xY,aJ,aG he,bQ hi,d0,b4,e44,b1,q,b3,Kn,b5,hw,lV,aA,sS];rw[Ei _ _ hne];simp
  ·rintro _ rfl;refine⟨_,?_,rfl⟩;simp only[xY,cO,aA,sS];rw[apF (by rw[aoY];exact ape _)]
def iA(ks:List ByteArray)(l:List LT):List LT:=l.filter fun x=>ks.any fun k=>decide (k=x.1)
theorem Nj(ks:List ByteArray)(x:List LT):(iA ks x).Sublist x:=List.filter_sublist
theorem abm(ks:List ByteArray)(s:ByteArray)(hk:ks.length≤big):∃j:Nat,abZ ((ks,s,()),())=some ((bif ks.any (fun k=>decide (k=s))then(j:Int)else -1,()),()):=by
 have h:=cB (f:=Ao) ks (fun i (_:Unit)=>(((i:Int),ks,s,(ks.length:Int),()),())) (fun i _ e=>bif decide (e=s)then .inr (.inl (((i:Int),()),()))else .inl ()) (fun _=>.inr ((),())) ?_ ?_ ()
 ·obtain⟨j,_,hj⟩:=jG (fun e=>decide (e=s)) (fun i:Nat=>(Sum.inl (((i:Int),()),()):((Int×Unit)×Unit)⊕(Unit×Unit))) (.inr ((),())) ks 0;refine⟨j,?_⟩;unfold abZ;refine aM _ (h.trans (congrArg some hj)) ?_
  cases ks.any fun k=>decide (k=s)<;>rfl
 ·intro i e _ he hi;unfold big at hk;have hw:aP ((i:Int)+1)=((i+1:Nat):Int):=aI (by omega)
  have hc:(s.toList==e.toList)=decide (e=s):=by
   rw[bD,bD,gF];exact aqb.2 ⟨Eq.symm,Eq.symm⟩
  simp only[Ao,aJ,aG he,bQ hi,hc,aA,sS];cases decide (e=s)<;>simp only[aA,sS,hw]
 ·intro _;simp only[Ao,cO,aA,sS]
theorem Tn(ks:List ByteArray)(s:ByteArray)(hk:ks.length≤big):M5 ((ks,s,()),())=some ((ks.any (fun k=>decide (k=s)),()),()):=by
 obtain⟨j,h⟩:=abm ks s hk;unfold M5;refine aM _ h ?_
 cases ks.any fun k=>decide (k=s)
 ·rfl
 ·simp only[cond_true,aoS (show(j:Int)≥0 by omega)]
theorem ab4(l:List LT)(ks:List ByteArray)(hl:l.length≤1048576)(hk:ks.length≤big):aaE ((l,ks,()),())=some ((),(iA ks l,())):=by
 have h:=lS (f:=uD) (Q:=fun b=>b=((),(iA ks l,()))) (fun i st=>st=(((i:Int),ks,l,(l.length:Int),()),(iA ks (l.take i),()))) l.length ?_ ?_ _ rfl
 ·obtain⟨b,h3,rfl⟩:=h;unfold aaE;exact aM _ (show aC uD ((0,ks,l,(l.length:Int),()),([],()))=_ from h3) rfl
 ·rintro i _ hi rfl;obtain⟨e,he⟩:=getD_some (l:=l) (i:=i) hi;have hw:aP ((i:Int)+1)=((i+1:Nat):Int):=aI (by omega)
  have hlen:(iA ks (l.take i)).length≤i:=by
   have:=aqo (fun x:LT=>ks.any fun k=>decide (k=x.1)) (l.take i);rw[apq]at this;unfold iA;omega
  have b1:decide ((iA ks (l.take i)).length+ [e].length≤4294967296)=true:=aoS (by simp;omega);refine⟨_,?_,rfl⟩;rw[show l.take (i+1)=l.take i++ [e] by rw[aq0,he];rfl,show iA ks (l.take i++ [e])=iA ks (l.take i)++iA ks [e]from aqe ..];simp only[uD,aJ,aG he,bQ hi,Tn ks e.1 hk,aA,sS]
  cases hc:ks.any fun k=>decide (k=e.1)
  ·simp only[aA,sS,hw];rw[show iA ks [e]=[] by unfold iA;simp[List.filter_cons,hc],ap6]
  ·simp only[aA,sS,b1,hw];rw[show iA ks [e]=[e] by unfold iA;simp[List.filter_cons,hc]]
 ·rintro _ rfl;refine⟨_,?_,rfl⟩;simp only[uD,cO,aA,sS];rw[apF (ape _)]
theorem aav(l:List LT)(ks:List ByteArray)(hk:ks.length≤big)(n:Nat)(e:LT)(he:l[n]?=some e)(o:List LT)(ho:o.length≤1048576):
  aC zY ((l,ks,(n:Int),0,()),(o,()))=some ((l,ks,(n:Int),()),(o++iA ks [e],())):=by
 have h:=cB (f:=zY) ks (fun i (_:Unit)=>((l,ks,(n:Int),(i:Int),()),(o,()))) (fun i _ k=>bif decide (k=e.1)then .inr ((l,ks,(n:Int),()),(o++ [e],()))else .inl ()) (fun _=>((l,ks,(n:Int),()),(o,()))) ?_ ?_ ()
 ·obtain⟨j,_,hj⟩:=jG (fun k=>decide (k=e.1)) (fun _:Nat=>((l,ks,(n:Int),()),(o++ [e],()))) ((l,ks,(n:Int),()),(o,())) ks 0;refine h.trans (congrArg some (hj.trans ?_));unfold iA
  cases hc:ks.any fun k=>decide (k=e.1)
  ·simp[List.filter_cons,hc]
  ·simp[List.filter_cons,hc]
 ·intro i k _ hki hi;unfold big at hk;have hw:aP ((i:Int)+1)=((i+1:Nat):Int):=aI (by omega);have b1:decide (o.length+ [e].length≤4294967296)=true:=aoS (by simp;omega);simp only[zY,aJ,aG hki,aG he,bQ hi,bD,gF,aA,sS];cases decide (k=e.1)<;>simp only[aA,sS,b1,hw]
 ·intro _;simp only[zY,cO,aA,sS]
theorem afk(l:List LT)(ks:List ByteArray)(hl:l.length≤1048576)(hk:ks.length≤big):m60 ((l,ks,()),())=some ((),(iA ks l,())):=by
 have h:=lS (f:=zU) (Q:=fun b=>b=((),(iA ks l,()))) (fun i st=>st=(((i:Int),l,ks,()),(iA ks (l.take i),()))) l.length ?_ ?_ _ rfl
 ·obtain⟨b,h3,rfl⟩:=h;unfold m60;exact aM _ (show aC zU ((0,l,ks,()),([],()))=_ from h3) rfl
 ·rintro i _ hi rfl;obtain⟨e,he⟩:=getD_some (l:=l) (i:=i) hi;have hw:aP ((i:Int)+1)=((i+1:Nat):Int):=aI (by omega)
  have hlen:(iA ks (l.take i)).length≤i:=by
   have:=aqo (fun x:LT=>ks.any fun k=>decide (k=x.1)) (l.take i);rw[apq]at this;unfold iA;omega
  refine⟨_,?_,rfl⟩;rw[show l.take (i+1)=l.take i++ [e] by rw[aq0,he];rfl,show iA ks (l.take i++ [e])=iA ks (l.take i)++iA ks [e]from aqe ..];simp only[zU,bQ hi,aA,sS];refine aM _ (aav l ks hk i e he _ (by omega)) ?_;simp only[hw]
 ·rintro _ rfl;refine⟨_,?_,rfl⟩;simp only[zU,cO,aA,sS];rw[apF (ape _)]
abbrev dw:Type:=Int×List MT×Int×List ByteArray×Int×Int×Int×Bool×Unit
def Jb(r:dw):Prop:=(r.2.1.length≤big∧∀m∈r.2.1,TH m)∧r.2.2.2.1.length≤big∧∀k∈r.2.2.2.1,k.size≤big
def nZ(r:dw):Bool:=decide (r.2.2.1<0)||(decide (r.2.2.2.2.1<0)||(decide (r.2.2.2.2.1>r.2.2.2.2.2.1)||(decide (r.2.2.2.2.2.1>r.2.2.2.2.2.2.1)||(decide (r.2.2.2.2.2.2.1>604800)||(r.2.2.2.2.2.2.1==0)))))
def gM(r:dw):Int:=
 bif decide ((r.2.1.length:Int)>8)||decide ((r.2.2.2.1.length:Int)>12)then 5
 else bif !r.2.1.all bB|| !jB r.2.2.2.1 then 8 else bif nZ r then 1 else 0
def lY(i:Nat)(r:dw):Bool:=if i=0 then r.1 != -1 else decide (r.1<0)||decide (r.1≥(i:Int))
def tJ(i:Nat)(r:dw):Int:=bif lY i r then 3 else gM r
def Cm{E:Type}(iQ:Nat→E→Int):Nat→List E→Int
 |_,[]=>0
 |i,e::r=>bif iQ i e !=0 then iQ i e else Cm iQ (i+1) r
theorem wK{A B E:Type}{f:A→Option (A⊕B)}(l:List E)(st:Nat→A)(iQ:Nat→E→Int)(no:Int→B)(yes:B)
  (h1:∀i e,l[i]?=some e→i<l.length→f (st i)=some (bif iQ i e !=0 then .inr (no (iQ i e))else .inl (st (i+1)))) (h2:f (st l.length)=some (.inr yes)):
  aC f (st 0)=some (bif Cm iQ 0 l !=0 then no (Cm iQ 0 l)else yes):=by
 have key:∀(k i:Nat),i+k=l.length→aC f (st i)=some (bif Cm iQ i (l.drop i) !=0 then no (Cm iQ i (l.drop i))else yes):=by
  intro k
  induction k with
  |zero=>
   intro i h;obtain rfl:i=l.length:=by omega
   rw[apP];exact aD h2
  |succ k ih=>
   intro i h;obtain⟨e,he,hd⟩:=drop_at (l:=l) (i:=i) (by omega);have q:=h1 i e he (by omega);rw[hd];unfold Cm;cases hb:(iQ i e !=0)
   ·rw[hb]at q;rw[apY,←ih (i+1) (by omega)];exact aK q
   ·rw[hb]at q;rw[cond_true,hb];exact aD q
 have:=key l.length 0 (by omega);rw[ap2]at this;exact this
theorem vN{E:Type}{iQ:Nat→E→Int}:∀{l:List E} {i:Nat},Cm iQ i l=0→∀(k:Nat) (e:E),l[k]?=some e→iQ (i+k) e=0
 | [],_,_,k,e,h=>by simp at h
 |x::r,i,h,k,e,he=>by
  unfold Cm at h;cases hc:(iQ i x !=0)
  ·rw[hc]at h
   cases k with
   |zero=>simp at he;subst he;simpa using hc
   |succ k=>
    have:=vN (i:=i+1) h k e (by simpa using he)
    rwa [show i+1+k=i+(k+1) by omega]at this
  ·rw[hc]at h;simp only[cond_true]at h;rw[h]at hc;cases hc
def jU(l:List dw):Int:=
 bif (l.length:Int)==0 then 7 else bif decide ((l.length:Int)>24)then 5 else bif Cm tJ 0 l !=0 then Cm tJ 0 l
 else match l[0]? with|some e=>bif decide ((e.2.1.length:Int)>0)then 8 else 0|none=>0
theorem ZX(m:MT)(hm:TH m):ab8 ((m,()),())=some ((!bB m,()),()):=by
 unfold ab8;exact aM _ (Sm m hm) rfl
theorem Yh(ms:List MT)(hs:ms.length≤big)(hm:∀m∈ms,TH m):∃j:Nat,aC vP ((0,ms,(ms.length:Int),()),())=some (bif ms.all bB then .inr ((),())else .inl (((j:Int),()),())):=by
 have h:=cB (f:=vP) ms (fun i (_:Unit)=>(((i:Int),ms,(ms.length:Int),()),())) (fun i _ e=>bif !bB e then .inr (.inl (((i:Int),()),()))else .inl ()) (fun _=>.inr ((),())) ?_ ?_ ()
 ·obtain⟨j,_,hj⟩:=jG (fun e=> !bB e) (fun i:Nat=>(Sum.inl (((i:Int),()),()):((Int×Unit)×Unit)⊕(Unit×Unit))) (.inr ((),())) ms 0;refine⟨j,h.trans (congrArg some (hj.trans ?_))⟩;rw[wY];cases ms.all bB<;>rfl
 ·intro i e _ he hi;unfold big at hs;have hw:aP ((i:Int)+1)=((i+1:Nat):Int):=aI (by omega);simp only[vP,aJ,aG he,bQ hi,ZX e (hm e (aoX he)),aA,sS];cases bB e<;>simp only[aA,sS,hw,apv,aps]
 ·intro _;simp only[vP,cO,aA,sS]
theorem MG(i:Nat)(r:dw):(i=0∧lY i r=(r.1 != -1))∨(0<i∧lY i r=(decide (r.1<0)||decide (r.1≥(i:Int)))):=by
 unfold lY;by_cases h:i=0
 ·exact .inl ⟨h,by rw[if_pos h]⟩
 ·exact .inr ⟨by omega,by rw[if_neg h]⟩
theorem acv(r:dw)(hr:Jb r)(i:Nat):aac ((r,(i:Int),()),())=some ((tJ i r,()),()):=by
 obtain⟨⟨a1,a2⟩,c1,c2⟩:=hr;obtain⟨j,hj⟩:=Yh r.2.1 a1 a2;have q:=Tg r.2.2.2.1 c1 c2;have hj0:decide ((j:Int)≥0)=true:=aoS (by omega)
 have key:((bif ((i:Int)==0)then(bif ((r.1:Int) !=(-1))then(some ((true,()),((r,()),())))else(bif (decide ((i:Int)>0))then(bif (decide ((r.1:Int)<0))then(some ((true,()),((r,()),())))else(some (((decide ((r.1:Int)≥(i:Int))),()),((r,()),()))))else(some ((false,()),((r,()),())))))
   else(bif (decide ((i:Int)>0))then(bif (decide ((r.1:Int)<0))then(some ((true,()),((r,()),())))else(some (((decide ((r.1:Int)≥(i:Int))),()),((r,()),()))))else(some ((false,()),((r,()),()))))):Option ((Bool×Unit)×((dw×Unit)×Unit)))=some ((lY i r,()),((r,()),())):=by
  rcases MG i r with⟨rfl,hb⟩|⟨h0,hb⟩
  ·rw[hb,show(((0:Nat):Int)==0)=true from rfl,show decide (((0:Nat):Int)>0)=false from rfl];cases (r.1 != -1)<;>rfl
  ·rw[hb,apn.2 (show(i:Int)≠0 by omega),aoS (show(i:Int)>0 by omega)];cases decide (r.1<0)<;>cases decide (r.1≥(i:Int))<;>rfl
 unfold aac;refine aM _ key ?_;unfold tJ;cases lY i r<;>simp only[aA,sS];unfold gM;cases decide ((r.2.1.length:Int)>8)<;>simp only[aA,sS,apy,apm,aph,apf];cases decide ((r.2.2.2.1.length:Int)>12)<;>simp only[aA,sS,apy,apm,aph,apf];rw[hj];cases r.2.1.all bB<;>simp only[aA,sS,hj0,q,apv,aps,apy,apm,aph,apf];cases jB r.2.2.2.1<;>simp only[aA,sS,apv,aps];unfold nZ;cases decide (r.2.2.1<0)<;>simp only[aA,sS,apy,apm,aph,apf];cases decide (r.2.2.2.2.1<0)<;>simp only[aA,sS,apy,apm,aph,apf];cases decide (r.2.2.2.2.1>r.2.2.2.2.2.1)<;>simp only[aA,sS,apy,apm,aph,apf];cases decide (r.2.2.2.2.2.1>r.2.2.2.2.2.2.1)<;>simp only[aA,sS,apy,apm,aph,apf];cases decide (r.2.2.2.2.2.2.1>604800)<;>simp only[aA,sS,apy,apm,aph,apf];cases (r.2.2.2.2.2.2.1==0)<;>simp only[aA,sS]
theorem aaC(r:dw)(hr:Jb r):abr ((r,()),())=some ((gM r,()),()):=by
 obtain⟨⟨a1,a2⟩,c1,c2⟩:=hr;have q:=Tj r.2.2.2.1 c1 c2
 have hj:aC wz ((0,()),((r,()),()))=some (bif r.2.1.all bB then .inr ((),((r,()),()))else .inl ((8,()),())):=by
  have h:=cB (f:=wz) r.2.1 (fun i (_:Unit)=>(((i:Int),()),((r,()),()))) (fun i _ e=>bif !bB e then .inr (.inl ((8,()),()))else .inl ()) (fun _=>.inr ((),((r,()),()))) ?_ ?_ ()
  ·obtain⟨j,_,hj⟩:=jG (fun e=> !bB e) (fun _:Nat=>(Sum.inl ((8,()),()):((Int×Unit)×Unit)⊕(Unit×(dw×Unit)×Unit))) (.inr ((),((r,()),()))) r.2.1 0;refine h.trans (congrArg some (hj.trans ?_));rw[wY];cases r.2.1.all bB<;>rfl
  ·intro i e _ he hi;unfold big at a1;have hw:aP ((i:Int)+1)=((i+1:Nat):Int):=aI (by omega);simp only[wz,aJ,aG he,bQ hi,TS e (a2 e (aoX he)),aA,sS];cases bB e<;>simp only[aA,sS,hw,apv,aps]
  ·intro _;simp only[wz,cO,aA,sS]
 unfold abr gM;cases decide ((r.2.1.length:Int)>8)<;>simp only[aA,sS,apy,apm,aph,apf];cases decide ((r.2.2.2.1.length:Int)>12)<;>simp only[aA,sS,apy,apm,aph,apf];rw[hj];cases r.2.1.all bB<;>simp only[aA,sS,q,apv,aps,apy,apm,aph,apf];cases jB r.2.2.2.1<;>simp only[aA,sS,apv,aps];unfold nZ;cases decide (r.2.2.1<0)<;>simp only[aA,sS,apy,apm,aph,apf];cases decide (r.2.2.2.2.1<0)<;>simp only[aA,sS,apy,apm,aph,apf];cases decide (r.2.2.2.2.1>r.2.2.2.2.2.1)<;>simp only[aA,sS,apy,apm,aph,apf];cases decide (r.2.2.2.2.2.1>r.2.2.2.2.2.2.1)<;>simp only[aA,sS,apy,apm,aph,apf];cases decide (r.2.2.2.2.2.2.1>604800)<;>simp only[aA,sS,apy,apm,aph,apf];cases (r.2.2.2.2.2.2.1==0)<;>simp only[aA,sS]
def Q0(l:List dw):Prop:=l.length≤1048576∧∀r∈l,Jb r
theorem Le(l:List dw)(hl:Q0 l):m78 ((l,()),())=some ((jU l,()),()):=by
 unfold m78 jU;cases hz:((l.length:Int)==0)
 ·simp only[aA,sS];cases decide ((l.length:Int)>24)
  ·simp only[aA,sS];have h:=wK (f:=Fv) l (fun i=>(((i:Int),l,l,(l.length:Int),()),())) tJ (fun c=>.inl ((c,()),())) (.inr ((l,()),())) ?_ ?_
   ·refine aM _ h ?_;cases hc:(Cm tJ 0 l !=0)
    ·obtain⟨e,he⟩:=getD_some (l:=l) (i:=0) (by have:=(apn.1 hz);omega);rw[he];simp only[apY,aA,aJ];rw[show pX l 0 _=pX l ((0:Nat):Int) _ from rfl,aG he];cases decide ((e.2.1.length:Int)>0)<;>rfl
    ·rfl
   ·intro i e he hi;have hl1:=hl.1;have hw:aP ((i:Int)+1)=((i+1:Nat):Int):=aI (by omega);simp only[Fv,aJ,aG he,bQ hi,acv e (hl.2 e (aoX he)) i,aA,sS];cases tJ i e !=0<;>simp only[aA,sS,hw]
   ·simp only[Fv,cO,aA,sS]
  ·simp only[aA,sS]
 ·simp only[aA,sS]
theorem KZ(l:List dw)(hl:Q0 l):m56 ((l,()),())=some ((jU l,()),()):=by
 unfold m56 jU;cases hz:((l.length:Int)==0)
 ·simp only[aA,sS];cases decide ((l.length:Int)>24)
  ·simp only[aA,sS];have h:=wK (f:=Ai) l (fun i=>(((i:Int),l,()),())) tJ (fun c=>.inl ((c,()),())) (.inr ((l,()),())) ?_ ?_
   ·refine aM _ h ?_;cases hc:(Cm tJ 0 l !=0)
    ·obtain⟨e,he⟩:=getD_some (l:=l) (i:=0) (by have:=(apn.1 hz);omega);rw[he];simp only[apY,aA,aJ];rw[show pX l 0 _=pX l ((0:Nat):Int) _ from rfl,aG he];cases decide ((e.2.1.length:Int)>0)<;>rfl
    ·rfl
   ·intro i e he hi;have hl1:=hl.1;have hw:aP ((i:Int)+1)=((i+1:Nat):Int):=aI (by omega);have q:=aaC e (hl.2 e (aoX he));unfold tJ;rcases MG i e with⟨rfl,hb⟩|⟨h0,hb⟩
    ·rw[hb];simp only[Ai,aJ,aG he,bQ hi,show(((0:Nat):Int)==0)=true from rfl,show decide (((0:Nat):Int)>0)=false from rfl,aA,sS];cases (e.1 != -1)
     ·simp only[aA,sS,aJ,aG he,q];cases gM e !=0<;>simp only[aA,sS,hw]
     ·simp only[aA,sS];rfl
    ·rw[hb];simp only[Ai,aJ,aG he,bQ hi,apn.2 (show(i:Int)≠0 by omega),aoS (show(i:Int)>0 by omega),aA,sS];cases decide (e.1<0)<;>simp only[aA,sS,apf,apm]
     ·cases decide (e.1≥(i:Int))<;>simp only[aA,sS,aJ,aG he,q]
      ·cases gM e !=0<;>simp only[aA,sS,hw]
      ·rfl
     ·rfl
   ·simp only[Ai,cO,aA,sS]
  ·simp only[aA,sS]
 ·simp only[aA,sS]
structure JI(l:List dw):Prop where
 pos:0<l.length
 len:l.length≤24
 root:∀r,l[0]?=some r→r.1= -1∧r.2.1=[]
 par:∀(k:Nat) (r:dw),l[k]?=some r→0<k→0≤r.1∧r.1<(k:Int)
 one:∀r∈l,r.2.1.length≤8∧(∀m∈r.2.1,bB m=true)∧jB r.2.2.2.1=true∧r.2.2.2.1.length≤12
theorem afq{r:dw}(h:gM r=0):r.2.1.length≤8∧(∀m∈r.2.1,bB m=true)∧jB r.2.2.2.1=true∧r.2.2.2.1.length≤12:=by
 unfold gM at h;cases h1:(decide ((r.2.1.length:Int)>8)||decide ((r.2.2.2.1.length:Int)>12))
 ·rw[h1]at h;simp only[apM]at h1;have a:=aqs h1.1;have b:=aqs h1.2;cases h2:(!r.2.1.all bB|| !jB r.2.2.2.1)
  ·simp only[apM,Bool.not_eq_false']at h2;exact⟨by omega,ap7.1 h2.1,h2.2,by omega⟩
  ·rw[h2]at h;cases h
 ·rw[h1]at h;cases h
theorem Qb{l:List dw}(h:jU l=0):JI l:=by
 unfold jU at h;cases h1:((l.length:Int)==0)
 ·rw[h1]at h;cases h2:decide ((l.length:Int)>24)
  ·rw[h2]at h;simp only[apY]at h;cases h3:(Cm tJ 0 l !=0)
   ·rw[h3]at h;simp only[apY]at h;have hz:Cm tJ 0 l=0:=by simpa using h3
    have all:=vN hz;simp only[apG]at all;have hpos:0<l.length:=by have:=apn.1 h1;omega
    have hone:∀(k:Nat) (e:dw),l[k]?=some e→lY k e=false∧gM e=0:=by
     intro k e he;have:=all k e he;unfold tJ at this;cases hb:lY k e
     ·rw[hb]at this;exact⟨rfl,this⟩
     ·rw[hb]at this;cases this
    refine⟨hpos,by have:=aqs h2;omega,fun r hr=> ?_,fun k r hr h0=> ?_,fun r hr=> ?_⟩
    ·have hb:=(hone 0 r hr).1;unfold lY at hb;rw[if_pos rfl]at hb;rw[hr]at h;simp only at h;refine⟨by simpa using hb,?_⟩;cases hl:decide ((r.2.1.length:Int)>0)
     ·have:=aqs hl;exact aqx.1 (by omega)
     ·rw[hl]at h;cases h
    ·have hb:=(hone k r hr).1;unfold lY at hb;rw[if_neg (by omega)]at hb;simp only[apM]at hb;have a:=aqs hb.1;have b:=aqs hb.2;omega
    ·obtain⟨k,hk,rfl⟩:=List.mem_iff_getElem.1 hr;exact afq (hone k _ (apc hk)).2
   ·rw[h3]at h;simp only[cond_true]at h;rw[h]at h3;cases h3
  ·rw[h2]at h;cases h
 ·rw[h1]at h;cases h
theorem JI.psz{l:List dw}(h:JI l){r:dw}(hr:r∈l):PSs r.2.1:=by
 obtain⟨h1,h2,_⟩:=h.one r hr;refine⟨by omega,fun m hm=> ?_⟩;have:=h2 m hm;unfold bB at this;simp only[apo]at this;have:=xU this.2.2.2;unfold PSz;omega
def zo(l:List dw)(i:Int)(k:Nat):Bool:=match l[k]? with|some r=>r.1==i|none=>false
def zG(l:List dw)(i:Int):List Nat:=(List.range l.length).filter (zo l i)
abbrev ints(l:List Nat):List Int:=l.map fun k:Nat=>(k:Int)
theorem TA{l:List dw}{i:Int}{k:Nat}:k∈zG l i↔∃r,l[k]?=some r∧r.1=i:=by
 unfold zG zo;rw[aqt,aq7];constructor
 ·rintro⟨h1,h2⟩;obtain⟨r,hr⟩:=getD_some h1;rw[hr]at h2;exact⟨r,hr,by simpa using h2⟩
 ·rintro⟨r,hr,rfl⟩;refine⟨(aoT.1 hr).1,?_⟩;rw[hr];simp
theorem rZ(l:List dw)(i:Int):(zG l i).Pairwise (· < ·):=List.Pairwise.filter _ (List.pairwise_lt_range)
theorem Kb(p:Nat→Bool)(i:Nat):(List.range (i+1)).filter p=(List.range i).filter p++(if p i then [i]else []):=by
 rw[List.range_succ,aqe];cases h:p i<;>simp[List.filter_cons,h]
theorem abM(l:List dw)(hl:l.length≤1048576)(i:Int):ZM ((l,i,()),())=some ((),(ints (zG l i),())):=by
 have h:=lS (f:=vZ) (Q:=fun b=>b=((),(ints (zG l i),()))) (fun k st=>st=(((k:Int),i,l,(l.length:Int),()),(ints ((List.range k).filter (zo l i)),()))) l.length ?_ ?_ _ rfl
 ·obtain⟨b,h3,rfl⟩:=h;unfold ZM;exact aM _ (show aC vZ ((0,i,l,(l.length:Int),()),([],()))=_ from h3) rfl
 ·rintro k _ hk rfl;obtain⟨e,he⟩:=getD_some (l:=l) (i:=k) hk;have hw:aP ((k:Int)+1)=((k+1:Nat):Int):=aI (by omega)
  have hlen:(ints ((List.range k).filter (zo l i))).length≤k:=by
   have:=aqo (zo l i) (List.range k);rw[List.length_range]at this;rw[aoY];exact this
  have b1:decide ((ints ((List.range k).filter (zo l i))).length+ [(k:Int)].length≤4294967296)=true:=aoS (by simp only[ap9,List.length_nil];omega);have hc:zo l i k=(e.1==i):=by unfold zo;rw[he]
  refine⟨_,?_,rfl⟩;rw[Kb,hc];simp only[vZ,aJ,aG he,bQ hk,aA,sS];cases (e.1==i)
  ·simp only[aA,sS,hw,apj,if_false,ap6]
  ·simp only[aA,sS,b1,hw,if_true,ap3,apw,apA]
 ·rintro _ rfl;refine⟨_,?_,rfl⟩;simp only[vZ,cO,aA,sS];rfl
theorem aaD(l:List dw)(hl:l.length≤1048576)(i:Int):acy ((l,i,()),())=some ((),(ints (zG l i),())):=by
 have h:=lS (f:=uz) (Q:=fun b=>b=((),(ints (zG l i),()))) (fun k st=>st=(((k:Int),i,l,()),(ints ((List.range k).filter (zo l i)),()))) l.length ?_ ?_ _ rfl
 ·obtain⟨b,h3,rfl⟩:=h;unfold acy;exact aM _ (show aC uz ((0,i,l,()),([],()))=_ from h3) rfl
 ·rintro k _ hk rfl;obtain⟨e,he⟩:=getD_some (l:=l) (i:=k) hk;have hw:aP ((k:Int)+1)=((k+1:Nat):Int):=aI (by omega)
  have hlen:(ints ((List.range k).filter (zo l i))).length≤k:=by
   have:=aqo (zo l i) (List.range k);rw[List.length_range]at this;rw[aoY];exact this
  have b1:decide ((ints ((List.range k).filter (zo l i))).length+ [(k:Int)].length≤4294967296)=true:=aoS (by simp only[ap9,List.length_nil];omega);have hc:zo l i k=(e.1==i):=by unfold zo;rw[he]
  refine⟨_,?_,rfl⟩;rw[Kb,hc];simp only[uz,aJ,aG he,bQ hk,aA,sS];cases (e.1==i)
  ·simp only[aA,sS,hw,apj,if_false,ap6]
  ·simp only[aA,sS,b1,hw,if_true,ap3,apw,apA]
 ·rintro _ rfl;refine⟨_,?_,rfl⟩;simp only[uz,cO,aA,sS];rfl
def goC(rec:Nat→List Nat)(l:List dw)(x:List LT):List Nat→List Nat
 | []=> []
 |k::ks=>match l[k]? with
  |none=> []
  |some r=>bif allM r.2.1 x then rec k++(bif r.2.2.2.2.2.2.2.1 then goC rec l x ks else [])else goC rec l x ks
def dK(l:List dw)(x:List LT):Nat→Nat→List Nat
 |0,_=> []
 |n+1,i=>if goC (dK l x n) l x (zG l (i:Int))=[]then [i]else goC (dK l x n) l x (zG l (i:Int))
theorem Zv{a:Nat}(h:0<a):2 ^(a-1)+2 ^(a-1)=2 ^ a:=by
 obtain⟨b,rfl⟩:∃b,a=b+1:=⟨a-1,by omega⟩
 rw[Nat.add_sub_cancel,Nat.pow_succ];omega
theorem Tz{rec:Nat→List Nat}{l:List dw}{x:List LT}:∀{ks:List Nat} {j:Nat},ks.Pairwise (· < ·)→(∀k∈ks,j≤k∧k<l.length∧(rec k).length≤2 ^(l.length-k-1))→(goC rec l x ks).length+1≤2 ^(l.length-j)
 | [],j,_,_=>Nat.one_le_two_pow
 |k::ks,j,hp,h=>by
  obtain⟨h1,h2,h3⟩:=h k (aqf ..)
  have ih:=Tz (x:=x) (ks:=ks) (j:=k+1) (aqm.1 hp).2 (fun y hy=>by
   obtain⟨_,a,b⟩:=h y (aqc _ hy);exact⟨(aqm.1 hp).1 y hy,a,b⟩)
  have e1:l.length-(k+1)=l.length-k-1:=by omega
  rw[e1]at ih;have e2:=Zv (a:=l.length-k) (by omega);have e3:2 ^(l.length-k)≤2 ^(l.length-j):=Nat.pow_le_pow_right (by omega) (by omega);unfold goC;obtain⟨r,hr⟩:=getD_some h2;rw[hr];simp only;cases allM r.2.1 x
  ·simp only[apY];omega
  ·simp only[cond_true,apt];cases r.2.2.2.2.2.2.2.1
   ·simp only[apY,List.length_nil];have:1≤2 ^(l.length-k-1):=Nat.one_le_two_pow;omega
   ·simp only[cond_true];omega
theorem yC{l:List dw}(h:JI l){i k:Nat}(hk:k∈zG l (i:Int)):i<k∧k<l.length:=by
 obtain⟨r,hr,hi⟩:=TA.1 hk;have hlt:=(aoT.1 hr).1;refine⟨?_,hlt⟩;by_cases h0:k=0
 ·subst h0;have:=(h.root r hr).1;omega
 ·have:=(h.par k r hr (by omega)).2;omega
theorem Dj{l:List dw}(h:JI l)(x:List LT):∀(n i:Nat),i<l.length→(dK l x n i).length≤2 ^(l.length-i-1)
 |0,_,_=>ap5 _
 |n+1,i,hi=>by
  unfold dK
  have:=Tz (rec:=dK l x n) (x:=x) (j:=i+1) (rZ l (i:Int)) (fun k hk=>by
   obtain⟨a,b⟩:=yC h hk;exact⟨a,b,Dj h x n k b⟩)
  rw[show l.length-(i+1)=l.length-i-1 by omega]at this;split
  ·exact Nat.one_le_two_pow
  ·omega
theorem small{l:List dw}(h:JI l){a:List Nat}(k:Nat)(ha:a.length≤2 ^(l.length-k)):a.length≤16777216:=by
 have:=h.len;have e:2 ^(l.length-k)≤2 ^ 24:=Nat.pow_le_pow_right (by omega) (by omega);have:(2:Nat)^ 24=16777216:=rfl;omega
theorem M0(l:List dw)(hl:JI l)(x:List LT)(hx:EY x)(n:Nat)(rc:(((List dw)×Int×List LT×Unit)×Unit)→Option (Unit×(List Int×Unit)))
  (hrc:∀k:Nat,k<l.length→l.length-k≤n→rc ((l,(k:Int),x,()),())=some ((),(ints (dK l x n k),()))) (o:Int) (ch:List Nat) (hs:ch.Pairwise (· < ·)) (hc:∀k∈ch,k<l.length∧l.length-k≤n):
  ∀(k i:Nat) (out:List Int),i+k=ch.length→out.length≤16777216*i→aC (o5 rc) (((i:Int),o,l,x,((ch.length:Nat):Int),()),(out,(ints ch,())))=some ((o,()),(out++ints (goC (dK l x n) l x (ch.drop i)),())):=by
 have hcl:ch.length≤24:=by
  have:=hl.len
  have:ch.length≤l.length:=by
   have hsub:ch.Sublist (List.range l.length):=by
    have h1:ch=(List.range l.length).filter (fun k=>decide (k∈ch)):=by
     apply List.Perm.eq_of_pairwise (le:=(· < ·)) (fun a b _ _ h1 h2=>absurd h1 (by omega)) hs (List.Pairwise.filter _ List.pairwise_lt_range);refine(List.perm_ext_iff_of_nodup (hs.imp (fun h=>by omega)) ((List.nodup_range).filter _)).2 fun a=> ?_
     rw[aqt,aq7,apC];exact⟨fun h=>⟨(hc a h).1,h⟩,fun h=>h.2⟩
    rw[h1];exact List.filter_sublist
   have:=hsub.length_le
   rwa [List.length_range]at this
  omega
 intro k
 induction k with
 |zero=>
  intro i out h ho;obtain rfl:i=ch.length:=by omega
  rw[apP];refine aD ?_;simp only[o5,cO,aA,sS];simp[goC]
 |succ k ih=>
  intro i out h ho;obtain⟨e,he,hd⟩:=drop_at (l:=ch) (i:=i) (by omega);obtain⟨he1,he2⟩:=hc e (aoX he);obtain⟨r,hr⟩:=getD_some he1;have hp:=hl.psz (aoX hr);have hei:(ints ch)[i]?=some (e:Int):=by rw[aoZ,he];rfl
  have hb:decide ((0:Int)≤(i:Int)∧(i:Int)<(((ints ch).length:Nat):Int))=true:=aoS (by rw[aoY];omega);have hlt:decide ((i:Int)<((ch.length:Nat):Int))=true:=aoS (by omega);have hw:aP ((i:Int)+1)=((i+1:Nat):Int):=aI (by omega);have hfl:(dK l x n e).length≤16777216:=small hl (e+1) (by have:=Dj hl x n e he1;rwa [show l.length-(e+1)=l.length-e-1 by omega]);have hmul:16777216*i≤16777216*24:=Nat.mul_le_mul_left _ (by omega);have hb2:decide (out.length+(ints (dK l x n e)).length≤4294967296)=true:=aoS (by rw[aoY];omega);rw[hd];unfold goC;rw[hr];simp only;cases hq:allM r.2.1 x
  ·simp only[apY];rw[←ih (i+1) out (by omega) (by omega)];refine aK ?_;simp only[o5,hlt,hb,aoV,hei,aJ,aG hr,sJ r.2.1 x hp hx,hq,hw,aA,aA,sS]
  ·simp only[cond_true];cases hcont:r.2.2.2.2.2.2.2.1
   ·simp only[apY,ap6];refine aD ?_;simp only[o5,hlt,hb,aoV,hei,aJ,aG hr,sJ r.2.1 x hp hx,hq,hrc e he1 he2,hb2,hcont,aA,aA,sS]
   ·simp only[cond_true]
    rw[show ints (dK l x n e++goC (dK l x n) l x (ch.drop (i+1)))=ints (dK l x n e)++ints (goC (dK l x n) l x (ch.drop (i+1)))from ap3,←ap0,
     ←ih (i+1) (out++ints (dK l x n e)) (by omega) (by rw[apt,aoY];omega)]
    refine aK ?_;simp only[o5,hlt,hb,aoV,hei,aJ,aG hr,sJ r.2.1 x hp hx,hq,hrc e he1 he2,hb2,hcont,hw,aA,aA,sS]
theorem abT(l:List dw)(hl:JI l)(x:List LT)(hx:EY x):∀(n i:Nat),i<l.length→l.length-i≤n→JZ n ((l,(i:Int),x,()),())=some ((),(ints (dK l x n i),())):=by
 intro n
 induction n with
 |zero=>intro i h1 h2;omega
 |succ n ih=>
  intro i hi hn;have hlen:=hl.len;have q:=abM l (by omega) (i:Int)
  have q2:=M0 l hl x hx n (JZ n) (fun k h1 h2=>ih k h1 h2) (i:Int) (zG l (i:Int)) (rZ l _) (fun k hk=>by
   obtain⟨a,b⟩:=yC hl hk;exact⟨b,by omega⟩) (zG l (i:Int)).length 0 [] (by omega) (by simp)
  rw[ap2,aq3]at q2
  show Xw (JZ n) ((l,(i:Int),x,()),())=_
  unfold Xw;simp only[q,aA,sS];rw[aoY];refine aM _ (show aC (o5 (JZ n)) ((0,(i:Int),l,x,(((zG l (i:Int)).length:Nat):Int),()),([],(ints (zG l (i:Int)),())))=_ from q2) ?_;unfold dK;by_cases h:goC (dK l x n) l x (zG l (i:Int))=[]
  ·rw[if_pos h,h];rfl
  ·rw[if_neg h]
   have:(((ints (goC (dK l x n) l x (zG l (i:Int)))).length:Int)==0)=false:=apn.2 (by
    rw[aoY];intro e;exact h (aqx.1 (by omega)))
   simp only[this,aA,sS]
theorem afK{l:List dw}(hl:JI l)(i:Int):(zG l i).length≤24:=by
 have:=aqo (zo l i) (List.range l.length);rw[List.length_range]at this;have:=hl.len;unfold zG;omega
theorem Kz(l:List dw)(hl:JI l)(x:List LT)(hx:EY x)(n:Nat)(rc:(((List dw)×Int×List LT×Unit)×Unit)→Option (Unit×(List Int×Unit)))
  (hrc:∀k:Nat,k<l.length→l.length-k≤n→rc ((l,(k:Int),x,()),())=some ((),(ints (dK l x n k),()))) (o:Int) (ch:List Nat) (hcl:ch.length≤24) (hc:∀k∈ch,k<l.length∧l.length-k≤n):
  ∀(k i:Nat) (out:List Int),i+k=ch.length→out.length≤16777216*i→aC (rF rc) (((i:Int),o,l,x,()),(ints ch,(out,())))=some ((o,()),(out++ints (goC (dK l x n) l x (ch.drop i)),())):=by
 intro k
 induction k with
 |zero=>
  intro i out h ho;obtain rfl:i=ch.length:=by omega
  rw[apP];refine aD ?_;have:decide ((ch.length:Int)<(((ints ch).length:Nat):Int))=false:=aoU (by rw[aoY];omega);simp only[rF,this,aA,sS];simp[goC]
 |succ k ih=>
  intro i out h ho;obtain⟨e,he,hd⟩:=drop_at (l:=ch) (i:=i) (by omega);obtain⟨he1,he2⟩:=hc e (aoX he);obtain⟨r,hr⟩:=getD_some he1;have hp:=hl.psz (aoX hr);have hei:(ints ch)[i]?=some (e:Int):=by rw[aoZ,he];rfl
  have hb:decide ((0:Int)≤(i:Int)∧(i:Int)<(((ints ch).length:Nat):Int))=true:=aoS (by rw[aoY];omega);have hlt:decide ((i:Int)<(((ints ch).length:Nat):Int))=true:=aoS (by rw[aoY];omega);have hw:aP ((i:Int)+1)=((i+1:Nat):Int):=aI (by omega);have hfl:(dK l x n e).length≤16777216:=small hl (e+1) (by have:=Dj hl x n e he1;rwa [show l.length-(e+1)=l.length-e-1 by omega]);have hmul:16777216*i≤16777216*24:=Nat.mul_le_mul_left _ (by omega);have hb2:decide (out.length+(ints (dK l x n e)).length≤4294967296)=true:=aoS (by rw[aoY];omega);rw[hd];unfold goC;rw[hr];simp only;cases hq:allM r.2.1 x
  ·simp only[apY];rw[←ih (i+1) out (by omega) (by omega)];refine aK ?_;simp only[rF,hlt,hb,aoV,hei,aJ,aG hr,rU r.2.1 x hp hx,hq,hw,aA,aA,sS]
  ·simp only[cond_true];cases hcont:r.2.2.2.2.2.2.2.1
   ·simp only[apY,ap6];refine aD ?_;simp only[rF,hlt,hb,aoV,hei,aJ,aG hr,rU r.2.1 x hp hx,hq,hrc e he1 he2,hb2,hcont,aA,aA,sS]
   ·simp only[cond_true]
    rw[show ints (dK l x n e++goC (dK l x n) l x (ch.drop (i+1)))=ints (dK l x n e)++ints (goC (dK l x n) l x (ch.drop (i+1)))from ap3,←ap0,
     ←ih (i+1) (out++ints (dK l x n e)) (by omega) (by rw[apt,aoY];omega)]
    refine aK ?_;simp only[rF,hlt,hb,aoV,hei,aJ,aG hr,rU r.2.1 x hp hx,hq,hrc e he1 he2,hb2,hcont,hw,aA,aA,sS]
theorem aah(l:List dw)(hl:JI l)(x:List LT)(hx:EY x):∀(n i:Nat),i<l.length→l.length-i≤n→UK n ((l,(i:Int),x,()),())=some ((),(ints (dK l x n i),())):=by
 intro n
 induction n with
 |zero=>intro i h1 h2;omega
 |succ n ih=>
  intro i hi hn;have hlen:=hl.len;have q:=aaD l (by omega) (i:Int)
  have q2:=Kz l hl x hx n (UK n) (fun k h1 h2=>ih k h1 h2) (i:Int) (zG l (i:Int)) (afK hl _) (fun k hk=>by
   obtain⟨a,b⟩:=yC hl hk;exact⟨b,by omega⟩) (zG l (i:Int)).length 0 [] (by omega) (by simp)
  rw[ap2,aq3]at q2
  show af0 (UK n) ((l,(i:Int),x,()),())=_
  unfold af0;simp only[q,aA,sS];refine aM _ (show aC (rF (UK n)) ((0,(i:Int),l,x,()),(ints (zG l (i:Int)),([],())))=_ from q2) ?_;unfold dK;by_cases h:goC (dK l x n) l x (zG l (i:Int))=[]
  ·rw[if_pos h,h];rfl
  ·rw[if_neg h]
   have:(((ints (goC (dK l x n) l x (zG l (i:Int)))).length:Int)==0)=false:=apn.2 (by
    rw[aoY];intro e;exact h (aqx.1 (by omega)))
   simp only[this,aA,sS]
def kI(l:List dw)(x:List LT):List Nat:=if jU l=0∧dh x=true then dK l x 400 0 else []
theorem BS{x:List LT}(h:dh x=true):EY x:=by
 obtain⟨h1,h2⟩:=fQ h;exact⟨by omega,fun y hy=>by have:=xU (h2 y hy).2.1;omega⟩
theorem afI(l:List dw)(hl:Q0 l)(x:List LT)(hx:Eu x):m68 ((l,x,()),())=some ((),(ints (kI l x),())):=by
 unfold m68 kI;by_cases h:jU l=0
 ·have hb:(jU l !=0)=false:=by rw[h];rfl
  have hk:=Qb h;simp only[Le l hl,CP x hx,hb,aA,sS];cases hv:dh x
  ·simp only[aA,sS];rw[if_neg (by simp)];rfl
  ·have q:=abT l hk x (BS hv) 400 0 hk.pos (by have:=hk.len;omega);simp only[aA,sS];rw[if_pos ⟨h,trivial⟩];exact aM _ q rfl
 ·have hb:(jU l !=0)=true:=apO.2 h;simp only[Le l hl,hb,aA,sS];rw[if_neg (fun e=>h e.1)];rfl
theorem agt(l:List dw)(hl:Q0 l)(x:List LT)(hx:Eu x):m19 ((l,x,()),())=some ((),(ints (kI l x),())):=by
 unfold m19 kI;by_cases h:jU l=0
 ·have hb:(jU l !=0)=false:=by rw[h];rfl
  have hk:=Qb h;simp only[KZ l hl,Db x hx,hb,aA,sS];cases hv:dh x
  ·simp only[aA,sS];rw[if_neg (by simp)];rfl
  ·have q:=aah l hk x (BS hv) 400 0 hk.pos (by have:=hk.len;omega);simp only[aA,sS];rw[if_pos ⟨h,trivial⟩];exact aM _ q rfl
 ·have hb:(jU l !=0)=true:=apO.2 h;simp only[KZ l hl,hb,aA,sS];rw[if_neg (fun e=>h e.1)];rfl
def iX(l:List dw):Nat→Nat→List Nat
 |0,_=> []
 |n+1,i=>if i=0 then [0]else match l[i]? with|some r=>iX l n r.1.toNat++ [i]|none=> []
def AL(r:dw)(x:List LT):ByteArray:=if dh x then BN (iA r.2.2.2.1 x)else ByteArray.empty
theorem Xu{ks:List ByteArray}{x:List LT}(h:Eu x):Eu (iA ks x):=⟨apI (Nj ks x).length_le h.1,fun y hy=>h.2 y ((Nj ks x).subset hy)⟩
theorem Zu(r:dw)(x:List LT)(hx:Eu x)(hr:r.2.2.2.1.length≤big):m69 ((r,x,()),())=some ((AL r x,()),()):=by
 unfold m69 AL;simp only[CP x hx,aA,sS];cases hv:dh x
 ·rfl
 ·have:=(fQ hv).1;simp only[ab4 x r.2.2.2.1 (by omega) hr,K9 _ (Xu hx),if_true,aA,sS]
theorem Yi(r:dw)(x:List LT)(hx:Eu x)(hr:r.2.2.2.1.length≤big):m20 ((r,x,()),())=some ((AL r x,()),()):=by
 unfold m20 AL;simp only[Db x hx,aA,sS];cases hv:dh x
 ·rfl
 ·have:=(fQ hv).1;simp only[afk x r.2.2.2.1 (by omega) hr,Qu _ (Xu hx),if_true,aA,sS]
theorem OJ:∀{l:List ByteArray} {p:Option ByteArray},(∀k∈l,mr k=true)→l.Pairwise (fun a b=>leB b a=false)→(∀q,p=some q→∀k∈l,leB k q=false)→sP Ii p l=true
 | [],_,_,_,_=>rfl
 |k::l,p,h1,h2,h3=>by
  unfold sP;have h2:=aqm.1 h2;rw[OJ (p:=some k) (fun y hy=>h1 y (aqc _ hy)) h2.2 (fun q hq y hy=>by cases hq;exact h2.1 y hy),Bool.and_true];unfold Ii;rw[h1 k (aqf ..)]
  cases p with
  |none=>rfl
  |some q=>simp only;rw[h3 q rfl k (aqf ..)];rfl
theorem V7:iM.Pairwise (fun a b=>leB b a=false):=by decide+kernel
theorem OC{l:List ByteArray}(h:l.Sublist iM):jB l=true:=OJ (fun k hk=>(BB k (h.subset hk)).1) (V7.sublist h) (fun q hq=>by cases hq)
theorem afm{l:List LT}(h:qp iM l):Eu l:=by
 have g:=VN h;exact⟨by have:=g.1;unfold big;omega,fun x hx=>by have:=g.2 x hx;unfold big;omega⟩
def Jk(r:dw):Prop:=(r.2.1.length≤8∧∀m∈r.2.1,mQ m)∧r.2.2.2.1.Sublist iM∧nZ r=false∧r.2.2.2.2.2.1≤1000∧0≤r.2.2.2.2.2.1∧0≤r.2.2.2.2.2.2.1∧r.2.2.2.2.2.2.1≤10000
theorem Jk.z{r:dw}(h:Jk r):Jb r:=by
 obtain⟨⟨h1,h2⟩,h3,_⟩:=h;have h4:=h3.length_le;rw[show iM.length=4 from rfl]at h4;exact⟨⟨by unfold big;omega,fun m hm=>(h2 m hm).z⟩,by unfold big;omega,fun k hk=>by have:=(BB k (h3.subset hk)).2;unfold big;omega⟩
theorem Jk.one{r:dw}(h:Jk r):gM r=0:=by
 obtain⟨⟨h1,h2⟩,h3,h4,_⟩:=h;have h5:=h3.length_le;rw[show iM.length=4 from rfl]at h5;unfold gM;rw[aoU (show¬(r.2.1.length:Int)>8 by omega),aoU (show¬(r.2.2.2.1.length:Int)>12 by omega),ap7.2 (fun m hm=>(h2 m hm).1),OC h3,h4];rfl
theorem Z8{E:Type}{iQ:Nat→E→Int}:∀{l:List E} {i:Nat},(∀(k:Nat) (e:E),l[k]?=some e→iQ (i+k) e=0)→Cm iQ i l=0
 | [],_,_=>rfl
 |x::r,i,h=>by
  unfold Cm;have h0:=h 0 x rfl;rw[aq2]at h0;rw[h0]
  exact Z8 (i:=i+1) fun k e he=>by
   have:=h (k+1) e (by simpa using he)
   rwa [show i+(k+1)=i+1+k by omega]at this
structure vE(l:List dw):Prop where
 pos:0<l.length
 len:l.length≤24
 root:∀r,l[0]?=some r→r.1= -1∧r.2.1=[]
 par:∀(k:Nat) (r:dw),l[k]?=some r→0<k→0≤r.1∧r.1<(k:Int)
 good:∀r∈l,Jk r
theorem aeM{l:List dw}(pos:0<l.length)(len:l.length≤24)(root:∀r,l[0]?=some r→r.1= -1∧r.2.1=[])(par:∀(k:Nat) (r:dw),l[k]?=some r→0<k→0≤r.1∧r.1<(k:Int))(one:∀r∈l,gM r=0):jU l=0:=by
 unfold jU;rw[apn.2 (show(l.length:Int)≠0 by omega),aoU (show¬(l.length:Int)>24 by omega),Z8 (fun k e he=> ?_)]
 ·obtain⟨r,hr⟩:=getD_some pos;rw[hr];simp only[(root r hr).2];rfl
 ·rw[apG];unfold tJ lY
  have:(if k=0 then e.1 != -1 else decide (e.1<0)||decide (e.1≥(k:Int)))=false:=by
   by_cases h0:k=0
   ·subst h0;rw[if_pos rfl,(root e he).1];rfl
   ·rw[if_neg h0];obtain⟨a,b⟩:=par k e he (by omega);rw[aoU (by omega),aoU (by omega)];rfl
  rw[this];exact one e (aoX he)
theorem vE.iQ{l:List dw}(h:vE l):jU l=0:=aeM h.pos h.len h.root h.par (fun r hr=>(h.good r hr).one)
theorem vE.z{l:List dw}(h:vE l):Q0 l:=⟨by have:=h.len;omega,fun r hr=>(h.good r hr).z⟩
theorem mem3{x a b c:Int}(h:x∈ [a,b,c]):x=a∨x=b∨x=c:=by simpa using h
theorem anL{x a b c d:Int}(h:x∈ [a,b,c,d]):x=a∨x=b∨x=c∨x=d:=by simpa using h
theorem Iu(d:iU)(hd:tO d):∃(p w i r:Int) (c:Bool) (by_:List ByteArray) (d':iU),m24 ((),((d,()),()))=some ((),((d',()),(((-1),p,w,i,r,c,()),()),by_,()))∧tO d'∧
  ∀(q:Int) (ms:List MT),(ms.length≤8∧∀m∈ms,mQ m)→Jk (q,ms,p,by_,w,i,r,c,()):=by
 obtain⟨a1,d1,e1,hd1,b1⟩:=qX [0,30,10,60] d hd (by simp) (by simp);obtain⟨a2,d2,e2,hd2,b2⟩:=qX [20,300,40] d1 hd1 (by simp) (by simp);obtain⟨a3,d3,e3,hd3,b3,_⟩:=fP 3 d2 hd2 (by omega);have b3:=b3 (by omega);obtain⟨ks,d4,e4,hd4,hk⟩:=Hl d3 hd3;obtain⟨a5,d5,e5,hd5,b5⟩:=qX [0,3600,100] d4 hd4 (by simp) (by simp);obtain⟨c,d6,e6,hd6⟩:=JN 2 d5 hd5 (by omega) (by omega);have b1:=anL b1;have b2:=mem3 b2;have b5:=mem3 b5;have w1:aP (a1+a2)=a1+a2:=bH (by omega) (by omega);have w2:aP (a1+a2+a5)=a1+a2+a5:=bH (by omega) (by omega);refine⟨a3,a1,a1+a2,a1+a2+a5,c,ks,d6,?_,hd6,fun q ms hms=>⟨hms,hk,?_,?_,?_,?_,?_⟩⟩
 ·unfold m24;simp only[e1,e2,e3,e4,e5,e6,w1,w2,aA,sS]
 ·unfold nZ;simp only[apM];exact⟨aoU (by omega),aoU (by omega),aoU (by omega),aoU (by omega),aoU (by omega),apn.2 (by omega)⟩
 all_goals simp only;omega
theorem Ns:∀(n:Nat) (i:Int) (d:iU) (l:List dw),tO d→i=n→l.length+n≤20→vE l→
  ∃(l':List dw) (d':iU),aC F3 ((i,()),((d,()),(l,())))=some ((),((d',()),(l',())))∧tO d'∧vE l'∧l'.length=l.length+n:=by
 intro n
 induction n with
 |zero=>
  intro i d l hd hi hl hg;refine⟨l,d,aD ?_,hd,hg,rfl⟩;have:decide (i>0)=false:=aoU (by omega);simp only[F3,this,aA,sS]
 |succ n ih=>
  intro i d l hd hi hl hg;have hpos:=hg.pos;obtain⟨p,w,t,r,c,ks,d1,e1,hd1,hr⟩:=Iu d hd;obtain⟨a,d2,e2,hd2,b2,_⟩:=fP ((l.length:Nat):Int) d1 hd1 (by omega);have b2:=b2 (by omega);obtain⟨ms,d3,e3,hd3,hn,hm⟩:=qh 2 d2 hd2 (by omega) (by omega);have hgood:=hr a ms ⟨by omega,hm⟩
  obtain⟨l',d',e4,hd',hl',hlen⟩:=ih (i-1) d3 (l++ [(a,ms,p,ks,w,t,r,c,())]) hd3 (by omega) (by simp;omega) ⟨by simp,by simp;omega,fun y hr=>hg.root y (by rwa [apk hpos]at hr),fun k y hr h0=>by
    by_cases hk:k<l.length
    ·rw[apk hk]at hr;exact hg.par k y hr h0
    ·have:k<(l++ [(a,ms,p,ks,w,t,r,c,())]).length:=(aoT.1 hr).1;simp at this;obtain rfl:k=l.length:=by omega
     rw[apg (ape _),Nat.sub_self]at hr;simp at hr;subst hr;exact⟨b2.1,b2.2⟩,fun x hx=>by
    rcases apr.1 hx with h|h
    ·exact hg.good x h
    ·simp only[apL]at h;subst h;exact hgood⟩
  refine⟨l',d',?_,hd',hl',by rw[hlen];simp;omega⟩;rw[←e4];refine aK ?_;have h0:decide (i>0)=true:=aoS (by omega);have h1:∀z:dw,decide (l.length+([z]:List dw).length≤4294967296)=true:=fun z=>aoS (by simp;omega)
  simp only[F3,h0,e1,e2,e3,h1,aA,sS,bH (x:=i-1) (by omega) (by omega)]
theorem Pk(n:Int)(d:iU)(hd:tO d)(h0:0≤n)(h1:n≤10):∃(l:List dw) (d':iU),m50 ((n,()),((d,()),()))=some ((),((d',()),(l,())))∧tO d'∧vE l:=by
 obtain⟨p,w,t,r,c,ks,d1,e1,hd1,hr⟩:=Iu d hd;obtain⟨a,d2,e2,hd2,b2,_⟩:=fP (n+1) d1 hd1 (by omega);have b2:=b2 (by omega);have hgood:=hr (-1) [] ⟨by simp,fun m hm=>by cases hm⟩
 obtain⟨l',d',e3,hd',hl',hlen⟩:=Ns a.toNat a d2 [((-1),[],p,ks,w,t,r,c,())] hd2 (by omega) (by simp;omega) ⟨by simp,by simp,fun r hr=>by simp at hr;subst hr;exact⟨rfl,rfl⟩,fun k r hr h0=>by
  have:=(aoT.1 hr).1;simp at this;omega,fun x hx=>by simp only[apL]at hx;subst hx;exact hgood⟩
 refine⟨l',d',?_,hd',hl'⟩;unfold m50;simp only[e1,bH (x:=n+1) (by omega) (by omega),e2,e3,aA,sS]
def M6(l:List dw)(x:List LT)(k:Nat):Bool:=match l[k]? with|some r=>allM r.2.1 x|none=>false
def cnt(l:List dw)(k:Nat):Bool:=match l[k]? with|some r=>r.2.2.2.2.2.2.2.1|none=>false
inductive Down(l:List dw)(x:List LT):Nat→Nat→Prop where
 |here (i:Nat) (h:∀c∈zG l (i:Int),M6 l x c=false):Down l x i i
 |step (i k j:Nat) (hk:k∈zG l (i:Int)) (hm:M6 l x k=true) (hs:∀c∈zG l (i:Int),c<k→M6 l x c=true→cnt l c=true) (h:Down l x k j):Down l x i j
theorem M4{rec:Nat→List Nat}{l:List dw}{x:List LT}:∀{ks:List Nat},ks.Pairwise (· < ·)→(∀k∈ks,k<l.length)→∀j∈goC rec l x ks,∃k∈ks,M6 l x k=true∧j∈rec k∧∀c∈ks,c<k→M6 l x c=true→cnt l c=true
 | [],_,_,j,hj=>by cases hj
 |k::ks,hp,hl,j,hj=>by
  obtain⟨r,hr⟩:=getD_some (hl k (aqf ..));unfold goC at hj;rw[hr]at hj;simp only at hj;have hp:=aqm.1 hp;have hm:M6 l x k=allM r.2.1 x:=by unfold M6;rw[hr]
  have hc:cnt l k=r.2.2.2.2.2.2.2.1:=by unfold cnt;rw[hr]
  have tail:j∈goC rec l x ks→(M6 l x k=true→cnt l k=true)→∃k'∈k::ks,M6 l x k'=true∧j∈rec k'∧∀c∈k::ks,c<k'→M6 l x c=true→cnt l c=true:=fun h hk=>by
   obtain⟨k',h1,h2,h3,h4⟩:=M4 hp.2 (fun y hy=>hl y (aqc _ hy)) j h;refine⟨k',aqc _ h1,h2,h3,fun c hcm hlt hmc=> ?_⟩;rcases apD.1 hcm with rfl|hcm
   ·exact hk hmc
   ·exact h4 c hcm hlt hmc
  cases hq:allM r.2.1 x
  ·rw[hq]at hj;exact tail hj (fun h=>by rw[hm,hq]at h;cases h)
  ·rw[hq]at hj;simp only[cond_true]at hj;rcases apr.1 hj with h|h
   ·refine⟨k,aqf ..,by rw[hm,hq],h,fun c hcm hlt=> ?_⟩;rcases apD.1 hcm with rfl|hcm
    ·omega
    ·have:=hp.1 c hcm;omega
   ·cases hco:r.2.2.2.2.2.2.2.1
    ·rw[hco]at h;cases h
    ·rw[hco]at h;exact tail h (fun _=>by rw[hc,hco])
theorem W9(l:List dw)(x:List LT)(n i:Nat):dK l x (n+1) i≠ []:=by
 unfold dK;split
 ·simp
 ·assumption
theorem Sq{rec:Nat→List Nat}{l:List dw}{x:List LT}:∀{ks:List Nat},(∀k∈ks,k<l.length∧rec k≠ [])→goC rec l x ks=[]→∀c∈ks,M6 l x c=false
 | [],_,_,c,hc=>by cases hc
 |k::ks,hl,h,c,hc=>by
  obtain⟨r,hr⟩:=getD_some (hl k (aqf ..)).1;unfold goC at h;rw[hr]at h;simp only at h;have hm:M6 l x k=allM r.2.1 x:=by unfold M6;rw[hr]
  cases hq:allM r.2.1 x
  ·rw[hq]at h;rcases apD.1 hc with rfl|hc
   ·rw[hm,hq]
   ·exact Sq (fun y hy=>hl y (aqc _ hy)) h c hc
  ·rw[hq]at h;simp only[cond_true]at h;exact absurd (List.append_eq_nil_iff.1 h).1 (hl k (aqf ..)).2
theorem xG{l:List dw}(hl:JI l)(x:List LT):∀(n i:Nat),l.length-i≤n→i<l.length→∀j∈dK l x n i,Down l x i j
 |0,i,h,hi,j,hj=>by omega
 |n+1,i,h,hi,j,hj=>by
  have hc:∀k∈zG l (i:Int),k<l.length∧dK l x n k≠ []:=fun k hk=>by
   obtain⟨a,b⟩:=yC hl hk;obtain⟨m,rfl⟩:∃m,n=m+1:=⟨n-1,by omega⟩
   exact⟨b,W9 l x m k⟩
  unfold dK at hj;split at hj
  ·rename_i h0;simp only[apL]at hj;subst hj;exact .here j (Sq hc h0)
  ·obtain⟨k,h1,h2,h3,h4⟩:=M4 (rZ l _) (fun k hk=>(hc k hk).1) j hj;obtain⟨a,b⟩:=yC hl h1;exact .step i k j h1 h2 h4 (xG hl x n k (by omega) b j h3)
theorem Kj{l:List dw}(hl:JI l):∀(n m i:Nat),i<n→i<m→i<l.length→iX l n i=iX l m i
 |0,_,_,h,_,_=>by omega
 |_+1,0,_,_,h,_=>by omega
 |n+1,m+1,i,hn,hm,hi=>by
  unfold iX;by_cases h0:i=0
  ·rw[if_pos h0,if_pos h0]
  ·rw[if_neg h0,if_neg h0];obtain⟨r,hr⟩:=getD_some hi;obtain⟨p1,p2⟩:=hl.par i r hr (by omega);rw[hr];simp only;rw[Kj hl n m r.1.toNat (by omega) (by omega) (by omega)]
theorem rR{l:List dw}(hl:JI l){i k:Nat}(hk:k∈zG l (i:Int)):iX l 400 k=iX l 400 i++ [k]:=by
 obtain⟨a,b⟩:=yC hl hk;obtain⟨r,hr,hi⟩:=TA.1 hk;have hlen:=hl.len;rw[show(400:Nat)=399+1 from rfl]
 conv=>lhs;unfold iX
 rw[if_neg (by omega),hr];simp only;rw[hi,aoV,Kj hl 399 (399+1) i (by omega) (by omega) (by omega)]
def Ic(l:List dw)(x:List LT)(p:List Nat):Prop:=
 (∀k∈p,k<l.length∧M6 l x k=true)∧∀(k a b:Nat),p[k]?=some a→p[k+1]?=some b→∀c∈zG l (a:Int),c<b→M6 l x c=true→cnt l c=true
theorem Kh{l:List dw}(hl:JI l){i:Nat}(hi:i<l.length):∃q,iX l 400 i=q++ [i]:=by
 have hlen:=hl.len;rw[show(400:Nat)=399+1 from rfl];unfold iX;by_cases h0:i=0
 ·rw[if_pos h0,h0];exact⟨[],rfl⟩
 ·rw[if_neg h0];obtain⟨r,hr⟩:=getD_some hi;rw[hr];exact⟨_,rfl⟩
theorem Ur{l:List dw}(hl:JI l){x:List LT}{i j:Nat}(h:Down l x i j):i<l.length→Ic l x (iX l 400 i)→∃s,iX l 400 j=iX l 400 i++s∧Ic l x (iX l 400 j)∧j<l.length∧∀c∈zG l (j:Int),M6 l x c=false:=by
 induction h with
 |here i h=>intro hi hp;exact⟨[],by simp,hp,hi,h⟩
 |step i k j hk hm hs h ih=>
  intro hi hp;obtain⟨a,b⟩:=yC hl hk;have e:=rR hl hk
  have hp2:Ic l x (iX l 400 k):=by
   rw[e];refine⟨fun y hy=> ?_,fun n a b ha hb=> ?_⟩
   ·rcases apr.1 hy with h|h
    ·exact hp.1 y h
    ·simp only[apL]at h;subst h;exact⟨by assumption,hm⟩
   ·by_cases hn:n+1<(iX l 400 i).length
    ·rw[apk (by omega)]at ha hb;exact hp.2 n a b ha hb
    ·have hlt:=(aoT.1 hb).1;rw[apt,List.length_singleton]at hlt;obtain⟨q,hq⟩:=Kh hl hi;have hl2:(iX l 400 i).length=q.length+1:=by rw[hq];simp
     obtain rfl:n=q.length:=by omega
     rw[apk (by omega),hq,apg (ape _),Nat.sub_self]at ha;rw[apg (by omega),show q.length+1-(iX l 400 i).length=0 by omega]at hb;simp at ha hb;subst ha;subst hb;exact hs
  obtain⟨s,h1,h2,h3,h4⟩:=ih b hp2;exact⟨[k]++s,by rw[h1,e,ap0],h2,h3,h4⟩
theorem Vz{l:List dw}(hl:JI l)(x:List LT):Ic l x (iX l 400 0):=by
 have e:iX l 400 0=[0]:=rfl;rw[e];refine⟨fun k hk=> ?_,fun k a b ha hb=> ?_⟩
 ·simp only[apL]at hk;subst hk;obtain⟨r,hr⟩:=getD_some hl.pos;refine⟨hl.pos,?_⟩;unfold M6;rw[hr];simp only[(hl.root r hr).2];rfl
 ·simp at hb
theorem J3{rec:Nat→List Nat}{l:List dw}{x:List LT}:∀{ks:List Nat},ks.Pairwise (· < ·)→(∀k∈ks,k<l.length∧(rec k).Nodup)→(∀k∈ks,∀k'∈ks,∀j,j∈rec k→j∈rec k'→k=k')→(goC rec l x ks).Nodup
 | [],_,_,_=>List.nodup_nil
 |k::ks,hp,hl,hd=>by
  obtain⟨h1,h2⟩:=hl k (aqf ..);obtain⟨r,hr⟩:=getD_some h1;have hp:=aqm.1 hp;have ih:=J3 (rec:=rec) (l:=l) (x:=x) hp.2 (fun y hy=>hl y (aqc _ hy)) (fun a ha b hb=>hd a (aqc _ ha) b (aqc _ hb));unfold goC;rw[hr];simp only;cases allM r.2.1 x
  ·exact ih
  ·simp only[cond_true];cases r.2.2.2.2.2.2.2.1
   ·simp only[apY,ap6];exact h2
   ·simp only[cond_true];refine List.nodup_append.2 ⟨h2,ih,fun a ha b hb e=> ?_⟩;subst e;obtain⟨k',g1,_,g3,_⟩:=M4 hp.2 (fun y hy=>(hl y (aqc _ hy)).1) a hb;have:=hd k (aqf ..) k' (aqc _ g1) a ha g3;have:=hp.1 k' g1;omega
theorem N9{l:List dw}(hl:JI l){x:List LT}{i j:Nat}(h:Down l x i j):∃s,iX l 400 j=iX l 400 i++s:=by
 induction h with
 |here i h=>exact⟨[],by simp⟩
 |step i k j hk hm hs h ih=>
  obtain⟨s,hs⟩:=ih;exact⟨[k]++s,by rw[hs,rR hl hk,ap0]⟩
theorem El{l:List dw}(hl:JI l)(x:List LT):∀(n i:Nat),l.length-i≤n→i<l.length→(dK l x n i).Nodup
 |0,_,h,hi=>by omega
 |n+1,i,h,hi=>by
  unfold dK;split
  ·simp
  ·refine J3 (rZ l _) (fun k hk=> ?_) (fun k hk k' hk' j hj hj'=> ?_)
   ·obtain⟨a,b⟩:=yC hl hk;exact⟨b,El hl x n k (by omega) b⟩
   ·obtain⟨a,b⟩:=yC hl hk;obtain⟨a',b'⟩:=yC hl hk';obtain⟨s,hs⟩:=N9 hl (xG hl x n k (by omega) b j hj);obtain⟨s',hs'⟩:=N9 hl (xG hl x n k' (by omega) b' j hj');rw[rR hl hk]at hs;rw[rR hl hk',hs,ap0,ap0]at hs';have:=List.append_cancel_left hs';simp at this;exact this.1
theorem found{l:List dw}(hl:JI l){x:List LT}{j:Nat}(hj:j∈dK l x 400 0):
  j<l.length∧(∃q,iX l 400 j=0::q)∧(∃q,iX l 400 j=q++ [j])∧Ic l x (iX l 400 j)∧∀c∈zG l (j:Int),M6 l x c=false:=by
 have hlen:=hl.len;obtain⟨s,h1,h2,h3,h4⟩:=Ur hl (xG hl x 400 0 (by omega) hl.pos j hj) hl.pos (Vz hl x);exact⟨h3,⟨s,h1⟩,Kh hl h3,h2,h4⟩
abbrev bL:Type:=ByteArray×List LT×Int×Int×Bool×Bool×Unit
abbrev bG:Type:=Int×ByteArray×List bL×Int×Int×Unit
abbrev aL(m:bL):ByteArray:=m.1
abbrev bK(m:bL):List LT:=m.2.1
abbrev gY(m:bL):Int:=m.2.2.1
abbrev eB(m:bL):Int:=m.2.2.2.1
abbrev cK(m:bL):Bool:=m.2.2.2.2.1
abbrev dY(m:bL):Bool:=m.2.2.2.2.2.1
abbrev aN(g:bG):List bL:=g.2.2.1
abbrev dZ(g:bG):Int:=g.2.2.2.1
abbrev bU(g:bG):Int:=g.2.2.2.2.1
structure rM(m:bL):Prop where
 lab:dh (bK m)=true
 key:aL m=gL (dU (bK m))
 since:0≤gY m∧gY m≤8589934592
 heard:0≤eB m∧eB m≤8589934592
 told:cK m=true∨dY m=false
abbrev Less(a b:ByteArray):Prop:=leB b a=false
structure VG(g:bG):Prop where
 len:(aN g).length≤256
 rt:0≤g.1
 due: -1≤dZ g∧dZ g≤8589934592
 sent: -1≤bU g∧bU g≤8589934592
 mem:∀m∈aN g,rM m
 up:((aN g).map aL).Pairwise Less
theorem jc{l:List LT}(h:dh l=true):Eu l:=by
 obtain⟨h1,h2⟩:=fQ h;refine⟨by unfold big;omega,fun x hx=> ?_⟩;obtain⟨a,b,_⟩:=h2 x hx;have:=EO a;have:=xU b;unfold big;omega
theorem nQ{l:List LT}(h:dh l=true):BN l=gL (dU l):=if_pos h
theorem Ca(a b c:Int):Hw ((a,b,c,()),())=some ((decide (b≤a∧a≤c),()),()):=by
 unfold Hw;by_cases h1:a≥b<;>by_cases h2:a≤c<;>simp[h1,h2]
theorem acD{m:bL}(h:rM m):aaF ((m,()),())=some ((true,()),()):=by
 have q1:=CP (bK m) (jc h.lab);rw[h.lab]at q1;have q2:=K9 (bK m) (jc h.lab);rw[nQ h.lab,←h.key]at q2;have d1:decide ((0:Int)≤gY m∧gY m≤8589934592)=true:=aoS h.since;have d2:decide ((0:Int)≤eB m∧eB m≤8589934592)=true:=aoS h.heard;have ht:=h.told;obtain⟨k,l,s,hh,f,t,⟨⟩⟩:=m;dsimp only[aL,bK,gY,eB,cK,dY]at q1 q2 d1 d2 ht;unfold aaF;simp only[q1,q2,Ca,d1,d2,aA,sS];cases f
 ·have:t=false:=by simpa using ht
  subst this;rfl
 ·rfl
theorem Ro{l:List ByteArray}(h:l.Pairwise Less){i:Nat}{a b:ByteArray}(ha:l[i]?=some a)(hb:l[i+1]?=some b):Less a b:=by
 obtain⟨h1,rfl⟩:=aoT.1 ha;obtain⟨h2,rfl⟩:=aoT.1 hb;exact List.pairwise_iff_getElem.1 h i (i+1) h1 h2 (by omega)
theorem KX{g:bG}(h:VG g):m82 ((g,()),())=some ((true,()),()):=by
 have hlen:=h.len;have d0:decide (((aN g).length:Int)>256)=false:=aoU (by omega);have d1:decide (g.1<0)=false:=aoU (by have:=h.rt;omega);have d2:decide ((-1:Int)≤dZ g∧dZ g≤8589934592)=true:=aoS h.due;have d3:decide ((-1:Int)≤bU g∧bU g≤8589934592)=true:=aoS h.sent
 have hl:aC Ci (((0:Int),aN g,((aN g).length:Int),()),((g,()),()))=some (.inr ((),())):=dL (aN g) (fun i=>(((i:Int),aN g,((aN g).length:Int),()),((g,()),()))) _ (fun i e he hi=>by
  have q:=acD (h.mem e (aoX he));have hw:=aI (i:=i) (by omega);obtain⟨rt,ky,ms,du,se,⟨⟩⟩:=g;rcases jv hi with h0|⟨p,h0,hp,hp1⟩
  ·have:decide ((i:Int)>0)=false:=aoU (by omega);simp only[Ci,bQ hi,aJ,aG he,q,this,hw,aA,sS]
  ·have:decide ((i:Int)>0)=true:=aoS (by omega);have hlt:=Ro h.up (i:=i-1) (a:=aL p) (b:=aL e) (by rw[aoZ,hp];rfl) (by rw[show i-1+1=i by omega,aoZ,he];rfl);have hlt:(Op.bytesLess e.1.toList p.1.toList||e.1.toList==p.1.toList)=false:=hlt;simp only[Ci,bQ hi,aJ,aG he,q,this,hp1 (by omega),aG hp,hlt,hw,aA,sS]) (by simp only[Ci,cO,aA,sS])
 obtain⟨rt,ky,ms,du,se,⟨⟩⟩:=g;dsimp only[aN,dZ,bU]at d0 d1 d2 d3 hl;unfold m82;simp only[d0,d1,Ca,d2,d3,aA,sS];refine aM _ hl ?_;simp only[aA,sS]
theorem isNaN(s:ByteArray):XQ ((s,()),())=some ((false,()),()):=by
 unfold XQ;simp
def EF(a b:ByteArray):Int:=if Op.bytesLess a.toList b.toList=true then -1 else if leB a b=false then 1 else 0
theorem TU(a b:ByteArray):WJ ((a,b,()),())=some ((EF a b,()),()):=by
 unfold WJ EF leB;simp only[isNaN,aA,sS];cases Op.bytesLess a.toList b.toList
 ·cases (a.toList==b.toList)<;>rfl
 ·rfl
theorem KG(m:bL)(k:ByteArray):WZ ((m,k,()),())=some ((EF (aL m) k,()),()):=by
 unfold WZ;simp only[TU,aA,sS]
theorem Xm:∀x:List UInt8,Op.bytesLess x x=false
 | []=>rfl
 |a::x=>by
  have:=Xm x;simp[Op.bytesLess,this]
theorem Pg:∀{x y z:List UInt8},Op.bytesLess x y=true→Op.bytesLess y z=true→Op.bytesLess x z=true
 |_,[],_,h,_=>by cases ‹List UInt8›<;>simp[Op.bytesLess]at h
 |_,_::_,[],_,h=>by simp[Op.bytesLess]at h
 | [],_::_,_::_,_,_=>by simp[Op.bytesLess]
 |a::x,b::y,c::z,h1,h2=>by
  simp only[Op.bytesLess,aq4,apC,apo,beq_iff_eq]at h1 h2 ⊢;rcases h1 with h1|⟨rfl,h1⟩
  ·rcases h2 with h2|⟨rfl,h2⟩
   ·exact .inl (UInt8.lt_trans h1 h2)
   ·exact .inl h1
  ·rcases h2 with h2|⟨rfl,h2⟩
   ·exact .inl h2
   ·exact .inr ⟨rfl,Pg h1 h2⟩
theorem Zz:∀(x y:List UInt8),Op.bytesLess x y=true∨x=y∨Op.bytesLess y x=true
 | [],[]=>.inr (.inl rfl)
 | [],_::_=>.inl rfl
 |_::_,[]=>.inr (.inr rfl)
 |a::x,b::y=>by
  simp only[Op.bytesLess,aq4,apC,apo,beq_iff_eq];rcases Nat.lt_trichotomy a.toNat b.toNat with h|h|h
  ·exact .inl (.inl (UInt8.lt_iff_toNat_lt.2 h))
  ·have h:=UInt8.toNat_inj.1 h;subst h;rcases Zz x y with h|h|h
   ·exact .inl (.inr ⟨rfl,h⟩)
   ·exact .inr (.inl (by rw[h]))
   ·exact .inr (.inr (.inr ⟨rfl,h⟩))
  ·exact .inr (.inr (.inl (UInt8.lt_iff_toNat_lt.2 h)))
abbrev Lt(a b:ByteArray):Prop:=Op.bytesLess a.toList b.toList=true
theorem RP{a b:ByteArray}(h:a.toList=b.toList):a=b:=Ie (by rw[←bD,←bD,h])
theorem nX(a:ByteArray):¬ Lt a a:=fun h=>by rw[Lt,Xm]at h;cases h
theorem lt_trans{a b c:ByteArray}(h:Lt a b)(k:Lt b c):Lt a c:=Pg h k
theorem La(a b:ByteArray):Lt a b∨a=b∨Lt b a:=by
 rcases Zz a.toList b.toList with h|h|h
 ·exact .inl h
 ·exact .inr (.inl (RP h))
 ·exact .inr (.inr h)
theorem fH{a b:ByteArray}:Less a b↔Lt a b:=by
 unfold Less leB;rw[apM];constructor
 ·rintro⟨h1,h2⟩;rcases La a b with h|h|h
  ·exact h
  ·subst h;simp at h2
  ·rw[h]at h1;cases h1
 ·intro h;refine⟨?_,?_⟩
  ·cases hc:Op.bytesLess b.toList a.toList
   ·rfl
   ·exact absurd (lt_trans h hc) (nX a)
  ·cases hc:(b.toList==a.toList)
   ·rfl
   ·have:b=a:=RP (by simpa using hc);subst this;exact absurd h (nX b)
theorem Od{a b:ByteArray}:EF a b<0↔Lt a b:=by
 unfold EF;by_cases h:Lt a b
 ·rw[if_pos h];exact⟨fun _=>h,fun _=>by omega⟩
 ·rw[if_neg h];constructor
  ·intro h2;split at h2<;>omega
  ·exact fun h2=>absurd h2 h
theorem xX{a b:ByteArray}:EF a b=0↔a=b:=by
 unfold EF;by_cases h:Lt a b
 ·rw[if_pos h];exact⟨fun h2=>by omega,fun h2=>by subst h2;exact absurd h (nX a)⟩
 ·rw[if_neg h];by_cases h2:leB a b=false
  ·rw[if_pos h2];have h3:=fH.1 (show Less b a from h2);exact⟨fun h=>by omega,fun h=>by subst h;exact absurd h3 (nX a)⟩
  ·rw[if_neg h2];refine⟨fun _=> ?_,fun _=>rfl⟩;rcases La a b with h3|h3|h3
   ·exact absurd h3 h
   ·exact h3
   ·exact absurd (fH.2 h3) h2
theorem half(i j:Nat)(h:i+j≤1000000):aP (Ck .u64 (IntKind.wrap .u64 (aP ((i:Int)+(j:Int)))) 1)=(((i+j)/ 2:Nat):Int):=by
 have h1:aP ((i:Int)+(j:Int))=(i:Int)+(j:Int):=bH (by omega) (by omega);rw[h1]
 have h2:IntKind.wrap .u64 ((i:Int)+(j:Int))=(i:Int)+(j:Int):=by
  have hp:(2:Int)^ IntKind.u64.bits=18446744073709551616:=rfl;simp only[IntKind.wrap,hp,show IntKind.u64.signed=false from rfl,apX,apj,if_false];omega
 rw[h2]
 have h3:Ck .u64 ((i:Int)+(j:Int)) 1=(((i+j)/ 2:Nat):Int):=by
  unfold Ck;rw[show(2:Int)^(min (1:Int).toNat IntKind.u64.bits)=2 from rfl,Int.fdiv_eq_ediv_of_nonneg _ (by omega)];omega
 rw[h3];exact bH (by omega) (by omega)
theorem aeO{g:bG}(hlen:(aN g).length≤256)(hup0:((aN g).map aL).Pairwise Less)(k:ByteArray):∃(i:Nat) (o:Bool),Nn ((g,k,()),())=some (((i:Int),o,()),())∧i≤(aN g).length∧(∀m∈(aN g).take i,Lt (aL m) k)∧
  (∀m∈(aN g).drop i,¬ Lt (aL m) k)∧(o=true→∃m,(aN g)[i]?=some m∧aL m=k)∧(o=false→∀m∈aN g,aL m≠k):=by
 have hup:=List.pairwise_iff_getElem.1 hup0
 have mono:∀(a b:Nat) (x y:bL),(aN g)[a]?=some x→(aN g)[b]?=some y→a≤b→¬ Lt (aL x) k→¬ Lt (aL y) k:=by
  intro a b x y ha hb hab hx hy;by_cases e:a=b
  ·subst e;rw[ha]at hb;injection hb with hb;subst hb;exact hx hy
  ·obtain⟨h1,h1'⟩:=aoT.1 ha;obtain⟨h2,h2'⟩:=aoT.1 hb;have:=hup a b (by rw[aoY];exact h1) (by rw[aoY];exact h2) (by omega);rw[List.getElem_map,List.getElem_map,h1',h2']at this;exact hx (lt_trans (fH.1 this) hy)
 have key:∃i:Nat,aC nY ((k,aN g,((aN g).length:Int),0,((aN g).length:Int),()),())=some ((k,(i:Int),aN g,((aN g).length:Int),()),())∧i≤(aN g).length∧
   (∀j m,j<i→(aN g)[j]?=some m→Lt (aL m) k)∧(∀j m,i≤j→(aN g)[j]?=some m→¬ Lt (aL m) k):=by
  have go:∀(d lo hi:Nat),hi-lo≤d→lo≤hi→hi≤(aN g).length→(∀j m,j<lo→(aN g)[j]?=some m→Lt (aL m) k)→(∀j m,hi≤j→(aN g)[j]?=some m→¬ Lt (aL m) k)→
    ∃i:Nat,aC nY ((k,aN g,(hi:Int),(lo:Int),((aN g).length:Int),()),())=some ((k,(i:Int),aN g,((aN g).length:Int),()),())∧i≤(aN g).length∧
     (∀j m,j<i→(aN g)[j]?=some m→Lt (aL m) k)∧(∀j m,i≤j→(aN g)[j]?=some m→¬ Lt (aL m) k):=by
   intro d
   induction d with
   |zero=>
    intro lo hi h0 h1 h2 h3 h4;have:lo=hi:=by omega
    subst this;refine⟨lo,aD ?_,h2,h3,h4⟩;simp only[nY,cO,aA,sS]
   |succ d ih=>
    intro lo hi h0 h1 h2 h3 h4;by_cases hlt:lo<hi
    ·have hm:=half lo hi (by omega);have hmid:(lo+hi)/ 2<(aN g).length:=by omega
     obtain⟨e,he⟩:=getD_some hmid;have dl:decide ((lo:Int)<(hi:Int))=true:=aoS (by omega);have d1:decide ((0:Int)≤1)=true:=rfl;have hw:aP ((((lo+hi)/ 2:Nat):Int)+1)=(((lo+hi)/ 2+1:Nat):Int):=aI (by omega);by_cases hc:Lt (aL e) k
     ·have dc:decide (EF (aL e) k<0)=true:=aoS (Od.2 hc)
      obtain⟨i,q,r⟩:=ih ((lo+hi)/ 2+1) hi (by omega) (by omega) h2 (fun j m hj hjm=>by
       by_cases hx:Lt (aL m) k
       ·exact hx
       ·exact absurd hc (mono j _ m e hjm he (by omega) hx)) h4
      refine⟨i,(aK ?_).trans q,r⟩;simp only[nY,dl,d1,hm,aJ,aG he,KG,dc,hw,aA,sS]
     ·have dc:decide (EF (aL e) k<0)=false:=aoU (fun h=>hc (Od.1 h));obtain⟨i,q,r⟩:=ih lo ((lo+hi)/ 2) (by omega) (by omega) (by omega) h3 (fun j m hj hjm=>mono _ j e m he hjm hj hc);refine⟨i,(aK ?_).trans q,r⟩;simp only[nY,dl,d1,hm,aJ,aG he,KG,dc,aA,sS]
    ·have:lo=hi:=by omega
     subst this;refine⟨lo,aD ?_,h2,h3,h4⟩;simp only[nY,cO,aA,sS]
  exact go _ 0 _ (ape _) (ap5 _) (ape _) (fun j m hj=>by omega) (fun j m hj hjm=>by
   have:=(aoT.1 hjm).1;omega)
 obtain⟨i,q,h1,h2,h3⟩:=key
 have ht:∀m∈(aN g).take i,Lt (aL m) k:=fun m hm=>by
  obtain⟨j,hj,rfl⟩:=List.mem_take_iff_getElem.1 hm;exact h2 j _ (by omega) (apc _)
 have hd:∀m∈(aN g).drop i,¬ Lt (aL m) k:=fun m hm=>by
  obtain⟨j,hj,rfl⟩:=List.mem_drop_iff_getElem.1 hm;exact h3 (i+j) _ (by omega) (apc _)
 have hne:(∀m,(aN g)[i]?=some m→aL m≠k)→∀m∈aN g,aL m≠k:=by
  intro hi m hm e;obtain⟨j,hj,rfl⟩:=List.mem_iff_getElem.1 hm;rcases Nat.lt_trichotomy j i with hji|hji|hji
  ·have:=h2 j _ hji (apc hj);rw[e]at this;exact nX _ this
  ·subst hji;exact hi _ (apc hj) e
  ·have hil:i<(aN g).length:=by omega
   have a:=hup i j (by rw[aoY];exact hil) (by rw[aoY];exact hj) hji;rw[List.getElem_map,List.getElem_map]at a;have b:=h3 i _ (ape _) (apc hil);have c:=fH.1 a;rw[e]at c;exact b c
 by_cases hil:i<(aN g).length
 ·obtain⟨e,he⟩:=getD_some hil;have dl:decide ((i:Int)<((aN g).length:Int))=true:=aoS (by omega);refine⟨i,EF (aL e) k==0,?_,h1,ht,hd,fun ho=>⟨e,he,xX.1 (by simpa using ho)⟩,fun ho=>hne fun m hm hk=> ?_⟩
  ·unfold Nn;refine aM _ q ?_;simp only[dl,aJ,aG he,KG,aA,sS]
  ·rw[he]at hm;injection hm with hm;subst hm;have:=xX.2 hk;rw[this]at ho;cases ho
 ·have dl:decide ((i:Int)<((aN g).length:Int))=false:=aoU (by omega);refine⟨i,false,?_,h1,ht,hd,fun ho=>(by cases ho),fun _=>hne fun m hm=> ?_⟩
  ·unfold Nn;refine aM _ q ?_;simp only[dl,aA,sS]
  ·have:=(aoT.1 hm).1;omega
abbrev JD:=Int×ByteArray×Int×Int×Unit
def cor(g:bG):JD:=(g.1,g.2.1,dZ g,bU g,())
theorem LZ{g:bG}(h:VG g):Qs ((g,()),())=some ((),((cor g,()),(aN g,()))):=by
 have hlen:=h.len;obtain⟨rt,ky,ms,du,se,⟨⟩⟩:=g;dsimp only[aN]at hlen;have d0:decide (ms.length≤4294967296)=true:=aoS (by omega)
 have hl:aC zW (((0:Int),(ms.length:Int),()),(((rt,ky,du,se,()),()),(((0,ByteArray.empty,0,0,()),()),(ms,()))))=some ((),(((((0,ByteArray.empty,0,0,()):JD),()),((((rt,ky,du,se,()):JD),()),(ms,()))))):=by
  refine dL ms (fun i=>(((i:Int),(ms.length:Int),()),(((rt,ky,du,se,()),()),(((0,ByteArray.empty,0,0,()),()),(ms,()))))) _ (fun i e he hi=> ?_) (by simp only[zW,cO,aA,sS]);have hw:=aI (i:=i) (by omega);have d2:decide ((0:Int)≤(i:Int)∧(i:Int)<(ms.length:Int))=true:=aoS (by omega);have hm:=h.mem e (aoX he);have hv:=(fQ hm.lab).1;have d3:decide (e.2.1.length≤4294967296)=true:=aoS (by dsimp only[bK]at hv;omega)
  have hset:ms.set i (e.1,e.2.1,e.2.2)=ms:=by
   have:=(aoT.1 he).2;rw[←this];exact List.set_getElem_self _
  simp only[zW,bQ hi,d2,aoV,he,X6,d3,hset,hw,aA,sS]
 unfold Qs;simp only[afu,d0,aA,sS];refine aM _ hl ?_;rfl
theorem aao(t:Int):O7 ((t,()),())=some (((if t>8589934592 then -1 else t),()),()):=by
 unfold O7;by_cases h:t>8589934592
 ·simp only[h,if_true,aA,sS]
 ·simp only[h,if_false,aA,sS]
abbrev inst(t:Int):Bool:=decide (0≤t∧t≤8589934592)
abbrev Jr(t:Int):Bool:=decide (-1≤t∧t≤8589934592)
def okM(m:bL):Bool:=dh (bK m)&&(decide (BN (bK m)=aL m)&&(inst (gY m)&&(inst (eB m)&&(cK m|| !dY m))))
def Je(p:Option bL)(m:bL):Bool:= !okM m||(match p with|none=>false|some q=>leB (aL m) (aL q))
def Lr(g:bG):Bool:= !decide (((aN g).length:Int)>256)&&(!decide (g.1<0)&&(Jr (dZ g)&&(Jr (bU g)&&sP Je none (aN g))))
def GSz(g:bG):Prop:=(aN g).length≤big∧∀m∈aN g,Eu (bK m)
theorem ZY{m:bL}:okM m=true↔rM m:=by
 unfold okM inst;simp only[apo,apC,aq4,aqv];constructor
 ·rintro⟨h1,h2,h3,h4,h5⟩;exact⟨h1,by rw[←h2,nQ h1],h3,h4,h5⟩
 ·intro h;exact⟨h.lab,by rw[nQ h.lab,h.key],h.since,h.heard,h.told⟩
theorem TP{p:Option bL}{m:bL}:Je p m=false↔rM m∧∀q,p=some q→Less (aL q) (aL m):=by
 unfold Je;rw[apM,Bool.not_eq_false',ZY]
 cases p with
 |none=>exact⟨fun h=>⟨h.1,fun q e=>by cases e⟩,fun h=>⟨h.1,rfl⟩⟩
 |some q=>exact⟨fun h=>⟨h.1,fun q' e=>by cases e;exact h.2⟩,fun h=>⟨h.1,h.2 q rfl⟩⟩
theorem WS:∀{l:List bL} {p:Option bL},sP Je p l=true→(∀m∈l,rM m)∧(∀q,p=some q→∀m∈l,Less (aL q) (aL m))∧(l.map aL).Pairwise Less
 | [],_,_=>⟨fun m hm=>(by cases hm),fun _ _ m hm=>(by cases hm),List.Pairwise.nil⟩
 |e::r,p,h=>by
  unfold sP at h;rw[apo,aqv]at h;obtain⟨h1,h2⟩:=TP.1 h.1;obtain⟨k1,k2,k3⟩:=WS h.2;refine⟨fun m hm=> ?_,fun q hq m hm=> ?_,?_⟩
  ·rcases apD.1 hm with rfl|hm
   ·exact h1
   ·exact k1 m hm
  ·rcases apD.1 hm with rfl|hm
   ·exact h2 q hq
   ·exact fH.2 (lt_trans (fH.1 (h2 q hq)) (fH.1 (k2 e rfl m hm)))
  ·rw[apw];refine aqm.2 ⟨fun k hk=> ?_,k3⟩;obtain⟨m,hm,rfl⟩:=apR.1 hk;exact k2 e rfl m hm
theorem Z9:∀{l:List bL} {p:Option bL},(∀m∈l,rM m)→(∀q,p=some q→∀m∈l,Less (aL q) (aL m))→(l.map aL).Pairwise Less→sP Je p l=true
 | [],_,_,_,_=>rfl
 |e::r,p,h1,h2,h3=>by
  rw[apw]at h3;have h3:=aqm.1 h3;unfold sP;rw[TP.2 ⟨h1 e (aqf ..),fun q hq=>h2 q hq e (aqf ..)⟩,aps,apB];exact Z9 (fun m hm=>h1 m (aqc _ hm)) (fun q hq m hm=>by cases hq;exact h3.1 _ (List.mem_map_of_mem hm)) h3.2
theorem UM{g:bG}:Lr g=true↔VG g:=by
 unfold Lr;simp only[apo,aqv,aqa,apC];constructor
 ·rintro⟨h1,h2,h3,h4,h5⟩;obtain⟨k1,_,k3⟩:=WS h5;exact⟨by omega,by omega,h3,h4,k1,k3⟩
 ·intro h;have h1:=h.len;have h2:=h.rt;exact⟨by omega,by omega,h.due,h.sent,Z9 h.mem (fun q hq=>by cases hq) h.up⟩
theorem xE(t:Int):FY ((t,()),())=some ((inst t,()),()):=by
 unfold FY inst;by_cases h1:t≥0<;>by_cases h2:t≤8589934592<;>simp[h1,h2]
theorem qF(t:Int):(t≠ -1∧Jr t=inst t)∨(t= -1∧Jr t=true):=by
 by_cases h:t= -1
 ·exact .inr ⟨h,aoS (by omega)⟩
 ·exact .inl ⟨h,aqb.2 (by omega)⟩
theorem abF(g:bG)(hg:GSz g):m88 ((g,()),())=some ((Lr g,()),()):=by
 obtain⟨hl,hk⟩:=hg;have h:=jR (f:=x9) (aN g) (fun i=>(((i:Int),()),((g,()),()))) Je (.inl ((false,()),())) (.inr ((),())) ?_ ?_
 ·unfold Lr;obtain⟨rt,ky,ms,du,se,⟨⟩⟩:=g;dsimp only[aN,dZ,bU,Jr,inst]at h ⊢;unfold m88;simp only[xE,aL,bK,gY,eB,cK,dY,aN,dZ,bU,inst,Jr,aA,sS]
  cases decide ((ms.length:Int)>256)<;>try simp only[aA,sS]
  cases decide (rt<0)<;>try simp only[aA,sS]
  have key:(aC x9 (((0:Int),()),(((rt,ky,ms,du,se,()),()),()))).bind (fun d92=>aA d92 (fun d93=>(some ((d93.1.1,()),()))) (fun d94=>(some ((true,()),()))))=some ((sP Je none ms,()),()):=by
   refine aM _ h ?_;cases sP Je none ms<;>rfl
  have qF:=qF;dsimp only[Jr,inst]at qF;rcases qF du with⟨h1,e1⟩|⟨h1,e1⟩<;>rw[e1]
  ·rw[apO.2 h1];simp only[aA,sS]
   cases decide (0≤du∧du≤8589934592)<;>try simp only[aA,sS]
   rcases qF se with⟨h2,e2⟩|⟨h2,e2⟩<;>rw[e2]
   ·rw[apO.2 h2];simp only[aA,sS]
    cases decide (0≤se∧se≤8589934592)<;>try simp only[aA,sS]
    exact key
   ·subst h2;simp only[ap4,aA,sS];exact key
  ·subst h1;simp only[ap4,aA,sS];rcases qF se with⟨h2,e2⟩|⟨h2,e2⟩<;>rw[e2]
   ·rw[apO.2 h2];simp only[aA,sS]
    cases decide (0≤se∧se≤8589934592)<;>try simp only[aA,sS]
    exact key
   ·subst h2;simp only[ap4,aA,sS];exact key
 ·intro i e he hi;unfold big at hl;have hke:=hk e (aoX he);have q1:=Db (bK e) hke;have q2:=Qu (bK e) hke;have hw:=aI (i:=i) (by omega);obtain⟨rt,ky,ms,du,se,⟨⟩⟩:=g;obtain⟨k,l,s,hh,f,t,⟨⟩⟩:=e;dsimp only[aN,bK]at he hi hl q1 q2 ⊢;rcases jv hi with h0|⟨p,h0,hp,hp1⟩
  ·rw[if_pos h0];have:decide ((i:Int)>0)=false:=aoU (by omega);unfold Je okM;simp only[x9,bQ hi,aJ,aG he,q1,q2,xE,bD,gF,aL,bK,gY,eB,cK,dY,aN,dZ,bU,inst,Jr,this,hw,aA,sS]
   cases dh l<;>try simp only[hw,aL,bK,gY,eB,cK,dY,aN,dZ,bU,inst,Jr,aA,sS,aph,apy,apf,apm]
   cases decide (BN l=k)<;>try simp only[hw,aL,bK,gY,eB,cK,dY,aN,dZ,bU,inst,Jr,aA,sS,aph,apy,apf,apm]
   cases decide (0≤s∧s≤8589934592)<;>try simp only[hw,aL,bK,gY,eB,cK,dY,aN,dZ,bU,inst,Jr,aA,sS,aph,apy,apf,apm]
   cases decide (0≤hh∧hh≤8589934592)<;>try simp only[hw,aL,bK,gY,eB,cK,dY,aN,dZ,bU,inst,Jr,aA,sS,aph,apy,apf,apm]
   cases f<;>cases t<;>try simp only[hw,aL,bK,gY,eB,cK,dY,aN,dZ,bU,inst,Jr,aA,sS,aph,apy,apf,apm]
  ·rw[if_neg (by omega),hp];have:decide ((i:Int)>0)=true:=aoS (by omega);unfold Je leB okM;simp only[x9,bQ hi,aJ,aG he,q1,q2,xE,bD,gF,aL,bK,gY,eB,cK,dY,aN,dZ,bU,inst,Jr,this,hp1 (by omega),aG hp,hw,aA,sS]
   cases dh l<;>try simp only[hw,aL,bK,gY,eB,cK,dY,aN,dZ,bU,inst,Jr,aA,sS,aph,apy,apf,apm]
   cases decide (BN l=k)<;>try simp only[hw,aL,bK,gY,eB,cK,dY,aN,dZ,bU,inst,Jr,aA,sS,aph,apy,apf,apm]
   cases decide (0≤s∧s≤8589934592)<;>try simp only[hw,aL,bK,gY,eB,cK,dY,aN,dZ,bU,inst,Jr,aA,sS,aph,apy,apf,apm]
   cases decide (0≤hh∧hh≤8589934592)<;>try simp only[hw,aL,bK,gY,eB,cK,dY,aN,dZ,bU,inst,Jr,aA,sS,aph,apy,apf,apm]
   cases f<;>cases t<;>try simp only[hw,aL,bK,gY,eB,cK,dY,aN,dZ,bU,inst,Jr,aA,sS,aph,apy,apf,apm]<;>
    cases (Op.bytesLess (bl k) (bl p.1)||decide (k=p.1))<;>try simp only[hw,aL,bK,gY,eB,cK,dY,aN,dZ,bU,inst,Jr,aA,sS]
 ·simp only[x9,cO,aA,sS]
def strip(r:dw):dw:=(-1,[],r.2.2)
def yY(r:dw):Bool:=gM (strip r)==0
theorem Td{r:dw}(h:Jb r):Jb (strip r):=⟨⟨ap5 _,fun m hm=>by cases hm⟩,h.2⟩
theorem Gr(r:dw):jU [strip r]=gM (strip r):=by
 have h1:tJ 0 (strip r)=gM (strip r):=rfl;have h2:(([strip r]:List dw)[0]?)=some (strip r):=rfl;have h3:decide (((strip r).2.1.length:Int)>0)=false:=rfl;unfold jU;simp only[Cm,h1,h2,h3,List.length_singleton];by_cases h:gM (strip r)=0
 ·rw[h];rfl
 ·rw[apO.2 h];simp only[cond_true];rw[apO.2 h];rfl
theorem Mf(r:dw)(hr:Jb r):Va ((r,()),())=some ((yY r,()),()):=by
 unfold Va;refine aM _ (Le [strip r] ⟨by simp,fun x hx=>by simp at hx;subst hx;exact Td hr⟩) ?_;rw[Gr];rfl
theorem KI(r:dw)(hr:Jb r):UC ((r,()),())=some ((yY r,()),()):=by
 unfold UC;refine aM _ (KZ [strip r] ⟨by simp,fun x hx=>by simp at hx;subst hx;exact Td hr⟩) ?_;rw[Gr];rfl
abbrev iW(r:dw):Int:=r.2.2.2.2.1
abbrev iH(r:dw):Int:=r.2.2.2.2.2.1
abbrev oM(r:dw):Int:=r.2.2.2.2.2.2.1
structure RR(r:dw):Prop where
 z:Jb r
 ok:yY r=true
 pol:0≤r.2.2.1
 wait:0≤iW r
 int:iW r≤iH r
 RS:iH r≤oM r
 max:oM r≤604800
 pos:oM r≠0
theorem ajw{r:dw}(z:Jb r)(h:yY r=true):RR r:=by
 have h0:gM (strip r)=0:=by unfold yY at h;simpa using h
 unfold gM at h0;cases h1:(decide (((strip r).2.1.length:Int)>8)||decide (((strip r).2.2.2.1.length:Int)>12))
 ·rw[h1]at h0;cases h2:(!(strip r).2.1.all bB|| !jB (strip r).2.2.2.1)
  ·rw[h2]at h0;cases h3:nZ (strip r)
   ·unfold nZ at h3;simp only[apM,aqa,apn]at h3;obtain⟨a,b,c,d,e,f⟩:=h3;have a:¬ r.2.2.1<0:=a;have b:¬ r.2.2.2.2.1<0:=b;have c:¬ r.2.2.2.2.1>r.2.2.2.2.2.1:=c;have d:¬ r.2.2.2.2.2.1>r.2.2.2.2.2.2.1:=d;have e:¬ r.2.2.2.2.2.2.1>604800:=e;exact⟨z,h,by omega,by unfold iW;omega,by unfold iW iH;omega,by unfold iH oM;omega,by unfold oM;omega,f⟩
   ·rw[h3]at h0;cases h0
  ·rw[h2]at h0;cases h0
 ·rw[h1]at h0;cases h0
def pos(k:ByteArray):List bL→Nat
 | []=>0
 |m::r=>if Op.bytesLess (aL m).toList k.toList=true then pos k r+1 else 0
def hit(k:ByteArray)(l:List bL):Bool:=match l[pos k l]? with|some m=>decide (aL m=k)|none=>false
theorem QT{k:ByteArray}:∀{l:List bL} {i:Nat},i≤l.length→(∀m∈l.take i,Lt (aL m) k)→(∀m∈l.drop i,¬ Lt (aL m) k)→pos k l=i
 | [],i,h,_,_=>by simp at h;subst h;rfl
 |m::r,0,_,_,h=>by
  unfold pos;rw[if_neg (h m (by simp))]
 |m::r,i+1,h0,h1,h2=>by
  unfold pos;rw[if_pos (h1 m (by simp)),QT (by simpa using h0) (fun x hx=>h1 x (by rw[List.take_succ_cons];exact aqc _ hx)) (fun x hx=>h2 x (by simpa using hx))]
theorem FX(k:ByteArray):∀l:List bL,pos k l≤l.length
 | []=>ape _
 |m::r=>by
  unfold pos;have:=FX k r;split<;>simp<;>omega
theorem AJ{k:ByteArray}:∀{l:List bL},∀m∈l.take (pos k l),Lt (aL m) k
 | [],m,h=>by simp at h
 |x::r,m,h=>by
  unfold pos at h;split at h
  ·rename_i hx;rw[List.take_succ_cons]at h;rcases apD.1 h with rfl|h
   ·exact hx
   ·exact AJ m h
  ·simp at h
theorem pos_at{k:ByteArray}:∀{l:List bL} {m:bL},l[pos k l]?=some m→¬ Lt (aL m) k
 | [],m,h=>by simp at h
 |x::r,m,h=>by
  unfold pos at h;split at h
  ·exact pos_at (by simpa using h)
  ·rename_i hx;simp at h;subst h;exact hx
theorem ac1{l:List bL}(h:(l.map aL).Pairwise Less){i:Nat}{e m:bL}(he:l[i]?=some e)(hm:m∈l.drop (i+1)):Less (aL e) (aL m):=by
 obtain⟨j,hj,rfl⟩:=List.mem_drop_iff_getElem.1 hm;obtain⟨h1,rfl⟩:=aoT.1 he;have:=List.pairwise_iff_getElem.1 h i (i+1+j) (by rw[aoY];exact h1) (by rw[aoY];omega) (by omega)
 rwa [List.getElem_map,List.getElem_map]at this
theorem Il{k:ByteArray}{l:List bL}(h:(l.map aL).Pairwise Less)(hh:hit k l=false):∀m∈l.drop (pos k l),Lt k (aL m):=by
 intro m hm;by_cases hl:pos k l<l.length
 ·obtain⟨e,he,hd⟩:=drop_at hl;have h1:=pos_at he
  have h2:aL e≠k:=by
   unfold hit at hh;rw[he]at hh;simpa using hh
  have h3:Lt k (aL e):=by
   rcases La (aL e) k with h|h|h
   ·exact absurd h h1
   ·exact absurd h h2
   ·exact h
  rw[hd]at hm;rcases apD.1 hm with rfl|hm
  ·exact h3
  ·exact lt_trans h3 (fH.1 (ac1 h he hm))
 ·rw[apz (by omega)]at hm;cases hm
theorem Bw{k:ByteArray}{l:List bL}(h:hit k l=true):∃m,l[pos k l]?=some m∧aL m=k:=by
 unfold hit at h;split at h
 ·rename_i m hm;exact⟨m,hm,by simpa using h⟩
 ·cases h
theorem Nu{g:bG}(hlen:(aN g).length≤256)(hup:((aN g).map aL).Pairwise Less)(k:ByteArray):Nn ((g,k,()),())=some (((pos k (aN g):Int),hit k (aN g),()),()):=by
 obtain⟨i,o,e,h1,h2,h3,h4,h5⟩:=aeO hlen hup k;have hi:=QT h1 h2 h3
 have ho:hit k (aN g)=o:=by
  unfold hit;rw[hi];cases o
  ·split
   ·rename_i m hm;exact aoU (h5 rfl m (aoX hm))
   ·rfl
  ·obtain⟨m,hm,hk⟩:=h4 rfl;rw[hm];exact aoS hk
 rw[e,hi,ho]
theorem find_eq{g:bG}(h:VG g)(k:ByteArray):Nn ((g,k,()),())=some (((pos k (aN g):Int),hit k (aN g),()),()):=Nu h.len h.up k
def Ey(t:Int):Int:=if t>8589934592 then -1 else t
def eP(se wait int t:Int):Int:=if se= -1 then t+wait else if se+int>t then se+int else t
def gB(du se wait int t:Int):Int:=Ey (if du= -1 then eP se wait int t else if du<eP se wait int t then du else eP se wait int t)
theorem og(t:Int):O7 ((t,()),())=some ((Ey t,()),()):=aao t
theorem jH(t:Int):Qh ((t,()),())=some ((Ey t,()),()):=by
 unfold Qh Ey;by_cases h:t>8589934592
 ·simp only[h,if_true,aA,sS]
 ·simp only[h,if_false,aA,sS]
theorem Wu{t:Int}(h:t≤8589934592):Ey t=t:=by unfold Ey;rw[if_neg (by omega)]
theorem Zh{du se wait int t:Int}(h:du≤8589934592):gB du se wait int t=if du= -1∨eP se wait int t<du then Ey (eP se wait int t)else du:=by
 unfold gB;generalize eP se wait int t=n;by_cases h1:du= -1
 ·simp[h1]
 ·by_cases h2:n<du
  ·have h3:¬ du<n:=by omega
   simp[h1,h2,h3]
  ·by_cases h3:du<n
   ·simp[h1,h2,h3,Wu h]
   ·have:n=du:=by omega
    subst this;simp[h1,Wu h]
abbrev jJ:JD:=(0,ByteArray.empty,0,0,())
abbrev zl(g:bG)(d:Int):JD:=(g.1,g.2.1,d,bU g,())
def rD(m:bL)(t:Int):bL:=(m.1,m.2.1,m.2.2.1,t,m.2.2.2.2)
def stepM(m:bL)(on:Bool)(t:Int):bL:=(m.1,m.2.1,t,eB m,on,on,())
abbrev RU(g:bG)(r:dw)(t:Int):Int:=gB (dZ g) (bU g) (iW r) (iH r) t
def Cc(g:bG)(ms:List bL):Int:=if ms.length=0 then -1 else dZ g
def kW(g:bG)(r:dw)(l:List LT)(on:Bool)(t:Int):Int×JD×List bL:=
 let k:=gL (dU l)
 let ms:=aN g
 let i:=pos k ms
 if hit k ms=true then
  match ms[i]? with
  |none=>(0,jJ,[])
  |some m=>
   if cK m=on then(0,zl g (dZ g),ms.set i (rD m t))
   else if on=true then(0,zl g (dZ g),ms.set i (stepM (rD m t) true t))
   else if dY m=true then(0,zl g (RU g r t),ms.set i (stepM (rD m t) false t))
   else(0,zl g (Cc g (ms.take i++ms.drop (i+1))),ms.take i++ms.drop (i+1))
 else if on=true then
  if ms.length=256 then(5,jJ,[])else(0,zl g (RU g r t),ms.take i++ [(k,l,t,t,true,false,())]++ms.drop i)
 else(0,zl g (Cc g ms),ms)
abbrev KM(x:Int×JD×List bL):Option ((Int×Unit)×((JD×Unit)×(List bL×Unit))):=some ((x.1,()),((x.2.1,()),(x.2.2,())))
theorem Wm{l:List bL}{i:Nat}{e:bL}(h:l[i]?=some e)(x:bL):(l.set i x)[i]?=some x:=by
 rw[List.getElem?_set_self (aoT.1 h).1]
theorem qb(l:List bL)(i:Nat)(x:bL):(l.set i x).take i=l.take i:=by
 rw[List.take_set,List.set_eq_of_length_le (by rw[apq];omega)]
theorem yE(l:List bL)(i:Nat)(x:bL):(l.set i x).drop (i+1)=l.drop (i+1):=by
 rw[List.drop_set,if_pos (by omega)]
theorem NZ(l:List bL):(((l.length:Nat):Int)==0)=decide (l.length=0):=by
 rw[dX];exact aqb.2 (by omega)
theorem ahl{g:bG}(h:VG g){r:dw}(hr:RR r){l:List LT}(hl:dh l=true)(on:Bool){t:Int}(ht:0≤t∧t≤8589934592):
  m73 ((g,r,l,on,t,()),())=KM (kW g r l on t):=by
 have q1:=KX h;have q2:=Mf r hr.z;rw[hr.ok]at q2;have q3:=CP l (jc hl);rw[hl]at q3;have q4:=K9 l (jc hl);rw[nQ hl]at q4;have q5:=find_eq h (gL (dU l));have q6:=LZ h;have dt:decide ((0:Int)≤t∧t≤8589934592)=true:=aoS ht;have hlen:=h.len;have hsent:=h.sent;have hdue:=h.due;have hv:=(fQ hl).1;have hw:=hr.wait;have hi:=hr.int;have hp:=hr.RS;have hx:=hr.max;have w1:aP (bU g+iH r)=bU g+iH r:=bH (by omega) (by omega);have w2:aP (t+iW r)=t+iW r:=bH (by omega) (by omega);have hple:=FX (gL (dU l)) (aN g);obtain⟨rt,ky,ms,du,se,⟨⟩⟩:=g;obtain⟨pa,mt,po,gb,wa,ir,rp,co,⟨⟩⟩:=r;dsimp only[aN,dZ,bU,iW,iH,oM,cor]at *;unfold m73;simp only[q1,q2,q3,q4,q5,q6,Ca,dt,aoV,apK,aA,sS];unfold kW;dsimp only[aN,dZ,bU,iW,iH,oM,zl,RU];have hx0:hit (gL (dU l)) ms=match ms[pos (gL (dU l)) ms]? with|some m=>decide (aL m=(gL (dU l)))|none=>false:=rfl
 generalize pos (gL (dU l)) ms=i at *;cases hh:hit (gL (dU l)) ms
 ·simp only[apj,if_false,aA,sS];cases on
  ·have b0:((ms.length:Int)==0)=decide (ms.length=0):=by
    rw[dX];exact aqb.2 (by omega)
   simp only[Cc,aN,dZ,b0,eq_self,apj,if_false,aA,sS];by_cases h0:ms.length=0
   ·simp only[h0,eq_self,if_true,aA,sS]
   ·simp only[h0,eq_self,if_false,aA,sS]
  ·by_cases h6:ms.length=256
   ·have b6:((ms.length:Int)==256)=true:=by rw[dX];exact aoS (by omega)
    simp only[b6,eq_self,if_true,aA,sS];rw[if_pos h6]
   ·have b6:((ms.length:Int)==256)=false:=by rw[dX];exact aoU (by omega)
    have d1:decide (l.length≤4294967296)=true:=aoS (by omega);have d2:decide ((0:Int)≤(i:Int)∧(i:Int)≤(ms.length:Int)∧ms.length≤4294967295)=true:=aoS (by omega)
    have b0:((((ms.take i++ [(gL (dU l),l,t,t,true,false,())]++ms.drop i).length:Nat):Int)==0)=false:=by
     rw[dX];exact aoU (by simp only[apt,List.length_singleton];omega)
    simp only[b6,h6,X6,d1,d2,List.length_singleton,aoV,eq_self,and_true,if_true,if_false,aA,sS];by_cases hs:se= -1<;>by_cases hd:du= -1
    ·subst hs;subst hd;simp only[w1,w2,gB,eP,og,b0,eq_self,if_true,if_false,aA,sS]
    ·subst hs;have bd:(du != -1)=true:=apO.2 hd;simp only[w1,w2,bd,hd,gB,eP,og,b0,eq_self,if_true,if_false,aA,sS]
    ·subst hd;have bs:(se != -1)=true:=apO.2 hs;simp only[w1,w2,bs,hs,gB,eP,og,b0,eq_self,if_true,if_false,aA,sS]
    ·have bd:(du != -1)=true:=apO.2 hd;have bs:(se != -1)=true:=apO.2 hs;simp only[w1,w2,bd,bs,hd,hs,gB,eP,og,b0,eq_self,if_true,if_false,aA,sS]
 ·have hm:∃m,ms[i]?=some m:=by
   by_cases hil:i<ms.length
   ·exact getD_some hil
   ·rw[apQ (by omega)]at hx0;exact absurd hh (by rw[hx0];simp)
  obtain⟨m,hm⟩:=hm;have hlt:i<ms.length:=(aoT.1 hm).1;have db:decide ((0:Int)≤(i:Int)∧(i:Int)<(ms.length:Int))=true:=aoS (by omega);have wi:aP ((i:Int)+1)=((i+1:Nat):Int):=aI (by omega);have dd:decide ((0:Int)≤(i:Int)∧(i:Int)<((i+1:Nat):Int)∧((i+1:Nat):Int)≤(ms.length:Int)∧ms.length≤4294967296)=true:=aoS (by omega);have sa:=Wm hm;have b0:((ms.length:Int)==0)=false:=by rw[dX];exact aoU (by omega)
  obtain⟨mk,ml,mn,mh,mf,mt',⟨⟩⟩:=m;simp only[hm,sa,db,List.set_set,apK,aoV,rD,stepM,aL,bK,eB,cK,dY,eq_self,if_true,aA,sS];have ft:(false==true)=false:=rfl;have tf:(true==false)=false:=rfl;cases mf<;>cases on
  ·simp only[b0,apK,eq_self,if_true,aA,sS]
  ·simp only[ft,b0,apK,eq_self,if_true,if_false,apj,aA,sS]
  ·cases mt'
   ·simp only[tf,wi,dd,qb,yE,Cc,aN,dZ,NZ,apK,aoV,eq_self,if_true,if_false,Bool.true_eq_false,apj,aA,sS];by_cases h0:(ms.take i++ms.drop (i+1)).length=0
    ·simp only[h0,eq_self,if_true,aA,sS]
    ·simp only[h0,eq_self,if_false,aA,sS]
   ·simp only[tf,if_true,if_false,Bool.true_eq_false,apj,aA,sS];by_cases hs:se= -1<;>by_cases hd:du= -1
    ·subst hs;subst hd;simp only[w1,w2,gB,eP,og,b0,apK,eq_self,if_true,if_false,aA,sS]
    ·subst hs;have bd:(du != -1)=true:=apO.2 hd;simp only[w1,w2,bd,hd,gB,eP,og,b0,apK,eq_self,if_true,if_false,aA,sS]
    ·subst hd;have bs:(se != -1)=true:=apO.2 hs;simp only[w1,w2,bs,hs,gB,eP,og,b0,apK,eq_self,if_true,if_false,aA,sS]
    ·have bd:(du != -1)=true:=apO.2 hd;have bs:(se != -1)=true:=apO.2 hs;simp only[w1,w2,bd,bs,hd,hs,gB,eP,og,b0,apK,eq_self,if_true,if_false,aA,sS]
  ·simp only[b0,apK,eq_self,if_true,aA,sS]
theorem QK{g:bG}(h:(aN g).length≤4294967296):Uc ((g,()),())=some ((),((cor g,()),(aN g,()))):=by
 unfold Uc;have:decide (0+g.2.2.1.length≤4294967296)=true:=aoS (by simpa using h);simp only[this,aA,sS];rfl
theorem Oj(k:ByteArray)(m:bL)(r:List bL):pos k (m::r)=if Op.bytesLess (aL m).toList k.toList=true then pos k r+1 else 0:=rfl
theorem agE(k:ByteArray)(ms:List bL)(hl:ms.length≤1000):aC xQ (((0:Int),k,()),(ms,()))=some ((k,(pos k ms:Int),()),(ms,())):=by
 have key:∀(d i:Nat),i+d=ms.length→pos k ms=i+pos k (ms.drop i)→aC xQ (((i:Int),k,()),(ms,()))=some ((k,(pos k ms:Int),()),(ms,())):=by
  intro d
  induction d with
  |zero=>
   intro i hi hp;rw[apz (by omega)]at hp;have:pos k ms=i:=hp;rw[this];refine aD ?_;have:decide ((i:Int)<((ms.length:Nat):Int))=false:=aoU (by omega);simp only[xQ,this,aA,sS]
  |succ d ih=>
   intro i hi hp;obtain⟨e,he,hd⟩:=drop_at (l:=ms) (i:=i) (by omega);rw[hd]at hp;have h1:decide ((i:Int)<((ms.length:Nat):Int))=true:=aoS (by omega);have h2:decide ((0:Int)≤(i:Int)∧(i:Int)<(ms.length:Int))=true:=aoS (by omega);have hw:aP ((i:Int)+1)=((i+1:Nat):Int):=aI (by omega);rw[Oj]at hp;by_cases hlt:Op.bytesLess (aL e).toList k.toList=true
   ·rw[if_pos hlt]at hp;have q:=ih (i+1) (by omega) (by omega);rw[←q];refine aK ?_;simp only[aL]at hlt;simp only[xQ,h1,h2,aoV,he,hlt,hw,aA,sS]
   ·rw[if_neg hlt]at hp;rw[show pos k ms=i from hp];refine aD ?_;simp only[aL,Bool.not_eq_true]at hlt;simp only[xQ,h1,h2,aoV,he,hlt,hw,aA,sS]
 exact key ms.length 0 (by omega) (by simp)
theorem Kv{g:bG}(h:VG g):m88 ((g,()),())=some ((true,()),()):=by
 have:=abF g ⟨by have:=h.len;unfold big;omega,fun m hm=>jc (h.mem m hm).lab⟩
 rwa [UM.2 h]at this
theorem Zy(ms:List bL)(i:Nat)(z x:bL)(hi:i≤ms.length):
  (bM (ms++ [z]) (i+1) (((((ms++ [z]).drop i).take ((ms++ [z]).length-i))).take ((ms++ [z]).length-(i+1)))).set i x=ms.take i++ [x]++ms.drop i:=by
 have hl:(ms++ [z]).length=ms.length+1:=by simp
 have a1:((ms++ [z]).drop i).take ((ms++ [z]).length-i)=ms.drop i++ [z]:=by
  rw[apF (by rw[ap8];exact ape _),List.drop_append_of_le_length hi]
 have e1:(ms.drop i++ [z]).take ((ms++ [z]).length-(i+1))=ms.drop i:=by
  rw[hl,aqw (by rw[ap8];omega),apF (by rw[ap8];omega)]
 have a3:(ms++ [z]).drop (i+1+(ms.drop i).length)=[]:=apz (by rw[hl,ap8];omega)
 have e2:(ms++ [z]).take (i+1)=ms.take i++ [(ms++ [z])[i]'(by rw[hl];omega)]:=by
  rw[List.take_succ_eq_append_getElem (by rw[hl];omega),aqw hi]
 rw[a1,e1];unfold bM;rw[a3,ap6,e2,ap0,List.set_append_right _ _ (by rw[apq];omega)];rw[show i-(ms.take i).length=0 by rw[apq];omega];simp
theorem ac6(ms:List bL)(i:Nat)(z:bL)(hi:i≤ms.length):
  (bM (ms++ [z]) (i+1) (((((ms++ [z]).drop i).take ((ms++ [z]).length-i))).take ((ms++ [z]).length-(i+1)))).length=ms.length+1:=by
 have:=congrArg List.length (Zy ms i z z hi);rw[apK]at this;rw[this];simp;omega
theorem aj8{g:bG}(h:VG g){r:dw}(hr:RR r){l:List LT}(hl:dh l=true)(on:Bool){t:Int}(ht:0≤t∧t≤8589934592):
  m92 ((g,r,l,on,t,()),())=KM (kW g r l on t):=by
 have q1:=Kv h;have q2:=KI r hr.z;rw[hr.ok]at q2;have q3:=Db l (jc hl);rw[hl]at q3;have q4:=Qu l (jc hl);rw[nQ hl]at q4;have hlen:=h.len;have q5:=agE (gL (dU l)) (aN g) (by omega);have q6:=QK (g:=g) (by omega);have dt:inst t=true:=aoS ht;have hsent:=h.sent;have hdue:=h.due;have hv:=(fQ hl).1;have hw:=hr.wait;have hi:=hr.int;have hp:=hr.RS;have hx:=hr.max;have w1:aP (bU g+iH r)=bU g+iH r:=bH (by omega) (by omega);have w2:aP (t+iW r)=t+iW r:=bH (by omega) (by omega);have hple:=FX (gL (dU l)) (aN g);have hwr:=fun wa ir=>Zh (du:=dZ g) (se:=bU g) (wait:=wa) (int:=ir) (t:=t) hdue.2
 obtain⟨rt,ky,ms,du,se,⟨⟩⟩:=g;obtain⟨pa,mt,po,gb,wa,ir,rp,co,⟨⟩⟩:=r;dsimp only[aN,dZ,bU,iW,iH,oM,cor]at *;unfold m92;simp only[q1,q2,q3,q4,q6,xE,dt,aoV,apK,aA,sS];refine aM _ q5 ?_;unfold kW;dsimp only[aN,dZ,bU,iW,iH,oM,zl,RU];have hx0:hit (gL (dU l)) ms=match ms[pos (gL (dU l)) ms]? with|some m=>decide (aL m=(gL (dU l)))|none=>false:=rfl
 generalize pos (gL (dU l)) ms=i at *
 have key:∀F:((Int×Bool×Unit)×(List bL×Unit))→Option ((Int×Unit)×((JD×Unit)×(List bL×Unit))),
   ((bif decide ((i:Int)<((ms.length:Nat):Int))then(bif (decide ((0:Int)≤(i:Int)∧(i:Int)<(ms.length:Int)))then
     (ms[i]?).bind fun e219=>some (((i:Int),((e219.1.toList==(gL (dU l)).toList),())),(ms,()))
     else none)else(some (((i:Int),(false,())),(ms,()))):Option ((Int×Bool×Unit)×(List bL×Unit))).bind F)=F (((i:Int),(hit (gL (dU l)) ms,())),(ms,())):=by
  intro F;rw[hx0];by_cases hil:i<ms.length
  ·obtain⟨e,he⟩:=getD_some hil;have h1:decide ((i:Int)<((ms.length:Nat):Int))=true:=aoS (by omega);have h2:decide ((0:Int)≤(i:Int)∧(i:Int)<(ms.length:Int))=true:=aoS (by omega);simp only[h1,h2,he,bD,gF,aL,aA,sS]
  ·have h1:decide ((i:Int)<((ms.length:Nat):Int))=false:=aoU (by omega);simp only[h1,apQ (show ms.length≤i by omega),aA,sS]
 refine(key _).trans ?_;dsimp only;cases hh:hit (gL (dU l)) ms
 ·simp only[apj,if_false,eq_self,aA,sS];cases on
  ·simp only[Cc,aN,dZ,NZ,eq_self,apj,if_false,aA,sS];by_cases h0:ms.length=0
   ·simp only[h0,eq_self,if_true,aA,sS]
   ·simp only[h0,eq_self,if_false,aA,sS]
  ·by_cases h6:ms.length=256
   ·have b6:decide (((ms.length:Nat):Int)≥256)=true:=aoS (by omega);simp only[b6,eq_self,if_true,aA,sS];rw[if_pos h6]
   ·have b6:decide (((ms.length:Nat):Int)≥256)=false:=aoU (by omega);have d1:decide (0+l.length≤4294967296)=true:=aoS (by omega);have d2:decide (ms.length+([(ByteArray.empty,([],(0,(0,(false,(false,()))))))]:List bL).length≤4294967296)=true:=aoS (by simp;omega);have hxl:(ms++([(ByteArray.empty,([],(0,(0,(false,(false,()))))))]:List bL)).length=ms.length+1:=by simp
    have wi:aP ((i:Int)+1)=((i+1:Nat):Int):=aI (by omega);have d3:decide ((0:Int)≤((i+1:Nat):Int))=true:=aoS (by omega);have d4:decide ((0:Int)≤(i:Int))=true:=aoS (by omega);have d5:decide (i+1≤ms.length+1∧ms.length+1≤ms.length+1)=true:=aoS (by omega);have d6:decide (i≤ms.length+1∧ms.length+1≤ms.length+1)=true:=aoS (by omega);have d7:decide (i+(ms.length+1-i)≤ms.length+1)=true:=aoS (by omega);have d8:decide (i+1+(ms.length+1-(i+1))≤ms.length+1)=true:=aoS (by omega);have d9:decide ((0:Int)≤(i:Int)∧(i:Int)<((ms.length+1:Nat):Int))=true:=aoS (by omega);have d10:decide (i<ms.length+1)=true:=aoS (by omega);have e1:=ac6 ms i (ByteArray.empty,([],(0,(0,(false,(false,())))))) (by omega);have e2:=Zy ms i (ByteArray.empty,([],(0,(0,(false,(false,())))))) (gL (dU l),l,t,t,true,false,()) (by omega);rw[hxl]at e1 e2
    have e3:(ms.take i++ [(gL (dU l),l,t,t,true,false,())]++ms.drop i).length=ms.length+1:=by simp;omega
    simp only[b6,h6,d1,d2,hxl,wi,d3,d4,d5,d6,d7,d8,aoV,e1,d9,d10,e2,eq_self,if_true,if_false,aA,sS];rw[hwr];by_cases hs:se= -1<;>by_cases hd:du= -1
    ·subst hs;subst hd;simp only[w1,w2,eP,jH,e3,eq_self,true_or,if_true,if_false,aA,sS]
    ·subst hs;have bd:(du== -1)=false:=apn.2 hd;by_cases hn:t+wa<du
     ·simp only[w1,w2,bd,hd,hn,aoS hn,eP,jH,e3,eq_self,or_true,if_true,if_false,aA,sS]
     ·simp only[w1,w2,bd,hd,hn,aoU hn,eP,jH,e3,eq_self,or_self,if_true,if_false,aA,sS]
    ·subst hd;have bs:(se != -1)=true:=apO.2 hs;simp only[w1,w2,bs,hs,eP,jH,e3,eq_self,true_or,if_true,if_false,aA,sS]
    ·have bd:(du== -1)=false:=apn.2 hd;have bs:(se != -1)=true:=apO.2 hs;by_cases hn:(if se+ir>t then se+ir else t)<du
     ·simp only[w1,w2,bd,bs,hd,hs,hn,aoS hn,eP,jH,e3,eq_self,or_true,if_true,if_false,aA,sS]
     ·simp only[w1,w2,bd,bs,hd,hs,hn,aoU hn,eP,jH,e3,eq_self,or_self,if_true,if_false,aA,sS]
 ·have hm:∃m,ms[i]?=some m:=by
   by_cases hil:i<ms.length
   ·exact getD_some hil
   ·rw[apQ (by omega)]at hx0;exact absurd hh (by rw[hx0];simp)
  obtain⟨m,hm⟩:=hm;have hlt:i<ms.length:=(aoT.1 hm).1;have db:decide ((0:Int)≤(i:Int)∧(i:Int)<(ms.length:Int))=true:=aoS (by omega);have wi:aP ((i:Int)+1)=((i+1:Nat):Int):=aI (by omega);have d3:decide ((0:Int)≤((i+1:Nat):Int))=true:=aoS (by omega);have d4:decide ((0:Int)≤(i:Int))=true:=aoS (by omega);have d5:decide (0≤i∧i≤ms.length)=true:=aoS (by omega);have d6:decide (i+1≤ms.length∧ms.length≤ms.length)=true:=aoS (by omega);have d7:decide (i+1+(ms.length-(i+1))≤ms.length)=true:=aoS (by omega);have e0:(ms.drop (i+1)).take (ms.length-(i+1))=ms.drop (i+1):=apF (by rw[ap8];omega);have d8:decide (i≤ms.length∧i+(ms.drop (i+1)).length≤4294967296)=true:=aoS (by rw[ap8];omega);have sa:=Wm hm;obtain⟨mk,ml,mn,mh,mf,mt',⟨⟩⟩:=m;simp only[hm,sa,db,List.set_set,apK,aoV,rD,stepM,aL,bK,eB,cK,dY,eq_self,if_true,aA,sS];cases mf<;>cases on
  ·simp only[sa,eq_self,if_true,aA,sS]
  ·simp only[sa,List.set_set,eq_self,if_true,if_false,apj,Bool.true_eq_false,aA,sS]
  ·cases mt'
   ·simp only[sa,db,wi,d3,d4,d5,d6,d7,d8,e0,true_and,qb,yE,Cc,aN,dZ,NZ,apK,aoV,eq_self,if_true,if_false,Bool.true_eq_false,apj,aA,sS];by_cases h0:(ms.take i++ms.drop (i+1)).length=0
    ·simp only[h0,eq_self,if_true,aA,sS]
    ·simp only[h0,eq_self,if_false,aA,sS]
   ·simp only[sa,db,List.set_set,apK,aoV,if_true,if_false,Bool.true_eq_false,apj,aA,sS];rw[hwr];by_cases hs:se= -1<;>by_cases hd:du= -1
    ·subst hs;subst hd;simp only[w1,w2,eP,jH,apK,eq_self,true_or,if_true,if_false,aA,sS]
    ·subst hs;have bd:(du== -1)=false:=apn.2 hd;by_cases hn:t+wa<du
     ·simp only[w1,w2,bd,hd,hn,aoS hn,eP,jH,apK,eq_self,or_true,if_true,if_false,aA,sS]
     ·simp only[w1,w2,bd,hd,hn,aoU hn,eP,jH,apK,eq_self,or_self,if_true,if_false,aA,sS]
    ·subst hd;have bs:(se != -1)=true:=apO.2 hs;simp only[w1,w2,bs,hs,eP,jH,apK,eq_self,true_or,if_true,if_false,aA,sS]
    ·have bd:(du== -1)=false:=apn.2 hd;have bs:(se != -1)=true:=apO.2 hs;by_cases hn:(if se+ir>t then se+ir else t)<du
     ·simp only[w1,w2,bd,bs,hd,hs,hn,aoS hn,eP,jH,apK,eq_self,or_true,if_true,if_false,aA,sS]
     ·simp only[w1,w2,bd,bs,hd,hs,hn,aoU hn,eP,jH,apK,eq_self,or_self,if_true,if_false,aA,sS]
  ·simp only[sa,eq_self,if_true,aA,sS]
def PW(m:bL)(t a:Int):Bool:=cK m&&decide (eB m≤t-a)
def j4(se wa ir t a:Int):List bL→Int→List bL→List bL×Int
 |kept,du,[]=>(kept,du)
 |kept,du,m::r=>
  if PW m t a=true then
   if dY m=true then j4 se wa ir t a (kept++ [stepM m false t]) (gB du se wa ir t) r
   else j4 se wa ir t a kept (if(kept++r).length=0 then -1 else du) r
  else j4 se wa ir t a (kept++ [m]) du r
def yw(g:bG)(r:dw)(t a:Int):Int×JD×List bL:=
 if a=0 then(0,zl g (dZ g),aN g)
 else(0,zl g (j4 (bU g) (iW r) (iH r) t a [] (dZ g) (aN g)).2,(j4 (bU g) (iW r) (iH r) t a [] (dZ g) (aN g)).1)
theorem aaw{A B:List bL}{m:bL}(h:((A++m::B).map aL).Pairwise Less):pos (aL m) (A++m::B)=A.length∧hit (aL m) (A++m::B)=true:=by
 rw[ap3,apw,List.pairwise_append]at h;obtain⟨h1,h2,h3⟩:=h;have h2:=aqm.1 h2
 have hp:pos (aL m) (A++m::B)=A.length:=by
  refine QT (by simp) (fun x hx=> ?_) (fun x hx=> ?_)
  ·rw[List.take_left' rfl]at hx;exact fH.1 (h3 (aL x) (List.mem_map_of_mem hx) (aL m) (by simp))
  ·rw[List.drop_left' rfl]at hx;rcases apD.1 hx with rfl|hx
   ·exact nX _
   ·exact fun hc=>nX _ (lt_trans (fH.1 (h2.1 (aL x) (List.mem_map_of_mem hx))) hc)
 refine⟨hp,?_⟩;unfold hit;rw[hp,apg (ape _),Nat.sub_self];simp
theorem Dp(A:List bL)(m:bL)(B:List bL):(A++m::B)[A.length]?=some m:=by
 rw[apg (ape _),Nat.sub_self];rfl
theorem Ko(A:List bL)(m x:bL)(B:List bL):(A++m::B).set A.length x=A++x::B:=by
 rw[List.set_append_right _ _ (ape _),Nat.sub_self];rfl
theorem NH(A:List bL)(m:bL)(B:List bL):(A++m::B).take A.length=A:=List.take_left' rfl
theorem MJ(A:List bL)(m:bL)(B:List bL):(A++m::B).drop (A.length+1)=B:=by
 rw[List.drop_append,apz (by omega),aq3];simp
theorem Rw{du se wa ir t:Int}(h1:0≤t∧t≤8589934592)(h2:0≤wa)(h3: -1≤du∧du≤8589934592)(h4: -1≤se)(h5:0≤ir): -1≤gB du se wa ir t∧gB du se wa ir t≤8589934592:=by
 unfold gB eP Ey;split<;>split<;>(repeat' split)<;>omega
theorem PZ(rt:Int)(ky:ByteArray)(se t a:Int){r:dw}(hr:RR r)(gms:List bL)(hse: -1≤se∧se≤8589934592)(ht:0≤t∧t≤8589934592)(ha:0≤a∧a≤604800)(hg:gms.length≤256):∀(rem:List bL) (i:Nat) (kept:List bL) (du:Int),gms.drop i=rem→i≤gms.length→
  ((kept++rem).map aL).Pairwise Less→kept.length≤i→ -1≤du∧du≤8589934592→
  aC qE (((i:Int),t,a,gms,(gms.length:Int),()),(((rt,ky,du,se,()),()),((r,()),((jJ,()),(kept++rem,())))))=
   some ((),((jJ,()),(((rt,ky,(j4 se (iW r) (iH r) t a kept du rem).2,se,()),()),((j4 se (iW r) (iH r) t a kept du rem).1,())))):=by
 intro rem
 induction rem with
 |nil=>
  intro i kept du hd hi hup hk hdu
  have:i=gms.length:=by
   have:=congrArg List.length hd;rw[ap8]at this;simp at this;omega
  subst this;refine aD ?_;simp only[qE,cO,j4,ap6,aA,sS]
 |cons m rem ih=>
  intro i kept du hd hi hup hk hdu
  have hlt:i<gms.length:=by
   have:=congrArg List.length hd;rw[ap8]at this;simp at this;omega
  obtain⟨e,he,hd2⟩:=drop_at hlt;rw[hd2]at hd;injection hd with hd0 hd1;subst hd0
  have hrl:rem.length+(i+1)=gms.length:=by
   rw[←hd1,ap8];omega
  have hw:=aI (i:=i) (by omega);have hkl:(kept++e::rem).length≤256:=by simp;omega
  obtain⟨hp,hh⟩:=aaw hup;have q:=Nu (g:=(rt,ky,kept++e::rem,du,se,())) hkl hup (aL e);dsimp only[aN]at q;rw[hp,hh]at q;have hup1:((kept++ [e]++rem).map aL).Pairwise Less:=by rw[ap0];exact hup
  have next:=fun x (hx:aL x=aL e) du' hdu'=>ih (i+1) (kept++ [x]) du' hd1 (by omega) (by
   rw[ap0];rw[ap3,ap3,apw,apA,hx];rw[ap3,apw]at hup;exact hup) (by simp;omega) hdu'
  have w3:aP (t-a)=t-a:=bH (by omega) (by omega);obtain⟨pa,mt,po,gb,wa,ir,rp,co,⟨⟩⟩:=r;have hwa:=hr.wait;have hir:=hr.int;have hrp:=hr.RS;have hmx:=hr.max;dsimp only[iW,iH,oM]at *;obtain⟨mk,ml,mn,mh,mf,mt',⟨⟩⟩:=e;dsimp only[aL]at *;unfold j4;by_cases ho:PW (mk,ml,mn,mh,mf,mt',()) t a=true
  ·rw[if_pos ho];unfold PW at ho;dsimp only[cK,eB]at ho;rw[apo]at ho;obtain⟨rfl,ho⟩:=ho;have hkl2:kept.length+(rem.length+1)≤256:=by simpa using hkl
   have db:decide ((0:Int)≤(kept.length:Int)∧(kept.length:Int)<((kept.length+(rem.length+1):Nat):Int))=true:=aoS (by omega);have wk:aP ((kept.length:Int)+1)=((kept.length+1:Nat):Int):=aI (by omega);have dd:decide ((0:Int)≤(kept.length:Int)∧(kept.length:Int)<((kept.length+1:Nat):Int)∧((kept.length+1:Nat):Int)≤((kept.length+(rem.length+1):Nat):Int)∧kept.length+(rem.length+1)≤4294967296)=true:=aoS (by omega);have tf:(true==false)=false:=rfl;have sl:∀x:bL,(kept++x::rem).length=kept.length+(rem.length+1):=fun x=>by simp
   have sz:((((kept.length+(rem.length+1):Nat):Int))==0)=false:=by rw[dX];exact aoU (by omega)
   cases mt'
   ·have n0:(if dY ((mk,ml,mn,mh,true,false,()):bL)=true then j4 se wa ir t a (kept++ [stepM (mk,ml,mn,mh,true,false,()) false t]) (gB du se wa ir t) rem else j4 se wa ir t a kept (if(kept++rem).length=0 then -1 else du) rem)=j4 se wa ir t a kept (if(kept++rem).length=0 then -1 else du) rem:=rfl;rw[n0]
    have q2:=ih (i+1) kept (if(kept++rem).length=0 then -1 else du) hd1 (by omega) (by
     rw[ap3,apw]at hup;rw[ap3];exact hup.sublist (List.Sublist.append (List.Sublist.refl _) (List.sublist_cons_self _ _))) (by omega) (by split<;>omega)
    rw[←q2];refine aK ?_;simp only[qE,bQ hlt,aJ,aG he,q,w3,ho,aA,sS];simp only[sl,db,aoV,Dp,tf,wk,dd,NH,MJ,NZ,eq_self,aA,sS];by_cases h0:(kept++rem).length=0
    ·simp only[h0,hw,eq_self,if_true,aA,sS]
    ·simp only[h0,hw,eq_self,if_false,aA,sS]
   ·have n0:(if dY ((mk,ml,mn,mh,true,true,()):bL)=true then j4 se wa ir t a (kept++ [stepM (mk,ml,mn,mh,true,true,()) false t]) (gB du se wa ir t) rem else j4 se wa ir t a kept (if(kept++rem).length=0 then -1 else du) rem)=j4 se wa ir t a (kept++ [stepM (mk,ml,mn,mh,true,true,()) false t]) (gB du se wa ir t) rem:=rfl;rw[n0,←next (stepM (mk,ml,mn,mh,true,true,()) false t) rfl (gB du se wa ir t) (Rw ht hwa hdu hse.1 (by omega)),ap0];refine aK ?_;have w1:aP (se+ir)=se+ir:=bH (by omega) (by omega);have w2:aP (t+wa)=t+wa:=bH (by omega) (by omega);simp only[qE,bQ hlt,aJ,aG he,q,w3,ho,aA,sS];simp only[sl,db,aoV,Dp,Ko,tf,aqk,stepM,eB,eq_self,aA,sS];by_cases hs:se= -1<;>by_cases hd:du= -1
    ·subst hs;subst hd;simp only[w1,w2,gB,eP,og,sl,sz,hw,eq_self,if_true,if_false,aA,sS]
    ·subst hs;have bd:(du != -1)=true:=apO.2 hd;simp only[w1,w2,bd,hd,gB,eP,og,sl,sz,hw,eq_self,if_true,if_false,aA,sS]
    ·subst hd;have bs:(se != -1)=true:=apO.2 hs;simp only[w1,w2,bs,hs,gB,eP,og,sl,sz,hw,eq_self,if_true,if_false,aA,sS]
    ·have bd:(du != -1)=true:=apO.2 hd;have bs:(se != -1)=true:=apO.2 hs;simp only[w1,w2,bd,bs,hd,hs,gB,eP,og,sl,sz,hw,eq_self,if_true,if_false,aA,sS]
  ·rw[if_neg ho];rw[←next _ rfl du hdu,ap0];refine aK ?_;unfold PW at ho;dsimp only[cK,eB]at ho;simp only[qE,bQ hlt,aJ,aG he,q,w3,aA,sS];cases mf
   ·simp only[hw,aqk,aA,sS]
   ·have:decide (mh≤t-a)=false:=by simpa using ho
    simp only[this,hw,aqk,aA,sS]
theorem ahG{g:bG}(h:VG g){r:dw}(hr:RR r){t a:Int}(ht:0≤t∧t≤8589934592)(ha:0≤a∧a≤604800):ac3 ((g,r,t,a,()),())=KM (yw g r t a):=by
 have q1:=KX h;have q2:=Mf r hr.z;rw[hr.ok]at q2;have q6:=LZ h;have dt:decide ((0:Int)≤t∧t≤8589934592)=true:=aoS ht;have da:decide ((0:Int)≤a∧a≤604800)=true:=aoS ha;have hl:=PZ g.1 g.2.1 (bU g) t a hr (aN g) h.sent ht ha h.len (aN g) 0 [] (dZ g) rfl (ap5 _) h.up (ap5 _) h.due;obtain⟨rt,ky,ms,du,se,⟨⟩⟩:=g;dsimp only[aN,dZ,bU,cor]at *;unfold ac3 yw;simp only[q1,q2,q6,Ca,dt,da,aA,sS];by_cases h0:a=0
 ·subst h0;simp only[eq_self,if_true,apW,aA,sS]
 ·have b0:(a==0)=false:=apn.2 h0;rw[if_neg h0,b0];simp only[aA,sS];exact aM _ hl rfl
theorem QG(rt:Int)(ky:ByteArray)(se t a:Int){r:dw}(hr:RR r)(hse: -1≤se∧se≤8589934592)(ht:0≤t∧t≤8589934592)(ha:0<a∧a≤604800):∀(rem:List bL) (kept:List bL) (du:Int),
  kept.length+rem.length≤256→ -1≤du∧du≤8589934592→
  aC lg (((kept.length:Int),t,a,()),(((rt,ky,du,se,()),()),((r,()),((jJ,()),(kept++rem,())))))=
   some ((),((jJ,()),(((rt,ky,(j4 se (iW r) (iH r) t a kept du rem).2,se,()),()),((j4 se (iW r) (iH r) t a kept du rem).1,())))):=by
 intro rem
 induction rem with
 |nil=>
  intro kept du hk hdu;rw[ap6];refine aD ?_;have:decide ((kept.length:Int)<((kept.length:Nat):Int))=false:=aoU (by omega);simp only[lg,this,j4,aA,sS]
 |cons m rem ih=>
  intro kept du hk hdu;have w3:aP (t-a)=t-a:=bH (by omega) (by omega);have da:decide (a>0)=true:=aoS ha.1;simp only[ap9]at hk;have wk:aP ((kept.length:Int)+1)=((kept.length+1:Nat):Int):=aI (by omega);have next:=fun x du' hdu'=>ih (kept++ [x]) du' (by simp;omega) hdu'
  have sl:∀x:bL,(kept++x::rem).length=kept.length+(rem.length+1):=fun x=>by simp
  have b1:decide ((kept.length:Int)<((kept.length+(rem.length+1):Nat):Int))=true:=aoS (by omega);have b2:decide ((0:Int)≤(kept.length:Int)∧(kept.length:Int)<((kept.length+(rem.length+1):Nat):Int))=true:=aoS (by omega);have hk1:∀x:bL,(((kept++ [x]).length:Nat):Int)=((kept.length+1:Nat):Int):=fun x=>by simp
  obtain⟨pa,mt,po,gb,wa,ir,rp,co,⟨⟩⟩:=r;have hwa:=hr.wait;have hir:=hr.int;have hrp:=hr.RS;have hmx:=hr.max;dsimp only[iW,iH,oM]at *;obtain⟨mk,ml,mn,mh,mf,mt',⟨⟩⟩:=m;unfold j4;by_cases ho:PW (mk,ml,mn,mh,mf,mt',()) t a=true
  ·rw[if_pos ho];unfold PW at ho;dsimp only[cK,eB]at ho;rw[apo]at ho;obtain⟨rfl,ho⟩:=ho;cases mt'
   ·have n0:(if dY ((mk,ml,mn,mh,true,false,()):bL)=true then j4 se wa ir t a (kept++ [stepM (mk,ml,mn,mh,true,false,()) false t]) (gB du se wa ir t) rem else j4 se wa ir t a kept (if(kept++rem).length=0 then -1 else du) rem)=j4 se wa ir t a kept (if(kept++rem).length=0 then -1 else du) rem:=rfl;rw[n0];have q2:=ih kept (if(kept++rem).length=0 then -1 else du) (by omega) (by split<;>omega);rw[←q2];refine aK ?_;have c1:decide ((0:Int)≤(kept.length:Int))=true:=aoS (by omega);have c2:decide (0≤kept.length∧kept.length≤kept.length+(rem.length+1))=true:=aoS (by omega);have c3:decide ((0:Int)≤((kept.length+1:Nat):Int))=true:=aoS (by omega);have c4:decide (kept.length+1≤kept.length+(rem.length+1)∧kept.length+(rem.length+1)≤kept.length+(rem.length+1))=true:=aoS (by omega);have c5:decide (kept.length+1+(kept.length+(rem.length+1)-(kept.length+1))≤kept.length+(rem.length+1))=true:=aoS (by omega)
    have e0:rem.take (kept.length+(rem.length+1)-(kept.length+1))=rem:=apF (by omega);have c6:decide (kept.length≤kept.length+(rem.length+1)∧kept.length+rem.length≤4294967296)=true:=aoS (by omega);have c7:decide ((((kept++rem).length:Nat):Int)<((kept.length+(rem.length+1):Nat):Int))=true:=aoS (by simp;omega);simp only[lg,sl,b1,b2,aoV,Dp,da,w3,ho,c1,c2,wk,c3,c4,c5,NH,MJ,e0,c6,NZ,true_and,eq_self,aA,sS];by_cases h0:(kept++rem).length=0
    ·simp only[h0,eq_self,if_true,aA,sS];rw[h0]at c7;simp only[c7,aA,sS]
    ·simp only[h0,c7,eq_self,if_false,aA,sS]
   ·have n0:(if dY ((mk,ml,mn,mh,true,true,()):bL)=true then j4 se wa ir t a (kept++ [stepM (mk,ml,mn,mh,true,true,()) false t]) (gB du se wa ir t) rem else j4 se wa ir t a kept (if(kept++rem).length=0 then -1 else du) rem)=j4 se wa ir t a (kept++ [stepM (mk,ml,mn,mh,true,true,()) false t]) (gB du se wa ir t) rem:=rfl;rw[n0,←next (stepM (mk,ml,mn,mh,true,true,()) false t) (gB du se wa ir t) (Rw ht hwa hdu hse.1 (by omega)),ap0,hk1];refine aK ?_;have w1:aP (se+ir)=se+ir:=bH (by omega) (by omega);have w2:aP (t+wa)=t+wa:=bH (by omega) (by omega);have c7:decide (((kept.length+(rem.length+1):Nat):Int)<((kept.length+(rem.length+1):Nat):Int))=false:=aoU (by omega);rw[Zh hdu.2];simp only[lg,sl,b1,b2,aoV,Dp,Ko,da,w3,ho,aqk,stepM,eB,eq_self,aA,sS];by_cases hs:se= -1<;>by_cases hd:du= -1
    ·subst hs;subst hd;simp only[w1,w2,eP,jH,sl,c7,wk,eq_self,true_or,if_true,if_false,aA,sS]
    ·subst hs;have bd:(du== -1)=false:=apn.2 hd;by_cases hn:t+wa<du
     ·simp only[w1,w2,bd,hd,hn,aoS hn,eP,jH,sl,c7,wk,eq_self,or_true,if_true,if_false,aA,sS]
     ·simp only[w1,w2,bd,hd,hn,aoU hn,eP,jH,sl,c7,wk,eq_self,or_self,if_true,if_false,aA,sS]
    ·subst hd;have bs:(se != -1)=true:=apO.2 hs;simp only[w1,w2,bs,hs,eP,jH,sl,c7,wk,eq_self,true_or,if_true,if_false,aA,sS]
    ·have bd:(du== -1)=false:=apn.2 hd;have bs:(se != -1)=true:=apO.2 hs;by_cases hn:(if se+ir>t then se+ir else t)<du
     ·simp only[w1,w2,bd,bs,hd,hs,hn,aoS hn,eP,jH,sl,c7,wk,eq_self,or_true,if_true,if_false,aA,sS]
     ·simp only[w1,w2,bd,bs,hd,hs,hn,aoU hn,eP,jH,sl,c7,wk,eq_self,or_self,if_true,if_false,aA,sS]
  ·rw[if_neg ho];rw[←next _ du hdu,ap0,hk1];refine aK ?_;unfold PW at ho;dsimp only[cK,eB]at ho;simp only[lg,sl,b1,b2,aoV,Dp,da,w3,aA,sS];cases mf
   ·simp only[wk,aqk,aA,sS]
   ·have:decide (mh≤t-a)=false:=by simpa using ho
    simp only[this,wk,aqk,aA,sS]
theorem Rc(rt:Int)(ky:ByteArray)(se t du:Int){r:dw}(ms:List bL)(hl:ms.length≤256):
  aC lg (((0:Int),t,0,()),(((rt,ky,du,se,()),()),((r,()),((jJ,()),(ms,())))))=some ((),((jJ,()),(((rt,ky,du,se,()),()),(ms,())))):=by
 refine dL ms (fun i=>(((i:Int),t,0,()),(((rt,ky,du,se,()),()),((r,()),((jJ,()),(ms,())))))) _ (fun i e he hi=> ?_) (by
  have:decide ((ms.length:Int)<((ms.length:Nat):Int))=false:=aoU (by omega);simp only[lg,this,aA,sS])
 have b1:decide ((i:Int)<((ms.length:Nat):Int))=true:=aoS (by omega);have b2:decide ((0:Int)≤(i:Int)∧(i:Int)<(ms.length:Int))=true:=aoS (by omega);have da:decide ((0:Int)>0)=false:=rfl;have wk:aP ((i:Int)+1)=((i+1:Nat):Int):=aI (by omega);simp only[lg,b1,b2,aoV,he,da,wk,aA,sS]
theorem aib{g:bG}(h:VG g){r:dw}(hr:RR r){t a:Int}(ht:0≤t∧t≤8589934592)(ha:0≤a∧a≤604800):m94 ((g,r,t,a,()),())=KM (yw g r t a):=by
 have q1:=Kv h;have q2:=KI r hr.z;rw[hr.ok]at q2;have hlen:=h.len;have q6:=QK (g:=g) (by omega);have dt:inst t=true:=aoS ht;have d1:decide (a<0)=false:=aoU (by omega);have d2:decide (a>604800)=false:=aoU (by omega)
 have hl:aC lg (((0:Int),t,a,()),(((g.1,g.2.1,dZ g,bU g,()),()),((r,()),((jJ,()),(aN g,())))))=some ((),((jJ,()),(((yw g r t a).2.1,()),((yw g r t a).2.2,())))):=by
  unfold yw;by_cases h0:a=0
  ·subst h0;rw[if_pos rfl];exact Rc _ _ _ _ _ _ hlen
  ·rw[if_neg h0];exact QG g.1 g.2.1 (bU g) t a hr h.sent ht (by omega) (aN g) [] (dZ g) (by simpa using hlen) h.due
 have he:(yw g r t a).1=0:=by unfold yw;split<;>rfl
 obtain⟨rt,ky,ms,du,se,⟨⟩⟩:=g;dsimp only[aN,dZ,bU,cor]at *;unfold m94;simp only[q1,q2,q6,xE,dt,d1,d2,aA,sS];refine aM _ hl ?_
 show _=some (((yw (rt,ky,ms,du,se,()) r t a).1,()),_)
 rw[he]
abbrev Ji:=Int×Int×Int×ByteArray×Unit
abbrev jP:Ji:=(0,0,0,ByteArray.empty,())
def Bj(mu:List ByteArray)(k:ByteArray):Bool:=mu.any fun x=>decide (x=k)
def fF(mu:List ByteArray)(ms:List bL):List ByteArray:=(ms.filter fun m=> !Bj mu (aL m)&&cK m).map aL
def gT(mu:List ByteArray)(ms:List bL):List ByteArray:=(ms.filter fun m=> !Bj mu (aL m)&& !cK m).map aL
def E8(mu:List ByteArray)(ms:List bL):Bool:=ms.any fun m=> !Bj mu (aL m)&&(cK m&& !dY m)
def kK(F:List ByteArray)(m:bL):bL:=(m.1,m.2.1,m.2.2.1,m.2.2.2.1,m.2.2.2.2.1,dY m||Bj F (aL m),())
def lK(F R:List ByteArray)(ms:List bL):List bL:=(ms.filter fun m=> !Bj R (aL m)).map (kK F)
def qP(ms:List bL):Bool:=ms.any fun m=> !dY m
def Ht(se RS t:Int)(F:List ByteArray):Bool:=decide (0<F.length)&&(se != -1)&&decide (se+RS≤t)
def Bo(se RS t:Int)(mu:List ByteArray)(ms:List bL):Bool:=E8 mu ms||Ht se RS t (fF mu ms)||decide (0<(gT mu ms).length)
def nU(se int RS t:Int)(o:Bool):Int:=Ey (max (if o=true∨se+RS≤t then t+int else se+RS) (t+1))
abbrev LkT:=Bool×JD×Ji×List bL×List ByteArray×List ByteArray
def j6(g:bG)(r:dw)(t:Int)(mu:List ByteArray):LkT:=
 if dZ g= -1∨dZ g>t then(false,zl g (dZ g),jP,aN g,[],[])
 else
  let F:=fF mu (aN g)
  let R:=gT mu (aN g)
  if Bo (bU g) (oM r) t mu (aN g)=true then
   (true,(g.1,g.2.1,(if(lK F R (aN g)).length=0 then -1 else nU t (iH r) (oM r) t (qP (lK F R (aN g)))),t,()),(t,g.1,r.2.2.1,g.2.1,()),lK F R (aN g),F,R)
  else(false,zl g (if(aN g).length=0 then -1 else nU (bU g) (iH r) (oM r) t (qP (aN g))),jP,aN g,[],[])
theorem fE{A:Type}{l:List A}{i:Nat}{e:A}(he:l[i]?=some e):l.take (i+1)=l.take i++ [e]:=by
 rw[aq0,he];rfl
theorem Ju(mu:List ByteArray)(l:List bL)(e:bL):fF mu (l++ [e])=fF mu l++(if !Bj mu (aL e)&&cK e then [aL e]else []):=by
 unfold fF;rw[aqe,ap3];cases h:(!Bj mu (aL e)&&cK e)<;>simp[h]
theorem Ke(mu:List ByteArray)(l:List bL)(e:bL):gT mu (l++ [e])=gT mu l++(if !Bj mu (aL e)&& !cK e then [aL e]else []):=by
 unfold gT;rw[aqe,ap3];cases h:(!Bj mu (aL e)&& !cK e)<;>simp[h]
theorem JU(mu:List ByteArray)(l:List bL)(e:bL):E8 mu (l++ [e])=(E8 mu l||(!Bj mu (aL e)&&(cK e&& !dY e))):=by
 unfold E8;rw[List.any_append];simp
theorem tX(mu:List ByteArray)(l:List bL):(fF mu l).length≤l.length:=by
 unfold fF;rw[aoY];exact aqo _ _
theorem uK(mu:List ByteArray)(l:List bL):(gT mu l).length≤l.length:=by
 unfold gT;rw[aoY];exact aqo _ _
theorem Tf(mu:List ByteArray)(k:ByteArray)(h:mu.length≤big):M5 ((mu,k,()),())=some ((Bj mu k,()),()):=Tn mu k h
theorem Xi(mu:List ByteArray)(k:ByteArray)(h:mu.length≤big):V6 ((mu,k,()),())=some ((Bj mu k,()),()):=by
 unfold big at h;have hl:=cB (f:=Am) mu (fun i (_:Unit)=>(((i:Int),k,mu,()),())) (fun i _ e=>bif decide (e=k)then .inr (.inl ((true,()),()))else .inl ()) (fun _=>.inr ((),())) ?_ ?_ ()
 ·obtain⟨j,_,hj⟩:=jG (fun e=>decide (e=k)) (fun _:Nat=>(Sum.inl ((true,()),()):((Bool×Unit)×Unit)⊕(Unit×Unit))) (.inr ((),())) mu 0;unfold V6 Bj;refine aM _ (hl.trans (congrArg some hj)) ?_;cases mu.any (fun e=>decide (e=k))<;>rfl
 ·intro i e _ he hi;have hw:aP ((i:Int)+1)=((i+1:Nat):Int):=aI (by omega);simp only[Am,aJ,aG he,bQ hi,bD,gF,aA,sS];cases decide (e=k)<;>simp only[aA,sS,hw]
 ·intro _;simp only[Am,cO,aA,sS]
theorem Zb(ms:List bL)(mu:List ByteArray)(t:Int)(nc:Ji)(r:dw)(c:JD)(hl:ms.length≤256)(hm:mu.length≤big):
  aC uX (((0:Int),false,mu,t,((ms.length:Nat):Int),()),(ms,(nc,()),(jP,()),(r,()),(c,()),[],[],()))=
   some ((E8 mu ms,t,()),(ms,(jP,()),(nc,()),(r,()),(c,()),fF mu ms,gT mu ms,())):=by
 have:=dL (f:=uX) ms (fun i=>(((i:Int),E8 mu (ms.take i),mu,t,((ms.length:Nat):Int),()),(ms,(nc,()),(jP,()),(r,()),(c,()),fF mu (ms.take i),gT mu (ms.take i),())))
  ((E8 mu ms,t,()),(ms,(jP,()),(nc,()),(r,()),(c,()),fF mu ms,gT mu ms,())) ?_ ?_
 ·exact this
 ·intro i e he hi;have hw:aP ((i:Int)+1)=((i+1:Nat):Int):=aI (by omega);have hb:decide ((0:Int)≤(i:Int)∧(i:Int)<(ms.length:Int))=true:=aoS (by omega);have f1:=tX mu (ms.take i);have f2:=uK mu (ms.take i);rw[apq]at f1 f2;have c1:decide ((fF mu (ms.take i)).length+ [aL e].length≤4294967296)=true:=aoS (by simp;omega);have c2:decide ((gT mu (ms.take i)).length+ [aL e].length≤4294967296)=true:=aoS (by simp;omega);have q:=Tf mu (aL e) hm;obtain⟨mk,ml,mn,mh,mf,mt',⟨⟩⟩:=e;dsimp only[aL]at q c1 c2;rw[fE he,Ju,Ke,JU];simp only[uX,bQ hi,hb,aoV,he,q,aL,cK,dY,aA,sS];cases Bj mu mk
  ·cases mf
   ·simp only[c2,hw,ap6,aph,if_true,if_false,apj,aA,sS]
   ·simp only[c1,hw,ap6,aph,if_true,if_false,apj,aA,sS];cases E8 mu (ms.take i)<;>simp only[hw,apm,apf,aA,sS]
  ·simp only[hw,ap6,aph,if_true,if_false,apj,aA,sS]
 ·rw[apT];simp only[uX,cO,aA,sS]
abbrev ru(R:List ByteArray)(m:bL):Bool:= !Bj R (aL m)
theorem aaX(ms:List bL)(nc:Ji)(F R:List ByteArray)(hl:ms.length≤256)(hR:R.length≤big):
  (aC jW (((0:Int),((ms.length:Nat):Int),()),(ms,(nc,()),F,R,()))=some (.inr ((),(ms,(nc,()),F,R,())))∧ms.filter (ru R)=ms)∨
  ∃j,j<ms.length∧aC jW (((0:Int),((ms.length:Nat):Int),()),(ms,(nc,()),F,R,()))=some (.inl (((j:Int),()),(ms,(nc,()),F,R,())))∧(ms.take (j+1)).filter (ru R)=ms.take j:=by
 have key:∀(d i:Nat),i+d=ms.length→(ms.take i).filter (ru R)=ms.take i→
   (aC jW (((i:Int),((ms.length:Nat):Int),()),(ms,(nc,()),F,R,()))=some (.inr ((),(ms,(nc,()),F,R,())))∧ms.filter (ru R)=ms)∨
   ∃j,j<ms.length∧aC jW (((i:Int),((ms.length:Nat):Int),()),(ms,(nc,()),F,R,()))=some (.inl (((j:Int),()),(ms,(nc,()),F,R,())))∧(ms.take (j+1)).filter (ru R)=ms.take j:=by
  intro d
  induction d with
  |zero=>
   intro i h h2;obtain rfl:i=ms.length:=by omega
   rw[apT]at h2;refine .inl ⟨aD ?_,h2⟩;simp only[jW,cO,aA,sS]
  |succ d ih=>
   intro i h h2;obtain⟨e,he⟩:=getD_some (l:=ms) (i:=i) (by omega);have hi:i<ms.length:=by omega
   have hw:aP ((i:Int)+1)=((i+1:Nat):Int):=aI (by omega);have hb:decide ((0:Int)≤(i:Int)∧(i:Int)<(ms.length:Int))=true:=aoS (by omega);have q:=Tf R (aL e) hR;dsimp only[aL]at q;cases hr:Bj R (aL e)
   ·dsimp only[aL]at hr
    have h3:(ms.take (i+1)).filter (ru R)=ms.take (i+1):=by
     rw[fE he,aqe,h2];simp[ru,hr]
    have hs:jW (((i:Int),((ms.length:Nat):Int),()),(ms,(nc,()),F,R,()))=some (.inl ((((i+1:Nat):Int),((ms.length:Nat):Int),()),(ms,(nc,()),F,R,()))):=by
     simp only[jW,bQ hi,hb,aoV,he,q,hr,hw,eq_self,aA,sS]
    rw[aK hs];exact ih (i+1) (by omega) h3
   ·dsimp only[aL]at hr;refine .inr ⟨i,hi,aD ?_,?_⟩
    ·simp only[jW,bQ hi,hb,aoV,he,q,hr,hw,eq_self,aA,sS]
    ·rw[fE he,aqe,h2];simp[ru,hr]
 exact key ms.length 0 (by omega) rfl
theorem Y6(ms:List bL)(nc:Ji)(F R:List ByteArray)(hl:ms.length≤256)(hR:R.length≤big):∀(d src dst:Nat) (blk:List bL),src+d=ms.length→dst<src→blk.length=ms.length→
  blk.take dst=(ms.take src).filter (ru R)→blk.drop src=ms.drop src→
  ∃(dst':Nat) (blk':List bL),aC oJ (((src:Int),(dst:Int),()),(blk,(nc,()),F,R,()))=some (((dst':Int),()),(blk',(nc,()),F,R,()))∧dst'≤ms.length∧blk'.length=ms.length∧blk'.take dst'=ms.filter (ru R):=by
 intro d
 induction d with
 |zero=>
  intro src dst blk h1 h2 h3 h4 h5;obtain rfl:src=ms.length:=by omega
  rw[apT]at h4;refine⟨dst,blk,aD ?_,by omega,h3,h4⟩;have:decide ((ms.length:Int)<((blk.length:Nat):Int))=false:=aoU (by omega);simp only[oJ,this,aA,sS]
 |succ d ih=>
  intro src dst blk h1 h2 h3 h4 h5;obtain⟨e,he⟩:=getD_some (l:=ms) (i:=src) (by omega)
  have he':blk[src]?=some e:=by
   have:=congrArg (fun l=>l[0]?) h5;simp only[aql,aq2]at this;rw[this,he]
  have c1:decide ((src:Int)<((blk.length:Nat):Int))=true:=aoS (by omega);have c2:decide ((0:Int)≤(src:Int)∧(src:Int)<(blk.length:Int))=true:=aoS (by omega);have c3:decide ((0:Int)≤(dst:Int)∧(dst:Int)<(blk.length:Int))=true:=aoS (by omega);have c4:decide (dst<blk.length)=true:=aoS (by omega);have w1:aP ((src:Int)+1)=((src+1:Nat):Int):=aI (by omega);have w2:aP ((dst:Int)+1)=((dst+1:Nat):Int):=aI (by omega);have q:=Tf R (aL e) hR;dsimp only[aL]at q;cases hr:Bj R (aL e)
  ·dsimp only[aL]at hr
   have hs:oJ (((src:Int),(dst:Int),()),(blk,(nc,()),F,R,()))=some (.inl ((((src+1:Nat):Int),((dst+1:Nat):Int),()),(blk.set dst e,(nc,()),F,R,()))):=by
    simp only[oJ,c1,c2,aoV,he',q,hr,c3,c4,w1,w2,eq_self,aA,sS]
   rw[aK hs];refine ih (src+1) (dst+1) (blk.set dst e) (by omega) (by omega) (by rw[apK,h3]) ?_ ?_
   ·rw[fE he,aqe,←h4];rw[fE (e:=e) (by rw[List.getElem?_set_self (by omega)]),qb];simp[ru,hr]
   ·rw[List.drop_set,if_pos (by omega)];rw[←aqy,←aqy,h5]
  ·dsimp only[aL]at hr
   have hs:oJ (((src:Int),(dst:Int),()),(blk,(nc,()),F,R,()))=some (.inl ((((src+1:Nat):Int),(dst:Int),()),(blk,(nc,()),F,R,()))):=by
    simp only[oJ,c1,c2,aoV,he',q,hr,w1,eq_self,aA,sS]
   rw[aK hs];refine ih (src+1) dst blk (by omega) (by omega) h3 ?_ ?_
   ·rw[fE he,aqe,←h4];simp[ru,hr]
   ·rw[←aqy,←aqy,h5]
abbrev PgT:=Int×ByteArray×(Nat×Nat)×Int×Int×Unit
theorem agh(M T:List bL)(nc:Ji)(g:PgT)(c0:JD)(n0:Ji)(r:dw)(F R:List ByteArray)(ok:Bool)(t:Int)(hl:M.length≤256)(hF:F.length≤big)(hg:g.2.2.1=(0,M.length)):
  aC qR (((0:Int),(0,M.length),ok,t,((M.length:Nat):Int),()),((nc,()),(g,()),M++T,(c0,()),(n0,()),(r,()),F,R,()))=
   some ((ok,t,()),((c0,()),(n0,()),(nc,()),(g,()),(r,()),F,R,M.map (kK F)++T,())):=by
 obtain⟨rt,ky,pt,du,se,⟨⟩⟩:=g;dsimp only at hg;subst hg;have:=dL (f:=qR) M (fun i=>(((i:Int),(0,M.length),ok,t,((M.length:Nat):Int),()),((nc,()),((rt,ky,(0,M.length),du,se,()),()),(M.take i).map (kK F)++(M.drop i++T),(c0,()),(n0,()),(r,()),F,R,())))
  ((ok,t,()),((c0,()),(n0,()),(nc,()),((rt,ky,(0,M.length),du,se,()),()),(r,()),F,R,M.map (kK F)++T,())) ?_ ?_
 ·exact this
 ·intro i e he hi;obtain⟨e',he',hd⟩:=drop_at hi;rw[he]at he';injection he' with he';subst he';have hw:aP ((i:Int)+1)=((i+1:Nat):Int):=aI (by omega);have hb:decide ((0:Int)≤(i:Int)∧(i:Int)<(M.length:Int))=true:=aoS (by omega);have hA:((M.take i).map (kK F)).length=i:=by simp;omega
  rw[hd,aqr]
  have at1:∀B:List bL,((M.take i).map (kK F)++e::B)[i]?=some e:=fun B=>by
   have:=Dp ((M.take i).map (kK F)) e B
   rwa [hA]at this
  have st1:∀(x:bL) (B:List bL),((M.take i).map (kK F)++e::B).set i x=(M.take i).map (kK F)++x::B:=fun x B=>by
   have:=Ko ((M.take i).map (kK F)) e x B
   rwa [hA]at this
  have q:=Tf F (aL e) hF;dsimp only[aL]at q
  have hx:(M.take (i+1)).map (kK F)++(M.drop (i+1)++T)=(M.take i).map (kK F)++kK F e::(M.drop (i+1)++T):=by
   rw[fE he,ap3,ap0];rfl
  rw[hx];obtain⟨mk,ml,mn,mh,mf,mt',⟨⟩⟩:=e;dsimp only at q;simp only[qR,bQ hi,hb,aoV,apG,at1,st1,q,hw,aA,sS];cases mt'<;>simp only[st1,hw,kK,dY,aL,apm,apf,aA,sS]
 ·rw[apT,apP,aq3];simp only[qR,cO,aA,sS]
theorem ag2(l:List bL)(hl:l.length≤256):∃j:Nat,aC um (((0:Int),l,(l.length:Int),()),())=some (bif qP l then .inl (((j:Int),()),())else .inr ((),())):=by
 have h:=cB (f:=um) l (fun i (_:Unit)=>(((i:Int),l,(l.length:Int),()),())) (fun i _ e=>bif !dY e then .inr (.inl (((i:Int),()),()))else .inl ()) (fun _=>.inr ((),())) ?_ ?_ ()
 ·obtain⟨j,_,hj⟩:=jG (fun e:bL=> !dY e) (fun i:Nat=>(Sum.inl (((i:Int),()),()):((Int×Unit)×Unit)⊕(Unit×Unit))) (.inr ((),())) l 0;exact⟨j,h.trans (congrArg some hj)⟩
 ·intro i e _ he hi;have hw:aP ((i:Int)+1)=((i+1:Nat):Int):=aI (by omega);have q:aga ((e,()),())=some ((!dY e,()),()):=rfl;simp only[um,aJ,aG he,bQ hi,q,aA,sS];cases dY e<;>simp only[aA,sS,hw]
 ·intro _;simp only[um,cO,aA,sS]
def GA(x:LkT)(o:Option ((Bool×Int×Unit)×((PgT×Unit)×(Ji×Unit)×List bL×List ByteArray×List ByteArray×Unit))):Prop:=
 ∃(n:Nat) (blk:List bL),o=some ((x.1,0,()),(((x.2.1.1,x.2.1.2.1,(0,n),x.2.1.2.2.1,x.2.1.2.2.2.1,()),()),(x.2.2.1,()),blk,x.2.2.2.2.1,x.2.2.2.2.2,()))∧n≤blk.length∧blk.take n=x.2.2.2.1
theorem Dq{A:Type}{y:LkT}{o:Option A}{f:A→Option ((Bool×Int×Unit)×((PgT×Unit)×(Ji×Unit)×List bL×List ByteArray×List ByteArray×Unit))}(x:A)(h:o=some x)(h2:GA y (f x)):GA y (o.bind f):=by
 rw[h];exact h2
theorem aa5{A:Type}{y:LkT}{o:Option A}{f:A→Option ((Bool×Int×Unit)×((PgT×Unit)×(Ji×Unit)×List bL×List ByteArray×List ByteArray×Unit))}(P:A→Prop)(h:∃x,o=some x∧P x)(h2:∀x,P x→GA y (f x)):GA y (o.bind f):=by
 obtain⟨x,rfl,hp⟩:=h;exact h2 x hp
theorem exb{A B:Type}{o:Option A}{f:A→Option B}{Q:B→Prop}(x:A)(h:o=some x)(h2:∃b,f x=some b∧Q b):∃b,o.bind f=some b∧Q b:=by
 rw[h];exact h2
theorem exP{A B:Type}{o:Option A}{f:A→Option B}{Q:B→Prop}(P:A→Prop)(h:∃x,o=some x∧P x)(h2:∀x,P x→∃b,f x=some b∧Q b):∃b,o.bind f=some b∧Q b:=by
 obtain⟨x,rfl,hp⟩:=h;exact h2 x hp
theorem Yx(n:Nat):(((n:Nat):Int)==0)=decide (n=0):=by
 rw[dX];exact aqb.2 (by omega)
theorem ag1{g:bG}(h:VG g){r:dw}(hr:RR r){t:Int}(ht:0≤t∧t≤8589934592){mu:List ByteArray}(hm:mu.length≤big):GA (j6 g r t mu) (ac4 ((g,r,t,mu,()),())):=by
 have q1:=KX h;have q2:=Mf r hr.z;rw[hr.ok]at q2;have q6:=LZ h;have dt:decide ((0:Int)≤t∧t≤8589934592)=true:=aoS ht;have hlen:=h.len;have hsent:=h.sent;have hdue:=h.due;have hir:=hr.int;have hwa:=hr.wait;have hrp:=hr.RS;have hmx:=hr.max;obtain⟨rt,ky,ms,du,se,⟨⟩⟩:=g;obtain⟨pa,mt,po,gb,wa,ir,rp,co,⟨⟩⟩:=r;dsimp only[aN,dZ,bU,iW,iH,oM,cor]at *;have qn:=fun nc c=>Zb ms mu t nc (pa,mt,po,gb,wa,ir,rp,co,()) c hlen hm
 unfold ac4 j6;dsimp only[aN,dZ,bU,iH,oM,zl];simp only[q1,q2,q6,Ca,dt,aA,sS];have w1:aP (se+rp)=se+rp:=bH (by omega) (by omega);have w2:aP (t+1)=t+1:=bH (by omega) (by omega);have w3:aP (t+ir)=t+ir:=bH (by omega) (by omega);have w4:aP (t+rp)=t+rp:=bH (by omega) (by omega);by_cases h1:du= -1
 ·subst h1;rw[if_pos (.inl rfl)];simp only[apW,aA,sS];exact⟨ms.length,ms,rfl,ape _,apT⟩
 have b1:(du== -1)=false:=apn.2 h1;rw[b1];by_cases h2:du>t
 ·rw[if_pos (.inr h2)];simp only[aoS h2,aA,sS];exact⟨ms.length,ms,rfl,ape _,apT⟩
 rw[if_neg (by rintro(h|h)<;>contradiction)];simp only[aoU h2,qn,aA,sS];have fl:=tX mu ms;have rl:=uK mu ms;refine Dq ((Ht se rp t (fF mu ms),E8 mu ms,()),ms,(jP,()),((t,rt,po,ky,()),()),fF mu ms,gT mu ms,()) ?_ ?_
 ·unfold Ht;rw[show decide (((fF mu ms).length:Int)>0)=decide (0<(fF mu ms).length)from aqb.2 (by omega),w1];cases decide (0<(fF mu ms).length)<;>cases (se != -1)<;>simp only[aA,sS]
 dsimp only;refine Dq ((Bo se rp t mu ms,()),ms,((t,rt,po,ky,()),()),fF mu ms,gT mu ms,()) ?_ ?_
 ·unfold Bo;rw[show decide (((gT mu ms).length:Int)>0)=decide (0<(gT mu ms).length)from aqb.2 (by omega)];cases E8 mu ms<;>cases Ht se rp t (fF mu ms)<;>simp only[apm,apf,aA,sS]
 dsimp only;rw[show decide (ms.length=ms.length)=true from aoS rfl,cond_true]
 refine aa5 (fun x=>∃(ok:Bool) (se':Int) (n:Nat) (blk:List bL) (F' R':List ByteArray) (nc:Ji) (c0:JD) (n0:Ji),x=((ok,t,()),(c0,()),(n0,()),(nc,()),((rt,ky,(0,n),du,se',()),()),((pa,mt,po,gb,wa,ir,rp,co,()),()),F',R',blk,())∧
  n≤blk.length∧blk.length≤256∧(-1≤se'∧se'≤8589934592)∧(if Bo se rp t mu ms=true then
   ((true,(rt,ky,(if(lK (fF mu ms) (gT mu ms) ms).length=0 then -1 else nU t ir rp t (qP (lK (fF mu ms) (gT mu ms) ms))),t,()),(t,rt,po,ky,()),lK (fF mu ms) (gT mu ms) ms,fF mu ms,gT mu ms):LkT)
   else(false,(rt,ky,(if ms.length=0 then -1 else nU se ir rp t (qP ms)),se,()),jP,ms,[],[]))=(ok,(rt,ky,(if(blk.take n).length=0 then -1 else nU se' ir rp t (qP (blk.take n))),se',()),nc,blk.take n,F',R')) ?_ ?_
 ·cases Bo se rp t mu ms
  ·refine⟨_,rfl,false,se,ms.length,ms,[],[],jP,jJ,jP,rfl,ape _,hlen,hsent,?_⟩;rw[apT];rfl
  ·rw[cond_true];refine exP (fun x=>∃(n:Nat) (blk:List bL),x=((true,t,()),((t,rt,po,ky,()),()),((rt,ky,(0,n),du,t,()),()),(jJ,()),(jP,()),((pa,mt,po,gb,wa,ir,rp,co,()),()),fF mu ms,gT mu ms,blk,())∧n≤blk.length∧blk.length=ms.length∧blk.take n=ms.filter (ru (gT mu ms))) ?_ ?_
   ·rcases aaX ms (t,rt,po,ky,()) (fF mu ms) (gT mu ms) hlen (by unfold big;omega)with⟨e,hf⟩|⟨j,hj,e,hf⟩
    ·rw[e];simp only[eq_self,apW,aA,sS];exact⟨_,rfl,ms.length,ms,rfl,ape _,rfl,by rw[apT,hf]⟩
    ·have bj:((j:Int)== -1)=false:=apn.2 (by omega);have wj:aP ((j:Int)+1)=((j+1:Nat):Int):=aI (by omega);rw[e];simp only[eq_self,bj,wj,aA,sS];obtain⟨dst,blk,e2,h3,h4,h5⟩:=Y6 ms (t,rt,po,ky,()) (fF mu ms) (gT mu ms) hlen (by unfold big;omega) (ms.length-(j+1)) (j+1) j ms (by omega) (by omega) rfl hf.symm rfl;refine exb _ e2 ?_;have d1:decide ((0:Int)≤(dst:Int))=true:=aoS (by omega);have d2:decide (dst≤blk.length∧True)=true:=aoS ⟨by omega,trivial⟩;have d3:decide (dst+(blk.length-dst)≤blk.length)=true:=aoS (by omega);have d0:decide (dst≤blk.length∧blk.length≤blk.length)=true:=aoS (by omega)
     have sl:(bM blk dst (List.replicate (blk.length-dst) ((ByteArray.empty,[],0,0,false,false,()):bL))).length=blk.length:=by
      unfold bM;simp;omega
     have st:(bM blk dst (List.replicate (blk.length-dst) ((ByteArray.empty,[],0,0,false,false,()):bL))).take dst=blk.take dst:=by
      unfold bM;rw[ap0,aqw (by rw[apq];omega),apF (by rw[apq];omega)]
     have d4:decide (0≤dst∧dst≤blk.length)=true:=aoS (by omega);have d5:decide (blk.length=ms.length)=true:=aoS h4;simp only[d1,d0,d3,d4,d5,sl,aoV,eq_self,aA,sS];exact⟨_,rfl,dst,_,rfl,by rw[sl];omega,by rw[sl,h4],by rw[st,h5]⟩
   ·rintro _ ⟨n,blk,rfl,h1,h2,h3⟩;dsimp only;have hMl:(blk.take n).length=n:=by rw[apq];omega
    have q:=agh (blk.take n) (blk.drop n) (t,rt,po,ky,()) (rt,ky,(0,n),du,t,()) jJ jP (pa,mt,po,gb,wa,ir,rp,co,()) (fF mu ms) (gT mu ms) true t (by rw[hMl];omega) (by unfold big;omega) (by rw[hMl]);rw[aqj,hMl]at q;refine exb _ q ?_
    have ht2:(List.map (kK (fF mu ms)) (List.take n blk)++List.drop n blk).take n=lK (fF mu ms) (gT mu ms) ms:=by
     rw[aqw (by rw[aoY,hMl];exact ape _),apF (by rw[aoY,hMl];exact ape _),h3];rfl
    refine⟨_,rfl,true,t,n,_,fF mu ms,gT mu ms,(t,rt,po,ky,()),jJ,jP,rfl,by simp;omega,by simp;omega,by omega,?_⟩;rw[ht2];rfl
 ·rintro _ ⟨ok,se',n,blk,F',R',nc,c0,n0,rfl,h3,h4,h5,h6⟩;rw[h6];dsimp only;have w5:aP (se'+rp)=se'+rp:=bH (by omega) (by omega);have d1:decide (0+n≤blk.length)=true:=aoS (by omega);obtain⟨j,ho⟩:=ag2 (blk.take n) (by rw[apq];omega);have hl:(blk.take n).length=n:=by rw[apq];omega
  rw[hl]at ho;simp only[d1,ap2,hl,w2,w3,w5,aA,sS];refine Dq ((qP (blk.take n),()),()) ?_ ?_
  ·refine aM _ ho ?_;have dj:decide ((j:Int)≥0)=true:=aoS (by omega);cases qP (blk.take n)<;>simp only[dj,aA,sS]
  dsimp only;have mx:∀d:Int,(if t+1>d then t+1 else d)=max d (t+1):=fun d=>by split<;>omega
  unfold nU;cases qP (blk.take n)
  ·by_cases hp:se'+rp≤t
   ·simp only[aoS hp,w3,w2,mx,og,Yx,hp,or_true,if_true,eq_self,aA,sS];by_cases hn:n=0
    ·simp only[hn,eq_self,if_true,aA,sS];exact⟨0,blk,rfl,ap5 _,rfl⟩
    ·simp only[hn,if_false,aA,sS];exact⟨n,blk,rfl,h3,rfl⟩
   ·simp only[aoU hp,w3,w2,mx,og,Yx,hp,or_self,apj,if_false,eq_self,aA,sS];by_cases hn:n=0
    ·simp only[hn,eq_self,if_true,aA,sS];exact⟨0,blk,rfl,ap5 _,rfl⟩
    ·simp only[hn,if_false,aA,sS];exact⟨n,blk,rfl,h3,rfl⟩
  ·simp only[w3,w2,mx,og,Yx,true_or,if_true,eq_self,aA,sS];by_cases hn:n=0
   ·simp only[hn,eq_self,if_true,aA,sS];exact⟨0,blk,rfl,ap5 _,rfl⟩
   ·simp only[hn,if_false,aA,sS];exact⟨n,blk,rfl,h3,rfl⟩
def Z5(mu:List ByteArray)(l:List bL):Bool:=E8 mu l||decide (0<(gT mu l).length)
theorem Yv{g:bG}(mu:List ByteArray)(t:Int)(nc:Ji)(r:dw)(c c0:JD)(n0:Ji)(oms:List bL)(hl:(aN g).length≤256)(hm:mu.length≤big):
  aC uL (((0:Int),false,mu,t,()),((nc,()),(g,()),(c,()),(c0,()),(n0,()),(r,()),[],[],oms,()))=
   some ((t,Z5 mu (aN g),()),((c,()),(nc,()),(g,()),(c0,()),(n0,()),(r,()),oms,fF mu (aN g),gT mu (aN g),())):=by
 obtain⟨rt,ky,ms,du,se,⟨⟩⟩:=g;dsimp only[aN]at *;have:=dL (f:=uL) ms (fun i=>(((i:Int),Z5 mu (ms.take i),mu,t,()),((nc,()),((rt,ky,ms,du,se,()),()),(c,()),(c0,()),(n0,()),(r,()),fF mu (ms.take i),gT mu (ms.take i),oms,())))
  ((t,Z5 mu ms,()),((c,()),(nc,()),((rt,ky,ms,du,se,()),()),(c0,()),(n0,()),(r,()),oms,fF mu ms,gT mu ms,())) ?_ ?_
 ·exact this
 ·intro i e he hi;have hw:aP ((i:Int)+1)=((i+1:Nat):Int):=aI (by omega);have f1:=tX mu (ms.take i);have f2:=uK mu (ms.take i);rw[apq]at f1 f2;have c1:decide ((fF mu (ms.take i)).length+ [aL e].length≤4294967296)=true:=aoS (by simp;omega);have c2:decide ((gT mu (ms.take i)).length+ [aL e].length≤4294967296)=true:=aoS (by simp;omega);have q:=Xi mu (aL e) hm;obtain⟨mk,ml,mn,mh,mf,mt',⟨⟩⟩:=e;dsimp only[aL]at q c1 c2;have h1:decide ((i:Int)<(ms.length:Int))=true:=bQ hi;unfold Z5;rw[fE he,Ju,Ke,JU];simp only[uL,h1,aJ,aG he,q,aL,cK,dY,aA,sS];cases Bj mu mk
  ·cases mf
   ·have:decide (0<(gT mu (ms.take i)++ [mk]).length)=true:=aoS (by simp);simp only[c2,hw,this,ap6,aph,apy,if_true,if_false,apj,aA,sS]
   ·simp only[c1,hw,ap6,aph,if_true,if_false,apj,aA,sS];cases E8 mu (ms.take i)<;>cases decide (0<(gT mu (ms.take i)).length)<;>simp only[hw,apm,apf,apy,aph,aA,sS]
  ·simp only[hw,ap6,aph,if_true,if_false,apj,aA,sS]
 ·rw[apT];simp only[uL,cO,aA,sS]
theorem UX(F R:List ByteArray)(l:List bL)(e:bL):lK F R (l++ [e])=lK F R l++(if Bj R (aL e)=true then []else [kK F e]):=by
 unfold lK;rw[aqe,ap3];cases h:Bj R (aL e)<;>simp[h]
theorem Gs(F R:List ByteArray)(l:List bL):(lK F R l).length≤l.length:=by
 unfold lK;rw[aoY];exact aqo _ _
theorem ac2{g:bG}(t:Int)(ok:Bool)(nc:Ji)(r:dw)(c c0:JD)(n0:Ji)(F R:List ByteArray)(hl:(aN g).length≤256)(hF:F.length≤big)(hR:R.length≤big):
  aC vF (((0:Int),ok,t,()),((c,()),(nc,()),(g,()),(c0,()),(n0,()),(r,()),[],F,R,()))=
   some ((ok,t,()),((c,()),(c0,()),(n0,()),(nc,()),(r,()),lK F R (aN g),F,R,())):=by
 obtain⟨rt,ky,ms,du,se,⟨⟩⟩:=g;dsimp only[aN]at *;have:=dL (f:=vF) ms (fun i=>(((i:Int),ok,t,()),((c,()),(nc,()),((rt,ky,ms,du,se,()),()),(c0,()),(n0,()),(r,()),lK F R (ms.take i),F,R,())))
  ((ok,t,()),((c,()),(c0,()),(n0,()),(nc,()),(r,()),lK F R ms,F,R,())) ?_ ?_
 ·exact this
 ·intro i e he hi;have hw:aP ((i:Int)+1)=((i+1:Nat):Int):=aI (by omega);have f1:=Gs F R (ms.take i);rw[apq]at f1;have c1:∀x:bL,decide ((lK F R (ms.take i)).length+ [x].length≤4294967296)=true:=fun x=>aoS (by simp;omega)
  have q:=Xi R (aL e) hR;have q2:=Xi F (aL e) hF;obtain⟨mk,ml,mn,mh,mf,mt',⟨⟩⟩:=e;dsimp only[aL]at q q2;have h1:decide ((i:Int)<(ms.length:Int))=true:=bQ hi;rw[fE he,UX];simp only[vF,h1,aJ,aG he,q,aL,kK,dY,aA,sS];cases Bj R mk
  ·cases mt'<;>simp only[q2,c1,hw,apm,apf,if_true,if_false,apj,aA,sS]
  ·simp only[hw,ap6,if_true,aA,sS]
 ·rw[apT];simp only[vF,cO,aA,sS]
theorem Vm(l:List bL)(e:bL):qP (l++ [e])=(qP l|| !dY e):=by
 unfold qP;rw[List.any_append];simp
theorem Xe(t:Int)(ok:Bool)(nc:Ji)(r:dw)(c c0:JD)(n0:Ji)(F R:List ByteArray)(ms:List bL)(hl:ms.length≤256):
  aC vz (((0:Int),false,ok,t,()),((c,()),(c0,()),(n0,()),(nc,()),(r,()),ms,F,R,()))=
   some ((ok,t,qP ms,()),((c0,()),(n0,()),(nc,()),(c,()),(r,()),F,R,ms,())):=by
 have:=dL (f:=vz) ms (fun i=>(((i:Int),qP (ms.take i),ok,t,()),((c,()),(c0,()),(n0,()),(nc,()),(r,()),ms,F,R,())))
  ((ok,t,qP ms,()),((c0,()),(n0,()),(nc,()),(c,()),(r,()),F,R,ms,())) ?_ ?_
 ·exact this
 ·intro i e he hi;have hw:aP ((i:Int)+1)=((i+1:Nat):Int):=aI (by omega);have h1:decide ((i:Int)<((ms.length:Nat):Int))=true:=bQ hi;have h2:decide ((0:Int)≤(i:Int)∧(i:Int)<(ms.length:Int))=true:=aoS (by omega);rw[fE he,Vm];simp only[vz,h1,h2,aoV,he,aA,sS];cases qP (ms.take i)<;>simp only[hw,apm,apf,aA,sS]
 ·rw[apT];have h1:decide ((ms.length:Int)<((ms.length:Nat):Int))=false:=cO _;simp only[vz,h1,aA,sS]
theorem akh{A B:Type}{o:Option A}{f:A→Option B}{y:Option B}(P:A→Prop)(h:∃x,o=some x∧P x)(h2:∀x,P x→f x=y):o.bind f=y:=by
 obtain⟨x,rfl,hp⟩:=h;exact h2 x hp
theorem afe{g:bG}(h:VG g){r:dw}(hr:RR r){t:Int}(ht:0≤t∧t≤8589934592){mu:List ByteArray}(hm:mu.length≤big):
  m96 ((g,r,t,mu,()),())=some (((j6 g r t mu).1,0,()),(((j6 g r t mu).2.1,()),((j6 g r t mu).2.2.1,()),(j6 g r t mu).2.2.2.1,(j6 g r t mu).2.2.2.2.1,(j6 g r t mu).2.2.2.2.2,())):=by
 have q1:=Kv h;have q2:=KI r hr.z;rw[hr.ok]at q2;have hlen:=h.len;have q6:=QK (g:=g) (by omega);have dt:inst t=true:=aoS ht;have hsent:=h.sent;have hdue:=h.due;have hir:=hr.int;have hwa:=hr.wait;have hrp:=hr.RS;have hmx:=hr.max;obtain⟨rt,ky,ms,du,se,⟨⟩⟩:=g;obtain⟨pa,mt,po,gb,wa,ir,rp,co,⟨⟩⟩:=r;dsimp only[aN,dZ,bU,iW,iH,oM,cor]at *;have qn:=Yv (g:=(rt,ky,ms,du,se,())) mu t (t,rt,po,ky,()) (pa,mt,po,gb,wa,ir,rp,co,()) (rt,ky,du,se,()) jJ jP ms hlen hm;dsimp only[aN]at qn;unfold m96 j6;dsimp only[aN,dZ,bU,iH,oM,zl];simp only[q1,q2,q6,xE,dt,aA,sS];have w1:aP (se+rp)=se+rp:=bH (by omega) (by omega);have w2:aP (t+1)=t+1:=bH (by omega) (by omega);have w3:aP (t+ir)=t+ir:=bH (by omega) (by omega);have w4:aP (t+rp)=t+rp:=bH (by omega) (by omega);by_cases h1:du= -1
 ·subst h1;rw[if_pos (.inl rfl)];simp only[apW,aA,sS]
 have b1:(du== -1)=false:=apn.2 h1;rw[b1];by_cases h2:du>t
 ·rw[if_pos (.inr h2)];simp only[aoS h2,aA,sS]
 rw[if_neg (by rintro(h|h)<;>contradiction)];simp only[aoU h2,qn,aA,sS];have fl:=tX mu ms;have rl:=uK mu ms;refine aM ((Bo se rp t mu ms,t,()),((rt,ky,du,se,()),()),((t,rt,po,ky,()),()),((rt,ky,ms,du,se,()),()),(jJ,()),(jP,()),((pa,mt,po,gb,wa,ir,rp,co,()),()),ms,fF mu ms,gT mu ms,()) ?_ ?_
 ·unfold Bo Z5 Ht;rw[show decide (((fF mu ms).length:Int)>0)=decide (0<(fF mu ms).length)from aqb.2 (by omega),w1];cases decide (0<(fF mu ms).length)<;>cases (se != -1)<;>cases decide (se+rp≤t)<;>simp only[apm,apf,apy,aph,aA,sS]
 dsimp only;have mx:∀d:Int,(if d>t+1 then d else t+1)=max d (t+1):=fun d=>by split<;>omega
 refine akh (fun x=>∃(ok:Bool) (se':Int) (MS:List bL) (nc:Ji) (F R:List ByteArray) (c0:JD) (n0:Ji),x=((ok,t,()),((rt,ky,du,se',()),()),(c0,()),(n0,()),(nc,()),((pa,mt,po,gb,wa,ir,rp,co,()),()),MS,F,R,())∧
  MS.length≤256∧(-1≤se'∧se'≤8589934592)∧(if Bo se rp t mu ms=true then
   ((true,(rt,ky,(if(lK (fF mu ms) (gT mu ms) ms).length=0 then -1 else nU t ir rp t (qP (lK (fF mu ms) (gT mu ms) ms))),t,()),(t,rt,po,ky,()),lK (fF mu ms) (gT mu ms) ms,fF mu ms,gT mu ms):LkT)
   else(false,(rt,ky,(if ms.length=0 then -1 else nU se ir rp t (qP ms)),se,()),jP,ms,[],[]))=(ok,(rt,ky,(if MS.length=0 then -1 else nU se' ir rp t (qP MS)),se',()),nc,MS,F,R)) ?_ ?_
 ·cases Bo se rp t mu ms
  ·refine⟨_,rfl,false,se,ms,jP,[],[],jJ,jP,rfl,hlen,hsent,rfl⟩
  ·have qa:=ac2 (g:=(rt,ky,ms,du,se,())) t true (t,rt,po,ky,()) (pa,mt,po,gb,wa,ir,rp,co,()) (rt,ky,du,t,()) jJ jP (fF mu ms) (gT mu ms) hlen (by unfold big;omega) (by unfold big;omega);rw[cond_true];refine exb _ qa ?_;have:=Gs (fF mu ms) (gT mu ms) ms;exact⟨_,rfl,true,t,lK (fF mu ms) (gT mu ms) ms,(t,rt,po,ky,()),fF mu ms,gT mu ms,jJ,jP,rfl,by omega,by omega,rfl⟩
 ·rintro _ ⟨ok,se',MS,nc,F,R,c0,n0,rfl,h4,h5,h6⟩;rw[h6];dsimp only;have w5:aP (se'+rp)=se'+rp:=bH (by omega) (by omega);refine aM _ (Xe t ok nc (pa,mt,po,gb,wa,ir,rp,co,()) (rt,ky,du,se',()) c0 n0 F R MS h4) ?_;simp only[w2,w3,w5,aA,sS];unfold nU;cases qP MS
  ·by_cases hp:se'+rp≤t
   ·simp only[aoS hp,w3,w2,mx,jH,NZ,hp,or_true,if_true,eq_self,aA,sS];by_cases hn:MS.length=0
    ·simp only[hn,eq_self,if_true,aA,sS]
    ·simp only[hn,eq_self,if_false,aA,sS]
   ·simp only[aoU hp,w3,w2,mx,jH,NZ,hp,or_self,apj,if_false,eq_self,aA,sS];by_cases hn:MS.length=0
    ·simp only[hn,eq_self,if_true,aA,sS]
    ·simp only[hn,eq_self,if_false,aA,sS]
  ·simp only[w3,w2,mx,jH,NZ,true_or,if_true,eq_self,aA,sS];by_cases hn:MS.length=0
   ·simp only[hn,eq_self,if_true,aA,sS]
   ·simp only[hn,eq_self,if_false,aA,sS]
end Go.Proofs.YtchnmpafhfjimaaGreatDoor
