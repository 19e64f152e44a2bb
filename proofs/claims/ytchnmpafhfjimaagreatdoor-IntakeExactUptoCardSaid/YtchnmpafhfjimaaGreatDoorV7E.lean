/- Lemmas for the statement of the last text of this claim. -/
import Derived.Test.YtchnmpafhfjimaaGreatDoorV7D
set_option linter.unusedSimpArgs false
set_option linter.unusedVariables false
namespace Go.Proofs.YtchnmpafhfjimaaGreatDoor
open Go Go.Abs
noncomputable section
def m39(v:RJ):Option (Unit×OP):=
(aC Ar ((0,(bs [97,112,112],bs [104,111,115,116],bs [115,101,118],bs [116,101,97,109],()),()),v.2.1,[],())).bind fun a=>
some ((),a.2)
def apY:Abs.Spec:=⟨1,⟨[0],JY,ql⟩,⟨[2],(.st (.own Z31 (1,0)) .nil),(.box 2 mZ BN)⟩,m39⟩
def aoQ:Nat→Abs.eX
 |0=>.mk bB (bf [(8,(⟨[3,0,7,8],(.st (.own Z31 (1,0)) (.st zi (.dat acU cZ))),(.box 2 mZ BN)⟩,none))]) (bf [(3,⟨⟨[8,3,0,7],(.dat aQ (.st (.own Z31 (1,0)) (.st zi (.dat acU .nil)))),(.box 2 mZ BN)⟩,(.one (.exit 0) ⟨[3],(.st (.own Z31 (1,0)) .nil),(.box 2 mZ BN)⟩)⟩)]) fw
 |_=>{}
theorem akY:dh 39 apY:=okW aoQ (aX IU dI)
def uZ(v:Sl):Option (Sl⊕(eF⊕qR)):=
bif decide (v.1.1<(v.1.2.1.size:Int))then((bif decide (0≤v.1.1∧v.1.1<v.1.2.1.size)then
let b:=(decide (((((v.1.2.1[v.1.1.toNat]?.getD 0).toNat:Nat):Int):Int)<97))
bif b then bif decide (0≤v.1.1∧v.1.1<v.1.2.1.size)then
let c:=(decide (((((v.1.2.1[v.1.1.toNat]?.getD 0).toNat:Nat):Int):Int)<48))
bif c then bif decide (0≤v.1.1∧v.1.1<v.1.2.1.size)then
let d:=(((((v.1.2.1[v.1.1.toNat]?.getD 0).toNat:Nat):Int):Int) !=95)
some ((d,v.1.2.1,v.1.1,()),())
else none
else bif decide (0≤v.1.1∧v.1.1<v.1.2.1.size)then
let e:=(decide (((((v.1.2.1[v.1.1.toNat]?.getD 0).toNat:Nat):Int):Int)>57))
bif e then bif decide (0≤v.1.1∧v.1.1<v.1.2.1.size)then
let f:=(((((v.1.2.1[v.1.1.toNat]?.getD 0).toNat:Nat):Int):Int) !=95)
some ((f,v.1.2.1,v.1.1,()),())
else none
else some ((false,v.1.2.1,v.1.1,()),())
else none
else none
else bif decide (0≤v.1.1∧v.1.1<v.1.2.1.size)then
let g:=(decide (((((v.1.2.1[v.1.1.toNat]?.getD 0).toNat:Nat):Int):Int)>122))
bif g then bif decide (0≤v.1.1∧v.1.1<v.1.2.1.size)then
let h:=(decide (((((v.1.2.1[v.1.1.toNat]?.getD 0).toNat:Nat):Int):Int)<48))
bif h then bif decide (0≤v.1.1∧v.1.1<v.1.2.1.size)then
let j:=(((((v.1.2.1[v.1.1.toNat]?.getD 0).toNat:Nat):Int):Int) !=95)
some ((j,v.1.2.1,v.1.1,()),())
else none
else bif decide (0≤v.1.1∧v.1.1<v.1.2.1.size)then
let k:=(decide (((((v.1.2.1[v.1.1.toNat]?.getD 0).toNat:Nat):Int):Int)>57))
bif k then bif decide (0≤v.1.1∧v.1.1<v.1.2.1.size)then
let l:=(((((v.1.2.1[v.1.1.toNat]?.getD 0).toNat:Nat):Int):Int) !=95)
some ((l,v.1.2.1,v.1.1,()),())
else none
else some ((false,v.1.2.1,v.1.1,()),())
else none
else none
else some ((false,v.1.2.1,v.1.1,()),())
else none
else none):Option (Zx×Unit)).bind fun a=>
bif a.1.1 then some (.inr (.inl ((false,()),())))
else some (.inl ((aO (a.1.2.2.1+1),a.1.2.1,()),()))
else(some (.inr (.inr ((),()))))
def Wl(v:Gj):Option eF:=
((bif decide ((v.1.1.size:Int)<1)then some ((true,v.1),())
else bif decide ((v.1.1.size:Int)>24)then some ((true,v.1),())
else bif decide ((0:Int)≤0∧(0:Int)<v.1.1.size)then
let b:=(decide (((((v.1.1[0]?.getD 0).toNat:Nat):Int):Int)<97))
bif b then some ((true,v.1),())
else bif decide ((0:Int)≤0∧(0:Int)<v.1.1.size)then
let c:=(decide (((((v.1.1[0]?.getD 0).toNat:Nat):Int):Int)>122))
some ((c,v.1),())
else none
else none):Option ((Bool×ByteArray×Unit)×Unit)).bind fun a=>
bif a.1.1 then some ((false,()),())
else((aC uZ ((0,a.1.2),())).bind fun d=>
aA d (fun e=>(some e)) (fun f=>(some ((true,()),()))))
def ajm:Abs.Spec:=⟨0,⟨[0],iJ,.nil⟩,⟨[2],eH,.nil⟩,Wl⟩
def ajF:Nat→Abs.eX
 |0=>.mk (bf [(6,⟨[55,0,3],(.dat .bool Lf),.nil⟩),(1,⟨[21,0],(.dat .bool iJ),.nil⟩)]) bB (bf [(4,⟨⟨[3,0],Fw,.nil⟩,Ro2⟩)]) fw
 |_=>{}
theorem Yt:dh 105 ajm:=okW ajF dI
def wL(v:Sl):Option (Sl⊕(eF⊕qR)):=
bif decide (v.1.1<(v.1.2.1.size:Int))then((bif decide (0≤v.1.1∧v.1.1<v.1.2.1.size)then
let b:=(decide (((((v.1.2.1[v.1.1.toNat]?.getD 0).toNat:Nat):Int):Int)<32))
bif b then some ((true,v.1.2.1,v.1.1,()),())
else bif decide (0≤v.1.1∧v.1.1<v.1.2.1.size)then
let c:=(decide (((((v.1.2.1[v.1.1.toNat]?.getD 0).toNat:Nat):Int):Int)>126))
some ((c,v.1.2.1,v.1.1,()),())
else none
else none):Option (Zx×Unit)).bind fun a=>
bif a.1.1 then some (.inr (.inl ((false,()),())))
else some (.inl ((aO (a.1.2.2.1+1),a.1.2.1,()),()))
else(some (.inr (.inr ((),()))))
def Zj(v:Gj):Option eF:=
bif decide ((v.1.1.size:Int)>64)then some ((false,()),())
else((aC wL ((0,v.1),())).bind fun a=>
aA a (fun b=>(some b)) (fun c=>(some ((true,()),()))))
def ajw:Abs.Spec:=⟨0,⟨[0],iJ,.nil⟩,⟨[2],eH,.nil⟩,Zj⟩
def ajW:Nat→Abs.eX
 |0=>.mk (bf [(6,⟨[22,0,3],(.dat .bool Lf),.nil⟩)]) bB (bf [(4,⟨⟨[3,0],Fw,.nil⟩,Ro2⟩)]) fw
 |_=>{}
theorem af9:dh 106 ajw:=okW ajW dI
def XG(v:Ux):Option eF:=
(((Wl ((v.1.1.1,()),())).bind fun a=>
bif a.1.1 then bif decide (v.1.1.2.1≥0)then bif decide (v.1.1.2.1≤3)then(Zj (v.1.1.2.2,())).bind fun b=>
some b
else some ((false,()),())
else some ((false,()),())
else some ((false,()),())):Option eF).bind fun c=>
some c
def amq:Abs.Spec:=⟨0,⟨[0],PD,.nil⟩,⟨[2],eH,.nil⟩,XG⟩
def akV:Nat→Abs.eX
 |0=>.mk (bf [(1,⟨[2],eH,.nil⟩)]) bB bB fw
 |_=>{}
theorem afS:dh 162 amq:=okW akV (aX Yt (aX af9 dI))
def vD(v:afu):Option (afu⊕(eF⊕qR)):=
let d:=(decide (v.1.1<(v.1.2.1.length:Int)))
bif d then((Abs.rowAt v.1.2.1 v.1.1 fun e _=>
(Wl ((e,()),())).bind fun f=>
bif !f.1.1 then some ((true,v.1.2.1,v.1.1,()),())
else bif decide (v.1.1>0)then Abs.rowAt v.1.2.1 v.1.1 fun b _=>
Abs.rowAt v.1.2.1 (aO (v.1.1-1)) fun c _=>
some ((Op.bytesLess b.toList c.toList||b.toList==c.toList,v.1.2.1,v.1.1,()),())
else some ((false,v.1.2.1,v.1.1,()),())):Option (ahz×Unit)).bind fun a=>
bif a.1.1 then some (.inr (.inl ((false,()),())))
else some (.inl ((aO (a.1.2.2.1+1),a.1.2.1,()),()))
else(some (.inr (.inr ((),()))))
def aaw(v:(YI×Unit)):Option eF:=
(aC vD ((0,v.1),())).bind fun a=>
aA a (fun b=>(some b)) (fun c=>(some ((true,()),())))
def amw:Abs.Spec:=⟨0,⟨[0],JV,.nil⟩,⟨[2],eH,.nil⟩,aaw⟩
def akg:Nat→Abs.eX
 |0=>.mk (bf [(4,⟨[31,0,3],(.dat .bool (.dat Jp cZ)),.nil⟩)]) bB (bf [(2,⟨⟨[3,0],(.dat aQ JV),.nil⟩,Ro2⟩)]) fw
 |_=>{}
theorem ae3:dh 142 amw:=okW akg (aX Yt dI)
def vT(v:(iN×GY)):Option ((iN×GY)⊕(uo⊕(Unit×GY))):=
let a:=(decide (v.1.1<(v.2.1.1.2.1.length:Int)))
bif a then Abs.rowAt v.2.1.1.2.1 v.1.1 fun b _=>
(XG ((b,()),())).bind fun c=>
bif !c.1.1 then some (.inr (.inl ((8,()),())))
else some (.inl ((aO (v.1.1+1),()),v.2))
else(some (.inr (.inr ((),v.2))))
def adW(v:(L9×Unit)):Option uo:=
((bif decide ((v.1.1.2.1.length:Int)>8)then some ((true,()),v)
else let c:=(decide ((v.1.1.2.2.2.1.length:Int)>12))
some ((c,()),v)):Option (mY×GY)).bind fun b=>
bif b.1.1 then some ((5,()),())
else((aC vT ((0,()),b.2)).bind fun d=>
aA d (fun e=>(some e)) (fun a=>((aaw ((a.2.1.1.2.2.2.1,()),())).bind fun f=>
bif !f.1.1 then some ((8,()),())
else((bif decide (a.2.1.1.2.2.1<0)then some ((true,()),())
else bif decide (a.2.1.1.2.2.2.2.1<0)then some ((true,()),())
else let g:=(decide (a.2.1.1.2.2.2.2.1>a.2.1.1.2.2.2.2.2.1))
bif g then some ((true,()),())
else let h:=(decide (a.2.1.1.2.2.2.2.2.1>a.2.1.1.2.2.2.2.2.2.1))
bif h then some ((true,()),())
else let j:=(decide (a.2.1.1.2.2.2.2.2.2.1>604800))
bif j then some ((true,()),())
else some ((a.2.1.1.2.2.2.2.2.2.1==0,()),())):Option eF).bind fun k=>
bif k.1.1 then some ((1,()),())
else some ((0,()),()))))
def amz:Abs.Spec:=⟨0,⟨[0],wP,.nil⟩,⟨[2],cZ,.nil⟩,adW⟩
def amn:Nat→Abs.eX
 |0=>.mk (bf [(10,⟨[33],eH,.nil⟩),(1,⟨[13,1],(.dat .bool Xv),Nk⟩)]) bB (bf [(4,⟨⟨[3,1],(.dat aQ Xv),Nk⟩,(.more .ret ⟨[2],cZ,.nil⟩ (.one (.exit 0) ⟨[1],Xv,Nk⟩))⟩)]) fw
 |_=>{}
theorem aj9:dh 104 amz:=okW amn (aX afS (aX ae3 dI))
def Bn(v:((Int×List mJ×Unit)×Unit)):Option (((Int×List mJ×Unit)×Unit)⊕(uo⊕adZ)):=
let c:=(decide (v.1.1<(v.1.2.1.length:Int)))
bif c then((bif v.1.1==0 then Abs.rowAt v.1.2.1 v.1.1 fun d _=>
bif d.1 !=(-1)then some ((true,v.1.2.1,v.1.1,()),())
else bif decide (v.1.1>0)then Abs.rowAt v.1.2.1 v.1.1 fun e _=>
bif decide (e.1<0)then some ((true,v.1.2.1,v.1.1,()),())
else Abs.rowAt v.1.2.1 v.1.1 fun f _=>
some ((decide (f.1≥v.1.1),v.1.2.1,v.1.1,()),())
else some ((false,v.1.2.1,v.1.1,()),())
else bif decide (v.1.1>0)then Abs.rowAt v.1.2.1 v.1.1 fun g _=>
bif decide (g.1<0)then some ((true,v.1.2.1,v.1.1,()),())
else Abs.rowAt v.1.2.1 v.1.1 fun h _=>
some ((decide (h.1≥v.1.1),v.1.2.1,v.1.1,()),())
else some ((false,v.1.2.1,v.1.1,()),())):Option ((Bool×List mJ×Int×Unit)×Unit)).bind fun a=>
bif a.1.1 then some (.inr (.inl ((3,()),())))
else Abs.rowAt a.1.2.1 a.1.2.2.1 fun j _=>
(adW ((j,()),())).bind fun b=>
bif b.1.1 !=0 then some (.inr (.inl b))
else some (.inl ((aO (a.1.2.2.1+1),a.1.2.1,()),()))
else(some (.inr (.inr (v.1.2,()))))
def m56(v:adZ):Option uo:=
bif (v.1.1.length:Int)==0 then some ((7,()),())
else(bif decide ((v.1.1.length:Int)>24)then some ((5,()),())
else(aC Bn ((0,v.1),())).bind fun a=>
aA a (fun b=>(some b)) (fun c=>(Abs.rowAt c.1.1 0 fun d _=>
bif decide ((d.2.1.length:Int)>0)then some ((8,()),())
else some ((0,()),()))))
def apN:Abs.Spec:=⟨0,⟨[0],Pt,.nil⟩,⟨[2],cZ,.nil⟩,m56⟩
def ap4:Nat→Abs.eX
 |0=>.mk (bf [(8,⟨[47,0,3],(.dat .bool La),.nil⟩)]) bB (bf [(6,⟨⟨[3,0],(.dat aQ Pt),.nil⟩,(.more .ret ⟨[2],cZ,.nil⟩ (.one (.exit 0) ⟨[0],Pt,.nil⟩))⟩)]) fw
 |_=>{}
theorem aiA:dh 56 apN:=okW ap4 (aX aj9 dI)
def Ao(v:((Int×Y4×Unit)×Unit)):Option (((Int×Y4×Unit)×Unit)⊕(eF⊕qR)):=
let a:=(decide (v.1.1<(v.1.2.1.length:Int)))
bif a then Abs.rowAt v.1.2.1 v.1.1 fun b _=>
(XG ((b,()),())).bind fun c=>
bif !c.1.1 then some (.inr (.inl ((false,()),())))
else some (.inl ((aO (v.1.1+1),v.1.2),()))
else(some (.inr (.inr ((),()))))
def WO(v:((Y4×Unit)×Unit)):Option eF:=
(aC Ao ((0,v.1),())).bind fun a=>
aA a (fun b=>(some b)) (fun c=>(some ((true,()),())))
def al5:Abs.Spec:=⟨0,⟨[0],(.dat Z2 .nil),.nil⟩,⟨[2],eH,.nil⟩,WO⟩
def aml:Nat→Abs.eX
 |0=>.mk bB bB (bf [(2,⟨⟨[3,0],(.dat aQ (.dat Z2 .nil)),.nil⟩,Ro2⟩)]) fw
 |_=>{}
theorem af2:dh 141 al5:=okW aml (aX afS dI)
def FH(v:((Int×Dp×Unit)×Unit)):Option (((Int×Dp×Unit)×Unit)⊕(uo⊕qR)):=
let e:=(decide (v.1.1<(v.1.2.1.length:Int)))
bif e then Abs.rowAt v.1.2.1 v.1.1 fun c _=>
((bif (c.1.length:Int)==0 then some ((true,v.1.2.1,v.1.1,()),(c,()),())
else some (((c.2.1.length:Int)==0,v.1.2.1,v.1.1,()),(c,()),())):Option (aaH×Xi)).bind fun a=>
bif a.1.1 then some (.inr (.inl ((7,()),())))
else((let f:=(decide ((a.2.1.1.1.length:Int)>8))
bif f then some ((true,a.1.2),a.2)
else let g:=(decide ((a.2.1.1.2.1.length:Int)>8))
bif g then some ((true,a.1.2),a.2)
else let h:=(decide ((a.2.1.1.2.2.1.length:Int)>12))
some ((h,a.1.2),a.2)):Option (aaH×Xi)).bind fun b=>
bif b.1.1 then some (.inr (.inl ((5,()),())))
else(((WO ((b.2.1.1.1,()),())).bind fun j=>
bif !j.1.1 then some ((true,b.1.2),())
else(WO ((b.2.1.1.2.1,()),())).bind fun k=>
bif !k.1.1 then some ((true,b.1.2),())
else(aaw (b.2.1.1.2.2,())).bind fun l=>
some ((!l.1.1,b.1.2),())):Option (aaH×Unit)).bind fun d=>
bif d.1.1 then some (.inr (.inl ((8,()),())))
else some (.inl ((aO (d.1.2.2.1+1),d.1.2.1,()),()))
else(some (.inr (.inr ((),()))))
def m80(v:((Dp×Unit)×Unit)):Option uo:=
bif decide ((v.1.1.length:Int)>12)then some ((5,()),())
else((aC FH ((0,v.1),())).bind fun a=>
aA a (fun b=>(some b)) (fun c=>(some ((0,()),()))))
def aq2:Abs.Spec:=⟨0,⟨[0],Q6,.nil⟩,⟨[2],cZ,.nil⟩,m80⟩
def apG:Nat→Abs.eX
 |0=>.mk (bf [(11,⟨[46,0,3],(.dat .bool KM),.nil⟩),(9,⟨[29,0,3,4],aex,Wm⟩),(7,⟨[18,0,3,4],aex,Wm⟩)]) bB (bf [(4,⟨⟨[3,0],(.dat aQ Q6),.nil⟩,aee⟩)]) fw
 |_=>{}
theorem apF:dh 80 aq2:=okW apG (aX af2 (aX ae3 dI))
def m35(v:((Y8×Unit)×Unit)):Option uo:=
(m56 ((v.1.1.1,()),())).bind fun a=>
bif a.1.1 !=0 then some a
else((m80 ((v.1.1.2.1,()),())).bind fun b=>
bif b.1.1 !=0 then some b
else((bif decide (v.1.1.2.2.1<0)then some ((true,()),())
else some ((decide (v.1.1.2.2.1>604800),()),())):Option eF).bind fun c=>
bif c.1.1 then some ((1,()),())
else some ((0,()),()))
def aqA:Abs.Spec:=⟨0,⟨[0],kD,.nil⟩,⟨[2],cZ,.nil⟩,m35⟩
def anR:Nat→Abs.eX
 |0=>.mk (bf [(7,⟨[24],eH,.nil⟩)]) bB bB fw
 |_=>{}
theorem anb:dh 35 aqA:=okW anR (aX aiA (aX apF dI))
def Gb(v:((Int×kQ×Unit)×Unit)):Option (((Int×kQ×Unit)×Unit)⊕(uo⊕qR)):=
let d:=(decide (v.1.1<(v.1.2.1.length:Int)))
bif d then Abs.rowAt v.1.2.1 v.1.1 fun c _=>
((bif decide (c.1<1)then some ((true,v.1.2.1,v.1.1,()),(c,()),())
else bif decide (v.1.1>0)then Abs.rowAt v.1.2.1 (aO (v.1.1-1)) fun e _=>
some ((decide (c.1≤e.1),v.1.2.1,v.1.1,()),(c,()),())
else some ((false,v.1.2.1,v.1.1,()),(c,()),())):Option ((Bool×kQ×Int×Unit)×KL)).bind fun a=>
bif a.1.1 then some (.inr (.inl ((6,()),())))
else((bif decide (a.2.1.1.2.1<0)then some ((true,a.1.2),a.2)
else let f:=(decide (a.2.1.1.2.1≥a.2.1.1.2.2.1))
bif f then some ((true,a.1.2),a.2)
else bif decide (a.2.1.1.2.2.1>8589934592)then some ((true,a.1.2),a.2)
else some ((decide (a.2.1.1.2.2.2.1<0),a.1.2),a.2)):Option ((Bool×kQ×Int×Unit)×KL)).bind fun b=>
bif b.1.1 then some (.inr (.inl ((1,()),())))
else let g:=((b.2.1.1.2.2.2.2.1.length:Int)==0)
bif g then some (.inr (.inl ((7,()),())))
else let h:=(decide ((b.2.1.1.2.2.2.2.1.length:Int)>8))
bif h then some (.inr (.inl ((5,()),())))
else(WO (b.2.1.1.2.2.2.2,())).bind fun j=>
bif !j.1.1 then some (.inr (.inl ((8,()),())))
else some (.inl ((aO (b.1.2.2.1+1),b.1.2.1,()),()))
else(some (.inr (.inr ((),()))))
def m87(v:UZ):Option uo:=
bif decide ((v.1.1.length:Int)>24)then some ((5,()),())
else((aC Gb ((0,v.1),())).bind fun a=>
aA a (fun b=>(some b)) (fun c=>(some ((0,()),()))))
def aoL:Abs.Spec:=⟨0,⟨[0],Oe,.nil⟩,⟨[2],cZ,.nil⟩,m87⟩
def aq5:Nat→Abs.eX
 |0=>.mk (bf [(9,⟨[37,0,3,4],(.dat .bool (.dat J9 WY)),OA⟩),(7,⟨[18,0,3,4],(.dat .bool (.dat J9 WY)),OA⟩)]) bB (bf [(4,⟨⟨[3,0],(.dat aQ Oe),.nil⟩,aee⟩)]) fw
 |_=>{}
theorem ai7:dh 87 aoL:=okW aq5 (aX af2 dI)
def H9(v:uo):Option eF:=
((bif decide (v.1.1≥0)then some ((decide (v.1.1≤8589934592),()),())
else some ((false,()),())):Option eF).bind fun a=>
some a
def ajd:Abs.Spec:=⟨0,⟨[0],cZ,.nil⟩,⟨[2],eH,.nil⟩,H9⟩
def ake:Nat→Abs.eX
 |0=>.mk (bf [(1,⟨[2],eH,.nil⟩)]) bB bB fw
 |_=>{}
theorem Uy:dh 148 ajd:=okW ake dI
def Cc(v:((Int×fe×Unit)×Unit)):Option (((Int×fe×Unit)×Unit)⊕(eF⊕qR)):=
let d:=(decide (v.1.1<(v.1.2.1.length:Int)))
bif d then((Abs.rowAt v.1.2.1 v.1.1 fun e _=>
(Wl ((e.1,()),())).bind fun f=>
bif !f.1.1 then some ((true,v.1.2.1,v.1.1,()),())
else Abs.rowAt v.1.2.1 v.1.1 fun g _=>
(Zj (g.2,())).bind fun h=>
bif !h.1.1 then some ((true,v.1.2.1,v.1.1,()),())
else Abs.rowAt v.1.2.1 v.1.1 fun j _=>
bif j.2.1.toList==ByteArray.empty.toList then some ((true,v.1.2.1,v.1.1,()),())
else bif decide (v.1.1>0)then Abs.rowAt v.1.2.1 v.1.1 fun b _=>
Abs.rowAt v.1.2.1 (aO (v.1.1-1)) fun c _=>
some ((Op.bytesLess b.1.toList c.1.toList||b.1.toList==c.1.toList,v.1.2.1,v.1.1,()),())
else some ((false,v.1.2.1,v.1.1,()),())):Option ((Bool×fe×Int×Unit)×Unit)).bind fun a=>
bif a.1.1 then some (.inr (.inl ((false,()),())))
else some (.inl ((aO (a.1.2.2.1+1),a.1.2.1,()),()))
else(some (.inr (.inr ((),()))))
def m57(v:Q7):Option eF:=
bif decide ((v.1.1.length:Int)>12)then some ((false,()),())
else((aC Cc ((0,v.1),())).bind fun a=>
aA a (fun b=>(some b)) (fun c=>(some ((true,()),()))))
def aqr:Abs.Spec:=⟨0,⟨[0],mF,.nil⟩,⟨[2],eH,.nil⟩,m57⟩
def aq1:Nat→Abs.eX
 |0=>.mk (bf [(6,⟨[54,0,3],(.dat .bool R8),.nil⟩)]) bB (bf [(4,⟨⟨[3,0],(.dat aQ mF),.nil⟩,Ro2⟩)]) fw
 |_=>{}
theorem Xq:dh 57 aqr:=okW aq1 (aX Yt (aX af9 dI))
def uH(v:afz):Option (afz⊕Gj):=
bif decide (v.1.1<(v.1.2.1.size:Int))then((((bif decide (0≤v.1.1∧v.1.1<v.1.2.1.size)then
let d:=(((((v.1.2.1[v.1.1.toNat]?.getD 0).toNat:Nat):Int):Int)==34)
bif d then some ((true,v.1.2.1,v.1.1,v.1.2.2),())
else bif decide (0≤v.1.1∧v.1.1<v.1.2.1.size)then
let e:=(((((v.1.2.1[v.1.1.toNat]?.getD 0).toNat:Nat):Int):Int)==92)
some ((e,v.1.2.1,v.1.1,v.1.2.2),())
else none
else none):Option ((Bool×ByteArray×Int×ByteArray×Unit)×Unit)).bind fun b=>
bif b.1.1 then bif decide (b.1.2.2.2.1.size+1≤4294967296)then
some ((b.1.2.1,b.1.2.2.1,b.1.2.2.2.1++(bs [92]),()),())
else none
else some (b.1.2,())):Option (Pv×Unit)).bind fun a=>
bif decide ((0:Int)≤a.1.2.1)then
bif decide ((0:Int)≤(aO (a.1.2.1+1)))then
bif decide (a.1.2.1.toNat≤(aO (a.1.2.1+1)).toNat∧(aO (a.1.2.1+1)).toNat≤a.1.1.size)then
let c:=(a.1.1.extract a.1.2.1.toNat (aO (a.1.2.1+1)).toNat)
bif decide (a.1.2.2.1.size+c.size≤4294967296)then
some (.inl ((aO (a.1.2.1+1),a.1.1,a.1.2.2.1++c,()),()))
else none
else none
else none
else none
else(some (.inr (v.1.2.2,())))
def adx(v:Gj):Option Gj:=
(aC uH ((0,v.1.1,bs [34],()),())).bind fun a=>
bif decide (a.1.1.size+1≤4294967296)then
some ((a.1.1++(bs [34]),()),())
else none
def ajx:Abs.Spec:=⟨0,⟨[0],iJ,.nil⟩,⟨[2],iJ,.nil⟩,adx⟩
def ak9:Nat→Abs.eX
 |0=>.mk (bf [(5,⟨[20,0,4,3],(.dat .bool (.dat .str Fw)),.nil⟩)]) (bf [(7,(⟨[0,4,3],(.dat .str Fw),.nil⟩,none))]) (bf [(3,⟨⟨[4,0,3],(.dat aQ OL),.nil⟩,(.one (.exit 0) ⟨[3],iJ,.nil⟩)⟩)]) fw
 |_=>{}
theorem ame:dh 109 ajx:=okW ak9 dI
def xS(v:adC):Option (adC⊕Gj):=
let d:=(decide (v.1.1<(v.1.2.1.length:Int)))
bif d then((bif decide (v.1.1>0)then bif decide (v.1.2.2.1.size+1≤4294967296)then
some ((v.1.2.1,v.1.1,v.1.2.2.1++(bs [44]),()),())
else none
else some ((v.1.2.1,v.1.1,v.1.2.2),())):Option ((fe×Int×ByteArray×Unit)×Unit)).bind fun a=>
Abs.rowAt a.1.1 a.1.2.1 fun b _=>
bif decide (b.1.size+1≤4294967296)then
Abs.rowAt a.1.1 a.1.2.1 fun e _=>
(adx (e.2,())).bind fun c=>
bif decide ((b.1++(bs [61])).size+c.1.1.size≤4294967296)then
bif decide (a.1.2.2.1.size+((b.1++(bs [61]))++c.1.1).size≤4294967296)then
let f:=(a.1.2.2.1++((b.1++(bs [61]))++c.1.1))
some (.inl ((aO (a.1.2.1+1),a.1.1,f,()),()))
else none
else none
else none
else(some (.inr (v.1.2.2,())))
def m59(v:Q7):Option Gj:=
(m57 v).bind fun b=>
bif !b.1.1 then some ((ByteArray.empty,()),())
else((aC xS ((0,v.1.1,bs [123],()),())).bind fun a=>
bif decide (a.1.1.size+1≤4294967296)then
some ((a.1.1++(bs [125]),()),())
else none)
def ao0:Abs.Spec:=⟨0,⟨[0],mF,.nil⟩,⟨[2],iJ,.nil⟩,m59⟩
def aom:Nat→Abs.eX
 |0=>.mk bB (bf [(9,(⟨[0,4,3],(.dat jH Fw),.nil⟩,none))]) (bf [(5,⟨⟨[4,0,3],(.dat aQ (.dat jH iJ)),.nil⟩,(.one (.exit 0) ⟨[3],iJ,.nil⟩)⟩)]) fw
 |_=>{}
theorem aiF:dh 59 ao0:=okW aom (aX Xq (aX ame dI))
def xZ(v:(iN×MI)):Option ((iN×MI)⊕(eF⊕qR)):=
let e:=(decide (v.1.1<(v.2.1.1.2.2.1.length:Int)))
bif e then Abs.rowAt v.2.1.1.2.2.1 v.1.1 fun a _=>
(((m57 ((a.2.1,()),())).bind fun f=>
bif !f.1.1 then some ((true,v.1),v.2)
else(m59 ((a.2.1,()),())).bind fun g=>
bif !(g.1.1.toList==a.1.toList)then some ((true,v.1),v.2)
else(H9 ((a.2.2.1,()),())).bind fun h=>
bif !h.1.1 then some ((true,v.1),v.2)
else(H9 ((a.2.2.2.1,()),())).bind fun j=>
bif !j.1.1 then some ((true,v.1),v.2)
else bif !a.2.2.2.2.1 then bif a.2.2.2.2.2.1 then some ((true,v.1),v.2)
else bif decide (v.1.1>0)then Abs.rowAt v.2.1.1.2.2.1 (aO (v.1.1-1)) fun c _=>
some ((Op.bytesLess a.1.toList c.1.toList||a.1.toList==c.1.toList,v.1),v.2)
else some ((false,v.1),v.2)
else bif decide (v.1.1>0)then Abs.rowAt v.2.1.1.2.2.1 (aO (v.1.1-1)) fun d _=>
some ((Op.bytesLess a.1.toList d.1.toList||a.1.toList==d.1.toList,v.1),v.2)
else some ((false,v.1),v.2)):Option (uj×MI)).bind fun b=>
bif b.1.1 then some (.inr (.inl ((false,()),())))
else some (.inl ((aO (b.1.2.1+1),()),b.2))
else(some (.inr (.inr ((),()))))
def m88(v:Xb):Option eF:=
((let b:=(decide ((v.1.1.2.2.1.length:Int)>256))
bif b then some ((true,()),v)
else bif decide (v.1.1.1<0)then some ((true,()),v)
else bif v.1.1.2.2.2.1 !=(-1)then(H9 ((v.1.1.2.2.2.1,()),())).bind fun c=>
bif !c.1.1 then some ((true,()),v)
else bif v.1.1.2.2.2.2.1 !=(-1)then(H9 (v.1.1.2.2.2.2,())).bind fun d=>
some ((!d.1.1,()),v)
else some ((false,()),v)
else bif v.1.1.2.2.2.2.1 !=(-1)then(H9 (v.1.1.2.2.2.2,())).bind fun e=>
some ((!e.1.1,()),v)
else some ((false,()),v)):Option (mY×MI)).bind fun a=>
bif a.1.1 then some ((false,()),())
else((aC xZ ((0,()),a.2)).bind fun f=>
aA f (fun g=>(some g)) (fun h=>(some ((true,()),()))))
def aqF:Abs.Spec:=⟨0,⟨[0],pz,.nil⟩,⟨[2],eH,.nil⟩,m88⟩
def anZ:Nat→Abs.eX
 |0=>.mk (bf [(7,⟨[96,1,3],(.dat .bool Iu),yF⟩),(1,⟨[35,1],(.dat .bool Pz),yF⟩)]) bB (bf [(4,⟨⟨[3,1],WY,yF⟩,Ro2⟩)]) fw
 |_=>{}
theorem abk:dh 88 aqF:=okW anZ (aX Uy (aX Xq (aX aiF dI)))
def akI(v:Xb):Option eF:=
some (((v.1.1.2.2.1.length:Int)==0,()),())
def ane:Abs.Spec:=⟨0,⟨[0],pz,.nil⟩,⟨[2],eH,.nil⟩,akI⟩
theorem ani:dh 149 ane:=okW rT dI
def m89(v:((Y8×Y3×Int×Unit)×Unit)):Option eF:=
(((akI ((v.1.2.1,()),())).bind fun a=>
bif a.1.1 then bif v.1.2.1.2.2.2.2.1==(-1)then some ((true,()),())
else Abs.rowAt v.1.1.1 v.1.2.1.1 fun b _=>
let c:=(decide (((aO (v.1.2.1.2.2.2.2.1+b.2.2.2.2.2.1)):Int)≤v.1.2.2.1))
some ((c,()),())
else some ((false,()),())):Option eF).bind fun d=>
some d
def aoX:Abs.Spec:=⟨0,⟨[0,1,2],(.dat Z9 (.dat Z1 cZ)),.nil⟩,⟨[6],eH,.nil⟩,m89⟩
def apg:Nat→Abs.eX
 |0=>.mk (bf [(1,⟨[6],eH,.nil⟩)]) bB bB fw
 |_=>{}
theorem ah2:dh 89 aoX:=okW apg (aX ani dI)
def m90(v:((Y3×Int×ByteArray×Unit)×Unit)):Option eF:=
((bif decide (v.1.1.1<v.1.2.1)then some ((true,()),())
else bif v.1.1.1==v.1.2.1 then some ((Op.bytesLess v.1.1.2.1.toList v.1.2.2.1.toList,()),())
else some ((false,()),())):Option eF).bind fun a=>
some a
def apl:Abs.Spec:=⟨0,⟨[0,1,2],(.dat Z1 Fw),.nil⟩,⟨[6],eH,.nil⟩,m90⟩
def apB:Nat→Abs.eX
 |0=>.mk (bf [(1,⟨[6],eH,.nil⟩)]) bB bB fw
 |_=>{}
theorem amu:dh 90 apl:=okW apB dI
def Ct(v:afN):Option (afN⊕((fe×List ByteArray×Int×Unit)×JG)):=
let b:=(decide (v.1.2.2.2.1<(v.1.2.1.length:Int)))
bif b then Abs.rowAt v.1.2.1 v.1.2.2.2.1 fun c _=>
Abs.rowAt v.1.1 v.1.2.2.1 fun d _=>
bif c.toList==d.1.toList then Abs.rowAt v.1.1 v.1.2.2.1 fun a _=>
bif decide (v.2.1.length+([a]:List Nr).length≤4294967296)then
let e:=(v.2.1++([a]:List Nr))
some (.inr ((v.1.1,v.1.2.1,v.1.2.2.1,()),e,()))
else none
else some (.inl ((v.1.1,v.1.2.1,v.1.2.2.1,aO (v.1.2.2.2.1+1),()),v.2))
else(some (.inr ((v.1.1,v.1.2.1,v.1.2.2.1,()),v.2)))
def Cx(v:afb):Option (afb⊕O1):=
let b:=(decide (v.1.1<(v.1.2.1.length:Int)))
bif b then(aC Ct ((v.1.2.1,v.1.2.2.1,v.1.1,0,()),v.2)).bind fun a=>
some (.inl ((aO (a.1.2.2.1+1),a.1.1,a.1.2.1,()),a.2))
else(some (.inr ((),v.2)))
def m60(v:afT):Option O1:=
(aC Cx ((0,v.1),[],())).bind fun a=>
some ((),a.2)
def aoN:Abs.Spec:=⟨0,⟨[0,1],(.dat jH JV),.nil⟩,⟨[4],Ox,BN⟩,m60⟩
def aoH:Nat→Abs.eX
 |0=>.mk bB bB (bf [(3,⟨⟨[6,0,5,1],(.dat aQ (.dat jH (.st Xx JV))),BN⟩,(.one (.exit 0) ⟨[5],Ox,BN⟩)⟩),(6,⟨⟨[0,1,6,5,7],(.dat jH (.dat Jp (.dat aQ (.st Xx cZ)))),BN⟩,(.one (.exit 2) ⟨[0,5,1,6],(.dat jH (.st Xx (.dat Jp cZ))),BN⟩)⟩)]) fw
 |_=>{}
theorem aoM:dh 60 aoN:=okW aoH dI
def m20(v:((mJ×fe×Unit)×Unit)):Option Gj:=
(m57 (v.1.2,())).bind fun a=>
bif !a.1.1 then some ((ByteArray.empty,()),())
else((m60 ((v.1.2.1,v.1.1.2.2.2.1,()),())).bind fun b=>
(m59 (b.2,())).bind fun c=>
some c)
def aqb:Abs.Spec:=⟨0,⟨[0,1],(.dat Z5 mF),.nil⟩,⟨[4],iJ,.nil⟩,m20⟩
theorem amN:dh 20 aqb:=okW rT (aX Xq (aX aoM (aX aiF dI)))
def vQ(v:(qG×ahP)):Option ((qG×ahP)⊕(eF⊕(iN×Y40))):=
let a:=(decide (v.1.1<(v.2.1.1.2.2.1.length:Int)))
bif a then Abs.rowAt v.2.2.1.1.1 v.2.1.1.1 fun b _=>
Abs.rowAt v.2.1.1.2.2.1 v.1.1 fun c _=>
(m20 ((b,c.2.1,()),())).bind fun d=>
bif !(d.1.1.toList==v.2.1.1.2.1.toList)then some (.inr (.inl ((false,()),())))
else some (.inl ((aO (v.1.1+1),v.1.2),v.2))
else(some (.inr (.inr (v.1.2,v.2.2))))
def sM(v:(iN×Y40)):Option ((iN×Y40)⊕(eF⊕agi)):=
let d:=(decide (v.1.1<(v.2.2.1.1.2.1.length:Int)))
bif d then Abs.rowAt v.2.2.1.1.2.1 v.1.1 fun a _=>
(((m88 ((a,()),())).bind fun e=>
bif !e.1.1 then some ((true,v.1),(a,()),v.2)
else let f:=(decide (a.1≥(v.2.1.1.1.length:Int)))
bif f then some ((true,v.1),(a,()),v.2)
else(m89 ((v.2.1.1,a,v.2.2.1.1.1,()),())).bind fun g=>
bif g.1.1 then some ((true,v.1),(a,()),v.2)
else bif decide (v.1.1>0)then Abs.rowAt v.2.2.1.1.2.1 (aO (v.1.1-1)) fun h _=>
(m90 ((h,a.1,a.2.1,()),())).bind fun j=>
some ((!j.1.1,v.1),(a,()),v.2)
else some ((false,v.1),(a,()),v.2)):Option (uj×ahP)).bind fun b=>
bif b.1.1 then some (.inr (.inl ((false,()),())))
else(aC vQ ((0,b.1.2),b.2)).bind fun k=>
aA k (fun l=>(some (.inr (.inl l)))) (fun c=>(some (.inl ((aO (c.1.1+1),()),c.2))))
else(some (.inr (.inr ((),v.2.2))))
def uW(v:(iN×Sw)):Option ((iN×Sw)⊕(eF⊕qR)):=
let a:=(decide (v.1.1<(v.2.1.1.2.2.1.length:Int)))
bif a then Abs.rowAt v.2.1.1.2.2.1 v.1.1 fun b _=>
bif decide (b.1≥v.2.1.1.2.2.2.1)then some (.inr (.inl ((false,()),())))
else some (.inl ((aO (v.1.1+1),()),v.2))
else(some (.inr (.inr ((),()))))
def m37(v:afZ):Option eF:=
(((m35 ((v.1.1,()),())).bind fun b=>
bif b.1.1 !=0 then some ((true,()),(v.1.1,()),v.1.2,())
else bif decide (v.1.2.1.1<0)then some ((true,()),(v.1.1,()),v.1.2,())
else bif decide (v.1.2.1.1>8589934592)then some ((true,()),(v.1.1,()),v.1.2,())
else let c:=(decide ((v.1.2.1.2.1.length:Int)>64))
bif c then some ((true,()),(v.1.1,()),v.1.2,())
else(m87 ((v.1.2.1.2.2.1,()),())).bind fun d=>
bif d.1.1 !=0 then some ((true,()),(v.1.1,()),v.1.2,())
else some ((decide (v.1.2.1.2.2.2.1<1),()),(v.1.1,()),v.1.2,())):Option (mY×Y40)).bind fun a=>
bif a.1.1 then some ((false,()),())
else((aC sM ((0,()),a.2)).bind fun e=>
aA e (fun f=>(some f)) (fun g=>((aC uW ((0,()),g.2)).bind fun h=>
aA h (fun j=>(some j)) (fun k=>(some ((true,()),()))))))
def aoU:Abs.Spec:=⟨0,⟨[0,1],(.dat Z9 kS),.nil⟩,⟨[4],eH,.nil⟩,m37⟩
def apm:Nat→Abs.eX
 |0=>.mk (bf [(7,⟨[86,6,2,3,5],(.dat .bool (.st gQ (.st qi (.st zF cZ)))),(.box 5 pz LZ)⟩),(1,⟨[38,2,3],ZR,LZ⟩)]) bB (bf [(15,⟨⟨[8,3],(.dat aQ SQ),Dg⟩,(.more .ret ⟨[4],eH,.nil⟩ (.one (.exit 4) ⟨[],.nil,.nil⟩))⟩),(4,⟨⟨[2,5,3],(.st Dq (.dat aQ Xm)),LZ⟩,(.more .ret ⟨[4],eH,.nil⟩ (.one (.exit 0) ⟨[3],SQ,Dg⟩))⟩),(10,⟨⟨[7,6,2,3,5],(.dat aQ (.st gQ (.st qi (.st zF cZ)))),(.box 5 pz LZ)⟩,(.more .ret ⟨[4],eH,.nil⟩ (.one (.exit 2) ⟨[2,3,5],(.st Dq (.st kU cZ)),LZ⟩))⟩)]) fw
 |_=>{}
theorem Zm:dh 37 aoU:=okW apm (aX anb (aX ai7 (aX abk (aX ah2 (aX amu (aX amN dI))))))
def ve(v:((Int×Int×List mJ×Unit)×EZ)):Option (((Int×Int×List mJ×Unit)×EZ)⊕Oo):=
let b:=(decide (v.1.1<(v.1.2.2.1.length:Int)))
bif b then((Abs.rowAt v.1.2.2.1 v.1.1 fun c _=>
bif c.1==v.1.2.1 then bif decide (v.2.1.length+ [v.1.1].length≤4294967296)then
some ((v.1.2.1,v.1.2.2.1,v.1.1,()),v.2.1++ [v.1.1],())
else none
else some ((v.1.2.1,v.1.2.2.1,v.1.1,()),v.2)):Option ((Int×List mJ×Int×Unit)×EZ)).bind fun a=>
some (.inl ((aO (a.1.2.2.1+1),a.1.1,a.1.2.1,()),a.2))
else(some (.inr ((),v.2)))
def abC(v:((List mJ×Int×Unit)×Unit)):Option Oo:=
(aC ve ((0,v.1.2.1,v.1.1,()),[],())).bind fun a=>
some ((),a.2)
def afQ:Abs.Spec:=⟨0,⟨[0,1],La,.nil⟩,⟨[4],Nv,Cq⟩,abC⟩
def ajf:Nat→Abs.eX
 |0=>.mk bB (bf [(4,(⟨[5,1,0,6],(.st NU (.dat aQ La)),Cq⟩,none))]) (bf [(3,⟨⟨[6,5,1,0],(.dat aQ (.st NU (.dat aQ Pt))),Cq⟩,(.one (.exit 0) ⟨[5],Nv,Cq⟩)⟩)]) fw
 |_=>{}
theorem amv:dh 107 afQ:=okW ajf dI
def x9(v:adC):Option (adC⊕(Gj⊕qR)):=
let a:=(decide (v.1.1<(v.1.2.1.length:Int)))
bif a then Abs.rowAt v.1.2.1 v.1.1 fun b _=>
bif b.1.toList==v.1.2.2.1.toList then Abs.rowAt v.1.2.1 v.1.1 fun c _=>
some (.inr (.inl (c.2,())))
else some (.inl ((aO (v.1.1+1),v.1.2),()))
else(some (.inr (.inr ((),()))))
def WW(v:((fe×ByteArray×Unit)×Unit)):Option Gj:=
(aC x9 ((0,v.1),())).bind fun a=>
aA a (fun b=>(some b)) (fun c=>(some ((ByteArray.empty,()),())))
def ajr:Abs.Spec:=⟨0,⟨[0,1],(.dat jH iJ),.nil⟩,⟨[4],iJ,.nil⟩,WW⟩
def am4:Nat→Abs.eX
 |0=>.mk bB bB (bf [(2,⟨⟨[5,0,1],(.dat aQ (.dat jH iJ)),.nil⟩,(.more .ret ⟨[4],iJ,.nil⟩ Ro1)⟩)]) fw
 |_=>{}
theorem af5:dh 203 ajr:=okW am4 dI
def jk(v:anl):Option (anl⊕((ByteArray×ByteArray×Int×Unit)×U7)):=
bif decide (v.1.1≤(v.1.2.1.size:Int))then((bif decide (0≤v.1.2.2.1∧v.1.2.2.1<v.1.2.2.2.1.size)then
let b:=(((((v.1.2.2.2.1[v.1.2.2.1.toNat]?.getD 0).toNat:Nat):Int):Int)==42)
bif b then((bif decide (0≤v.1.1∧v.1.1<v.2.2.1.length)then
(v.2.2.1[v.1.1.toNat]?).bind fun c=>
bif c then bif decide (0≤v.1.1∧v.1.1<v.2.1.length)then
bif decide (v.1.1.toNat<v.2.1.length)then
some ((v.1.2.1,v.1.2.2.1,v.1.2.2.2.1,v.1.1,()),v.2.1.set v.1.1.toNat true,v.2.2)
else none
else none
else bif decide (v.1.1>0)then bif decide ((0:Int)≤(aO (v.1.1-1))∧((aO (v.1.1-1)):Int)<v.2.1.length)then
(v.2.1[(aO (v.1.1-1)).toNat]?).bind fun d=>
bif decide (0≤v.1.1∧v.1.1<v.2.1.length)then
bif decide (v.1.1.toNat<v.2.1.length)then
some ((v.1.2.1,v.1.2.2.1,v.1.2.2.2.1,v.1.1,()),v.2.1.set v.1.1.toNat d,v.2.2)
else none
else none
else none
else bif decide (0≤v.1.1∧v.1.1<v.2.1.length)then
bif decide (v.1.1.toNat<v.2.1.length)then
some ((v.1.2.1,v.1.2.2.1,v.1.2.2.2.1,v.1.1,()),v.2.1.set v.1.1.toNat false,v.2.2)
else none
else none
else none):Option ah5).bind fun e=>
some e
else bif decide (v.1.1>0)then((bif decide ((0:Int)≤(aO (v.1.1-1))∧((aO (v.1.1-1)):Int)<v.2.2.1.length)then
(v.2.2.1[(aO (v.1.1-1)).toNat]?).bind fun f=>
bif f then bif decide (0≤v.1.2.2.1∧v.1.2.2.1<v.1.2.2.2.1.size)then
let g:=(((((v.1.2.2.2.1[v.1.2.2.1.toNat]?.getD 0).toNat:Nat):Int):Int)==63)
bif g then bif decide (0≤v.1.1∧v.1.1<v.2.1.length)then
bif decide (v.1.1.toNat<v.2.1.length)then
some ((v.1.2.1,v.1.2.2.1,v.1.2.2.2.1,v.1.1,()),v.2.1.set v.1.1.toNat true,v.2.2)
else none
else none
else bif decide (0≤v.1.2.2.1∧v.1.2.2.1<v.1.2.2.2.1.size)then
bif decide ((0:Int)≤(aO (v.1.1-1))∧((aO (v.1.1-1)):Int)<v.1.2.1.size)then
let h:=(((((v.1.2.2.2.1[v.1.2.2.1.toNat]?.getD 0).toNat:Nat):Int):Int)==(((v.1.2.1[(aO (v.1.1-1)).toNat]?.getD 0).toNat:Nat):Int))
bif decide (0≤v.1.1∧v.1.1<v.2.1.length)then
bif decide (v.1.1.toNat<v.2.1.length)then
some ((v.1.2.1,v.1.2.2.1,v.1.2.2.2.1,v.1.1,()),v.2.1.set v.1.1.toNat h,v.2.2)
else none
else none
else none
else none
else none
else bif decide (0≤v.1.1∧v.1.1<v.2.1.length)then
bif decide (v.1.1.toNat<v.2.1.length)then
some ((v.1.2.1,v.1.2.2.1,v.1.2.2.2.1,v.1.1,()),v.2.1.set v.1.1.toNat false,v.2.2)
else none
else none
else none):Option ah5).bind fun j=>
some j
else some ((v.1.2.1,v.1.2.2.1,v.1.2.2.2.1,v.1.1,()),v.2)
else none):Option ah5).bind fun a=>
some (.inl ((aO (a.1.2.2.2.1+1),a.1.1,a.1.2.1,a.1.2.2.1,()),a.2))
else(some (.inr ((v.1.2.1,v.1.2.2.2.1,v.1.2.2.1,()),v.2.1,())))
def A9(v:(Pv×U7)):Option ((Pv×U7)⊕((ByteArray×Unit)×U7)):=
let b:=(decide (v.1.2.1<(v.1.2.2.1.size:Int)))
bif b then bif decide ((0:Int)≤(aO ((v.1.1.size:Int)+1))∧((aO ((v.1.1.size:Int)+1)):Int)≤(aO ((v.1.1.size:Int)+1))∧((aO ((v.1.1.size:Int)+1)):Int)≤4294967296)then
(aC jk ((0,v.1),List.replicate (aO ((v.1.1.size:Int)+1)).toNat (false:Bool),v.2)).bind fun a=>
some (.inl ((a.1.1,aO (a.1.2.2.1+1),a.1.2.1,()),a.2))
else none
else(some (.inr ((v.1.1,()),v.2)))
def Zq(v:Ul):Option eF:=
bif decide ((0:Int)≤(aO ((v.1.2.1.size:Int)+1))∧((aO ((v.1.2.1.size:Int)+1)):Int)≤(aO ((v.1.2.1.size:Int)+1))∧((aO ((v.1.2.1.size:Int)+1)):Int)≤4294967296)then
bif decide ((0:Int)≤0∧(0:Int)<(List.replicate (aO ((v.1.2.1.size:Int)+1)).toNat (false:Bool)).length)then
bif decide (0<(List.replicate (aO ((v.1.2.1.size:Int)+1)).toNat (false:Bool)).length)then
(aC A9 ((v.1.2.1,0,v.1.1,()),(List.replicate (aO ((v.1.2.1.size:Int)+1)).toNat (false:Bool)).set 0 true,())).bind fun a=>
bif decide ((0:Int)≤(a.1.1.size:Int)∧(a.1.1.size:Int)<a.2.1.length)then
(a.2.1[(a.1.1.size:Int).toNat]?).bind fun b=>
some ((b,()),())
else none
else none
else none
else none
def akk:Abs.Spec:=⟨0,⟨[0,1],OL,.nil⟩,⟨[4],eH,.nil⟩,Zq⟩
def ama:Nat→Abs.eX
 |0=>.mk (bf [(13,⟨[7,5,1,6,0,8],ahK,Ua⟩),(11,⟨[7,5,1,6,0,8],ahK,Ua⟩)]) (bf [(9,(⟨[7,5,1,6,0,8],ahK,Ua⟩,none))]) (bf [(4,⟨⟨[5,1,6,0],(.st Ue (.dat .str Fw)),adB⟩,(.one (.exit 0) ⟨[1,5],(.dat .str (.st Ue .nil)),adB⟩)⟩),(8,⟨⟨[8,7,5,1,6,0],(.dat aQ (.st Ue (.st (.own .bool (1,0)) (.dat .str Fw)))),Ua⟩,(.one (.exit 2) ⟨[1,0,6,7],(.dat .str (.dat .str (.dat aQ (.st Ue .nil)))),adB⟩)⟩)]) fw
 |_=>{}
theorem alz:dh 204 akk:=okW ama dI
def aeo(v:((Pv×fe×Unit)×Unit)):Option eF:=
(WW ((v.1.2.1,v.1.1.1,()),())).bind fun a=>
bif v.1.1.2.1==0 then some ((a.1.1.toList==v.1.1.2.2.1.toList,()),())
else(bif v.1.1.2.1==1 then some ((!(a.1.1.toList==v.1.1.2.2.1.toList),()),())
else bif v.1.1.2.1==2 then(Zq ((v.1.1.2.2.1,a.1),())).bind fun b=>
some b
else bif v.1.1.2.1==3 then(Zq ((v.1.1.2.2.1,a.1),())).bind fun c=>
some ((!c.1.1,()),())
else some ((false,()),()))
def ajL:Abs.Spec:=⟨0,⟨[0,1],(.dat Z33 mF),.nil⟩,⟨[4],eH,.nil⟩,aeo⟩
theorem akq:dh 163 ajL:=okW rT (aX af5 (aX alz dI))
def wI(v:((Int×fe×Y4×Unit)×Unit)):Option (((Int×fe×Y4×Unit)×Unit)⊕(eF⊕qR)):=
let a:=(decide (v.1.1<(v.1.2.2.1.length:Int)))
bif a then Abs.rowAt v.1.2.2.1 v.1.1 fun b _=>
(aeo ((b,v.1.2.1,()),())).bind fun c=>
bif !c.1.1 then some (.inr (.inl ((false,()),())))
else some (.inl ((aO (v.1.1+1),v.1.2),()))
else(some (.inr (.inr ((),()))))
def OZ(v:((Y4×fe×Unit)×Unit)):Option eF:=
(aC wI ((0,v.1.2.1,v.1.1,()),())).bind fun a=>
aA a (fun b=>(some b)) (fun c=>(some ((true,()),())))
def afU:Abs.Spec:=⟨0,⟨[0,1],(.dat Z2 mF),.nil⟩,⟨[4],eH,.nil⟩,OZ⟩
def ajQ:Nat→Abs.eX
 |0=>.mk bB bB (bf [(2,⟨⟨[5,1,0],(.dat aQ (.dat jH (.dat Z2 .nil))),.nil⟩,Ro4⟩)]) fw
 |_=>{}
theorem XR:dh 108 afU:=okW ajQ (aX akq dI)
def tK(rc:X6→Option Oo)(v:afL):Option (afL⊕(iN×EZ)):=
let x61:=(decide (v.1.1<((v.2.1.length:Nat):Int)))
bif x61 then((bif decide (0≤v.1.1∧v.1.1<v.2.1.length)then
(v.2.1[v.1.1.toNat]?).bind fun e62=>
Abs.rowAt v.1.2.2.1 e62 fun e63 _=>
(OZ ((e63.2.1,v.1.2.2.2.1,()),())).bind fun u64=>
bif !u64.1.1 then some (.inl ((v.1.2.1,v.1.2.2.1,v.1.2.2.2.1,v.1.1,()),v.2.1,v.2.2.1,()))
else bif decide (0≤v.1.1∧v.1.1<v.2.1.length)then
(v.2.1[v.1.1.toNat]?).bind fun e65=>
(rc ((v.1.2.2.1,e65,v.1.2.2.2.1,()),())).bind fun u66=>
bif decide (v.2.2.1.length+u66.2.1.length≤4294967296)then
bif decide (0≤v.1.1∧v.1.1<v.2.1.length)then
(v.2.1[v.1.1.toNat]?).bind fun e67=>
Abs.rowAt v.1.2.2.1 e67 fun e68 _=>
bif !e68.2.2.2.2.2.2.2.1 then some (.inr ((v.1.2.1,()),v.2.2.1++u66.2.1,()))
else some (.inl ((v.1.2.1,v.1.2.2.1,v.1.2.2.2.1,v.1.1,()),v.2.1,v.2.2.1++u66.2.1,()))
else none
else none
else none
else none):Option (((Int×List mJ×fe×Int×Unit)×aci)⊕(iN×EZ))).bind fun r71=>
aA r71 (fun v69=>(some (.inl ((aO (v69.1.2.2.2.1+1),v69.1.1,v69.1.2.1,v69.1.2.2.1,()),v69.2.1,v69.2.2.1,())))) (fun d70=>(some (.inr ((d70.1.1,()),d70.2.1,()))))
else(some (.inr ((v.1.2.1,()),v.2.2.1,())))
def i58:Abs.Sg:=⟨[0,1,2],(.dat Bw (.dat aQ mF)),.nil⟩
def o58:Abs.Sg:=⟨[6],Nv,Cq⟩
def agE(rc:X6→Option Oo)(v:X6):Option Oo:=
(abC ((v.1.1,(v.1.2.1,())),())).bind fun u60=>
(aC (tK rc) ((0,(v.1.2.1,(v.1.1,(v.1.2.2.1,())))),(u60.2.1,([],())))).bind fun d72=>
bif ((((d72.2.1.length:Nat):Int):Int)==0)then(some ((),([d72.1.1],())))
else(some ((),(d72.2.1,())))
def VZ(n:Nat):X6→Option Oo:=Nat.rec (motive:=fun _=>X6→Option Oo) (fun _=>none) (fun _ rc=>agE rc) n
def m58:X6→Option Oo:=VZ 400
def aez(n:Nat):Abs.Spec:=⟨0,i58,o58,VZ n⟩
def aq3:Abs.Spec:=⟨0,i58,o58,m58⟩
def anO:Nat→Abs.eX
 |0=>.mk bB (bf [(5,(⟨[1,8,0,2,7,9],(.dat aQ (.st NU (.dat Bw (.dat jH (.st (.own aQ (1,0)) cZ))))),TY⟩,some Ro7))]) (bf [(4,⟨⟨[9,1,8,0,2,7],(.dat aQ (.dat aQ (.st NU (.dat Bw (.dat jH (.st (.own aQ (1,0)) .nil)))))),TY⟩,Ro7⟩)]) fw
 |_=>{}
theorem af6:∀n,Abs.gP Tryz.prog 58 (aez n)
 |0=>fun _ _ _ _ _ _ h=>by cases h
 |n+1=>Abs.xY (C:=Zc) (mv:=Vn) N8 (n:=12) (an:=anO) (T:=Abs.vX [(58,aez n),(107,afQ),(108,afU)]) good Df (Abs.lV _ (by simp only[List.forall_mem_cons];exact⟨af6 n,amv,XR,fun _ h=>by cases h⟩)) rfl (by intro v;kernel_rfl)
theorem aow:Abs.gP Tryz.prog 58 aq3:=af6 400
def m19(v:((List mJ×fe×Unit)×Unit)):Option Oo:=
(((m56 ((v.1.1,()),())).bind fun b=>
bif b.1.1 !=0 then some ((true,v.1.2.1,v.1.1,()),())
else(m57 (v.1.2,())).bind fun c=>
some ((!c.1.1,v.1.2.1,v.1.1,()),())):Option ae2).bind fun a=>
bif a.1.1 then some ((),[],())
else((m58 ((a.1.2.2.1,0,a.1.2.1,()),())).bind fun d=>
some ((),d.2.1,()))
def aqG:Abs.Spec:=⟨0,⟨[0,1],(.dat Bw mF),.nil⟩,⟨[4],Nv,Cq⟩,m19⟩
def aoo:Nat→Abs.eX
 |0=>.mk (bf [(1,⟨[12,1,0],(.dat .bool (.dat jH Pt)),.nil⟩)]) bB bB fw
 |_=>{}
theorem aqa:dh 19 aqG:=okW aoo (aX aiA (aX Xq (aX aow dI)))
def m91(v:Sl):Option (Unit×(qO×Unit)):=
some ((),((v.1.1,v.1.2.1,-1,-1,()),()),())
def aq6:Abs.Spec:=⟨0,⟨[0,1],Fw,.nil⟩,⟨[4],Pz,(.box 5 EN .nil)⟩,m91⟩
theorem aqB:dh 91 aq6:=okW rT dI
def Vz(v:(L9×Unit)):Option eF:=
(m56 ((([(-1,[],v.1.1.2.2)]:List mJ),()),())).bind fun a=>
some ((a.1.1==0,()),())
def amB:Abs.Spec:=⟨0,⟨[0],wP,.nil⟩,⟨[2],eH,.nil⟩,Vz⟩
theorem Y6:dh 150 amB:=okW rT (aX aiA dI)
def V6(v:Xb):Option (Unit×(qO×List mI×Unit)):=
bif decide (0+v.1.1.2.2.1.length≤4294967296)then
some ((),((v.1.1.1,v.1.1.2.1,v.1.1.2.2.2),()),v.1.1.2.2.1,())
else none
def aji:Abs.Spec:=⟨0,⟨[0],pz,.nil⟩,⟨[2],Pz,AX⟩,V6⟩
theorem aaQ:dh 151 aji:=okW rT dI
def Ro(v:uo):Option uo:=
bif decide (v.1.1>8589934592)then some ((-1,()),())
else(some v)
def am5:Abs.Spec:=⟨0,⟨[0],cZ,.nil⟩,⟨[2],cZ,.nil⟩,Ro⟩
theorem Zv:dh 159 am5:=okW rT dI
def y7(v:((Int×ByteArray×Unit)×Rx)):Option (((Int×ByteArray×Unit)×Rx)⊕((ByteArray×Int×Unit)×Rx)):=
((let b:=(decide (v.1.1<((v.2.1.length:Nat):Int)))
bif b then bif decide (0≤v.1.1∧v.1.1<v.2.1.length)then
(v.2.1[v.1.1.toNat]?).bind fun c=>
some ((Op.bytesLess c.1.toList v.1.2.1.toList,v.1.2.1,v.1.1,()),v.2)
else none
else some ((false,v.1.2.1,v.1.1,()),v.2)):Option (Zx×Rx)).bind fun a=>
bif a.1.1 then some (.inl ((aO (a.1.2.2.1+1),a.1.2.1,()),a.2))
else(some (.inr (a.1.2,a.2)))
def m92(v:ae7):Option Fe:=
(((m88 ((v.1.1,()),())).bind fun ad=>
bif !ad.1.1 then some ((true,v.1.2.2.2.2.1,v.1.2.2.1,v.1.2.2.2.1,()),((0,ByteArray.empty,0,0,()),()),(v.1.2.1,()),(v.1.1,()),())
else(Vz ((v.1.2.1,()),())).bind fun ae=>
bif !ae.1.1 then some ((true,v.1.2.2.2.2.1,v.1.2.2.1,v.1.2.2.2.1,()),((0,ByteArray.empty,0,0,()),()),(v.1.2.1,()),(v.1.1,()),())
else(m57 ((v.1.2.2.1,()),())).bind fun af=>
some ((!af.1.1,v.1.2.2.2.2.1,v.1.2.2.1,v.1.2.2.2.1,()),((0,ByteArray.empty,0,0,()),()),(v.1.2.1,()),(v.1.1,()),())):Option ((Bool×Int×fe×Bool×Unit)×XD)).bind fun c=>
bif c.1.1 then some ((8,()),((0,ByteArray.empty,0,0,()),()),[],())
else((H9 ((c.1.2.1,()),())).bind fun ag=>
bif !ag.1.1 then some ((1,()),((0,ByteArray.empty,0,0,()),()),[],())
else(V6 c.2.2.2).bind fun j=>
(m59 ((c.1.2.2.1,()),())).bind fun t=>
(aC y7 ((0,t.1),j.2.2)).bind fun k=>
((let ah:=(decide (k.1.2.1<((k.2.1.length:Nat):Int)))
bif ah then bif decide (0≤k.1.2.1∧k.1.2.1<k.2.1.length)then
(k.2.1[k.1.2.1.toNat]?).bind fun ai=>
some ((k.1.2.1,ai.1.toList==k.1.1.toList,()),k.2)
else none
else some ((k.1.2.1,false,()),k.2)):Option (Uf×Rx)).bind fun b=>
bif decide (b.2.1.length=j.2.2.1.length)&&true then
bif !b.1.2.1 then bif !c.1.2.2.2.1 then((bif ((b.2.1.length:Nat):Int)==0 then some ((),b.2.1,((0,ByteArray.empty,0,0,()),()),((j.2.1.1.1,j.2.1.1.2.1,-1,j.2.1.1.2.2.2),()),())
else some ((),b.2.1,((0,ByteArray.empty,0,0,()),()),j.2.1,())):Option NM).bind fun x=>
bif decide (x.2.1.length=b.2.1.length)&&true then
some ((0,()),x.2.2.2.1,x.2.1,())
else none
else let aj:=(decide (((b.2.1.length:Nat):Int)≥256))
bif aj then some ((5,()),((0,ByteArray.empty,0,0,()),()),[],())
else bif decide (b.2.1.length+([(ByteArray.empty,[],0,0,false,false,())]:List mI).length≤4294967296)then
let h:=(b.2.1++([(ByteArray.empty,[],0,0,false,false,())]:List mI))
bif decide ((0:Int)≤(aO (b.1.1+1)))then
bif decide ((aO (b.1.1+1)).toNat≤h.length∧h.length≤h.length)then
bif decide ((0:Int)≤b.1.1)then
bif decide (b.1.1.toNat≤h.length∧h.length≤h.length)then
bif decide (b.1.1.toNat+(h.length-b.1.1.toNat)≤h.length)then
bif decide ((aO (b.1.1+1)).toNat+(h.length-(aO (b.1.1+1)).toNat)≤h.length)then
let s:=(bK h (aO (b.1.1+1)).toNat (((h.drop b.1.1.toNat).take (h.length-b.1.1.toNat)).take (h.length-(aO (b.1.1+1)).toNat)))
bif decide (0+c.1.2.2.1.length≤4294967296)then
bif decide (0≤b.1.1∧b.1.1<s.length)then
bif decide (b.1.1.toNat<s.length)then
((bif j.2.1.1.2.2.2.1 !=(-1)then let ab:=(aO (j.2.1.1.2.2.2.1+c.2.2.1.1.2.2.2.2.2.1))
let ak:=(if ab>c.1.2.1 then ab else c.1.2.1)
some ((ak,()),s.set b.1.1.toNat (t.1.1,c.1.2.2.1,c.1.2.1,c.1.2.1,true,false,()),((0,ByteArray.empty,0,0,()),()),j.2.1,())
else some ((aO (c.1.2.1+c.2.2.1.1.2.2.2.2.1),()),s.set b.1.1.toNat (t.1.1,c.1.2.2.1,c.1.2.1,c.1.2.1,true,false,()),((0,ByteArray.empty,0,0,()),()),j.2.1,())):Option (iN×RZ)).bind fun q=>
((((bif q.2.2.2.1.1.2.2.1==(-1)then some ((true,q.1),q.2)
else let al:=(decide (q.1.1<q.2.2.2.1.1.2.2.1))
some ((al,q.1),q.2)):Option (uj×RZ)).bind fun o=>
bif o.1.1 then(Ro (o.1.2,())).bind fun am=>
some ((),o.2.1,o.2.2.1,((o.2.2.2.1.1.1,o.2.2.2.1.1.2.1,am.1.1,o.2.2.2.1.1.2.2.2),()),())
else some ((),o.2)):Option NM).bind fun y=>
bif decide (y.2.1.length=(s.set b.1.1.toNat (t.1.1,c.1.2.2.1,c.1.2.1,c.1.2.1,true,false,())).length)&&true then
some ((0,()),y.2.2.2.1,y.2.1,())
else none
else none
else none
else none
else none
else none
else none
else none
else none
else none
else none
else bif decide (0≤b.1.1∧b.1.1<b.2.1.length)then
(b.2.1[b.1.1.toNat]?).bind fun l=>
((((((b.2.1.set b.1.1.toNat (l.1,l.2.1,l.2.2.1,c.1.2.1,l.2.2.2.2))[b.1.1.toNat]?).bind fun an=>
bif an.2.2.2.2.1 then some ((!c.1.2.2.2.1,c.1.2.1,b.1.1,b.1.1.toNat,c.1.2.2.2),c.2.1,c.2.2.1,j.2.1,b.2.1.set b.1.1.toNat (l.1,l.2.1,l.2.2.1,c.1.2.1,l.2.2.2.2),())
else some ((false,c.1.2.1,b.1.1,b.1.1.toNat,c.1.2.2.2),c.2.1,c.2.2.1,j.2.1,b.2.1.set b.1.1.toNat (l.1,l.2.1,l.2.2.1,c.1.2.1,l.2.2.2.2),())):Option ((Bool×Int×Int×Nat×Bool×Unit)×Y41)).bind fun a=>
bif a.1.1 then((bif decide (0≤a.1.2.2.1∧a.1.2.2.1<a.2.2.2.2.1.length)then
(a.2.2.2.2.1[a.1.2.2.1.toNat]?).bind fun ao=>
bif !ao.2.2.2.2.2.1 then bif decide ((0:Int)≤a.1.2.2.1)then
bif decide (0≤a.1.2.2.1.toNat∧a.1.2.2.1.toNat≤a.2.2.2.2.1.length)then
bif decide ((0:Int)≤(aO (a.1.2.2.1+1)))then
bif decide ((aO (a.1.2.2.1+1)).toNat≤a.2.2.2.2.1.length∧a.2.2.2.2.1.length≤a.2.2.2.2.1.length)then
bif decide ((aO (a.1.2.2.1+1)).toNat+(a.2.2.2.2.1.length-(aO (a.1.2.2.1+1)).toNat)≤a.2.2.2.2.1.length)then
bif decide (0=0∧a.1.2.2.1.toNat≤a.2.2.2.2.1.length∧a.1.2.2.1.toNat+((a.2.2.2.2.1.drop (aO (a.1.2.2.1+1)).toNat).take (a.2.2.2.2.1.length-(aO (a.1.2.2.1+1)).toNat)).length≤4294967296)then
let u:=(a.2.2.2.2.1.take a.1.2.2.1.toNat++((a.2.2.2.2.1.drop (aO (a.1.2.2.1+1)).toNat).take (a.2.2.2.2.1.length-(aO (a.1.2.2.1+1)).toNat)))
((bif ((u.length:Nat):Int)==0 then some ((),u,((0,ByteArray.empty,0,0,()),()),((a.2.2.2.1.1.1,a.2.2.2.1.1.2.1,-1,a.2.2.2.1.1.2.2.2),()),())
else some ((),u,((0,ByteArray.empty,0,0,()),()),a.2.2.2.1,())):Option NM).bind fun z=>
bif decide (z.2.1.length=u.length)&&true then
bif decide (a.2.2.2.2.1.length=a.2.2.2.2.1.length)&&true then
some ((0,()),z.2.2.2.1,z.2.1,())
else none
else none
else none
else none
else none
else none
else none
else none
else(a.2.2.2.2.1[a.1.2.2.1.toNat]?).bind fun d=>
((a.2.2.2.2.1.set a.1.2.2.1.toNat (d.1,d.2.1,d.2.2.1,d.2.2.2.1,false,d.2.2.2.2.2))[a.1.2.2.1.toNat]?).bind fun e=>
(((a.2.2.2.2.1.set a.1.2.2.1.toNat (d.1,d.2.1,d.2.2.1,d.2.2.2.1,false,d.2.2.2.2.2)).set a.1.2.2.1.toNat (e.1,e.2.1,e.2.2.1,e.2.2.2.1,e.2.2.2.2.1,false,()))[a.1.2.2.1.toNat]?).bind fun n=>
((bif a.2.2.2.1.1.2.2.2.1 !=(-1)then let ac:=(aO (a.2.2.2.1.1.2.2.2.1+a.2.2.1.1.2.2.2.2.2.1))
let ap:=(if ac>a.1.2.1 then ac else a.1.2.1)
some ((ap,()),((a.2.2.2.2.1.set a.1.2.2.1.toNat (d.1,d.2.1,d.2.2.1,d.2.2.2.1,false,d.2.2.2.2.2)).set a.1.2.2.1.toNat (e.1,e.2.1,e.2.2.1,e.2.2.2.1,e.2.2.2.2.1,false,())).set a.1.2.2.1.toNat (n.1,n.2.1,a.1.2.1,n.2.2.2),((0,ByteArray.empty,0,0,()),()),a.2.2.2.1,())
else some ((aO (a.1.2.1+a.2.2.1.1.2.2.2.2.1),()),((a.2.2.2.2.1.set a.1.2.2.1.toNat (d.1,d.2.1,d.2.2.1,d.2.2.2.1,false,d.2.2.2.2.2)).set a.1.2.2.1.toNat (e.1,e.2.1,e.2.2.1,e.2.2.2.1,e.2.2.2.2.1,false,())).set a.1.2.2.1.toNat (n.1,n.2.1,a.1.2.1,n.2.2.2),((0,ByteArray.empty,0,0,()),()),a.2.2.2.1,())):Option (iN×RZ)).bind fun r=>
((((bif r.2.2.2.1.1.2.2.1==(-1)then some ((true,r.1),r.2)
else let aq:=(decide (r.1.1<r.2.2.2.1.1.2.2.1))
some ((aq,r.1),r.2)):Option (uj×RZ)).bind fun p=>
bif p.1.1 then(Ro (p.1.2,())).bind fun ar=>
some ((),p.2.1,p.2.2.1,((p.2.2.2.1.1.1,p.2.2.2.1.1.2.1,ar.1.1,p.2.2.2.1.1.2.2.2),()),())
else some ((),p.2)):Option NM).bind fun w=>
bif decide (w.2.1.length=(((a.2.2.2.2.1.set a.1.2.2.1.toNat (d.1,d.2.1,d.2.2.1,d.2.2.2.1,false,d.2.2.2.2.2)).set a.1.2.2.1.toNat (e.1,e.2.1,e.2.2.1,e.2.2.2.1,e.2.2.2.2.1,false,())).set a.1.2.2.1.toNat (n.1,n.2.1,a.1.2.1,n.2.2.2)).length)&&true then
bif decide (w.2.1.length=a.2.2.2.2.1.length)&&true then
some ((0,()),w.2.2.2.1,w.2.1,())
else none
else none
else none):Option Fe).bind fun au=>
some (.inr au)
else(((a.2.2.2.2.1[a.1.2.2.2.1]?).bind fun av=>
bif !av.2.2.2.2.1 then some ((a.1.2.2.2.2.1,a.1.2.1,a.1.2.2.2.1,()),a.2.1,a.2.2.2)
else some ((false,a.1.2.1,a.1.2.2.2.1,()),a.2.1,a.2.2.2)):Option ((Bool×Int×Nat×Unit)×abQ)).bind fun f=>
bif f.1.1 then(f.2.2.2.1[f.1.2.2.1]?).bind fun g=>
((f.2.2.2.1.set f.1.2.2.1 (g.1,g.2.1,g.2.2.1,g.2.2.2.1,true,g.2.2.2.2.2))[f.1.2.2.1]?).bind fun m=>
(((f.2.2.2.1.set f.1.2.2.1 (g.1,g.2.1,g.2.2.1,g.2.2.2.1,true,g.2.2.2.2.2)).set f.1.2.2.1 (m.1,m.2.1,m.2.2.1,m.2.2.2.1,m.2.2.2.2.1,true,()))[f.1.2.2.1]?).bind fun aa=>
some (.inl ((),f.2.1,f.2.2.1,((f.2.2.2.1.set f.1.2.2.1 (g.1,g.2.1,g.2.2.1,g.2.2.2.1,true,g.2.2.2.2.2)).set f.1.2.2.1 (m.1,m.2.1,m.2.2.1,m.2.2.2.1,m.2.2.2.2.1,true,())).set f.1.2.2.1 (aa.1,aa.2.1,f.1.2.1,aa.2.2.2),()))
else some (.inl ((),f.2))):Option (Lr⊕Fe)).bind fun aw=>
aA aw (fun ax=>(some ((0,()),ax.2.2))) (fun ay=>(some ay))
else none
else none)
def apO:Abs.Spec:=⟨0,⟨[0,1,2,3,4],(.dat Z1 (.dat Z5 (.dat jH NC))),.nil⟩,⟨[10,11],Iu,AX⟩,m92⟩
def aqe:Nat→Abs.eX
 |0=>.mk (bf [(21,⟨[109,10,12,4,16],(.dat .bool (.st gQ (.st rW (.dat aQ (.eptr (2,0) 6 0 .nil))))),Rz⟩),(20,⟨[10,11],Iu,AX⟩),(19,⟨[95,10,4,14,6,12,16,3],(.dat .bool (.st gQ (.dat aQ (.dat aQ (.st SS (.st p8 (.eptr (3,0) 6 0 eH))))))),(.box 5 EN (.box 8 wP (.box 5 agu yE)))⟩),(1,⟨[29,10,4,6,2,3,5],(.dat .bool (.st gQ (.dat aQ (.st SS (.dat jH (.dat .bool (.st p8 .nil))))))),XL⟩)]) (bf [(23,(⟨[10,12],Pm,Rz⟩,some (.one .ret ⟨[10,11],Iu,AX⟩)))]) bB (fun
  |20,4=>4
  |16,3=>3
  |10,1=>2
  |7,3=>1
  |_,_=>0)
 |1=>.mk (bf [(4,⟨[4,5],Ic,yE⟩),(2,⟨[19,1,0,6],(.dat .bool (.dat .str (.st GV cZ))),yE⟩)]) bB (bf [(2,⟨⟨[6,1,0],(.dat aQ (.dat .str (.st GV .nil))),yE⟩,(.one (.exit 0) ⟨[1,6,0],(.dat .str (.dat aQ (.st GV .nil))),yE⟩)⟩)]) fw
 |2=>.mk bB (bf [(3,(⟨[2,1],JL,zm⟩,none))]) bB fw
 |3=>.mk (bf [(4,⟨[30,6,3,7],(.dat .bool V3),zm⟩)]) (bf [(6,(⟨[6,3],JL,zm⟩,none)),(4,(⟨[6,3,7],V3,zm⟩,none))]) bB fw
 |4=>.mk bB bB bB (fun
  |6,3=>6
  |4,1=>5
  |_,_=>0)
 |5=>.mk bB (bf [(3,(⟨[2,1],JL,zm⟩,none))]) bB fw
 |6=>.mk (bf [(4,⟨[30,6,3,7],(.dat .bool V3),zm⟩)]) (bf [(6,(⟨[6,3],JL,zm⟩,none)),(4,(⟨[6,3,7],V3,zm⟩,none))]) bB fw
 |_=>{}
theorem apr:dh 92 apO:=okW aqe (aX abk (aX Y6 (aX Xq (aX Uy (aX aaQ (aX aiF (aX Zv dI)))))))
def rH(v:agF):Option (agF⊕agF):=
((let b:=(decide (v.1.1<((v.2.2.2.2.2.2.2.1.length:Nat):Int)))
bif b then bif decide (0≤v.1.1∧v.1.1<v.2.2.2.2.2.2.2.1.length)then
(v.2.2.2.2.2.2.2.1[v.1.1.toNat]?).bind fun c=>
bif decide (0≤v.1.2.1∧v.1.2.1<v.2.2.2.2.1.length)then
(v.2.2.2.2.1[v.1.2.1.toNat]?).bind fun d=>
(m90 ((c,d,v.1.2.2),())).bind fun e=>
some ((e.1.1,v.1.2.1,v.1.2.2.1,v.1.1,()),v.2)
else none
else none
else some ((false,v.1.2.1,v.1.2.2.1,v.1.1,()),v.2)):Option ((Bool×Int×ByteArray×Int×Unit)×adq)).bind fun a=>
bif a.1.1 then some (.inl ((aO (a.1.2.2.2.1+1),a.1.2.1,a.1.2.2.1,()),a.2))
else(some (.inr ((a.1.2.1,a.1.2.2.2.1,a.1.2.2.1,()),a.2)))
def ru(v:aef):Option (aef⊕(Ug⊕(Unit×(qC×VY×(Y8×Unit)×List Y3×Unit)))):=
let k:=(decide (v.1.1<((v.2.2.2.2.1.length:Nat):Int)))
bif k then((bif decide (0≤v.1.1∧v.1.1<v.2.2.2.2.1.length)then
(v.2.2.2.2.1[v.1.1.toNat]?).bind fun l=>
Abs.rowAt v.2.2.2.2.2.1.1.1 l fun h _=>
(m20 ((h,v.2.2.2.1.1.2.1,()),())).bind fun m=>
(aC rH ((0,v.1.1,m.1),v.2.1,v.2.2.1,v.2.2.2.1,v.2.2.2.2.1,v.2.2.2.2.2.1,(h,()),v.2.2.2.2.2.2)).bind fun b=>
((((let n:=(b.1.2.1==((b.2.2.2.2.2.2.2.1.length:Nat):Int))
bif n then some ((true,b.1),b.2)
else bif decide (0≤b.1.2.1∧b.1.2.1<b.2.2.2.2.2.2.2.1.length)then
(b.2.2.2.2.2.2.2.1[b.1.2.1.toNat]?).bind fun o=>
bif decide (0≤b.1.1∧b.1.1<b.2.2.2.2.1.length)then
(b.2.2.2.2.1[b.1.1.toNat]?).bind fun p=>
bif o.1 !=p then some ((true,b.1),b.2)
else bif decide (0≤b.1.2.1∧b.1.2.1<b.2.2.2.2.2.2.2.1.length)then
(b.2.2.2.2.2.2.2.1[b.1.2.1.toNat]?).bind fun q=>
some ((!(q.2.1.toList==b.1.2.2.1.toList),b.1),b.2)
else none
else none
else none):Option ((Bool×Int×Int×ByteArray×Unit)×adq)).bind fun a=>
bif a.1.1 then bif !a.2.2.2.1.1.2.2.1 then some (.inr ((a.1.2.1,()),a.2.1,a.2.2.1,a.2.2.2.1,a.2.2.2.2.1,a.2.2.2.2.2.1,a.2.2.2.2.2.2.2))
else bif decide (a.2.2.2.2.2.2.2.1.length+([(0,ByteArray.empty,[],0,0,())]:List Y3).length≤4294967296)then
let d:=(a.2.2.2.2.2.2.2.1++([(0,ByteArray.empty,[],0,0,())]:List Y3))
bif decide ((0:Int)≤(aO (a.1.2.2.1+1)))then
bif decide ((aO (a.1.2.2.1+1)).toNat≤d.length∧d.length≤d.length)then
bif decide ((0:Int)≤a.1.2.2.1)then
bif decide (a.1.2.2.1.toNat≤d.length∧d.length≤d.length)then
bif decide (a.1.2.2.1.toNat+(d.length-a.1.2.2.1.toNat)≤d.length)then
bif decide ((aO (a.1.2.2.1+1)).toNat+(d.length-(aO (a.1.2.2.1+1)).toNat)≤d.length)then
let f:=(bK d (aO (a.1.2.2.1+1)).toNat (((d.drop a.1.2.2.1.toNat).take (d.length-a.1.2.2.1.toNat)).take (d.length-(aO (a.1.2.2.1+1)).toNat)))
bif decide (0≤a.1.2.1∧a.1.2.1<a.2.2.2.2.1.length)then
(a.2.2.2.2.1[a.1.2.1.toNat]?).bind fun r=>
(m91 ((r,a.1.2.2.2),())).bind fun g=>
bif decide (0≤a.1.2.2.1∧a.1.2.2.1<f.length)then
bif decide (a.1.2.2.1.toNat<f.length)then
some (.inl ((a.1.2.1,a.1.2.2.1,()),a.2.1,a.2.2.1,a.2.2.2.1,a.2.2.2.2.1,a.2.2.2.2.2.1,a.2.2.2.2.2.2.1,f.set a.1.2.2.1.toNat (g.2.1.1.1,g.2.1.1.2.1,[],g.2.1.1.2.2),()))
else none
else none
else none
else none
else none
else none
else none
else none
else none
else none
else some (.inl ((a.1.2.1,a.1.2.2.1,()),a.2))):Option ((qG×adq)⊕aef)).bind fun s=>
aA s (fun c=>(bif decide (0≤c.1.2.1∧c.1.2.1<c.2.2.2.2.2.2.2.1.length)then
(c.2.2.2.2.2.2.2.1[c.1.2.1.toNat]?).bind fun t=>
(m92 ((t,c.2.2.2.2.2.2.1.1,c.2.2.2.1.1.2.1,c.2.2.2.1.1.2.2.1,c.2.2.2.1.1.1,()),())).bind fun e=>
bif e.1.1 !=0 then some (.inr ((5,()),((0,0,()),()),()))
else bif decide (0≤c.1.2.1∧c.1.2.1<c.2.2.2.2.2.2.2.1.length)then
bif decide (c.1.2.1.toNat<c.2.2.2.2.2.2.2.1.length)then
some (.inl ((c.1.1,()),c.2.1,c.2.2.1,c.2.2.2.1,c.2.2.2.2.1,c.2.2.2.2.2.1,c.2.2.2.2.2.2.2.1.set c.1.2.1.toNat (e.2.1.1.1,e.2.1.1.2.1,e.2.2.1,e.2.1.1.2.2),()))
else none
else none
else none)) (fun u=>(some (.inl u)))
else none):Option (aef⊕Ug)).bind fun w=>
aA w (fun j=>(some (.inl ((aO (j.1.1+1),()),j.2)))) (fun x=>(some (.inr (.inl x))))
else(some (.inr (.inr ((),v.2.1,v.2.2.1,v.2.2.2.2.2))))
def UL(v:ZT):Option agd:=
let c:=(decide (v.1.1<((v.2.1.length:Nat):Int)))
bif c then((bif decide (0≤v.1.1∧v.1.1<v.2.1.length)then
(v.2.1[v.1.1.toNat]?).bind fun d=>
(m89 ((v.2.2.2.1.1,d,v.1.2),())).bind fun e=>
bif !e.1.1 then bif decide (0≤v.1.1∧v.1.1<v.2.1.length)then
(v.2.1[v.1.1.toNat]?).bind fun b=>
bif decide (v.2.2.1.length+([b]:List Y3).length≤4294967296)then
let f:=(v.2.2.1++([b]:List Y3))
some ((v.1.2.1,v.1.1,()),v.2.1,f,v.2.2.2)
else none
else none
else some ((v.1.2.1,v.1.1,()),v.2)
else none):Option ZT).bind fun a=>
some (.inl ((aO (a.1.2.1+1),a.1.1,()),a.2))
else(some (.inr ((),v.2.1,v.2.2.1,())))
def m41(v:((Y8×TI×Jc×Unit)×Unit)):Option (iN×(VY×List Y3×Unit)):=
(((m37 ((v.1.1,v.1.2.1,()),())).bind fun e=>
bif !e.1.1 then some ((true,()),((0,0,()),()),v.1.2.2,(v.1.1,()),(v.1.2.1,()),())
else(m57 ((v.1.2.2.1.2.1,()),())).bind fun f=>
some ((!f.1.1,()),((0,0,()),()),v.1.2.2,(v.1.1,()),(v.1.2.1,()),())):Option (mY×(qC×(Jc×Unit)×(Y8×Unit)×yc×Unit))).bind fun a=>
bif a.1.1 then some ((8,()),((0,[],0,()),()),[],())
else(let g:=(decide (a.2.2.1.1.1<a.2.2.2.2.1.1.1))
bif g then some ((6,()),((0,[],0,()),()),[],())
else bif decide (a.2.2.1.1.1>8589934592)then some ((1,()),((0,[],0,()),()),[],())
else bif decide (0+a.2.2.2.2.1.1.2.1.length≤4294967296)then
(m19 ((a.2.2.2.1.1.1,a.2.2.1.1.2.1,()),())).bind fun h=>
(aC ru ((0,()),a.2.1,((a.2.2.1.1.1,a.2.2.2.2.1.1.2.2),()),a.2.2.1,h.2.1,a.2.2.2.1,a.2.2.2.2.1.1.2.1,())).bind fun j=>
aA j (fun c=>(some (c.1,((c.2.1.1.1,[],c.2.1.1.2),()),[],()))) (fun b=>((aC UL ((0,b.2.2.1.1.1,()),b.2.2.2.2.1,[],b.2.2.2.1,())).bind fun d=>
bif decide (d.2.1.length=b.2.2.2.2.1.length)&&true then
let k:=(decide (((d.2.2.1.length:Nat):Int)>64))
bif k then some ((5,()),((0,[],0,()),()),[],())
else some ((0,()),b.2.2.1,d.2.2)
else none))
else none)
def aoO:Abs.Spec:=⟨0,⟨[0,1,2],(.dat Z9 (.dat Rj GX)),.nil⟩,⟨[6,7],Ng,(.box 4 (.agg (.dat aQ (.st Hg Aa)) .nil) qL)⟩,m41⟩
def ape:Nat→Abs.eX
 |0=>.mk (bf [(19,⟨[118,6,8,5,9,3,10,13,11,12],(.dat .bool akE),Yg⟩),(17,⟨[88,6,8,5,9,3,10,11,12,13],(.dat .bool (.st fV (.st kU (.st kT (.st (.own aQ (3,0)) (.st F4 (.dat aQ (.st Ho Lf)))))))),Yg⟩),(1,⟨[16,6,5,3,4],(.dat .bool (.st fV (.st qi (.st kT PI)))),(.box 4 DF (.box 3 GX LZ))⟩)]) (bf [(13,(⟨[6,8,5,9,3,10],akK,ahO⟩,some (.one .ret ⟨[6,7],Ng,S9⟩))),(24,(⟨[6,8,5,9,3,10,13,11],(.st fV (.st kU (.st kT (.st (.own aQ (3,0)) (.st F4 (.dat aQ (.dat aQ (.st Ho .nil)))))))),Yg⟩,some (.one (.exit 2) ⟨[6,8,5,9,3,10],akK,ahO⟩)))]) (bf [(12,⟨⟨[10,6,8,5,9,3],(.dat aQ (.st fV (.st kU (.st kT (.st (.own aQ (3,0)) (.st F4 .nil)))))),ahO⟩,(.more .ret ⟨[6,7],Ng,S9⟩ (.one (.exit 1) ⟨[6,8,3],(.st fV (.st kU (.st kT .nil))),(.box 4 DF (.box 4 (.agg (.dat aQ (.st (.own Z1 (3,0)) Aa)) .nil) (.box 3 kD qL)))⟩))⟩),(17,⟨⟨[13,6,8,5,9,3,10,11,12],(.dat aQ (.st fV (.st kU (.st kT (.st (.own aQ (3,0)) (.st F4 (.dat aQ (.st Ho iJ)))))))),Yg⟩,(.one (.exit 3) ⟨[6,8,5,9,3,10,13,11,12],akE,Yg⟩)⟩)]) (fun
  |28,5=>1
  |_,_=>0)
 |1=>.mk bB (bf [(4,(⟨[1,7,2,3,8],aeD,abO⟩,none))]) (bf [(3,⟨⟨[8,1,7,2,3],ae5,abO⟩,afj⟩)]) fw
 |_=>{}
theorem am8:dh 41 aoO:=okW ape (aX Zm (aX Xq (aX aqa (aX amN (aX amu (aX aqB (aX apr (aX ah2 dI))))))))
def lS(v:(J7×Y41)):Option ((J7×Y41)⊕Lr):=
let o:=(decide (v.1.1<((v.2.2.2.2.1.length:Nat):Int)))
bif o then((bif decide (0≤v.1.1∧v.1.1<v.2.2.2.2.1.length)then
(v.2.2.2.2.1[v.1.1.toNat]?).bind fun m=>
((bif decide (v.1.2.2.1>0)then bif m.2.2.2.2.1 then let p:=(decide (m.2.2.2.1≤(aO (v.1.2.1-v.1.2.2.1))))
some ((p,v.1),v.2)
else some ((false,v.1),v.2)
else some ((false,v.1),v.2)):Option (Xz×Y41)).bind fun a=>
bif a.1.1 then((bif decide (0≤a.1.2.1∧a.1.2.1<a.2.2.2.2.1.length)then
(a.2.2.2.2.1[a.1.2.1.toNat]?).bind fun q=>
bif !q.2.2.2.2.2.1 then bif decide ((0:Int)≤a.1.2.1)then
bif decide (0≤a.1.2.1.toNat∧a.1.2.1.toNat≤a.2.2.2.2.1.length)then
bif decide ((0:Int)≤(aO (a.1.2.1+1)))then
bif decide ((aO (a.1.2.1+1)).toNat≤a.2.2.2.2.1.length∧a.2.2.2.2.1.length≤a.2.2.2.2.1.length)then
bif decide ((aO (a.1.2.1+1)).toNat+(a.2.2.2.2.1.length-(aO (a.1.2.1+1)).toNat)≤a.2.2.2.2.1.length)then
bif decide (0=0∧a.1.2.1.toNat≤a.2.2.2.2.1.length∧a.1.2.1.toNat+((a.2.2.2.2.1.drop (aO (a.1.2.1+1)).toNat).take (a.2.2.2.2.1.length-(aO (a.1.2.1+1)).toNat)).length≤4294967296)then
let h:=(a.2.2.2.2.1.take a.1.2.1.toNat++((a.2.2.2.2.1.drop (aO (a.1.2.1+1)).toNat).take (a.2.2.2.2.1.length-(aO (a.1.2.1+1)).toNat)))
((bif ((h.length:Nat):Int)==0 then some ((),h,((0,ByteArray.empty,0,0,()),()),((a.2.1.1.1,a.2.1.1.2.1,-1,a.2.1.1.2.2.2),()),())
else some ((),h,((0,ByteArray.empty,0,0,()),()),a.2.1,())):Option NM).bind fun l=>
bif decide (l.2.1.length=h.length)&&true then
bif decide (a.2.2.2.2.1.length=a.2.2.2.2.1.length)&&true then
some ((a.1.2.1,a.1.2.2.1,a.1.2.2.2.1,((a.2.2.2.2.1.length:Nat):Int),()),l.2.2.2.1,a.2.2.1,a.2.2.2.1,l.2.1,())
else none
else none
else none
else none
else none
else none
else none
else none
else(a.2.2.2.2.1[a.1.2.1.toNat]?).bind fun b=>
((a.2.2.2.2.1.set a.1.2.1.toNat (b.1,b.2.1,b.2.2.1,b.2.2.2.1,false,b.2.2.2.2.2))[a.1.2.1.toNat]?).bind fun c=>
(((a.2.2.2.2.1.set a.1.2.1.toNat (b.1,b.2.1,b.2.2.1,b.2.2.2.1,false,b.2.2.2.2.2)).set a.1.2.1.toNat (c.1,c.2.1,c.2.2.1,c.2.2.2.1,c.2.2.2.2.1,false,()))[a.1.2.1.toNat]?).bind fun e=>
((bif a.2.1.1.2.2.2.1 !=(-1)then let n:=(aO (a.2.1.1.2.2.2.1+a.2.2.1.1.2.2.2.2.2.1))
let r:=(if n>a.1.2.2.1 then n else a.1.2.2.1)
some ((r,()),((a.2.2.2.2.1.set a.1.2.1.toNat (b.1,b.2.1,b.2.2.1,b.2.2.2.1,false,b.2.2.2.2.2)).set a.1.2.1.toNat (c.1,c.2.1,c.2.2.1,c.2.2.2.1,c.2.2.2.2.1,false,())).set a.1.2.1.toNat (e.1,e.2.1,a.1.2.2.1,e.2.2.2),((0,ByteArray.empty,0,0,()),()),a.2.1,())
else some ((aO (a.1.2.2.1+a.2.2.1.1.2.2.2.2.1),()),((a.2.2.2.2.1.set a.1.2.1.toNat (b.1,b.2.1,b.2.2.1,b.2.2.2.1,false,b.2.2.2.2.2)).set a.1.2.1.toNat (c.1,c.2.1,c.2.2.1,c.2.2.2.1,c.2.2.2.2.1,false,())).set a.1.2.1.toNat (e.1,e.2.1,a.1.2.2.1,e.2.2.2),((0,ByteArray.empty,0,0,()),()),a.2.1,())):Option (iN×RZ)).bind fun g=>
((((bif g.2.2.2.1.1.2.2.1==(-1)then some ((true,g.1),g.2)
else let s:=(decide (g.1.1<g.2.2.2.1.1.2.2.1))
some ((s,g.1),g.2)):Option (uj×RZ)).bind fun f=>
bif f.1.1 then(Ro (f.1.2,())).bind fun t=>
some ((),f.2.1,f.2.2.1,((f.2.2.2.1.1.1,f.2.2.2.1.1.2.1,t.1.1,f.2.2.2.1.1.2.2.2),()),())
else some ((),f.2)):Option NM).bind fun j=>
bif decide (j.2.1.length=(((a.2.2.2.2.1.set a.1.2.1.toNat (b.1,b.2.1,b.2.2.1,b.2.2.2.1,false,b.2.2.2.2.2)).set a.1.2.1.toNat (c.1,c.2.1,c.2.2.1,c.2.2.2.1,c.2.2.2.2.1,false,())).set a.1.2.1.toNat (e.1,e.2.1,a.1.2.2.1,e.2.2.2)).length)&&true then
bif decide (j.2.1.length=a.2.2.2.2.1.length)&&true then
some ((a.1.2.1,a.1.2.2.1,a.1.2.2.2.1,((a.2.2.2.2.1.length:Nat):Int),()),j.2.2.2.1,a.2.2.1,a.2.2.2.1,j.2.1,())
else none
else none
else none):Option (Zb×Y41)).bind fun d=>
let u:=(decide (((d.2.2.2.2.1.length:Nat):Int)<d.1.2.2.2.1))
bif u then some (.inr ((d.1.1,d.1.2.1,d.1.2.2.1,()),d.2))
else some (.inl ((d.1.2.1,d.1.2.2.1,d.1.1,()),d.2))
else some (.inl ((a.1.2.2.1,a.1.2.2.2.1,a.1.2.1,()),a.2))
else none):Option ((J7×Y41)⊕(J7×Y41))).bind fun w=>
aA w (fun k=>(some (.inl ((aO (k.1.2.2.1+1),k.1.1,k.1.2.1,()),k.2)))) (fun x=>(some (.inl x)))
else(some (.inr ((),v.2.2.2.1,v.2.1,v.2.2.2.2)))
def m94(v:((Y3×mJ×Int×Int×Unit)×Unit)):Option Fe:=
(((m88 ((v.1.1,()),())).bind fun d=>
bif !d.1.1 then some ((true,v.1.2.2),((0,ByteArray.empty,0,0,()),()),(v.1.2.1,()),(v.1.1,()),())
else(Vz ((v.1.2.1,()),())).bind fun e=>
some ((!e.1.1,v.1.2.2),((0,ByteArray.empty,0,0,()),()),(v.1.2.1,()),(v.1.1,()),())):Option (JM×XD)).bind fun a=>
bif a.1.1 then some ((8,()),((0,ByteArray.empty,0,0,()),()),[],())
else((((H9 ((a.1.2.1,()),())).bind fun f=>
bif !f.1.1 then some ((true,a.1.2),a.2)
else bif decide (a.1.2.2.1<0)then some ((true,a.1.2),a.2)
else some ((decide (a.1.2.2.1>604800),a.1.2),a.2)):Option (JM×XD)).bind fun b=>
bif b.1.1 then some ((1,()),((0,ByteArray.empty,0,0,()),()),[],())
else(V6 b.2.2.2).bind fun c=>
(aC lS ((0,b.1.2),c.2.1,b.2.2.1,b.2.1,c.2.2)).bind fun g=>
some ((0,()),g.2.2))
def aoI:Abs.Spec:=⟨0,⟨[0,1,2,3],(.dat Z1 (.dat Z5 l9)),.nil⟩,⟨[8,9],Iu,AX⟩,m94⟩
def aqh:Nat→Abs.eX
 |0=>.mk (bf [(11,⟨[11,10,2,5,3,8,13],(.dat aQ afq),LJ⟩),(9,⟨[60,11,10,2,5,3,8],(.dat .bool (.dat aQ RA)),LJ⟩),(3,⟨[33,8,2,5,3,4],(.dat .bool RA),XL⟩),(1,⟨[21,8,2,5,3,4],(.dat .bool RA),XL⟩)]) (bf [(13,(⟨[10,2,5,3,8,11],afq,LJ⟩,some (.one (.exit 1) ⟨[11,10,2,5,3,8],(.dat aQ RA),LJ⟩)))]) (bf [(7,⟨⟨[11,10,2,5,3,8],(.dat aQ RA),LJ⟩,(.one (.exit 0) ⟨[8,10],Pm,Rz⟩)⟩)]) (fun
  |11,4=>1
  |_,_=>0)
 |1=>.mk bB bB bB (fun
  |6,3=>3
  |4,1=>2
  |_,_=>0)
 |2=>.mk bB (bf [(3,(⟨[2,1],JL,zm⟩,none))]) bB fw
 |3=>.mk (bf [(4,⟨[30,6,3,7],(.dat .bool V3),zm⟩)]) (bf [(6,(⟨[6,3],JL,zm⟩,none)),(4,(⟨[6,3,7],V3,zm⟩,none))]) bB fw
 |_=>{}
theorem anS:dh 94 aoI:=okW aqh (aX abk (aX Y6 (aX Uy (aX aaQ (aX Zv dI)))))
def qV(v:(J7×ZP)):Option ((J7×ZP)⊕(J7×ZP)):=
((let b:=(decide (v.1.1<((v.2.2.1.length:Nat):Int)))
bif b then bif decide (0≤v.1.1∧v.1.1<v.2.2.1.length)then
(v.2.2.1[v.1.1.toNat]?).bind fun c=>
some ((Op.bytesLess c.toList v.2.2.2.2.1.1.1.toList,v.1.2.1,v.1.2.2.1,v.1.1,()),v.2)
else none
else some ((false,v.1.2.1,v.1.2.2.1,v.1.1,()),v.2)):Option (Xz×ZP)).bind fun a=>
bif a.1.1 then some (.inl ((aO (a.1.2.2.2.1+1),a.1.2.1,a.1.2.2.1,()),a.2))
else(some (.inr (a.1.2,a.2)))
def Bt(v:(qG×Vt)):Option ((qG×Vt)⊕(iN×Vt)):=
Abs.rowAt v.2.2.2.1.1.2.1 v.1.2.1 fun g _=>
let h:=(decide (v.1.1<(g.2.2.1.length:Int)))
bif h then((Abs.rowAt v.2.2.2.1.1.2.1 v.1.2.1 fun j _=>
Abs.rowAt j.2.2.1 v.1.1 fun k _=>
(aC qV ((0,v.1.2.1,v.1.1,()),v.2.1,v.2.2.1,v.2.2.2.1,(k,()),())).bind fun b=>
((bif !b.2.2.2.2.1.1.2.2.2.2.1 then some ((true,b.1),b.2)
else let l:=(decide (b.1.2.2.1<((b.2.2.1.length:Nat):Int)))
bif l then bif decide (0≤b.1.2.2.1∧b.1.2.2.1<b.2.2.1.length)then
(b.2.2.1[b.1.2.2.1.toNat]?).bind fun m=>
some ((m.toList==b.2.2.2.2.1.1.1.toList,b.1),b.2)
else none
else some ((false,b.1),b.2)):Option (Xz×ZP)).bind fun a=>
bif a.1.1 then some ((a.1.2.1,a.1.2.2.1,()),a.2.1,a.2.2.1,a.2.2.2.1,())
else bif decide (a.2.2.1.length+ [ByteArray.empty].length≤4294967296)then
bif decide ((0:Int)≤(aO (a.1.2.2.2.1+1)))then
bif decide ((aO (a.1.2.2.2.1+1)).toNat≤(a.2.2.1++ [ByteArray.empty]).length∧(a.2.2.1++ [ByteArray.empty]).length≤(a.2.2.1++ [ByteArray.empty]).length)then
bif decide ((0:Int)≤a.1.2.2.2.1)then
bif decide (a.1.2.2.2.1.toNat≤(a.2.2.1++ [ByteArray.empty]).length∧(a.2.2.1++ [ByteArray.empty]).length≤(a.2.2.1++ [ByteArray.empty]).length)then
bif decide (a.1.2.2.2.1.toNat+((a.2.2.1++ [ByteArray.empty]).length-a.1.2.2.2.1.toNat)≤(a.2.2.1++ [ByteArray.empty]).length)then
bif decide ((aO (a.1.2.2.2.1+1)).toNat+((a.2.2.1++ [ByteArray.empty]).length-(aO (a.1.2.2.2.1+1)).toNat)≤(a.2.2.1++ [ByteArray.empty]).length)then
let d:=(bK (a.2.2.1++ [ByteArray.empty]) (aO (a.1.2.2.2.1+1)).toNat ((((a.2.2.1++ [ByteArray.empty]).drop a.1.2.2.2.1.toNat).take ((a.2.2.1++ [ByteArray.empty]).length-a.1.2.2.2.1.toNat)).take ((a.2.2.1++ [ByteArray.empty]).length-(aO (a.1.2.2.2.1+1)).toNat)))
bif decide (0≤a.1.2.2.2.1∧a.1.2.2.2.1<d.length)then
bif decide (a.1.2.2.2.1.toNat<d.length)then
bif decide (a.2.1.length+([[]]:List fe).length≤4294967296)then
let c:=(a.2.1++([[]]:List fe))
bif decide ((0:Int)≤(aO (a.1.2.2.2.1+1)))then
bif decide ((aO (a.1.2.2.2.1+1)).toNat≤c.length∧c.length≤c.length)then
bif decide ((0:Int)≤a.1.2.2.2.1)then
bif decide (a.1.2.2.2.1.toNat≤c.length∧c.length≤c.length)then
bif decide (a.1.2.2.2.1.toNat+(c.length-a.1.2.2.2.1.toNat)≤c.length)then
bif decide ((aO (a.1.2.2.2.1+1)).toNat+(c.length-(aO (a.1.2.2.2.1+1)).toNat)≤c.length)then
let e:=(bK c (aO (a.1.2.2.2.1+1)).toNat (((c.drop a.1.2.2.2.1.toNat).take (c.length-a.1.2.2.2.1.toNat)).take (c.length-(aO (a.1.2.2.2.1+1)).toNat)))
bif decide (0+a.2.2.2.2.1.1.2.1.length≤4294967296)then
bif decide (0≤a.1.2.2.2.1∧a.1.2.2.2.1<e.length)then
bif decide (a.1.2.2.2.1.toNat<e.length)then
some ((a.1.2.1,a.1.2.2.1,()),e.set a.1.2.2.2.1.toNat a.2.2.2.2.1.1.2.1,d.set a.1.2.2.2.1.toNat a.2.2.2.2.1.1.1,a.2.2.2.1,())
else none
else none
else none
else none
else none
else none
else none
else none
else none
else none
else none
else none
else none
else none
else none
else none
else none
else none
else none):Option (qG×Vt)).bind fun f=>
some (.inl ((aO (f.1.2.1+1),f.1.1,()),f.2))
else(some (.inr (v.1.2,v.2)))
def FP(v:(iN×Vt)):Option ((iN×Vt)⊕(Unit×aai)):=
let b:=(decide (v.1.1<(v.2.2.2.1.1.2.1.length:Int)))
bif b then(aC Bt ((0,v.1),v.2)).bind fun a=>
some (.inl ((aO (a.1.1+1),()),a.2))
else(some (.inr ((),v.2.1,())))
def m48(v:(yc×Unit)):Option (Unit×aai):=
(aC FP ((0,()),[],[],v)).bind fun a=>
some ((),a.2)
def aqu:Abs.Spec:=⟨0,⟨[0],kS,.nil⟩,⟨[2],(.st EY .nil),ZC⟩,m48⟩
def aqm:Nat→Abs.eX
 |0=>.mk (bf [(13,⟨[68,3,4,5,1,6,7,8],(.dat .bool ahZ),ady⟩),(11,⟨[48,3,4,5,1,6,7,8],(.dat .bool ahZ),ady⟩)]) (bf [(8,(⟨[3,4,5,1,6],(.st EY (.st Fa (.dat aQ (.st zF cZ)))),ac4⟩,none))]) (bf [(4,⟨⟨[3,4,5,1],(.st EY (.st Fa aaB)),ac4⟩,(.one (.exit 0) ⟨[3],(.st EY .nil),ZC⟩)⟩),(7,⟨⟨[6,3,4,5,1],(.dat aQ (.st EY (.st Fa aaB))),ac4⟩,(.one (.exit 2) ⟨[3,4,1,5],(.st EY (.st Fa (.st zF cZ))),ac4⟩)⟩),(11,⟨⟨[8,3,4,5,1,6,7],(.dat aQ (.st EY (.st Fa (.dat aQ (.st zF (.dat aQ (.st (.ptr (3,0) 6 0 0) .nil))))))),ady⟩,(.one (.exit 4) ⟨[3,4,5,1,6,7,8],ahZ,ady⟩)⟩)]) fw
 |_=>{}
theorem anQ:dh 48 aqu:=okW aqm dI
def Cb(v:afY):Option (afY⊕Vr):=
let d:=(decide (v.1.1<(v.1.2.2.2.2.2.1.length:Int)))
bif d then((Abs.rowAt v.1.2.2.2.2.2.1 v.1.1 fun b _=>
((bif decide (b.2.1≤v.1.2.2.2.2.1)then bif decide (v.1.2.2.2.2.1<b.2.2.1)then(OZ ((b.2.2.2.2.1,v.1.2.2.2.1,()),())).bind fun e=>
bif e.1.1 then bif !v.1.2.2.1 then some ((true,v.1.2.2.2.1,v.1.2.2.2.2.1,v.1.2.2.2.2.2.1,v.1.1,v.1.2.1,v.1.2.2.1,()),(b,()),())
else some ((decide (b.1<v.1.2.1),v.1.2.2.2.1,v.1.2.2.2.2.1,v.1.2.2.2.2.2.1,v.1.1,v.1.2.1,v.1.2.2.1,()),(b,()),())
else some ((false,v.1.2.2.2.1,v.1.2.2.2.2.1,v.1.2.2.2.2.2.1,v.1.1,v.1.2.1,v.1.2.2.1,()),(b,()),())
else some ((false,v.1.2.2.2.1,v.1.2.2.2.2.1,v.1.2.2.2.2.2.1,v.1.1,v.1.2.1,v.1.2.2.1,()),(b,()),())
else some ((false,v.1.2.2.2.1,v.1.2.2.2.2.1,v.1.2.2.2.2.2.1,v.1.1,v.1.2.1,v.1.2.2.1,()),(b,()),())):Option ((Bool×fe×Int×kQ×Int×Int×Bool×Unit)×KL)).bind fun a=>
bif a.1.1 then some ((a.2.1.1.1,true,a.1.2.1,a.1.2.2.1,a.1.2.2.2.1,a.1.2.2.2.2.1,()),())
else some ((a.1.2.2.2.2.2.1,a.1.2.2.2.2.2.2.1,a.1.2.1,a.1.2.2.1,a.1.2.2.2.1,a.1.2.2.2.2.1,()),())):Option ((Int×Bool×fe×Int×kQ×Int×Unit)×Unit)).bind fun c=>
some (.inl ((aO (c.1.2.2.2.2.2.1+1),c.1.1,c.1.2.1,c.1.2.2.1,c.1.2.2.2.1,c.1.2.2.2.2.1,()),()))
else(some (.inr ((v.1.2.2.1,v.1.2.1,()),())))
def adP(v:((kQ×fe×Int×Unit)×Unit)):Option Wv:=
(aC Cb ((0,0,false,v.1.2.1,v.1.2.2.1,v.1.1,()),())).bind fun a=>
some ((a.1.2.1,a.1.1,()),())
def ajS:Abs.Spec:=⟨0,⟨[0,1,2],(.dat J9 R8),.nil⟩,⟨[6,7],Ic,.nil⟩,adP⟩
def amS:Nat→Abs.eX
 |0=>.mk (bf [(6,⟨[47,1,2,0,10,11,8,9],(.dat .bool (.dat jH (.dat aQ (.dat J9 Yb)))),OA⟩)]) (bf [(4,(⟨[8,9,1,2,0,10],afJ,.nil⟩,none))]) (bf [(3,⟨⟨[10,8,9,1,2,0],(.dat aQ (.dat aQ (.dat .bool (.dat jH (.dat aQ Oe))))),.nil⟩,(.one (.exit 0) ⟨[9,8],NC,.nil⟩)⟩)]) fw
 |_=>{}
theorem aje:dh 156 ajS:=okW amS (aX XR dI)
def uG(v:agb):Option (agb⊕(eF⊕qR)):=
let a:=(decide (v.1.1<(v.1.2.1.length:Int)))
bif a then Abs.rowAt v.1.2.1 v.1.1 fun b _=>
(WW ((v.1.2.2.2.1,b,()),())).bind fun c=>
Abs.rowAt v.1.2.1 v.1.1 fun d _=>
(WW ((v.1.2.2.1,d,()),())).bind fun e=>
bif !(c.1.1.toList==e.1.1.toList)then some (.inr (.inl ((false,()),())))
else some (.inl ((aO (v.1.1+1),v.1.2),()))
else(some (.inr (.inr ((),()))))
def adL(v:((List ByteArray×fe×fe×Unit)×Unit)):Option eF:=
(aC uG ((0,v.1.1,v.1.2.2.1,v.1.2.1,()),())).bind fun a=>
aA a (fun b=>(some b)) (fun c=>(some ((true,()),())))
def amj:Abs.Spec:=⟨0,⟨[0,1,2],(.dat Jp (.dat jH mF)),.nil⟩,⟨[6],eH,.nil⟩,adL⟩
def anp:Nat→Abs.eX
 |0=>.mk bB bB (bf [(2,⟨⟨[7,0,2,1],(.dat aQ (.dat Jp (.dat jH mF))),.nil⟩,Zt⟩)]) fw
 |_=>{}
theorem amY:dh 191 amj:=okW anp (aX af5 dI)
def qN(v:agj):Option (agj⊕(eF⊕aeP)):=
let b:=(decide (v.1.1<(v.1.2.1.length:Int)))
bif b then((Abs.rowAt v.1.2.2.2.2.1 v.1.2.2.2.1 fun c _=>
Abs.rowAt v.1.2.1 v.1.1 fun d _=>
(OZ ((c.1,d,()),())).bind fun e=>
bif e.1.1 then Abs.rowAt v.1.2.2.2.2.1 v.1.2.2.2.1 fun f _=>
Abs.rowAt v.1.2.1 v.1.1 fun g _=>
(OZ ((f.2.1,g,()),())).bind fun h=>
bif !h.1.1 then Abs.rowAt v.1.2.2.2.2.1 v.1.2.2.2.1 fun j _=>
Abs.rowAt v.1.2.1 v.1.1 fun k _=>
(adL ((j.2.2.1,v.1.2.2.1,k,()),())).bind fun l=>
some ((l.1.1,v.1.2.1,v.1.2.2.1,v.1.2.2.2.1,v.1.2.2.2.2.1,v.1.1,()),())
else some ((false,v.1.2.1,v.1.2.2.1,v.1.2.2.2.1,v.1.2.2.2.2.1,v.1.1,()),())
else some ((false,v.1.2.1,v.1.2.2.1,v.1.2.2.2.1,v.1.2.2.2.2.1,v.1.1,()),())):Option ((Bool×List fe×fe×Int×Dp×Int×Unit)×Unit)).bind fun a=>
bif a.1.1 then some (.inr (.inl ((true,()),())))
else some (.inl ((aO (a.1.2.2.2.2.2.1+1),a.1.2.1,a.1.2.2.1,a.1.2.2.2.1,a.1.2.2.2.2.1,()),()))
else(some (.inr (.inr ((v.1.2.1,v.1.2.2.1,v.1.2.2.2.2.1,v.1.2.2.2.1,()),()))))
def wN(v:aeU):Option (aeU⊕(eF⊕qR)):=
let b:=(decide (v.1.1<(v.1.2.2.2.1.length:Int)))
bif b then((Abs.rowAt v.1.2.2.2.1 v.1.1 fun c _=>
(OZ ((c.2.1,v.1.2.2.1,()),())).bind fun d=>
bif !d.1.1 then some (.inl ((v.1.2.1,v.1.2.2.1,v.1.2.2.2.1,v.1.1,()),()))
else(aC qN ((0,v.1.2.1,v.1.2.2.1,v.1.1,v.1.2.2.2),())).bind fun e=>
aA e (fun f=>(some (.inr f))) (fun g=>(some (.inl g)))):Option (aeP⊕eF)).bind fun h=>
aA h (fun a=>(some (.inl ((aO (a.1.2.2.2.1+1),a.1.1,a.1.2.1,a.1.2.2.1,()),())))) (fun j=>(some (.inr (.inl j))))
else(some (.inr (.inr ((),()))))
def ac7(v:agt):Option eF:=
(aC wN ((0,v.1.2.2.1,v.1.2.1,v.1.1,()),())).bind fun a=>
aA a (fun b=>(some b)) (fun c=>(some ((false,()),())))
def amA:Abs.Spec:=⟨0,⟨[0,1,2],(.dat F3 (.dat jH (.dat qw .nil))),.nil⟩,⟨[6],eH,.nil⟩,ac7⟩
def akR:Nat→Abs.eX
 |0=>.mk (bf [(8,⟨[64,2,1,7,0,8],(.dat .bool (.dat qw (.dat jH (.dat aQ KM)))),.nil⟩)]) (bf [(3,(⟨[2,1,0,7],(.dat qw (.dat jH KM)),.nil⟩,some (.one .ret ⟨[6],eH,.nil⟩)))]) (bf [(2,⟨⟨[7,2,1,0],(.dat aQ (.dat qw (.dat jH Q6))),.nil⟩,Zt⟩),(6,⟨⟨[8,2,1,7,0],(.dat aQ (.dat qw (.dat jH (.dat aQ Q6)))),.nil⟩,(.more .ret ⟨[6],eH,.nil⟩ (.one (.exit 2) ⟨[2,1,0,7],(.dat qw (.dat jH KM)),.nil⟩))⟩)]) fw
 |_=>{}
theorem al8:dh 157 amA:=okW akR (aX XR (aX amY dI))
def m95(v:afR):Option eF:=
(adP ((v.1.2.1,v.1.2.2.1,v.1.2.2.2.2),())).bind fun a=>
((bif a.1.2.1 then some ((true,()),())
else(ac7 ((v.1.1,v.1.2.2.1,v.1.2.2.2.1,()),())).bind fun b=>
some b):Option eF).bind fun c=>
some c
def ap7:Abs.Spec:=⟨0,⟨[0,1,2,3,4],agy,.nil⟩,⟨[10],eH,.nil⟩,m95⟩
def apq:Nat→Abs.eX
 |0=>.mk (bf [(2,⟨[10],eH,.nil⟩)]) bB bB fw
 |_=>{}
theorem apI:dh 95 ap7:=okW apq (aX aje (aX al8 dI))
def Bz(v:afp):Option (afp⊕(eF⊕qR)):=
let a:=(decide (v.1.1<(v.1.2.2.1.length:Int)))
bif a then Abs.rowAt v.1.2.2.1 v.1.1 fun b _=>
bif b.toList==v.1.2.1.toList then some (.inr (.inl ((true,()),())))
else some (.inl ((aO (v.1.1+1),v.1.2),()))
else(some (.inr (.inr ((),()))))
def WU(v:ahg):Option eF:=
(aC Bz ((0,v.1.2.1,v.1.1,()),())).bind fun a=>
aA a (fun b=>(some b)) (fun c=>(some ((false,()),())))
def ajq:Abs.Spec:=⟨0,⟨[0,1],(.dat Jp iJ),.nil⟩,⟨[4],eH,.nil⟩,WU⟩
def aj1:Nat→Abs.eX
 |0=>.mk bB bB (bf [(2,⟨⟨[5,1,0],(.dat aQ (.dat .str JV)),.nil⟩,Ro4⟩)]) fw
 |_=>{}
theorem alE:dh 158 ajq:=okW aj1 dI
def wZ(v:aga):Option (aga⊕(Uf×Y39)):=
let c:=(decide (v.1.1<(v.2.2.1.1.2.2.1.length:Int)))
bif c then((Abs.rowAt v.2.2.1.1.2.2.1 v.1.1 fun a _=>
(WU ((v.1.2.2.1,a.1,()),())).bind fun d=>
bif d.1.1 then some ((v.1.2.1,v.1.2.2.1,v.1.2.2.2.1,v.1.1,()),v.2)
else bif a.2.2.2.2.1 then bif decide (v.2.2.2.2.2.2.2.1.length+ [a.1].length≤4294967296)then
((bif v.1.2.1 then some ((true,v.1.2.2.1,v.1.2.2.2.1,v.1.1,()),v.2.1,v.2.2.1,v.2.2.2.1,v.2.2.2.2.1,v.2.2.2.2.2.1,v.2.2.2.2.2.2.1,v.2.2.2.2.2.2.2.1++ [a.1],v.2.2.2.2.2.2.2.2)
else some ((!a.2.2.2.2.2.1,v.1.2.2.1,v.1.2.2.2.1,v.1.1,()),v.2.1,v.2.2.1,v.2.2.2.1,v.2.2.2.2.1,v.2.2.2.2.2.1,v.2.2.2.2.2.2.1,v.2.2.2.2.2.2.2.1++ [a.1],v.2.2.2.2.2.2.2.2)):Option afO).bind fun e=>
some e
else none
else bif decide (v.2.2.2.2.2.2.2.2.1.length+ [a.1].length≤4294967296)then
some ((true,v.1.2.2.1,v.1.2.2.2.1,v.1.1,()),v.2.1,v.2.2.1,v.2.2.2.1,v.2.2.2.2.1,v.2.2.2.2.2.1,v.2.2.2.2.2.2.1,v.2.2.2.2.2.2.2.1,v.2.2.2.2.2.2.2.2.1++ [a.1],v.2.2.2.2.2.2.2.2.2)
else none):Option afO).bind fun b=>
some (.inl ((aO (b.1.2.2.2.1+1),b.1.1,b.1.2.1,b.1.2.2.1,()),b.2))
else(some (.inr ((v.1.2.2.2.1,v.1.2.1,()),v.2.2.2.1,v.2.1,v.2.2.1,v.2.2.2.2.1,v.2.2.2.2.2.1,v.2.2.2.2.2.2.1,v.2.2.2.2.2.2.2.2.2.1,v.2.2.2.2.2.2.2.1,v.2.2.2.2.2.2.2.2.1,())))
def wH(v:(YT×Y39)):Option ((YT×Y39)⊕(uj×Yy)):=
let d:=(decide (v.1.1<(v.2.2.2.1.1.2.2.1.length:Int)))
bif d then((Abs.rowAt v.2.2.2.1.1.2.2.1 v.1.1 fun a _=>
(WU ((v.2.2.2.2.2.2.2.2.2.1,a.1,()),())).bind fun e=>
bif e.1.1 then some ((v.1.2.1,v.1.2.2.1,v.1.1,()),v.2)
else((bif a.2.2.2.2.2.1 then some ((v.1.2.1,v.1.2.2.1,v.1.1,()),v.2.1,v.2.2.1,v.2.2.2.1,v.2.2.2.2.1,v.2.2.2.2.2.1,v.2.2.2.2.2.2.1,((a.1,a.2.1,a.2.2.1,a.2.2.2.1,a.2.2.2.2.1,true,()),()),v.2.2.2.2.2.2.2)
else(WU ((v.2.2.2.2.2.2.2.2.1,a.1,()),())).bind fun f=>
some ((v.1.2.1,v.1.2.2.1,v.1.1,()),v.2.1,v.2.2.1,v.2.2.2.1,v.2.2.2.2.1,v.2.2.2.2.2.1,v.2.2.2.2.2.2.1,((a.1,a.2.1,a.2.2.1,a.2.2.2.1,a.2.2.2.2.1,f.1),()),v.2.2.2.2.2.2.2)):Option (JM×(qO×zB×(Y3×Unit)×qO×zB×L9×(mI×Unit)×List mI×List ByteArray×List ByteArray×Unit))).bind fun b=>
bif decide (b.2.2.2.2.2.2.2.2.1.length+([b.2.2.2.2.2.2.2.1.1]:List mI).length≤4294967296)then
let g:=(b.2.2.2.2.2.2.2.2.1++([b.2.2.2.2.2.2.2.1.1]:List mI))
some (b.1,b.2.1,b.2.2.1,b.2.2.2.1,b.2.2.2.2.1,b.2.2.2.2.2.1,b.2.2.2.2.2.2.1,g,b.2.2.2.2.2.2.2.2.2)
else none):Option (JM×Y39)).bind fun c=>
some (.inl ((aO (c.1.2.2.1+1),c.1.1,c.1.2.1,()),c.2))
else(some (.inr (v.1.2,v.2.1,v.2.2.2.2.1,v.2.2.2.2.2.1,v.2.2.1,v.2.2.2.2.2.2)))
def wD(v:((Int×Bool×Bool×Int×Unit)×Yy)):Option (((Int×Bool×Bool×Int×Unit)×Yy)⊕((Bool×Int×Bool×Unit)×ajR)):=
let b:=(decide (v.1.1<((v.2.2.2.2.2.2.1.length:Nat):Int)))
bif b then((bif v.1.2.1 then some ((true,v.1.2.2.1,v.1.2.2.2.1,v.1.1,()),v.2)
else bif decide (0≤v.1.1∧v.1.1<v.2.2.2.2.2.2.1.length)then
(v.2.2.2.2.2.2.1[v.1.1.toNat]?).bind fun c=>
some ((!c.2.2.2.2.2.1,v.1.2.2.1,v.1.2.2.2.1,v.1.1,()),v.2)
else none):Option (XQ×Yy)).bind fun a=>
some (.inl ((aO (a.1.2.2.2.1+1),a.1.1,a.1.2.1,a.1.2.2.1,()),a.2))
else(some (.inr ((v.1.2.2.1,v.1.2.2.2.1,v.1.2.1,()),v.2.2.1,v.2.2.2.1,v.2.2.2.2.1,v.2.1,v.2.2.2.2.2.1,v.2.2.2.2.2.2.2.1,v.2.2.2.2.2.2.2.2.1,v.2.2.2.2.2.2.1,())))
def m96(v:al6):Option (uj×(qO×zB×List mI×List ByteArray×List ByteArray×Unit)):=
(((m88 ((v.1.1,()),())).bind fun n=>
bif !n.1.1 then some ((true,v.1.2.2.2.1,v.1.2.2.1,()),((0,ByteArray.empty,0,0,()),()),((0,0,0,ByteArray.empty,()),()),(v.1.1,()),(v.1.2.1,()),())
else(Vz ((v.1.2.1,()),())).bind fun o=>
some ((!o.1.1,v.1.2.2.2.1,v.1.2.2.1,()),((0,ByteArray.empty,0,0,()),()),((0,0,0,ByteArray.empty,()),()),(v.1.1,()),(v.1.2.1,()),())):Option (ahz×(qO×zB×(Y3×Unit)×L9×Unit))).bind fun d=>
bif d.1.1 then some ((false,8,()),((0,ByteArray.empty,0,0,()),()),((0,0,0,ByteArray.empty,()),()),[],[],[],())
else((H9 (d.1.2.2,())).bind fun p=>
bif !p.1.1 then some ((false,1,()),((0,ByteArray.empty,0,0,()),()),((0,0,0,ByteArray.empty,()),()),[],[],[],())
else(V6 (d.2.2.2.1,())).bind fun j=>
((bif d.2.2.2.1.1.2.2.2.1==(-1)then some ((true,d.1.2),d.2.1,d.2.2.1,j.2.1,d.2.2.2.1,d.2.2.2.2.1,j.2.2)
else let q:=(decide (d.2.2.2.1.1.2.2.2.1>d.1.2.2.1))
some ((q,d.1.2),d.2.1,d.2.2.1,j.2.1,d.2.2.2.1,d.2.2.2.2.1,j.2.2)):Option (ahz×(qO×zB×qO×(Y3×Unit)×L9×List mI×Unit))).bind fun e=>
bif e.1.1 then some ((false,0,()),e.2.2.2.1,((0,0,0,ByteArray.empty,()),()),e.2.2.2.2.2.2.1,[],[],())
else(aC wZ ((0,false,e.1.2),((e.1.2.2.1,e.2.2.2.2.1.1.1,e.2.2.2.2.2.1.1.2.2.1,e.2.2.2.2.1.1.2.1,()),()),e.2.2.2.2.1,e.2.2.2.1,e.2.1,e.2.2.1,e.2.2.2.2.2.1,[],[],e.2.2.2.2.2.2)).bind fun f=>
((((let r:=(decide (((f.2.2.2.2.2.2.2.2.1.length:Nat):Int)>0))
bif r then bif f.2.2.2.1.1.2.2.2.2.1 !=(-1)then let s:=(aO (f.2.2.2.1.1.2.2.2.2.1+f.2.2.2.2.2.2.1.1.2.2.2.2.2.2.1))
some ((decide (s≤f.1.1),f.1),f.2)
else some ((false,f.1),f.2)
else some ((false,f.1),f.2)):Option ((Bool×Int×Bool×Unit)×Y39)).bind fun h=>
bif h.1.1 then some ((true,h.1.2.1,()),h.2)
else some ((h.1.2.2.1,h.1.2.1,()),h.2)):Option (uj×Y39)).bind fun a=>
((bif a.1.1 then(aC wH ((0,a.1),((a.2.1.1.1,a.2.1.1.2.1,a.2.1.1.2.2.1,a.1.2),()),a.2.2.1,a.2.2.2.1,a.2.2.2.2.1,a.2.2.2.2.2.1,a.2.2.2.2.2.2.1,[],a.2.2.2.2.2.2.2.2)).bind fun t=>
some t
else some (a.1,a.2.1,a.2.2.2.2.1,a.2.2.2.2.2.1,((0,0,0,ByteArray.empty,()),()),a.2.2.2.2.2.2.1,a.2.2.2.2.2.2.2.1,[],[],())):Option (uj×Yy)).bind fun m=>
(aC wD ((0,false,m.1),m.2)).bind fun g=>
let k:=(aO (g.2.2.2.2.1.1.2.2.2.1+g.2.2.2.2.2.1.1.2.2.2.2.2.2.1))
((((bif g.1.2.2.1 then some ((true,g.1.1,g.1.2.1,k,()),g.2)
else some ((decide (k≤g.1.2.1),g.1.1,g.1.2.1,k,()),g.2)):Option (XQ×ajR)).bind fun b=>
bif b.1.1 then let u:=(aO (b.1.2.2.1+b.2.2.2.2.2.1.1.2.2.2.2.2.1))
some ((b.1.2.1,u,b.1.2.2.1,()),b.2.1,b.2.2.1,b.2.2.2.1,b.2.2.2.2.1,b.2.2.2.2.2.2)
else some ((b.1.2.1,b.1.2.2.2.1,b.1.2.2.1,()),b.2.1,b.2.2.1,b.2.2.2.1,b.2.2.2.2.1,b.2.2.2.2.2.2)):Option (JM×(qO×zB×zB×qO×List ByteArray×List ByteArray×List mI×Unit))).bind fun c=>
let w:=(if c.1.2.1>(aO (c.1.2.2.1+1))then c.1.2.1 else aO (c.1.2.2.1+1))
(Ro ((w,()),())).bind fun x=>
((let y:=(((c.2.2.2.2.2.2.2.1.length:Nat):Int)==0)
bif y then some ((),c.2.2.2.2.2.2.2.1,((0,ByteArray.empty,0,0,()),()),((c.2.2.2.2.1.1.1,c.2.2.2.2.1.1.2.1,-1,c.2.2.2.2.1.1.2.2.2),()),())
else some ((),c.2.2.2.2.2.2.2.1,((0,ByteArray.empty,0,0,()),()),((c.2.2.2.2.1.1.1,c.2.2.2.2.1.1.2.1,x.1.1,c.2.2.2.2.1.1.2.2.2),()),())):Option NM).bind fun l=>
bif decide (l.2.1.length=c.2.2.2.2.2.2.2.1.length)&&true then
some ((c.1.1,0,()),l.2.2.2.1,c.2.2.2.1,l.2.1,c.2.2.2.2.2.1,c.2.2.2.2.2.2.1,())
else none)
def aox:Abs.Spec:=⟨0,⟨[0,1,2,3],amP,.nil⟩,⟨[8,9,10,11],(.st gQ (.st sK NC)),(.box 5 afX (.box 6 agM (.arr Z7 false Oi)))⟩,m96⟩
def aou:Nat→Abs.eX
 |0=>.mk (bf [(38,⟨[181,8,9,14,13,12,2,5,21],amr,ags⟩),(36,⟨[12,19,8,9,14,13,2,5,20],(.st gQ (.dat .bool (.st rW (.st JB (.dat .bool (.st (.ptr (3,0) 6 0 0) (.dat aQ (.st (.ptr (4,0) 8 0 0) cZ)))))))),aen⟩),(29,⟨[12,13,4,8,9,14,2,5,17,18],(.st gQ (.st sK (.st p8 (.st CF (.st MG (.dat .bool (.dat aQ (.st Ho (.dat aQ (.st (.ptr (6,0) 6 0 0) .nil)))))))))),(.box 5 ajh (.box 6 (.agg (.dat aQ (.dat aQ (.dat aQ (.dat .str (.st (.own .str (8,0)) (.st (.own .str (9,0)) .nil)))))) .nil) (.box 5 pz (.box 5 EN (.box 6 Qq (.box 8 wP (.box 6 (.dat Z7 .nil) (.arr Z7 false Oi))))))))⟩),(20,⟨[115,12,13,4,8,9,2,5,14],(.dat .bool akU),aaN⟩),(19,⟨[14,13,3,4,12,8,9,2,5,15],aki,ahp⟩),(6,⟨[47,8,9,12,3,4,2,5],(.dat .bool (.st gQ (.st sK (.st p8 (.dat Jp (.st CF aec)))))),(.box 5 EN (.box 6 Qq (.box 5 (.agg (.dat aQ (.dat .str (.st (.own Z7 (5,0)) l9))) .nil) (.box 5 pz (.box 8 wP yE)))))⟩),(1,⟨[29,8,9,3,4,2,5],(.dat .bool (.st gQ (.st sK (.dat Jp (.st p8 (.dat aQ (.st (.ptr (3,0) 8 0 0) .nil))))))),(.box 5 EN (.box 6 Qq (.box 5 pz Nk)))⟩)]) (bf [(40,(⟨[8,9,14,13,12,21,2],ae9,(.box 5 EN (.box 6 Qq (.box 6 amV (.box 5 (.agg (.dat aQ (.dat .str (.st (.own Z7 (6,0)) l9))) .nil) (.arr .str false (.arr .str false yE))))))⟩,none)),(32,(⟨[12,8,9,14,13,2,5],(.st gQ agJ),aen⟩,none)),(26,(⟨[12,13,4,8,9,14,2,5,17],(.st gQ (.st sK (.st p8 aew))),aaN⟩,none)),(22,(⟨[12,13,4,8,9,14,2,5],akX,aaN⟩,none)),(12,(⟨[14,13,3,4,12,8,9,2,5,15],aki,ahp⟩,none))]) (bf [(34,⟨⟨[20,12,19,8,9,14,13,2,5],(.dat aQ (.st gQ (.dat .bool agJ))),aen⟩,(.one (.exit 5) ⟨[8,9,14,13,12,2,5,19],(.st gQ (.st sK (.dat .bool (.st JB (.st CF (.dat aQ (.st (.ptr (4,0) 8 0 0) eH))))))),ags⟩)⟩),(25,⟨⟨[17,12,13,4,8,9,14,2,5],(.dat aQ akX),aaN⟩,(.one (.exit 3) ⟨[12,8,9,14,13,2,5],(.st gQ agJ),aen⟩)⟩),(11,⟨⟨[15,14,13,3,4,12,8,9,2,5],(.dat aQ (.dat .bool (.st Xc (.dat Jp (.st rW (.st p8 (.st CF (.st MG (.dat aQ (.st Ho .nil)))))))))),ahp⟩,(.one (.exit 0) ⟨[12,13,4,8,9,2,5,14],akU,aaN⟩)⟩)]) (fun
  |41,1=>1
  |_,_=>0)
 |1=>.mk bB (bf [(3,(⟨[2,1],JL,zm⟩,none))]) bB fw
 |_=>{}
theorem apv:dh 96 aox:=okW aou (aX abk (aX Y6 (aX Uy (aX aaQ (aX alE (aX Zv dI))))))
def vV(v:afo):Option (afo⊕(iN×(yc×(Y8×Unit)×VY×qC×List Y3×Unit))):=
let b:=(decide (v.1.1<(v.2.2.2.1.1.2.1.length:Int)))
bif b then Abs.rowAt v.2.2.2.1.1.2.1 v.1.1 fun c _=>
Abs.rowAt v.2.2.2.1.1.2.1 v.1.1 fun d _=>
Abs.rowAt v.2.2.1.1.1 d.1 fun e _=>
(m94 ((c,e,v.1.2.1,v.2.2.1.1.2.2),())).bind fun a=>
bif decide (v.2.2.2.2.2.1.length+([(a.2.1.1.1,a.2.1.1.2.1,a.2.2.1,a.2.1.1.2.2)]:List Y3).length≤4294967296)then
let f:=(v.2.2.2.2.2.1++([(a.2.1.1.1,a.2.1.1.2.1,a.2.2.1,a.2.1.1.2.2)]:List Y3))
some (.inl ((aO (v.1.1+1),v.1.2),v.2.1,v.2.2.1,v.2.2.2.1,v.2.2.2.2.1,f,()))
else none
else(some (.inr (v.1.2,v.2.2.2.1,v.2.2.1,v.2.1,v.2.2.2.2)))
def rA(v:(J7×aan)):Option ((J7×aan)⊕(J7×aan)):=
((let b:=(decide (v.1.1<((v.2.2.2.1.length:Nat):Int)))
bif b then bif decide (0≤v.1.1∧v.1.1<v.2.2.2.1.length)then
(v.2.2.2.1[v.1.1.toNat]?).bind fun c=>
some ((Op.bytesLess c.toList v.2.2.2.2.2.1.1.1.toList,v.1.2.1,v.1.2.2.1,v.1.1,()),v.2)
else none
else some ((false,v.1.2.1,v.1.2.2.1,v.1.1,()),v.2)):Option (Xz×aan)).bind fun a=>
bif a.1.1 then some (.inl ((aO (a.1.2.2.2.1+1),a.1.2.1,a.1.2.2.1,()),a.2))
else(some (.inr (a.1.2,a.2)))
def AA(v:(qG×WG)):Option ((qG×WG)⊕(iN×WG)):=
bif decide (0≤v.1.2.1∧v.1.2.1<v.2.1.length)then
(v.2.1[v.1.2.1.toNat]?).bind fun g=>
let h:=(decide (v.1.1<(g.2.2.1.length:Int)))
bif h then((bif decide (0≤v.1.2.1∧v.1.2.1<v.2.1.length)then
(v.2.1[v.1.2.1.toNat]?).bind fun j=>
Abs.rowAt j.2.2.1 v.1.1 fun k _=>
(aC rA ((0,v.1.2.1,v.1.1,()),v.2.1,v.2.2.1,v.2.2.2.1,v.2.2.2.2.1,(k,()),())).bind fun b=>
((bif !b.2.2.2.2.2.1.1.2.2.2.2.1 then some ((true,b.1),b.2)
else let l:=(decide (b.1.2.2.1<((b.2.2.2.1.length:Nat):Int)))
bif l then bif decide (0≤b.1.2.2.1∧b.1.2.2.1<b.2.2.2.1.length)then
(b.2.2.2.1[b.1.2.2.1.toNat]?).bind fun m=>
some ((m.toList==b.2.2.2.2.2.1.1.1.toList,b.1),b.2)
else none
else some ((false,b.1),b.2)):Option (Xz×aan)).bind fun a=>
bif a.1.1 then some ((a.1.2.1,a.1.2.2.1,()),a.2.1,a.2.2.1,a.2.2.2.1,a.2.2.2.2.1,())
else bif decide (a.2.2.2.1.length+ [ByteArray.empty].length≤4294967296)then
bif decide ((0:Int)≤(aO (a.1.2.2.2.1+1)))then
bif decide ((aO (a.1.2.2.2.1+1)).toNat≤(a.2.2.2.1++ [ByteArray.empty]).length∧(a.2.2.2.1++ [ByteArray.empty]).length≤(a.2.2.2.1++ [ByteArray.empty]).length)then
bif decide ((0:Int)≤a.1.2.2.2.1)then
bif decide (a.1.2.2.2.1.toNat≤(a.2.2.2.1++ [ByteArray.empty]).length∧(a.2.2.2.1++ [ByteArray.empty]).length≤(a.2.2.2.1++ [ByteArray.empty]).length)then
bif decide (a.1.2.2.2.1.toNat+((a.2.2.2.1++ [ByteArray.empty]).length-a.1.2.2.2.1.toNat)≤(a.2.2.2.1++ [ByteArray.empty]).length)then
bif decide ((aO (a.1.2.2.2.1+1)).toNat+((a.2.2.2.1++ [ByteArray.empty]).length-(aO (a.1.2.2.2.1+1)).toNat)≤(a.2.2.2.1++ [ByteArray.empty]).length)then
let d:=(bK (a.2.2.2.1++ [ByteArray.empty]) (aO (a.1.2.2.2.1+1)).toNat ((((a.2.2.2.1++ [ByteArray.empty]).drop a.1.2.2.2.1.toNat).take ((a.2.2.2.1++ [ByteArray.empty]).length-a.1.2.2.2.1.toNat)).take ((a.2.2.2.1++ [ByteArray.empty]).length-(aO (a.1.2.2.2.1+1)).toNat)))
bif decide (0≤a.1.2.2.2.1∧a.1.2.2.2.1<d.length)then
bif decide (a.1.2.2.2.1.toNat<d.length)then
bif decide (a.2.2.1.length+([[]]:List fe).length≤4294967296)then
let c:=(a.2.2.1++([[]]:List fe))
bif decide ((0:Int)≤(aO (a.1.2.2.2.1+1)))then
bif decide ((aO (a.1.2.2.2.1+1)).toNat≤c.length∧c.length≤c.length)then
bif decide ((0:Int)≤a.1.2.2.2.1)then
bif decide (a.1.2.2.2.1.toNat≤c.length∧c.length≤c.length)then
bif decide (a.1.2.2.2.1.toNat+(c.length-a.1.2.2.2.1.toNat)≤c.length)then
bif decide ((aO (a.1.2.2.2.1+1)).toNat+(c.length-(aO (a.1.2.2.2.1+1)).toNat)≤c.length)then
let e:=(bK c (aO (a.1.2.2.2.1+1)).toNat (((c.drop a.1.2.2.2.1.toNat).take (c.length-a.1.2.2.2.1.toNat)).take (c.length-(aO (a.1.2.2.2.1+1)).toNat)))
bif decide (0+a.2.2.2.2.2.1.1.2.1.length≤4294967296)then
bif decide (0≤a.1.2.2.2.1∧a.1.2.2.2.1<e.length)then
bif decide (a.1.2.2.2.1.toNat<e.length)then
some ((a.1.2.1,a.1.2.2.1,()),a.2.1,e.set a.1.2.2.2.1.toNat a.2.2.2.2.2.1.1.2.1,d.set a.1.2.2.2.1.toNat a.2.2.2.2.2.1.1.1,a.2.2.2.2.1,())
else none
else none
else none
else none
else none
else none
else none
else none
else none
else none
else none
else none
else none
else none
else none
else none
else none
else none
else none
else none):Option (qG×WG)).bind fun f=>
some (.inl ((aO (f.1.2.1+1),f.1.1,()),f.2))
else some (.inr (v.1.2,v.2))
else none
def FN(v:(iN×WG)):Option ((iN×WG)⊕(Unit×(List Y3×List fe×Unit))):=
let b:=(decide (v.1.1<((v.2.1.length:Nat):Int)))
bif b then(aC AA ((0,v.1),v.2)).bind fun a=>
some (.inl ((aO (a.1.1+1),()),a.2))
else(some (.inr ((),v.2.1,v.2.2.1,())))
def uz(v:ahU):Option (ahU⊕(qG×(List fe×yc×(Y8×Unit)×VY×qC×List Gr×List ByteArray×(Y3×Unit)×List Y3×Unit))):=
let c:=(decide (v.1.1<(v.2.1.1.2.2.1.length:Int)))
bif c then((Abs.rowAt v.2.1.1.2.2.1 v.1.1 fun d _=>
(m95 ((v.2.2.2.2.2.1.1.2.1,v.2.2.2.2.1.1.2.2.1,d.2.1,v.2.2.2.1,v.1.2.1,()),())).bind fun e=>
bif e.1.1 then Abs.rowAt v.2.1.1.2.2.1 v.1.1 fun b _=>
bif decide (v.2.2.1.length+ [b.1].length≤4294967296)then
some ((v.1.2.1,v.1.2.2.1,v.1.1,()),v.2.1,v.2.2.1++ [b.1],v.2.2.2)
else none
else some ((v.1.2.1,v.1.2.2.1,v.1.1,()),v.2)):Option ahU).bind fun a=>
some (.inl ((aO (a.1.2.2.1+1),a.1.1,a.1.2.1,()),a.2))
else(some (.inr (v.1.2,v.2.2.2.1,v.2.2.2.2.1,v.2.2.2.2.2.1,v.2.2.2.2.2.2.1,v.2.2.2.2.2.2.2.1,v.2.2.2.2.2.2.2.2.1,v.2.2.1,v.2.1,v.2.2.2.2.2.2.2.2.2)))
def xw(v:ai2):Option (ai2⊕(iN×(qC×List Gr×VY×(Y8×Unit)×List Y3×Unit))):=
let d:=(decide (v.1.2.1<((v.2.2.2.2.2.2.2.1.length:Nat):Int)))
bif d then((bif decide (0≤v.1.2.1∧v.1.2.1<v.2.2.2.2.2.2.2.1.length)then
(v.2.2.2.2.2.2.2.1[v.1.2.1.toNat]?).bind fun e=>
(aC uz ((0,v.1),(e,()),[],v.2.1,v.2.2.1,v.2.2.2.1,v.2.2.2.2.2.1,v.2.2.2.2.2.2.1,v.2.2.2.2.1,v.2.2.2.2.2.2.2)).bind fun a=>
Abs.rowAt a.2.2.2.1.1.1 a.2.2.2.2.2.2.2.2.1.1.1 fun f _=>
(m96 ((a.2.2.2.2.2.2.2.2.1.1,f,a.1.1,a.2.2.2.2.2.2.2.1,()),())).bind fun b=>
bif decide (0≤a.1.2.1∧a.1.2.1<a.2.2.2.2.2.2.2.2.2.1.length)then
bif decide (a.1.2.1.toNat<a.2.2.2.2.2.2.2.2.2.1.length)then
bif b.1.1 then bif decide (a.2.2.2.2.2.2.1.length+([(b.2.2.1.1.1,b.2.2.1.1.2.1,b.2.2.1.1.2.2.1,b.2.2.1.1.2.2.2.1,b.2.2.2.2)]:List Gr).length≤4294967296)then
let g:=(a.2.2.2.2.2.2.1++([(b.2.2.1.1.1,b.2.2.1.1.2.1,b.2.2.1.1.2.2.1,b.2.2.1.1.2.2.2.1,b.2.2.2.2)]:List Gr))
some (a.1,a.2.1,a.2.2.1,a.2.2.2.1,g,a.2.2.2.2.1,a.2.2.2.2.2.1,a.2.2.2.2.2.2.2.2.2.1.set a.1.2.1.toNat (b.2.1.1.1,b.2.1.1.2.1,b.2.2.2.1,b.2.1.1.2.2),())
else none
else some (a.1,a.2.1,a.2.2.1,a.2.2.2.1,a.2.2.2.2.2.2.1,a.2.2.2.2.1,a.2.2.2.2.2.1,a.2.2.2.2.2.2.2.2.2.1.set a.1.2.1.toNat (b.2.1.1.1,b.2.1.1.2.1,b.2.2.2.1,b.2.1.1.2.2),())
else none
else none
else none):Option ai2).bind fun c=>
some (.inl ((c.1.1,aO (c.1.2.1+1),()),c.2))
else(some (.inr ((v.1.1,()),v.2.2.2.2.2.2.1,v.2.2.2.2.1,v.2.2.2.2.2.1,v.2.2.2.1,v.2.2.2.2.2.2.2)))
def yo(v:ZT):Option agd:=
let c:=(decide (v.1.1<((v.2.1.length:Nat):Int)))
bif c then((bif decide (0≤v.1.1∧v.1.1<v.2.1.length)then
(v.2.1[v.1.1.toNat]?).bind fun d=>
(m89 ((v.2.2.2.1.1,d,v.1.2),())).bind fun e=>
bif !e.1.1 then bif decide (0≤v.1.1∧v.1.1<v.2.1.length)then
(v.2.1[v.1.1.toNat]?).bind fun b=>
bif decide (v.2.2.1.length+([b]:List Y3).length≤4294967296)then
let f:=(v.2.2.1++([b]:List Y3))
some ((v.1.2.1,v.1.1,()),v.2.1,f,v.2.2.2)
else none
else none
else some ((v.1.2.1,v.1.1,()),v.2)
else none):Option ZT).bind fun a=>
some (.inl ((aO (a.1.2.1+1),a.1.1,()),a.2))
else(some (.inr ((),v.2.1,v.2.2.1,())))
def m42(v:YL):Option (iN×(VY×List Gr×List Y3×Unit)):=
(m37 ((v.1.1,v.1.2.1,()),())).bind fun e=>
bif !e.1.1 then some ((8,()),((0,[],0,()),()),[],[],())
else(bif decide (v.1.2.2.1<v.1.2.1.1)then some ((6,()),((0,[],0,()),()),[],[],())
else bif decide (v.1.2.2.1>8589934592)then some ((1,()),((0,[],0,()),()),[],[],())
else(aC vV ((0,v.1.2.2),((v.1.2.2.1,v.1.2.1.2.2),()),(v.1.1,()),(v.1.2.1,()),((0,0,()),()),[],())).bind fun a=>
(aC FN ((0,()),a.2.2.2.2.2.1,[],[],a.2.2.2.1,())).bind fun c=>
bif decide (c.2.1.length=a.2.2.2.2.2.1.length)&&true then
(aC xw ((a.1.1,0,()),c.2.2.1,a.2.1,a.2.2.1,[],a.2.2.2.1,a.2.2.2.2.1,c.2.1,())).bind fun b=>
(aC yo ((0,b.1),b.2.2.2.2.2.1,[],b.2.2.2.2.1,())).bind fun d=>
bif decide (d.2.1.length=b.2.2.2.2.2.1.length)&&true then
some ((0,()),b.2.2.2.1,b.2.2.1,d.2.2)
else none
else none)
def aog:Abs.Spec:=⟨0,⟨[0,1,2],YO,.nil⟩,⟨[6,7,8],ad1,(.box 4 (.agg (.dat aQ (.st (.own Z1 (2,0)) Aa)) .nil) (.arr yJ false qL))⟩,m42⟩
def aoK:Nat→Abs.eX
 |0=>.mk bB (bf [(19,(⟨[2,13,4,3,14,9,6,15],(.dat aQ (.st EY (.st kU (.st kT (.st (.own yJ (3,0)) (.st G9 (.st WK cZ))))))),ams⟩,none)),(24,(⟨[16,17,2,13,4,3,9,6,15,14,18],(.st gQ (.st Fa (.dat aQ (.st (.own jH (2,0)) (.st yM (.st F4 (.st WK (.st (.ptr (6,0) 4 0 0) (.dat aQ (.st (.own yJ (7,0)) cZ)))))))))),Rb8⟩,none))]) (bf [(18,⟨⟨[2,13,4,3,15,14,9,6],(.dat aQ (.st EY (.st kU (.st kT (.dat aQ (.st (.own yJ (3,0)) (.st G9 (.st WK .nil)))))))),ams⟩,(.one (.exit 3) ⟨[6,14,9,2,3],(.st fV (.st (.own yJ (1,0)) (.st zF (.dat aQ (.st Oh .nil))))),(.box 4 DF (.arr yJ false (.box 4 ai5 (.box 3 kD qL))))⟩)⟩),(23,⟨⟨[18,16,17,2,13,4,3,9,6,15,14],(.dat aQ (.st gQ (.st Fa (.dat aQ (.st (.own jH (2,0)) (.st yM (.st F4 (.st WK (.st (.ptr (6,0) 4 0 0) (.dat aQ (.st (.own yJ (7,0)) .nil))))))))))),Rb8⟩,(.one (.exit 5) ⟨[2,13,4,3,9,6,15,14,17,16],(.dat aQ (.st EY (.st kU (.st kT (.st yM (.st G9 (.dat aQ (.st (.own yJ (5,0)) (.st (.own .str (6,0)) (.st (.ptr (7,0) 5 0 0) .nil)))))))))),(.arr jH false (.box 4 kS (.box 3 kD (.box 4 (.agg (.dat aQ (.st (.own Z1 (8,0)) Aa)) .nil) (.box 4 DF (.arr yJ false (.arr .str false (.box 5 pz qL))))))))⟩)⟩),(11,⟨⟨[10,9,3,2,4,6],(.dat aQ (.st fV (.st qi (.dat aQ (.st zF PI))))),(.box 4 ai5 (.box 3 kD (.box 4 kS (.box 4 DF qL))))⟩,(.one (.exit 1) ⟨[2,4,3,9,6],(.dat aQ (.st fV (.st qi (.st zF PI)))),(.box 4 kS (.box 3 kD (.box 4 ai5 (.box 4 DF qL))))⟩)⟩)]) (fun
  |31,4=>2
  |15,1=>1
  |_,_=>0)
 |1=>.mk (bf [(13,⟨[68,3,4,5,1,6,7,8],(.dat .bool ahY),acJ⟩),(11,⟨[48,3,4,5,1,6,7,8],(.dat .bool ahY),acJ⟩)]) (bf [(8,(⟨[3,4,5,1,6],(.st W9 (.st N7 (.dat aQ (.st yM cZ)))),acD⟩,none))]) (bf [(4,⟨⟨[3,4,5,1],(.st W9 (.st N7 (.dat aQ PI))),acD⟩,(.one (.exit 0) ⟨[3],(.st W9 .nil),(.arr Z1 false ZC)⟩)⟩),(7,⟨⟨[6,3,4,5,1],(.dat aQ (.st W9 (.st N7 (.dat aQ PI)))),acD⟩,(.one (.exit 2) ⟨[3,4,1,5],(.st W9 (.st N7 (.st yM cZ))),acD⟩)⟩),(11,⟨⟨[8,3,4,5,1,6,7],(.dat aQ (.st W9 (.st N7 (.dat aQ (.st yM (.dat aQ (.st MG .nil))))))),acJ⟩,(.one (.exit 4) ⟨[3,4,5,1,6,7,8],ahY,acJ⟩)⟩)]) fw
 |2=>.mk bB (bf [(4,(⟨[1,7,2,3,8],aeD,abO⟩,none))]) (bf [(3,⟨⟨[8,1,7,2,3],ae5,abO⟩,afj⟩)]) fw
 |_=>{}
theorem amh:dh 42 aog:=okW aoK (aX Zm (aX anS (aX apI (aX apv (aX ah2 dI)))))
def m43(v:Mf):Option (Unit×(Om×(Zb×Unit)×Y4×Unit)):=
(GA ((600,()),v.2)).bind fun a=>
(GA ((900,()),a.2)).bind fun d=>
(GA ((3,()),d.2)).bind fun e=>
(m97 ((1,()),e.2)).bind fun b=>
(m98 ((),b.2.1,())).bind fun c=>
bif decide (b.2.2.1.length+([c.2.2.1.1]:List Pv).length≤4294967296)then
let f:=(b.2.2.1++([c.2.2.1.1]:List Pv))
some ((),c.2.1,((v.1.1,a.1.1,aO ((aO (a.1.1+1))+d.1.1),e.1),()),f,())
else none
def apZ:Abs.Spec:=⟨1,⟨[0,1],KE,ql⟩,⟨[4],(.st rW .nil),(.box 2 mZ (.box 5 (.agg (.dat aQ (.dat aQ (.dat aQ (.dat aQ (.st (.own Z33 (2,0)) .nil))))) .nil) aaT))⟩,m43⟩
theorem alW:dh 43 apZ:=okW rT (aX IU (aX agG (aX aia dI)))
def m99(v:((kQ×Ol×Unit)×Unit)):Option IY:=
bif decide (0+v.1.1.length≤4294967296)then
bif decide (v.1.1.length+([v.1.2.1]:List Ol).length≤4294967296)then
let a:=(v.1.1++([v.1.2.1]:List Ol))
(m87 ((a,()),())).bind fun b=>
bif b.1.1 !=0 then some (b.1,[],())
else some ((0,()),a,())
else none
else none
def apo:Abs.Spec:=⟨0,⟨[0,1],(.dat J9 Fq),.nil⟩,⟨[4,5],QW,nJ⟩,m99⟩
theorem aop:dh 99 apo:=okW rT (aX ai7 dI)
def BD(v:(J7×MK)):Option ((J7×MK)⊕(qG×MK)):=
bif decide (0≤v.1.2.2.1∧v.1.2.2.1<v.2.1.length)then
(v.2.1[v.1.2.2.1.toNat]?).bind fun e=>
let f:=(decide (v.1.1<(e.2.2.1.length:Int)))
bif f then((bif decide (0≤v.1.2.2.1∧v.1.2.2.1<v.2.1.length)then
(v.2.1[v.1.2.2.1.toNat]?).bind fun d=>
((Abs.rowAt d.2.2.1 v.1.1 fun g _=>
bif !g.2.2.2.2.2.1 then bif d.2.2.2.1==(-1)then some ((true,v.1.2.1,v.1.2.2.1,v.1.1,()),v.2)
else some ((decide (d.2.2.2.1>v.1.2.1),v.1.2.1,v.1.2.2.1,v.1.1,()),v.2)
else some ((false,v.1.2.1,v.1.2.2.1,v.1.1,()),v.2)):Option (Xz×MK)).bind fun a=>
bif a.1.1 then bif decide (0≤a.1.2.2.1∧a.1.2.2.1<a.2.1.length)then
(a.2.1[a.1.2.2.1.toNat]?).bind fun b=>
some (a.1.2,a.2.1.set a.1.2.2.1.toNat (b.1,b.2.1,b.2.2.1,a.1.2.1,b.2.2.2.2),())
else none
else some (a.1.2,a.2)
else none):Option (J7×MK)).bind fun c=>
some (.inl ((aO (c.1.2.2.1+1),c.1.1,c.1.2.1,()),c.2))
else some (.inr (v.1.2,v.2))
else none
def CK(v:(qG×MK)):Option ((qG×MK)⊕YP):=
let b:=(decide (v.1.2.1<((v.2.1.length:Nat):Int)))
bif b then(aC BD ((0,v.1),v.2)).bind fun a=>
some (.inl ((a.1.1,aO (a.1.2.1+1),()),a.2))
else(some (.inr ((),v.2)))
def Yd(v:(akr×Unit)):Option YP:=
bif decide (0+v.1.1.length≤4294967296)then
(aC CK ((v.1.2.1,0,()),v.1.1,())).bind fun a=>
some ((),a.2)
else none
def amE:Abs.Spec:=⟨0,⟨[0,1],ahq,.nil⟩,⟨[4],VP,qL⟩,Yd⟩
def ak5:Nat→Abs.eX
 |0=>.mk (bf [(9,⟨[48,1,6,5,7],(.dat .bool (.dat aQ (.dat aQ (.st yC cZ)))),qL⟩)]) (bf [(7,(⟨[1,6,5,7],(.dat aQ (.dat aQ (.st yC cZ))),qL⟩,none))]) (bf [(3,⟨⟨[1,6,5],(.dat aQ (.dat aQ VP)),qL⟩,(.one (.exit 0) ⟨[5],VP,qL⟩)⟩),(6,⟨⟨[7,1,6,5],(.dat aQ (.dat aQ (.dat aQ VP))),qL⟩,(.one (.exit 2) ⟨[1,5,6],(.dat aQ (.st yC cZ)),qL⟩)⟩)]) fw
 |_=>{}
theorem ae1:dh 100 amE:=okW ak5 dI
def m44(v:((Y8×TI×Ol×Unit)×Unit)):Option (qG×JU):=
(m37 ((v.1.1,v.1.2.1,()),())).bind fun b=>
bif !b.1.1 then some ((0,8,()),((0,0,()),()),[],[],())
else(bif decide (v.1.2.1.2.2.2.1≥8589934592)then some ((0,5,()),((0,0,()),()),[],[],())
else(m99 ((v.1.2.1.2.2.1,(v.1.2.1.2.2.2.1,v.1.2.2.1.2),()),())).bind fun a=>
bif a.1.1 !=0 then some ((0,a.1),((0,0,()),()),[],[],())
else(Yd ((v.1.2.1.2.1,v.1.2.2.1.2.2.1,()),())).bind fun c=>
some ((v.1.2.1.2.2.2.1,0,()),((v.1.2.1.1,aO (v.1.2.1.2.2.2.1+1),()),()),c.2.1,a.2))
def anM:Abs.Spec:=⟨0,⟨[0,1,2],(.dat Z9 (.dat Rj Fq)),.nil⟩,⟨[6,7,8],(.st fV l9),DT⟩,m44⟩
theorem aju:dh 44 anM:=okW rT (aX Zm (aX aop (aX ae1 dI)))
def fC(v:aeO):Option (aeO⊕(IY⊕(mY×IC))):=
let d:=(decide (v.1.1<(v.1.2.2.2.1.length:Int)))
bif d then((Abs.rowAt v.1.2.2.2.1 v.1.1 fun a _=>
((bif a.1==v.1.2.2.1 then bif decide (a.2.2.1≤v.1.2.1)then some (.inr (.inl ((9,()),[],())))
else bif decide (a.2.1≥v.1.2.1)then some (.inr (.inr ((v.1.2.1,v.1.2.2.1,v.1.2.2.2.1,true,v.1.1,()),v.2)))
else some (.inl ((v.1.2.1,v.1.2.2.1,v.1.2.2.2.1,true,v.1.1,()),((a.1,a.2.1,v.1.2.1,a.2.2.2),()),v.2))
else some (.inl ((v.1.2.1,v.1.2.2.1,v.1.2.2.2.1,v.1.2.2.2.2.1,v.1.1,()),(a,()),v.2))):Option ((X9×(Mq×kQ×Unit))⊕(IY⊕(X9×IC)))).bind fun e=>
aA e (fun c=>(bif decide (c.2.2.1.length+([c.2.1.1]:List Ol).length≤4294967296)then
let f:=(c.2.2.1++([c.2.1.1]:List Ol))
some (.inl (c.1,f,()))
else none)) (fun g=>(aA g (fun h=>(some (.inr h))) (fun j=>(some (.inl j)))))):Option ((X9×IC)⊕IY)).bind fun k=>
aA k (fun b=>(some (.inl ((aO (b.1.2.2.2.2.1+1),b.1.1,b.1.2.1,b.1.2.2.1,b.1.2.2.2.1,()),b.2)))) (fun l=>(some (.inr (.inl l))))
else(some (.inr (.inr (v.1.2.2.2.2,v.2))))
def Mv(v:((kQ×Int×Int×Unit)×Unit)):Option IY:=
(m87 ((v.1.1,()),())).bind fun a=>
bif a.1.1 !=0 then some (a.1,[],())
else((aC fC ((0,v.1.2.2.1,v.1.2.1,v.1.1,false,()),[],())).bind fun c=>
aA c (fun d=>(some d)) (fun b=>(bif !b.1.1 then some ((3,()),[],())
else some ((0,()),b.2))))
def aj8:Abs.Spec:=⟨0,⟨[0,1,2],(.dat J9 l9),.nil⟩,⟨[6,7],QW,nJ⟩,Mv⟩
def alD:Nat→Abs.eX
 |0=>.mk bB (bf [(8,(⟨[9,2,1,0,10,11],aeV,nJ⟩,some (.one .ret ⟨[6,7],QW,nJ⟩))),(16,(⟨[2,1,0,10,11,12,9],(.dat aQ (.dat aQ (.dat J9 (.dat .bool (.dat aQ (.st gQ (.st (.own Z6 (1,0)) .nil))))))),(.box 5 Fq nJ)⟩,some (.more .ret ⟨[6,7],QW,nJ⟩ (.one (.exit 1) ⟨[9,2,1,0,10,11],aeV,nJ⟩))))]) (bf [(7,⟨⟨[11,9,2,1,0,10],(.dat aQ (.st SI (.dat aQ (.dat aQ (.dat J9 eH))))),nJ⟩,(.more .ret ⟨[6,7],QW,nJ⟩ (.one (.exit 0) ⟨[9,10],(.st SI eH),nJ⟩))⟩)]) fw
 |_=>{}
theorem akf:dh 101 aj8:=okW alD (aX ai7 dI)
def m45(v:YL):Option (iN×JU):=
(m37 ((v.1.1,v.1.2.1,()),())).bind fun b=>
bif !b.1.1 then some ((8,()),((0,0,()),()),[],[],())
else((Mv ((v.1.2.1.2.2.1,v.1.2.2.1,v.1.2.1.1,()),())).bind fun a=>
bif a.1.1 !=0 then some (a.1,((0,0,()),()),[],[],())
else let c:=(if(8589934592:Int)<(aO (v.1.2.1.1+1))then 8589934592 else aO (v.1.2.1.1+1))
(Yd ((v.1.2.1.2.1,c,()),())).bind fun d=>
some ((0,()),((v.1.2.1.1,v.1.2.1.2.2.2),()),d.2.1,a.2))
def aq7:Abs.Spec:=⟨0,⟨[0,1,2],YO,.nil⟩,⟨[6,7],Ng,DT⟩,m45⟩
theorem ak6:dh 45 aq7:=okW rT (aX Zm (aX akf (aX ae1 dI)))
def jd(v:(iN×adN)):Option ((iN×adN)⊕(Unit×(Om×qC×yc×Unit))):=
((bif decide (v.1.1>0)then(m77 ((),v.2.1,())).bind fun l=>
some ((l.1.1,v.1),l.2.1,v.2.2)
else some ((false,v.1),v.2)):Option (uj×adN)).bind fun b=>
bif b.1.1 then(((m32 (([0,1,10,30,400],()),b.2.1,())).bind fun h=>
(((GA ((6,()),h.2)).bind fun c=>
((bif c.1.1==0 then some ((c.1.1==0,b.1.2.1,aO (b.2.2.1.1.1+h.1.1),0,c.1),c.2.1,b.2.2.1,b.2.2.2.1,b.2.2.2.2.1,b.2.2.1,())
else bif c.1.1==1 then some ((c.1.1==1,b.1.2.1,aO (b.2.2.1.1.1+h.1.1),0,c.1),c.2.1,b.2.2.1,b.2.2.2.1,b.2.2.2.2.1,b.2.2.1,())
else some ((c.1.1==2,b.1.2.1,aO (b.2.2.1.1.1+h.1.1),0,c.1),c.2.1,b.2.2.1,b.2.2.2.1,b.2.2.2.2.1,b.2.2.1,())):Option (aal×(Om×yc×(Y8×Unit)×qC×yc×Unit))).bind fun a=>
bif a.1.1 then(m39 ((),a.2.1,())).bind fun m=>
(GA ((3,()),m.2.1,())).bind fun n=>
(m41 ((a.2.2.2.1.1,a.2.2.1.1,(a.1.2.2.1,m.2.2.1,decide (n.1.1>0),()),()),())).bind fun j=>
some ((a.1.2.1,j.1),n.2.1,a.2.2.1,a.2.2.2.1,a.2.2.2.2.1,((j.2.1.1.1,j.2.2.1,j.2.1.1.2),()),())
else bif a.1.2.2.2.2.1==3 then(m42 ((a.2.2.2.1.1,a.2.2.1.1,a.1.2.2.1,()),())).bind fun k=>
some ((a.1.2.1,k.1),a.2.1,a.2.2.1,a.2.2.2.1,a.2.2.2.2.1,((k.2.1.1.1,k.2.2.2.1,k.2.1.1.2),()),())
else bif a.1.2.2.2.2.1==4 then(m43 ((0,()),a.2.1,())).bind fun e=>
(m44 ((a.2.2.2.1.1,a.2.2.1.1,(e.2.2.1.1.1,e.2.2.1.1.2.1,e.2.2.1.1.2.2.1,e.2.2.1.1.2.2.2.1,e.2.2.2),()),())).bind fun f=>
some ((a.1.2.1,f.1.2),e.2.1,a.2.2.1,a.2.2.2.1,a.2.2.2.2.1,((f.2.1.1.1,f.2.2.1,f.2.2.2.1,f.2.1.1.2),()),())
else bif a.1.2.2.2.2.1==5 then(GA ((3,()),a.2.1,())).bind fun o=>
(m45 ((a.2.2.2.1.1,a.2.2.1.1,aO (1+o.1.1),()),())).bind fun g=>
some ((a.1.2.1,g.1),o.2.1,a.2.2.1,a.2.2.2.1,a.2.2.2.2.1,((g.2.1.1.1,g.2.2.1,g.2.2.2.1,g.2.1.1.2),()),())
else some ((a.1.2.1,a.1.2.2.2.1,()),a.2)):Option (qG×(Om×yc×(Y8×Unit)×qC×yc×Unit))).bind fun d=>
bif d.1.2.1==0 then some ((d.1.1,()),d.2.1,d.2.2.2.2.2.1,d.2.2.2.1,d.2.2.2.2.1,())
else some ((d.1.1,()),d.2.1,d.2.2.1,d.2.2.2.1,d.2.2.2.2.1,())):Option (iN×adN)).bind fun p=>
some (.inl ((aO (p.1.1-1),()),p.2))
else(some (.inr ((),b.2.1,b.2.2.2.2.1,b.2.2.1,())))
def m31(v:((Y8×Int×Unit)×Rl)):Option (Unit×(Om×yc×Unit)):=
(m33 ((),())).bind fun a=>
(aC jd (v.1.2,v.2.1,((a.2.1.1.1,[],[],a.2.1.1.2),()),(v.1.1,()),((0,0,()),()),())).bind fun b=>
some ((),b.2.1,b.2.2.2)
def ao1:Abs.Spec:=⟨1,⟨[0,1,2],(.st zi (.dat Z9 cZ)),ql⟩,⟨[6],Xm,(.box 2 mZ Dg)⟩,m31⟩
def ao3:Nat→Abs.eX
 |0=>.mk (bf [(2,⟨[17,7,0,4,6,2],(.dat .bool afm),ai1⟩)]) (bf [(3,(⟨[7,0,4,6,2],afm,ai1⟩,none)),(17,(⟨[7,0,4,6,2,8,9],(.st kU (.st zi (.st kT (.st yM (.dat aQ (.st G9 cZ)))))),aeZ⟩,none)),(10,(⟨[29,7,0,4,6,2,8,10,9,28],(.dat .bool (.st kU (.st zi (.st kT (.st yM (.dat aQ (.st G9 DN))))))),aeZ⟩,none))]) (bf [(2,⟨⟨[2,7,0,4,6],(.dat aQ (.st kU (.st zi (.st kT PI)))),ai1⟩,(.one (.exit 0) ⟨[6,7],(.st kU (.st zF .nil)),(.box 2 mZ (.box 4 DF Dg))⟩)⟩)]) fw
 |_=>{}
theorem aoZ:dh 31 ao1:=okW ao3 (aX amG (aX aqj (aX ok32 (aX IU (aX akY (aX am8 (aX amh (aX alW (aX aju (aX ak6 dI))))))))))
def BF(v:agl):Option (agl⊕(eF⊕((kQ×kQ×Int×Unit)×Unit))):=
let c:=(decide (v.1.1<(v.2.2.1.1.2.2.2.2.1.length:Int)))
bif c then Abs.rowAt v.2.2.1.1.2.2.2.2.1 v.1.1 fun a _=>
Abs.rowAt v.2.1.1.2.2.2.2.1 v.1.1 fun b _=>
let d:=(!((a.1==b.1)&&((a.2.1==b.2.1)&&((a.2.2.1==b.2.2.1)&&true))))
bif d then some (.inr (.inl ((false,()),())))
else some (.inl ((aO (v.1.1+1),v.1.2),v.2))
else(some (.inr (.inr (v.1.2,()))))
def Gh(v:((Int×kQ×kQ×Unit)×Unit)):Option (((Int×kQ×kQ×Unit)×Unit)⊕(eF⊕qR)):=
let e:=(decide (v.1.1<(v.1.2.2.1.length:Int)))
bif e then Abs.rowAt v.1.2.2.1 v.1.1 fun a _=>
Abs.rowAt v.1.2.1 v.1.1 fun b _=>
((bif a.1 !=b.1 then some ((true,v.1.2.1,v.1.2.2.1,v.1.1,()),(b,()),(a,()),())
else bif a.2.1 !=b.2.1 then some ((true,v.1.2.1,v.1.2.2.1,v.1.1,()),(b,()),(a,()),())
else bif a.2.2.1 !=b.2.2.1 then some ((true,v.1.2.1,v.1.2.2.1,v.1.1,()),(b,()),(a,()),())
else bif a.2.2.2.1 !=b.2.2.2.1 then some ((true,v.1.2.1,v.1.2.2.1,v.1.1,()),(b,()),(a,()),())
else let f:=((a.2.2.2.2.1.length:Int) !=(b.2.2.2.2.1.length:Int))
some ((f,v.1.2.1,v.1.2.2.1,v.1.1,()),(b,()),(a,()),())):Option ((Bool×kQ×kQ×Int×Unit)×(Mq×Mq×Unit))).bind fun c=>
bif c.1.1 then some (.inr (.inl ((false,()),())))
else(aC BF ((0,c.1.2),c.2)).bind fun g=>
aA g (fun h=>(some (.inr (.inl h)))) (fun d=>(some (.inl ((aO (d.1.2.2.1+1),d.1.1,d.1.2.1,()),()))))
else(some (.inr (.inr ((),()))))
def m53(v:((kQ×kQ×Unit)×Unit)):Option eF:=
let a:=((v.1.1.length:Int) !=(v.1.2.1.length:Int))
bif a then some ((false,()),())
else((aC Gh ((0,v.1.2.1,v.1.1,()),())).bind fun b=>
aA b (fun c=>(some c)) (fun d=>(some ((true,()),()))))
def aqw:Abs.Spec:=⟨0,⟨[0,1],(.dat J9 Oe),.nil⟩,⟨[4],eH,.nil⟩,m53⟩
def apx:Nat→Abs.eX
 |0=>.mk (bf [(7,⟨[62,7,6,1,0,5],(.dat .bool (.st gQ (.st rW (.dat J9 Aa)))),(.box 5 Fq OA)⟩)]) bB (bf [(4,⟨⟨[5,1,0],(.dat aQ (.dat J9 Oe)),.nil⟩,Ro4⟩),(10,⟨⟨[8,7,6,1,0,5],(.dat aQ (.st gQ (.st rW (.dat J9 Aa)))),(.box 5 Fq OA)⟩,(.more .ret ⟨[4],eH,.nil⟩ (.one (.exit 2) ⟨[1,0,5],(.dat J9 Aa),.nil⟩))⟩)]) fw
 |_=>{}
theorem apJ:dh 53 aqw:=okW apx dI
def Ga(v:((Int×fe×fe×Unit)×Unit)):Option (((Int×fe×fe×Unit)×Unit)⊕(eF⊕qR)):=
let c:=(decide (v.1.1<(v.1.2.2.1.length:Int)))
bif c then Abs.rowAt v.1.2.2.1 v.1.1 fun a _=>
Abs.rowAt v.1.2.1 v.1.1 fun b _=>
let d:=(!((a.1==b.1)&&((a.2.1==b.2.1)&&true)))
bif d then some (.inr (.inl ((false,()),())))
else some (.inl ((aO (v.1.1+1),v.1.2),()))
else(some (.inr (.inr ((),()))))
def m49(v:((fe×fe×Unit)×Unit)):Option eF:=
let a:=((v.1.1.length:Int) !=(v.1.2.1.length:Int))
bif a then some ((false,()),())
else((aC Ga ((0,v.1.2.1,v.1.1,()),())).bind fun b=>
aA b (fun c=>(some c)) (fun d=>(some ((true,()),()))))
def apM:Abs.Spec:=⟨0,⟨[0,1],(.dat jH mF),.nil⟩,⟨[4],eH,.nil⟩,m49⟩
def apc:Nat→Abs.eX
 |0=>.mk bB bB (bf [(4,⟨⟨[5,1,0],(.dat aQ (.dat jH mF)),.nil⟩,Ro4⟩)]) fw
 |_=>{}
theorem ajs:dh 49 apM:=okW apc dI
def FJ(v:(iN×adU)):Option ((iN×adU)⊕(eF⊕qR)):=
let d:=(decide (v.1.1<(v.2.2.1.1.2.2.1.length:Int)))
bif d then Abs.rowAt v.2.2.1.1.2.2.1 v.1.1 fun a _=>
Abs.rowAt v.2.1.1.2.2.1 v.1.1 fun b _=>
((bif !(a.1.toList==b.1.toList)then some ((true,v.1),v.2)
else(m49 ((a.2.1,b.2.1,()),())).bind fun e=>
bif !e.1.1 then some ((true,v.1),v.2)
else bif a.2.2.1 !=b.2.2.1 then some ((true,v.1),v.2)
else bif a.2.2.2.1 !=b.2.2.2.1 then some ((true,v.1),v.2)
else bif !(a.2.2.2.2.1==b.2.2.2.2.1)then some ((true,v.1),v.2)
else some ((!(a.2.2.2.2.2.1==b.2.2.2.2.2.1),v.1),v.2)):Option (uj×adU)).bind fun c=>
bif c.1.1 then some (.inr (.inl ((false,()),())))
else some (.inl ((aO (c.1.2.1+1),()),c.2))
else(some (.inr (.inr ((),()))))
def m54(v:((Y3×Y3×Unit)×Unit)):Option eF:=
((bif v.1.1.1 !=v.1.2.1.1 then some ((true,()),v.1.2,(v.1.1,()),())
else bif !(v.1.1.2.1.toList==v.1.2.1.2.1.toList)then some ((true,()),v.1.2,(v.1.1,()),())
else bif v.1.1.2.2.2.1 !=v.1.2.1.2.2.2.1 then some ((true,()),v.1.2,(v.1.1,()),())
else bif v.1.1.2.2.2.2.1 !=v.1.2.1.2.2.2.2.1 then some ((true,()),v.1.2,(v.1.1,()),())
else let b:=((v.1.1.2.2.1.length:Int) !=(v.1.2.1.2.2.1.length:Int))
some ((b,()),v.1.2,(v.1.1,()),())):Option (mY×adU)).bind fun a=>
bif a.1.1 then some ((false,()),())
else((aC FJ ((0,()),a.2)).bind fun c=>
aA c (fun d=>(some d)) (fun e=>(some ((true,()),()))))
def apE:Abs.Spec:=⟨0,⟨[0,1],(.dat Z1 pz),.nil⟩,⟨[4],eH,.nil⟩,m54⟩
def aqk:Nat→Abs.eX
 |0=>.mk (bf [(7,⟨[100,3,2,5],(.dat .bool alh),(.box 5 pz yF)⟩),(1,⟨[42,3,2],(.dat .bool Pm),(.box 5 pz yF)⟩)]) bB (bf [(4,⟨⟨[5,3,2],(.dat aQ Pm),(.box 5 pz yF)⟩,Ro4⟩)]) fw
 |_=>{}
theorem aqo:dh 54 apE:=okW aqk (aX ajs dI)
def Gs(v:(iN×(yc×yc×Unit))):Option ((iN×(yc×yc×Unit))⊕(eF⊕qR)):=
let a:=(decide (v.1.1<(v.2.2.1.1.2.1.length:Int)))
bif a then Abs.rowAt v.2.2.1.1.2.1 v.1.1 fun b _=>
Abs.rowAt v.2.1.1.2.1 v.1.1 fun c _=>
(m54 ((b,c,()),())).bind fun d=>
bif !d.1.1 then some (.inr (.inl ((false,()),())))
else some (.inl ((aO (v.1.1+1),()),v.2))
else(some (.inr (.inr ((),()))))
def m17(v:(LM×Unit)):Option eF:=
((bif v.1.1.1 !=v.1.2.1.1 then some ((true,()),v.1.2,(v.1.1,()),())
else bif v.1.1.2.2.2.1 !=v.1.2.1.2.2.2.1 then some ((true,()),v.1.2,(v.1.1,()),())
else let b:=((v.1.1.2.1.length:Int) !=(v.1.2.1.2.1.length:Int))
bif b then some ((true,()),v.1.2,(v.1.1,()),())
else(m53 ((v.1.1.2.2.1,v.1.2.1.2.2.1,()),())).bind fun c=>
some ((!c.1.1,()),v.1.2,(v.1.1,()),())):Option (mY×(yc×yc×Unit))).bind fun a=>
bif a.1.1 then some ((false,()),())
else((aC Gs ((0,()),a.2)).bind fun d=>
aA d (fun e=>(some e)) (fun f=>(some ((true,()),()))))
def anT:Abs.Spec:=⟨0,⟨[0,1],(.dat Rj kS),.nil⟩,⟨[4],eH,.nil⟩,m17⟩
def apX:Nat→Abs.eX
 |0=>.mk (bf [(1,⟨[34,3,2],(.dat .bool (.st fV Xm)),(.box 4 kS Dg)⟩)]) bB (bf [(4,⟨⟨[5,3,2],(.dat aQ (.st fV Xm)),(.box 4 kS Dg)⟩,Ro4⟩)]) fw
 |_=>{}
theorem apa:dh 17 anT:=okW apX (aX apJ (aX aqo dI))
def FC(v:(iN×V9)):Option ((iN×V9)⊕(eF⊕(Unit×V9))):=
let a:=(decide (v.1.1<(v.2.2.1.1.2.2.2.2.1.length:Int)))
bif a then Abs.rowAt v.2.2.1.1.2.2.2.2.1 v.1.1 fun b _=>
Abs.rowAt v.2.1.1.2.2.2.2.1 v.1.1 fun c _=>
bif !(b.toList==c.toList)then some (.inr (.inl ((false,()),())))
else some (.inl ((aO (v.1.1+1),()),v.2))
else(some (.inr (.inr ((),v.2))))
def FE(v:(iN×V9)):Option ((iN×V9)⊕(eF⊕qR)):=
let a:=(decide (v.1.1<(v.2.2.1.1.2.2.2.2.2.1.length:Int)))
bif a then Abs.rowAt v.2.2.1.1.2.2.2.2.2.1 v.1.1 fun b _=>
Abs.rowAt v.2.1.1.2.2.2.2.2.1 v.1.1 fun c _=>
bif !(b.toList==c.toList)then some (.inr (.inl ((false,()),())))
else some (.inl ((aO (v.1.1+1),()),v.2))
else(some (.inr (.inr ((),()))))
def m55(v:((Gr×Gr×Unit)×Unit)):Option eF:=
((bif v.1.1.1 !=v.1.2.1.1 then some ((true,()),v.1.2,(v.1.1,()),())
else bif v.1.1.2.1 !=v.1.2.1.2.1 then some ((true,()),v.1.2,(v.1.1,()),())
else bif v.1.1.2.2.1 !=v.1.2.1.2.2.1 then some ((true,()),v.1.2,(v.1.1,()),())
else bif !(v.1.1.2.2.2.1.toList==v.1.2.1.2.2.2.1.toList)then some ((true,()),v.1.2,(v.1.1,()),())
else let b:=((v.1.1.2.2.2.2.1.length:Int) !=(v.1.2.1.2.2.2.2.1.length:Int))
bif b then some ((true,()),v.1.2,(v.1.1,()),())
else let c:=((v.1.1.2.2.2.2.2.1.length:Int) !=(v.1.2.1.2.2.2.2.2.1.length:Int))
some ((c,()),v.1.2,(v.1.1,()),())):Option (mY×V9)).bind fun a=>
bif a.1.1 then some ((false,()),())
else((aC FC ((0,()),a.2)).bind fun d=>
aA d (fun e=>(some e)) (fun f=>((aC FE ((0,()),f.2)).bind fun g=>
aA g (fun h=>(some h)) (fun j=>(some ((true,()),()))))))
def aot:Abs.Spec:=⟨0,⟨[0,1],(.dat yJ (.dat yJ .nil)),.nil⟩,⟨[4],eH,.nil⟩,m55⟩
def aoj:Nat→Abs.eX
 |0=>.mk (bf [(1,⟨[50,3,2],(.dat .bool aeb),acE⟩)]) bB (bf [(9,⟨⟨[6,3,2],(.dat aQ aeb),acE⟩,(.more .ret ⟨[4],eH,.nil⟩ (.one (.exit 2) ⟨[],.nil,.nil⟩))⟩),(4,⟨⟨[5,3,2],(.dat aQ aeb),acE⟩,(.more .ret ⟨[4],eH,.nil⟩ (.one (.exit 0) ⟨[3,2],aeb,acE⟩))⟩)]) fw
 |_=>{}
theorem aoE:dh 55 aot:=okW aoj dI
def FW(v:aeK):Option (aeK⊕(eF⊕qR)):=
let a:=(decide (v.1.1<(v.1.2.2.1.length:Int)))
bif a then Abs.rowAt v.1.2.2.1 v.1.1 fun b _=>
Abs.rowAt v.1.2.1 v.1.1 fun c _=>
(m55 ((b,c,()),())).bind fun d=>
bif !d.1.1 then some (.inr (.inl ((false,()),())))
else some (.inl ((aO (v.1.1+1),v.1.2),()))
else(some (.inr (.inr ((),()))))
def m18(v:((List Gr×List Gr×Unit)×Unit)):Option eF:=
let a:=((v.1.1.length:Int) !=(v.1.2.1.length:Int))
bif a then some ((false,()),())
else((aC FW ((0,v.1.2.1,v.1.1,()),())).bind fun b=>
aA b (fun c=>(some c)) (fun d=>(some ((true,()),()))))
def aoe:Abs.Spec:=⟨0,⟨[0,1],(.dat (.row yJ) (.dat (.row yJ) .nil)),.nil⟩,⟨[4],eH,.nil⟩,m18⟩
def apR:Nat→Abs.eX
 |0=>.mk bB bB (bf [(4,⟨⟨[5,1,0],(.dat aQ (.dat (.row yJ) (.dat (.row yJ) .nil))),.nil⟩,Ro4⟩)]) fw
 |_=>{}
theorem aqH:dh 18 aoe:=okW apR (aX aoE dI)
def Cy(v:((Int×kQ×Int×Unit)×Ra)):Option (((Int×kQ×Int×Unit)×Ra)⊕((iN×Ra)⊕(Unit×Ra))):=
bif decide (v.1.1<v.1.2.2.1)then Abs.rowAt v.1.2.1 v.1.1 fun a _=>
bif a.1==v.2.1.1 then some (.inr (.inl ((v.1.1,()),v.2)))
else some (.inl ((aO (v.1.1+1),v.1.2),v.2))
else(some (.inr (.inr ((),v.2))))
def m76(v:((kQ×Int×Int×Unit)×Unit)):Option IY:=
(m81 ((v.1.1,()),())).bind fun d=>
bif d.1.1 !=0 then some (d.1,[],())
else((((aC Cy ((0,v.1.1,(v.1.1.length:Int),()),(v.1.2.1,()),())).bind fun e=>
aA e (fun f=>(some ((f.1.1,v.1.2.2.1,v.1.1,()),()))) (fun j=>(some ((-1,v.1.2.2.1,v.1.1,()),())))):Option ((Int×Int×kQ×Unit)×Unit)).bind fun a=>
bif decide (a.1.1<0)then some ((3,()),[],())
else Abs.rowAt a.1.2.2.1 a.1.1 fun g _=>
bif decide (g.2.2.1≤a.1.2.1)then some ((9,()),[],())
else(Rp (a.1.2.2,())).bind fun b=>
bif decide (0≤a.1.1∧a.1.1<b.2.1.length)then
(b.2.1[a.1.1.toNat]?).bind fun h=>
bif decide (h.2.1≥a.1.2.1)then bif decide (0≤a.1.1∧a.1.1<(aO (a.1.1+1))∧((aO (a.1.1+1)):Int)≤b.2.1.length∧b.2.1.length≤4294967296)then
bif decide (b.2.1.length=b.2.1.length)&&true then
some ((0,()),b.2.1.take a.1.1.toNat++b.2.1.drop (aO (a.1.1+1)).toNat,())
else none
else none
else bif decide (0≤a.1.1∧a.1.1<b.2.1.length)then
(b.2.1[a.1.1.toNat]?).bind fun c=>
some ((0,()),b.2.1.set a.1.1.toNat (c.1,c.2.1,a.1.2.1,c.2.2.2),())
else none
else none)
def aof:Abs.Spec:=⟨0,⟨[0,1,2],(.dat J9 l9),.nil⟩,⟨[6,7],QW,nJ⟩,m76⟩
def aoT:Nat→Abs.eX
 |0=>.mk (bf [(4,⟨[9,2,0],(.dat aQ (.dat aQ Oe)),.nil⟩)]) bB bB (fun
  |4,2=>1
  |_,_=>0)
 |1=>.mk bB bB (bf [(2,⟨⟨[8,0,1,7],(.dat aQ (.dat J9 (.st (.clo 137 [((0,0),1,0,0)]) cZ))),Wy⟩,(.more .ret ⟨[4],cZ,Wy⟩ (.one (.exit 0) ⟨[],.nil,Wy⟩))⟩)]) (fun
  |4,5=>2
  |_,_=>0)
 |_=>{}
theorem apU:dh 76 aof:=okW aoT (aX ahC (aX aaP dI))
def acA(v:VU):Option (VU⊕(uo⊕qR)):=
bif decide (v.1.1<v.1.2.2.1)then Abs.rowAt v.1.2.1 v.1.1 fun a _=>
(aeh ((a,()),())).bind fun b=>
bif b.1.1 then some (.inr (.inl ((v.1.1,()),())))
else some (.inl ((aO (v.1.1+1),v.1.2),()))
else(some (.inr (.inr ((),()))))
def Vh(v:KQ):Option (KQ⊕(Unit×JU)):=
bif decide (v.1.1<v.1.2.2.1)then((bif decide (0≤v.1.1∧v.1.1<v.2.2.1.length)then
(v.2.2.1[v.1.1.toNat]?).bind fun b=>
(((((aC acA ((0,b.2.2.1,(b.2.2.1.length:Int),()),())).bind fun e=>
aA e (fun f=>(some ((decide (f.1.1≥0),()),()))) (fun h=>(some ((false,()),())))):Option eF).bind fun g=>
bif g.1.1 then bif b.2.2.2.1==(-1)then some ((true,v.1.2.1,v.1.2.2.1,v.1.1,v.1.1,()),v.2)
else some ((decide (b.2.2.2.1>v.1.2.1),v.1.2.1,v.1.2.2.1,v.1.1,v.1.1,()),v.2)
else some ((false,v.1.2.1,v.1.2.2.1,v.1.1,v.1.1,()),v.2)):Option (aal×JU)).bind fun a=>
bif a.1.1 then bif decide (0≤a.1.2.2.2.2.1∧a.1.2.2.2.2.1<a.2.2.1.length)then
(a.2.2.1[a.1.2.2.2.2.1.toNat]?).bind fun c=>
some ((a.1.2.1,a.1.2.2.1,a.1.2.2.2.1,()),a.2.1,a.2.2.1.set a.1.2.2.2.2.1.toNat (c.1,c.2.1,c.2.2.1,a.1.2.1,c.2.2.2.2),a.2.2.2)
else none
else some ((a.1.2.1,a.1.2.2.1,a.1.2.2.2.1,()),a.2)
else none):Option KQ).bind fun d=>
some (.inl ((aO (d.1.2.2.1+1),d.1.1,d.1.2.1,()),d.2))
else(some (.inr ((),v.2)))
def m29(v:YL):Option (iN×JU):=
(m36 ((v.1.1,v.1.2.1,()),())).bind fun d=>
bif !d.1.1 then some ((8,()),((0,0,()),()),[],[],())
else((m76 ((v.1.2.1.2.2.1,v.1.2.2.1,v.1.2.1.1,()),())).bind fun b=>
bif b.1.1 !=0 then some (b.1,((0,0,()),()),[],[],())
else(m64 ((v.1.2.1,()),())).bind fun a=>
let e:=(if(8589934592:Int)<(aO (a.2.1.1.1+1))then 8589934592 else aO (a.2.1.1.1+1))
(aC Vh ((0,e,((a.2.2.1.length:Nat):Int),()),a.2.1,a.2.2.1,b.2)).bind fun c=>
bif decide (c.2.2.1.length=a.2.2.1.length)&&(decide (c.2.2.2.1.length=b.2.1.length)&&true)then
some ((0,()),c.2)
else none)
def ap0:Abs.Spec:=⟨0,⟨[0,1,2],YO,.nil⟩,⟨[6,7],Ng,DT⟩,m29⟩
def aol:Nat→Abs.eX
 |0=>.mk bB bB bB (fun
  |8,4=>1
  |_,_=>0)
 |1=>.mk (bf [(3,⟨[29,1,0,9,10,11,4],afh,DT⟩)]) (bf [(5,(⟨[1,0,9,10,11],(.dat aQ (.st fV (.st Hg l9))),DT⟩,none))]) (bf [(1,⟨⟨[11,1,0,9,10],aev,DT⟩,(.one (.exit 0) ⟨[],.nil,DT⟩)⟩)]) (fun
  |3,2=>2
  |_,_=>0)
 |2=>.mk (bf [(1,⟨[4],eH,.nil⟩)]) bB bB (fun
  |1,2=>3
  |_,_=>0)
 |3=>.mk bB bB (bf [(2,⟨⟨[8,0,1,7],amK,.nil⟩,Ro3⟩)]) fw
 |_=>{}
theorem anV:dh 29 ap0:=okW aol (aX VN (aX apU (aX acw (aX aeQ dI))))
def Gm(v:((Int×Int×Bool×Unit)×Sw)):Option (((Int×Int×Bool×Unit)×Sw)⊕Vr):=
let d:=(decide (v.1.1<(v.2.1.1.2.1.length:Int)))
bif d then((Abs.rowAt v.2.1.1.2.1 v.1.1 fun b _=>
((bif b.2.2.2.1 !=(-1)then bif !v.1.2.2.1 then some ((true,v.1.1,b.2.2.2.1,v.1.2),v.2)
else some ((decide (b.2.2.2.1<v.1.2.1),v.1.1,b.2.2.2.1,v.1.2),v.2)
else some ((false,v.1.1,b.2.2.2.1,v.1.2),v.2)):Option ((Bool×Int×Int×Int×Bool×Unit)×Sw)).bind fun a=>
bif a.1.1 then some ((a.1.2.2.1,true,a.1.2.1,()),a.2)
else some ((a.1.2.2.2.1,a.1.2.2.2.2.1,a.1.2.1,()),a.2)):Option (YT×Sw)).bind fun c=>
some (.inl ((aO (c.1.2.2.1+1),c.1.1,c.1.2.1,()),c.2))
else(some (.inr ((v.1.2.2.1,v.1.2.1,()),())))
def m46(v:(yc×Unit)):Option Wv:=
(aC Gm ((0,0,false,()),v)).bind fun a=>
some ((a.1.2.1,a.1.1,()),())
def apS:Abs.Spec:=⟨0,⟨[0],kS,.nil⟩,⟨[2,3],Ic,.nil⟩,m46⟩
def aoB:Nat→Abs.eX
 |0=>.mk (bf [(6,⟨[31,1,6,7,4,5],(.dat .bool (.st fV (.dat aQ (.dat aQ Ic)))),Dg⟩)]) (bf [(4,(⟨[4,5,1,6],(.dat aQ (.dat .bool Ng)),Dg⟩,none))]) (bf [(3,⟨⟨[6,4,5,1],(.dat aQ (.dat aQ (.dat .bool SQ))),Dg⟩,(.one (.exit 0) ⟨[5,4],NC,.nil⟩)⟩)]) fw
 |_=>{}
theorem anW:dh 46 apS:=okW aoB dI
def Aj(v:ajj):Option (ajj⊕(eF⊕(agK×Y23))):=
bif decide (v.1.1<3)then Abs.rowAt ([v.1.2.1.1,v.1.2.1.2.1,v.1.2.1.2.2.1]:List Jc) v.1.1 fun d _=>
(m27 ((v.2.2.1.1,v.2.1.1,d,()),())).bind fun a=>
(m41 ((v.2.2.1.1,v.2.1.1,d,()),())).bind fun c=>
((bif decide (a.2.1.1.2.1.1+a.2.1.1.2.1.2≤a.2.2.1.length)then
(m17 (((a.2.1.1.1,(a.2.2.1.drop a.2.1.1.2.1.1).take a.2.1.1.2.1.2,a.2.2.2.1,a.2.1.1.2.2),(c.2.1.1.1,c.2.2.1,c.2.1.1.2),()),())).bind fun e=>
bif !e.1.1 then some ((true,v.1.2.1,v.1.2.2.1,v.1.2.2.2.1,v.1.2.2.2.2.1,v.1.2.2.2.2.2.1,v.1.2.2.2.2.2.2.1,v.1.2.2.2.2.2.2.2.1,v.1.1,()),v.2)
else some ((a.1.1 !=c.1.1,v.1.2.1,v.1.2.2.1,v.1.2.2.2.1,v.1.2.2.2.2.1,v.1.2.2.2.2.2.1,v.1.2.2.2.2.2.2.1,v.1.2.2.2.2.2.2.2.1,v.1.1,()),v.2)
else none):Option ((Bool×(Jc×Jc×Jc×Unit)×Int×LM×Jk×Int×Int×Int×Int×Unit)×Y23)).bind fun b=>
bif b.1.1 then some (.inr (.inl ((false,()),())))
else some (.inl ((aO (b.1.2.2.2.2.2.2.2.2.1+1),b.1.2.1,b.1.2.2.1,b.1.2.2.2.1,b.1.2.2.2.2.1,b.1.2.2.2.2.2.1,b.1.2.2.2.2.2.2.1,b.1.2.2.2.2.2.2.2.1,()),b.2))
else(some (.inr (.inr (v.1.2.2,v.2))))
def Ak(v:aff):Option (aff⊕(eF⊕(agK×Y23))):=
bif decide (v.1.1<3)then Abs.rowAt ([v.1.2.1.1,v.1.2.1.2.1,v.1.2.1.2.2.1]:List Int) v.1.1 fun d _=>
(m28 ((v.2.2.1.1,v.2.1.1,d,()),())).bind fun a=>
(m42 ((v.2.2.1.1,v.2.1.1,d,()),())).bind fun c=>
((bif decide (a.2.1.1.2.1.1+a.2.1.1.2.1.2≤a.2.2.2.1.length)then
(m17 (((a.2.1.1.1,(a.2.2.2.1.drop a.2.1.1.2.1.1).take a.2.1.1.2.1.2,a.2.2.2.2.1,a.2.1.1.2.2),(c.2.1.1.1,c.2.2.2.1,c.2.1.1.2),()),())).bind fun e=>
bif !e.1.1 then some ((true,v.1.2.1,v.1.2.2.1,v.1.2.2.2.1,v.1.2.2.2.2.1,v.1.2.2.2.2.2.1,v.1.2.2.2.2.2.2.1,v.1.2.2.2.2.2.2.2.1,v.1.1,()),v.2)
else(m18 ((a.2.2.1,c.2.2.1,()),())).bind fun f=>
bif !f.1.1 then some ((true,v.1.2.1,v.1.2.2.1,v.1.2.2.2.1,v.1.2.2.2.2.1,v.1.2.2.2.2.2.1,v.1.2.2.2.2.2.2.1,v.1.2.2.2.2.2.2.2.1,v.1.1,()),v.2)
else some ((a.1.1 !=c.1.1,v.1.2.1,v.1.2.2.1,v.1.2.2.2.1,v.1.2.2.2.2.1,v.1.2.2.2.2.2.1,v.1.2.2.2.2.2.2.1,v.1.2.2.2.2.2.2.2.1,v.1.1,()),v.2)
else none):Option ((Bool×J7×Int×LM×Jk×Int×Int×Int×Int×Unit)×Y23)).bind fun b=>
bif b.1.1 then some (.inr (.inl ((false,()),())))
else some (.inl ((aO (b.1.2.2.2.2.2.2.2.2.1+1),b.1.2.1,b.1.2.2.1,b.1.2.2.2.1,b.1.2.2.2.2.1,b.1.2.2.2.2.2.1,b.1.2.2.2.2.2.2.1,b.1.2.2.2.2.2.2.2.1,()),b.2))
else(some (.inr (.inr (v.1.2.2,v.2))))
def CQ(v:aeJ):Option (aeJ⊕(eF⊕(agK×al9))):=
bif decide (v.1.1<2)then Abs.rowAt ([v.1.2.1.1,v.1.2.1.2.1]:List Ol) v.1.1 fun d _=>
(m25 ((v.2.2.1.1,v.2.1.1,d,()),())).bind fun b=>
(m44 ((v.2.2.1.1,v.2.1.1,d,()),())).bind fun c=>
(((m17 (((b.2.1.1.1,b.2.2.1,b.2.2.2.1,b.2.1.1.2),(c.2.1.1.1,c.2.2.1,c.2.2.2.1,c.2.1.1.2),()),())).bind fun e=>
bif !e.1.1 then some ((true,v.1.2.1,v.1.2.2.1,v.1.2.2.2.1,v.1.2.2.2.2.1,v.1.2.2.2.2.2.1,v.1.2.2.2.2.2.2.1,v.1.2.2.2.2.2.2.2.1,v.1.1,()),v.2)
else bif b.1.1 !=c.1.1 then some ((true,v.1.2.1,v.1.2.2.1,v.1.2.2.2.1,v.1.2.2.2.2.1,v.1.2.2.2.2.2.1,v.1.2.2.2.2.2.2.1,v.1.2.2.2.2.2.2.2.1,v.1.1,()),v.2)
else some ((b.1.2.1 !=c.1.2.1,v.1.2.1,v.1.2.2.1,v.1.2.2.2.1,v.1.2.2.2.2.1,v.1.2.2.2.2.2.1,v.1.2.2.2.2.2.2.1,v.1.2.2.2.2.2.2.2.1,v.1.1,()),v.2)):Option ((Bool×(Ol×Ol×Unit)×Int×LM×Jk×Int×Int×Int×Int×Unit)×Y23)).bind fun a=>
bif a.1.1 then some (.inr (.inl ((false,()),())))
else some (.inl ((aO (a.1.2.2.2.2.2.2.2.2.1+1),a.1.2.1,a.1.2.2.1,a.1.2.2.2.1,a.1.2.2.2.2.1,a.1.2.2.2.2.2.1,a.1.2.2.2.2.2.2.1,a.1.2.2.2.2.2.2.2.1,()),a.2))
else(some (.inr (.inr (v.1.2.2,v.2.2))))
def Al(v:afr):Option (afr⊕(eF⊕((Int×Jk×Int×Int×Unit)×ah8))):=
bif decide (v.1.1<2)then Abs.rowAt ([v.1.2.2.1.1,v.1.2.2.1.2.1]:List TI) v.1.1 fun e _=>
(m36 ((v.2.1.1,e,()),())).bind fun k=>
(m37 ((v.2.1.1,e,()),())).bind fun l=>
bif !(k.1.1==l.1.1)then some (.inr (.inl ((false,()),())))
else(GA ((50,()),v.2.2.1,())).bind fun f=>
(m39 ((),f.2)).bind fun g=>
(m40 ((2,()),g.2.1,())).bind fun h=>
(aC Aj ((0,(v.2.2.2.2.1.1,(aO (e.1+f.1.1),g.2.2.1,h.1),(aO (e.1-1),[],true,()),()),v.1.2.1,v.1.2.2.1,v.1.2.2.2.1,v.1.2.2.2.2.1,v.1.2.2.2.2.2.1,v.1.1,()),(e,()),v.2.1,h.2.1,v.2.2.2)).bind fun m=>
aA m (fun n=>(some (.inr (.inl n)))) (fun a=>((m32 (([0,30,400,5000],()),a.2.2.2.1,())).bind fun j=>
(aC Ak ((0,(a.1.1,aO (a.2.1.1.1+j.1.1),a.2.1.1.1,()),a.1),a.2.1,a.2.2.1,j.2.1,a.2.2.2.2)).bind fun o=>
aA o (fun p=>(some (.inr (.inl p)))) (fun c=>((m43 ((0,()),c.2.2.2.1,())).bind fun d=>
(aC CQ ((0,(c.2.2.2.2.1.1,(d.2.2.1.1.1,d.2.2.1.1.2.1,d.2.2.1.1.2.2.1,d.2.2.1.1.2.2.2.1,d.2.2.2),()),c.1),c.2.1,c.2.2.1,d.2.1,c.2.2.2.2)).bind fun q=>
aA q (fun r=>(some (.inr (.inl r)))) (fun b=>(some (.inl ((aO (b.1.2.2.2.2.2.1+1),b.1.1,b.1.2.1,b.1.2.2.1,b.1.2.2.2.1,b.1.2.2.2.2.1,()),b.2))))))))
else(some (.inr (.inr ((v.1.2.1,v.1.2.2.2),v.2.2))))
def BR(v:((Int×Int×Jk×Int×Unit)×ah8)):Option (((Int×Int×Jk×Int×Unit)×ah8)⊕(eF⊕(iN×ab2))):=
bif decide (v.1.2.1<3)then Abs.rowAt ([v.1.2.2.1.1,v.1.2.2.1.2.1,v.1.2.2.1.2.2.1]:List Y8) v.1.2.1 fun b _=>
(m34 ((b,()),())).bind fun c=>
(m35 ((b,()),())).bind fun d=>
bif c.1.1 !=d.1.1 then some (.inr (.inl ((false,()),())))
else(aC Al ((0,v.1.1,(v.2.2.2.2.2.1.1,v.2.2.2.2.1),v.1.2.2.1,v.1.2.2.2.1,v.1.2.1,()),(b,()),v.2)).bind fun e=>
aA e (fun f=>(some (.inr (.inl f)))) (fun a=>(some (.inl ((a.1.1,aO (a.1.2.2.2.1+1),a.1.2.1,a.1.2.2.1,()),a.2))))
else(some (.inr (.inr (v.1.2.2.2,v.2.2.2.2.2))))
def Bu(v:((Int×J7×Unit)×ab2)):Option (((Int×J7×Unit)×ab2)⊕(eF⊕agi)):=
bif decide (v.1.1<3)then Abs.rowAt ([v.1.2.1.1,v.1.2.1.2.1,v.1.2.1.2.2.1]:List Int) v.1.1 fun d _=>
(m29 (((v.2.2.2.1,v.2.2.2.2.1,v.2.2.1.1),v.2.1.1,d,()),())).bind fun a=>
(m45 (((v.2.2.2.1,v.2.2.2.2.1,v.2.2.1.1),v.2.1.1,d,()),())).bind fun b=>
(((m17 (((a.2.1.1.1,a.2.2.1,a.2.2.2.1,a.2.1.1.2),(b.2.1.1.1,b.2.2.1,b.2.2.2.1,b.2.1.1.2),()),())).bind fun e=>
bif !e.1.1 then some ((true,v.1.2.1,v.1.1,()),v.2)
else some ((a.1.1 !=b.1.1,v.1.2.1,v.1.1,()),v.2)):Option ((Bool×J7×Int×Unit)×ab2)).bind fun c=>
bif c.1.1 then some (.inr (.inl ((false,()),())))
else some (.inl ((aO (c.1.2.2.1+1),c.1.2.1,()),c.2))
else(some (.inr (.inr ((),v.2.1,()))))
def BL(v:((Int×List fe×Int×Unit)×aai)):Option (((Int×List fe×Int×Unit)×aai)⊕(eF⊕qR)):=
bif decide (v.1.1<v.1.2.2.1)then Abs.rowAt v.1.2.1 v.1.1 fun a _=>
bif decide (0≤v.1.1∧v.1.1<v.2.1.length)then
(v.2.1[v.1.1.toNat]?).bind fun b=>
(m49 ((a,b,()),())).bind fun c=>
bif !c.1.1 then some (.inr (.inl ((false,()),())))
else some (.inl ((aO (v.1.1+1),v.1.2),v.2))
else none
else(some (.inr (.inr ((),()))))
def m7(v:((List Int×Jc×Ol×Int×Int×Unit)×Unit)):Option eF:=
(((m9 ((v.1.1,()),())).bind fun p=>
bif !p.1.1 then some ((true,v.1.2.2.2.1,v.1.2.2.2.2.1,v.1.1,()),(v.1.2.2.1,()),(v.1.2.1,()),())
else let q:=(decide ((v.1.2.1.2.1.length:Int)>20))
bif q then some ((true,v.1.2.2.2.1,v.1.2.2.2.2.1,v.1.1,()),(v.1.2.2.1,()),(v.1.2.1,()),())
else let r:=(decide ((v.1.2.2.1.2.2.2.2.1.length:Int)>20))
some ((r,v.1.2.2.2.1,v.1.2.2.2.2.1,v.1.1,()),(v.1.2.2.1,()),(v.1.2.1,()),())):Option ((Bool×Int×Int×List Int×Unit)×(Mq×(Jc×Unit)×Unit))).bind fun c=>
bif c.1.1 then(m10 ((),())).bind fun s=>
some s
else((m11 (c.1.2.2.2,())).bind fun t=>
(m12 ((3,()),t.2)).bind fun a=>
(m31 (((a.2.2.2.1,a.2.2.2.2.1,a.2.2.1.1),8,()),a.2.1,())).bind fun e=>
(m12 ((2,()),e.2.1,())).bind fun d=>
(m32 (([(-1),0,604800,604801],()),d.2.1,())).bind fun h=>
(m32 (([0,1,2,8589934592],()),h.2)).bind fun j=>
(m26 ((),())).bind fun k=>
(m33 ((),())).bind fun l=>
(m17 (((k.2.1.1.1,[],[],k.2.1.1.2),(l.2.1.1.1,[],[],l.2.1.1.2),()),())).bind fun u=>
bif !u.1.1 then some ((false,()),())
else(aC BR ((c.1.2.1,0,((a.2.2.2.1,a.2.2.2.2.1,a.2.2.1.1),(d.2.2.2.1,d.2.2.2.2.1,d.2.2.1.1),(d.2.2.2.1,d.2.2.2.2.1,h.1),()),c.1.2.2.1,()),j.2.1,c.2.1,c.2.2.1,((e.2.2.1.1.1,e.2.2.1.1.2.1,e.2.2.1.1.2.2.1,j.1),()),e.2.2.1,a.2.2)).bind fun w=>
aA w (fun x=>(some x)) (fun m=>((aC Bu ((0,(m.1.1,1,2,()),()),m.2)).bind fun y=>
aA y (fun z=>(some z)) (fun b=>((m30 b.2).bind fun n=>
(m46 b.2).bind fun o=>
bif wE b.2.1.1.2.1 then
(m48 b.2).bind fun f=>
((bif n.1.1 !=o.1.1 then some ((true,jD b.2.1.1.2.1,()),f.2)
else bif !(n.1.2.1==o.1.2.1)then some ((true,jD b.2.1.1.2.1,()),f.2)
else let aa:=((((jD b.2.1.1.2.1).length:Int):Int) !=((f.2.1.length:Nat):Int))
some ((aa,jD b.2.1.1.2.1,()),f.2)):Option ((Bool×List fe×Unit)×aai)).bind fun g=>
bif g.1.1 then some ((false,()),())
else(aC BL ((0,g.1.2.1,(g.1.2.1.length:Int),()),g.2)).bind fun ab=>
aA ab (fun ac=>(some ac)) (fun ae=>((m10 ((),())).bind fun ad=>
some ad))
else none)))))
def sp7:Abs.Spec:=⟨0,⟨[0,1,2,3,4],(.dat rIz (.dat Rh (.dat Z6 l9))),.nil⟩,⟨[10],eH,.nil⟩,m7⟩
def an7:Nat→Abs.eX
 |0=>.mk (bf [(60,⟨[305,54,53],(.dat .bool (.st EY (.dat qw .nil))),ZC⟩),(54,⟨[275,13,12,249,250],(.dat .bool (.st fV (.st qi (.dat ac5 cZ)))),aiz⟩),(44,⟨[244,20,18,211,11,7,3,6,109,16,13,98,12,4,99,110,212],(.dat .bool (.st fV (.st qi (.dat (.cons Z6 (.cons Z6 .unit)) agH)))),Qb6⟩),(36,⟨[206,20,18,172,11,7,3,6,109,16,13,98,12,4,99,110,173],(.dat .bool (.st fV (.st qi (.dat ac5 agH)))),Qb6⟩),(28,⟨[161,20,18,135,11,7,3,6,109,16,13,98,12,4,99,110,136],(.dat .bool (.st fV (.st qi (.dat (.cons Rh (.cons Rh (.cons Rh .unit))) agH)))),Qb6⟩),(1,⟨[70,7,3,6,4,0],(.dat .bool (.st gQ (.dat aQ (.st qi (.dat aQ (.dat rIz .nil)))))),(.box 5 Fq (.box 3 GX .nil))⟩)]) bB (bf [(63,⟨⟨[308,54,53,307],(.dat aQ (.st EY (.dat qw cZ))),ZC⟩,(.more .ret ⟨[10],eH,.nil⟩ (.one (.exit 12) ⟨[],.nil,.nil⟩))⟩),(50,⟨⟨[250,13,12,249],(.dat aQ (.st fV (.st qi (.dat ac5 .nil)))),aiz⟩,(.more .ret ⟨[10],eH,.nil⟩ (.one (.exit 10) ⟨[13],SQ,Dg⟩))⟩),(14,⟨⟨[11,7,3,6,99,16,13,98,12,4],(.st zi (.st rW (.dat aQ (.st kT (.dat aQ (.st yM (.st G9 (.dat abt (.st (.ptr (5,0) 3 0 0) cZ))))))))),Rb6⟩,(.more .ret ⟨[10],eH,.nil⟩ (.one (.exit 0) ⟨[13,12,4],(.st fV (.st qi cZ)),aiz⟩))⟩),(19,⟨⟨[18,110,11,7,3,6,109,16,13,98,12,4,99],(.st Dq (.dat aQ (.st (.ptr (1,0) 2 0 0) (.st p8 (.dat aQ (.st Oh (.dat (.cons Rj (.cons Rj .unit)) (.st G9 (.st WK (.dat abt (.st (.ptr (6,0) 3 0 0) l9))))))))))),Rb5⟩,(.more .ret ⟨[10],eH,.nil⟩ (.one (.exit 2) ⟨[11,7,3,6,16,13,98,12,4,99],(.st zi (.st rW (.dat aQ (.st kT (.st yM (.st G9 (.dat abt (.st (.ptr (5,0) 3 0 0) l9)))))))),Rb6⟩))⟩),(40,⟨⟨[212,20,18,211,11,7,3,6,109,16,13,98,12,4,99,110],(.dat aQ (.st fV (.st qi (.dat (.cons Z6 (.cons Z6 .unit)) Yk)))),Qb6⟩,(.more .ret ⟨[10],eH,.nil⟩ (.one (.exit 8) ⟨[18,11,7,3,6,109,16,13,98,12,4,99,110],(.st Dq (.st (.ptr (1,0) 2 0 0) (.st p8 (.dat aQ (.st Oh (.dat (.cons Rj (.cons Rj .unit)) (.st G9 (.st WK (.dat abt (.st (.ptr (6,0) 3 0 0) DN)))))))))),Rb5⟩))⟩),(32,⟨⟨[173,20,18,172,11,7,3,6,109,16,13,98,12,4,99,110],(.dat aQ (.st fV (.st qi (.dat ac5 Yk)))),Qb6⟩,(.more .ret ⟨[10],eH,.nil⟩ (.one (.exit 6) ⟨[20,18,11,7,3,6,109,16,13,98,12,4,99,110],(.st fV (.st qi Yk)),Qb6⟩))⟩),(24,⟨⟨[136,20,18,135,11,7,3,6,109,16,13,98,12,4,99,110],(.dat aQ (.st fV (.st qi (.dat (.cons Rh (.cons Rh (.cons Rh .unit))) Yk)))),Qb6⟩,(.more .ret ⟨[10],eH,.nil⟩ (.one (.exit 4) ⟨[20,18,11,7,3,6,109,16,13,98,12,4,99,110],(.st fV (.st qi Yk)),Qb6⟩))⟩)]) fw
 |_=>{}
theorem ok7:dh 7 sp7:=okW an7 (aX ok9 (aX aoR (aX aqE (aX aoV (aX aoZ (aX ok32 (aX ah9 (aX amG (aX apa (aX abl (aX anb (aX VN (aX Zm (aX IU (aX akY (aX ag5 (aX aiJ (aX am8 (aX amD (aX amh (aX aqH (aX alW (aX ajG (aX aju (aX anV (aX ak6 (aX aik (aX anW (aX anQ (aX ajs dI))))))))))))))))))))))))))))))
end
end Go.Proofs.YtchnmpafhfjimaaGreatDoor
namespace Go.Proofs.YtchnmpafhfjimaaGreatDoor
open Go Go.Abs Go.Lab
theorem sS:(∀h:Decidable True,@decide True h=true)∧(∀h:Decidable False,@decide False h=false)∧(∀{α:Type} (a b:α),cond true a b=a)∧(∀{α:Type} (a b:α),cond false a b=b)∧(∀{α β:Type} (a:α) (f:α→Option β),(some a).bind f=f a)∧(!true)=false∧(!false)=true∧(∀b:Bool,(true&&b)=b)∧(∀b:Bool,(b&&true)=b)∧(∀b:Bool,(false&&b)=false)∧(∀b:Bool,(b&&false)=false)∧(∀{α:Type} [BEq α] [LawfulBEq α] (a:α),(a==a)=true)∧(∀{α:Type} [BEq α] [LawfulBEq α] (a:α),(a !=a)=false):=
 ⟨fun _=>as4 _,fun _=>asB _,fun _ _=>rfl,fun _ _=>rfl,fun _ _=>rfl,rfl,rfl,arU,Bool.and_true,asv,Bool.and_false,fun _=>asu _,fun _=>arN _⟩
def q8{A B:Type}(l:List A)(n:Int)(F:A→Option B):Option B:=bif decide (0≤n)then(l[n.toNat]?).bind F else none
theorem aJ{A B:Type}{l:List A}{n:Int}(F:A→Option B):Abs.rowAt l n (fun e _=>F e)=q8 l n F:=by
 unfold Abs.rowAt q8;cases l[n.toNat]?<;>rfl
theorem aD{A B:Type}{l:List A}{i:Nat}{e:A}(h:l[i]?=some e)(F:A→Option B):q8 l (i:Int) F=F e:=by
 unfold q8;rw[show decide (0≤(i:Int))=true from arj (by omega),arn,h];rfl
theorem ic{A B:Type}{l:List A}{n:Int}{e:A}(h0:0≤n)(h:l[n.toNat]?=some e)(F:A→Option B):q8 l n F=F e:=by
 unfold q8;rw[show decide (0≤n)=true from arj h0,h];rfl
theorem aI{i:Nat}(h:i<9223372036854775807):aO ((i:Int)+1)=((i+1:Nat):Int):=by rw[bI (by omega) (by omega)];omega
theorem drop_at{A:Type}{l:List A}{i:Nat}(h:i<l.length):∃e,l[i]?=some e∧l.drop i=e::l.drop (i+1):=
 ⟨l[i],arw h,List.drop_eq_getElem_cons h⟩
theorem getD_some{A:Type}{l:List A}{i:Nat}(h:i<l.length):∃e,l[i]?=some e:=⟨_,arw h⟩
theorem aN{A B:Type}{o:Option A}{f:A→Option B}{y:Option B}(x:A)(h:o=some x)(h2:f x=y):o.bind f=y:=by rw[h];exact h2
theorem dY(a b:Int):(a==b)=decide (a=b):=by
 by_cases h:a=b<;>simp[h]
abbrev bl(s:ByteArray):List UInt8:=s.data.toList
theorem bJ(s:ByteArray):(bl s).length=s.size:=Array.length_toList
theorem Pd(s:ByteArray)(i:Nat):(s[i]?:Option UInt8)=(bl s)[i]?:=by
 rw[Array.getElem?_toList];by_cases h:i<s.size
 ·rw[getElem?_pos s i h,getElem?_pos s.data i h];rfl
 ·rw[getElem?_neg s i h,getElem?_neg s.data i h]
theorem bg(s:ByteArray):s.toList=bl s:=ByteArray.toList_eq s
theorem Hf{s t:ByteArray}(h:bl s=bl t):s=t:=ByteArray.ext (Array.toList_inj.1 h)
theorem KG(l:List UInt8):bl (gM l)=l:=rfl
theorem Jt:bl ByteArray.empty=[]:=rfl
theorem gB(s t:ByteArray):(bl s==bl t)=decide (s=t):=by
 by_cases h:s=t
 ·subst h;simp
 ·have:bl s≠bl t:=fun e=>h (Hf e)
  rw[arl h];exact ar7.2 this
theorem size_mk(l:List UInt8):(gM l).size=l.length:=rfl
theorem o8(s:ByteArray)(a b:Nat):bl (s.extract a b)=((bl s).drop a).take (b-a):=by
 exact Lib.extract_data s a b
abbrev LT:Type:=ByteArray×ByteArray×Unit
abbrev MT:Type:=ByteArray×Int×ByteArray×Unit
def u8(c:UInt8):Int:=((c.toNat:Nat):Int)
theorem IX(c:UInt8):jE c=((decide (97≤u8 c)&&decide (u8 c≤122))||(decide (48≤u8 c)&&decide (u8 c≤57))||u8 c==95):=by
 have e:(c==95)=(u8 c==95):=by
  by_cases h:c=95
  ·subst h;rfl
  ·have:u8 c≠95:=fun e=>h (UInt8.toNat_inj.1 (by unfold u8 at e;show c.toNat=95;omega))
   rw[ar7.2 h,ar7.2 this]
 unfold jE;rw[e];have le:∀(n:UInt8),decide (n≤c)=decide ((n.toNat:Int)≤u8 c):=fun n=>asz.2 (by rw[UInt8.le_iff_toNat_le];unfold u8;omega)
 have ge:∀(n:UInt8),decide (c≤n)=decide (u8 c≤(n.toNat:Int)):=fun n=>asz.2 (by rw[UInt8.le_iff_toNat_le];unfold u8;omega)
 rw[le,ge,le,ge];rfl
theorem Sz(c:UInt8):(decide (32≤c)&&decide (c≤126))=(decide (32≤u8 c)&&decide (u8 c≤126)):=by
 have le:∀(n:UInt8),decide (n≤c)=decide ((n.toNat:Int)≤u8 c):=fun n=>asz.2 (by rw[UInt8.le_iff_toNat_le];unfold u8;omega)
 have ge:∀(n:UInt8),decide (c≤n)=decide (u8 c≤(n.toNat:Int)):=fun n=>asz.2 (by rw[UInt8.le_iff_toNat_le];unfold u8;omega)
 rw[le,ge];rfl
theorem byte_at{s:ByteArray}{i:Nat}{c:UInt8}(h:(bl s)[i]?=some c):(((s[(i:Int).toNat]?.getD 0).toNat:Nat):Int)=u8 c:=by
 rw[arn,Pd,h];rfl
theorem KV(a b:Int):decide (a<b)= !decide (b≤a):=by
 by_cases h:a<b
 ·rw[arj h,arl (by omega)];rfl
 ·rw[arl h,arj (by omega)];rfl
theorem EI(a b:Int):decide (a>b)= !decide (a≤b):=by
 by_cases h:a>b
 ·rw[arj h,arl (by omega)];rfl
 ·rw[arl h,arj (by omega)];rfl
theorem aht(s:ByteArray)(hs:s.size≤9223372036854775807):∀(k i:Nat),i+k=s.size→
  aC vW (((i:Int),s,(s.size:Int),()),())=some (if((bl s).drop i).all jE then .inr ((),())else .inl ((false,()),())):=by
 intro k
 induction k with
 |zero=>
  intro i h;rw[arI (by rw[bJ];omega)];refine aF ?_;have:¬(i:Int)<(s.size:Int):=by omega
  simp only[vW,arl this,aA,sS,List.all_nil,if_true]
 |succ k ih=>
  intro i h;obtain⟨c,hc,hd⟩:=drop_at (l:=bl s) (i:=i) (by rw[bJ];omega);have hlt:decide ((i:Int)<(s.size:Int))=true:=arj (by omega);have hbd:decide ((0:Int)≤(i:Int)∧(i:Int)<(s.size:Int))=true:=arj (by omega);rw[hd,List.all_cons]
  have hstep:vW (((i:Int),s,(s.size:Int),()),())=if jE c then some (.inl ((aO ((i:Int)+1),s,(s.size:Int),()),()))else some (.inr (.inl ((false,()),()))):=by
   rw[IX];simp only[vW,hlt,hbd,byte_at hc,aA,sS,KV,EI,bne];cases decide (97≤u8 c)<;>cases decide (u8 c≤122)<;>cases decide (48≤u8 c)<;>cases decide (u8 c≤57)<;>cases (u8 c==95)<;>rfl
  cases hk:jE c
  ·rw[hk]at hstep;exact aF hstep
  ·rw[hk,aI (by omega)]at hstep;rw[aH hstep,ih (i+1) (by omega)];rfl
theorem TA{s:ByteArray}{i:Nat}{c:UInt8}(h:(bl s)[i]?=some c):(((s[i]?.getD 0).toNat:Nat):Int)=u8 c:=by
 rw[Pd,h];rfl
def lK(c:UInt8):Bool:=decide (32≤c)&&decide (c≤126)
theorem J4(c:UInt8):lK c=(decide (32≤u8 c)&&decide (u8 c≤126)):=Sz c
theorem ah6(s:ByteArray)(hs:s.size≤9223372036854775807):∀(k i:Nat),i+k=s.size→
  aC uZ (((i:Int),s,()),())=some (if((bl s).drop i).all jE then .inr ((),())else .inl ((false,()),())):=by
 intro k
 induction k with
 |zero=>
  intro i h;rw[arI (by rw[bJ];omega)];refine aF ?_;have:¬(i:Int)<(s.size:Int):=by omega
  simp only[uZ,arl this,aA,sS,List.all_nil,if_true]
 |succ k ih=>
  intro i h;obtain⟨c,hc,hd⟩:=drop_at (l:=bl s) (i:=i) (by rw[bJ];omega);have hlt:decide ((i:Int)<(s.size:Int))=true:=arj (by omega);have hbd:decide ((0:Int)≤(i:Int)∧(i:Int)<(s.size:Int))=true:=arj (by omega);rw[hd,List.all_cons]
  have hstep:uZ (((i:Int),s,()),())=if jE c then some (.inl ((aO ((i:Int)+1),s,()),()))else some (.inr (.inl ((false,()),()))):=by
   rw[IX];simp only[uZ,hlt,hbd,byte_at hc,aA,sS,KV,EI,bne];cases decide (97≤u8 c)<;>cases decide (u8 c≤122)<;>cases decide (48≤u8 c)<;>cases decide (u8 c≤57)<;>cases (u8 c==95)<;>rfl
  cases hk:jE c
  ·rw[hk]at hstep;exact aF hstep
  ·rw[hk,aI (by omega)]at hstep;rw[aH hstep,ih (i+1) (by omega)];rfl
theorem ahr(s:ByteArray)(hs:s.size≤9223372036854775807):∀(k i:Nat),i+k=s.size→
  aC wK (((i:Int),s,(s.size:Int),()),())=some (if((bl s).drop i).all lK then .inr ((s,()),())else .inl ((false,()),())):=by
 intro k
 induction k with
 |zero=>
  intro i h;rw[arI (by rw[bJ];omega)];refine aF ?_;have:¬(i:Int)<(s.size:Int):=by omega
  simp only[wK,arl this,aA,sS,List.all_nil,if_true]
 |succ k ih=>
  intro i h;obtain⟨c,hc,hd⟩:=drop_at (l:=bl s) (i:=i) (by rw[bJ];omega);have hlt:decide ((i:Int)<(s.size:Int))=true:=arj (by omega);have hbd:decide ((0:Int)≤(i:Int)∧(i:Int)<(s.size:Int))=true:=arj (by omega);rw[hd,List.all_cons]
  have hstep:wK (((i:Int),s,(s.size:Int),()),())=if lK c then some (.inl ((aO ((i:Int)+1),s,(s.size:Int),()),()))else some (.inr (.inl ((false,()),()))):=by
   rw[J4];simp only[wK,hlt,hbd,byte_at hc,aA,sS,KV,EI,bne];cases decide (32≤u8 c)<;>cases decide (u8 c≤126)<;>rfl
  cases hk:lK c
  ·rw[hk]at hstep;exact aF hstep
  ·rw[hk,aI (by omega)]at hstep;rw[aH hstep,ih (i+1) (by omega)];rfl
theorem ahx(s:ByteArray)(hs:s.size≤9223372036854775807):∀(k i:Nat),i+k=s.size→
  aC wL (((i:Int),s,()),())=some (if((bl s).drop i).all lK then .inr ((),())else .inl ((false,()),())):=by
 intro k
 induction k with
 |zero=>
  intro i h;rw[arI (by rw[bJ];omega)];refine aF ?_;have:¬(i:Int)<(s.size:Int):=by omega
  simp only[wL,arl this,aA,sS,List.all_nil,if_true]
 |succ k ih=>
  intro i h;obtain⟨c,hc,hd⟩:=drop_at (l:=bl s) (i:=i) (by rw[bJ];omega);have hlt:decide ((i:Int)<(s.size:Int))=true:=arj (by omega);have hbd:decide ((0:Int)≤(i:Int)∧(i:Int)<(s.size:Int))=true:=arj (by omega);rw[hd,List.all_cons]
  have hstep:wL (((i:Int),s,()),())=if lK c then some (.inl ((aO ((i:Int)+1),s,()),()))else some (.inr (.inl ((false,()),()))):=by
   rw[J4];simp only[wL,hlt,hbd,byte_at hc,aA,sS,KV,EI,bne];cases decide (32≤u8 c)<;>cases decide (u8 c≤126)<;>rfl
  cases hk:lK c
  ·rw[hk]at hstep;exact aF hstep
  ·rw[hk,aI (by omega)]at hstep;rw[aH hstep,ih (i+1) (by omega)];rfl
abbrev mX(s:ByteArray):Bool:=ac9 (bl s)
abbrev yG(s:ByteArray):Bool:=acI (bl s)
theorem OH(s:ByteArray):mX s=match bl s with
  | []=>false
  |c::_=>(!decide ((s.size:Int)>24))&&(decide (97≤u8 c)&&decide (u8 c≤122))&&(bl s).all jE:=by
 have hl:=bJ s;unfold mX ac9
 cases h:bl s with
 |nil=>rfl
 |cons c r=>
  rw[h]at hl;have le:∀(n:UInt8),decide (n≤c)=decide ((n.toNat:Int)≤u8 c):=fun n=>asz.2 (by rw[UInt8.le_iff_toNat_le];unfold u8;omega)
  have ge:∀(n:UInt8),decide (c≤n)=decide (u8 c≤(n.toNat:Int)):=fun n=>asz.2 (by rw[UInt8.le_iff_toNat_le];unfold u8;omega)
  simp only[EI,Bool.not_not];rw[show decide ((c::r).length≤24)=decide ((s.size:Int)≤24)from asz.2 (by rw[hl];omega),le,ge];rfl
theorem MR(s:ByteArray)(hs:s.size≤9223372036854775807):Ws ((s,()),())=some ((mX s,()),()):=by
 rw[OH];have hl:=bJ s;have hlp:=aht s hs s.size 0 (by omega);unfold Ws
 cases h:bl s with
 |nil=>
  simp only[bg,h,Jt,aA,sS]
 |cons c r=>
  have hne:(bl s==bl ByteArray.empty)=false:=by rw[h];rfl
  have h0:(((s[0]?.getD 0).toNat:Nat):Int)=u8 c:=by rw[Pd,h];rfl
  have hpos:decide ((0:Int)≤0∧(0:Int)<s.size)=true:=arj (by rw[h]at hl;simp at hl;omega);simp only[bg,hne,hpos,h0,aA,sS];cases decide ((s.size:Int)>24)
  ·simp only[KV,EI,aA,sS];cases decide (97≤u8 c)
   ·rfl
   ·cases decide (u8 c≤122)
    ·rfl
    ·simp only[aA,sS];rw[arL]at hlp;refine aN _ hlp ?_;cases ha:(bl s).all jE<;>rw[←h]<;>simp only[ha,aA,sS]<;>rfl
  ·rfl
theorem N9(s:ByteArray)(hs:s.size≤9223372036854775807):Wl ((s,()),())=some ((mX s,()),()):=by
 rw[OH];have hl:=bJ s;have hlp:=ah6 s hs s.size 0 (by omega);unfold Wl
 cases h:bl s with
 |nil=>
  have:decide ((s.size:Int)<1)=true:=arj (by rw[h]at hl;simp at hl;omega);simp only[this,aA,sS]
 |cons c r=>
  have hne:decide ((s.size:Int)<1)=false:=arl (by rw[h]at hl;simp at hl;omega);have h0:(((s[0]?.getD 0).toNat:Nat):Int)=u8 c:=by rw[Pd,h];rfl
  have hpos:decide ((0:Int)≤0∧(0:Int)<s.size)=true:=arj (by rw[h]at hl;simp at hl;omega);simp only[hne,hpos,h0,aA,sS];cases decide ((s.size:Int)>24)
  ·simp only[KV,EI,aA,sS];cases decide (97≤u8 c)
   ·rfl
   ·cases decide (u8 c≤122)
    ·rfl
    ·simp only[aA,sS];rw[arL]at hlp;refine aN _ hlp ?_;cases ha:(bl s).all jE<;>rw[←h]<;>simp only[ha,aA,sS]<;>rfl
  ·rfl
theorem U9(s:ByteArray):yG s=((bl s).all lK&&decide ((s.size:Int)≤64)):=by
 unfold yG acI;rw[bJ,show decide (s.size≤64)=decide ((s.size:Int)≤64)from asz.2 (by omega)];rfl
theorem U0(s:ByteArray)(hs:s.size≤9223372036854775807):Yh ((s,()),())=some ((yG s,()),()):=by
 rw[U9];have hlp:=ahr s hs s.size 0 (by omega);rw[arL]at hlp;unfold Yh;refine aN _ hlp ?_;cases ha:(bl s).all lK<;>simp only[aA,sS]<;>rfl
theorem UQ(s:ByteArray)(hs:s.size≤9223372036854775807):Zj ((s,()),())=some ((yG s,()),()):=by
 rw[U9];have hlp:=ahx s hs s.size 0 (by omega);rw[arL]at hlp;unfold Zj;simp only[EI];cases decide ((s.size:Int)≤64)
 ·simp only[aA,sS]
 ·simp only[aA,sS];refine aN _ hlp ?_;cases ha:(bl s).all lK<;>rfl
def bD(m:MT):Bool:=mX m.1&&(decide (m.2.1≥0)&&(decide (m.2.1≤3)&&yG m.2.2.1))
def UU(m:MT):Prop:=m.1.size≤9223372036854775807∧m.2.2.1.size≤9223372036854775807
theorem Ub(m:MT)(hm:UU m):YF ((m,()),())=some ((bD m,()),()):=by
 unfold YF bD;simp only[MR _ hm.1,U0 _ hm.2,aA,sS];cases mX m.1<;>cases decide (m.2.1≥0)<;>cases decide (m.2.1≤3)<;>simp only[aA,sS]
theorem UK(m:MT)(hm:UU m):XG ((m,()),())=some ((bD m,()),()):=by
 unfold XG bD;simp only[N9 _ hm.1,UQ _ hm.2,aA,sS];cases mX m.1<;>cases decide (m.2.1≥0)<;>cases decide (m.2.1≤3)<;>simp only[aA,sS]
def rq(k:ByteArray):List LT→Option ByteArray
 | []=>none
 |x::l=>if x.1=k then some x.2.1 else rq k l
def qm(l:List LT)(k:ByteArray):ByteArray:=(rq k l).getD ByteArray.empty
theorem ain(l:List LT)(key:ByteArray)(hl:l.length≤9223372036854775807):∀(k i:Nat),i+k=l.length→
  aC uD (((i:Int),key,l,(l.length:Int),()),())=some (match rq key (l.drop i)with|some v=>.inl ((v,()),())|none=>.inr ((),())):=by
 intro k
 induction k with
 |zero=>
  intro i h;rw[arI (by omega)];refine aF ?_;have:¬(i:Int)<(l.length:Int):=by omega
  simp only[uD,arl this,aA,sS,rq]
 |succ k ih=>
  intro i h;obtain⟨e,he,hd⟩:=drop_at (l:=l) (i:=i) (by omega);have hlt:decide ((i:Int)<(l.length:Int))=true:=arj (by omega);rw[hd,rq];by_cases hk:e.1=key
  ·rw[if_pos hk];refine aF ?_;simp only[uD,aJ,aD he,hlt,bg,gB,arj hk,aA,sS]
  ·rw[if_neg hk,←ih (i+1) (by omega)];refine aH ?_;simp only[uD,aJ,aD he,hlt,bg,gB,arl hk,aA,sS,aI (show i<9223372036854775807 by omega)]
theorem Nn(l:List LT)(key:ByteArray)(hl:l.length≤9223372036854775807):VS ((l,key,()),())=some ((qm l key,()),()):=by
 have h:=ain l key hl l.length 0 (by omega);rw[arL]at h;unfold VS qm;refine aN _ h ?_;cases rq key l<;>rfl
theorem aif(l:List LT)(key:ByteArray)(hl:l.length≤9223372036854775807):∀(k i:Nat),i+k=l.length→
  aC x9 (((i:Int),l,key,()),())=some (match rq key (l.drop i)with|some v=>.inl ((v,()),())|none=>.inr ((),())):=by
 intro k
 induction k with
 |zero=>
  intro i h;rw[arI (by omega)];refine aF ?_;have:¬(i:Int)<(l.length:Int):=by omega
  simp only[x9,arl this,aA,sS,rq]
 |succ k ih=>
  intro i h;obtain⟨e,he,hd⟩:=drop_at (l:=l) (i:=i) (by omega);have hlt:decide ((i:Int)<(l.length:Int))=true:=arj (by omega);rw[hd,rq];by_cases hk:e.1=key
  ·rw[if_pos hk];refine aF ?_;simp only[x9,aJ,aD he,hlt,bg,gB,arj hk,aA,sS]
  ·rw[if_neg hk,←ih (i+1) (by omega)];refine aH ?_;simp only[x9,aJ,aD he,hlt,bg,gB,arl hk,aA,sS,aI (show i<9223372036854775807 by omega)]
theorem Nq(l:List LT)(key:ByteArray)(hl:l.length≤9223372036854775807):WW ((l,key,()),())=some ((qm l key,()),()):=by
 have h:=aif l key hl l.length 0 (by omega);rw[arL]at h;unfold WW qm;refine aN _ h ?_;cases rq key l<;>rfl
theorem ach(s:ByteArray)(h:0<s.size):∃c,(bl s)[s.size-1]?=some c∧bl s=bl (s.extract 0 (s.size-1))++ [c]:=by
 have hl:=bJ s;obtain⟨c,hc⟩:=getD_some (l:=bl s) (i:=s.size-1) (by omega);refine⟨c,hc,?_⟩;rw[o8,arL,Nat.sub_zero];have:=as7 (s.size-1) (bl s)
 conv=>lhs;rw[←this]
 congr 1
 obtain⟨e,he,hd⟩:=drop_at (l:=bl s) (i:=s.size-1) (by omega);rw[hc]at he;cases he;rw[hd,arI (by omega)]
theorem alP(n:Nat):∀(s:ByteArray),s.size=n→n≤9223372036854775807→∃t,aC vS ((s,42,()),())=some ((t,()),())∧∃k,bl s=bl t++List.replicate k 42:=by
 induction n with
 |zero=>
  intro s hs _;refine⟨s,aF ?_,0,by simp⟩;have:decide ((s.size:Int)>0)=false:=arl (by omega);simp only[vS,this,aA,sS]
 |succ n ih=>
  intro s hs hn;obtain⟨c,hc,hsp⟩:=ach s (by omega);have hw:aO ((s.size:Int)-1)=((s.size-1:Nat):Int):=by rw[bI (by omega) (by omega)];omega
  have h0:decide ((s.size:Int)>0)=true:=arj (by omega);have h1:decide ((0:Int)≤((s.size-1:Nat):Int)∧((s.size-1:Nat):Int)<s.size)=true:=arj (by omega);have h2:decide ((0:Int)≤((s.size-1:Nat):Int))=true:=arj (by omega);have h3:decide (0≤s.size-1∧s.size-1≤s.size)=true:=arj (by omega);have hb:=byte_at hc;by_cases h42:u8 c=42
  ·have hc42:c=42:=UInt8.toNat_inj.1 (by unfold u8 at h42;show c.toNat=42;omega);have hsz:(s.extract 0 (s.size-1)).size=n:=by rw[←bJ,o8,ar9,arR,bJ];omega
   obtain⟨t,ht,k,hk⟩:=ih (s.extract 0 (s.size-1)) hsz (by omega);refine⟨t,?_,k+1,?_⟩
   ·rw[←ht];refine aH ?_;simp only[vS,h0,hw,h1,h2,arn,TA hc,dY,arj h42,h3,aA,sS]
   ·rw[hsp,hk,hc42,arJ]
    congr 1
    rw[List.replicate_succ']
  ·refine⟨s,aF ?_,0,by simp⟩;simp only[vS,h0,hw,h1,hb,dY,arl h42,aA,sS]
theorem aks(n:Nat):∀(s:ByteArray),s.size=n→n≤9223372036854775807→∃t,aC xg ((s,42,()),())=some ((t,()),())∧(∃k,bl s=List.replicate k 42++bl t)∧(∀c r,bl t=c::r→c≠42):=by
 induction n with
 |zero=>
  intro s hs _;refine⟨s,aF ?_,⟨0,by simp⟩,fun c r h=> ?_⟩
  ·have:decide ((s.size:Int)>0)=false:=arl (by omega);simp only[xg,this,aA,sS]
  ·have:=bJ s;rw[h]at this;simp at this;omega
 |succ n ih=>
  intro s hs hn;obtain⟨c,hc,hsp⟩:=drop_at (l:=bl s) (i:=0) (by rw[bJ];omega);rw[arL]at hsp;have h0:decide ((s.size:Int)>0)=true:=arj (by omega);have h1:decide ((0:Int)≤0∧(0:Int)<s.size)=true:=arj (by omega);have h3:decide (1≤s.size∧s.size≤s.size)=true:=arj (by omega);have hb:(((s[0]?.getD 0).toNat:Nat):Int)=u8 c:=by rw[Pd,hc];rfl
  by_cases h42:u8 c=42
  ·have hc42:c=42:=UInt8.toNat_inj.1 (by unfold u8 at h42;show c.toNat=42;omega)
   have hex:bl (s.extract 1 s.size)=(bl s).drop 1:=by
    rw[o8,arY];rw[arR,bJ];exact arz _
   have hsz:(s.extract 1 s.size).size=n:=by rw[←bJ,hex,arR,bJ];omega
   obtain⟨t,ht,⟨k,hk⟩,hf⟩:=ih (s.extract 1 s.size) hsz (by omega);refine⟨t,?_,⟨k+1,?_⟩,hf⟩
   ·rw[←ht];refine aH ?_;simp only[xg,h0,h1,hb,dY,arj h42,h3,aA,sS]
   ·rw[hsp,←hex,hk,hc42];rfl
  ·refine⟨s,aF ?_,⟨0,by simp⟩,fun d r h=> ?_⟩
   ·simp only[xg,h0,h1,hb,dY,arl h42,aA,sS]
   ·rw[hsp]at h;cases h;intro e;subst e;exact h42 rfl
theorem adV(s:ByteArray)(hs:s.size≤9223372036854775807):∃t,aa5 ((s,bs [42],()),())=some ((t,()),())∧(bl t==bl ByteArray.empty)=(bl s).all (· ==42):=by
 by_cases he:bl s=[]
 ·refine⟨s,?_,?_⟩
  ·unfold aa5;simp only[bg,he,Jt,aA,sS]
  ·rw[he];rfl
 ·obtain⟨t1,h1,k1,e1⟩:=alP s.size s rfl hs;have hsz1:t1.size≤s.size:=by rw[←bJ t1,←bJ s,e1,arC];omega
  obtain⟨t2,h2,⟨k2,e2⟩,hf⟩:=aks t1.size t1 rfl (by omega);have m124e:abm ((s,42,()),())=some ((t1,()),()):=by unfold abm;exact aN _ h1 rfl
  have m123e:adu ((t1,42,()),())=some ((t2,()),()):=by unfold adu;exact aN _ h2 rfl
  refine⟨t2,?_,?_⟩
  ·have hne:(bl s==bl ByteArray.empty)=false:=ar7.2 he;have hb:((((bs [42])[0]?.getD 0).toNat:Nat):Int)=42:=by rfl
   have hbe:(bl (bs [42])==bl ByteArray.empty)=false:=by rfl
   have hbs:(((bs [42]).size:Int)==1)=true:=by rfl
   have hbd:decide ((0:Int)≤0∧(0:Int)<(bs [42]).size)=true:=by rfl
   unfold aa5;simp only[bg,hne,hb,hbe,hbs,hbd,m124e,m123e,aA,sS];rfl
  ·rw[e1,e2,List.all_append,List.all_append];rw[show(List.replicate k1 (42:UInt8)).all (· ==42)=true by simp,show(List.replicate k2 (42:UInt8)).all (· ==42)=true by simp,Bool.and_true,arU]
   cases h:bl t2 with
   |nil=>rfl
   |cons c r=>
    have:(c==42)=false:=ar7.2 (hf c r h);simp[this,Jt]
def EG(p s:ByteArray):Bool:=like (bl p) (bl s)
theorem ahJ{c d:UInt8}(h:u8 c=u8 d):c=d:=UInt8.toNat_inj.1 (by unfold u8 at h;omega)
theorem He(c d:UInt8):(u8 c==u8 d)=(c==d):=by
 by_cases h:c=d
 ·subst h;simp
 ·rw[ar7.2 h,ar7.2 (fun e=>h (ahJ e))]
theorem yV(c:UInt8):(u8 c==42)=decide (c=42):=by
 rw[show(42:Int)=u8 42 from rfl,He];by_cases h:c=42<;>simp[h]
theorem Uh(c:UInt8):(u8 c==63)=(c==63):=He c 63
def aiD:Option (Nat×Nat)→Int→Int→Prop
 |none,s,_=>s= -1
 |some q,s,f=>s=((q.1:Nat):Int)∧f=((q.2:Nat):Int)
structure LS(P V:ByteArray)(p v:Nat)(star:Option (Nat×Nat))(a:(Int×Int×Int×Int×ByteArray×ByteArray×Unit)×Unit):Prop where
 inv:uV (bl P) (bl V) p v star
 st:∃(s f:Int),a=(((p:Int),(v:Int),s,f,V,P,()),())∧aiD star s f
def ZN(P V:ByteArray)(p:Nat)(star:Option (Nat×Nat)):Nat:=(V.size+1-(star.map (·.2)).getD 0)*(P.size+1)+(P.size-p)
theorem WJ(P V:ByteArray)(hP:P.size≤4294967295)(hV:V.size≤4294967295):∀(n p v:Nat) (star:Option (Nat×Nat)) (a),LS P V p v star a→ZN P V p star≤n→
  ∃d,aC gZ a=some d∧((d= .inl ((false,()),())∧EG P V=false)∨∃q:Nat,q≤P.size∧d= .inr (((q:Int),P,()),())∧EG P V=((bl P).drop q).all (· ==42)):=by
 intro n
 induction n with
 |zero=>
  intro p v star a h hn
  exfalso
  have hp:=h.inv.hp;have hv:=h.inv.hv;rw[bJ]at hp hv;unfold ZN at hn
  have hf:(star.map (·.2)).getD 0≤V.size:=by
   cases star with
   |none=>exact arO _
   |some q=>have:=(h.inv.ok:_∧_∧_).2.1;simp;omega
  have:1*(P.size+1)≤(V.size+1-(star.map (·.2)).getD 0)*(P.size+1):=ar5 _ (by omega);omega
 |succ n ih=>
  intro p v star a h hn;obtain⟨inv,s,f,rfl,hst⟩:=h;have hp:=inv.hp;have hv:=inv.hv;rw[bJ]at hp hv
  have hf:(star.map (·.2)).getD 0≤v:=by
   cases star with
   |none=>exact arO _
   |some q=>exact(inv.ok:_∧_∧_).2.1
  by_cases hve:v=V.size
  ·refine⟨.inr (((p:Int),P,()),()),aF ?_,.inr ⟨p,hp,rfl,inv.ajO (by rw[bJ];exact hve)⟩⟩;have:decide ((v:Int)<(V.size:Int))=false:=arl (by omega);simp only[gZ,this,aA,sS]
  ·have hvlt:decide ((v:Int)<(V.size:Int))=true:=arj (by omega);have hvb:decide ((0:Int)≤(v:Int)∧(v:Int)<(V.size:Int))=true:=arj (by omega);obtain⟨x,hx,_⟩:=drop_at (l:=bl V) (i:=v) (by rw[bJ];omega);have bx:=byte_at hx;have w1:aO ((v:Int)+1)=((v+1:Nat):Int):=aI (by omega);have w2:aO ((p:Int)+1)=((p+1:Nat):Int):=aI (by omega)
   have miss:(∀c,(bl P)[p]?=some c→c≠42∧(c==63||c==x)=false)→gZ (((p:Int),(v:Int),s,f,V,P,()),())=(bif decide (s≥0)then some (.inl ((aO (s+1),aO (f+1),s,aO (f+1),V,P,()),()))else some (.inr (.inl ((false,()),()))))→
     ∃d,aC gZ (((p:Int),(v:Int),s,f,V,P,()),())=some d∧((d= .inl ((false,()),())∧EG P V=false)∨∃q:Nat,q≤P.size∧d= .inr (((q:Int),P,()),())∧EG P V=((bl P).drop q).all (· ==42)):=by
    intro hm hstep
    cases star with
    |none=>
     have hs:s= -1:=hst;subst hs;exact⟨_,aF hstep,.inl ⟨rfl,inv.onFail hx hm⟩⟩
    |some q=>
     obtain⟨q1,q2⟩:=q;obtain⟨rfl,rfl⟩:s=((q1:Nat):Int)∧f=((q2:Nat):Int):=hst;have hq:=(inv.ok:_∧_∧_)
     have hq1:q1+1≤p:=hq.1;have hq2:q2≤v:=hq.2.1;rw[arj (show((q1:Nat):Int)≥0 by omega),aI (by omega),aI (by omega)]at hstep;rw[aH hstep];refine ih (q1+1) (q2+1) (some (q1,q2+1)) _ ⟨inv.ai6 hx hm,_,_,rfl,⟨rfl,rfl⟩⟩ ?_;unfold ZN at hn ⊢;simp only[arG,as6]at hn ⊢;have e:V.size+1-q2=(V.size+1-(q2+1))+1:=by omega
     rw[e,Nat.succ_mul]at hn;omega
   by_cases hpe:p<P.size
   ·have hplt:decide ((p:Int)<(P.size:Int))=true:=arj (by omega);have hpb:decide ((0:Int)≤(p:Int)∧(p:Int)<(P.size:Int))=true:=arj (by omega);obtain⟨c,hc,_⟩:=drop_at (l:=bl P) (i:=p) (by rw[bJ];omega);have bc:=byte_at hc;by_cases h42:c=42
    ·subst h42
     rw[show aC gZ (((p:Int),(v:Int),s,f,V,P,()),())=aC gZ ((((p+1:Nat):Int),(v:Int),(p:Int),(v:Int),V,P,()),())from aH (by
      simp only[gZ,hvlt,hplt,hpb,bc,yV,aA,sS,w2])]
     refine ih (p+1) v (some (p,v)) _ ⟨inv.aiq hc,_,_,rfl,⟨rfl,rfl⟩⟩ ?_;unfold ZN at hn ⊢;simp only[arG,as6];have:=ar5 (P.size+1) (show V.size+1-v≤V.size+1-(star.map (·.2)).getD 0 by omega);omega
    ·by_cases hm:(c==63||c==x)=true
     ·rw[show aC gZ (((p:Int),(v:Int),s,f,V,P,()),())=aC gZ ((((p+1:Nat):Int),((v+1:Nat):Int),s,f,V,P,()),())from aH (by
       simp only[gZ,hvlt,hplt,hpb,hvb,bc,bx,yV,Uh,He,arl h42,aA,sS,w2];rcases Bool.or_eq_true_iff.1 hm with h|h
       ·simp only[h,aA,sS,w1,w2]
       ·cases (c==63)<;>simp only[h,aA,sS,w1,w2])]
      refine ih (p+1) (v+1) star _ ⟨inv.ag7 hc hx h42 hm,s,f,rfl,hst⟩ ?_;unfold ZN at hn ⊢;omega
     ·have hm:(c==63||c==x)=false:=by simpa using hm
      refine miss (fun d hd=> ?_) ?_
      ·rw[hc]at hd;cases hd;exact⟨h42,hm⟩
      ·rw[asg]at hm;simp only[gZ,hvlt,hplt,hpb,hvb,bc,bx,yV,Uh,He,arl h42,hm.1,hm.2,aA,sS]
   ·have hplt:decide ((p:Int)<(P.size:Int))=false:=arl (by omega);refine miss (fun d hd=> ?_) ?_
    ·have:=(ark.1 hd).1;rw[bJ]at this;omega
    ·simp only[gZ,hvlt,hplt,aA,sS]
theorem abp(P V:ByteArray)(hP:P.size≤4294967295)(hV:V.size≤4294967295):XY ((P,V,()),())=some ((EG P V,()),()):=by
 obtain⟨d,h1,h2⟩:=WJ P V hP hV _ 0 0 none (((0:Int),(0:Int),(-1),(0:Int),V,P,()),()) ⟨uV.start _ _,-1,0,rfl,rfl⟩ (arz _);unfold XY;refine aN _ h1 ?_;rcases h2 with⟨rfl,h⟩|⟨q,hq,rfl,h⟩
 ·rw[h];rfl
 ·have ex:bl (P.extract q P.size)=(bl P).drop q:=by
   rw[o8,arY];rw[arR,bJ];exact arz _
  have hsz:(P.extract q P.size).size≤P.size:=by rw[←bJ,ex,arR,bJ];omega
  obtain⟨t,ht,he⟩:=adV (P.extract q P.size) (by omega);simp only[aA,sS,arj (show(0:Int)≤(q:Int) by omega),arn,arj (show q≤P.size∧P.size≤P.size by omega),ht,bg,he,ex,h]
def cell(c:UInt8)(V:List UInt8)(r r':List Bool)(k:Nat):Bool:=
 if c=42 then(r[k]?.getD false||(decide (0<k)&&r'[k-1]?.getD false))else(decide (0<k)&&r[k-1]?.getD false&&(c==63||some c==V[k-1]?))
theorem aa9(P V:ByteArray)(c:UInt8)(i:Nat)(hc:(bl P)[i]?=some c)(hi:i<P.size)(hV:V.size≤4294967295)(hP:P.size≤4294967295)(r:List Bool)(hr:r.length=V.size+1):
  ∀(n k:Nat) (N:List Bool),k+n=V.size+1→N.length=V.size+1→(∀j,j<k→N[j]?.getD false=cell c (bl V) r N j)→(∀j,k≤j→N[j]?.getD false=false)→
   ∃N',aC jk (((k:Int),V,(i:Int),P,()),(N,r,()))=some ((V,P,(i:Int),()),(N',()))∧N'.length=V.size+1∧∀j,j≤V.size→N'[j]?.getD false=cell c (bl V) r N' j:=by
 intro n
 induction n with
 |zero=>
  intro k N h hN h1 _;refine⟨N,aF ?_,hN,fun j hj=>h1 j (by omega)⟩;have:decide ((k:Int)≤(V.size:Int))=false:=arl (by omega);simp only[jk,this,aA,sS]
 |succ n ih=>
  intro k N h hN h1 h2;have hle:decide ((k:Int)≤(V.size:Int))=true:=arj (by omega);have hib:decide ((0:Int)≤(i:Int)∧(i:Int)<(P.size:Int))=true:=arj (by omega);have hkr:decide ((0:Int)≤(k:Int)∧(k:Int)<(r.length:Int))=true:=arj (by omega);have hkN:decide ((0:Int)≤(k:Int)∧(k:Int)<(N.length:Int))=true:=arj (by omega);have hkN2:decide (k<N.length)=true:=arj (by omega);have w1:aO ((k:Int)+1)=((k+1:Nat):Int):=aI (by omega);have bc:=byte_at hc;have bn:=TA hc
  have next:∀b:Bool,b=cell c (bl V) r N k→∃N',aC jk ((((k+1:Nat):Int),V,(i:Int),P,()),(N.set k b,r,()))=some ((V,P,(i:Int),()),(N',()))∧N'.length=V.size+1∧∀j,j≤V.size→N'[j]?.getD false=cell c (bl V) r N' j:=by
   intro b hb;have same:∀j,j<k→(N.set k b)[j]?=N[j]?:=fun j hj=>by rw[List.getElem?_set_ne (by omega)]
   refine ih (k+1) (N.set k b) (by omega) (by simpa using hN) (fun j hj=> ?_) (fun j hj=>by rw[List.getElem?_set_ne (by omega)];exact h2 j (by omega));rcases asM j k with hlt|hge
   ·rw[same j hlt,h1 j hlt];unfold cell
    cases j with
    |zero=>rfl
    |succ j=>simp only[Nat.add_sub_cancel,same j (by omega)]
   ·have:j=k:=by omega
    subst this;rw[asS (by omega),as6];refine hb.trans ?_;unfold cell
    cases j with
    |zero=>rfl
    |succ j=>simp only[Nat.add_sub_cancel,same j (by omega)]
  obtain⟨rk,hrk⟩:=getD_some (l:=r) (i:=k) (by omega);by_cases h42:c=42
  ·have hcell:cell c (bl V) r N k=(rk||(decide (0<k)&&N[k-1]?.getD false)):=by unfold cell;rw[if_pos h42,hrk];rfl
   cases rk with
   |true=>
    obtain⟨N',e1,e2⟩:=next true (by rw[hcell];rfl);refine⟨N',?_,e2⟩;rw[←e1];refine aH ?_;simp only[jk,hle,hib,bc,bn,yV,arj h42,hkr,arn,hrk,hkN,hkN2,aA,sS,w1]
   |false=>
    rw[ar0]at hcell;by_cases hk0:k=0
    ·subst hk0;obtain⟨N',e1,e2⟩:=next false (by rw[hcell];rfl);refine⟨N',?_,e2⟩;rw[←e1];refine aH ?_;have hg:decide (((0:Nat):Int)>0)=false:=rfl;simp only[jk,hle,hib,bc,bn,yV,arj h42,hkr,arn,hrk,hkN,hkN2,hg,aA,sS,w1]
    ·obtain⟨b,hb⟩:=getD_some (l:=N) (i:=k-1) (by omega);have hg:decide ((k:Int)>0)=true:=arj (by omega);have hw:aO ((k:Int)-1)=((k-1:Nat):Int):=by rw[bI (by omega) (by omega)];omega
     have hk1:decide ((0:Int)≤((k-1:Nat):Int)∧((k-1:Nat):Int)<(N.length:Int))=true:=arj (by omega);rw[arj (show 0<k by omega),hb,as6,arU]at hcell;obtain⟨N',e1,e2⟩:=next b hcell.symm;refine⟨N',?_,e2⟩;rw[←e1];refine aH ?_;simp only[jk,hle,hib,bc,bn,yV,arj h42,hkr,arn,hrk,hkN,hkN2,hg,hw,hk1,hb,aA,sS,w1]
  ·have hcell:cell c (bl V) r N k=(decide (0<k)&&r[k-1]?.getD false&&(c==63||some c==(bl V)[k-1]?)):=by unfold cell;rw[if_neg h42]
   by_cases hk0:k=0
   ·subst hk0
    have hset:N.set 0 false=N:=by
     refine List.ext_getElem? fun j=> ?_
     cases j with
     |zero=>
      rw[asS (by omega)];obtain⟨b,hb⟩:=getD_some (l:=N) (i:=0) (by omega);have:=h2 0 (arz _);rw[hb]at this ⊢;exact congrArg some this.symm
     |succ j=>rw[List.getElem?_set_ne (by omega)]
    obtain⟨N',e1,e2⟩:=next false (by rw[hcell];rfl);rw[hset]at e1;refine⟨N',?_,e2⟩;rw[←e1];refine aH ?_;have hg:decide (((0:Nat):Int)>0)=false:=rfl;simp only[jk,hle,hib,bc,bn,yV,arl h42,hg,aA,sS,w1]
   ·obtain⟨b,hb⟩:=getD_some (l:=r) (i:=k-1) (by omega);obtain⟨x,hx⟩:=getD_some (l:=bl V) (i:=k-1) (by rw[bJ];omega);have hg:decide ((k:Int)>0)=true:=arj (by omega);have hw:aO ((k:Int)-1)=((k-1:Nat):Int):=by rw[bI (by omega) (by omega)];omega
    have hk1:decide ((0:Int)≤((k-1:Nat):Int)∧((k-1:Nat):Int)<(r.length:Int))=true:=arj (by omega);have hk2:decide ((0:Int)≤((k-1:Nat):Int)∧((k-1:Nat):Int)<(V.size:Int))=true:=arj (by omega);rw[arj (show 0<k by omega),hb,as6,arU,hx]at hcell;have hso:(some c==some x)=(c==x):=rfl;rw[hso]at hcell
    cases b with
    |false=>
     obtain⟨N',e1,e2⟩:=next false (by rw[hcell];rfl);refine⟨N',?_,e2⟩;rw[←e1];refine aH ?_;simp only[jk,hle,hib,bc,bn,yV,arl h42,hg,hw,hk1,arn,hb,hkN,hkN2,aA,sS,w1]
    |true=>
     rw[arU]at hcell
     cases h63:(c==63)with
     |true=>
      obtain⟨N',e1,e2⟩:=next true (by rw[hcell,h63];rfl);refine⟨N',?_,e2⟩;rw[←e1];refine aH ?_;simp only[jk,hle,hib,bc,bn,yV,Uh,h63,arl h42,hg,hw,hk1,arn,hb,hkN,hkN2,aA,sS,w1]
     |false=>
      obtain⟨N',e1,e2⟩:=next (c==x) (by rw[hcell,h63];rfl);refine⟨N',?_,e2⟩;rw[←e1];refine aH ?_;simp only[jk,hle,hib,bc,bn,yV,Uh,h63,arl h42,hg,hw,hk1,hk2,TA hx,byte_at hx,He,arn,hb,hkN,hkN2,aA,sS,w1]
theorem aaf(P V:ByteArray)(hP:P.size≤4294967295)(hV:V.size≤4294967294):∀(n i:Nat) (r:List Bool),i+n=P.size→RInv (bl P) (bl V) i r→
  ∃r',aC A9 ((V,(i:Int),P,()),(r,()))=some ((V,()),(r',()))∧RInv (bl P) (bl V) P.size r':=by
 intro n
 induction n with
 |zero=>
  intro i r h hr;refine⟨r,aF ?_,by rw[show P.size=i by omega];exact hr⟩;have:decide ((i:Int)<(P.size:Int))=false:=arl (by omega);simp only[A9,this,aA,sS]
 |succ n ih=>
  intro i r h hr;obtain⟨c,hc,_⟩:=drop_at (l:=bl P) (i:=i) (by rw[bJ];omega);have hlt:decide ((i:Int)<(P.size:Int))=true:=arj (by omega);have wv:aO ((V.size:Int)+1)=((V.size+1:Nat):Int):=aI (by omega);have hb:decide ((0:Int)≤((V.size+1:Nat):Int)∧((V.size+1:Nat):Int)≤((V.size+1:Nat):Int)∧((V.size+1:Nat):Int)≤4294967296)=true:=arj (by omega);have hrl:r.length=V.size+1:=by rw[hr.1,bJ]
  obtain⟨N',e1,e2,e3⟩:=aa9 P V c i hc (by omega) (by omega) hP r hrl (V.size+1) 0 (List.replicate (V.size+1) false) (by omega) (by simp) (fun j hj=>by omega) (fun j _=>by
   rw[List.getElem?_replicate];split<;>rfl)
  obtain⟨r',e4,e5⟩:=ih (i+1) N' (by omega) (RInv.step hr hc ⟨by rw[e2,bJ],fun k hk=>e3 k (by rw[bJ]at hk;exact hk)⟩);refine⟨r',?_,e5⟩;rw[←e4];refine aH ?_;simp only[A9,hlt,wv,hb,arn,aA,sS];refine aN _ e1 ?_;simp only[aI (show i<9223372036854775807 by omega)]
theorem acj(P V:ByteArray)(hP:P.size≤4294967295)(hV:V.size≤4294967294):Zq ((P,V,()),())=some ((EG P V,()),()):=by
 have wv:aO ((V.size:Int)+1)=((V.size+1:Nat):Int):=aI (by omega);have hb:decide ((0:Int)≤((V.size+1:Nat):Int)∧((V.size+1:Nat):Int)≤((V.size+1:Nat):Int)∧((V.size+1:Nat):Int)≤4294967296)=true:=arj (by omega);have hl:(List.replicate (V.size+1) false).length=V.size+1:=by simp
 have h0:decide ((0:Int)≤0∧(0:Int)<((V.size+1:Nat):Int))=true:=arj (by omega);have h1:decide (0<V.size+1)=true:=arj (by omega);have hst:(List.replicate (V.size+1) false).set 0 true=true::List.replicate (bl V).length false:=by rw[List.replicate_succ,List.set_cons_zero,bJ]
 obtain⟨r',e1,e2⟩:=aaf P V hP hV P.size 0 _ (by omega) (RInv.start (bl P) (bl V));have hd:=RInv.done (P:=bl P) (V:=bl V) (r:=r') (by rw[bJ];exact e2);rw[bJ]at hd;have hrl:r'.length=V.size+1:=by rw[e2.1,bJ]
 obtain⟨b,hb2⟩:=getD_some (l:=r') (i:=V.size) (by omega);rw[hb2,as6]at hd;subst hd;have h3:decide ((0:Int)≤(V.size:Int)∧(V.size:Int)<(r'.length:Int))=true:=arj (by omega);unfold Zq;simp only[wv,hb,arn,hl,h0,h1,hst,aA,sS];refine aN _ e1 ?_;simp only[h3,hb2,arn,aA,sS];rfl
def zb(m:MT)(l:List LT):Bool:=
 let v:=qm l m.1
 if m.2.1=0 then decide (v=m.2.2.1)else if m.2.1=1 then !decide (v=m.2.2.1)else if m.2.1=2 then EG m.2.2.1 v else if m.2.1=3 then !EG m.2.2.1 v else false
def allM(ms:List MT)(l:List LT):Bool:=ms.all fun m=>zb m l
def FT(l:List LT):Prop:=l.length≤9223372036854775807∧∀x∈l,x.2.1.size≤4294967294
def PSz(m:MT):Prop:=m.2.2.1.size≤4294967295
theorem Kv{k v:ByteArray}:∀{l:List LT},rq k l=some v→∃x∈l,x.2.1=v
 | [],h=>by cases h
 |x::l,h=>by
  simp only[rq]at h;split at h
  ·cases h;exact⟨x,by simp,rfl⟩
  ·obtain⟨y,h1,h2⟩:=Kv h;exact⟨y,by simp[h1],h2⟩
theorem QY{l:List LT}(h:FT l)(k:ByteArray):(qm l k).size≤4294967294:=by
 unfold qm
 cases hf:rq k l with
 |none=>exact arO _
 |some v=>
  obtain⟨x,h1,rfl⟩:=Kv hf;exact h.2 x h1
theorem aei(m:MT)(l:List LT)(hm:PSz m)(hl:FT l):acg ((m,l,()),())=some ((zb m l,()),()):=by
 have hg:=QY hl m.1;unfold acg zb;simp only[Nn l m.1 hl.1,abp m.2.2.1 _ hm (show(qm l m.1).size≤4294967295 by omega),aA,sS,dY,bg,gB];by_cases h0:m.2.1=0
 ·simp only[arj h0,if_pos h0,aA,sS]
 ·by_cases h1:m.2.1=1
  ·simp only[arl h0,arj h1,if_neg h0,if_pos h1,aA,sS]
  ·by_cases h2:m.2.1=2
   ·simp only[arl h0,arl h1,arj h2,if_neg h0,if_neg h1,if_pos h2,aA,sS]
   ·by_cases h3:m.2.1=3
    ·simp only[arl h0,arl h1,arl h2,arj h3,if_neg h0,if_neg h1,if_neg h2,if_pos h3,aA,sS]
    ·simp only[arl h0,arl h1,arl h2,arl h3,if_neg h0,if_neg h1,if_neg h2,if_neg h3,aA,sS]
theorem acW(m:MT)(l:List LT)(hm:PSz m)(hl:FT l):aeo ((m,l,()),())=some ((zb m l,()),()):=by
 have hg:=QY hl m.1;unfold aeo zb;simp only[Nq l m.1 hl.1,acj m.2.2.1 _ hm hg,aA,sS,dY,bg,gB];by_cases h0:m.2.1=0
 ·simp only[arj h0,if_pos h0,aA,sS]
 ·by_cases h1:m.2.1=1
  ·simp only[arl h0,arj h1,if_neg h0,if_pos h1,aA,sS]
  ·by_cases h2:m.2.1=2
   ·simp only[arl h0,arl h1,arj h2,if_neg h0,if_neg h1,if_pos h2,aA,sS]
   ·by_cases h3:m.2.1=3
    ·simp only[arl h0,arl h1,arl h2,arj h3,if_neg h0,if_neg h1,if_neg h2,if_pos h3,aA,sS]
    ·simp only[arl h0,arl h1,arl h2,arl h3,if_neg h0,if_neg h1,if_neg h2,if_neg h3,aA,sS]
def PSs(ms:List MT):Prop:=ms.length≤9223372036854775807∧∀m∈ms,PSz m
theorem ai8(ms:List MT)(l:List LT)(hm:PSs ms)(hl:FT l):∀(k i:Nat),i+k=ms.length→
  ∃j:Nat,aC rF (((i:Int),ms,(ms.length:Int),()),((l,()),()))=some (if allM (ms.drop i) l then .inr ((),((l,()),()))else .inl (((j:Int),()),((l,()),()))):=by
 intro k
 induction k with
 |zero=>
  intro i h;refine⟨0,?_⟩;rw[arI (by omega)];refine aF ?_;have:decide ((i:Int)<(ms.length:Int))=false:=arl (by omega);simp only[rF,this,aA,sS,allM,List.all_nil,if_true]
 |succ k ih=>
  intro i h;obtain⟨e,he,hd⟩:=drop_at (l:=ms) (i:=i) (by omega);have hlt:decide ((i:Int)<(ms.length:Int))=true:=arj (by omega);have hle:=hm.1;have hme:=aei e l (hm.2 e (arp he)) hl;rw[hd];unfold allM;rw[List.all_cons];cases hq:zb e l
  ·refine⟨i,aF ?_⟩;simp only[rF,aJ,aD he,hlt,hme,hq,aA,sS];rfl
  ·obtain⟨j,hj⟩:=ih (i+1) (by omega);refine⟨j,?_⟩;rw[arU];unfold allM at hj;rw[←hj];refine aH ?_;simp only[rF,aJ,aD he,hlt,hme,hq,aA,sS,aI (show i<9223372036854775807 by omega)]
theorem sI(ms:List MT)(l:List LT)(hm:PSs ms)(hl:FT l):QZ ((ms,l,()),())=some ((allM ms l,()),()):=by
 obtain⟨j,h⟩:=ai8 ms l hm hl ms.length 0 (by omega);rw[arL]at h;unfold QZ;rw[show aC rF ((0,ms,(ms.length:Int),()),((l,()),()))=_ from h];cases allM ms l
 ·simp only[aA,sS,ar3,if_false,arj (show(j:Int)≥0 by omega)]
 ·simp only[aA,sS,if_true]
theorem aiH(ms:List MT)(l:List LT)(hm:PSs ms)(hl:FT l):∀(k i:Nat),i+k=ms.length→
  aC wI (((i:Int),l,ms,()),())=some (if allM (ms.drop i) l then .inr ((),())else .inl ((false,()),())):=by
 intro k
 induction k with
 |zero=>
  intro i h;rw[arI (by omega)];refine aF ?_;have:decide ((i:Int)<(ms.length:Int))=false:=arl (by omega);simp only[wI,this,aA,sS,allM,List.all_nil,if_true]
 |succ k ih=>
  intro i h;obtain⟨e,he,hd⟩:=drop_at (l:=ms) (i:=i) (by omega);have hlt:decide ((i:Int)<(ms.length:Int))=true:=arj (by omega);have hle:=hm.1;have hme:=acW e l (hm.2 e (arp he)) hl;rw[hd];unfold allM;rw[List.all_cons];cases hq:zb e l
  ·refine aF ?_;simp only[wI,aJ,aD he,hlt,hme,hq,aA,sS];rfl
  ·rw[arU];have hj:=ih (i+1) (by omega);unfold allM at hj;rw[←hj];refine aH ?_;simp only[wI,aJ,aD he,hlt,hme,hq,aA,sS,aI (show i<9223372036854775807 by omega)]
theorem sF(ms:List MT)(l:List LT)(hm:PSs ms)(hl:FT l):OZ ((ms,l,()),())=some ((allM ms l,()),()):=by
 have h:=aiH ms l hm hl ms.length 0 (by omega);rw[arL]at h;unfold OZ;refine aN _ h ?_;cases allM ms l<;>rfl
end Go.Proofs.YtchnmpafhfjimaaGreatDoor
namespace Go.Proofs.YtchnmpafhfjimaaGreatDoor
open Go Go.Abs Go.Lab
abbrev gI:=List Int×Int×Unit
def nL(d:gI):Prop:=0≤d.2.1∧d.2.1≤d.1.length∧d.1.length≤500
theorem anY{l:List Int}(h:l.length≤500):nL (l,0,()):=⟨Int.le_refl _,Int.natCast_nonneg _,h⟩
theorem dP(n:Int)(d:gI)(hd:nL d)(hn:n≤9223372036854775807):
  ∃(r:Int) (d':gI),GA ((n,()),((d,()),()))=some ((r,()),((d',()),()))∧nL d'∧(1≤n→0≤r∧r<n)∧(n<1→r=0):=by
 obtain⟨l,at_,u⟩:=d;obtain⟨h1,h2,h3⟩:=hd;simp only at h1 h2 h3;unfold GA;simp only[aJ];by_cases c1:at_≥(l.length:Int)
 ·refine⟨0,(l,at_,()),?_,⟨h1,h2,h3⟩,fun h=>⟨by omega,by omega⟩,fun _=>rfl⟩;simp only[arj c1,aA,sS]
 ·by_cases c2:n<1
  ·refine⟨0,(l,at_,()),?_,⟨h1,h2,h3⟩,fun h=>⟨by omega,by omega⟩,fun _=>rfl⟩;simp only[arl c1,arj c2,aA,sS]
  ·have hat:aO (at_+1)=at_+1:=bI (by omega) (by omega);have hne:n≠0:=by omega
   obtain⟨e,he⟩:=getD_some (l:=l) (i:=at_.toNat) (by omega);have hb:=Int.tmod_lt_of_pos e (show(0:Int)<n by omega)
   have hb2: -n<e.tmod n:=by
    have:=Int.lt_tmod_of_pos e (show(0:Int)<n by omega);omega
   by_cases c3:e.tmod n<0
   ·refine⟨e.tmod n+n,(l,at_+1,()),?_,⟨by simp only;omega,by simp only;omega,h3⟩,fun h=>⟨by omega,by omega⟩,fun h=>by omega⟩;simp only[arl c1,arl c2,aA,sS,ic h1 he,arj hne,arj c3,hat,bI (x:=e.tmod n+n) (by omega) (by omega)]
   ·refine⟨e.tmod n,(l,at_+1,()),?_,⟨by simp only;omega,by simp only;omega,h3⟩,fun h=>⟨by omega,by omega⟩,fun h=>by omega⟩;simp only[arl c1,arl c2,aA,sS,ic h1 he,arj hne,arl c3,hat]
theorem ku(l:List Int)(d:gI)(hd:nL d)(h0:0<l.length)(h1:l.length≤4294967296):
  ∃(r:Int) (d':gI),m32 ((l,()),((d,()),()))=some ((r,()),((d',()),()))∧nL d'∧r∈l:=by
 obtain⟨n,d',e1,e2,e3,_⟩:=dP l.length d hd (by omega);obtain⟨hn0,hn1⟩:=e3 (by omega);obtain⟨r,hr⟩:=getD_some (l:=l) (i:=n.toNat) (by omega);refine⟨r,d',?_,e2,arp hr⟩;unfold m32;simp only[e1,asa,aJ,ic hn0 hr]
theorem Dk(n:Int)(d:gI)(hd:nL d)(hn:1≤n)(hn2:n≤9223372036854775807):∃(b:Bool) (d':gI),m40 ((n,()),((d,()),()))=some ((b,()),((d',()),()))∧nL d':=by
 obtain⟨r,d',e1,e2,_⟩:=dP n d hd hn2;refine⟨(r==aO (n-1)),d',?_,e2⟩;unfold m40;simp only[e1,asa]
theorem Vf{A B:Type}(l:List A){n:Int}(h0:0≤n)(h1:n<l.length)(F:A→Option B):∃e,e∈l∧(bif decide ((0:Int)≤n∧(n:Int)<l.length)then(l[n.toNat]?).bind F else none)=F e:=by
 obtain⟨e,he⟩:=getD_some (l:=l) (i:=n.toNat) (by omega);exact⟨e,arp he,by rw[arj (And.intro h0 h1),he];rfl⟩
def ny(m:MT):Prop:=bD m=true∧m.1.size≤64∧m.2.2.1.size≤64∧0≤m.2.1∧m.2.1≤3
theorem ny.p{m:MT}(h:ny m):PSz m:=by have:=h.2.2.1;unfold PSz;omega
theorem ny.z{m:MT}(h:ny m):UU m:=by have:=h.2.1;have:=h.2.2.1;unfold UU;omega
theorem ak7:∀k∈ [(bs [97,112,112]),(bs [104,111,115,116]),(bs [115,101,118]),(bs [116,101,97,109]),(bs [122,111,110,101])],mX k=true∧k.size≤64:=by decide+kernel
theorem al1:∀v∈ [(bs [97]),(bs [98]),ByteArray.empty,(bs [42]),(bs [99,114,105,116]),(bs [63]),(bs [119,101,98,45,42]),(bs [97,34,98,92])],yG v=true∧v.size≤64:=by decide+kernel
theorem sH(d:gI)(hd:nL d):∃(m:MT) (d':gI),m98 ((),((d,()),()))=some ((),((d',()),((m,()),())))∧nL d'∧ny m:=by
 obtain⟨a,d1,e1,hd1,b1,_⟩:=dP 5 d hd (by omega);have b1:=b1 (by omega);obtain⟨o,d2,e2,hd2,b2,_⟩:=dP 4 d1 hd1 (by omega);have b2:=b2 (by omega);obtain⟨c,d3,e3,hd3,b3,_⟩:=dP 8 d2 hd2 (by omega);have b3:=b3 (by omega);unfold m98;simp only[e1,asa]
 obtain⟨k,hk,ek⟩:=Vf [(bs [97,112,112]),(bs [104,111,115,116]),(bs [115,101,118]),(bs [116,101,97,109]),(bs [122,111,110,101])] b1.1 b1.2 (fun e11=>(GA ((4,()),((d1,()),()))).bind fun u12=>
  (GA ((8,()),((u12.2.1.1,()),()))).bind fun u13=>
  bif (decide ((0:Int)≤u13.1.1∧(u13.1.1:Int)< [(bs [97]),(bs [98]),ByteArray.empty,(bs [42]),(bs [99,114,105,116]),(bs [63]),(bs [119,101,98,45,42]),(bs [97,34,98,92])].length))then
  ([(bs [97]),(bs [98]),ByteArray.empty,(bs [42]),(bs [99,114,105,116]),(bs [63]),(bs [119,101,98,45,42]),(bs [97,34,98,92])][u13.1.1.toNat]?).bind fun e14=>
  some (((),((u13.2.1.1,()),(((e11,(u12.1.1,(e14,()))),()),()))):(Unit)×(((List Int×Int×Unit)×Unit)×(MT×Unit)×Unit))
  else none)
 rw[ek];simp only[e2,e3,asa];obtain⟨v,hv,ev⟩:=Vf [(bs [97]),(bs [98]),ByteArray.empty,(bs [42]),(bs [99,114,105,116]),(bs [63]),(bs [119,101,98,45,42]),(bs [97,34,98,92])] b3.1 b3.2 (fun e14=>some (((),((d3,()),(((k,(o,(e14,()))),()),()))):(Unit)×(((List Int×Int×Unit)×Unit)×(MT×Unit)×Unit)));rw[ev];have h1:=ak7 k hk;have h2:=al1 v hv;refine⟨(k,o,v,()),d3,rfl,hd3,?_,h1.2,h2.2,b2.1,by simp only;omega⟩;unfold bD;simp only[h1.1,h2.1,arj b2.1,arj (show o≤3 by omega),Bool.and_self]
theorem JH:∀(n:Nat) (i:Int) (d:gI) (l:List MT),nL d→i=n→l.length+n≤1000→(∀m∈l,ny m)→
  ∃(l':List MT) (d':gI),aC Gn ((i,()),((d,()),(l,())))=some ((),((d',()),(l',())))∧nL d'∧l'.length=l.length+n∧∀m∈l',ny m:=by
 intro n
 induction n with
 |zero=>
  intro i d l hd hi hl hg;refine⟨l,d,aF ?_,hd,rfl,hg⟩;have:decide (i>0)=false:=arl (by omega);simp only[Gn,this,aA,sS]
 |succ n ih=>
  intro i d l hd hi hl hg;obtain⟨m,d1,e1,hd1,hm⟩:=sH d hd
  obtain⟨l',d',e2,hd',hl',hg'⟩:=ih (i-1) d1 (l++ [m]) hd1 (by omega) (by simp;omega) (fun x hx=>by
   rcases arA.1 hx with h|h
   ·exact hg x h
   ·simp at h;subst h;exact hm)
  refine⟨l',d',?_,hd',by rw[hl'];simp;omega,hg'⟩;rw[←e2];refine aH ?_;have h0:decide (i>0)=true:=arj (by omega);have h1:decide (l.length+([m]:List MT).length≤4294967296)=true:=arj (by simp;omega);simp only[Gn,h0,e1,aA,sS,h1,bI (x:=i-1) (by omega) (by omega)]
theorem lM(n:Int)(d:gI)(hd:nL d)(h0:0≤n)(hn:n≤900):∃(l:List MT) (d':gI),m97 ((n,()),((d,()),()))=some ((),((d',()),(l,())))∧nL d'∧(l.length:Int)≤n∧∀m∈l,ny m:=by
 obtain⟨a,d1,e1,hd1,b1,_⟩:=dP (aO (n+1)) d hd (by rw[bI (by omega) (by omega)];omega);rw[bI (x:=n+1) (by omega) (by omega)]at e1 b1;have b1:=b1 (by omega);obtain⟨l',d',e2,hd',hl',hg'⟩:=JH a.toNat a d1 [] hd1 (by omega) (by simp;omega) (fun m hm=>by cases hm);refine⟨l',d',?_,hd',by rw[hl'];simp;omega,hg'⟩;unfold m97;simp only[bI (x:=n+1) (by omega) (by omega),e1,asa,e2]
def Zr(l:List LT):Prop:=l.length≤4∧∀x∈l,x.1.size≤64∧x.2.1.size≤64
theorem Zr.z{l:List LT}(h:Zr l):FT l:=⟨by have:=h.1;omega,fun x hx=>by have:=(h.2 x hx).2;omega⟩
abbrev iU:List ByteArray:=[(bs [97,112,112]),(bs [104,111,115,116]),(bs [115,101,118]),(bs [116,101,97,109])]
abbrev UF:List ByteArray:=[ByteArray.empty,(bs [97]),(bs [98]),(bs [99,114,105,116]),(bs [97,34,98,92]),(bs [119,101,98,45,49])]
abbrev ali:ByteArray×ByteArray×ByteArray×ByteArray×Unit:=((bs [97,112,112]),((bs [104,111,115,116]),((bs [115,101,118]),((bs [116,101,97,109]),()))))
theorem Yv:∀v∈UF,yG v=true∧v.size≤64:=by decide+kernel
theorem Cr:∀k∈iU,mX k=true∧k.size≤64:=by decide+kernel
def qW(ks:List ByteArray)(l:List LT):Prop:=(l.map (·.1)).Sublist ks∧∀x∈l,x.2.1∈UF∧x.2.1≠ByteArray.empty
theorem Po:∀(n i:Nat) (d:gI) (l:List LT),i+n=4→nL d→qW (iU.take i) l→
  ∃(l':List LT) (d':gI),aC Ar (((i:Int),ali,()),((d,()),(l,())))=some ((),((d',()),(l',())))∧nL d'∧qW iU l':=by
 intro n
 induction n with
 |zero=>
  intro i d l hi hd hl;refine⟨l,d,aF ?_,hd,by rw[show i=4 by omega]at hl;exact hl⟩;have:decide ((i:Int)<4)=false:=arl (by omega);simp only[Ar,this,aA,sS]
 |succ n ih=>
  intro i d l hi hd hl;obtain⟨k,hk⟩:=getD_some (l:=iU) (i:=i) (by show i<4;omega);obtain⟨a,d1,e1,hd1,b1,_⟩:=dP 6 d hd (by omega);have b1:=b1 (by omega);obtain⟨v,hv⟩:=getD_some (l:=UF) (i:=a.toNat) (by show a.toNat<6;omega);have h0:decide ((i:Int)<4)=true:=arj (by omega);have hb:decide ((0:Int)≤a∧(a:Int)<UF.length)=true:=arj ⟨b1.1,b1.2⟩;have htk:iU.take (i+1)=iU.take i++ [k]:=by rw[asO,hk];rfl
  have hw:aO ((i:Int)+1)=((i+1:Nat):Int):=aI (by omega)
  have hlen:l.length≤4:=by
   have:=hl.1.length_le;rw[arq,ar9]at this;omega
  by_cases he:v=ByteArray.empty
  ·obtain⟨l',d',e2,hd',hl'⟩:=ih (i+1) d1 l (by omega) hd1 ⟨by rw[htk];exact hl.1.trans (List.sublist_append_left _ _),hl.2⟩;refine⟨l',d',?_,hd',hl'⟩;rw[←e2];refine aH ?_;simp only[Ar,h0,aJ,aD hk,e1,hb,hv,bg,gB,arj he,aA,sS,hw]
  ·obtain⟨l',d',e2,hd',hl'⟩:=ih (i+1) d1 (l++ [(k,v,())]) (by omega) hd1 ⟨by rw[htk,arM];exact hl.1.append (List.Sublist.refl _),fun x hx=>by
    rcases arA.1 hx with h|h
    ·exact hl.2 x h
    ·simp only[asf]at h;subst h;exact⟨arp hv,he⟩⟩
   refine⟨l',d',?_,hd',hl'⟩;rw[←e2];refine aH ?_;have h1:decide (l.length+([(k,(v,()))]:List LT).length≤4294967296)=true:=arj (by simp;omega);simp only[Ar,h0,aJ,aD hk,e1,hb,hv,bg,gB,arl he,aA,sS,h1,hw]
theorem EK(d:gI)(hd:nL d):∃(l:List LT) (d':gI),m39 ((),((d,()),()))=some ((),((d',()),(l,())))∧nL d'∧qW iU l:=by
 obtain⟨l,d',h1,h2,h3⟩:=Po 4 0 d [] (by omega) hd ⟨List.nil_sublist _,fun x hx=>by cases hx⟩;refine⟨l,d',?_,h2,h3⟩;unfold m39;refine aN _ h1 rfl
theorem Xl{l:List LT}(h:qW iU l):Zr l:=by
 refine⟨by have:=h.1.length_le;rw[arq]at this;exact this,fun x hx=>⟨?_,(Yv _ (h.2 x hx).1).2⟩⟩;exact(Cr _ (h.1.subset (List.mem_map_of_mem hx))).2
theorem Tz:∀(n i:Nat) (d:gI) (l:List ByteArray),i+n=4→nL d→l.Sublist (iU.take i)→
  ∃(l':List ByteArray) (d':gI),aC CX (((i:Int),ali,()),((d,()),(l,())))=some ((),((d',()),(l',())))∧nL d'∧l'.Sublist iU:=by
 intro n
 induction n with
 |zero=>
  intro i d l hi hd hl;refine⟨l,d,aF ?_,hd,by rw[show i=4 by omega]at hl;exact hl⟩;have:decide ((i:Int)<4)=false:=arl (by omega);simp only[CX,this,aA,sS]
 |succ n ih=>
  intro i d l hi hd hl;obtain⟨k,hk⟩:=getD_some (l:=iU) (i:=i) (by show i<4;omega);obtain⟨b,d1,e1,hd1⟩:=Dk 3 d hd (by omega) (by omega);have h0:decide ((i:Int)<4)=true:=arj (by omega);have htk:iU.take (i+1)=iU.take i++ [k]:=by rw[asO,hk];rfl
  have hw:aO ((i:Int)+1)=((i+1:Nat):Int):=aI (by omega)
  have hlen:l.length≤4:=by
   have:=hl.length_le;rw[ar9]at this;omega
  cases b with
  |false=>
   obtain⟨l',d',e2,hd',hl'⟩:=ih (i+1) d1 l (by omega) hd1 (by rw[htk];exact hl.trans (List.sublist_append_left _ _));refine⟨l',d',?_,hd',hl'⟩;rw[←e2];refine aH ?_;simp only[CX,h0,aJ,aD hk,e1,aA,sS,hw]
  |true=>
   obtain⟨l',d',e2,hd',hl'⟩:=ih (i+1) d1 (l++ [k]) (by omega) hd1 (by rw[htk];exact hl.append (List.Sublist.refl _));refine⟨l',d',?_,hd',hl'⟩;rw[←e2];refine aH ?_;have h1:decide (l.length+ [k].length≤4294967296)=true:=arj (by simp;omega);simp only[CX,h0,aJ,aD hk,e1,aA,sS,h1,hw]
theorem Jr(d:gI)(hd:nL d):∃(l:List ByteArray) (d':gI),m62 ((),((d,()),()))=some ((),((d',()),(l,())))∧nL d'∧l.Sublist iU:=by
 obtain⟨l,d',h1,h2,h3⟩:=Tz 4 0 d [] (by omega) hd (List.nil_sublist _);refine⟨l,d',?_,h2,h3⟩;unfold m62;refine aN _ h1 rfl
theorem light(l:List Int):m9 ((l,()),())=some ((decide (l.length≤500),()),()):=by
 unfold m9;rw[show decide ((l.length:Int)≤500)=decide (l.length≤500)from asz.2 (by omega)]
theorem roll(l:List Int):m11 ((l,()),())=some ((),(((l,0,()),()),())):=rfl
abbrev yN:Type:=List MT×List MT×List ByteArray×Unit
abbrev big:Nat:=9223372036854775807
def qE(a b:List LT)(ks:List ByteArray):Bool:=ks.any fun k=> !decide (qm a k=qm b k)
theorem acS(a b:List LT)(ha:a.length≤big)(hb:b.length≤big)(ks:List ByteArray)(hk:ks.length≤big):∀(k i:Nat),i+k=ks.length→
  ∃j:Nat,aC rJ (((i:Int),ks,(ks.length:Int),()),((a,()),((b,()),())))=some (if qE a b (ks.drop i)then .inl (((j:Int),()),((a,()),((b,()),())))else .inr ((),((a,()),((b,()),())))):=by
 intro k
 induction k with
 |zero=>
  intro i h;refine⟨0,?_⟩;rw[arI (by omega)];refine aF ?_;have:decide ((i:Int)<(ks.length:Int))=false:=arl (by omega);simp only[rJ,this,aA,sS];rfl
 |succ k ih=>
  intro i h;obtain⟨e,he,hd⟩:=drop_at (l:=ks) (i:=i) (by omega);have hlt:decide ((i:Int)<(ks.length:Int))=true:=arj (by omega);have hw:aO ((i:Int)+1)=((i+1:Nat):Int):=aI (by unfold big at hk;omega);have q1:=Nn a e ha;have q2:=Nn b e hb;rw[hd,show qE a b (e::ks.drop (i+1))=((!decide (qm a e=qm b e))||qE a b (ks.drop (i+1)))from List.any_cons];cases hq:decide (qm a e=qm b e)
  ·refine⟨i,aF ?_⟩;simp only[rJ,aJ,aD he,hlt,q1,q2,bg,gB,hq,aA,sS];rfl
  ·obtain⟨j,hj⟩:=ih (i+1) (by omega);refine⟨j,?_⟩;rw[arE,ar0,←hj];refine aH ?_;simp only[rJ,aJ,aD he,hlt,q1,q2,bg,gB,hq,aA,sS,hw]
theorem acn(a b:List LT)(ha:a.length≤big)(hb:b.length≤big)(ks:List ByteArray)(hk:ks.length≤big):adg ((a,b,ks,()),())=some ((!qE a b ks,()),()):=by
 obtain⟨j,h⟩:=acS a b ha hb ks hk ks.length 0 (by omega);rw[arL]at h;unfold adg;rw[show aC rJ ((0,ks,(ks.length:Int),()),((a,()),((b,()),())))=_ from h];cases qE a b ks
 ·simp only[aA,sS,ar3,if_false]
 ·simp only[aA,sS,if_true,arj (show(j:Int)≥0 by omega)]
theorem ab1(a b:List LT)(ha:a.length≤big)(hb:b.length≤big)(ks:List ByteArray)(hk:ks.length≤big):∀(k i:Nat),i+k=ks.length→
  aC uG (((i:Int),ks,b,a,()),())=some (if qE a b (ks.drop i)then .inl ((false,()),())else .inr ((),())):=by
 intro k
 induction k with
 |zero=>
  intro i h;rw[arI (by omega)];refine aF ?_;have:decide ((i:Int)<(ks.length:Int))=false:=arl (by omega);simp only[uG,this,aA,sS];rfl
 |succ k ih=>
  intro i h;obtain⟨e,he,hd⟩:=drop_at (l:=ks) (i:=i) (by omega);have hlt:decide ((i:Int)<(ks.length:Int))=true:=arj (by omega);have hw:aO ((i:Int)+1)=((i+1:Nat):Int):=aI (by unfold big at hk;omega);have q1:=Nq a e ha;have q2:=Nq b e hb;rw[hd,show qE a b (e::ks.drop (i+1))=((!decide (qm a e=qm b e))||qE a b (ks.drop (i+1)))from List.any_cons];cases hq:decide (qm a e=qm b e)
  ·refine aF ?_;simp only[uG,aJ,aD he,hlt,q1,q2,bg,gB,hq,aA,sS];rfl
  ·rw[arE,ar0,←ih (i+1) (by omega)];refine aH ?_;simp only[uG,aJ,aD he,hlt,q1,q2,bg,gB,hq,aA,sS,hw]
theorem adj(a b:List LT)(ha:a.length≤big)(hb:b.length≤big)(ks:List ByteArray)(hk:ks.length≤big):adL ((ks,a,b,()),())=some ((!qE a b ks,()),()):=by
 have h:=ab1 a b ha hb ks hk ks.length 0 (by omega);rw[arL]at h;unfold adL;refine aN _ h ?_;cases qE a b ks<;>rfl
def RSz(r:yN):Prop:=PSs r.1∧PSs r.2.1∧r.2.2.1.length≤big
def X4(l:List yN):Prop:=l.length≤big∧∀r∈l,RSz r
def VA(f:List (List LT)):Prop:=f.length≤big∧∀l∈f,FT l
def IW(r:yN)(x f:List LT):Bool:=allM r.1 f&&(!allM r.2.1 f&& !qE x f r.2.2.1)
def GD(x:List LT)(fs:List (List LT))(r:yN):Bool:=allM r.2.1 x&&fs.any (IW r x)
def oH(l:List yN)(x:List LT)(fs:List (List LT)):Bool:=l.any (GD x fs)
theorem adG(r:yN)(hr:RSz r)(x:List LT)(hx:FT x)(fs:List (List LT))(hf:VA fs)(l:List yN)(n o:Int):∀(k i:Nat),i+k=fs.length→
  aC qQ (((i:Int),x,fs,fs,l,n,o,(fs.length:Int),()),((r,()),()))=some (if(fs.drop i).any (IW r x)then .inl ((true,()),())else .inr ((x,fs,l,n,o,()),())):=by
 intro k
 induction k with
 |zero=>
  intro i h;rw[arI (by omega)];refine aF ?_;have:decide ((i:Int)<(fs.length:Int))=false:=arl (by omega);simp only[qQ,this,aA,sS];rfl
 |succ k ih=>
  intro i h;obtain⟨e,he,hd⟩:=drop_at (l:=fs) (i:=i) (by omega);have hlt:decide ((i:Int)<(fs.length:Int))=true:=arj (by omega);have hlen:=hf.1;have hw:aO ((i:Int)+1)=((i+1:Nat):Int):=aI (by unfold big at hlen;omega);have hze:=hf.2 e (arp he);have q1:=sI r.1 e hr.1 hze;have q2:=sI r.2.1 e hr.2.1 hze;have q3:=acn x e hx.1 hze.1 r.2.2.1 hr.2.2;rw[hd,List.any_cons]
  have go:∀b,IW r x e=b→qQ (((i:Int),x,fs,fs,l,n,o,(fs.length:Int),()),((r,()),()))=(if b then some (.inr (.inl ((true,()),())))else some (.inl ((((i+1:Nat):Int),x,fs,fs,l,n,o,(fs.length:Int),()),((r,()),())))):=by
   intro b hb;unfold IW at hb;subst hb;simp only[qQ,aJ,aD he,hlt,q1,q2,q3,aA,sS];cases allM r.1 e<;>cases allM r.2.1 e<;>cases qE x e r.2.2.1<;>simp only[aA,sS,hw]<;>rfl
  cases hq:IW r x e
  ·rw[ar0,←ih (i+1) (by omega)];exact aH (go false hq)
  ·exact aF (go true hq)
theorem ads(l:List yN)(hl:X4 l)(x:List LT)(hx:FT x)(fs:List (List LT))(hf:VA fs):∀(k i:Nat),i+k=l.length→
  aC wz (((i:Int),x,fs,l,(l.length:Int),()),())=some (if(l.drop i).any (GD x fs)then .inl ((true,()),())else .inr ((),())):=by
 intro k
 induction k with
 |zero=>
  intro i h;rw[arI (by omega)];refine aF ?_;have:decide ((i:Int)<(l.length:Int))=false:=arl (by omega);simp only[wz,this,aA,sS];rfl
 |succ k ih=>
  intro i h;obtain⟨e,he,hd⟩:=drop_at (l:=l) (i:=i) (by omega);have hlt:decide ((i:Int)<(l.length:Int))=true:=arj (by omega);have hlen:=hl.1;have hw:aO ((i:Int)+1)=((i+1:Nat):Int):=aI (by unfold big at hlen;omega);have hze:=hl.2 e (arp he);have q1:=sI e.2.1 x hze.2.1 hx;have q2:=adG e hze x hx fs hf l (l.length:Int) (i:Int) fs.length 0 (by omega);rw[arL]at q2;rw[hd,List.any_cons]
  have go:∀b,GD x fs e=b→wz (((i:Int),x,fs,l,(l.length:Int),()),())=(if b then some (.inr (.inl ((true,()),())))else some (.inl ((((i+1:Nat):Int),x,fs,l,(l.length:Int),()),()))):=by
   intro b hb;unfold GD at hb;subst hb;simp only[wz,aJ,aD he,hlt,q1,aA,sS];cases allM e.2.1 x
   ·simp only[aA,sS,hw];rfl
   ·simp only[aA,sS];rw[show aC qQ ((0,x,fs,fs,l,(l.length:Int),(i:Int),(fs.length:Int),()),((e,()),()))=_ from q2];cases fs.any (IW e x)
    ·simp only[ar3,if_false,aA,sS,hw]
    ·simp only[if_true,aA,sS]
  cases hq:GD x fs e
  ·rw[ar0,←ih (i+1) (by omega)];exact aH (go false hq)
  ·exact aF (go true hq)
theorem adi(l:List yN)(hl:X4 l)(x:List LT)(hx:FT x)(fs:List (List LT))(hf:VA fs):adQ ((l,x,fs,()),())=some ((oH l x fs,()),()):=by
 have h:=ads l hl x hx fs hf l.length 0 (by omega);rw[arL]at h;unfold adQ;refine aN _ h ?_;unfold oH;cases l.any (GD x fs)<;>rfl
theorem abI(r:yN)(hr:RSz r)(x:List LT)(hx:FT x)(fs:List (List LT))(hf:VA fs)(l:List yN)(o:Nat)(ho:l[o]?=some r):∀(k i:Nat),i+k=fs.length→
  aC qN (((i:Int),fs,x,(o:Int),l,()),())=some (if(fs.drop i).any (IW r x)then .inl ((true,()),())else .inr ((fs,x,l,(o:Int),()),())):=by
 intro k
 induction k with
 |zero=>
  intro i h;rw[arI (by omega)];refine aF ?_;have:decide ((i:Int)<(fs.length:Int))=false:=arl (by omega);simp only[qN,this,aA,sS];rfl
 |succ k ih=>
  intro i h;obtain⟨e,he,hd⟩:=drop_at (l:=fs) (i:=i) (by omega);have hlt:decide ((i:Int)<(fs.length:Int))=true:=arj (by omega);have hlen:=hf.1;have hw:aO ((i:Int)+1)=((i+1:Nat):Int):=aI (by unfold big at hlen;omega);have hze:=hf.2 e (arp he);have q1:=sF r.1 e hr.1 hze;have q2:=sF r.2.1 e hr.2.1 hze;have q3:=adj x e hx.1 hze.1 r.2.2.1 hr.2.2;rw[hd,List.any_cons]
  have go:∀b,IW r x e=b→qN (((i:Int),fs,x,(o:Int),l,()),())=(if b then some (.inr (.inl ((true,()),())))else some (.inl ((((i+1:Nat):Int),fs,x,(o:Int),l,()),()))):=by
   intro b hb;unfold IW at hb;subst hb;simp only[qN,aJ,aD he,aD ho,hlt,q1,q2,q3,aA,sS];cases allM r.1 e<;>cases allM r.2.1 e<;>cases qE x e r.2.2.1<;>simp only[aA,sS,hw]<;>rfl
  cases hq:IW r x e
  ·rw[ar0,←ih (i+1) (by omega)];exact aH (go false hq)
  ·exact aF (go true hq)
theorem adM(l:List yN)(hl:X4 l)(x:List LT)(hx:FT x)(fs:List (List LT))(hf:VA fs):∀(k i:Nat),i+k=l.length→
  aC wN (((i:Int),fs,x,l,()),())=some (if(l.drop i).any (GD x fs)then .inl ((true,()),())else .inr ((),())):=by
 intro k
 induction k with
 |zero=>
  intro i h;rw[arI (by omega)];refine aF ?_;have:decide ((i:Int)<(l.length:Int))=false:=arl (by omega);simp only[wN,this,aA,sS];rfl
 |succ k ih=>
  intro i h;obtain⟨e,he,hd⟩:=drop_at (l:=l) (i:=i) (by omega);have hlt:decide ((i:Int)<(l.length:Int))=true:=arj (by omega);have hlen:=hl.1;have hw:aO ((i:Int)+1)=((i+1:Nat):Int):=aI (by unfold big at hlen;omega);have hze:=hl.2 e (arp he);have q1:=sF e.2.1 x hze.2.1 hx;have q2:=abI e hze x hx fs hf l i he fs.length 0 (by omega);rw[arL]at q2;rw[hd,List.any_cons]
  have go:∀b,GD x fs e=b→wN (((i:Int),fs,x,l,()),())=(if b then some (.inr (.inl ((true,()),())))else some (.inl ((((i+1:Nat):Int),fs,x,l,()),()))):=by
   intro b hb;unfold GD at hb;subst hb;simp only[wN,aJ,aD he,hlt,q1,aA,sS];cases allM e.2.1 x
   ·simp only[aA,sS,hw];rfl
   ·simp only[aA,sS];rw[show aC qN ((0,fs,x,(i:Int),l,()),())=_ from q2];cases fs.any (IW e x)
    ·simp only[ar3,if_false,aA,sS,hw]
    ·simp only[if_true,aA,sS]
  cases hq:GD x fs e
  ·rw[ar0,←ih (i+1) (by omega)];exact aH (go false hq)
  ·exact aF (go true hq)
theorem abq(l:List yN)(hl:X4 l)(x:List LT)(hx:FT x)(fs:List (List LT))(hf:VA fs):ac7 ((l,x,fs,()),())=some ((oH l x fs,()),()):=by
 have h:=adM l hl x hx fs hf l.length 0 (by omega);rw[arL]at h;unfold ac7;refine aN _ h ?_;unfold oH;cases l.any (GD x fs)<;>rfl
def wh(r:yN):Prop:=r.1.length≤8∧r.2.1.length≤8∧(∀m∈r.1,ny m)∧(∀m∈r.2.1,ny m)∧r.2.2.1.Sublist iU∧r.1≠ []∧r.2.1≠ []
theorem wh.z{r:yN}(h:wh r):RSz r:=by
 obtain⟨h1,h2,h3,h4,h5,_⟩:=h;refine⟨⟨by omega,fun m hm=>(h3 m hm).p⟩,⟨by omega,fun m hm=>(h4 m hm).p⟩,?_⟩;have:=h5.length_le;rw[show iU.length=4 from rfl]at this;unfold big;omega
theorem acv:ny ((bs [115,101,118]),(0,((bs [99,114,105,116]),()))):=by
 unfold ny;decide+kernel
theorem XI:∀(n:Nat) (i:Int) (d:gI) (l:List yN),nL d→i=n→l.length+n≤1000→(∀r∈l,wh r)→
  ∃(l':List yN) (d':gI),aC Gt ((i,()),((d,()),(l,())))=some ((),((d',()),(l',())))∧nL d'∧l'.length=l.length+n∧∀r∈l',wh r:=by
 intro n
 induction n with
 |zero=>
  intro i d l hd hi hl hg;refine⟨l,d,aF ?_,hd,rfl,hg⟩;have:decide (i>0)=false:=arl (by omega);simp only[Gt,this,aA,sS]
 |succ n ih=>
  intro i d l hd hi hl hg;obtain⟨s,d1,e1,hd1,hs,hsg⟩:=lM 1 d hd (by omega) (by omega);obtain⟨t,d2,e2,hd2,ht,htg⟩:=lM 1 d1 hd1 (by omega) (by omega);obtain⟨m,d3,e3,hd3,hm⟩:=sH d2 hd2;obtain⟨ks,d4,e4,hd4,hk⟩:=Jr d3 hd3;have h0:decide (i>0)=true:=arj (by omega);have b1:decide (s.length+([((bs [115,101,118]),(0,((bs [99,114,105,116]),())))]:List MT).length≤4294967296)=true:=arj (by simp;omega);have b2:decide (t.length+([m]:List MT).length≤4294967296)=true:=arj (by simp;omega);have b3:∀r:yN,decide (l.length+([r]:List yN).length≤4294967296)=true:=fun r=>arj (by simp;omega)
  obtain⟨l',d',e5,hd',hl',hg'⟩:=ih (i-1) d4 (l++ [(s++ [((bs [115,101,118]),(0,((bs [99,114,105,116]),())))],(t++ [m],(ks,())))]) hd4 (by omega) (by simp;omega) (fun x hx=>by
   rcases arA.1 hx with h|h
   ·exact hg x h
   ·simp only[asf]at h;subst h;refine⟨by simp;omega,by simp;omega,fun y hy=> ?_,fun y hy=> ?_,hk,by simp,by simp⟩
    ·rcases arA.1 hy with h|h
     ·exact hsg y h
     ·simp only[asf]at h;subst h;exact acv
    ·rcases arA.1 hy with h|h
     ·exact htg y h
     ·simp only[asf]at h;subst h;exact hm)
  refine⟨l',d',?_,hd',by rw[hl'];simp;omega,hg'⟩;rw[←e5];refine aH ?_;simp only[Gt,h0,e1,e2,e3,e4,aA,sS,b1,b2,b3,bI (x:=i-1) (by omega) (by omega)]
theorem YJ(d:gI)(hd:nL d):∃(l:List yN) (d':gI),m51 ((),((d,()),()))=some ((),((d',()),(l,())))∧nL d'∧l.length≤3∧∀r∈l,wh r:=by
 obtain⟨a,d1,e1,hd1,b1,_⟩:=dP 3 d hd (by omega);have b1:=b1 (by omega);obtain⟨l',d',e2,hd',hl',hg'⟩:=XI a.toNat a d1 [] hd1 (by omega) (by simp;omega) (fun m hm=>by cases hm);refine⟨l',d',?_,hd',by rw[hl'];simp;omega,hg'⟩;unfold m51;simp only[e1,asa,e2]
def fK{S E B:Type}(step:Nat→S→E→S⊕B)(fin:S→B):Nat→List E→S→B
 |_,[],s=>fin s
 |i,e::r,s=>match step i s e with
  | .inl s'=>fK step fin (i+1) r s'
  | .inr b=>b
theorem xL{A B S E:Type}{f:A→Option (A⊕B)}(l:List E)(st:Nat→S→A)(step:Nat→S→E→S⊕B)(fin:S→B)(I:Nat→S→Prop)
  (h1:∀i e s,l[i]?=some e→i<l.length→I i s→f (st i s)=some (match step i s e with| .inl s'=>.inl (st (i+1) s')| .inr b=>.inr b))
  (hI:∀i e s s',l[i]?=some e→I i s→step i s e= .inl s'→I (i+1) s')
  (h2:∀s,I l.length s→f (st l.length s)=some (.inr (fin s))):
  ∀(k i:Nat) (s:S),i+k=l.length→I i s→aC f (st i s)=some (fK step fin i (l.drop i) s):=by
 intro k
 induction k with
 |zero=>
  intro i s h hi;obtain rfl:i=l.length:=by omega
  rw[asj];exact aF (h2 s hi)
 |succ k ih=>
  intro i s h hi;obtain⟨e,he,hd⟩:=drop_at (l:=l) (i:=i) (by omega);have q:=h1 i e s he (by omega) hi;rw[hd];unfold fK
  cases hs:step i s e with
  |inl s'=>
   rw[hs]at q;simp only;rw[←ih (i+1) s' (by omega) (hI i e s s' he hi hs)];exact aH q
  |inr b=>
   rw[hs]at q;exact aF q
theorem bV{A B S E:Type}{f:A→Option (A⊕B)}(l:List E)(st:Nat→S→A)(step:Nat→S→E→S⊕B)(fin:S→B)
  (h1:∀i e s,l[i]?=some e→i<l.length→f (st i s)=some (match step i s e with| .inl s'=>.inl (st (i+1) s')| .inr b=>.inr b))
  (h2:∀s,f (st l.length s)=some (.inr (fin s))) (s:S):aC f (st 0 s)=some (fK step fin 0 l s):=by
 have:=xL l st step fin (fun _ _=>True) (fun i e s he hl _=>h1 i e s he hl) (fun _ _ _ _ _ _ _=>trivial) (fun s _=>h2 s) l.length 0 s (by omega) trivial
 rwa [arL]at this
theorem lu{S E B:Type}(g:S→E→S)(fin:S→B):∀(l:List E) (i:Nat) (s:S),fK (fun _ s e=>.inl (g s e)) fin i l s=fin (l.foldl g s):=by
 intro l
 induction l with
 |nil=>intro i s;rfl
 |cons e r ih=>intro i s;exact ih (i+1) (g s e)
theorem dM{A B E:Type}{f:A→Option (A⊕B)}(l:List E)(st:Nat→A)(fin:B)
  (h1:∀i e,l[i]?=some e→i<l.length→f (st i)=some (.inl (st (i+1)))) (h2:f (st l.length)=some (.inr fin)):aC f (st 0)=some fin:=by
 have:=bV (S:=Unit) l (fun i _=>st i) (fun _ _ _=>.inl ()) (fun _=>fin) (fun i e _ he hi=>h1 i e he hi) (fun _=>h2) ();exact this.trans (congrArg some (lu (fun _ _=>()) (fun _=>fin) l 0 ()))
theorem lZ{A B:Type}{f:A→Option (A⊕B)}{Q:B→Prop}(I:Nat→A→Prop)(n:Nat)
  (h1:∀i a,i<n→I i a→∃a',f a=some (.inl a')∧I (i+1) a') (h2:∀a,I n a→∃b,f a=some (.inr b)∧Q b):∀a,I 0 a→∃b,aC f a=some b∧Q b:=by
 have:∀(k i:Nat) a,i+k=n→I i a→∃b,aC f a=some b∧Q b:=by
  intro k
  induction k with
  |zero=>
   intro i a h hi;obtain rfl:i=n:=by omega
   obtain⟨b,h,hq⟩:=h2 a hi;exact⟨b,aF h,hq⟩
  |succ k ih=>
   intro i a h hi;obtain⟨a',h,hi'⟩:=h1 i a (by omega) hi;obtain⟨b,hb,hq⟩:=ih (i+1) a' (by omega) hi';exact⟨b,by rw[←hb];exact aH h,hq⟩
 exact fun a h=>this n 0 a (by omega) h
theorem bO{i n:Nat}(h:i<n):decide ((i:Int)<(n:Int))=true:=arj (by omega)
theorem bX(n:Nat):decide ((n:Int)<(n:Int))=false:=arl (by omega)
abbrev dm:Type:=Int×Int×Int×Int×List MT×Unit
def FZ(s:dm):Prop:=s.2.2.2.2.1.length≤4294967296∧∀m∈s.2.2.2.2.1,PSz m∧UU m
def uw(l:List dm):Prop:=l.length≤1000∧∀s∈l,FZ s
theorem FZ.p{s:dm}(h:FZ s):PSs s.2.2.2.2.1:=⟨by have:=h.1;omega,fun m hm=>(h.2 m hm).1⟩
theorem uw.at{l:List dm}(h:uw l){i:Nat}{e:dm}(he:l[i]?=some e):FZ e:=h.2 e (arp he)
def ai3(x:List LT)(t:Int)(s:dm):Bool:=decide (s.2.1≤t)&&(decide (t<s.2.2.1)&&allM s.2.2.2.2.1 x)
def Pg(x:List LT)(t:Int)(a:Int×Bool)(s:dm):Int×Bool:=bif ai3 x t s&&(!a.2||decide (s.1<a.1))then(s.1,true)else a
def xA(x:List LT)(t:Int)(l:List dm):Int×Bool:=l.foldl (Pg x t) (0,false)
theorem acz(l:List dm)(hl:uw l)(x:List LT)(hx:FT x)(t:Int):ade ((l,x,t,()),())=some (((xA x t l).1,(xA x t l).2,()),()):=by
 have h:=bV (f:=BA) l (fun i (a:Int×Bool)=>(((i:Int),a.1,a.2,x,t,l,(l.length:Int),()),())) (fun _ a e=>.inl (Pg x t a e)) (fun a=>((a.2,a.1,()),())) ?_ ?_ (0,false)
 ·rw[lu]at h;unfold ade;exact aN _ h rfl
 ·intro i e ⟨a1,a2⟩ he hi;have hl1:=hl.1;have q:=sI e.2.2.2.2.1 x (hl.at he).p hx;have hw:aO ((i:Int)+1)=((i+1:Nat):Int):=aI (by omega);unfold Pg ai3;simp only[BA,aJ,aD he,bO hi,q,aA,sS];cases decide (e.2.1≤t)<;>cases decide (t<e.2.2.1)<;>cases allM e.2.2.2.2.1 x<;>cases a2<;>cases decide (e.1<a1)<;>simp only[aA,sS,hw,arE,arB,arH,ar6,ar2,ar0]
 ·intro a;simp only[BA,bX,aA,sS]
theorem acH(l:List dm)(hl:uw l)(x:List LT)(hx:FT x)(t:Int):adP ((l,x,t,()),())=some (((xA x t l).1,(xA x t l).2,()),()):=by
 have h:=bV (f:=Cb) l (fun i (a:Int×Bool)=>(((i:Int),a.1,a.2,x,t,l,()),())) (fun _ a e=>.inl (Pg x t a e)) (fun a=>((a.2,a.1,()),())) ?_ ?_ (0,false)
 ·rw[lu]at h;unfold adP;exact aN _ h rfl
 ·intro i e ⟨a1,a2⟩ he hi;have hl1:=hl.1;have q:=sF e.2.2.2.2.1 x (hl.at he).p hx;have hw:aO ((i:Int)+1)=((i+1:Nat):Int):=aI (by omega);unfold Pg ai3;simp only[Cb,aJ,aD he,bO hi,q,aA,sS];cases decide (e.2.1≤t)<;>cases decide (t<e.2.2.1)<;>cases allM e.2.2.2.2.1 x<;>cases a2<;>cases decide (e.1<a1)<;>simp only[aA,sS,hw,arE,arB,arH,ar6,ar2,ar0]
 ·intro a;simp only[Cb,bX,aA,sS]
theorem jQ{E B:Type}(p:E→Bool)(b:Nat→B)(fin:B):∀(l:List E) (i:Nat),∃j,i≤j∧fK (fun i (_:Unit) e=>bif p e then .inr (b i)else .inl ()) (fun _=>fin) i l ()=bif l.any p then b j else fin:=by
 intro l
 induction l with
 |nil=>intro i;exact⟨i,arz _,rfl⟩
 |cons e r ih=>
  intro i;cases h:p e
  ·obtain⟨j,h1,h2⟩:=ih (i+1);refine⟨j,by omega,?_⟩;simp only[fK,h,asw,List.any_cons,ar0];exact h2
  ·exact⟨i,arz _,by simp only[fK,h,cond_true,List.any_cons,ar6]⟩
theorem M0(m:MT)(hm:UU m):Wq ((m,()),())=some ((!bD m,()),()):=by
 unfold Wq;exact aN _ (Ub m hm) rfl
theorem xH{E:Type}(p:E→Bool)(l:List E):(l.any fun e=> !p e)= !l.all p:=by
 induction l with
 |nil=>rfl
 |cons e r ih=>rw[List.any_cons,List.all_cons,ih,Bool.not_and]
theorem aaL(ms:List MT)(hs:ms.length≤big)(hm:∀m∈ms,UU m):∃j:Nat,aC wG ((0,ms,(ms.length:Int),()),())=some (bif ms.all bD then .inr ((),())else .inl (((j:Int),()),())):=by
 have h:=bV (f:=wG) ms (fun i (_:Unit)=>(((i:Int),ms,(ms.length:Int),()),())) (fun i _ e=>bif !bD e then .inr (.inl (((i:Int),()),()))else .inl ()) (fun _=>.inr ((),())) ?_ ?_ ()
 ·obtain⟨j,_,hj⟩:=jQ (fun e=> !bD e) (fun i:Nat=>(Sum.inl (((i:Int),()),()):((Int×Unit)×Unit)⊕(Unit×Unit))) (.inr ((),())) ms 0;refine⟨j,?_⟩;refine h.trans (congrArg some (hj.trans ?_));rw[xH];cases ms.all bD<;>rfl
 ·intro i e _ he hi;unfold big at hs;have hw:aO ((i:Int)+1)=((i+1:Nat):Int):=aI (by omega);simp only[wG,aJ,aD he,bO hi,M0 e (hm e (arp he)),aA,sS];cases bD e<;>simp only[aA,sS,hw,arE,arB]
 ·intro _;simp only[wG,bX,aA,sS]
theorem Nj(ms:List MT)(hs:ms.length≤big)(hm:∀m∈ms,UU m):WO ((ms,()),())=some ((ms.all bD,()),()):=by
 have h:=bV (f:=Ao) ms (fun i (_:Unit)=>(((i:Int),ms,()),())) (fun i _ e=>bif !bD e then .inr (.inl ((false,()),()))else .inl ()) (fun _=>.inr ((),())) ?_ ?_ ()
 ·obtain⟨j,_,hj⟩:=jQ (fun e=> !bD e) (fun i:Nat=>(Sum.inl ((false,()),()):((Bool×Unit)×Unit)⊕(Unit×Unit))) (.inr ((),())) ms 0;unfold WO;refine aN _ (h.trans (congrArg some hj)) ?_;rw[xH];cases ms.all bD<;>rfl
 ·intro i e _ he hi;unfold big at hs;have hw:aO ((i:Int)+1)=((i+1:Nat):Int):=aI (by omega);simp only[Ao,aJ,aD he,bO hi,UK e (hm e (arp he)),aA,sS];cases bD e<;>simp only[aA,sS,hw,arE,arB]
 ·intro _;simp only[Ao,bX,aA,sS]
def iy(last:Int)(s:dm):Int:=
 bif decide (s.1<1)||decide (s.1≤last)then 6
 else bif decide (s.2.1<0)||(decide (s.2.1≥s.2.2.1)||(decide (s.2.2.1>8589934592)||decide (s.2.2.2.1<0)))then 1
 else bif (s.2.2.2.2.1.length:Int)==0 then 7
 else bif decide ((s.2.2.2.2.1.length:Int)>8)then 5
 else bif s.2.2.2.2.1.all bD then 0 else 8
theorem ab4(s:dm)(hs:FZ s)(last:Int):acf ((s,last,()),())=some ((iy last s,()),()):=by
 obtain⟨j,hj⟩:=aaL s.2.2.2.2.1 (by have:=hs.1;unfold big;omega) (fun m h=>(hs.2 m h).2);unfold acf iy;have hj0:decide ((j:Int)≥0)=true:=arj (by omega);cases decide (s.1<1)<;>cases decide (s.1≤last)<;>simp only[aA,sS,arH,ar6,ar2,ar0];cases decide (s.2.1<0)<;>simp only[aA,sS,arH,ar6,ar2,ar0];cases decide (s.2.1≥s.2.2.1)<;>simp only[aA,sS,arH,ar6,ar2,ar0];cases decide (s.2.2.1>8589934592)<;>simp only[aA,sS,arH,ar6,ar2,ar0];cases decide (s.2.2.2.1<0)<;>simp only[aA,sS,arH,ar6,ar2,ar0];cases ((s.2.2.2.2.1.length:Int)==0)<;>simp only[aA,sS];cases decide ((s.2.2.2.2.1.length:Int)>8)<;>simp only[aA,sS];rw[hj];cases s.2.2.2.2.1.all bD<;>simp only[aA,sS,hj0]
def tQ:Int→List dm→Int
 |_,[]=>0
 |last,s::r=>bif iy last s !=0 then iy last s else tQ s.1 r
def iW(l:List dm):Int:=bif decide ((l.length:Int)>24)then 5 else tQ 0 l
theorem Pn{B:Type}(f:Int→B)(fin:B):∀(l:List dm) (i:Nat) (last:Int),∃b,fK (fun _ last e=>bif iy last e !=0 then .inr (f (iy last e))else .inl e.1) (fun _=>fin) i l last=b∧(tQ last l=0∧b=fin∨tQ last l≠0∧b=f (tQ last l)):=by
 intro l
 induction l with
 |nil=>intro i last;exact⟨fin,rfl,.inl ⟨rfl,rfl⟩⟩
 |cons s r ih=>
  intro i last;cases h:(iy last s !=0)
  ·obtain⟨b,h1,h2⟩:=ih (i+1) s.1;refine⟨b,?_,?_⟩
   ·simp only[fK,h,asw];exact h1
   ·simp only[tQ,h,asw];exact h2
  ·refine⟨f (iy last s),?_,.inr ⟨?_,?_⟩⟩
   ·simp only[fK,h,cond_true]
   ·simp only[tQ,h,cond_true];exact asi.1 h
   ·simp only[tQ,h,cond_true]
theorem Gv(l:List dm)(hl:uw l):m81 ((l,()),())=some ((iW l,()),()):=by
 unfold m81 iW;cases decide ((l.length:Int)>24)
 ·simp only[aA,sS];have h:=bV (f:=FM) l (fun i (last:Int)=>(((i:Int),last,l,(l.length:Int),()),())) (fun _ last e=>bif iy last e !=0 then .inr (.inl ((iy last e,()),()))else .inl e.1) (fun _=>.inr ((),())) ?_ ?_ 0
  ·obtain⟨b,h1,h2⟩:=Pn (fun c:Int=>(Sum.inl ((c,()),()):((Int×Unit)×Unit)⊕(Unit×Unit))) (.inr ((),())) l 0 0;refine aN b (h.trans (congrArg some h1)) ?_;rcases h2 with⟨e1,rfl⟩|⟨e1,rfl⟩
   ·rw[e1]
   ·rfl
  ·intro i e last he hi;have hl1:=hl.1;have hw:aO ((i:Int)+1)=((i+1:Nat):Int):=aI (by omega);simp only[FM,aJ,aD he,bO hi,ab4 e (hl.at he) last,aA,sS];cases iy last e !=0<;>simp only[aA,sS,hw]
  ·intro _;simp only[FM,bX,aA,sS]
 ·simp only[aA,sS]
theorem Hu (l:List dm) (hl:uw l):m87 ((l,()),())=some ((iW l,()),()):=by
 unfold m87 iW;cases decide ((l.length:Int)>24)
 ·simp only[aA,sS];have h:=xL (f:=Gb) l (fun i (last:Int)=>(((i:Int),l,()),())) (fun _ last e=>bif iy last e !=0 then .inr (.inl ((iy last e,()),()))else .inl e.1) (fun _=>.inr ((),()))
   (fun i last=>(i=0∧last=0)∨∃e,0<i∧l[i-1]?=some e∧last=e.1) ?_ ?_ ?_ l.length 0 0 (by omega) (.inl ⟨rfl,rfl⟩)
  ·rw[arL]at h;obtain⟨b,h1,h2⟩:=Pn (fun c:Int=>(Sum.inl ((c,()),()):((Int×Unit)×Unit)⊕(Unit×Unit))) (.inr ((),())) l 0 0;refine aN b (h.trans (congrArg some h1)) ?_;rcases h2 with⟨e1,rfl⟩|⟨e1,rfl⟩
   ·rw[e1]
   ·rfl
  ·intro i e last he hi hI;have hl1:=hl.1;have hw:aO ((i:Int)+1)=((i+1:Nat):Int):=aI (by omega);have hz:=hl.at he;have q:=Nj e.2.2.2.2.1 (by have:=hz.1;unfold big;omega) (fun m h=>(hz.2 m h).2)
   have key:((bif (decide (e.1<1))then(some ((true,(l,((i:Int),()))),((e,()),())))else(bif (decide ((i:Int)>0))then(Abs.rowAt l (aO ((i:Int)-1)) fun e60 _=>some ((decide (e.1≤e60.1),(l,((i:Int),()))),((e,()),())))else some ((false,(l,((i:Int),()))),((e,()),())))):Option ((Bool×List dm×Int×Unit)×((dm×Unit)×Unit)))=some ((decide (e.1<1)||decide (e.1≤last),(l,((i:Int),()))),((e,()),())):=by
    rcases hI with⟨rfl,rfl⟩|⟨p,h0,hp,rfl⟩
    ·cases h1:decide (e.1<1)
     ·have:=asF h1;rw[arl (show¬ e.1≤0 by omega)];rfl
     ·rfl
    ·cases h1:decide (e.1<1)
     ·have hw1:aO ((i:Int)-1)=((i-1:Nat):Int):=by rw[bI (by omega) (by omega)];omega
      simp only[arj (show(i:Int)>0 by omega),aJ,hw1,aD hp,aA,sS,ar0]
     ·rfl
   simp only[Gb,aJ,aD he,bO hi,aA,sS];simp only[aJ]at key;refine aN _ key ?_;unfold iy;simp only[q,aA,sS];cases decide (e.1<1)||decide (e.1≤last)<;>simp only[aA,sS]
   ·cases decide (e.2.1<0)<;>simp only[aA,sS,arH,ar6,ar2,ar0]
    ·cases decide (e.2.1≥e.2.2.1)<;>simp only[aA,sS,arH,ar6,ar2,ar0]
     ·cases decide (e.2.2.1>8589934592)<;>simp only[aA,sS,arH,ar6,ar2,ar0]
      ·cases decide (e.2.2.2.1<0)<;>simp only[aA,sS,arH,ar6,ar2,ar0]
       ·cases ((e.2.2.2.2.1.length:Int)==0)<;>simp only[aA,sS]
        ·cases decide ((e.2.2.2.2.1.length:Int)>8)<;>simp only[aA,sS]
         ·rw[q];cases e.2.2.2.2.1.all bD<;>simp only[aA,sS,hw,arE,arB]<;>rfl
         ·rfl
        ·rfl
       ·rfl
      ·rfl
     ·rfl
    ·rfl
   ·rfl
  ·intro i e s s' he hI hs;refine .inr ⟨e,by omega,by rw[Nat.add_sub_cancel];exact he,?_⟩;cases hc:(iy s e !=0)<;>rw[hc]at hs<;>simp only[cond_true,asw]at hs
   ·exact(Sum.inl.inj hs).symm
   ·cases hs
  ·intro _ _;simp only[Gb,bX,aA,sS]
 ·simp only[aA,sS]
theorem FK(l:List dm)(hl:uw l):Rp ((l,()),())=some ((),(l,())):=by
 have hl1:=hl.1;have h:=dM (f:=AY) l (fun i=>(((i:Int),(l.length:Int),()),(l,()))) ((),(l,())) ?_ ?_
 ·unfold Rp aiw;have hb:decide (l.length≤4294967296)=true:=arj (by omega);simp only[hb,aA,sS];exact aN _ h rfl
 ·intro i e he hi;have hw:aO ((i:Int)+1)=((i+1:Nat):Int):=aI (by omega);have hb:decide ((0:Int)≤(i:Int)∧(i:Int)<(l.length:Int))=true:=arj (by omega);have hc:decide (e.2.2.2.2.1.length≤4294967296)=true:=arj (hl.at he).1
  have hs:l.set i (e.1,(e.2.1,(e.2.2.1,(e.2.2.2.1,(e.2.2.2.2.1,())))))=l:=by
   obtain⟨hlt,rfl⟩:=ark.1 he;exact List.set_getElem_self hlt
  simp only[AY,agT,bO hi,hb,arn,he,hc,hs,hw,aA,sS]
 ·simp only[AY,bX,aA,sS]
def yI(l:List dm)(s:dm):Int×List dm:=bif iW (l++ [s]) !=0 then(iW (l++ [s]),[])else(0,l++ [s])
theorem uw.app{l:List dm}(hl:uw l)(h1:l.length≤999){s:dm}(hs:FZ s):uw (l++ [s]):=
 ⟨by simp;omega,fun x hx=>by
  rcases arA.1 hx with h|h
  ·exact hl.2 x h
  ·simp at h;subst h;exact hs⟩
theorem ah0(l:List dm)(hl:uw l)(h1:l.length≤999)(s:dm)(hs:FZ s):m63 ((l,s,()),())=some (((yI l s).1,()),((yI l s).2,())):=by
 unfold m63 yI;have q:=FK [s] ⟨by simp,fun x hx=>by simp at hx;subst hx;exact hs⟩;have hb:decide (l.length+([s]:List dm).length≤4294967296)=true:=arj (by simp;omega);simp only[FK l hl,q,hb,Gv _ (hl.app h1 hs),aA,sS];cases iW (l++ [s]) !=0<;>rfl
theorem aic(l:List dm)(hl:uw l)(h1:l.length≤999)(s:dm)(hs:FZ s):m99 ((l,s,()),())=some (((yI l s).1,()),((yI l s).2,())):=by
 unfold m99 yI;have hb:decide (l.length+([s]:List dm).length≤4294967296)=true:=arj (by simp;omega);have hc:decide (0+l.length≤4294967296)=true:=arj (by omega);simp only[hb,hc,Hu _ (hl.app h1 hs),aA,sS];cases iW (l++ [s]) !=0<;>rfl
theorem zU(id:Int):∀(l:List dm),(∀y∈l,y.1≠id)∨∃a s b,l=a++s::b∧(∀y∈a,y.1≠id)∧s.1=id:=by
 intro l
 induction l with
 |nil=>exact .inl fun y hy=>by cases hy
 |cons e r ih=>
  by_cases h:e.1=id
  ·exact .inr ⟨[],e,r,rfl,(fun y hy=>by cases hy),h⟩
  ·rcases ih with h1|⟨a,s,b,rfl,h1,h2⟩
   ·exact .inl fun y hy=>by
     rcases arW.1 hy with rfl|hy
     ·exact h
     ·exact h1 y hy
   ·exact .inr ⟨e::a,s,b,rfl,fun y hy=>by
     rcases arW.1 hy with rfl|hy
     ·exact h
     ·exact h1 y hy,h2⟩
def Mj(t:Int)(a:List dm)(s:dm)(b:List dm):Int×List dm:=
 bif decide (s.2.2.1≤t)then(9,[])else bif decide (s.2.1≥t)then(0,a++b)else(0,a++(s.1,s.2.1,t,s.2.2.2)::b)
theorem ad3:∀(l:List dm) (last:Int),tQ last l=0→∀s∈l,last<s.1:=by
 intro l
 induction l with
 |nil=>intro last _ s hs;cases hs
 |cons e r ih=>
  intro last h s hs;unfold tQ at h;cases hc:(iy last e !=0)
  ·rw[hc]at h;simp only[asw]at h;have h0:iy last e=0:=by simpa using hc
   have hlt:last<e.1:=by
    unfold iy at h0;cases h1:decide (e.1≤last)
    ·have:=asF h1;omega
    ·rw[h1,arH]at h0;cases h0
   rcases arW.1 hs with rfl|hs
   ·exact hlt
   ·have:=ih _ h s hs;omega
  ·rw[hc]at h;simp only[cond_true]at h;rw[h]at hc;cases hc
theorem KI:∀(a:List dm) (last:Int) (s:dm) (b:List dm),tQ last (a++s::b)=0→∀y∈b,s.1<y.1:=by
 intro a
 induction a with
 |nil=>
  intro last s b h;rw[asR]at h;unfold tQ at h;cases hc:(iy last s !=0)
  ·rw[hc]at h;exact ad3 b s.1 h
  ·rw[hc]at h;simp only[cond_true]at h;rw[h]at hc;cases hc
 |cons e r ih=>
  intro last s b h;rw[asE]at h;unfold tQ at h;cases hc:(iy last e !=0)
  ·rw[hc]at h;exact ih e.1 s b h
  ·rw[hc]at h;simp only[cond_true]at h;rw[h]at hc;cases hc
theorem Dw{l:List dm}(h:iW l=0):tQ 0 l=0∧l.length≤24:=by
 unfold iW at h;cases hc:decide ((l.length:Int)>24)
 ·rw[hc]at h;exact⟨h,by have:=asF hc;omega⟩
 ·rw[hc]at h;cases h
theorem YX(l:List dm)(hl:l.length≤1000)(id:Int):∃b,aC Cy ((0,l,(l.length:Int),()),((id,()),()))=some b∧
  (((∀y∈l,y.1≠id)→b= .inr ((),((id,()),())))∧∀a s c,l=a++s::c→(∀y∈a,y.1≠id)→s.1=id→b= .inl (((a.length:Int),()),((id,()),()))):=by
 have h:=bV (f:=Cy) l (fun i (_:Unit)=>(((i:Int),l,(l.length:Int),()),((id,()),()))) (fun i _ e=>bif e.1==id then .inr (.inl (((i:Int),()),((id,()),())))else .inl ()) (fun _=>.inr ((),((id,()),()))) ?_ ?_ ()
 ·refine⟨_,h,?_,?_⟩
  ·intro hn;clear h;generalize 0=k
   revert k
   clear hl
   induction l with
   |nil=>intro k;rfl
   |cons e r ih=>
    intro k;have:(e.1==id)=false:=ar7.2 (hn e (as3 ..));simp only[fK,this,asw];exact ih (fun y hy=>hn y (as0 _ hy)) (k+1)
  ·intro a s c he ha hs;subst he;clear h hl
   have:∀k:Nat,fK (fun i (_:Unit) (e:dm)=>bif e.1==id then .inr (.inl (((i:Int),()),((id,()),())))else .inl ()) (fun _=>(.inr ((),((id,()),())):((Int×Unit)×((Int×Unit)×Unit))⊕(Unit×((Int×Unit)×Unit)))) k (a++s::c) ()= .inl ((((k+a.length:Nat):Int),()),((id,()),())):=by
    induction a with
    |nil=>
     intro k;have:(s.1==id)=true:=beq_iff_eq.2 hs;simp only[fK,asR,this,cond_true,List.length_nil,asQ]
    |cons e r ih=>
     intro k;have:(e.1==id)=false:=ar7.2 (ha e (as3 ..));simp only[fK,asE,this,asw];rw[ih (fun y hy=>ha y (as0 _ hy)) (k+1),arS,show k+1+r.length=k+(r.length+1) by omega]
   have q:=this 0;rw[arZ]at q;exact q
 ·intro i e _ he hi;have hw:aO ((i:Int)+1)=((i+1:Nat):Int):=aI (by omega);simp only[Cy,aJ,aD he,bO hi,aA,sS];cases (e.1==id)<;>simp only[aA,sS,hw]
 ·intro _;simp only[Cy,bX,aA,sS]
theorem adb(l:List dm)(hl:uw l)(id t:Int)(h:iW l≠0):m76 ((l,id,t,()),())=some ((iW l,()),([],())):=by
 unfold m76;have:(iW l !=0)=true:=asi.2 h;simp only[Gv l hl,this,aA,sS]
theorem ZX(l:List dm)(hl:uw l)(id t:Int)(h:iW l=0)(hn:∀y∈l,y.1≠id):m76 ((l,id,t,()),())=some ((3,()),([],())):=by
 unfold m76;obtain⟨b,hb,h1,_⟩:=YX l hl.1 id;rw[h1 hn]at hb;simp only[Gv l hl,h,aA,sS];rw[hb];rfl
theorem ab0(a:List dm)(s:dm)(c:List dm)(hl:uw (a++s::c))(t:Int)(h:iW (a++s::c)=0)(ha:∀y∈a,y.1≠s.1):
  m76 ((a++s::c,s.1,t,()),())=some (((Mj t a s c).1,()),((Mj t a s c).2,())):=by
 unfold m76;have hl1:=hl.1;obtain⟨b,hb,_,h2⟩:=YX (a++s::c) hl.1 s.1;rw[h2 a s c rfl ha rfl]at hb;have hs:(a++s::c)[a.length]?=some s:=by rw[ar1 (arz _),Nat.sub_self];rfl
 have hlen:a.length<(a++s::c).length:=by simp
 have h0:decide ((a.length:Int)<0)=false:=arl (by omega);have hbd:decide ((0:Int)≤(a.length:Int)∧(a.length:Int)<((a++s::c).length:Int))=true:=arj (by omega);have hw:aO ((a.length:Int)+1)=((a.length+1:Nat):Int):=aI (by omega);have hd:decide ((0:Int)≤(a.length:Int)∧(a.length:Int)<((a.length+1:Nat):Int)∧((a.length+1:Nat):Int)≤((a++s::c).length:Int)∧(a++s::c).length≤4294967296)=true:=arj (by omega);have ht:(a++s::c).take a.length=a:=List.take_left' rfl;have hdr:(a++s::c).drop (a.length+1)=c:=by rw[show a++s::c=(a++ [s])++c by simp];exact List.drop_left' (by simp)
 have hset:∀z,(a++s::c).set a.length z=a++z::c:=fun z=>by rw[List.set_append_right _ _ (arz _),Nat.sub_self];rfl
 simp only[Gv _ hl,h,aA,sS];rw[hb];have hsum:∀{A B C:Type} (x:A) (f:A→C) (g:B→C),aA (.inl x:A⊕B) f g=f x:=fun _ _ _=>rfl
 simp only[aA,sS,h0,aJ,aD hs,FK _ hl,hbd,arn,hs,hw,hd,ht,hdr,hset];unfold Mj;cases decide (s.2.2.1≤t)<;>cases decide (s.2.1≥t)<;>simp only[aA,sS,as4]
def zO(l:List dm)(id t:Int)(i:Int)(f:Bool)(o:List dm):(Int×Int×Int×List dm×Bool×Unit)×(List dm×Unit):=((i,t,id,l,f,()),(o,()))
theorem Tj(l:List dm)(hl:l.length≤1000)(id t:Int)(f:Bool)(y:List dm):∀(p x o:List dm),l=x++(p++y)→(∀z∈p,z.1≠id)→o.length≤x.length→
  aC fC (zO l id t (x.length:Int) f o)=aC fC (zO l id t ((x.length+p.length:Nat):Int) f (o++p)):=by
 intro p
 induction p with
 |nil=>intro x o _ _ _;rw[arP];rfl
 |cons e r ih=>
  intro x o he hp ho;have hlen:x.length<l.length:=by rw[he];simp
  have hat:l[x.length]?=some e:=by rw[he,ar1 (arz _),Nat.sub_self];rfl
  have hw:aO ((x.length:Int)+1)=((x.length+1:Nat):Int):=aI (by omega);have hne:(e.1==id)=false:=ar7.2 (hp e (as3 ..));have hb:decide (o.length+([e]:List dm).length≤4294967296)=true:=arj (by simp;omega);have q:=ih (x++ [e]) (o++ [e]) (by rw[he];simp) (fun z hz=>hp z (as0 _ hz)) (by simp;omega);rw[show(x++ [e]).length=x.length+1 by simp,show x.length+1+r.length=x.length+(e::r).length by simp;omega,show o++ [e]++r=o++e::r by simp]at q;rw[←q];refine aH ?_;unfold zO;simp only[fC,aJ,aD hat,bO hlen,hne,hb,hw,aA,sS]
theorem Zy(l:List dm)(hl:uw l)(id t:Int)(h:iW l≠0):Mv ((l,id,t,()),())=some ((iW l,()),([],())):=by
 unfold Mv;have:(iW l !=0)=true:=asi.2 h;simp only[Hu l hl,this,aA,sS]
theorem afE(l:List dm)(id t:Int)(f:Bool)(o:List dm):aC fC (zO l id t (l.length:Int) f o)=some (.inr ((f,()),(o,()))):=by
 refine aF ?_;unfold zO;simp only[fC,bX,aA,sS]
theorem WT(l:List dm)(hl:uw l)(id t:Int)(h:iW l=0)(hn:∀y∈l,y.1≠id):Mv ((l,id,t,()),())=some ((3,()),([],())):=by
 unfold Mv;have q:=Tj l hl.1 id t false [] l [] [] (by simp) hn (arz _);rw[show(([]:List dm).length+l.length:Nat)=l.length by simp,asR,afE]at q;simp only[Hu l hl,h,aA,sS];exact aN _ q rfl
theorem aaO(a:List dm)(s:dm)(c:List dm)(hl:uw (a++s::c))(t:Int)(h:iW (a++s::c)=0)(ha:∀y∈a,y.1≠s.1):
  Mv ((a++s::c,s.1,t,()),())=some (((Mj t a s c).1,()),((Mj t a s c).2,())):=by
 have hl1:=hl.1;have hc:∀y∈c,y.1≠s.1:=fun y hy=>by have:=KI a 0 s c (Dw h).1 y hy;omega
 have hat:(a++s::c)[a.length]?=some s:=by rw[ar1 (arz _),Nat.sub_self];rfl
 have hlen:a.length<(a++s::c).length:=by simp
 have hw:aO ((a.length:Int)+1)=((a.length+1:Nat):Int):=aI (by omega);have q1:=Tj (a++s::c) hl.1 s.1 t false (s::c) a [] [] rfl ha (arz _);rw[show(([]:List dm).length+a.length:Nat)=a.length by simp,asR]at q1
 have q2:∀o:List dm,o.length≤a.length+1→aC fC (zO (a++s::c) s.1 t ((a.length+1:Nat):Int) true o)=some (.inr ((true,()),(o++c,()))):=by
  intro o ho;have q:=Tj (a++s::c) hl.1 s.1 t true [] c (a++ [s]) o (by simp) hc (by simp;omega);rw[show(a++ [s]).length+c.length=(a++s::c).length by simp;omega,afE,show(a++ [s]).length=a.length+1 by simp]at q;exact q
 have hsum:∀{A B C:Type} (x:A) (f:A→C) (g:B→C),aA (.inl x:A⊕B) f g=f x:=fun _ _ _=>rfl
 have hsum2:∀{A B C:Type} (x:B) (f:A→C) (g:B→C),aA (.inr x:A⊕B) f g=g x:=fun _ _ _=>rfl
 have hb:∀z:dm,decide (a.length+([z]:List dm).length≤4294967296)=true:=fun z=>arj (by simp;omega)
 unfold Mv;simp only[Hu _ hl,h,aA,sS];rw[show aC fC ((0,t,s.1,a++s::c,false,()),([],()))=aC fC (zO (a++s::c) s.1 t (a.length:Int) false a)from q1];unfold Mj;cases h1:decide (s.2.2.1≤t)
 ·cases h2:decide (s.2.1≥t)
  ·have e:aC fC (zO (a++s::c) s.1 t (a.length:Int) false a)=aC fC (zO (a++s::c) s.1 t ((a.length+1:Nat):Int) true (a++ [(s.1,s.2.1,t,s.2.2.2)])):=by
    refine aH ?_;unfold zO;simp only[fC,aJ,aD hat,bO hlen,h1,h2,hb,hw,aA,sS]
   rw[e,q2 _ (by simp),arJ];rfl
  ·have e:aC fC (zO (a++s::c) s.1 t (a.length:Int) false a)=aC fC (zO (a++s::c) s.1 t ((a.length+1:Nat):Int) true a):=by
    refine aH ?_;unfold zO;simp only[fC,aJ,aD hat,bO hlen,h1,h2,hb,hw,aA,sS]
   rw[e,q2 _ (by omega)];rfl
 ·have e:aC fC (zO (a++s::c) s.1 t (a.length:Int) false a)=some (.inl ((9,()),([],()))):=by
   refine aF ?_;unfold zO;simp only[fC,aJ,aD hat,bO hlen,h1,hb,hw,aA,sS]
  rw[e];simp only[aA,sS]
theorem XV(l:List dm)(hl:uw l):m53 ((l,l,()),())=some ((true,()),()):=by
 have hl1:=hl.1;have h:=dM (f:=Gh) l (fun i=>(((i:Int),l,l,()),())) (.inr ((),())) ?_ ?_
 ·unfold m53;simp only[aA,sS];exact aN _ h rfl
 ·intro i e he hi;have hw:aO ((i:Int)+1)=((i+1:Nat):Int):=aI (by omega);have hz:=(hl.at he).1;have h2:=dM (f:=BF) e.2.2.2.2.1 (fun j=>(((j:Int),l,l,(i:Int),()),((e,()),((e,()),())))) (.inr ((l,l,(i:Int),()),())) ?_ ?_
  ·simp only[Gh,bO hi,aJ,aD he,aA,sS];refine aN _ h2 ?_;simp only[hw]
  ·intro j m hj hji;have hw2:aO ((j:Int)+1)=((j+1:Nat):Int):=aI (by omega)
   have h1:∀b:ByteArray,(b==b)=true:=fun b=>by
    show(b.data==b.data)=true
    exact asu _
   simp only[BF,bO hji,aJ,aD hj,hw2,h1,asu,Bool.and_self,arE,aA,sS]
  ·simp only[BF,bX,aA,sS]
 ·simp only[Gh,bX,aA,sS]
def GoodS(s:dm):Prop:=0≤s.2.1∧s.2.1<s.2.2.1∧s.2.2.1≤2000∧0≤s.2.2.2.1∧s.2.2.2.2.1≠ []∧s.2.2.2.2.1.length≤8∧∀m∈s.2.2.2.2.1,ny m
theorem GoodS.z{s:dm}(h:GoodS s):FZ s:=⟨by have:=h.2.2.2.2.2.1;omega,fun m hm=>⟨(h.2.2.2.2.2.2 m hm).p,(h.2.2.2.2.2.2 m hm).z⟩⟩
theorem KP{l:List MT}(h:∀m∈l,ny m):l.all bD=true:=arQ.2 fun m hm=>(h m hm).1
def Hq(last:Int)(l:List dm):Int:=l.foldl (fun _ s=>s.1) last
theorem Ch(id:Int)(d:gI)(hd:nL d):∃(f t b:Int) (ms:List MT) (d':gI),m43 ((id,()),((d,()),()))=some ((),((d',()),((id,f,t,b,()),()),ms,()))∧nL d'∧GoodS (id,f,t,b,ms,()):=by
 obtain⟨a1,d1,e1,hd1,b1,_⟩:=dP 600 d hd (by omega);have b1:=b1 (by omega);obtain⟨a2,d2,e2,hd2,b2,_⟩:=dP 900 d1 hd1 (by omega);have b2:=b2 (by omega);obtain⟨a3,d3,e3,hd3,b3,_⟩:=dP 3 d2 hd2 (by omega);have b3:=b3 (by omega);obtain⟨ms,d4,e4,hd4,hl,hg⟩:=lM 1 d3 hd3 (by omega) (by omega);obtain⟨m,d5,e5,hd5,hm⟩:=sH d4 hd4;have hb:decide (ms.length+([m]:List MT).length≤4294967296)=true:=arj (by simp;omega);refine⟨a1,a1+1+a2,a3,ms++ [m],d5,?_,hd5,b1.1,by show a1<a1+1+a2;omega,by show a1+1+a2≤2000;omega,b3.1,by simp,by show(ms++ [m]).length≤8;simp;omega,?_⟩
 ·unfold m43;simp only[e1,e2,e3,e4,e5,hb,aA,sS,bI (x:=a1+1) (by omega) (by omega),bI (x:=a1+1+a2) (by omega) (by omega)]
 ·intro x hx;rcases arA.1 hx with h|h
  ·exact hg x h
  ·simp at h;subst h;exact hm
def Md(l:List dm):Prop:=l.length≤3∧tQ 0 l=0∧∀s∈l,s.1≤2*(l.length:Int)∧GoodS s
theorem Md.iQ{l:List dm}(h:Md l):iW l=0:=by
 unfold iW;rw[arl (by have:=h.1;omega),asw,h.2.1]
theorem Md.z{l:List dm}(h:Md l):uw l:=⟨by have:=h.1;omega,fun s hs=>(h.2.2 s hs).2.z⟩
def tJ{E:Type}(bad:Option E→E→Bool):Option E→List E→Bool
 |_,[]=>true
 |p,e::r=> !bad p e&&tJ bad (some e) r
theorem jV{A B E:Type}{f:A→Option (A⊕B)}(l:List E)(st:Nat→A)(bad:Option E→E→Bool)(no yes:B)
  (h1:∀i e,l[i]?=some e→i<l.length→f (st i)=some (bif bad (if i=0 then none else l[i-1]?) e then .inr no else .inl (st (i+1)))) (h2:f (st l.length)=some (.inr yes)):
  aC f (st 0)=some (bif tJ bad none l then yes else no):=by
 have key:∀(k i:Nat),i+k=l.length→aC f (st i)=some (bif tJ bad (if i=0 then none else l[i-1]?) (l.drop i)then yes else no):=by
  intro k
  induction k with
  |zero=>
   intro i h;obtain rfl:i=l.length:=by omega
   rw[asj];exact aF h2
  |succ k ih=>
   intro i h;obtain⟨e,he,hd⟩:=drop_at (l:=l) (i:=i) (by omega);have q:=h1 i e he (by omega);rw[hd];unfold tJ;cases hb:bad (if i=0 then none else l[i-1]?) e
   ·rw[hb]at q;have:=ih (i+1) (by omega);rw[if_neg (by omega),Nat.add_sub_cancel,he]at this;rw[arB,arU,←this];exact aH q
   ·rw[hb]at q;exact aF q
 have:=key l.length 0 (by omega);rw[arL]at this;exact this
theorem jA{E:Type}{l:List E}{i:Nat}(hi:i<l.length):i=0∨∃p,0<i∧l[i-1]?=some p∧(i≤9223372036854775807→aO ((i:Int)-1)=((i-1:Nat):Int)):=by
 by_cases h:i=0
 ·exact .inl h
 ·obtain⟨p,hp⟩:=getD_some (l:=l) (i:=i-1) (by omega);exact .inr ⟨p,by omega,hp,fun hb=>by rw[bI (by omega) (by omega)];omega⟩
def leB(a b:ByteArray):Bool:=Op.bytesLess a.toList b.toList||a.toList==b.toList
def Hl(p:Option ByteArray)(k:ByteArray):Bool:= !mX k||(match p with|none=>false|some q=>leB k q)
def jK(l:List ByteArray):Bool:=tJ Hl none l
theorem abz(s:ByteArray)(hs:s.size≤big):aeg ((s,()),())=some ((mX s,()),()):=by
 unfold aeg;exact aN _ (MR s hs) rfl
theorem TW(l:List ByteArray)(hl:l.length≤big)(hs:∀k∈l,k.size≤big):Zw ((l,()),())=some ((jK l,()),()):=by
 have h:=jV (f:=vZ) l (fun i=>(((i:Int),l,l,(l.length:Int),()),())) Hl (.inl ((false,()),())) (.inr ((),())) ?_ ?_
 ·unfold Zw;refine aN _ h ?_;unfold jK;cases tJ Hl none l<;>rfl
 ·intro i e he hi;unfold big at hl;have hw:aO ((i:Int)+1)=((i+1:Nat):Int):=aI (by omega);have q:=abz e (hs e (arp he));rcases jA hi with h0|⟨p,h0,hp,hp1⟩
  ·rw[if_pos h0];have:decide ((i:Int)>0)=false:=arl (by omega);unfold Hl;simp only[vZ,aJ,aD he,bO hi,q,this,aA,sS];cases mX e<;>simp only[aA,sS,hw,ar2]
  ·rw[if_neg (by omega),hp];have:decide ((i:Int)>0)=true:=arj (by omega);unfold Hl leB;simp only[vZ,aJ,aD he,bO hi,q,this,hp1 (by omega),aD hp,aA,sS];cases mX e<;>cases Op.bytesLess e.toList p.toList||e.toList==p.toList<;>simp only[aA,sS,hw,ar2,arH]
 ·simp only[vZ,bX,aA,sS]
theorem Uu(l:List ByteArray)(hl:l.length≤big)(hs:∀k∈l,k.size≤big):aaw ((l,()),())=some ((jK l,()),()):=by
 have h:=jV (f:=vD) l (fun i=>(((i:Int),l,()),())) Hl (.inl ((false,()),())) (.inr ((),())) ?_ ?_
 ·unfold aaw;refine aN _ h ?_;unfold jK;cases tJ Hl none l<;>rfl
 ·intro i e he hi;unfold big at hl;have hw:aO ((i:Int)+1)=((i+1:Nat):Int):=aI (by omega);have q:=N9 e (hs e (arp he));rcases jA hi with h0|⟨p,h0,hp,hp1⟩
  ·rw[if_pos h0];have:decide ((i:Int)>0)=false:=arl (by omega);unfold Hl;simp only[vD,aJ,aD he,bO hi,q,this,aA,sS];cases mX e<;>simp only[aA,sS,hw,ar2]
  ·rw[if_neg (by omega),hp];have:decide ((i:Int)>0)=true:=arj (by omega);unfold Hl leB;simp only[vD,aJ,aD he,bO hi,q,this,hp1 (by omega),aD hp,aA,sS];cases mX e<;>cases Op.bytesLess e.toList p.toList||e.toList==p.toList<;>simp only[aA,sS,hw,ar2,arH]
 ·simp only[vD,bX,aA,sS]
def MJ{E:Type}(iQ:E→Int):List E→Int
 | []=>0
 |e::r=>bif iQ e !=0 then iQ e else MJ iQ r
theorem zY{A B E:Type}{f:A→Option (A⊕B)}(l:List E)(st:Nat→A)(iQ:E→Int)(no:Int→B)(yes:B)
  (h1:∀i e,l[i]?=some e→i<l.length→f (st i)=some (bif iQ e !=0 then .inr (no (iQ e))else .inl (st (i+1)))) (h2:f (st l.length)=some (.inr yes)):
  aC f (st 0)=some (bif MJ iQ l !=0 then no (MJ iQ l)else yes):=by
 have key:∀(k i:Nat),i+k=l.length→aC f (st i)=some (bif MJ iQ (l.drop i) !=0 then no (MJ iQ (l.drop i))else yes):=by
  intro k
  induction k with
  |zero=>
   intro i h;obtain rfl:i=l.length:=by omega
   rw[asj];exact aF h2
  |succ k ih=>
   intro i h;obtain⟨e,he,hd⟩:=drop_at (l:=l) (i:=i) (by omega);have q:=h1 i e he (by omega);rw[hd];unfold MJ;cases hb:(iQ e !=0)
   ·rw[hb]at q;rw[asw,←ih (i+1) (by omega)];exact aH q
   ·rw[hb]at q;rw[cond_true,hb];exact aF q
 have:=key l.length 0 (by omega);rw[arL]at this;exact this
def TSz(r:yN):Prop:=(r.1.length≤big∧∀m∈r.1,UU m)∧(r.2.1.length≤big∧∀m∈r.2.1,UU m)∧r.2.2.1.length≤big∧∀k∈r.2.2.1,k.size≤big
def DZ(r:yN):Int:=
 bif (r.1.length:Int)==0||(r.2.1.length:Int)==0 then 7
 else bif decide ((r.1.length:Int)>8)||(decide ((r.2.1.length:Int)>8)||decide ((r.2.2.1.length:Int)>12))then 5
 else bif !r.1.all bD||(!r.2.1.all bD|| !jK r.2.2.1)then 8 else 0
def vP(l:List yN):Int:=bif decide ((l.length:Int)>12)then 5 else MJ DZ l
theorem OW(ms:List MT)(hs:ms.length≤big)(hm:∀m∈ms,UU m):∃j:Nat,aC wR ((0,ms,(ms.length:Int),()),())=some (bif ms.all bD then .inr ((),())else .inl (((j:Int),()),()))∧
  aC vY ((0,ms,(ms.length:Int),()),())=some (bif ms.all bD then .inr ((),())else .inl (((j:Int),()),())):=by
 have h:=bV (f:=wR) ms (fun i (_:Unit)=>(((i:Int),ms,(ms.length:Int),()),())) (fun i _ e=>bif !bD e then .inr (.inl (((i:Int),()),()))else .inl ()) (fun _=>.inr ((),())) ?_ ?_ ();have g:=bV (f:=vY) ms (fun i (_:Unit)=>(((i:Int),ms,(ms.length:Int),()),())) (fun i _ e=>bif !bD e then .inr (.inl (((i:Int),()),()))else .inl ()) (fun _=>.inr ((),())) ?_ ?_ ()
 ·obtain⟨j,_,hj⟩:=jQ (fun e=> !bD e) (fun i:Nat=>(Sum.inl (((i:Int),()),()):((Int×Unit)×Unit)⊕(Unit×Unit))) (.inr ((),())) ms 0
  have hh:(bif (ms.any fun e=> !bD e)then(Sum.inl (((j:Int),()),()):((Int×Unit)×Unit)⊕(Unit×Unit))else .inr ((),()))=(bif ms.all bD then .inr ((),())else .inl (((j:Int),()),())):=by
   rw[xH];cases ms.all bD<;>rfl
  exact⟨j,h.trans (congrArg some (hj.trans hh)),g.trans (congrArg some (hj.trans hh))⟩
 ·intro i e _ he hi;unfold big at hs;have hw:aO ((i:Int)+1)=((i+1:Nat):Int):=aI (by omega);simp only[vY,aJ,aD he,bO hi,M0 e (hm e (arp he)),aA,sS];cases bD e<;>simp only[aA,sS,hw,arE,arB]
 ·intro _;simp only[vY,bX,aA,sS]
 ·intro i e _ he hi;unfold big at hs;have hw:aO ((i:Int)+1)=((i+1:Nat):Int):=aI (by omega);simp only[wR,aJ,aD he,bO hi,M0 e (hm e (arp he)),aA,sS];cases bD e<;>simp only[aA,sS,hw,arE,arB]
 ·intro _;simp only[wR,bX,aA,sS]
theorem ac0(r:yN)(hr:TSz r):adh ((r,()),())=some ((DZ r,()),()):=by
 obtain⟨⟨a1,a2⟩,⟨b1,b2⟩,c1,c2⟩:=hr;obtain⟨j,hj,_⟩:=OW r.1 a1 a2;obtain⟨k,_,hk⟩:=OW r.2.1 b1 b2;have q:=TW r.2.2.1 c1 c2;have hj0:decide ((j:Int)≥0)=true:=arj (by omega);have hk0:decide ((k:Int)≥0)=true:=arj (by omega);unfold adh DZ;cases ((r.1.length:Int)==0)<;>simp only[aA,sS,arH,ar6,ar2,ar0];cases ((r.2.1.length:Int)==0)<;>simp only[aA,sS,arH,ar6,ar2,ar0];cases decide ((r.1.length:Int)>8)<;>simp only[aA,sS,arH,ar6,ar2,ar0];cases decide ((r.2.1.length:Int)>8)<;>simp only[aA,sS,arH,ar6,ar2,ar0];cases decide ((r.2.2.1.length:Int)>12)<;>simp only[aA,sS,arH,ar6,ar2,ar0];rw[hj,hk];cases r.1.all bD<;>simp only[aA,sS,hj0,q,arE,arB,arH,ar6,ar2,ar0];cases r.2.1.all bD<;>simp only[aA,sS,hk0,arE,arB,arH,ar6,ar2,ar0];cases jK r.2.2.1<;>simp only[aA,sS,arE,arB]
theorem ai0(l:List yN)(hl:l.length≤big)(hr:∀r∈l,TSz r):m79 ((l,()),())=some ((vP l,()),()):=by
 unfold m79 vP;cases decide ((l.length:Int)>12)
 ·simp only[aA,sS];have h:=zY (f:=Gl) l (fun i=>(((i:Int),l,(l.length:Int),()),())) DZ (fun c=>.inl ((c,()),())) (.inr ((),())) ?_ ?_
  ·refine aN _ h ?_;cases hc:(MJ DZ l !=0)
   ·have:MJ DZ l=0:=by simpa using hc
    rw[this];rfl
   ·rfl
  ·intro i e he hi;unfold big at hl;have hw:aO ((i:Int)+1)=((i+1:Nat):Int):=aI (by omega);simp only[Gl,aJ,aD he,bO hi,ac0 e (hr e (arp he)),aA,sS];cases DZ e !=0<;>simp only[aA,sS,hw]
  ·simp only[Gl,bX,aA,sS]
 ·simp only[aA,sS]
theorem ag4 (l:List yN) (hl:l.length≤big) (hr:∀r∈l,TSz r):m80 ((l,()),())=some ((vP l,()),()):=by
 unfold m80 vP;cases decide ((l.length:Int)>12)
 ·simp only[aA,sS];have h:=zY (f:=FH) l (fun i=>(((i:Int),l,()),())) DZ (fun c=>.inl ((c,()),())) (.inr ((),())) ?_ ?_
  ·refine aN _ h ?_;cases hc:(MJ DZ l !=0)
   ·have:MJ DZ l=0:=by simpa using hc
    rw[this];rfl
   ·rfl
  ·intro i e he hi;unfold big at hl;have hw:aO ((i:Int)+1)=((i+1:Nat):Int):=aI (by omega);obtain⟨⟨a1,a2⟩,⟨b1,b2⟩,c1,c2⟩:=hr e (arp he);have q1:=Nj e.1 a1 a2;have q2:=Nj e.2.1 b1 b2;have q3:=Uu e.2.2.1 c1 c2;unfold DZ;simp only[FH,aJ,aD he,bO hi,aA,sS];cases ((e.1.length:Int)==0)<;>simp only[aA,sS,arH,ar6,ar2,ar0]
   ·cases ((e.2.1.length:Int)==0)<;>simp only[aA,sS,arH,ar6,ar2,ar0]
    ·cases decide ((e.1.length:Int)>8)<;>simp only[aA,sS,arH,ar6,ar2,ar0]
     ·cases decide ((e.2.1.length:Int)>8)<;>simp only[aA,sS,arH,ar6,ar2,ar0]
      ·cases decide ((e.2.2.1.length:Int)>12)<;>simp only[aA,sS,q1,q2,q3,arH,ar6,ar2,ar0]
       ·cases e.1.all bD<;>simp only[aA,sS,arE,arB,arH,ar6,ar2,ar0]
        ·rfl
        ·cases e.2.1.all bD<;>simp only[aA,sS,arE,arB,arH,ar6,ar2,ar0]
         ·rfl
         ·cases jK e.2.2.1<;>simp only[aA,sS,hw,arE,arB]<;>rfl
       ·rfl
      ·rfl
     ·rfl
    ·rfl
   ·rfl
  ·simp only[FH,bX,aA,sS]
 ·simp only[aA,sS]
theorem ad2(r:List yN)(hr:X4 r)(l:List dm)(hl:uw l)(x:List LT)(hx:FT x)(f:List (List LT))(hf:VA f)(t:Int):abS ((r,l,x,f,t,()),())=some (((xA x t l).2||oH r x f,()),()):=by
 unfold abS;simp only[acz l hl x hx,adi r hr x hx f hf,aA,sS];cases (xA x t l).2<;>rfl
theorem ai9(r:List yN)(hr:X4 r)(l:List dm)(hl:uw l)(x:List LT)(hx:FT x)(f:List (List LT))(hf:VA f)(t:Int):m95 ((r,l,x,f,t,()),())=some (((xA x t l).2||oH r x f,()),()):=by
 unfold m95;simp only[acH l hl x hx,abq r hr x hx f hf,aA,sS];cases (xA x t l).2<;>rfl
theorem Yc(a b:ByteArray):bl (a++b)=bl a++bl b:=by
 show(a++b).data.toList=_
 rw[ByteArray.data_append,Array.toList_append]
theorem aa7(a b:ByteArray):(a++b).size=a.size+b.size:=ByteArray.size_append
theorem mK(a b:List UInt8):gM a++gM b=gM (a++b):=Hf (by rw[Yc,KG,KG,KG])
theorem agP(s:ByteArray)(b:List UInt8):s++gM b=gM (bl s++b):=Hf (by rw[Yc,KG,KG])
def Jo(p:Option LT)(x:LT):Bool:= !mX x.1||(!yG x.2.1||(x.2.1.toList==ByteArray.empty.toList||(match p with|none=>false|some q=>leB x.1 q.1)))
def cO(l:List LT):Bool:= !decide ((l.length:Int)>12)&&tJ Jo none l
def Fg(l:List LT):Prop:=l.length≤big∧∀x∈l,x.1.size≤big∧x.2.1.size≤big
theorem Dv(l:List LT)(hl:Fg l):m66 ((l,()),())=some ((cO l,()),()):=by
 unfold m66 cO;cases hc:decide ((l.length:Int)>12)
 ·simp only[aA,sS];have h:=jV (f:=Cj) l (fun i=>(((i:Int),l,l,(l.length:Int),()),())) Jo (.inl ((false,()),())) (.inr ((),())) ?_ ?_
  ·refine aN _ h ?_;cases tJ Jo none l<;>rfl
  ·intro i e he hi;have hl1:=hl.1;unfold big at hl1;have hw:aO ((i:Int)+1)=((i+1:Nat):Int):=aI (by omega);obtain⟨z1,z2⟩:=hl.2 e (arp he);have q1:=MR e.1 z1;have q2:=U0 e.2.1 z2;rcases jA hi with h0|⟨p,h0,hp,hp1⟩
   ·rw[if_pos h0];have:decide ((i:Int)>0)=false:=arl (by omega);unfold Jo;simp only[Cj,aJ,aD he,bO hi,q1,q2,this,aA,sS];cases mX e.1<;>cases yG e.2.1<;>cases (e.2.1.toList==ByteArray.empty.toList)<;>simp only[aA,sS,hw,ar2,arH,ar0,ar6]
   ·rw[if_neg (by omega),hp];have:decide ((i:Int)>0)=true:=arj (by omega);unfold Jo leB;simp only[Cj,aJ,aD he,bO hi,q1,q2,this,hp1 (by omega),aD hp,aA,sS];cases mX e.1<;>cases yG e.2.1<;>cases (e.2.1.toList==ByteArray.empty.toList)<;>cases Op.bytesLess e.1.toList p.1.toList||e.1.toList==p.1.toList<;>simp only[aA,sS,hw,ar2,arH,ar0,ar6]
  ·simp only[Cj,bX,aA,sS]
 ·simp only[aA,sS]
theorem Dz(l:List LT)(hl:Fg l):m57 ((l,()),())=some ((cO l,()),()):=by
 unfold m57 cO;cases hc:decide ((l.length:Int)>12)
 ·simp only[aA,sS];have h:=jV (f:=Cc) l (fun i=>(((i:Int),l,()),())) Jo (.inl ((false,()),())) (.inr ((),())) ?_ ?_
  ·refine aN _ h ?_;cases tJ Jo none l<;>rfl
  ·intro i e he hi;have hl1:=hl.1;unfold big at hl1;have hw:aO ((i:Int)+1)=((i+1:Nat):Int):=aI (by omega);obtain⟨z1,z2⟩:=hl.2 e (arp he);have q1:=N9 e.1 z1;have q2:=UQ e.2.1 z2;rcases jA hi with h0|⟨p,h0,hp,hp1⟩
   ·rw[if_pos h0];have:decide ((i:Int)>0)=false:=arl (by omega);unfold Jo;simp only[Cc,aJ,aD he,bO hi,q1,q2,this,aA,sS];cases mX e.1<;>cases yG e.2.1<;>cases (e.2.1.toList==ByteArray.empty.toList)<;>simp only[aA,sS,hw,ar2,arH,ar0,ar6]
   ·rw[if_neg (by omega),hp];have:decide ((i:Int)>0)=true:=arj (by omega);unfold Jo leB;simp only[Cc,aJ,aD he,bO hi,q1,q2,this,hp1 (by omega),aD hp,aA,sS];cases mX e.1<;>cases yG e.2.1<;>cases (e.2.1.toList==ByteArray.empty.toList)<;>cases Op.bytesLess e.1.toList p.1.toList||e.1.toList==p.1.toList<;>simp only[aA,sS,hw,ar2,arH,ar0,ar6]
  ·simp only[Cc,bX,aA,sS]
 ·simp only[aA,sS]
theorem Am{E:Type}{bad:Option E→E→Bool}:∀{l:List E} {p:Option E},tJ bad p l=true→∀x∈l,∃q,bad q x=false
 | [],_,_,x,hx=>by cases hx
 |e::r,p,h,x,hx=>by
  unfold tJ at h;rw[ar8]at h;rcases arW.1 hx with rfl|hx
  ·exact⟨p,by simpa using h.1⟩
  ·exact Am h.2 x hx
theorem adt{q:Option LT}{x:LT}(h:Jo q x=false):mX x.1=true∧yG x.2.1=true∧x.2.1≠ByteArray.empty:=by
 unfold Jo at h;simp only[asg]at h;refine⟨by simpa using h.1,by simpa using h.2.1,fun e=> ?_⟩;rw[e]at h;simp at h
theorem fE{l:List LT}(h:cO l=true):l.length≤12∧∀x∈l,mX x.1=true∧yG x.2.1=true∧x.2.1≠ByteArray.empty:=by
 unfold cO at h;rw[ar8]at h;refine⟨?_,fun x hx=> ?_⟩
 ·have:decide ((l.length:Int)>12)=false:=by simpa using h.1
  have:=asF this;omega
 ·obtain⟨q,hq⟩:=Am h.2 x hx;exact adt hq
theorem FD{s:ByteArray}(h:mX s=true):s.size≤24:=by
 have:=(ael (s:=bl s) h).2.1
 rwa [bJ]at this
theorem yj{s:ByteArray}(h:yG s=true):s.size≤64:=by
 have h:acI (bl s)=true:=h;unfold acI at h;rw[ar8]at h;have:=arx h.2
 rwa [bJ]at this
theorem UH:∀(a b:List UInt8),esc (a++b)=esc a++esc b
 | [],b=>rfl
 |c::a,b=>by
  rw[asE];simp only[esc];rw[UH a b];split<;>rfl
theorem I5(s:ByteArray):(lC s).size≤2*s.size+2:=by
 unfold lC;rw[size_mk];have:=xR s.data.toList;have e:s.data.toList.length=s.size:=bJ s;simp;omega
theorem ab6(s:ByteArray)(hs:s.size≤1048576):adx ((s,()),())=some ((lC s,()),()):=by
 have h:=lZ (f:=uH) (Q:=fun b=>b=((gM (34::esc (bl s)),()),())) (fun i st=>st=(((i:Int),s,gM (34::esc ((bl s).take i)),()),())) s.size ?_ ?_ _ rfl
 ·obtain⟨b,h1,rfl⟩:=h;unfold adx;refine aN _ (show aC uH ((0,s,bs [34],()),())=_ from h1) ?_;have hl:=xR (bl s);rw[bJ]at hl;have hb:decide ((gM (34::esc (bl s))).size+1≤4294967296)=true:=arj (by rw[size_mk,arS];omega);simp only[hb,aA,sS];unfold lC;rw[show bs [34]=gM [34]from rfl,mK];rfl
 ·rintro i _ hi rfl;obtain⟨c,hc⟩:=getD_some (l:=bl s) (i:=i) (by rw[bJ];exact hi);have hlt:decide ((i:Int)<(s.size:Int))=true:=arj (by omega);have hbd:decide ((0:Int)≤(i:Int)∧(i:Int)<(s.size:Int))=true:=arj (by omega);have hw:aO ((i:Int)+1)=((i+1:Nat):Int):=aI (by omega);have h0:decide ((0:Int)≤(i:Int))=true:=arj (by omega);have h1:decide ((0:Int)≤((i+1:Nat):Int))=true:=arj (by omega);have h2:decide (i≤i+1∧i+1≤s.size)=true:=arj (by omega)
  have hx:s.extract i (i+1)=gM [c]:=Hf (by
   have hcl:i<(bl s).length:=by rw[bJ];exact hi
   rw[o8,KG,List.drop_eq_getElem_cons hcl,show i+1-i=1 by omega,List.take_succ_cons,asV];rw[(ark.1 hc).2])
  have htk:(bl s).take (i+1)=(bl s).take i++ [c]:=by rw[asO,hc];rfl
  have hl:=xR ((bl s).take i);rw[ar9]at hl;have hsz:∀b:List UInt8,b.length≤2→decide ((gM (34::(esc ((bl s).take i)++b))).size+1≤4294967296)=true:=fun b hb=>arj (by rw[size_mk];simp;omega)
  have hs0:decide ((gM (34::esc ((bl s).take i))).size+1≤4294967296)=true:=by have:=hsz [] (by simp);rwa [arP]at this
  have hs1:(gM [c]).size=1:=rfl
  have hs92:gM (34::esc ((bl s).take i))++bs [92]=gM (34::(esc ((bl s).take i)++ [92])):=by
   rw[show bs [92]=gM [92]from rfl,mK];rfl
  have e34:(u8 c==34)=decide (c=34):=by
   by_cases h:c=34
   ·subst h;rfl
   ·rw[arl h];exact ar7.2 fun e=>h (UInt8.toNat_inj.1 (by unfold u8 at e;show c.toNat=34;omega))
  have e92:(u8 c==92)=decide (c=92):=by
   by_cases h:c=92
   ·subst h;rfl
   ·rw[arl h];exact ar7.2 fun e=>h (UInt8.toNat_inj.1 (by unfold u8 at e;show c.toNat=92;omega))
  refine⟨_,?_,rfl⟩;rw[htk,UH];simp only[uH,hlt,hbd,byte_at hc,e34,e92,aA,sS];by_cases c34:c=34
  ·have he:esc [c]=[92,c]:=by simp[esc,c34]
   simp only[arj c34,aA,sS,hs0,hs92,h0,hw,h1,arn,h2,hx,hs1,hsz [92] (by simp),mK,he];simp
  ·by_cases c92:c=92
   ·have he:esc [c]=[92,c]:=by simp[esc,c92]
    simp only[arl c34,arj c92,aA,sS,hs0,hs92,h0,hw,h1,arn,h2,hx,hs1,hsz [92] (by simp),mK,he];simp
   ·have he:esc [c]=[c]:=by simp[esc,c34,c92]
    simp only[arl c34,arl c92,aA,sS,hs0,h0,hw,h1,arn,h2,hx,hs1,mK,he];simp
 ·rintro _ rfl;refine⟨_,?_,rfl⟩;have:decide ((s.size:Int)<(s.size:Int))=false:=arl (by omega);simp only[uH,this,aA,sS];rw[arY (by rw[bJ];exact arz _)]
theorem E8:∀l:List (List UInt8),Lib.join l [44]=commas l
 | []=>rfl
 | [x]=>Lib.join_one x [44]
 |x::y::l=>by
  rw[Lib.join_cons,wV x (by simp),←E8 (y::l),Lib.join_cons];simp[Lib.joinTail]
def eP(x:LT):List UInt8:=item (bl x.1) [61] (bl x.2.1)
def dX(l:List LT):List UInt8:=123::(commas (l.map eP)++ [125])
def BQ(l:List LT):ByteArray:=if cO l then gM (dX l)else ByteArray.empty
theorem LK(x:LT):(x.1++bs [61])++lC x.2.1=gM (eP x):=by
 rw[show bs [61]=gM [61]from rfl,agP];unfold lC eP item;rw[mK];simp[bl]
theorem PK{x:LT}(h1:mX x.1=true)(h2:yG x.2.1=true):(eP x).length≤160:=by
 have a:=FD h1;have b:=yj h2;have:=xR (bl x.2.1);rw[bJ]at this;unfold eP item;simp[bJ];omega
theorem xK{l:List LT}(h:cO l=true)(i:Nat):(commas ((l.map eP).take i)).length≤2000:=by
 obtain⟨h1,h2⟩:=fE h
 have:=Ie ((l.map eP).take i) 160 (fun x hx=>by
  obtain⟨y,hy,rfl⟩:=asn.1 (List.mem_of_mem_take hx);exact PK (h2 y hy).1 (h2 y hy).2.1)
 have hl:((l.map eP).take i).length≤12:=by rw[ar9,arq];omega
 have:=ar5 161 hl;omega
theorem LD(l:List LT)(hl:Fg l):Xn ((l,()),())=some ((BQ l,()),()):=by
 unfold Xn BQ;simp only[Dv l hl,aA,sS];cases hv:cO l
 ·simp only[aA,sS,ar3,if_false]
 ·obtain⟨h1,h2⟩:=fE hv;simp only[aA,sS,if_true];have h:=lZ (f:=uF) (Q:=fun b=>b=((),(l.map fun x=>gM (eP x),()))) (fun i st=>st=(((i:Int),l,(l.length:Int),()),((l.take i).map fun x=>gM (eP x),()))) l.length ?_ ?_ _ rfl
  ·obtain⟨b,h3,rfl⟩:=h;refine aN _ (show aC uF ((0,l,(l.length:Int),()),([],()))=_ from h3) ?_
   have hj:ug (l.map fun x=>gM (eP x)) (bs [44])=gM (commas (l.map eP)):=by
    unfold ug;rw[as1];exact congrArg gM (E8 _)
   have hp:=xK hv l.length;rw[arY (by rw[arq];exact arz _)]at hp;have b1:decide (List.length (l.map fun x=>gM (eP x))≤4294967296∧(gM (commas (l.map eP))).size≤140737488355328)=true:=arj (by rw[arq,size_mk];omega);have b2:decide (1+(gM (commas (l.map eP))).size≤4294967296)=true:=arj (by rw[size_mk];omega);have b3:decide ((gM (123::commas (l.map eP))).size+1≤4294967296)=true:=arj (by rw[size_mk,arS];omega);simp only[hj,b1,b2,aA,sS];rw[show bs [123]=gM [123]from rfl,mK,show [123]++commas (l.map eP)=123::commas (l.map eP)from rfl,b3,show bs [125]=gM [125]from rfl,mK];rfl
  ·rintro i _ hi rfl;obtain⟨e,he⟩:=getD_some (l:=l) (i:=i) hi;obtain⟨k1,k2,_⟩:=h2 e (arp he);have z1:=FD k1;have z2:=yj k2;have z3:=I5 e.2.1;have hw:aO ((i:Int)+1)=((i+1:Nat):Int):=aI (by omega);have b1:decide (e.1.size+1≤4294967296)=true:=arj (by omega);have b2:decide (e.2.1.size≤4294967296)=true:=arj (by omega);have b3:decide ((e.1++(bs [61])).size+(lC e.2.1).size≤4294967296)=true:=arj (by rw[aa7];show e.1.size+1+_≤_;omega);have b4:decide (((l.take i).map fun x=>gM (eP x)).length+ [gM (eP e)].length≤4294967296)=true:=arj (by simp;omega);refine⟨_,?_,rfl⟩;rw[show l.take (i+1)=l.take i++ [e] by rw[asO,he];rfl,arM];simp only[uF,aJ,aD he,bO hi,b1,b2,b3,LK,b4,hw,aA,sS];rfl
  ·rintro _ rfl;refine⟨_,?_,rfl⟩;simp only[uF,bX,aA,sS];rw[arY (arz _)]
theorem EC:∀(l:List (List UInt8)) (x:List UInt8),l≠ []→commas (l++ [x])=commas l++44::x
 | [],_,h=>absurd rfl h
 | [a],x,_=>rfl
 |a::b::l,x,_=>by
  rw[asE,wV a (by simp),EC (b::l) x (by simp),wV a (by simp)];simp
theorem R4(l:List LT)(hl:Fg l):m59 ((l,()),())=some ((BQ l,()),()):=by
 unfold m59 BQ;simp only[Dz l hl,aA,sS];cases hv:cO l
 ·simp only[aA,sS,ar3,if_false]
 ·obtain⟨h1,h2⟩:=fE hv;simp only[aA,sS,if_true];have h:=lZ (f:=xS) (Q:=fun b=>b=((gM (123::commas (l.map eP)),()),())) (fun i st=>st=(((i:Int),l,gM (123::commas ((l.map eP).take i)),()),())) l.length ?_ ?_ _ rfl
  ·obtain⟨b,h3,rfl⟩:=h;refine aN _ (show aC xS ((0,l,bs [123],()),())=_ from h3) ?_;have hp:=xK hv l.length;rw[arY (by rw[arq];exact arz _)]at hp;have b3:decide ((gM (123::commas (l.map eP))).size+1≤4294967296)=true:=arj (by rw[size_mk,arS];omega);simp only[b3,aA,sS];rw[show bs [125]=gM [125]from rfl,mK];rfl
  ·rintro i _ hi rfl;obtain⟨e,he⟩:=getD_some (l:=l) (i:=i) hi;obtain⟨k1,k2,_⟩:=h2 e (arp he);have z1:=FD k1;have z2:=yj k2;have z3:=I5 e.2.1;have q:=ab6 e.2.1 (by omega);have hp:=xK hv i;have hl2:=PK k1 k2;have hw:aO ((i:Int)+1)=((i+1:Nat):Int):=aI (by omega);have b1:decide (e.1.size+1≤4294967296)=true:=arj (by omega);have b3:decide ((e.1++(bs [61])).size+(lC e.2.1).size≤4294967296)=true:=arj (by rw[aa7];show e.1.size+1+_≤_;omega);have hm:(l.map eP)[i]?=some (eP e):=by rw[ars,he];rfl
   have htk:(l.map eP).take (i+1)=(l.map eP).take i++ [eP e]:=by rw[asO,hm];rfl
   refine⟨_,?_,rfl⟩;rw[htk];by_cases h0:i=0
   ·subst h0;have b5:decide ((gM (123::commas ((l.map eP).take 0))).size+(gM (eP e)).size≤4294967296)=true:=arj (by rw[size_mk,size_mk,arS];omega);have d0:decide (((0:Nat):Int)>0)=false:=rfl;simp only[xS,aJ,aD he,bO hi,d0,b1,q,b3,LK,b5,hw,mK,aA,sS];rfl
   ·have d0:decide ((i:Int)>0)=true:=arj (by omega);have b4:decide ((gM (123::commas ((l.map eP).take i))).size+1≤4294967296)=true:=arj (by rw[size_mk,arS];omega)
    have e44:gM (123::commas ((l.map eP).take i))++bs [44]=gM (123::(commas ((l.map eP).take i)++ [44])):=by
     rw[show bs [44]=gM [44]from rfl,mK];rfl
    have b5:decide ((gM (123::(commas ((l.map eP).take i)++ [44]))).size+(gM (eP e)).size≤4294967296)=true:=arj (by rw[size_mk,size_mk,arS,arC];simp;omega)
    have hne:(l.map eP).take i≠ []:=by
     intro h;have:=congrArg List.length h;rw[ar9,arq,List.length_nil]at this;omega
    simp only[xS,aJ,aD he,bO hi,d0,b4,e44,b1,q,b3,LK,b5,hw,mK,aA,sS];rw[EC _ _ hne];simp
  ·rintro _ rfl;refine⟨_,?_,rfl⟩;simp only[xS,bX,aA,sS];rw[arY (by rw[arq];exact arz _)]
def iA(ks:List ByteArray)(l:List LT):List LT:=l.filter fun x=>ks.any fun k=>decide (k=x.1)
theorem Q0(ks:List ByteArray)(x:List LT):(iA ks x).Sublist x:=List.filter_sublist
theorem aer(ks:List ByteArray)(s:ByteArray)(hk:ks.length≤big):∃j:Nat,adk ((ks,s,()),())=some ((bif ks.any (fun k=>decide (k=s))then(j:Int)else -1,()),()):=by
 have h:=bV (f:=CP) ks (fun i (_:Unit)=>(((i:Int),ks,s,(ks.length:Int),()),())) (fun i _ e=>bif decide (e=s)then .inr (.inl (((i:Int),()),()))else .inl ()) (fun _=>.inr ((),())) ?_ ?_ ()
 ·obtain⟨j,_,hj⟩:=jQ (fun e=>decide (e=s)) (fun i:Nat=>(Sum.inl (((i:Int),()),()):((Int×Unit)×Unit)⊕(Unit×Unit))) (.inr ((),())) ks 0;refine⟨j,?_⟩;unfold adk;refine aN _ (h.trans (congrArg some hj)) ?_
  cases ks.any fun k=>decide (k=s)<;>rfl
 ·intro i e _ he hi;unfold big at hk;have hw:aO ((i:Int)+1)=((i+1:Nat):Int):=aI (by omega)
  have hc:(s.toList==e.toList)=decide (e=s):=by
   rw[bg,bg,gB];exact asz.2 ⟨Eq.symm,Eq.symm⟩
  simp only[CP,aJ,aD he,bO hi,hc,aA,sS];cases decide (e=s)<;>simp only[aA,sS,hw]
 ·intro _;simp only[CP,bX,aA,sS]
theorem U5(ks:List ByteArray)(s:ByteArray)(hk:ks.length≤big):Mk ((ks,s,()),())=some ((ks.any (fun k=>decide (k=s)),()),()):=by
 obtain⟨j,h⟩:=aer ks s hk;unfold Mk;refine aN _ h ?_
 cases ks.any fun k=>decide (k=s)
 ·rfl
 ·simp only[cond_true,arj (show(j:Int)≥0 by omega)]
theorem ad8(l:List LT)(ks:List ByteArray)(hl:l.length≤1048576)(hk:ks.length≤big):adz ((l,ks,()),())=some ((),(iA ks l,())):=by
 have h:=lZ (f:=vJ) (Q:=fun b=>b=((),(iA ks l,()))) (fun i st=>st=(((i:Int),ks,l,(l.length:Int),()),(iA ks (l.take i),()))) l.length ?_ ?_ _ rfl
 ·obtain⟨b,h3,rfl⟩:=h;unfold adz;exact aN _ (show aC vJ ((0,ks,l,(l.length:Int),()),([],()))=_ from h3) rfl
 ·rintro i _ hi rfl;obtain⟨e,he⟩:=getD_some (l:=l) (i:=i) hi;have hw:aO ((i:Int)+1)=((i+1:Nat):Int):=aI (by omega)
  have hlen:(iA ks (l.take i)).length≤i:=by
   have:=asC (fun x:LT=>ks.any fun k=>decide (k=x.1)) (l.take i);rw[ar9]at this;unfold iA;omega
  have b1:decide ((iA ks (l.take i)).length+ [e].length≤4294967296)=true:=arj (by simp;omega);refine⟨_,?_,rfl⟩;rw[show l.take (i+1)=l.take i++ [e] by rw[asO,he];rfl,show iA ks (l.take i++ [e])=iA ks (l.take i)++iA ks [e]from as2 ..];simp only[vJ,aJ,aD he,bO hi,U5 ks e.1 hk,aA,sS]
  cases hc:ks.any fun k=>decide (k=e.1)
  ·simp only[aA,sS,hw];rw[show iA ks [e]=[] by unfold iA;simp[List.filter_cons,hc],arP]
  ·simp only[aA,sS,b1,hw];rw[show iA ks [e]=[e] by unfold iA;simp[List.filter_cons,hc]]
 ·rintro _ rfl;refine⟨_,?_,rfl⟩;simp only[vJ,bX,aA,sS];rw[arY (arz _)]
theorem adp(l:List LT)(ks:List ByteArray)(hk:ks.length≤big)(n:Nat)(e:LT)(he:l[n]?=some e)(o:List LT)(ho:o.length≤1048576):
  aC Ct ((l,ks,(n:Int),0,()),(o,()))=some ((l,ks,(n:Int),()),(o++iA ks [e],())):=by
 have h:=bV (f:=Ct) ks (fun i (_:Unit)=>((l,ks,(n:Int),(i:Int),()),(o,()))) (fun i _ k=>bif decide (k=e.1)then .inr ((l,ks,(n:Int),()),(o++ [e],()))else .inl ()) (fun _=>((l,ks,(n:Int),()),(o,()))) ?_ ?_ ()
 ·obtain⟨j,_,hj⟩:=jQ (fun k=>decide (k=e.1)) (fun _:Nat=>((l,ks,(n:Int),()),(o++ [e],()))) ((l,ks,(n:Int),()),(o,())) ks 0;refine h.trans (congrArg some (hj.trans ?_));unfold iA
  cases hc:ks.any fun k=>decide (k=e.1)
  ·simp[List.filter_cons,hc]
  ·simp[List.filter_cons,hc]
 ·intro i k _ hki hi;unfold big at hk;have hw:aO ((i:Int)+1)=((i+1:Nat):Int):=aI (by omega);have b1:decide (o.length+ [e].length≤4294967296)=true:=arj (by simp;omega);simp only[Ct,aJ,aD hki,aD he,bO hi,bg,gB,aA,sS];cases decide (k=e.1)<;>simp only[aA,sS,b1,hw]
 ·intro _;simp only[Ct,bX,aA,sS]
theorem agW(l:List LT)(ks:List ByteArray)(hl:l.length≤1048576)(hk:ks.length≤big):m60 ((l,ks,()),())=some ((),(iA ks l,())):=by
 have h:=lZ (f:=Cx) (Q:=fun b=>b=((),(iA ks l,()))) (fun i st=>st=(((i:Int),l,ks,()),(iA ks (l.take i),()))) l.length ?_ ?_ _ rfl
 ·obtain⟨b,h3,rfl⟩:=h;unfold m60;exact aN _ (show aC Cx ((0,l,ks,()),([],()))=_ from h3) rfl
 ·rintro i _ hi rfl;obtain⟨e,he⟩:=getD_some (l:=l) (i:=i) hi;have hw:aO ((i:Int)+1)=((i+1:Nat):Int):=aI (by omega)
  have hlen:(iA ks (l.take i)).length≤i:=by
   have:=asC (fun x:LT=>ks.any fun k=>decide (k=x.1)) (l.take i);rw[ar9]at this;unfold iA;omega
  refine⟨_,?_,rfl⟩;rw[show l.take (i+1)=l.take i++ [e] by rw[asO,he];rfl,show iA ks (l.take i++ [e])=iA ks (l.take i)++iA ks [e]from as2 ..];simp only[Cx,bO hi,aA,sS];refine aN _ (adp l ks hk i e he _ (by omega)) ?_;simp only[hw]
 ·rintro _ rfl;refine⟨_,?_,rfl⟩;simp only[Cx,bX,aA,sS];rw[arY (arz _)]
end Go.Proofs.YtchnmpafhfjimaaGreatDoor
