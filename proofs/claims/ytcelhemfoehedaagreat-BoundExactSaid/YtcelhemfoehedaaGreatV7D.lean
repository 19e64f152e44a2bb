/- Lemmas for the statement of the last text of this claim. -/
import Derived.Test.YtcelhemfoehedaaGreatChecked
import Derived.WalkKit
import Derived.ProofKit
import Derived.BigCall
import Derived.BigQuiet
import Derived.Deep.LoopGhost
import Derived.Deep.OwnRows
import Derived.Deep.AppendLies
import Derived.Laws.OwnMore
import Derived.Maps.Range
import Derived.Deep.RegionWith
import Derived.BigRegion
import Derived.Deep.Cut
import Derived.Deep.CutRange
import Derived.Test.YtcelhemfoehedaaGreatV7C
set_option linter.unusedSimpArgs false
set_option linter.unusedVariables false
namespace Go.Proofs.YtcelhemfoehedaaGreat.Od
open Go Go.Abs Go.RowKit
structure LV where
  v:Value
  T:TypeId
  n:Nat
structure DiceAt(w:World)(bd:Nat)(lv:LV)(at':Int):Prop where
  c0:w.cell? ⟨bd,0,none⟩=some lv.v
  c1:w.cell? ⟨bd,1,none⟩=some (.int .i64 at')
  sh:∃cs,w.heap[bd]?=some (.cells cs lv.T (0,0))∧cs.size=lv.n
theorem DiceAt.fz{w:World}{bd:Nat}{lv:LV}{at':Int}(h:DiceAt w bd lv at'):w.frozen? ⟨bd,1,none⟩=false:=by
  obtain⟨cs,e,_⟩:=h.sh
  simp[World.frozen?,e]
theorem DiceAt.keep{w y:World}{bd:Nat}{lv:LV}{at':Int}(h:DiceAt w bd lv at')(hb:y.heap[bd]?=w.heap[bd]?):DiceAt y bd lv at':=
  ⟨by rw[World.cell?_of_block (a:=⟨bd,0,none⟩) hb];exact h.c0,by rw[World.cell?_of_block (a:=⟨bd,1,none⟩) hb];exact h.c1,by rw[hb];exact h.sh⟩
def IntsAt(w:World)(v:LV)(xs:List Int):Prop:=∃a b o cap,v.v= .slice a xs.length cap∧(xs≠ []→a=some ⟨b,o,none⟩)∧∀(p:Nat) (x:Int),xs[p]?=some x→w.cell? ⟨b,o+p,none⟩=some (.int .i64 x)
theorem wrap_w64(x:Int):wrap64 x=w64 x:=by unfold wrap64;exact(IntKind.wrap_i64 _).symm
set_option maxHeartbeats 1600000 in
theorem next_walk(w:World)(bd:Nat)(lv:LV)(xs:List Int)(at' n:Int)(hd:DiceAt w bd lv at')(hx:IntsAt w lv xs)(h0:0≤at')(hn:1≤n):
    Calls Tryz.prog 19 #[.pointer (some ⟨bd,0,none⟩),.int .i64 n] w fun e w'=>e= .returned (.int .i64 (nxt xs at' n).1)∧∃k,w'=((if at'≥xs.length then w else w.setCell ⟨bd,1,none⟩ (.int .i64 (nxt xs at' n).2)).drewN k):=by
  have fz:=hd.fz
  obtain⟨c0,c1,_⟩:=hd
  obtain⟨lv,lT,lN⟩:=lv
  obtain⟨a,b,o,cap,e,ha,hc⟩:=hx
  have e:lv=_:=e
  subst e
  have c0:w.cell? ⟨bd,0,none⟩=some (.slice a xs.length cap):=c0
  go_enter Tryz.func19,Tryz.ntmps19
  by_cases hge:at'≥(xs.length:Int)
  · have hx:nxt xs at' n=(0,at'):=by unfold nxt;rw[if_pos (.inl hge)]
    go_wp2
    all_goals go_quiet (fail)
    all_goals go_wp2
    go_ret
    exact⟨rfl,_,rfl⟩
  · have hlt:at'.toNat<xs.length:=by omega
    obtain⟨p,rfl⟩:=Int.eq_ofNat_of_zero_le h0
    have hp:p<xs.length:=by omega
    have hne:xs≠ []:=fun e=>by rw[e]at hp;simp at hp
    have:=ha hne
    subst this
    have hq:xs[p]?=some (xs.getD p 0):=by rw[List.getElem?_eq_getElem hp,List.getD_eq_getElem?_getD,List.getElem?_eq_getElem hp];rfl
    have hcell:=hc p _ hq
    have hx:nxt xs (p:Int) n=((if(xs.getD p 0).tmod n<0 then w64 ((xs.getD p 0).tmod n+n)else(xs.getD p 0).tmod n),w64 ((p:Int)+1)):=by
      unfold nxt;rw[if_neg (by omega)];rfl
    have hn0:¬ n<1:=by omega
    generalize xs.getD p 0=x at hcell hx
    rw[hx,if_neg hge]
    clear hx hc hq
    go_wp2
    all_goals go_quiet (fail)
    all_goals go_wp2
    all_goals go_region
    all_goals go_wp2
    all_goals go_ret
    all_goals (refine⟨?_,_,by rw[←wrap_w64];rfl⟩;first|rfl|(rw[←wrap_w64];rfl))
def rolled(w:World)(bd:Nat)(xs:List Int)(at' n:Int):World:=if at'≥xs.length then w else w.setCell ⟨bd,1,none⟩ (.int .i64 (nxt xs at' n).2)
set_option maxHeartbeats 1600000 in
theorem one_walk(w:World)(bd:Nat)(lv:LV)(xs:List Int)(at':Int)(hd:DiceAt w bd lv at')(hx:IntsAt w lv xs)(h0:0≤at')(bl cap:Nat)(ys:List Int)(hy:1≤ys.length)
    (hbl:bl≠bd) (hc:∀(p:Nat) (y:Int),ys[p]?=some y→w.cell? ⟨bl,p,none⟩=some (.int .i64 y)) (q:Nat) (z:Int) (hq:(nxt xs at' ys.length).1=(q:Int)) (hz:ys[q]?=some z):
    Calls Tryz.prog 22 #[.pointer (some ⟨bd,0,none⟩),.slice (some ⟨bl,0,none⟩) ys.length cap] w fun e w'=>e= .returned (.int .i64 z)∧∃k,w'=(rolled w bd xs at' ys.length).drewN k:=by
  have hnext:=next_walk w bd lv xs at' ys.length hd hx h0 (by omega)
  have hcell:((rolled w bd xs at' ys.length)).cell? ⟨bl,q,none⟩=some (.int .i64 z):=by
    unfold rolled
    split
    · exact hc q z hz
    · rw[World.cell?_setCell_other (h:=fun e=>hbl (congrArg Addr.block e).symm)]
      exact hc q z hz
  have hql:q<ys.length:=(List.getElem?_eq_some_iff.1 hz).1
  rw[hq]at hnext
  unfold rolled at hcell ⊢
  generalize hw:(if at'≥(xs.length:Int)then w else w.setCell ⟨bd,1,none⟩ (.int .i64 (nxt xs at' ys.length).2))=wn at hnext hcell
  clear hw hc
  go_enter Tryz.func22,Tryz.ntmps22
  go_wp2_with (go_at_call 19;refine hnext.mono ?_;rintro e w' ⟨rfl,k,rfl⟩)
  go_ret
  exact⟨rfl,_,rfl⟩
structure Rolled(x w':World)(bd:Nat)(lv:LV)(at':Int):Prop where
  grow:x.grownBy w' (some bd)
  size:w'.heap.size=x.heap.size
  dice:DiceAt w' bd lv at'
theorem rolled_of{x w':World}{bd:Nat}{lv:LV}{xs:List Int}{at' n:Int}(hd:DiceAt x bd lv at')(h:∃k,w'=(rolled x bd xs at' n).drewN k):Rolled x w' bd lv (nxt xs at' n).2:=by
  obtain⟨k,rfl⟩:=h
  unfold rolled
  by_cases hge:at'≥(xs.length:Int)
  · rw[if_pos hge]
    have e:(nxt xs at' n).2=at':=by unfold nxt;rw[if_pos (.inl hge)]
    rw[e]
    exact⟨⟨rfl,rfl,rfl,Nat.le_refl _,fun _ _ _=>rfl⟩,rfl,⟨hd.c0,hd.c1,hd.sh⟩⟩
  · rw[if_neg hge]
    refine⟨⟨rfl,rfl,rfl,by simp[World.setCell,World.drewN],fun j _ hne=> ?_⟩,by simp[World.setCell,World.drewN],?_,?_,?_⟩
    · show(x.setCell ⟨bd,1,none⟩ _).heap[j]?=_
      simp only[World.setCell]
      rw[Array.getElem?_modify,if_neg (fun e=>hne (by rw[e]))]
    · show(x.setCell ⟨bd,1,none⟩ _).cell? _=_
      rw[World.cell?_setCell_other (h:=fun e=>by injection e;omega)]
      exact hd.c0
    · show(x.setCell ⟨bd,1,none⟩ _).cell? _=_
      exact World.cell?_setCell_same x _ _ hd.c1
    · obtain⟨cs,e1,e2⟩:=hd.sh
      exact⟨_,heap_setCell_same x bd 1 cs lv.T _ e1,by simp[e2]⟩
theorem next_calls(x:World)(bd:Nat)(lv:LV)(xs:List Int)(at' n:Int)(hd:DiceAt x bd lv at')(hx:IntsAt x lv xs)(h0:0≤at')(hn:1≤n):
    Calls Tryz.prog 19 #[.pointer (some ⟨bd,0,none⟩),.int .i64 n] x fun e w'=>e= .returned (.int .i64 (nxt xs at' n).1)∧Rolled x w' bd lv (nxt xs at' n).2:=
  (next_walk x bd lv xs at' n hd hx h0 hn).mono fun _ _ h=>⟨h.1,rolled_of hd h.2⟩
theorem one_calls(x:World)(bd:Nat)(lv:LV)(xs:List Int)(at':Int)(hd:DiceAt x bd lv at')(hx:IntsAt x lv xs)(h0:0≤at')(bl cap:Nat)(ys:List Int)(hy:1≤ys.length)
    (hbl:bl≠bd) (hc:∀(p:Nat) (y:Int),ys[p]?=some y→x.cell? ⟨bl,p,none⟩=some (.int .i64 y)) (q:Nat) (z:Int) (hq:(nxt xs at' ys.length).1=(q:Int)) (hz:ys[q]?=some z):
    Calls Tryz.prog 22 #[.pointer (some ⟨bd,0,none⟩),.slice (some ⟨bl,0,none⟩) ys.length cap] x fun e w'=>e= .returned (.int .i64 z)∧Rolled x w' bd lv (nxt xs at' ys.length).2:=
  (one_walk x bd lv xs at' hd hx h0 bl cap ys hy hbl hc q z hq hz).mono fun _ _ h=>⟨h.1,rolled_of hd h.2⟩
end Go.Proofs.YtcelhemfoehedaaGreat.Od
namespace Go.Proofs.YtcelhemfoehedaaGreat.Od
open Go Go.Abs Go.RowKit
theorem row_cells {t:Ty} {w:World} {X:XT} {v:Value} {l:List t.den} {tg:Bool} (h:PR w X v (rowAV t l tg)):
    ∃ a b o cap,v= .slice a l.length cap∧(l≠ []→a=some ⟨b,o,none⟩)∧∀(p:Nat) (x:t.den),l[p]?=some x→∀(j:Nat) (u:AV),(enc t x).cells[j]?=some u→
      ∃y,w.cell? ⟨b,o+(p*t.size+j),none⟩=some y∧y.oneCell'=true∧PR w X y u:=by
  cases l with
  | nil=>
    have h:PR w X v (.lst 0 [] tg):=h
    cases h with
    |lst0 a cap sz t ht=>exact⟨a,0,0,cap,rfl,fun e=>absurd rfl e,fun p d hd=>by simp at hd⟩
    |lst b o n cap sz t xs f hn hc ht hsz hx hr=>simp at hn;subst hn;exact⟨_,0,0,cap,rfl,fun e=>absurd rfl e,fun p d hd=>by simp at hd⟩
  | cons y r=>
    have h:PR w X v (.lst t.size ((y::r).map (enc t)) tg):=h
    generalize hxs:(y::r).map (enc t)=xs at h
    have hlen:xs.length=(y::r).length:=by rw[←hxs];exact List.length_map ..
    cases h with
    |lst0 a cap sz t ht=>simp at hlen
    | lst b o n cap sz t' xs f hn hc ht' hsz hx hr=>
      refine⟨some ⟨b,o,none⟩,b,o,cap,by rw[←hlen,hn],fun _=>rfl,fun p d hd j u hj=> ?_⟩
      have hxp:xs[p]?=some (enc t d):=by
        rw[←hxs,List.getElem?_map,hd];rfl
      obtain⟨_,c2,c3⟩:=hx p _ hxp j u hj
      exact⟨f p j,c2,c3,hr p _ hxp j u hj⟩
def cellsAt(w:World)(b o k:Nat):List Value:=(List.range k).map fun j=>(w.cell? ⟨b,o+j,none⟩).getD undef
theorem cellsAt_len(w:World)(b o k:Nat):(cellsAt w b o k).length=k:=by simp[cellsAt]
theorem cellsAt_get{w:World}{b o k j:Nat}{y:Value}(hj:j<k)(h:w.cell? ⟨b,o+j,none⟩=some y):(cellsAt w b o k)[j]?=some y:=by
  unfold cellsAt
  rw[List.getElem?_map,List.getElem?_range hj]
  simp only[Option.map_some,h,Option.getD_some]
structure RowIn(t:Ty)(w:World)(X:XT)(v:Value)(l:List t.den)(b o:Nat):Prop where
  form:∃a cap,v= .slice a l.length cap∧(l≠ []→a=some ⟨b,o,none⟩)
  cell:∀(p:Nat) (x:t.den),l[p]?=some x→∀(j:Nat) (u:AV),(enc t x).cells[j]?=some u→∃y,w.cell? ⟨b,o+(p*t.size+j),none⟩=some y∧y.oneCell'=true∧PR w X y u
theorem RowIn.of{t:Ty}{w:World}{X:XT}{v:Value}{l:List t.den}{tg:Bool}(h:PR w X v (rowAV t l tg)):∃b o,RowIn t w X v l b o:=by
  obtain⟨a,b,o,cap,h1,h2,h3⟩:=row_cells h
  exact⟨b,o,⟨a,cap,h1,h2⟩,h3⟩
theorem RowIn.all{t:Ty}{w:World}{X:XT}{v:Value}{l:List t.den}{b o:Nat}(h:RowIn t w X v l b o)(hs:∀x:t.den,(enc t x).cells.length=t.size)(k:Nat)(hk:k<l.length*t.size):
    ∃y,w.cell? ⟨b,o+k,none⟩=some y∧y.oneCell'=true:=by
  have hpos:0<t.size:=by
    rcases Nat.eq_zero_or_pos t.size with e|e
    · rw[e]at hk;omega
    · exact e
  have hp:k / t.size<l.length:=(Nat.div_lt_iff_lt_mul hpos).2 hk
  have hj:k % t.size<(enc t l[k / t.size]).cells.length:=by rw[hs];exact Nat.mod_lt _ hpos
  obtain⟨y,h1,h2,_⟩:=h.cell _ _ (List.getElem?_eq_getElem hp) _ _ (List.getElem?_eq_getElem hj)
  rw[show k / t.size*t.size+k % t.size=k by rw[Nat.mul_comm];exact Nat.div_add_mod k t.size]at h1
  exact⟨y,h1,h2⟩
theorem RowIn.news{t:Ty}{w w':World}{X:XT}{v:Value}{l:List t.den}{b o:Nat}(h:RowIn t w X v l b o)(hs:∀x:t.den,(enc t x).cells.length=t.size)(hw:w'.heap[b]?=w.heap[b]?):
    (∀j u,(cellsAt w b o (l.length*t.size))[j]?=some u→w'.cell? ((⟨b,o,none⟩:Addr).add j)=some u)∧∀u∈cellsAt w b o (l.length*t.size),u.oneCell'=true:=by
  have key:∀j u,(cellsAt w b o (l.length*t.size))[j]?=some u→w.cell? ⟨b,o+j,none⟩=some u∧u.oneCell'=true:=fun j u hj=>by
    have hjl:=(List.getElem?_eq_some_iff.1 hj).1
    rw[cellsAt_len]at hjl
    obtain⟨y,h1,h2⟩:=h.all hs j hjl
    rw[cellsAt_get hjl h1]at hj
    cases hj
    exact⟨h1,h2⟩
  refine⟨fun j u hj=> ?_,fun u hu=> ?_⟩
  · have hadd:(⟨b,o,none⟩:Addr).add j=⟨b,o+j,none⟩:=by unfold Addr.add;split<;>simp_all
    rw[hadd,World.cell?_of_block (a:=⟨b,o+j,none⟩) hw]
    exact(key j u hj).1
  · obtain⟨j,hj⟩:=List.mem_iff_getElem?.1 hu
    exact(key j u hj).2
theorem copy_row {t:Ty} {w w':World} {X X':XT} {base e:Nat} {v nv:Value} {l:List t.den} {b o:Nat} (h:RowIn t w X v l b o) (hpos:0<t.size) (hs:∀x:t.den,(enc t x).cells.length=t.size)
    (hown:w'.ownsRow base e t.size nv l.length (cellsAt w b o (l.length*t.size))) (hst:Stable w X w' X') (hX:∀g,nv.ownBlock=some g→∀o,¬ X' g o):PR w' X' nv (rowAV t l false):=by
  obtain⟨h1,h2|h2⟩:=hown
  · obtain⟨rfl,h0⟩:=h2
    obtain rfl:=List.length_eq_zero_iff.1 h0
    exact .lst0 _ _ _ _ (fun e=>by cases e)
  · obtain⟨g,cap,cur,rfl,hb,hc,hn,_,hsz,htake⟩:=h2
    cases l with
    |nil=>exact .lst0 _ _ _ _ (fun e=>by cases e)
    | cons y r=>
      show PR w' X' _ (.lst t.size ((y::r).map (enc t)) false)
      generalize hl:y::r=l at *
      have get:∀k u,(cellsAt w b o (l.length*t.size))[k]?=some u→w'.cell? ⟨g,k,none⟩=some u:=fun k u hk=>by
        have hkl:=(List.getElem?_eq_some_iff.1 hk).1
        rw[cellsAt_len]at hkl
        rw[←htake,List.getElem?_take,if_pos hkl]at hk
        simp only[World.cell?,hc]
        rw[Array.getElem?_toList]at hk
        simpa using hk
      have pos:∀(i:Nat) (z:t.den),l[i]?=some z→∀j,j<t.size→i*t.size+j<l.length*t.size:=fun i z hz j hj=>by
        have hi:=(List.getElem?_eq_some_iff.1 hz).1
        have:=Nat.mul_le_mul_right t.size (show i+1≤l.length by omega)
        rw[Nat.add_mul,Nat.one_mul]at this
        omega
      refine .lst g 0 l.length cap t.size false _ (fun i j=>((cellsAt w b o (l.length*t.size))[i*t.size+j]?).getD undef) (by rw[List.length_map]) hn (fun e=>by cases e) (fun i x hi=> ?_) (fun i x hi j u hj=> ?_) (fun i x hi j u hj=> ?_)
      · rw[List.getElem?_map]at hi
        obtain⟨z,hz,rfl⟩:=Option.map_eq_some_iff.1 hi
        exact hs z
      · rw[List.getElem?_map]at hi
        obtain⟨z,hz,rfl⟩:=Option.map_eq_some_iff.1 hi
        obtain⟨q,hq,q1,_⟩:=h.cell i z hz j u hj
        have hjl:=(List.getElem?_eq_some_iff.1 hj).1
        rw[hs]at hjl
        have hq:=cellsAt_get (pos i z hz j hjl) hq
        refine⟨hX g rfl _,?_,by rw[hq];exact q1⟩
        rw[Nat.zero_add,get _ _ hq,hq];rfl
      · rw[List.getElem?_map]at hi
        obtain⟨z,hz,rfl⟩:=Option.map_eq_some_iff.1 hi
        obtain⟨q,hq,_,q2⟩:=h.cell i z hz j u hj
        have hjl:=(List.getElem?_eq_some_iff.1 hj).1
        rw[hs]at hjl
        rw[cellsAt_get (pos i z hz j hjl) hq]
        exact q2.mono hst
theorem own_one{w:World}{base e size n:Nat}{v:Value}{xs:List Value}(h:w.ownsRow base e size v n xs):v.oneCell'=true:=by
  rcases h.2 with⟨rfl,_⟩|⟨g,cap,cur,rfl,_⟩<;>rfl
theorem own_form{w:World}{base e size n:Nat}{v:Value}{xs:List Value}(h:w.ownsRow base e size v n xs):∃a m c,v= .slice a m c:=by
  rcases h.2 with⟨rfl,_⟩|⟨g,cap,cur,rfl,_⟩
  · exact⟨_,_,_,rfl⟩
  · exact⟨_,_,_,rfl⟩
theorem end_heap{x:World}{g:Nat}{a b c d:Value}{T:TypeId}(h:x.heap[g]?=some (.cells #[a,b] T (0,0))):((x.setCell ⟨g,0,none⟩ c).setCell ⟨g,1,none⟩ d).heap[g]?=some (.cells #[c,d] T (0,0)):=by
  have h1:=heap_setCell_same x g 0 _ T c h
  exact heap_setCell_same _ g 1 _ T d h1
def setV(V:Nat→Value)(i:Nat)(v:Value):Nat→Value:=fun a=>if a=i then v else V a
structure NB(base e es ie is:Nat)(outV:Nat→Value→List Value)(inV:Nat→List Value)(len:Nat→Nat)(wr:World)(i:Nat)(dv:Value)(V:Nat→Value):Prop where
  own:wr.ownsRow base e es dv i ((List.range i).flatMap fun a=>outV a (V a))
  row:∀a,a<i→wr.ownsRow base ie is (V a) (len a) (inV a)
  blk:∀a,a<i→∃g,(V a).ownBlock=some g
  inj:∀a b g,a<i→b<i→(V a).ownBlock=some g→(V b).ownBlock=some g→a=b
  apart:∀a g,a<i→(V a).ownBlock=some g→dv.ownBlock≠some g
section
variable{base e es ie is:Nat}{outV:Nat→Value→List Value}{inV:Nat→List Value}{len:Nat→Nat}
theorem NB.start(wr:World)(V:Nat→Value):NB base e es ie is outV inV len wr 0 (.slice none 0 0) V:=
  ⟨World.ownsRow_nil _ _ _ _,fun a ha=>by omega,fun a ha=>by omega,fun a b g ha=>by omega,fun a g ha=>by omega⟩
theorem NB.grow{wr w':World}{i:Nat}{dv:Value}{V:Nat→Value}(h:NB base e es ie is outV inV len wr i dv V){row:Option Nat}(hg:wr.grownBy w' row)(hr:∀k,row=some k→dv.ownBlock≠some k∧∀a,a<i→(V a).ownBlock≠some k):
    NB base e es ie is outV inV len w' i dv V:=by
  have far:∀v:Value,(∀k,row=some k→v.ownBlock≠some k)→v.ownBlock=none∨v.ownBlock≠row:=fun v hv=>by
    cases hb:v.ownBlock with
    |none=>exact .inl rfl
    |some k=>exact .inr (fun e=>hv k e.symm hb)
  exact⟨h.own.kept hg (far _ fun k e=>(hr k e).1),fun a ha=>(h.row a ha).kept hg (far _ fun k e=>(hr k e).2 a ha),h.blk,h.inj,h.apart⟩
theorem NB.below{wr:World}{i:Nat}{dv:Value}{V:Nat→Value}(h:NB base e es ie is outV inV len wr i dv V){k:Nat}(hk:k<base∨wr.heap.size≤k):dv.ownBlock≠some k∧∀a,a<i→(V a).ownBlock≠some k:=
  ⟨fun e=>by have:=h.own.lt k e;omega,fun a ha e=>by have:=(h.row a ha).lt k e;omega⟩
theorem NB.step {wr w':World} {i g g' cap':Nat} {dv nv:Value} {V:Nat→Value} (h:NB base e es ie is outV inV len wr i dv V) (hn:wr.ownsRow base ie is nv (len i) (inV i)) (gn:nv.ownBlock=some g)
    (far:dv.ownBlock≠some g∧∀a,a<i→(V a).ownBlock≠some g) (hown:w'.ownsRow base e es (.slice (some ⟨g',0,none⟩) (i+1) cap') (i+1) (((List.range i).flatMap fun a=>outV a (V a))++outV i nv))
    (hgrow:wr.grownBy w' dv.ownBlock) (hat:dv.ownBlock=some g'∨wr.heap.size≤g'):NB base e es ie is outV inV len w' (i+1) (.slice (some ⟨g',0,none⟩) (i+1) cap') (setV V i nv):=by
  have hV:∀a,a<i→setV V i nv a=V a:=fun a ha=>by unfold setV;rw[if_neg (by omega)]
  have hVi:setV V i nv i=nv:=by unfold setV;rw[if_pos rfl]
  have ne:∀v:Value,(∀k,dv.ownBlock=some k→v.ownBlock≠some k)→v.ownBlock=none∨v.ownBlock≠dv.ownBlock:=fun v hv=>by
    cases hb:v.ownBlock with
    |none=>exact .inl rfl
    |some k=>exact .inr (fun e=>hv k e.symm hb)
  refine⟨?_,fun a ha=> ?_,fun a ha=> ?_,fun a b k ha hb e1 e2=> ?_,fun a k ha e1 e2=> ?_⟩
  · have:((List.range (i+1)).flatMap fun a=>outV a (setV V i nv a))=((List.range i).flatMap fun a=>outV a (V a))++outV i nv:=by
      rw[List.range_succ,List.flatMap_append,List.flatMap_singleton,hVi]
      congr 1
      rw[List.flatMap_def,List.flatMap_def]
      congr 1
      exact List.map_congr_left (fun a ha=>by rw[hV a (List.mem_range.1 ha)])
    rw[this];exact hown
  · by_cases hai:a=i
    · subst hai
      rw[hVi]
      exact hn.kept hgrow (ne _ fun k e1 e2=>by rw[gn]at e2;cases e2;exact far.1 e1)
    · rw[hV a (by omega)]
      exact(h.row a (by omega)).kept hgrow (ne _ fun k e1 e2=>h.apart a k (by omega) e2 e1)
  · by_cases hai:a=i
    · subst hai;rw[hVi];exact⟨g,gn⟩
    · rw[hV a (by omega)];exact h.blk a (by omega)
  · by_cases hai:a=i
    · by_cases hbi:b=i
      · omega
      · subst hai
        rw[hVi,gn]at e1
        cases e1
        rw[hV b (by omega)]at e2
        exact absurd e2 (far.2 b (by omega))
    · by_cases hbi:b=i
      · subst hbi
        rw[hVi,gn]at e2
        cases e2
        rw[hV a (by omega)]at e1
        exact absurd e1 (far.2 a (by omega))
      · rw[hV a (by omega)]at e1
        rw[hV b (by omega)]at e2
        exact h.inj a b k (by omega) (by omega) e1 e2
  · have e2:g'=k:=by simpa[Value.ownBlock]using e2
    subst e2
    rcases hat with hat|hat
    · by_cases hai:a=i
      · subst hai
        rw[hVi,gn]at e1
        cases e1
        exact far.1 hat
      · rw[hV a (by omega)]at e1
        exact h.apart a _ (by omega) e1 hat
    · by_cases hai:a=i
      · subst hai
        rw[hVi]at e1
        have:=hn.lt _ e1;omega
      · rw[hV a (by omega)]at e1
        have:=(h.row a (by omega)).lt _ e1;omega
end
theorem grown_set(w:World)(g j:Nat)(v:Value):w.grownBy (w.setCell ⟨g,j,none⟩ v) (some g):=
  ⟨rfl,rfl,rfl,by simp[World.setCell],fun k _ hne=>by
    simp only[World.setCell]
    rw[Array.getElem?_modify,if_neg (fun e=>hne (by rw[e]))]⟩
theorem none_own(b:Nat):(Value.slice none 0 0).ownBlock≠some b:=fun e=>by cases e
section
variable{base e es ie is:Nat}{outV:Nat→Value→List Value}{inV:Nat→List Value}{len:Nat→Nat}
theorem NB.mid{wr w2:World}{i:Nat}{dv:Value}{V:Nat→Value}(h:NB base e es ie is outV inV len wr i dv V){X:Obj}(hg:(wr.alloc X).grownBy w2 (Value.slice none 0 0).ownBlock)(o:Nat)(v:Value)(Y:Obj):
    NB base e es ie is outV inV len ((w2.setCell ⟨wr.heap.size,o,none⟩ v).alloc Y) i dv V:=by
  have h1:=h.grow (World.grownBy_alloc wr X none) (fun k e=>by cases e)
  have h2:=h1.grow hg (fun k e=>by cases e)
  have h3:=h2.grow (grown_set w2 wr.heap.size o v) (fun k e=>by cases e;exact h.below (.inr (Nat.le_refl _)))
  exact h3.grow (World.grownBy_alloc _ Y none) (fun k e=>by cases e)
theorem NB.round{wr w2 w3:World}{i g1 cap1 g2 cap2:Nat}{dv:Value}{V:Nat→Value}(h:NB base e es ie is outV inV len wr i dv V)(hs:base≤wr.heap.size){X Y:Obj}
    (hown1:w2.ownsRow base ie is (.slice (some ⟨g1,0,none⟩) (0+len i) cap1) (0+len i) ([]++inV i)) (hg1:(wr.alloc X).grownBy w2 (Value.slice none 0 0).ownBlock) (hat1:(Value.slice none 0 0).ownBlock=some g1∨g1=wr.heap.size+1)
    {o:Nat} {v:Value} (hown2:w3.ownsRow base e es (.slice (some ⟨g2,0,none⟩) (i+1) cap2) (i+1) (((List.range i).flatMap fun a=>outV a (V a))++outV i (.slice (some ⟨g1,0,none⟩) (len i) cap1)))
    (hg2:((w2.setCell ⟨wr.heap.size,o,none⟩ v).alloc Y).grownBy w3 dv.ownBlock) (hat2:dv.ownBlock=some g2∨g2=w2.heap.size+1) {b5:Nat} (hb5:b5<base) (j:Nat) (u:Value):
    NB base e es ie is outV inV len (w3.setCell ⟨b5,j,none⟩ u) (i+1) (.slice (some ⟨g2,0,none⟩) (i+1) cap2) (setV V i (.slice (some ⟨g1,0,none⟩) (len i) cap1)):=by
  have hg:g1=wr.heap.size+1:=hat1.resolve_left (none_own _)
  have hM:=h.mid hg1 o v Y
  have hn:((w2.setCell ⟨wr.heap.size,o,none⟩ v).alloc Y).ownsRow base ie is (.slice (some ⟨g1,0,none⟩) (len i) cap1) (len i) (inV i):=by
    rw[Nat.zero_add,List.nil_append]at hown1
    exact(hown1.kept (grown_set w2 wr.heap.size o v) (.inr (fun e=>by simp[Value.ownBlock]at e;omega))).alloc Y
  have hS:=hM.step hn (g:=g1) rfl (h.below (k:=g1) (.inr (by omega))) hown2 hg2 (hat2.imp_right fun e=>by rw[e];simp)
  exact hS.grow (grown_set w3 b5 j u) (fun k e=>by cases e;exact hS.below (.inl hb5))
end
end Go.Proofs.YtcelhemfoehedaaGreat.Od
namespace Go.Proofs.YtcelhemfoehedaaGreat.Od
open Go Go.Abs Go.RowKit
theorem Tryz.info3:(Tryz.prog.info? 3).map (fun i=>(i.zero,i.size,i.bytes))=some (some (.int .i64 0),1,8):=by kernel_rfl
theorem Tryz.info110:(Tryz.prog.info? 110).map (fun i=>(i.zero,i.size,i.bytes))=some (some (.agg #[.string ⟨#[]⟩,.slice none 0 0]),2,40):=by kernel_rfl
theorem Tryz.info59:(Tryz.prog.info? 59).map (fun i=>(i.zero,i.size,i.bytes))=some (some (.agg #[.string ⟨#[]⟩,.slice none 0 0,.int .i64 0]),3,48):=by kernel_rfl
theorem Tryz.info86:(Tryz.prog.info? 86).map (fun i=>(i.zero,i.size,i.bytes))=some (some (.agg #[.int .i64 0,.bool false,.slice none 0 0]),3,40):=by kernel_rfl
abbrev tTgt:Ty:=.cons (.int .i64) (.cons (.int .i64) .unit)
abbrev tStep:Ty:=.cons (.int .i64) (.cons .bool (.cons (.row tTgt) .unit))
abbrev tPol:Ty:=.cons .str (.cons (.row tStep) (.cons (.int .i64) .unit))
abbrev tTeam:Ty:=.cons .str (.cons (.row (.int .i64)) .unit)
theorem prInt{w:World}{X:XT}{v:Value}{k:IntKind}{n:Int}(h:PR w X v (.int k n)):v= .int k n:=by cases h;rfl
theorem prStr{w:World}{X:XT}{v:Value}{s:ByteArray}(h:PR w X v (.str s)):v= .string s:=by cases h;rfl
theorem int_len(x:Int):(enc (.int .i64) x).cells.length=(Ty.int .i64).size:=rfl
theorem step_len(x:StepD):(enc tStep x).cells.length=tStep.size:=rfl
structure TeamsIn(w:World)(X:XT)(ts:List TeamD)(b o:Nat)(mv:Nat→Value)(mb mo:Nat→Nat):Prop where
  c0:∀(p:Nat) (t:TeamD),ts[p]?=some t→w.cell? ⟨b,o+p*2,none⟩=some (.string t.1)
  c1:∀(p:Nat) (t:TeamD),ts[p]?=some t→w.cell? ⟨b,o+p*2+1,none⟩=some (mv p)
  row:∀(p:Nat) (t:TeamD),ts[p]?=some t→RowIn (.int .i64) w X (mv p) t.2.1 (mb p) (mo p)
  one:∀(p:Nat) (t:TeamD),ts[p]?=some t→(mv p).oneCell'=true
theorem teams_in{w:World}{X:XT}{v:Value}{ts:List TeamD}{tg:Bool}(h:PR w X v (rowAV tTeam ts tg)):
    ∃a b o cap mv mb mo,v= .slice a ts.length cap∧(ts≠ []→a=some ⟨b,o,none⟩)∧TeamsIn w X ts b o mv mb mo:=by
  obtain⟨a,b,o,cap,h1,h2,h3⟩:=row_cells h
  have key:∀p:Nat,∃(m:Value) (mb mo:Nat),∀t,ts[p]?=some t→w.cell? ⟨b,o+p*2,none⟩=some (.string t.1)∧w.cell? ⟨b,o+p*2+1,none⟩=some m∧RowIn (.int .i64) w X m t.2.1 mb mo∧m.oneCell'=true:=fun p=>by
    cases ht:ts[p]? with
    |none=>exact⟨undef,0,0,fun t e=>by cases e⟩
    | some t=>
      obtain⟨y0,a1,_,a3⟩:=h3 p t ht 0 _ rfl
      obtain⟨y1,b1,b2,b3⟩:=h3 p t ht 1 _ rfl
      rw[prStr a3]at a1
      obtain⟨mb,mo,hr⟩:=RowIn.of b3
      exact⟨y1,mb,mo,fun t' e=>by cases e;exact⟨a1,b1,hr,b2⟩⟩
  refine⟨a,b,o,cap,fun p=>(key p).choose,fun p=>(key p).choose_spec.choose,fun p=>(key p).choose_spec.choose_spec.choose,h1,h2,?_⟩
  have spec:=fun p=>(key p).choose_spec.choose_spec.choose_spec
  exact⟨fun p t e=>(spec p t e).1,fun p t e=>(spec p t e).2.1,fun p t e=>(spec p t e).2.2.1,fun p t e=>(spec p t e).2.2.2⟩
structure PolsIn(w:World)(X:XT)(ps:List PolD)(b o:Nat)(sv:Nat→Value)(sb so:Nat→Nat):Prop where
  c0:∀(p:Nat) (t:PolD),ps[p]?=some t→w.cell? ⟨b,o+p*3,none⟩=some (.string t.1)
  c1:∀(p:Nat) (t:PolD),ps[p]?=some t→w.cell? ⟨b,o+p*3+1,none⟩=some (sv p)
  c2:∀(p:Nat) (t:PolD),ps[p]?=some t→w.cell? ⟨b,o+p*3+2,none⟩=some (.int .i64 t.2.2.1)
  row:∀(p:Nat) (t:PolD),ps[p]?=some t→RowIn tStep w X (sv p) t.2.1 (sb p) (so p)
  one:∀(p:Nat) (t:PolD),ps[p]?=some t→(sv p).oneCell'=true
theorem pols_in{w:World}{X:XT}{v:Value}{ps:List PolD}{tg:Bool}(h:PR w X v (rowAV tPol ps tg)):
    ∃a b o cap sv sb so,v= .slice a ps.length cap∧(ps≠ []→a=some ⟨b,o,none⟩)∧PolsIn w X ps b o sv sb so:=by
  obtain⟨a,b,o,cap,h1,h2,h3⟩:=row_cells h
  have key:∀p:Nat,∃(m:Value) (mb mo:Nat),∀t,ps[p]?=some t→w.cell? ⟨b,o+p*3,none⟩=some (.string t.1)∧w.cell? ⟨b,o+p*3+1,none⟩=some m∧w.cell? ⟨b,o+p*3+2,none⟩=some (.int .i64 t.2.2.1)∧RowIn tStep w X m t.2.1 mb mo∧m.oneCell'=true:=fun p=>by
    cases ht:ps[p]? with
    |none=>exact⟨undef,0,0,fun t e=>by cases e⟩
    | some t=>
      obtain⟨y0,a1,_,a3⟩:=h3 p t ht 0 _ rfl
      obtain⟨y1,b1,b2,b3⟩:=h3 p t ht 1 _ rfl
      obtain⟨y2,d1,_,d3⟩:=h3 p t ht 2 _ rfl
      rw[prStr a3]at a1
      rw[prInt d3]at d1
      obtain⟨mb,mo,hr⟩:=RowIn.of b3
      exact⟨y1,mb,mo,fun t' e=>by cases e;exact⟨a1,b1,d1,hr,b2⟩⟩
  refine⟨a,b,o,cap,fun p=>(key p).choose,fun p=>(key p).choose_spec.choose,fun p=>(key p).choose_spec.choose_spec.choose,h1,h2,?_⟩
  have spec:=fun p=>(key p).choose_spec.choose_spec.choose_spec
  exact⟨fun p t e=>(spec p t e).1,fun p t e=>(spec p t e).2.1,fun p t e=>(spec p t e).2.2.1,fun p t e=>(spec p t e).2.2.2.1,fun p t e=>(spec p t e).2.2.2.2⟩
end Go.Proofs.YtcelhemfoehedaaGreat.Od
namespace Go.Proofs.YtcelhemfoehedaaGreat.Od
open Go Go.Abs Go.RowKit
structure LI(w wr:World)(t3:Array Value)(dT dP:Value):Prop where
  grow:w.grownBy wr none
  size:w.heap.size+3≤wr.heap.size
  b3:wr.heap[w.heap.size]?=some (.cells t3 37 (0,0))
  b4:wr.heap[w.heap.size+1]?=some (.cells #[.slice none 0 0,.slice none 0 0] 37 (0,0))
  b5:wr.heap[w.heap.size+2]?=some (.cells #[dT,dP] 37 (0,0))
theorem LI.start(w:World)(t3 t4 t5:Array Value)(h:t4= #[.slice none 0 0,.slice none 0 0]:=by rfl)(h5:t5= #[.slice none 0 0,.slice none 0 0]:=by rfl):LI w (((w.alloc (.cells t3 37)).alloc (.cells t4 37)).alloc (.cells t5 37)) t3 (.slice none 0 0) (.slice none 0 0):=by
  subst h h5
  refine⟨((World.grownBy_alloc w _ none).trans (World.grownBy_alloc _ _ none)).trans (World.grownBy_alloc _ _ none),by simp,?_,?_,?_⟩
  · rw[heap_alloc_old _ _ (by simp;omega),heap_alloc_old _ _ (by simp)];exact heap_alloc_new w _
  · rw[heap_alloc_old _ _ (by simp)]
    have:=heap_alloc_new (w.alloc (.cells t3 37)) (.cells #[.slice none 0 0,.slice none 0 0] 37)
    simpa using this
  · have:=heap_alloc_new ((w.alloc (.cells t3 37)).alloc (.cells #[.slice none 0 0,.slice none 0 0] 37)) (.cells #[.slice none 0 0,.slice none 0 0] 37)
    simpa using this
theorem LI.keep{w wr w':World}{t3:Array Value}{dT dP:Value}(h:LI w wr t3 dT dP){row:Option Nat}(hg:wr.grownBy w' row)(hr:∀k,row=some k→w.heap.size+3≤k):LI w w' t3 dT dP:=by
  have hs:=h.size
  have far:∀k,k<w.heap.size+3→w'.heap[k]?=wr.heap[k]?:=fun k hk=>hg.block k (by omega) (fun e=>by have:=hr k e.symm;omega)
  exact⟨h.grow.andThen hg (fun j e=>.inl (by have:=hr j e;omega)),Nat.le_trans hs hg.size,(far _ (by omega)).trans h.b3,(far _ (by omega)).trans h.b4,(far _ (by omega)).trans h.b5⟩
theorem LI.put0{w wr:World}{t3:Array Value}{dT dP:Value}(h:LI w wr t3 dT dP)(v:Value):LI w (wr.setCell ⟨w.heap.size+1+1,0,none⟩ v) t3 v dP:=by
  have hg:=grown_set wr (w.heap.size+2) 0 v
  have hs:=h.size
  have far:∀k,k<w.heap.size+2→(wr.setCell ⟨w.heap.size+1+1,0,none⟩ v).heap[k]?=wr.heap[k]?:=fun k hk=>hg.block k (by omega) (fun e=>by injection e;omega)
  refine⟨h.grow.andThen hg (fun j e=>.inl (by injection e;omega)),Nat.le_trans hs hg.size,(far _ (by omega)).trans h.b3,(far _ (by omega)).trans h.b4,?_⟩
  simp only[World.setCell]
  rw[Array.getElem?_modify,if_pos rfl,h.b5]
  rfl
theorem LI.put1{w wr:World}{t3:Array Value}{dT dP:Value}(h:LI w wr t3 dT dP)(v:Value):LI w (wr.setCell ⟨w.heap.size+1+1,1,none⟩ v) t3 dT v:=by
  have hg:=grown_set wr (w.heap.size+2) 1 v
  have hs:=h.size
  have far:∀k,k<w.heap.size+2→(wr.setCell ⟨w.heap.size+1+1,1,none⟩ v).heap[k]?=wr.heap[k]?:=fun k hk=>hg.block k (by omega) (fun e=>by injection e;omega)
  refine⟨h.grow.andThen hg (fun j e=>.inl (by injection e;omega)),Nat.le_trans hs hg.size,(far _ (by omega)).trans h.b3,(far _ (by omega)).trans h.b4,?_⟩
  simp only[World.setCell]
  rw[Array.getElem?_modify,if_pos rfl,h.b5]
  rfl
theorem blk_cell{w:World}{b:Nat}{cs:Array Value}{T:TypeId}{fr:Nat×Nat}(h:w.heap[b]?=some (.cells cs T fr))(o:Nat):w.cell? ⟨b,o,none⟩=cs[o]?:=by simp[World.cell?,h]
theorem blk_froz{w:World}{b:Nat}{cs:Array Value}{T:TypeId}(h:w.heap[b]?=some (.cells cs T (0,0)))(o:Nat):w.frozen? ⟨b,o,none⟩=false:=by simp[World.frozen?,h]
theorem new_block{w w2:World}{cs:Array Value}{T:TypeId}{v:Value}(hg:(w.alloc (.cells cs T)).grownBy w2 v.ownBlock)(hv:v.ownBlock≠some w.heap.size):w2.heap[w.heap.size]?=some (.cells cs T (0,0)):=by
  rw[hg.block _ (by simp) (fun e=>hv e.symm)]
  exact heap_alloc_new w _
theorem grown_size{w w2:World}{X:Obj}{r:Option Nat}(hg:(w.alloc X).grownBy w2 r):w.heap.size+1≤w2.heap.size:=by have:=hg.size;simpa using this
theorem set_new{w:World}{a:Addr}{v:Value}{cs:Array Value}{T:TypeId}:((w.setCell a v).alloc (.cells cs T)).heap[w.heap.size]?=some (.cells cs T (0,0)):=by
  have:=heap_alloc_new (w.setCell a v) (.cells cs T)
  simpa using this
theorem old_block{w w2:World}{X:Obj}{v:Value}(hg:(w.alloc X).grownBy w2 v.ownBlock){b:Nat}(hb:b<w.heap.size)(hv:v.ownBlock≠some b):w2.heap[b]?=w.heap[b]?:=by
  rw[hg.block b (by simp;omega) (fun e=>hv e.symm)]
  exact heap_alloc_old w X hb
theorem old_cell{w w2:World}{X:Obj}{v u:Value}{b o:Nat}(hg:(w.alloc X).grownBy w2 v.ownBlock)(h:w.cell? ⟨b,o,none⟩=some u)(hv:v.ownBlock≠some b):w2.cell? ⟨b,o,none⟩=some u:=by
  rw[World.cell?_of_block (a:=⟨b,o,none⟩) (old_block hg (World.block_lt_of_cell? _ _ h) hv)]
  exact h
theorem LI.rest{w wr w2 w3:World}{t3:Array Value}{dT dP dv:Value}(h:LI w wr t3 dT dP){X Y:Obj}(hg1:(wr.alloc X).grownBy w2 (Value.slice none 0 0).ownBlock){o:Nat}{v:Value}
    (hg2:((w2.setCell ⟨wr.heap.size,o,none⟩ v).alloc Y).grownBy w3 dv.ownBlock) (hv:∀k,dv.ownBlock=some k→w.heap.size+3≤k):LI w w3 t3 dT dP:=by
  have h1:=h.keep (World.grownBy_alloc wr X none) (fun k e=>by cases e)
  have h2:=h1.keep hg1 (fun k e=>by cases e)
  have h3:=h2.keep (grown_set w2 wr.heap.size o v) (fun k e=>by cases e;exact h.size)
  have h4:=h3.keep (World.grownBy_alloc _ Y none) (fun k e=>by cases e)
  exact h4.keep hg2 hv
theorem grown_rest{wA wr w2 w3:World}{dv:Value}{b5:Nat}(h:wA.grownBy wr (some b5)){X Y:Obj}(hg1:(wr.alloc X).grownBy w2 (Value.slice none 0 0).ownBlock){o:Nat}{v:Value}
    (hg2:((w2.setCell ⟨wr.heap.size,o,none⟩ v).alloc Y).grownBy w3 dv.ownBlock) (hv:∀k,dv.ownBlock=some k→wA.heap.size≤k) (j:Nat) (u:Value):wA.grownBy (w3.setCell ⟨b5,j,none⟩ u) (some b5):=by
  have h1:=h.andThen (World.grownBy_alloc wr X none) (fun k e=>by cases e)
  have h2:=h1.andThen hg1 (fun k e=>by cases e)
  have h3:=h2.andThen (grown_set w2 wr.heap.size o v) (fun k e=>by cases e;exact .inl h.size)
  have h4:=h3.andThen (World.grownBy_alloc _ Y none) (fun k e=>by cases e)
  have h5:=h4.andThen hg2 (fun k e=>.inl (hv k e))
  exact h5.andThen (grown_set w3 b5 j u) (fun k e=>.inr e)
theorem getD_some{A:Type}{l:List A}{p:Nat}{x d:A}(h:l[p]?=some x):l.getD p d=x:=by rw[List.getD_eq_getElem?_getD,h];rfl
def dT0:TeamD:=(⟨#[]⟩,[],())
def dP0:PolD:=(⟨#[]⟩,[],0,())
def outT(ts:List TeamD)(a:Nat)(v:Value):List Value:=[.string (ts.getD a dT0).1,v]
def outP(ps:List PolD)(a:Nat)(v:Value):List Value:=[.string (ps.getD a dP0).1,v,.int .i64 (ps.getD a dP0).2.2.1]
def lenT(ts:List TeamD)(a:Nat):Nat:=(ts.getD a dT0).2.1.length
def lenP(ps:List PolD)(a:Nat):Nat:=(ps.getD a dP0).2.1.length
abbrev NT(w:World)(ts:List TeamD)(mb mo:Nat→Nat):=NB (w.heap.size+3) 110 2 3 1 (outT ts) (fun a=>cellsAt w (mb a) (mo a) (lenT ts a*1)) (lenT ts)
abbrev NP(B:Nat)(w:World)(ps:List PolD)(sb so:Nat→Nat):=NB B 59 3 86 3 (outP ps) (fun a=>cellsAt w (sb a) (so a) (lenP ps a*3)) (lenP ps)
theorem team_round{w wr w2 w3:World}{ts:List TeamD}{mb mo:Nat→Nat}{p g1 cap1 g2 cap2:Nat}{dv:Value}{V:Nat→Value}{t:TeamD}(h:NT w ts mb mo wr p dv V)(ht:ts[p]?=some t)(hs:w.heap.size+3≤wr.heap.size){X Y:Obj}
    (hown1:w2.ownsRow (w.heap.size+3) 3 1 (.slice (some ⟨g1,0,none⟩) (0+t.2.1.length) cap1) (0+t.2.1.length) ([]++cellsAt w (mb p) (mo p) (t.2.1.length*1))) (hg1:(wr.alloc X).grownBy w2 (Value.slice none 0 0).ownBlock) (hat1:(Value.slice none 0 0).ownBlock=some g1∨g1=wr.heap.size+1)
    {o:Nat} {v:Value} (hown2:w3.ownsRow (w.heap.size+3) 110 2 (.slice (some ⟨g2,0,none⟩) (p+1) cap2) (p+1) (((List.range p).flatMap fun a=>outT ts a (V a))++ [.string t.1,.slice (some ⟨g1,0,none⟩) t.2.1.length cap1]))
    (hg2:((w2.setCell ⟨wr.heap.size,o,none⟩ v).alloc Y).grownBy w3 dv.ownBlock) (hat2:dv.ownBlock=some g2∨g2=w2.heap.size+1) (j:Nat) (u:Value):
    NT w ts mb mo (w3.setCell ⟨w.heap.size+1+1,j,none⟩ u) (p+1) (.slice (some ⟨g2,0,none⟩) (p+1) cap2) (setV V p (.slice (some ⟨g1,0,none⟩) t.2.1.length cap1)):=by
  have e1:lenT ts p=t.2.1.length:=by unfold lenT;rw[getD_some ht]
  have e2:∀v,outT ts p v=[.string t.1,v]:=fun v=>by unfold outT;rw[getD_some ht]
  rw[←e1]at hown1 hown2 ⊢
  rw[←e2]at hown2
  exact NB.round h hs hown1 hg1 hat1 hown2 hg2 hat2 (by omega) j u
theorem pol_round{B:Nat}{w wr w2 w3:World}{ps:List PolD}{sb so:Nat→Nat}{p g1 cap1 g2 cap2:Nat}{dv:Value}{V:Nat→Value}{t:PolD}(h:NP B w ps sb so wr p dv V)(ht:ps[p]?=some t)(hs:B≤wr.heap.size)(hB:w.heap.size+3≤B){X Y:Obj}
    (hown1:w2.ownsRow B 86 3 (.slice (some ⟨g1,0,none⟩) (0+t.2.1.length) cap1) (0+t.2.1.length) ([]++cellsAt w (sb p) (so p) (t.2.1.length*3))) (hg1:(wr.alloc X).grownBy w2 (Value.slice none 0 0).ownBlock) (hat1:(Value.slice none 0 0).ownBlock=some g1∨g1=wr.heap.size+1)
    {o:Nat} {v:Value} (hown2:w3.ownsRow B 59 3 (.slice (some ⟨g2,0,none⟩) (p+1) cap2) (p+1) (((List.range p).flatMap fun a=>outP ps a (V a))++ [.string t.1,.slice (some ⟨g1,0,none⟩) t.2.1.length cap1,.int .i64 t.2.2.1]))
    (hg2:((w2.setCell ⟨wr.heap.size,o,none⟩ v).alloc Y).grownBy w3 dv.ownBlock) (hat2:dv.ownBlock=some g2∨g2=w2.heap.size+1) (j:Nat) (u:Value):
    NP B w ps sb so (w3.setCell ⟨w.heap.size+1+1,j,none⟩ u) (p+1) (.slice (some ⟨g2,0,none⟩) (p+1) cap2) (setV V p (.slice (some ⟨g1,0,none⟩) t.2.1.length cap1)):=by
  have e1:lenP ps p=t.2.1.length:=by unfold lenP;rw[getD_some ht]
  have e2:∀v,outP ps p v=[.string t.1,v,.int .i64 t.2.2.1]:=fun v=>by unfold outP;rw[getD_some ht]
  rw[←e1]at hown1 hown2 ⊢
  rw[←e2]at hown2
  exact NB.round h hs hown1 hg1 hat1 hown2 hg2 hat2 (by omega) j u
structure TL(w wA x:World)(bd:Nat)(lv:LV)(at':Int)(ts:List TeamD)(ps:List PolD)(mb mo:Nat→Nat)(inV:Nat→List Value)(P pc:Nat)(dT:Value)(V W:Nat→Value):Prop where
  grow:w.grownBy x (some bd)
  sA:w.heap.size+3≤wA.heap.size
  sX:wA.heap.size≤x.heap.size
  dice:DiceAt x bd lv at'
  b4:x.heap[w.heap.size+1]?=some (.cells #[.slice none 0 0,.slice none 0 0] 37 (0,0))
  b5:x.heap[w.heap.size+1+1]?=some (.cells #[dT,.slice (some ⟨P,0,none⟩) ps.length pc] 37 (0,0))
  nt:NT w ts mb mo x ts.length dT V
  tlt:(∀k,dT.ownBlock=some k→k<wA.heap.size)∧∀a,a<ts.length→∀k,(V a).ownBlock=some k→k<wA.heap.size
  np:NB wA.heap.size 59 3 86 3 (outP ps) inV (lenP ps) x ps.length (.slice (some ⟨P,0,none⟩) ps.length pc) W
theorem TL.roll{w wA x y:World}{bd:Nat}{lv:LV}{at' at2:Int}{ts:List TeamD}{ps:List PolD}{mb mo:Nat→Nat}{inV:Nat→List Value}{P pc:Nat}{dT:Value}{V W:Nat→Value}
    (h:TL w wA x bd lv at' ts ps mb mo inV P pc dT V W) (hbd:bd<w.heap.size) {x':World} (hx:x'.heap=x.heap) (hos:x'.os=x.os) (htp:x'.tape=x.tape) (hout:x'.output=x.output) (hR:Rolled x' y bd lv at2):TL w wA y bd lv at2 ts ps mb mo inV P pc dT V W:=by
  have hg:x.grownBy y (some bd):=⟨hR.grow.os.trans hos,hR.grow.tape.trans htp,hR.grow.output.trans hout,by have:=hR.size;rw[hx]at this;omega,fun k hk hne=>by
    have:=hR.grow.block k (by rw[hx];exact hk) hne
    rw[this,hx]⟩
  have hsz:y.heap.size=x.heap.size:=by have:=hR.size;rw[hx]at this;exact this
  have h1:=h.sA
  have h2:=h.sX
  refine⟨h.grow.trans hg,h1,by omega,hR.dice,?_,?_,h.nt.grow hg (fun k e=>by cases e;exact h.nt.below (.inl (by omega))),h.tlt,h.np.grow hg (fun k e=>by cases e;exact h.np.below (.inl (by omega)))⟩
  · rw[hg.block _ (by omega) (fun e=>by have:=Option.some.inj e;omega)];exact h.b4
  · rw[hg.block _ (by omega) (fun e=>by have:=Option.some.inj e;omega)];exact h.b5
theorem TL.start{w wA wb:World}{bd:Nat}{lv:LV}{at':Int}{ts:List TeamD}{ps:List PolD}{mb mo sb so:Nat→Nat}{P pc:Nat}{dT:Value}{V W:Nat→Value}{t3 t3':Array Value}{dP:Value}
    (hA:LI w wA t3 dT dP) (hN:NT w ts mb mo wA ts.length dT V) (hL:LI w wb t3' dT (.slice (some ⟨P,0,none⟩) ps.length pc)) (hG:wA.grownBy wb (some (w.heap.size+1+1))) (hbd:bd<w.heap.size)
    (hD:DiceAt w bd lv at') (hP:NP wA.heap.size w ps sb so wb ps.length (.slice (some ⟨P,0,none⟩) ps.length pc) W):TL w wA wb bd lv at' ts ps mb mo (fun a=>cellsAt w (sb a) (so a) (lenP ps a*3)) P pc dT V W:=by
  have hs:=hA.size
  refine⟨⟨hL.grow.os,hL.grow.tape,hL.grow.output,hL.grow.size,fun k hk _=>hL.grow.block k hk (by simp)⟩,hA.size,hG.size,hD.keep (hL.grow.block bd hbd (by simp)),hL.b4,hL.b5,hN.grow hG (fun k e=>by cases e;exact hN.below (.inl (by omega))),⟨fun k e=>(hN.own.lt k e).2,fun a ha k e=>((hN.row a ha).lt k e).2⟩,hP⟩
theorem flat_get{ps:List PolD}{W:Nat→Value}{n a j:Nat}(ha:a<n)(hj:j<3):((List.range n).flatMap fun a=>outP ps a (W a))[a*3+j]?=(outP ps a (W a))[j]?:=by
  induction n with
  |zero=>omega
  | succ n ih=>
    rw[List.range_succ,List.flatMap_append,List.flatMap_singleton]
    have hlen:((List.range n).flatMap fun a=>outP ps a (W a)).length=n*3:=by
      clear ih ha
      induction n with
      |zero=>rfl
      |succ n ih=>rw[List.range_succ,List.flatMap_append,List.length_append,ih,List.flatMap_singleton];show n*3+3=_;omega
    by_cases e:a=n
    · subst e
      rw[List.getElem?_append_right (by omega),hlen,show a*3+j-a*3=j by omega]
    · rw[List.getElem?_append_left (by omega)]
      exact ih (by omega)
theorem TL.cells{w wA x:World}{bd:Nat}{lv:LV}{at':Int}{ts:List TeamD}{ps:List PolD}{mb mo:Nat→Nat}{inV:Nat→List Value}{P pc:Nat}{dT:Value}{V W:Nat→Value}
    (h:TL w wA x bd lv at' ts ps mb mo inV P pc dT V W) {a:Nat} {p:PolD} (hp:ps[a]?=some p) (hpos:1≤p.2.1.length):
    ∃ R rc,W a= .slice (some ⟨R,0,none⟩) p.2.1.length rc∧wA.heap.size≤R∧x.cell? ⟨P,a*3,none⟩=some (.string p.1)∧x.cell? ⟨P,a*3+1,none⟩=some (.slice (some ⟨R,0,none⟩) p.2.1.length rc)∧x.cell? ⟨P,a*3+2,none⟩=some (.int .i64 p.2.2.1)∧
      (∀j u,j<p.2.1.length*3→(inV a)[j]?=some u→x.cell? ⟨R,j,none⟩=some u)∧(∀j,x.frozen? ⟨R,j,none⟩=false)∧R≠P:=by
  have ha:a<ps.length:=(List.getElem?_eq_some_iff.1 hp).1
  have e1:lenP ps a=p.2.1.length:=by unfold lenP;rw[getD_some hp]
  have hrow:=h.np.row a ha
  rw[e1]at hrow
  obtain⟨R,rc,hR,hR1,hR2⟩:=hrow.form (by omega)
  rw[hR]at hrow
  have key:∀j u,j<3→(outP ps a (W a))[j]?=some u→x.cell? ⟨P,a*3+j,none⟩=some u:=fun j u hj hu=>by
    rw[h.np.own.cellAt (a*3+j) (by omega),flat_get ha hj];exact hu
  have eo:outP ps a (W a)=[.string p.1,W a,.int .i64 p.2.2.1]:=by unfold outP;rw[getD_some hp]
  rw[eo,hR]at key
  refine⟨R,rc,hR,hR1,key 0 _ (by decide) rfl,key 1 _ (by decide) rfl,key 2 _ (by decide) rfl,fun j u hj hu=>by rw[hrow.cellAt j hj];exact hu,fun j=>hrow.frozenAt j,fun e=> ?_⟩
  have:=h.np.apart a R ha (by rw[hR];rfl)
  exact this (by rw[e];rfl)
theorem TL.alloc{w wA x:World}{bd:Nat}{lv:LV}{at':Int}{ts:List TeamD}{ps:List PolD}{mb mo:Nat→Nat}{inV:Nat→List Value}{P pc:Nat}{dT:Value}{V W:Nat→Value}
    (h:TL w wA x bd lv at' ts ps mb mo inV P pc dT V W) (hbd:bd<w.heap.size) (Y:Obj):TL w wA (x.alloc Y) bd lv at' ts ps mb mo inV P pc dT V W:=by
  have h1:=h.sA
  have h2:=h.sX
  have hg:x.grownBy (x.alloc Y) none:=World.grownBy_alloc x Y none
  refine⟨h.grow.andThen hg (fun k e=>by cases e),h1,by simp;omega,h.dice.keep (hg.block bd (by omega) (by simp)),?_,?_,h.nt.grow hg (fun k e=>by cases e),h.tlt,h.np.grow hg (fun k e=>by cases e)⟩
  · rw[hg.block _ (by omega) (by simp)];exact h.b4
  · rw[hg.block _ (by omega) (by simp)];exact h.b5
theorem TL.put{w wA x:World}{bd:Nat}{lv:LV}{at':Int}{ts:List TeamD}{ps:List PolD}{mb mo:Nat→Nat}{inV:Nat→List Value}{P pc:Nat}{dT:Value}{V W:Nat→Value}
    (h:TL w wA x bd lv at' ts ps mb mo inV P pc dT V W) (hbd:bd<w.heap.size) {a R rc:Nat} (ha:a<ps.length) (hR:W a= .slice (some ⟨R,0,none⟩) (lenP ps a) rc) (j:Nat) (v:Value):
    TL w wA (x.setCell ⟨R,j,none⟩ v) bd lv at' ts ps mb mo (fun b=>if b=a then(inV a).set j v else inV b) P pc dT V W:=by
  have h1:=h.sA
  have h2:=h.sX
  have hRo:(W a).ownBlock=some R:=by rw[hR];rfl
  have hRl:=(h.np.row a ha).lt R hRo
  have hg:x.grownBy (x.setCell ⟨R,j,none⟩ v) (some R):=grown_set x R j v
  refine⟨h.grow.andThen hg (fun k e=>by cases e;exact .inl (by omega)),h1,Nat.le_trans h2 hg.size,h.dice.keep (hg.block bd (by omega) (fun e=>by have e:bd=R:=Option.some.inj e;omega)),?_,?_,h.nt.grow hg (fun k e=> ?_),h.tlt,?_⟩
  · rw[hg.block _ (by omega) (fun e=>by have:=Option.some.inj e;omega)];exact h.b4
  · rw[hg.block _ (by omega) (fun e=>by have:=Option.some.inj e;omega)];exact h.b5
  · cases e
    exact⟨fun e=>by have:=h.tlt.1 _ e;omega,fun b hb e=>by have:=h.tlt.2 b hb _ e;omega⟩
  · have far:∀u:Value,u.ownBlock≠some R→u.ownBlock=none∨u.ownBlock≠some R:=fun u hu=>.inr hu
    refine⟨h.np.own.kept hg (far _ (h.np.apart a R ha hRo)),fun b hb=> ?_,h.np.blk,h.np.inj,h.np.apart⟩
    by_cases e:b=a
    · subst e
      rw[if_pos rfl]
      have:=(hR ▸ h.np.row b hb:x.ownsRow _ _ _ (.slice (some ⟨R,0,none⟩) (lenP ps b) rc) _ _).stored j v
      rw[hR]
      exact this.1
    · rw[if_neg e]
      exact(h.np.row b hb).kept hg (far _ fun e2=>e (h.np.inj b a R hb ha e2 hRo))
def tgFlat(l:List (Int×Int×Unit)):List Value:=l.flatMap fun t=> [.int .i64 t.1,.int .i64 t.2.1]
def TgtAt(wA w':World)(P:Nat)(v:Value):Option (List (Int×Int×Unit))→Prop
  |none=>True
  |some l=>∃g,v.ownBlock=some g∧w'.ownsRow wA.heap.size 112 2 v l.length (tgFlat l)∧g≠P
def OddEnd (w w':World) (bd:Nat) (lv:LV) (at':Int) (ts:List TeamD) (ps:List PolD) (mb mo:Nat→Nat) (inV:Nat→List Value) (e:Ending) (v:Value) (tg:Option (List (Int×Int×Unit))):Prop:=
  ∃ (wA:World) (P pc:Nat) (dT:Value) (V W:Nat→Value),e= .returned (.agg #[dT,.slice (some ⟨P,0,none⟩) ps.length pc])∧w.grownBy w' (some bd)∧w.heap.size+3≤wA.heap.size∧wA.heap.size≤w'.heap.size∧DiceAt w' bd lv at'∧
    NT w ts mb mo w' ts.length dT V∧((∀k,dT.ownBlock=some k→k<wA.heap.size)∧∀a,a<ts.length→∀k,(V a).ownBlock=some k→k<wA.heap.size)∧NB wA.heap.size 59 3 86 3 (outP ps) inV (lenP ps) w' ps.length (.slice (some ⟨P,0,none⟩) ps.length pc) W∧TgtAt wA w' P v tg
theorem TL.done{w wA x:World}{bd:Nat}{lv:LV}{at':Int}{ts:List TeamD}{ps:List PolD}{mb mo:Nat→Nat}{inV:Nat→List Value}{P pc:Nat}{dT:Value}{V W:Nat→Value}
    (h:TL w wA x bd lv at' ts ps mb mo inV P pc dT V W) (hbd:bd<w.heap.size) {y:World} (hg:x.grownBy y (some (w.heap.size+1))) (v:Value) (tg:Option (List (Int×Int×Unit))) (htg:TgtAt wA x P v tg):
    OddEnd w y bd lv at' ts ps mb mo inV (.returned (.agg #[dT,.slice (some ⟨P,0,none⟩) ps.length pc])) v tg:=by
  have h1:=h.sA
  have h2:=h.sX
  refine⟨wA,P,pc,dT,V,W,rfl,h.grow.andThen hg (fun k e=>.inl (by cases e;omega)),h1,Nat.le_trans h2 hg.size,h.dice.keep (hg.block bd (by omega) (fun e=>by have e:bd=w.heap.size+1:=Option.some.inj e;omega)),h.nt.grow hg (fun k e=>by cases e;exact h.nt.below (.inl (by omega))),h.tlt,h.np.grow hg (fun k e=>by cases e;exact h.np.below (.inl (by omega))),?_⟩
  · cases tg with
    |none=>trivial
    | some l=>
      obtain⟨g,g1,g2,g3⟩:=htg
      have:=(g2.lt g g1).1
      exact⟨g,g1,g2.kept hg (.inr (fun e=>by rw[g1]at e;have:=Option.some.inj e;omega)),g3⟩
theorem alloc_two{x:World}{B:Nat}(hB:B≤x.heap.size)(a b:Int):(x.alloc (.cells #[.int .i64 a,.int .i64 b] 112)).ownsRow B 112 2 (.slice (some ⟨x.heap.size,0,none⟩) 1 1) 1 (tgFlat [(a,b,())]):=
  ⟨rfl,.inr ⟨x.heap.size,1,#[.int .i64 a,.int .i64 b],rfl,hB,heap_alloc_new x _,Nat.le_refl _,by unfold maxLen;omega,rfl,rfl⟩⟩
theorem TL.next{w wA x:World}{bd:Nat}{lv:LV}{at':Int}{ts:List TeamD}{ps:List PolD}{mb mo:Nat→Nat}{inV:Nat→List Value}{P pc:Nat}{dT:Value}{V W:Nat→Value}{xs:List Int}
    (h:TL w wA x bd lv at' ts ps mb mo inV P pc dT V W) (hx:∀x,w.grownBy x (some bd)→IntsAt x lv xs) (h0:0≤at') (n:Int) (hn:1≤n):
    Calls Tryz.prog 19 #[.pointer (some ⟨bd,0,none⟩),.int .i64 n] x fun e w'=>e= .returned (.int .i64 (nxt xs at' n).1)∧Rolled x w' bd lv (nxt xs at' n).2:=
  next_calls x bd lv xs at' n h.dice (hx x h.grow) h0 hn
theorem TL.one{w wA x:World}{bd:Nat}{lv:LV}{at':Int}{ts:List TeamD}{ps:List PolD}{mb mo:Nat→Nat}{inV:Nat→List Value}{P pc:Nat}{dT:Value}{V W:Nat→Value}{xs:List Int}
    (h:TL w wA x bd lv at' ts ps mb mo inV P pc dT V W) (hbd:bd<w.heap.size) (hx:∀x,w.grownBy x (some bd)→IntsAt x lv xs) (h0:0≤at') (q:Nat) (z:Int) (hq:(nxt xs at' 3).1=(q:Int)) (hz:([-1,86400,86401]:List Int)[q]?=some z):
    Calls Tryz.prog 22 #[.pointer (some ⟨bd,0,none⟩),.slice (some ⟨x.heap.size,0,none⟩) 3 3] (x.alloc (.cells #[.int .i64 (-1),.int .i64 86400,.int .i64 86401] 3)) fun e w'=>e= .returned (.int .i64 z)∧Rolled (x.alloc (.cells #[.int .i64 (-1),.int .i64 86400,.int .i64 86401] 3)) w' bd lv (nxt xs at' 3).2:=by
  have hA:=h.alloc hbd (.cells #[.int .i64 (-1),.int .i64 86400,.int .i64 86401] 3)
  have h1:=h.sA
  have h2:=h.sX
  exact one_calls _ bd lv xs at' hA.dice (hx _ hA.grow) h0 x.heap.size 3 [-1,86400,86401] (by decide) (by omega) (fun p y hy=>by
    rw[blk_cell (heap_alloc_new x _)]
    have hp:p<3:=(List.getElem?_eq_some_iff.1 hy).1
    have:p=0∨p=1∨p=2:=by omega
    rcases this with rfl|rfl|rfl<;>(cases hy;rfl)) q z hq hz
theorem TL.facts{w wA x:World}{bd:Nat}{lv:LV}{at':Int}{ts:List TeamD}{ps:List PolD}{mb mo:Nat→Nat}{inV:Nat→List Value}{P pc:Nat}{dT:Value}{V W:Nat→Value}
    (h:TL w wA x bd lv at' ts ps mb mo inV P pc dT V W):x.cell? ⟨w.heap.size+1+1,0,none⟩=some dT∧x.cell? ⟨w.heap.size+1+1,1,none⟩=some (.slice (some ⟨P,0,none⟩) ps.length pc)∧x.cell? ⟨w.heap.size+1,0,none⟩=some (.slice none 0 0)∧x.cell? ⟨w.heap.size+1,1,none⟩=some (.slice none 0 0)∧
      x.frozen? ⟨w.heap.size+1,0,none⟩=false∧x.frozen? ⟨w.heap.size+1,1,none⟩=false:=
  ⟨blk_cell h.b5 0,blk_cell h.b5 1,blk_cell h.b4 0,blk_cell h.b4 1,blk_froz h.b4 0,blk_froz h.b4 1⟩
end Go.Proofs.YtcelhemfoehedaaGreat.Od
namespace Go.Proofs.YtcelhemfoehedaaGreat.Od
open Go Go.Abs Go.RowKit
theorem Tryz.info112:(Tryz.prog.info? 112).map (fun i=>(i.zero,i.size,i.bytes))=some (some (.agg #[.int .i64 0,.int .i64 0]),2,16):=by kernel_rfl
theorem tgFlat_len(l:TgL):(tgFlat l).length=l.length*2:=by
  unfold tgFlat
  induction l with
  |nil=>rfl
  |cons t r ih=>rw[List.flatMap_cons,List.length_append,ih];show 2+r.length*2=(r.length+1)*2;omega
theorem tgFlat_one(l:TgL):∀u∈tgFlat l,u.oneCell'=true:=by
  intro u hu
  obtain⟨t,_,h⟩:=List.mem_flatMap.1 hu
  simp at h
  rcases h with rfl|rfl<;>rfl
theorem tgFlat_snoc(l:TgL)(a b:Int):tgFlat (l++ [(a,b,())])=tgFlat l++ [.int .i64 a,.int .i64 b]:=by
  unfold tgFlat;rw[List.flatMap_append];rfl
def SrcAt(x:World)(v:Value)(l:TgL):Prop:=∃a c,v= .slice a l.length c∧(l.length≠0→∃g o,a=some ⟨g,o,none⟩∧∀j u,(tgFlat l)[j]?=some u→x.cell? ((⟨g,o,none⟩:Addr).add j)=some u)
theorem SrcAt.form{x:World}{v:Value}{l:TgL}(h:SrcAt x v l):∃a m c,v= .slice a m c:=by obtain⟨a,c,h,_⟩:=h;exact⟨a,_,c,h⟩
structure L7(wA x:World)(R P:Nat)(tgs:TgL)(r:Nat)(v:Value):Prop where
  src:SrcAt x v (tgs++List.replicate r (0,0,()))
  own:1≤r→∃g,v.ownBlock=some g∧x.ownsRow wA.heap.size 112 2 v (tgs++List.replicate r (0,0,())).length (tgFlat (tgs++List.replicate r (0,0,())))∧g≠P∧g≠R
theorem seven_len(tgs:TgL)(r:Nat):(tgs++List.replicate r ((0,0,()):Int×Int×Unit)).length=tgs.length+r:=by simp
def inS(w:World)(sb so:Nat→Nat)(ps:List PolD)(ii j:Nat)(v:Value)(b:Nat):List Value:=if b=ii then(cellsAt w (sb ii) (so ii) (lenP ps ii*3)).set j v else cellsAt w (sb b) (so b) (lenP ps b*3)
theorem TL.grow0{w wA x:World}{bd:Nat}{lv:LV}{at':Int}{ts:List TeamD}{ps:List PolD}{mb mo:Nat→Nat}{inV:Nat→List Value}{P pc:Nat}{dT:Value}{V W:Nat→Value}
    (h:TL w wA x bd lv at' ts ps mb mo inV P pc dT V W) (hbd:bd<w.heap.size) {y:World} (hg:x.grownBy y none):TL w wA y bd lv at' ts ps mb mo inV P pc dT V W:=by
  have h1:=h.sA
  have h2:=h.sX
  refine⟨h.grow.andThen hg (fun k e=>by cases e),h1,Nat.le_trans h2 hg.size,h.dice.keep (hg.block bd (by omega) (by simp)),?_,?_,h.nt.grow hg (fun k e=>by cases e),h.tlt,h.np.grow hg (fun k e=>by cases e)⟩
  · rw[hg.block _ (by omega) (by simp)];exact h.b4
  · rw[hg.block _ (by omega) (by simp)];exact h.b5
theorem set_self{l:List Value}{j:Nat}{y:Value}(h:l[j]?=some y):l.set j y=l:=by
  apply List.ext_getElem?
  intro k
  rw[List.getElem?_set]
  split
  · rename_i e;subst e
    have:=(List.getElem?_eq_some_iff.1 h).1
    rw[if_pos this,h]
  · rfl
section
variable{w wA x:World}{bd:Nat}{lv:LV}{at':Int}{ts:List TeamD}{ps:List PolD}{mb mo sb so:Nat→Nat}{P pc:Nat}{dT:Value}{V W:Nat→Value}{ii:Nat}
theorem TL.asS(h:TL w wA x bd lv at' ts ps mb mo (fun a=>cellsAt w (sb a) (so a) (lenP ps a*3)) P pc dT V W){j:Nat}{y:Value}(hj:j<lenP ps ii*3)(hy:w.cell? ⟨sb ii,so ii+j,none⟩=some y):
    TL w wA x bd lv at' ts ps mb mo (inS w sb so ps ii j y) P pc dT V W:=by
  have:inS w sb so ps ii j y=fun a=>cellsAt w (sb a) (so a) (lenP ps a*3):=by
    funext b
    unfold inS
    split
    · rename_i e;subst e;exact set_self (cellsAt_get hj hy)
    · rfl
  rw[this];exact h
theorem TL.cellS{j:Nat}{v:Value}(h:TL w wA x bd lv at' ts ps mb mo (inS w sb so ps ii j v) P pc dT V W)(hil:ii<ps.length){R rc:Nat}(hW:W ii= .slice (some ⟨R,0,none⟩) (lenP ps ii) rc)(hj:j<lenP ps ii*3):x.cell? ⟨R,j,none⟩=some v∧x.frozen? ⟨R,j,none⟩=false:=by
  have hrow:=h.np.row ii hil
  rw[hW]at hrow
  refine⟨?_,hrow.frozenAt j⟩
  rw[hrow.cellAt j hj]
  unfold inS
  rw[if_pos rfl,List.getElem?_set_self (by rw[cellsAt_len];exact hj)]
theorem TL.putS{j:Nat}{v:Value}(h:TL w wA x bd lv at' ts ps mb mo (inS w sb so ps ii j v) P pc dT V W)(hbd:bd<w.heap.size)(hil:ii<ps.length){R rc:Nat}(hW:W ii= .slice (some ⟨R,0,none⟩) (lenP ps ii) rc)(v':Value):
    TL w wA (x.setCell ⟨R,j,none⟩ v') bd lv at' ts ps mb mo (inS w sb so ps ii j v') P pc dT V W:=by
  have:=h.put hbd hil hW j v'
  have e:(fun b=>if b=ii then(inS w sb so ps ii j v ii).set j v' else inS w sb so ps ii j v b)=inS w sb so ps ii j v':=by
    funext b
    unfold inS
    by_cases hb:b=ii
    · rw[if_pos hb,if_pos hb,if_pos rfl,List.set_set]
    · rw[if_neg hb,if_neg hb,if_neg hb]
  rw[e]at this
  exact this
theorem seven_round{j r:Nat}{v:Value}(h:TL w wA x bd lv at' ts ps mb mo (inS w sb so ps ii j v) P pc dT V W)(hbd:bd<w.heap.size)(hil:ii<ps.length){R rc:Nat}(hW:W ii= .slice (some ⟨R,0,none⟩) (lenP ps ii) rc)
    {tgs:TgL} {w3:World} {m g2 cap2:Nat} (hm:(tgs++List.replicate r ((0,0,()):Int×Int×Unit)).length=m) (hg:x.grownBy w3 none) (hown:w3.ownsRow wA.heap.size 112 2 (.slice (some ⟨g2,0,none⟩) (m+1) cap2) (m+1) (tgFlat (tgs++List.replicate r (0,0,()))++ [.int .i64 0,.int .i64 0]))
    (hat:x.heap.size≤g2):TL w wA (w3.setCell ⟨R,j,none⟩ (.slice (some ⟨g2,0,none⟩) (m+1) cap2)) bd lv at' ts ps mb mo (inS w sb so ps ii j (.slice (some ⟨g2,0,none⟩) (m+1) cap2)) P pc dT V W∧
      L7 wA (w3.setCell ⟨R,j,none⟩ (.slice (some ⟨g2,0,none⟩) (m+1) cap2)) R P tgs (r+1) (.slice (some ⟨g2,0,none⟩) (m+1) cap2):=by
  have hRl:=((h.np.row ii hil).lt R (by rw[hW];rfl)).2
  have hP:=(h.np.own.lt P rfl).2
  have hk:=hown.kept (grown_set w3 R j (.slice (some ⟨g2,0,none⟩) (m+1) cap2)) (.inr (fun e=>by have:g2=R:=Option.some.inj e;omega))
  have e1:tgs++List.replicate (r+1) ((0,0,()):Int×Int×Unit)=(tgs++List.replicate r (0,0,()))++ [(0,0,())]:=by
    rw[List.replicate_succ',List.append_assoc]
  rw[←tgFlat_snoc,←e1]at hk
  have e2:(tgs++List.replicate (r+1) ((0,0,()):Int×Int×Unit)).length=m+1:=by rw[e1,List.length_append,hm];rfl
  refine⟨(h.grow0 hbd hg).putS hbd hil hW _,⟨⟨some ⟨g2,0,none⟩,cap2,by rw[e2],fun _=>⟨g2,0,rfl,fun k u hu=> ?_⟩⟩,fun _=>⟨g2,rfl,by rw[e2];exact hk,by omega,by omega⟩⟩⟩
  have hkl:=(List.getElem?_eq_some_iff.1 hu).1
  have hadd:(⟨g2,0,none⟩:Addr).add k=⟨g2,k,none⟩:=by unfold Addr.add;split<;>simp_all
  rw[hadd,hk.cellAt k (by rw[tgFlat_len,e2]at hkl;exact hkl)]
  exact hu
end
theorem seven_grow{x w2 w3:World}{X:Obj}{g1 n c:Nat}(h1:x.grownBy w2 (Value.slice none 0 0).ownBlock)(h2:(w2.alloc X).grownBy w3 (Value.slice (some ⟨g1,0,none⟩) n c).ownBlock)(hg:x.heap.size≤g1):x.grownBy w3 none:=by
  have h3:x.grownBy (w2.alloc X) none:=(show x.grownBy w2 none from h1).trans (World.grownBy_alloc w2 X none)
  exact h3.andThen h2 (fun k e=>by have:g1=k:=Option.some.inj e;exact .inl (by omega))
theorem seven_grow0{x w3:World}{X:Obj}(h2:(x.alloc X).grownBy w3 (Value.slice none 0 0).ownBlock):x.grownBy w3 none:=(World.grownBy_alloc x X none).trans h2
theorem own0{w:World}{base e s m:Nat}{a:Option Addr}{c:Nat}{cs:List Value}(h:w.ownsRow base e s (.slice a (0+m) c) (0+m) ([]++cs)):w.ownsRow base e s (.slice a m c) m cs:=by rw[Nat.zero_add,List.nil_append]at h;exact h
theorem seven_at{x w2:World}{g1 g2 n c:Nat}(h1:x.grownBy w2 (Value.slice none 0 0).ownBlock)(ha1:(Value.slice none 0 0).ownBlock=some g1∨g1=x.heap.size)(ha2:(Value.slice (some ⟨g1,0,none⟩) n c).ownBlock=some g2∨g2=w2.heap.size+1):x.heap.size≤g1∧x.heap.size≤g2:=by
  have e1:=ha1.resolve_left (none_own _)
  have e2:=h1.size
  refine⟨by omega,?_⟩
  rcases ha2 with e|e
  · have:g1=g2:=Option.some.inj e
    omega
  · omega
theorem seven_at0{x:World}{g2:Nat}(ha2:(Value.slice none 0 0).ownBlock=some g2∨g2=x.heap.size+1):x.heap.size≤g2:=by
  have e1:=ha2.resolve_left (none_own _)
  omega
theorem two_one:∀u∈([.int .i64 0,.int .i64 0]:List Value),u.oneCell'=true:=by
  intro u hu;simp at hu;rcases hu with rfl|rfl<;>rfl
theorem tgs_nil{l:TgL}(h:l.length=0):tgFlat l=[]:=by rw[List.length_eq_zero_iff.1 h];rfl
theorem run_append_void{P:Program}(w:World)(t ty e:TypeId)(i:TypeInfo)(ht:P.underlying t=some (.slice e))(hi:P.info? e=some i)(ad:Option Addr)(c:Nat):
    (Builtin.append_ #[t,t] ty #[.slice none 0 0,.slice ad 0 c]).run P w= .ok (.slice none 0 0) w:=by
  cases ad with
  |none=>simp[Builtin.append_,run_underlying ht,sizeOf,typeInfo,hi,Builtin.lenOf,Builtin.firstCells]
  |some a=>simp[Builtin.append_,run_underlying ht,sizeOf,typeInfo,hi,Builtin.lenOf,Builtin.firstCells,loadCells,loadCellsFrom]
theorem wpList_append_void{P:Program}(w:World){ops:Array Oper}{rest:List Oper}{o:Oper}{a:Act}{Q:Exit→Act→World→Prop}(hgd:o.guard=none)(s x:Operand)(t:TypeId)
    (ho:o.op= .call {callee:=.builtin .append,args:= #[s,x],argTypes:= #[t,t]}) (e:TypeId) (i:TypeInfo) (ht:P.underlying t=some (.slice e)) (hi:P.info? e=some i)
    (hs:a.eval s= .slice none 0 0) (ad:Option Addr) (c:Nat) (hx:a.eval x= .slice ad 0 c) (h:wpList P ops Q rest (a.put o.dst (.slice none 0 0)) w):wpList P ops Q (o::rest) a w:=
  wpList_plain hgd fun _ hK=>by
    have hr:=run_append_void (P:=P) w t o.type e i ht hi ad c
    unfold Oper.wp execOp
    simp only[ho,resolve,invoke,builtin,Sem.run_bind,Sem.run_pure,Result.andThen_ok,List.map_toArray,List.map_cons,List.map_nil,hs,hx,hr]
    exact hK _ _ h
end Go.Proofs.YtcelhemfoehedaaGreat.Od
namespace Go.Proofs.YtcelhemfoehedaaGreat.Od
open Go Go.Abs Go.RowKit
theorem own_row {t:Ty} {w':World} {X':XT} {base e:Nat} {nv:Value} {l:List t.den} {cs:List Value} (hpos:0<t.size) (hs:∀x:t.den,(enc t x).cells.length=t.size)
    (hown:w'.ownsRow base e t.size nv l.length cs) (hX:∀g,nv.ownBlock=some g→∀o,¬ X' g o)
    (hc:∀(i:Nat) (z:t.den),l[i]?=some z→∀(j:Nat) (u:AV),(enc t z).cells[j]?=some u→∃y,cs[i*t.size+j]?=some y∧y.oneCell'=true∧PR w' X' y u):PR w' X' nv (rowAV t l false):=by
  obtain⟨h1,h2|h2⟩:=hown
  · obtain⟨rfl,h0⟩:=h2
    obtain rfl:=List.length_eq_zero_iff.1 h0
    exact .lst0 _ _ _ _ (fun e=>by cases e)
  · obtain⟨g,cap,cur,rfl,hb,hcc,hn,_,hsz,htake⟩:=h2
    cases l with
    |nil=>exact .lst0 _ _ _ _ (fun e=>by cases e)
    | cons y r=>
      show PR w' X' _ (.lst t.size ((y::r).map (enc t)) false)
      generalize hl:y::r=l at *
      have get:∀k u,cs[k]?=some u→w'.cell? ⟨g,k,none⟩=some u:=fun k u hk=>by
        have hkl:=(List.getElem?_eq_some_iff.1 hk).1
        rw[h1]at hkl
        rw[←htake,List.getElem?_take,if_pos hkl]at hk
        simp only[World.cell?,hcc]
        rw[Array.getElem?_toList]at hk
        simpa using hk
      refine .lst g 0 l.length cap t.size false _ (fun i j=>(cs[i*t.size+j]?).getD undef) (by rw[List.length_map]) hn (fun e=>by cases e) (fun i x hi=> ?_) (fun i x hi j u hj=> ?_) (fun i x hi j u hj=> ?_)
      · rw[List.getElem?_map]at hi
        obtain⟨z,hz,rfl⟩:=Option.map_eq_some_iff.1 hi
        exact hs z
      · rw[List.getElem?_map]at hi
        obtain⟨z,hz,rfl⟩:=Option.map_eq_some_iff.1 hi
        obtain⟨q,hq,q1,_⟩:=hc i z hz j u hj
        refine⟨hX g rfl _,?_,by rw[hq];exact q1⟩
        rw[Nat.zero_add,get _ _ hq,hq];rfl
      · rw[List.getElem?_map]at hi
        obtain⟨z,hz,rfl⟩:=Option.map_eq_some_iff.1 hi
        obtain⟨q,hq,_,q2⟩:=hc i z hz j u hj
        rw[hq]
        exact q2
theorem own_elems {t:Ty} {w':World} {X':XT} {ρ:Rho} {base e n:Nat} {nv:Value} {f:Nat→List Value} {l:List t.den} (hs:∀x:t.den,(enc t x).cells.length=t.size) (hf:∀a,(f a).length=t.size) (hn:n=l.length)
    {g:Nat} (hg:nv.ownBlock=some g) (hown:w'.ownsRow base e t.size nv n ((List.range n).flatMap f))
    (hc:∀(i:Nat) (z:t.den),l[i]?=some z→∀(j:Nat) (u:AV),(enc t z).cells[j]?=some u→∃y,(f i)[j]?=some y∧y.oneCell'=true∧PR w' X' y u):
    ∃cs,w'.heap[g]?=some (.cells cs e (0,0))∧ElemsAt false w' X' ρ cs t.size (l.map (enc t))∧∃cap,nv= .slice (some ⟨g,0,none⟩) n cap∧n≤cap∧cap*t.size≤cs.size:=by
  subst hn
  rcases hown.2 with⟨rfl,_⟩|⟨g',cap,cur,rfl,hb,hcc,hn,_,hsz,htake⟩
  · cases hg
  · have:g'=g:=Option.some.inj hg
    subst this
    have flat:∀n a j,a<n→j<t.size→((List.range n).flatMap f)[a*t.size+j]?=(f a)[j]?:=by
      intro n
      induction n with
      |zero=>intro a j ha;omega
      | succ n ih=>
        intro a j ha hj
        rw[List.range_succ,List.flatMap_append,List.flatMap_singleton]
        have hlen:∀n,((List.range n).flatMap f).length=n*t.size:=by
          intro n
          induction n with
          |zero=>simp
          |succ n ih=>rw[List.range_succ,List.flatMap_append,List.length_append,ih,List.flatMap_singleton,hf,Nat.add_mul,Nat.one_mul]
        by_cases e:a=n
        · subst e
          rw[List.getElem?_append_right (by rw[hlen];omega),hlen,show a*t.size+j-a*t.size=j by omega]
        · rw[List.getElem?_append_left]
          · exact ih a j (by omega) hj
          · rw[hlen]
            have:=Nat.mul_le_mul_right t.size (show a+1≤n by omega)
            rw[Nat.add_mul,Nat.one_mul]at this
            omega
    refine⟨cur,hcc,⟨by rw[List.length_map,hsz];exact Nat.mul_le_mul_right _ hn,fun i x hi=> ?_⟩,cap,rfl,hn,by rw[hsz];exact Nat.le_refl _⟩
    rw[List.getElem?_map]at hi
    obtain⟨z,hz,rfl⟩:=Option.map_eq_some_iff.1 hi
    refine⟨hs z,fun j u hj=> ?_⟩
    obtain⟨y,hy,h1,h2⟩:=hc i z hz j u hj
    have hil:=(List.getElem?_eq_some_iff.1 hz).1
    have hjl:=(List.getElem?_eq_some_iff.1 hj).1
    rw[hs]at hjl
    have hk:cur.getD (i*t.size+j) undef=y:=by
      have h3:=flat l.length i j hil hjl
      rw[hy,←htake,List.getElem?_take]at h3
      have hlt:i*t.size+j<l.length*t.size:=by
        have:=Nat.mul_le_mul_right t.size (show i+1≤l.length by omega)
        rw[Nat.add_mul,Nat.one_mul]at this
        omega
      rw[if_pos hlt,Array.getElem?_toList]at h3
      rw[Array.getD_eq_getD_getElem?,h3]
      rfl
    rw[hk]
    exact⟨h1,h2⟩
end Go.Proofs.YtcelhemfoehedaaGreat.Od
namespace Go.Proofs.YtcelhemfoehedaaGreat.Od
open Go Go.Abs Go.RowKit
theorem tgt_len(x:Int×Int×Unit):(enc tTgt x).cells.length=tTgt.size:=rfl
theorem team_len(x:TeamD):(enc tTeam x).cells.length=tTeam.size:=rfl
theorem pol_len(x:PolD):(enc tPol x).cells.length=tPol.size:=rfl
theorem steps_set{w w':World}{X X':XT}{base:Nat}{sv nv v:Value}{l:List StepD}{b o kk j0:Nat}{sp sp':StepD}(h:RowIn tStep w X sv l b o)(hsp:l[kk]?=some sp)(hj0:j0<3)
    (hown:w'.ownsRow base 86 3 nv l.length ((cellsAt w b o (l.length*3)).set (kk*3+j0) v)) (hst:Stable w X w' X') (hX:∀g,nv.ownBlock=some g→∀o,¬ X' g o) (hv:v.oneCell'=true)
    (hv2:∀u,(enc tStep sp').cells[j0]?=some u→PR w' X' v u) (hsame:∀j,j≠j0→(enc tStep sp').cells[j]?=(enc tStep sp).cells[j]?):PR w' X' nv (rowAV tStep (l.set kk sp') false):=by
  have hkl:=(List.getElem?_eq_some_iff.1 hsp).1
  have hown':w'.ownsRow base 86 3 nv (l.set kk sp').length ((cellsAt w b o (l.length*3)).set (kk*3+j0) v):=by rw[List.length_set];exact hown
  have key:∀(i:Nat) (z:StepD),(l.set kk sp')[i]?=some z→∀(j:Nat) (u:AV),(enc tStep z).cells[j]?=some u→∃y,((cellsAt w b o (l.length*3)).set (kk*3+j0) v)[i*3+j]?=some y∧y.oneCell'=true∧PR w' X' y u:= ?_
  · exact own_row (t:=tStep) (by decide) step_len hown' hX key
  intro i z hz j u hu
  have hil:=(List.getElem?_eq_some_iff.1 hz).1
  rw[List.length_set]at hil
  have hj3:j<3:=(List.getElem?_eq_some_iff.1 hu).1
  rw[List.getElem?_set]at hz
  have old:∀(x:StepD),l[i]?=some x→(enc tStep x).cells[j]?=some u→kk*3+j0≠i*3+j→∃y,((cellsAt w b o (l.length*3)).set (kk*3+j0) v)[i*3+j]?=some y∧y.oneCell'=true∧PR w' X' y u:=fun x hx hu hne=>by
    obtain⟨y,y1,y2,y3⟩:=h.cell i x hx j u hu
    refine⟨y,?_,y2,y3.mono hst⟩
    rw[List.getElem?_set_ne hne]
    exact cellsAt_get (by omega) y1
  by_cases e:kk=i
  · subst e
    rw[if_pos rfl,if_pos hkl]at hz
    have:=Option.some.inj hz
    subst this
    by_cases ej:j=j0
    · subst ej
      exact⟨v,by rw[List.getElem?_set_self (by rw[cellsAt_len];omega)],hv,hv2 u hu⟩
    · rw[hsame j ej]at hu
      exact old sp hsp hu (by omega)
  · rw[if_neg e]at hz
    exact old z hz hu (by omega)
inductive StepTo(sp:StepD):Nat→Value→Option TgL→StepD→Prop
  |wait (z:Int):StepTo sp 0 (.int .i64 z) none (z,sp.2)
  |tgts (v:Value) (l:TgL):StepTo sp 2 v (some l) (sp.1,(sp.2.1,(l,())))
theorem tgt_pr {w':World} {X':XT} {base:Nat} {v:Value} {l:TgL} (hown:w'.ownsRow base 112 2 v l.length (tgFlat l)) (hX:∀g,v.ownBlock=some g→∀o,¬ X' g o):PR w' X' v (rowAV tTgt l false):=by
  have key:∀(i:Nat) (z:Int×Int×Unit),l[i]?=some z→∀(j:Nat) (u:AV),(enc tTgt z).cells[j]?=some u→∃y,(tgFlat l)[i*2+j]?=some y∧y.oneCell'=true∧PR w' X' y u:= ?_
  · exact own_row (t:=tTgt) (by decide) tgt_len hown hX key
  intro i z hz j u hu
  have hj:j<2:=(List.getElem?_eq_some_iff.1 hu).1
  have flat:(tgFlat l)[i*2+j]?=[Value.int .i64 z.1,.int .i64 z.2.1][j]?:=by
    clear hown hX hu u
    induction l generalizing i with
    |nil=>simp at hz
    | cons t r ih=>
      have e:tgFlat (t::r)=[Value.int .i64 t.1,.int .i64 t.2.1]++tgFlat r:=by unfold tgFlat;rw[List.flatMap_cons]
      rw[e]
      cases i with
      | zero=>
        rw[List.getElem?_append_left (by show 0*2+j<2;omega)]
        simp at hz
        subst hz
        rw[Nat.zero_mul,Nat.zero_add]
      | succ i=>
        rw[List.getElem?_append_right (by show 2≤_;omega)]
        simp at hz
        show(tgFlat r)[(i+1)*2+j-2]?=_
        rw[show(i+1)*2+j-2=i*2+j by omega]
        exact ih i hz
  rw[flat]
  have:j=0∨j=1:=by omega
  rcases this with rfl|rfl
  · have e:AV.int .i64 z.1=u:=Option.some.inj hu
    exact⟨_,rfl,rfl,by rw[←e];exact .int _ _⟩
  · have e:AV.int .i64 z.2.1=u:=Option.some.inj hu
    exact⟨_,rfl,rfl,by rw[←e];exact .int _ _⟩
end Go.Proofs.YtcelhemfoehedaaGreat.Od
namespace Go.Proofs.YtcelhemfoehedaaGreat.Od
open Go Go.Abs Go.RowKit
abbrev tDice:Ty:=.cons (.row (.int .i64)) (.cons (.int .i64) .unit)
abbrev DiceD:=List Int×Int×Unit
def kDice(xs:List Int)(a:Int):Blk:=⟨2,[enc tDice ((xs,a,()):DiceD)],0,true⟩
def kTeams(ts:List TeamD):Blk:=⟨2,ts.map (enc tTeam),0,false⟩
def kPols(ps:List PolD):Blk:=⟨3,ps.map (enc tPol),0,false⟩
def hBack(xs:List Int)(a:Int)(ts:List TeamD)(ps:List PolD):Heap:=heapBack [some (kDice xs a)] [kTeams ts,kPols ps]
theorem get_hBack{xs:List Int}{a:Int}{ts:List TeamD}{ps:List PolD}{g:Nm}{k:Blk}(h:get (hBack xs a ts ps) g=some k):(g=(0,0)∧k=kDice xs a)∨(g=(1,0)∧k=kTeams ts)∨(g=(2,0)∧k=kPols ps):=by
  match g,h with
  |(0,0),h=>exact .inl ⟨rfl,(Option.some.inj h).symm⟩
  |(1,0),h=>exact .inr (.inl ⟨rfl,(Option.some.inj h).symm⟩)
  |(2,0),h=>exact .inr (.inr ⟨rfl,(Option.some.inj h).symm⟩)
  |(0,y+1),h=>simp[Abs.get,hBack,heapBack]at h
  |(1,y+1),h=>simp[Abs.get,hBack,heapBack]at h
  |(2,y+1),h=>simp[Abs.get,hBack,heapBack]at h
  |(x+3,y),h=>simp[Abs.get,hBack,heapBack]at h
def rhoB(bd:Nat)(g1:Option Nat)(P:Nat):Rho:=fun g=>if g=(0,0)then some bd else if g=(1,0)then g1 else if g=(2,0)then some P else none
theorem rhoB_some{bd P b:Nat}{g1:Option Nat}{g:Nm}(h:rhoB bd g1 P g=some b):(g=(0,0)∧b=bd)∨(g=(1,0)∧g1=some b)∨(g=(2,0)∧b=P):=by
  unfold rhoB at h
  split at h
  · exact .inl ⟨‹_›,(Option.some.inj h).symm⟩
  · split at h
    · exact .inr (.inl ⟨‹_›,h⟩)
    · split at h
      · exact .inr (.inr ⟨‹_›,(Option.some.inj h).symm⟩)
      · cases h
theorem stable_back{Y:XT}{w w':World}{ρ:Rho}{k0:Blk}{bd P:Nat}{g1:Option Nat}{xs:List Int}{a:Int}{ts:List TeamD}{ps:List PolD}(hr:HR Y w ρ [[some k0]])(hρ:ρ (0,0)=some bd)(hf:k0.frz=0)
    (hg:w.grownBy w' (some bd)) (hb:bsize w' bd=bsize w bd) (hG:∀G,g1=some G→w.heap.size≤G) (hP:w.heap.size≤P):
    Stable w (XX ρ [[some k0]]) w' (XX (rhoB bd g1 P) (hBack xs a ts ps)):=by
  have inbd:∀o,XX ρ [[some k0]] bd o:=fun o=>⟨(0,0),k0,rfl,hρ,by rw[hf];omega⟩
  have back:∀b o,XX (rhoB bd g1 P) (hBack xs a ts ps) b o→b=bd∨w.heap.size≤b:=fun b o h=>by
    obtain⟨g,k,h1,h2,h3⟩:=h
    rcases rhoB_some h2 with⟨_,e⟩|⟨_,e⟩|⟨_,e⟩
    · exact .inl e
    · exact .inr (hG b e)
    · subst e;exact .inr hP
  have bsz:∀b,b<w.heap.size→bsize w' b=bsize w b:=fun b hlt=>by
    by_cases e:b=bd
    · subst e;exact hb
    · unfold bsize
      rw[hg.block b hlt (fun e2=>e (Option.some.inj e2))]
  refine⟨hg.os,hg.tape,hg.output,hg.size,fun b o hlt hn=> ?_,bsz,fun b hlt hn=> ?_⟩
  · have hne:b≠bd:=fun e=>hn (e ▸ inbd o)
    refine⟨fun h=> ?_,?_⟩
    · rcases back b o h with e|e
      · exact hne e
      · omega
    · exact World.cell?_of_block (a:=⟨b,o,none⟩) (hg.block b hlt (fun e2=>hne (Option.some.inj e2)))
  · have hne:b≠bd:=fun e=>hn 0 (e ▸ inbd 0)
    exact hg.block b hlt (fun e2=>hne (Option.some.inj e2))
theorem bsize_dice{w w':World}{bd:Nat}{lv:LV}{a a':Int}(h:DiceAt w bd lv a)(h':DiceAt w' bd lv a'):bsize w' bd=bsize w bd:=by
  obtain⟨cs,e1,e2⟩:=h.sh
  obtain⟨cs',e3,e4⟩:=h'.sh
  unfold bsize
  rw[e1,e3]
  show cs'.size=cs.size
  omega
set_option maxHeartbeats 800000 in
theorem odd_back {Y:XT} {w w':World} {ρ:Rho} {k0:Blk} {bd:Nat} {lv:LV} {at0 atf:Int} {xs:List Int} {ts:List TeamD} {ps:List PolD} {mb mo sb so:Nat→Nat} {mv sv:Nat→Value} {tb to' pb po ii kk j0:Nat} {pp:PolD} {sp sp':StepD} {v:Value} {tg:Option TgL} {e:Ending}
    (hr:HR Y w ρ [[some k0]]) (hρ:ρ (0,0)=some bd) (hf:k0.frz=0) (hD0:DiceAt w bd lv at0) (hlv:PR w (XU Y ρ [[some k0]]) lv.v (rowAV (.int .i64) xs false)) (hlo:lv.v.oneCell'=true) (hn2:2≤lv.n)
    (hT:TeamsIn w (XU Y ρ [[some k0]]) ts tb to' mv mb mo) (hP:PolsIn w (XU Y ρ [[some k0]]) ps pb po sv sb so) (hpp:ps[ii]?=some pp) (hsp:pp.2.1[kk]?=some sp) (hsp':StepTo sp j0 v tg sp')
    (hE:OddEnd w w' bd lv atf ts ps mb mo (fun b=>if b=ii then(cellsAt w (sb ii) (so ii) (lenP ps ii*3)).set (kk*3+j0) v else cellsAt w (sb b) (so b) (lenP ps b*3)) e v tg):
    ∃ rv ρ',e= .returned rv∧HR Y w' ρ' (hBack xs atf ts (polSet ps ii kk pp sp'))∧VR w' (XU Y ρ' (hBack xs atf ts (polSet ps ii kk pp sp'))) ρ' rv (.agg [.own (1,0) 2 0 ts.length,.own (2,0) 3 0 ps.length])∧
      Stable w (XX ρ [[some k0]]) w' (XX ρ' (hBack xs atf ts (polSet ps ii kk pp sp')))∧∀g b,ρ g=some b→ρ' g=some b:=by
  obtain⟨wA,P,pc,dT,V,W,rfl,hg,hsA,hsX,hD,hNT,⟨tl1,tl2⟩,hNP,hTg⟩:=hE
  have hbd:bd<w.heap.size:=hr.lt _ _ hρ
  have hPlt:=hNP.own.lt P rfl
  have hG:∀G,dT.ownBlock=some G→w.heap.size+3≤G∧G<wA.heap.size:=fun G e=>⟨(hNT.own.lt G e).1,tl1 G e⟩
  have hstX:=stable_back (xs:=xs) (a:=atf) (ts:=ts) (ps:=polSet ps ii kk pp sp') hr hρ hf hg (bsize_dice hD0 hD) (g1:=dT.ownBlock) (P:=P) (fun G e=>by have:=hG G e;omega) (by omega)
  have hst:=hstX.xu Y
  generalize hH:hBack xs atf ts (polSet ps ii kk pp sp')=H1 at *
  generalize hR:rhoB bd dT.ownBlock P=ρ' at *
  have ρ0:ρ' (0,0)=some bd:=by rw[←hR];rfl
  have ρ1:ρ' (1,0)=dT.ownBlock:=by rw[←hR];rfl
  have ρ2:ρ' (2,0)=some P:=by rw[←hR];rfl
  have notX:∀b o,w.heap.size≤b→dT.ownBlock≠some b→b≠P→¬ XU Y ρ' H1 b o:=fun b o h1 h2 h3 h=>by
    rcases h with⟨g,k,q1,q2,q3⟩|h
    · rw[←hR]at q2
      rcases rhoB_some q2 with⟨_,e⟩|⟨_,e⟩|⟨_,e⟩
      · omega
      · exact h2 e
      · exact h3 e
    · have:=hr.ylt b o h;omega
  have hVX:∀a,a<ts.length→∀g,(V a).ownBlock=some g→∀o,¬ XU Y ρ' H1 g o:=fun a ha g hg o=>by
    have h1:=((hNT.row a ha).lt g hg).1
    have h2:=tl2 a ha g hg
    exact notX g o (by omega) (hNT.apart a g ha hg) (by omega)
  have teams:∀(i:Nat) (z:TeamD),ts[i]?=some z→∀(j:Nat) (u:AV),(enc tTeam z).cells[j]?=some u→∃y,(outT ts i (V i))[j]?=some y∧y.oneCell'=true∧PR w' (XU Y ρ' H1) y u:=fun i z hz j u hu=>by
    have hi:=(List.getElem?_eq_some_iff.1 hz).1
    have hj:j<2:=(List.getElem?_eq_some_iff.1 hu).1
    have eo:outT ts i (V i)=[.string z.1,V i]:=by unfold outT;rw[getD_some hz]
    rw[eo]
    have:j=0∨j=1:=by omega
    rcases this with rfl|rfl
    · have e:AV.str z.1=u:=Option.some.inj hu
      exact⟨_,rfl,rfl,by rw[←e];exact .str _⟩
    · have e:rowAV (.int .i64) z.2.1 false=u:=Option.some.inj hu
      have hrow:=hNT.row i hi
      have el:lenT ts i=z.2.1.length:=by unfold lenT;rw[getD_some hz]
      rw[el]at hrow
      exact⟨_,rfl,own_one hrow,by rw[←e];exact copy_row (hT.row i z hz) (by decide) int_len hrow hst (hVX i hi)⟩
  have hWX:∀a,a<ps.length→∀g,(W a).ownBlock=some g→∀o,¬ XU Y ρ' H1 g o:=fun a ha g hg o=>by
    have h1:=((hNP.row a ha).lt g hg).1
    exact notX g o (by omega) (fun e=>by have:=hG g e;omega) (fun e=>hNP.apart a g ha hg (by rw[e];rfl))
  have hil:ii<ps.length:=(List.getElem?_eq_some_iff.1 hpp).1
  have pols :∀(i:Nat) (z:PolD),(polSet ps ii kk pp sp')[i]?=some z→∀(j:Nat) (u:AV),(enc tPol z).cells[j]?=some u→∃y,(outP ps i (W i))[j]?=some y∧y.oneCell'=true∧PR w' (XU Y ρ' H1) y u:=fun i z hz j u hu=>by
    have hj:j<3:=(List.getElem?_eq_some_iff.1 hu).1
    have h3:j=0∨j=1∨j=2:=by omega
    unfold polSet at hz
    rw[List.getElem?_set]at hz
    by_cases hne:ii=i
    · subst hne
      rw[if_pos rfl,if_pos hil]at hz
      have hz:=Option.some.inj hz
      subst hz
      have eo:outP ps ii (W ii)=[.string pp.1,W ii,.int .i64 pp.2.2.1]:=by unfold outP;rw[getD_some hpp]
      rw[eo]
      rcases h3 with rfl|rfl|rfl
      · have e:AV.str pp.1=u:=Option.some.inj hu
        exact⟨_,rfl,rfl,by rw[←e];exact .str _⟩
      · have e:rowAV tStep (pp.2.1.set kk sp') false=u:=Option.some.inj hu
        have hrow:=hNP.row ii hil
        have el:lenP ps ii=pp.2.1.length:=by unfold lenP;rw[getD_some hpp]
        simp only[if_pos rfl,el]at hrow
        refine⟨_,rfl,own_one hrow,?_⟩
        rw[←e]
        cases hsp' with
        |wait z=>exact steps_set (hP.row ii pp hpp) hsp (by decide) hrow hst (hWX ii hil) rfl (fun u hu=>by have e:AV.int .i64 z=u:=Option.some.inj hu;rw[←e];exact .int _ _) (fun j hj=>by
            match j with
            |0=>exact absurd rfl hj
            |j+1=>rfl)
        | tgts v l=>
          obtain⟨g,t1,t2,t3⟩:=hTg
          have t4:=(t2.lt g t1).1
          refine steps_set (hP.row ii pp hpp) hsp (by decide) hrow hst (hWX ii hil) (own_one t2) (fun u hu=> ?_) (fun j hj=>by
            match j with
            |0=>rfl
            |1=>rfl
            |2=>exact absurd rfl hj
            |j+3=>rfl)
          have e:rowAV tTgt l false=u:=Option.some.inj hu
          rw[←e]
          exact tgt_pr t2 (fun g' h' o=>by
            rw[t1]at h'
            have:=Option.some.inj h'
            subst this
            exact notX g o (by omega) (fun e=>by have:=hG g e;omega) t3)
      · have e:AV.int .i64 pp.2.2.1=u:=Option.some.inj hu
        exact⟨_,rfl,rfl,by rw[←e];exact .int _ _⟩
    · rw[if_neg hne]at hz
      have hi:=(List.getElem?_eq_some_iff.1 hz).1
      have eo:outP ps i (W i)=[.string z.1,W i,.int .i64 z.2.2.1]:=by unfold outP;rw[getD_some hz]
      rw[eo]
      rcases h3 with rfl|rfl|rfl
      · have e:AV.str z.1=u:=Option.some.inj hu
        exact⟨_,rfl,rfl,by rw[←e];exact .str _⟩
      · have e:rowAV tStep z.2.1 false=u:=Option.some.inj hu
        have hrow:=hNP.row i hi
        have el:lenP ps i=z.2.1.length:=by unfold lenP;rw[getD_some hz]
        simp only[if_neg (fun h=>hne (Eq.symm h):¬ i=ii),el]at hrow
        exact⟨_,rfl,own_one hrow,by rw[←e];exact copy_row (hP.row i z hz) (by decide) step_len hrow hst (hWX i hi)⟩
      · have e:AV.int .i64 z.2.2.1=u:=Option.some.inj hu
        exact⟨_,rfl,rfl,by rw[←e];exact .int _ _⟩
  obtain⟨csP,p1,p2,capP,p3,p4,p5⟩:=own_elems (t:=tPol) (ρ:=ρ') (X':=XU Y ρ' H1) (l:=polSet ps ii kk pp sp') (f:=fun a=>outP ps a (W a)) pol_len (fun a=>rfl) (show ps.length=(polSet ps ii kk pp sp').length by unfold polSet;exact(List.length_set ..).symm) rfl hNP.own pols
  have pcap:capP=pc:=by injection p3 with _ _ e;exact e.symm
  subst pcap
  have teamsB:∀G,dT.ownBlock=some G→∃cs,w'.heap[G]?=some (.cells cs 110 (0,0))∧ElemsAt false w' (XU Y ρ' H1) ρ' cs 2 (ts.map (enc tTeam))∧∃cap,dT= .slice (some ⟨G,0,none⟩) ts.length cap∧ts.length≤cap∧cap*2≤cs.size:=
    fun G e=>own_elems (t:=tTeam) (l:=ts) (f:=fun a=>outT ts a (V a)) team_len (fun a=>rfl) rfl e hNT.own teams
  have hcases:(dT= .slice none 0 0∧ts.length=0)∨∃G,dT.ownBlock=some G:=by
    rcases hNT.own.2 with h|⟨g,cap,cur,rfl,_⟩
    · exact .inl h
    · exact .inr ⟨g,rfl⟩
  have gcase:∀g k,get H1 g=some k→(g=(0,0)∧k=kDice xs atf)∨(g=(1,0)∧k=kTeams ts)∨(g=(2,0)∧k=kPols (polSet ps ii kk pp sp')):=fun g k h=>by rw[←hH]at h;exact get_hBack h
  refine⟨_,ρ',rfl,⟨fun g k hgk=> ?_,fun g g' k k' b _ _ e1 e2=> ?_,fun g b e=> ?_,fun g b e=> ?_,fun g k b o _ e hY=> ?_,fun b o hY=>Nat.lt_of_lt_of_le (hr.ylt b o hY) hg.size⟩,?_,hstX,fun g b e=> ?_⟩
  · rcases gcase g k hgk with⟨rfl,rfl⟩|⟨rfl,rfl⟩|⟨rfl,rfl⟩
    · refine .inr ⟨bd,ρ0,.inl ⟨show 0<2 by decide,?_⟩⟩
      obtain⟨cs,c1,c2⟩:=hD.sh
      have d0:=hD.c0
      have d1:=hD.c1
      simp only[World.cell?,c1]at d0 d1
      refine⟨cs,_,c1,?_,fun i x hx=> ?_⟩
      · show 1*2≤cs.size;omega
      · cases i with
        |succ i=>simp[kDice]at hx
        | zero=>
          have ex:enc tDice ((xs,atf,()):DiceD)=x:=Option.some.inj hx
          rw[←ex]
          refine⟨rfl,fun j u hu=> ?_⟩
          have hj:j<2:=(List.getElem?_eq_some_iff.1 hu).1
          have:j=0∨j=1:=by omega
          rcases this with rfl|rfl
          · have e:rowAV (.int .i64) xs false=u:=Option.some.inj hu
            have hc:cs.getD (0*2+0) undef=lv.v:=by rw[Array.getD_eq_getD_getElem?];simpa using congrArg (fun o=>o.getD undef) d0
            show(cs.getD (0*2+0) undef).oneCell'=true∧VR w' _ _ (cs.getD (0*2+0) undef) u
            rw[hc,←e]
            exact⟨hlo,.pur _ _ (hlv.mono hst)⟩
          · have e:AV.int .i64 atf=u:=Option.some.inj hu
            have hc:cs.getD (0*2+1) undef= .int .i64 atf:=by rw[Array.getD_eq_getD_getElem?];simpa using congrArg (fun o=>o.getD undef) d1
            show(cs.getD (0*2+1) undef).oneCell'=true∧VR w' _ _ (cs.getD (0*2+1) undef) u
            rw[hc,←e]
            exact⟨rfl,.pur _ _ (.int _ _)⟩
    · rcases hcases with⟨h1,h2⟩|⟨G,h1⟩
      · refine .inl ⟨by rw[ρ1,h1];rfl,?_,rfl⟩
        rw[List.length_eq_zero_iff.1 h2]
        rfl
      · obtain⟨cs,q1,q2,_⟩:=teamsB G h1
        exact .inr ⟨G,by rw[ρ1,h1],.inl ⟨show 0<2 by decide,cs,_,q1,q2⟩⟩
    · exact .inr ⟨P,ρ2,.inl ⟨show 0<3 by decide,csP,_,p1,p2⟩⟩
  · rw[←hR]at e1 e2
    rcases rhoB_some e1 with⟨rfl,a1⟩|⟨rfl,a1⟩|⟨rfl,a1⟩<;>rcases rhoB_some e2 with⟨rfl,a2⟩|⟨rfl,a2⟩|⟨rfl,a2⟩
    · rfl
    · have:=hG b a2;omega
    · omega
    · have:=hG b a1;omega
    · rfl
    · have:=hG b a1;omega
    · omega
    · have:=hG b a2;omega
    · rfl
  · rw[←hR]at e
    rw[←hH]
    rcases rhoB_some e with⟨rfl,_⟩|⟨rfl,_⟩|⟨rfl,_⟩<;>exact Nat.zero_lt_one
  · rw[←hR]at e
    rcases rhoB_some e with⟨_,e⟩|⟨_,e⟩|⟨_,e⟩
    · have:=hg.size;omega
    · have:=hNT.own.lt b e;omega
    · omega
  · rw[←hR]at e
    rcases rhoB_some e with⟨_,e⟩|⟨_,e⟩|⟨_,e⟩
    · subst e;exact hr.sep (0,0) k0 _ o rfl hρ hY
    · have:=hG b e;have:=hr.ylt b o hY;omega
    · have:=hr.ylt b o hY;omega
  · refine .agg _ _ rfl (fun i hi=> ?_) (fun i x hx=> ?_)
    · have hi2:i<2:=hi
      have:i=0∨i=1:=by omega
      rcases this with rfl|rfl
      · exact own_one hNT.own
      · rfl
    · have hi2:i<2:=(List.getElem?_eq_some_iff.1 hx).1
      have:i=0∨i=1:=by omega
      rcases this with rfl|rfl
      · have ex:AV.own (1,0) 2 0 ts.length=x:=Option.some.inj hx
        rw[←ex]
        show VR w' _ ρ' dT _
        rcases hcases with⟨h1,h2⟩|⟨G,h1⟩
        · rw[h1,h2];exact .own0 _ _ _ _
        · obtain⟨cs,q1,q2,cap,q3,q4,q5⟩:=teamsB G h1
          rw[q3]
          exact .own (1,0) G 2 0 ts.length cap (by rw[ρ1,h1]) (Array.getElem?_eq_some_iff.1 q1).1 q4 (by unfold bsize;rw[q1];show 0*2+cap*2≤cs.size;omega)
      · have ex:AV.own (2,0) 3 0 ps.length=x:=Option.some.inj hx
        rw[←ex]
        show VR w' _ ρ' (.slice (some ⟨P,0,none⟩) ps.length capP) _
        exact .own (2,0) P 3 0 ps.length capP ρ2 hPlt.2 p4 (by unfold bsize;rw[p1];have:capP*3≤csP.size:=p5;show 0*3+capP*3≤csP.size;omega)
  · have hd:=hr.dom g b e
    have hg0:g=(0,0):=by
      obtain⟨x,y⟩:=g
      cases x with
      | zero=>
        have:y<1:=hd
        have:y=0:=by omega
        rw[this]
      |succ x=>simp[List.getD_eq_getElem?_getD]at hd
    subst hg0
    rw[hρ]at e
    rw[ρ0]
    exact e
end Go.Proofs.YtcelhemfoehedaaGreat.Od
namespace Go.Proofs.YtcelhemfoehedaaGreat.Od
open Go Go.Abs Go.RowKit
theorem row_far {t:Ty} {w:World} {X:XT} {v:Value} {l:List t.den} {tg:Bool} {bd:Nat} (h:PR w X v (rowAV t l tg)) (hX:∀o,X bd o):
    ∃ a b o cap,v= .slice a l.length cap∧(l≠ []→a=some ⟨b,o,none⟩)∧∀(p:Nat) (x:t.den),l[p]?=some x→∀(j:Nat) (u:AV),(enc t x).cells[j]?=some u→
      ∃y,(∀z:World,w.grownBy z (some bd)→z.cell? ⟨b,o+(p*t.size+j),none⟩=some y)∧PR w X y u:=by
  cases l with
  | nil=>
    have h:PR w X v (.lst 0 [] tg):=h
    cases h with
    |lst0 a cap sz t ht=>exact⟨a,0,0,cap,rfl,fun e=>absurd rfl e,fun p d hd=>by simp at hd⟩
    |lst b o n cap sz t xs f hn hc ht hsz hx hr=>simp at hn;subst hn;exact⟨_,0,0,cap,rfl,fun e=>absurd rfl e,fun p d hd=>by simp at hd⟩
  | cons y r=>
    have h:PR w X v (.lst t.size ((y::r).map (enc t)) tg):=h
    generalize hxs:(y::r).map (enc t)=xs at h
    have hlen:xs.length=(y::r).length:=by rw[←hxs];exact List.length_map ..
    cases h with
    |lst0 a cap sz t ht=>simp at hlen
    | lst b o n cap sz t' xs f hn hc ht' hsz hx hr=>
      refine⟨some ⟨b,o,none⟩,b,o,cap,by rw[←hlen,hn],fun _=>rfl,fun p d hd j u hj=> ?_⟩
      have hxp:xs[p]?=some (enc t d):=by
        rw[←hxs,List.getElem?_map,hd];rfl
      obtain⟨c1,c2,c3⟩:=hx p _ hxp j u hj
      refine⟨f p j,fun z hz=> ?_,hr p _ hxp j u hj⟩
      exact hz.cell c2 (fun e=>c1 (by have:=Option.some.inj e;subst this;exact hX _))
theorem ints_far{w:World}{X:XT}{lv:LV}{xs:List Int}{tg:Bool}{bd:Nat}(h:PR w X lv.v (rowAV (.int .i64) xs tg))(hX:∀o,X bd o):∀x,w.grownBy x (some bd)→IntsAt x lv xs:=fun x hg=>by
  obtain⟨a,b,o,cap,h1,h2,h3⟩:=row_far h hX
  refine⟨a,b,o,cap,h1,h2,fun p z hz=> ?_⟩
  obtain⟨y,y1,y2⟩:=h3 p z hz 0 (.int .i64 z) rfl
  rw[prInt y2]at y1
  have:=y1 x hg
  rwa [show p*(Ty.int .i64).size+0=p by show p*1+0=p;omega]at this
theorem tgFlat_get{l:TgL}:∀{i:Nat} {z:Int×Int×Unit},l[i]?=some z→∀{j:Nat},j<2→(tgFlat l)[i*2+j]?=[Value.int .i64 z.1,.int .i64 z.2.1][j]?:=by
  induction l with
  |nil=>intro i z hz;simp at hz
  | cons t r ih=>
    intro i z hz j hj
    have e:tgFlat (t::r)=[Value.int .i64 t.1,.int .i64 t.2.1]++tgFlat r:=by unfold tgFlat;rw[List.flatMap_cons]
    rw[e]
    cases i with
    | zero=>
      rw[List.getElem?_append_left (by show 0*2+j<2;omega)]
      simp at hz
      subst hz
      rw[Nat.zero_mul,Nat.zero_add]
    | succ i=>
      rw[List.getElem?_append_right (by show 2≤_;omega)]
      simp at hz
      show(tgFlat r)[(i+1)*2+j-2]?=_
      rw[show(i+1)*2+j-2=i*2+j by omega]
      exact ih hz hj
theorem src_far{w:World}{X:XT}{v:Value}{l:TgL}{tg:Bool}{bd:Nat}(h:PR w X v (rowAV tTgt l tg))(hX:∀o,X bd o):∀x,w.grownBy x (some bd)→SrcAt x v l:=fun x hg=>by
  obtain⟨a,b,o,cap,h1,h2,h3⟩:=row_far h hX
  refine⟨a,cap,h1,fun hne=>⟨b,o,h2 (fun e=>hne (by rw[e];rfl)),fun k u hk=> ?_⟩⟩
  have hkl:=(List.getElem?_eq_some_iff.1 hk).1
  rw[tgFlat_len]at hkl
  have hp:k / 2<l.length:=by omega
  have hj:k % 2<2:=by omega
  have hz:=List.getElem?_eq_getElem hp
  have hkk:k / 2*2+k % 2=k:=by omega
  have e:=tgFlat_get hz hj
  rw[hkk,hk]at e
  have hadd:(⟨b,o,none⟩:Addr).add k=⟨b,o+k,none⟩:=by unfold Addr.add;split<;>simp_all
  rw[hadd]
  generalize l[k / 2]=z at hz e
  have key:∀(w':AV) (y':Value),(enc tTgt z).cells[k % 2]?=some w'→(∀y,PR w X y w'→y=u)→x.cell? ⟨b,o+k,none⟩=some u:=fun w' y' q1 q2=>by
    obtain⟨y,y1,y2⟩:=h3 (k / 2) z hz (k % 2) w' q1
    have:=y1 x hg
    rw[q2 y y2]at this
    rwa [show k / 2*tTgt.size+k % 2=k from hkk]at this
  have hc:k % 2=0∨k % 2=1:=by omega
  rcases hc with hc|hc
  · rw[hc]at e
    have e:u= .int .i64 z.1:=Option.some.inj e
    exact key (.int .i64 z.1) u (by rw[hc];rfl) (fun y hy=>by rw[prInt hy,e])
  · rw[hc]at e
    have e:u= .int .i64 z.2.1:=Option.some.inj e
    exact key (.int .i64 z.2.1) u (by rw[hc];rfl) (fun y hy=>by rw[prInt hy,e])
theorem TeamsIn.mono{w:World}{X X':XT}{ts:List TeamD}{b o:Nat}{mv:Nat→Value}{mb mo:Nat→Nat}(h:TeamsIn w X ts b o mv mb mo)(hs:Stable w X w X'):TeamsIn w X' ts b o mv mb mo:=
  ⟨h.c0,h.c1,fun p t e=>⟨(h.row p t e).form,fun q x hx j u hu=>by obtain⟨y,y1,y2,y3⟩:=(h.row p t e).cell q x hx j u hu;exact⟨y,y1,y2,y3.mono hs⟩⟩,h.one⟩
theorem PolsIn.mono{w:World}{X X':XT}{ts:List PolD}{b o:Nat}{mv:Nat→Value}{mb mo:Nat→Nat}(h:PolsIn w X ts b o mv mb mo)(hs:Stable w X w X'):PolsIn w X' ts b o mv mb mo:=
  ⟨h.c0,h.c1,h.c2,fun p t e=>⟨(h.row p t e).form,fun q x hx j u hu=>by obtain⟨y,y1,y2,y3⟩:=(h.row p t e).cell q x hx j u hu;exact⟨y,y1,y2,y3.mono hs⟩⟩,h.one⟩
theorem noX_stable(w:World)(X:XT):Stable w X w noX:=(Stable.refl w X).less fun _ _ _ h=>h.elim
end Go.Proofs.YtcelhemfoehedaaGreat.Od
namespace Go.Proofs.YtcelhemfoehedaaGreat.Od
open Go Go.Abs Go.RowKit
def OddWhat(xs:List Int)(kk:Nat)(cs at4:Int)(tgs:List (Int×Int×Unit))(j:Nat)(v:Value)(tg:Option (List (Int×Int×Unit)))(atf:Int):Prop:=
  (cs=2∧∃(q:Nat) (z:Int),(nxt xs at4 3).1=(q:Int)∧([-1,86400,86401]:List Int)[q]?=some z∧j=kk*3∧v= .int .i64 z∧tg=none∧atf=(nxt xs at4 3).2)∨
  (cs=3∧j=kk*3+2∧tg=some [(w64 ((nxt xs at4 5).1-1),w64 ((nxt xs (nxt xs at4 5).2 6).1-1),())]∧atf=(nxt xs (nxt xs at4 5).2 6).2)∨
  (cs=7∧j=kk*3+2∧tg=some (tgs++List.replicate 7 (0,0,()))∧atf=at4)
theorem what2{xs:List Int}{kk:Nat}{at4:Int}{tgs:List (Int×Int×Unit)}{q:Nat}{z:Int}(hq:(nxt xs at4 3).1=(q:Int))(hz:([-1,86400,86401]:List Int)[q]?=some z):OddWhat xs kk 2 at4 tgs (kk*3) (.int .i64 z) none (nxt xs at4 3).2:=.inl ⟨rfl,q,z,hq,hz,rfl,rfl,rfl,rfl⟩
theorem what3{xs:List Int}{kk:Nat}{at4:Int}{tgs:List (Int×Int×Unit)}{v:Value}{a b:Int}(ha:a=w64 ((nxt xs at4 5).1-1))(hb:b=w64 ((nxt xs (nxt xs at4 5).2 6).1-1)):OddWhat xs kk 3 at4 tgs (kk*3+2) v (some [(a,b,())]) (nxt xs (nxt xs at4 5).2 6).2:=by subst ha hb;exact .inr (.inl ⟨rfl,rfl,rfl,rfl⟩)
theorem what7{xs:List Int}{kk:Nat}{at4:Int}{tgs:List (Int×Int×Unit)}{v:Value}:OddWhat xs kk 7 at4 tgs (kk*3+2) v (some (tgs++List.replicate 7 (0,0,()))) at4:=.inr (.inr ⟨rfl,rfl,rfl,rfl⟩)
theorem TL.tgt{w wA x:World}{bd:Nat}{lv:LV}{at':Int}{ts:List TeamD}{ps:List PolD}{mb mo:Nat→Nat}{inV:Nat→List Value}{P pc:Nat}{dT:Value}{V W:Nat→Value}
    (h:TL w wA x bd lv at' ts ps mb mo inV P pc dT V W) {a R rc:Nat} (ha:a<ps.length) (hR:W a= .slice (some ⟨R,0,none⟩) (lenP ps a) rc) {v:Value} {l:List (Int×Int×Unit)} {g:Nat} (gb:v.ownBlock=some g) (hge:x.heap.size≤g) {y:World}
    (hown:y.ownsRow wA.heap.size 112 2 v l.length (tgFlat l)) (j:Nat) (u:Value):TgtAt wA (y.setCell ⟨R,j,none⟩ u) P v (some l):=by
  have hRl:=((h.np.row a ha).lt R (by rw[hR];rfl)).2
  have hP:=(h.np.own.lt P rfl).2
  exact⟨g,gb,hown.kept (grown_set y R j u) (.inr (fun e=>by rw[gb]at e;have:=Option.some.inj e;omega)),by omega⟩
set_option maxHeartbeats 6400000 in
set_option maxRecDepth 1000000 in
theorem odd_walk (w : World) (bd:Nat) (lv:LV) (xs:List Int) (at':Int) (ts:List TeamD) (ps:List PolD) (hd:DiceAt w bd lv at') (hx:∀x,w.grownBy x (some bd)→IntsAt x lv xs) (h0:0≤at')
    {ta:Option Addr} {tb to' tcap:Nat} {mv:Nat→Value} {mb mo:Nat→Nat} (hta:ts≠ []→ta=some ⟨tb,to',none⟩) (hT:TeamsIn w noX ts tb to' mv mb mo)
    {pa:Option Addr} {pb po pcap:Nat} {sv:Nat→Value} {sb so:Nat→Nat} (hpa:ps≠ []→pa=some ⟨pb,po,none⟩) (hP:PolsIn w noX ps pb po sv sb so)
    (hbd:bd<w.heap.size) (hpn:1≤ps.length) (ii:Nat) (hii:(nxt xs at' ps.length).1=(ii:Int)) (pp:PolD) (hpp:ps[ii]?=some pp)
    (at2 at3 at4:Int) (h2:at2=(nxt xs at' ps.length).2) (h20:0≤at2) (kk:Nat) (hkk:(nxt xs at2 pp.2.1.length).1=(kk:Int)) (sp:StepD) (hsp:pp.2.1[kk]?=some sp) (h3:at3=(nxt xs at2 pp.2.1.length).2) (h30:0≤at3)
    (cs:Int) (hcs:(nxt xs at3 9).1=cs) (h4:at4=(nxt xs at3 9).2) (h40:0≤at4) (hc:cs=2∨cs=3∨cs=7)
    (hc2:cs=2→∃(q:Nat) (z:Int),(nxt xs at4 3).1=(q:Int)∧([-1,86400,86401]:List Int)[q]?=some z) (hc3:cs=3→0≤(nxt xs at4 5).2) (hc7:cs=7→∃y0,w.cell? ⟨sb ii,so ii+(kk*3+2),none⟩=some y0∧(∀x,w.grownBy x (some bd)→SrcAt x y0 sp.2.2.1)∧sp.2.2.1.length≤1000)
    (htl:ts.length≤1000) (hpl:ps.length≤1000) (htm:∀t∈ts,1≤t.2.1.length∧t.2.1.length≤1000) (hps:∀p∈ps,1≤p.2.1.length∧p.2.1.length≤1000):
    Calls Tryz.prog 36 #[.pointer (some ⟨bd,0,none⟩),.agg #[.slice ta ts.length tcap,.slice pa ps.length pcap]] w fun e w'=>∃(j:Nat) (v:Value) (tg:Option (List (Int×Int×Unit))) (atf:Int),
      OddEnd w w' bd lv atf ts ps mb mo (fun b=>if b=ii then(cellsAt w (sb ii) (so ii) (lenP ps ii*3)).set j v else cellsAt w (sb b) (so b) (lenP ps b*3)) e v tg∧
      OddWhat xs kk cs at4 sp.2.2.1 j v tg atf:=by
  have HT:Hid (TeamsIn w noX ts tb to' mv mb mo):=hT
  have HP:Hid (PolsIn w noX ps pb po sv sb so):=hP
  have Hta:Hid (ts≠ []→ta=some ⟨tb,to',none⟩):=hta
  have Hpa:Hid (ps≠ []→pa=some ⟨pb,po,none⟩):=hpa
  have Htm:Hid (∀t∈ts,1≤t.2.1.length∧t.2.1.length≤1000):=htm
  have Hps:Hid (∀p∈ps,1≤p.2.1.length∧p.2.1.length≤1000):=hps
  clear hT hP hta hpa htm hps
  obtain⟨i3,hi3,hz3,hs3,hb3⟩:=info_parts Tryz.info3
  obtain⟨i110,hi110,hz110,hs110,hb110⟩:=info_parts Tryz.info110
  obtain⟨i59,hi59,hz59,hs59,hb59⟩:=info_parts Tryz.info59
  obtain⟨i86,hi86,hz86,hs86,hb86⟩:=info_parts Tryz.info86
  have HD:Hid (DiceAt w bd lv at'):=hd
  have HX:Hid (∀x,w.grownBy x (some bd)→IntsAt x lv xs):=hx
  clear hd hx
  go_enter Tryz.func36,Tryz.ntmps36
  go_wp2
  go_loopg [6] ts.length (fun g i wr=>∃(p:Nat) (dv:Value) (V:Nat→Value),p≤ts.length∧g=ts.length-p∧i= .int .i64 p∧Hid (LI w wr #[.slice ta ts.length tcap,.slice pa ps.length pcap] dv (.slice none 0 0))∧Hid (NT w ts mb mo wr p dv V))
  case atStart=>exact⟨0,_,fun _=>undef,Nat.zero_le _,rfl,rfl,LI.start w _ _ _,NB.start _ _⟩
  case round=>
    obtain⟨p,dv,V,hp,rfl,rfl,HL,HN⟩:=hrel
    have k0:wr.cell? ⟨w.heap.size,0,none⟩=some (.slice ta ts.length tcap):=blk_cell HL.out.b3 0
    by_cases hlt:p<ts.length
    · obtain⟨t,ht⟩:∃t,ts[p]?=some t:=⟨_,List.getElem?_eq_getElem hlt⟩
      have hne:ts≠ []:=fun e=>by rw[e]at hlt;simp at hlt
      have:=Hta.out hne
      subst this
      have htl2:=Htm.out t (List.mem_of_getElem? ht)
      obtain⟨⟨ma,mcap,hmv,hma⟩,hmc⟩:=HT.out.row p t ht
      have:=hma (fun e=>by have h2:=htl2.1;rw[e]at h2;exact absurd h2 (by decide))
      subst this
      have hold:∀b o v,w.cell? ⟨b,o,none⟩=some v→wr.cell? ⟨b,o,none⟩=some v:=fun b o v h=>HL.out.grow.cell h (by simp)
      have k1:=hold _ _ _ (HT.out.c0 p t ht)
      have k2:=hold _ _ _ (HT.out.c1 p t ht)
      rw[hmv]at k2
      have k3:wr.cell? ⟨w.heap.size+1+1,0,none⟩=some dv:=blk_cell HL.out.b5 0
      have k4:wr.frozen? ⟨w.heap.size+1+1,0,none⟩=false:=blk_froz HL.out.b5 0
      have hrn:=(HT.out.row p t ht)
      have hmb:mb p<w.heap.size:=by
        obtain⟨y,hy,_⟩:=hrn.all int_len 0 (by show 0<t.2.1.length*1;omega)
        exact World.block_lt_of_cell? _ _ hy
      have hnews:Hid (∀X,(∀j u,(cellsAt w (mb p) (mo p) (t.2.1.length*1))[j]?=some u→(wr.alloc X).cell? ((⟨mb p,mo p,none⟩:Addr).add j)=some u)∧∀u∈cellsAt w (mb p) (mo p) (t.2.1.length*1),u.oneCell'=true):=fun X=>
        hrn.news int_len (by rw[heap_alloc_old _ _ (by have:=HL.out.size;omega)];exact HL.out.grow.block _ hmb (by simp))
      have hsz:w.heap.size+3≤wr.heap.size:=HL.out.size
      clear hold hrn
      go_wp2_with (first
        | (at_builtin;refine wpList_append_lies _ rfl _ _ 22 rfl (w.heap.size+3) 3 i3 (.int .i64 0) 1 8 Tryz.underlying22 hi3 hz3 hs3 hb3 rfl (by decide) (.slice none 0 0) 0 [] rfl (World.ownsRow_nil _ _ _ _) ⟨mb p,mo p,none⟩ t.2.1.length mcap (cellsAt w (mb p) (mo p) (t.2.1.length*1)) rfl (cellsAt_len _ _ _ _) (hnews.out (.cells #[.string t.1,.slice (some ⟨mb p,mo p,none⟩) t.2.1.length mcap] 110)).1 (hnews.out (.cells #[.string t.1,.slice (some ⟨mb p,mo p,none⟩) t.2.1.length mcap] 110)).2 (by omega) (by unfold maxLen;omega) (by omega) (by simp;omega) (wr.heap.size+1) (by simp) ?_;intro g1 cap1 w2 hown1 hgrow1 hat1 hlt1
           have hb7:=new_block hgrow1 (none_own _)
           have k5:w2.cell? ⟨wr.heap.size,0,none⟩=some (.string t.1):=blk_cell hb7 0
           have k6:w2.cell? ⟨wr.heap.size,1,none⟩=some (.slice (some ⟨mb p,mo p,none⟩) t.2.1.length mcap):=blk_cell hb7 1
           have k7:=blk_froz hb7 1
           have k8:=old_cell hgrow1 k3 (none_own _)
           have hs2:=grown_size hgrow1)
        | (at_builtin;go_loud (refine wpList_append_lies _ rfl _ _ 34 rfl (w.heap.size+3) 110 i110 (.agg #[.string ⟨#[]⟩,.slice none 0 0]) 2 40 Tryz.underlying34 hi110 hz110 hs110 hb110 rfl (by decide) dv p _ rfl (HN.out.mid hgrow1 1 (.slice (some ⟨g1,0,none⟩) t.2.1.length cap1) (.cells #[.string t.1,.slice (some ⟨g1,0,none⟩) t.2.1.length cap1] 110)).own ⟨w2.heap.size,0,none⟩ 1 1 [.string t.1,.slice (some ⟨g1,0,none⟩) t.2.1.length cap1] rfl rfl (World.news_of_block set_new) (by intro u hu;simp at hu;rcases hu with rfl|rfl<;>rfl) (by decide) (by unfold maxLen;omega) (by omega) (by simp;omega) (w2.heap.size+1) (by simp) ?_);intro g2 cap2 w3 hown2 hgrow2 hat2 hlt2
           have HL3:=HL.out.rest hgrow1 hgrow2 (fun k e=>(HN.out.own.lt k e).1)
           have k9:w3.cell? ⟨w.heap.size+1+1,0,none⟩=some dv:=blk_cell HL3.b5 0
           have k10:=blk_froz HL3.b5 0))
      go_roundg (ts.length-(p+1))
      case measure=>omega
      case rel=>exact⟨p+1,_,_,by omega,rfl,by simp,HL3.put0 _,team_round HN.out ht hsz hown1 hgrow1 hat1 hown2 hgrow2 hat2 _ _⟩
    · have hpe : p = ts.length:=by omega
      subst hpe
      obtain⟨da,dn,dc,rfl⟩:=own_form HN.out.own
      obtain⟨wA,hwA⟩:∃x,x=wr:=⟨_,rfl⟩
      subst hwA
      have HA:Hid (NT w ts mb mo wA ts.length (.slice da dn dc) V):=HN
      have hsA:w.heap.size+3≤wA.heap.size:=HL.out.size
      have HLA:Hid (LI w wA #[.slice ta ts.length tcap,.slice pa ps.length pcap] (.slice da dn dc) (.slice none 0 0)):=HL
      clear HN HL
      go_wp2
      go_loopg [8] ps.length (fun g i wb=>∃(q:Nat) (dp:Value) (W:Nat→Value),q≤ps.length∧g=ps.length-q∧i= .int .i64 q∧Hid (LI w wb #[.slice ta ts.length tcap,.slice pa ps.length pcap] (.slice da dn dc) dp)∧Hid (wA.grownBy wb (some (w.heap.size+1+1)))∧Hid (NP wA.heap.size w ps sb so wb q dp W))
      case atStart=>exact⟨0,_,fun _=>undef,Nat.zero_le _,rfl,rfl,HLA,World.grownBy.refl _ _,NB.start _ _⟩
      case round=>
        obtain⟨wb,hwb⟩:∃x,x=wr:=⟨_,rfl⟩
        subst hwb
        obtain⟨q,dp,W,hq,rfl,rfl,HL,HG,HN⟩:=hrel
        have k0:wb.cell? ⟨w.heap.size,1,none⟩=some (.slice pa ps.length pcap):=blk_cell HL.out.b3 1
        by_cases hlt:q<ps.length
        · as_aux_lemma=>
          obtain⟨t,ht⟩:∃t,ps[q]?=some t:=⟨_,List.getElem?_eq_getElem hlt⟩
          have hne:ps≠ []:=fun e=>by rw[e]at hlt;simp at hlt
          have:=Hpa.out hne
          subst this
          have htl2:=Hps.out t (List.mem_of_getElem? ht)
          obtain⟨⟨ma,mcap,hmv,hma⟩,hmc⟩:=HP.out.row q t ht
          have:=hma (fun e=>by have h2:=htl2.1;rw[e]at h2;exact absurd h2 (by decide))
          subst this
          have hold:∀b o v,w.cell? ⟨b,o,none⟩=some v→wb.cell? ⟨b,o,none⟩=some v:=fun b o v h=>HL.out.grow.cell h (by simp)
          have k1:=hold _ _ _ (HP.out.c0 q t ht)
          have k2:=hold _ _ _ (HP.out.c1 q t ht)
          have k2':=hold _ _ _ (HP.out.c2 q t ht)
          rw[hmv]at k2
          have k3:wb.cell? ⟨w.heap.size+1+1,1,none⟩=some dp:=blk_cell HL.out.b5 1
          have k4:wb.frozen? ⟨w.heap.size+1+1,1,none⟩=false:=blk_froz HL.out.b5 1
          have hrn:=(HP.out.row q t ht)
          have hmb:sb q<w.heap.size:=by
            obtain⟨y,hy,_⟩:=hrn.all step_len 0 (by show 0<t.2.1.length*3;omega)
            exact World.block_lt_of_cell? _ _ hy
          have hnews:Hid (∀X,(∀j u,(cellsAt w (sb q) (so q) (t.2.1.length*3))[j]?=some u→(wb.alloc X).cell? ((⟨sb q,so q,none⟩:Addr).add j)=some u)∧∀u∈cellsAt w (sb q) (so q) (t.2.1.length*3),u.oneCell'=true):=fun X=>
            hrn.news step_len (by rw[heap_alloc_old _ _ (by have:=HL.out.size;omega)];exact HL.out.grow.block _ hmb (by simp))
          have hsz:wA.heap.size≤wb.heap.size:=HG.out.size
          clear hold hrn hmc
          go_wp2_with (first
            | (at_builtin;refine wpList_append_lies _ rfl _ _ 57 rfl wA.heap.size 86 i86 (.agg #[.int .i64 0,.bool false,.slice none 0 0]) 3 40 Tryz.underlying57 hi86 hz86 hs86 hb86 rfl (by decide) (.slice none 0 0) 0 [] rfl (World.ownsRow_nil _ _ _ _) ⟨sb q,so q,none⟩ t.2.1.length mcap (cellsAt w (sb q) (so q) (t.2.1.length*3)) rfl (cellsAt_len _ _ _ _) (hnews.out (.cells #[.string t.1,.slice (some ⟨sb q,so q,none⟩) t.2.1.length mcap,.int .i64 t.2.2.1] 59)).1 (hnews.out (.cells #[.string t.1,.slice (some ⟨sb q,so q,none⟩) t.2.1.length mcap,.int .i64 t.2.2.1] 59)).2 (by omega) (by unfold maxLen;omega) (by omega) (by simp;omega) (wb.heap.size+1) (by simp) ?_;intro g1 cap1 w2 hown1 hgrow1 hat1 hlt1
               have hb7:=new_block hgrow1 (none_own _)
               have k5:w2.cell? ⟨wb.heap.size,0,none⟩=some (.string t.1):=blk_cell hb7 0
               have k6:w2.cell? ⟨wb.heap.size,1,none⟩=some (.slice (some ⟨sb q,so q,none⟩) t.2.1.length mcap):=blk_cell hb7 1
               have k6':w2.cell? ⟨wb.heap.size,2,none⟩=some (.int .i64 t.2.2.1):=blk_cell hb7 2
               have k7:=blk_froz hb7 1
               have k8:=old_cell hgrow1 k3 (none_own _)
               have hs2:=grown_size hgrow1)
            | (at_builtin;go_loud (refine wpList_append_lies _ rfl _ _ 35 rfl wA.heap.size 59 i59 (.agg #[.string ⟨#[]⟩,.slice none 0 0,.int .i64 0]) 3 48 Tryz.underlying35 hi59 hz59 hs59 hb59 rfl (by decide) dp q _ rfl (HN.out.mid hgrow1 1 (.slice (some ⟨g1,0,none⟩) t.2.1.length cap1) (.cells #[.string t.1,.slice (some ⟨g1,0,none⟩) t.2.1.length cap1,.int .i64 t.2.2.1] 59)).own ⟨w2.heap.size,0,none⟩ 1 1 [.string t.1,.slice (some ⟨g1,0,none⟩) t.2.1.length cap1,.int .i64 t.2.2.1] rfl rfl (World.news_of_block set_new) (by intro u hu;simp at hu;rcases hu with rfl|rfl|rfl<;>rfl) (by decide) (by unfold maxLen;omega) (by omega) (by simp;omega) (w2.heap.size+1) (by simp) ?_);intro g2 cap2 w3 hown2 hgrow2 hat2 hlt2
               have HL3:=HL.out.rest hgrow1 hgrow2 (fun k e=>by have:=(HN.out.own.lt k e).1;omega)
               have k9:w3.cell? ⟨w.heap.size+1+1,1,none⟩=some dp:=blk_cell HL3.b5 1
               have k10:=blk_froz HL3.b5 1))
          go_roundg (ps.length-(q+1))
          case measure=>omega
          case rel=>exact⟨q+1,_,_,by omega,rfl,by simp,HL3.put1 _,grown_rest HG.out hgrow1 hgrow2 (fun k e=>(HN.out.own.lt k e).1) _ _,pol_round HN.out ht hsz hsA hown1 hgrow1 hat1 hown2 hgrow2 hat2 _ _⟩
        · have hqe : q=ps.length:=by omega
          subst hqe
          obtain⟨P,pc,rfl,hP1,hP2⟩:=HN.out.own.form (by omega)
          have k1:wb.cell? ⟨w.heap.size+1+1,1,none⟩=some (.slice (some ⟨P,0,none⟩) ps.length pc):=blk_cell HL.out.b5 1
          have hbb:bd<w.heap.size+3:=by omega
          have HDI:Hid (∀x:World,x.heap=wb.heap→DiceAt x bd lv at'∧IntsAt x lv xs):=fun x hxe=>by
            have hc:∀b o v,w.cell? ⟨b,o,none⟩=some v→x.cell? ⟨b,o,none⟩=some v:=fun b o v h=>by
              have:=HL.out.grow.cell h (by simp)
              simp only[World.cell?,hxe]at this ⊢
              exact this
            refine⟨HD.out.keep (by rw[hxe];exact HL.out.grow.block bd hbd (by simp)),?_⟩
            · obtain⟨a,b,o,cap,e1,e2,e3⟩:=HX.out wb ⟨HL.out.grow.os,HL.out.grow.tape,HL.out.grow.output,HL.out.grow.size,fun k hk _=>HL.out.grow.block k hk (by simp)⟩
              exact⟨a,b,o,cap,e1,e2,fun p z hz=>by have:=e3 p z hz;simp only[World.cell?,hxe]at this ⊢;exact this⟩
          have HT0:Hid (TL w wA wb bd lv at' ts ps mb mo (fun a=>cellsAt w (sb a) (so a) (lenP ps a*3)) P pc (.slice da dn dc) V W):=TL.start HLA.out HA.out HL.out HG.out hbd HD.out HN.out
          have hil:ii<ps.length:=(List.getElem?_eq_some_iff.1 hpp).1
          have hn16:Hid (∀x:World,x.heap=wb.heap→Calls Tryz.prog 19 #[.pointer (some ⟨bd,0,none⟩),.int .i64 ps.length] x fun e w'=>e= .returned (.int .i64 ii)∧Rolled x w' bd lv at2):=fun x hx=>by
            have:=next_calls x bd lv xs at' ps.length (HDI.out _ hx).1 (HDI.out _ hx).2 h0 (by omega)
            rw[hii,←h2]at this
            exact this
          have k1':∀x w4,x.heap=wb.heap→Rolled x w4 bd lv at2→w4.cell? ⟨w.heap.size+1+1,1,none⟩=some (.slice (some ⟨P,0,none⟩) ps.length pc):=fun x w4 hx HR=>by
            refine HR.grow.cell ?_ (fun e=>by have e:w.heap.size+1+1=bd:=Option.some.inj e;omega)
            simp only[World.cell?,hx]at k1 ⊢
            exact k1
          go_upto_region 16 with fail
          go_cut [10]from 14 (fun s10 wx=>s10= .pointer (some ⟨P,ii*3,none⟩)∧Hid (TL w wA wx bd lv at2 ts ps mb mo (fun a=>cellsAt w (sb a) (so a) (lenP ps a*3)) P pc (.slice da dn dc) V W))
          case first=>
            go_region_with (go_at_call 19;refine(hn16.out wb.drew rfl).mono ?_;rintro e w4 ⟨rfl,HR⟩;have k2:=k1' wb.drew w4 rfl HR)
            all_goals (go_wp2_with fail;go_meet;exact⟨rfl,HT0.out.roll hbd (x':=wb.drew) rfl rfl rfl rfl HR⟩)
          case rest =>
            obtain⟨rfl,HT1⟩:=hcut
            have hpm:=Hps.out pp (List.mem_of_getElem? hpp)
            obtain⟨R,rc,hR,hR1,c0,c1,c2,c3,c4,c5⟩:=HT1.out.cells hpp hpm.1
            clear c3
            have hkl:kk<pp.2.1.length:=(List.getElem?_eq_some_iff.1 hsp).1
            have hn19:Hid (∀x:World,x.heap=wc.heap→Calls Tryz.prog 19 #[.pointer (some ⟨bd,0,none⟩),.int .i64 pp.2.1.length] x fun e w'=>e= .returned (.int .i64 kk)∧Rolled x w' bd lv at3):=fun x hx=>by
              have hg:wc.grownBy x none→w.grownBy x (some bd):=fun h=>HT1.out.grow.andThen h (fun k e=>by cases e)
              have hd:DiceAt x bd lv at2:=by
                exact HT1.out.dice.keep (by rw[hx])
              have hi:IntsAt x lv xs:=by
                obtain⟨a,b,o,cap,e1,e2,e3⟩:=HX.out wc HT1.out.grow
                exact⟨a,b,o,cap,e1,e2,fun p z hz=>by have h:=e3 p z hz;simp only[World.cell?,hx]at h ⊢;exact h⟩
              have:=next_calls x bd lv xs at2 pp.2.1.length hd hi h20 (by omega)
              rw[hkk,←h3]at this
              exact this
            have k2':∀x w4,x.heap=wc.heap→Rolled x w4 bd lv at3→w4.cell? ⟨P,ii*3+1,none⟩=some (.slice (some ⟨R,0,none⟩) pp.2.1.length rc):=fun x w4 hx HR=>by
              refine HR.grow.cell ?_ (fun e=>by have e:P=bd:=Option.some.inj e;have:=HT1.out.sA;omega)
              simp only[World.cell?,hx]at c1 ⊢
              exact c1
            go_upto_region 19 with fail
            go_cut [11]from 14 (fun s11 wx=>s11= .pointer (some ⟨R,kk*3,none⟩)∧Hid (TL w wA wx bd lv at3 ts ps mb mo (fun a=>cellsAt w (sb a) (so a) (lenP ps a*3)) P pc (.slice da dn dc) V W))
            case first=>
              go_region_with (go_at_call 19;refine(hn19.out wc.drew rfl).mono ?_;rintro e w4 ⟨rfl,HR⟩;have k3:=k2' wc.drew w4 rfl HR)
              all_goals (go_wp2_with fail;go_meet;exact⟨rfl,HT1.out.roll hbd (x':=wc.drew) rfl rfl rfl rfl HR⟩)
            case rest =>
              obtain⟨rfl,HT2⟩:=hcut
              clear HT1 HT0 c0 c1 c2 c4 c5 k2' k1' hn16 hn19 HDI
              obtain⟨R',rc',hR',hR1',d0,d1,d2,d3,d4,d5⟩:=HT2.out.cells hpp hpm.1
              rw[hR]at hR'
              have e1:R=R':=by injection hR' with e _ _;injection e with e;injection e
              have e2:rc=rc':=by injection hR'
              subst e1 e2
              clear hR' hR1' d0 d1 d2 d3
              have hW:W ii= .slice (some ⟨R,0,none⟩) (lenP ps ii) rc:=by rw[hR];unfold lenP;rw[getD_some hpp]
              have hn20:=HT2.out.next HX.out h30 9 (by decide)
              rw[hcs,←h4]at hn20
              have cellR:∀(x:World) (a:Int),Hid (TL w wA x bd lv a ts ps mb mo (fun a=>cellsAt w (sb a) (so a) (lenP ps a*3)) P pc (.slice da dn dc) V W)→∀j,j<pp.2.1.length*3→∃u,x.cell? ⟨R,j,none⟩=some u:=fun x a h j hj=>by
                have hrow:=h.out.np.row ii hil
                rw[hW]at hrow
                rw[hrow.cellAt j (by show j<lenP ps ii*3;unfold lenP;rw[getD_some hpp];exact hj)]
                refine⟨_,List.getElem?_eq_getElem (by rw[cellsAt_len];unfold lenP;rw[getD_some hpp];exact hj)⟩
              have frozR:∀(x:World) (a:Int),Hid (TL w wA x bd lv a ts ps mb mo (fun a=>cellsAt w (sb a) (so a) (lenP ps a*3)) P pc (.slice da dn dc) V W)→∀j,x.frozen? ⟨R,j,none⟩=false:=fun x a h j=>by
                have hrow:=h.out.np.row ii hil
                rw[hW]at hrow
                exact hrow.frozenAt j
              have hdo:=own_one HT2.out.nt.own
              clear h2 h3 h4 hii hkk hcs
              rcases hc with rfl|rfl|rfl
              · as_aux_lemma=>
                obtain⟨q,z,hq,hz⟩:=hc2 rfl
                go_wp2_with (first
                  | (go_at_call 19;refine hn20.mono ?_;rintro e w5 ⟨rfl,HR5⟩
                     have HT3:Hid (TL w wA w5 bd lv at4 ts ps mb mo (fun a=>cellsAt w (sb a) (so a) (lenP ps a*3)) P pc (.slice da dn dc) V W):=HT2.out.roll hbd (x':=wc) rfl rfl rfl rfl HR5)
                  | (go_at_call 22;refine(HT3.out.one hbd HX.out h40 q z hq hz).mono ?_;rintro e w6 ⟨rfl,HR6⟩
                     have HT4:Hid (TL w wA w6 bd lv (nxt xs at4 3).2 ts ps mb mo (fun a=>cellsAt w (sb a) (so a) (lenP ps a*3)) P pc (.slice da dn dc) V W):=(HT3.out.alloc hbd _).roll hbd rfl rfl rfl rfl HR6
                     obtain⟨u9,d9⟩:=cellR _ _ HT4 (kk*3) (by omega)
                     have d10:=frozR _ _ HT4 (kk*3)
                     obtain⟨f1,f2,f3,f4,f5,f6⟩:=HT4.out.facts))
                (try simp only[Exit.inBlock,Exit.then])
                refine bodyPost_ret (results_cell_row rfl _ _ (w.heap.size+1) 37 #[.slice da dn dc,.slice (some ⟨P,0,none⟩) ps.length pc] (0,0) _ rfl (end_heap (HT4.out.put hbd hil hW _ _).b4) Tryz.underlying37 rfl (by kernel_rfl)) rfl ?_
                exact⟨kk*3,.int .i64 z,none,_,(HT4.out.put hbd hil hW _ _).done hbd ((grown_set _ _ _ _).trans (grown_set _ _ _ _)) _ _ trivial,what2 hq hz⟩
              · as_aux_lemma=>
                have h5:=hc3 rfl
                obtain⟨u9,d9⟩:=cellR wc at3 HT2 (kk*3+2) (by omega)
                go_wp2_with (first
                  | (go_at_call 19;refine(HT4.out.next HX.out h5 6 (by decide)).mono ?_;rintro e w7 ⟨rfl,HR7⟩
                     have HT5:Hid (TL w wA w7 bd lv (nxt xs (nxt xs at4 5).2 6).2 ts ps mb mo (fun a=>cellsAt w (sb a) (so a) (lenP ps a*3)) P pc (.slice da dn dc) V W):=HT4.out.roll hbd (x':=w6) rfl rfl rfl rfl HR7
                     have HT6:Hid (TL w wA (w7.alloc (.cells #[.int .i64 (wrap64 ((nxt xs at4 5).1-1)),.int .i64 (wrap64 ((nxt xs (nxt xs at4 5).2 6).1-1))] 112)) bd lv (nxt xs (nxt xs at4 5).2 6).2 ts ps mb mo (fun a=>cellsAt w (sb a) (so a) (lenP ps a*3)) P pc (.slice da dn dc) V W):=HT5.out.alloc hbd _
                     obtain⟨u8,d8⟩:=cellR _ _ HT6 (kk*3+2) (by omega)
                     have d10:=frozR _ _ HT6 (kk*3+2)
                     obtain⟨f1,f2,f3,f4,f5,f6⟩:=HT6.out.facts)
                  | (go_at_call 19;refine(HT3.out.next HX.out h40 5 (by decide)).mono ?_;rintro e w6 ⟨rfl,HR6⟩
                     have HT4:Hid (TL w wA w6 bd lv (nxt xs at4 5).2 ts ps mb mo (fun a=>cellsAt w (sb a) (so a) (lenP ps a*3)) P pc (.slice da dn dc) V W):=HT3.out.roll hbd (x':=w5) rfl rfl rfl rfl HR6)
                  | (go_at_call 19;refine hn20.mono ?_;rintro e w5 ⟨rfl,HR5⟩
                     have HT3:Hid (TL w wA w5 bd lv at4 ts ps mb mo (fun a=>cellsAt w (sb a) (so a) (lenP ps a*3)) P pc (.slice da dn dc) V W):=HT2.out.roll hbd (x':=wc) rfl rfl rfl rfl HR5))
                (try simp only[Exit.inBlock,Exit.then])
                refine bodyPost_ret (results_cell_row rfl _ _ (w.heap.size+1) 37 #[.slice da dn dc,.slice (some ⟨P,0,none⟩) ps.length pc] (0,0) _ rfl (end_heap (HT6.out.put hbd hil hW _ _).b4) Tryz.underlying37 rfl (by kernel_rfl)) rfl ?_
                exact⟨kk*3+2,.slice (some ⟨w7.heap.size,0,none⟩) 1 1,some [(wrap64 ((nxt xs at4 5).1-1),wrap64 ((nxt xs (nxt xs at4 5).2 6).1-1),())],_,(HT6.out.put hbd hil hW _ _).done hbd ((grown_set _ _ _ _).trans (grown_set _ _ _ _)) _ _ (HT5.out.tgt hil hW (g:=w7.heap.size) rfl (Nat.le_refl _) (alloc_two HT5.out.sX _ _) _ _),what3 (wrap_w64 _) (wrap_w64 _)⟩
              · as_aux_lemma=>
                obtain⟨y0,hy0,hy1,hy2⟩:=hc7 rfl
                have HY1:Hid (∀x,w.grownBy x (some bd)→SrcAt x y0 sp.2.2.1):=hy1
                clear hy1 hc7 hc2 hc3
                have hlp:lenP ps ii=pp.2.1.length:=by unfold lenP;rw[getD_some hpp]
                have hjl:kk*3+2<lenP ps ii*3:=by omega
                obtain⟨i112,hi112,hz112,hs112,hb112⟩:=info_parts Tryz.info112
                go_wp2_with (first
                  | (go_at_call 19;refine hn20.mono ?_;rintro e w5 ⟨rfl,HR5⟩
                     have HT3:Hid (TL w wA w5 bd lv at4 ts ps mb mo (fun a=>cellsAt w (sb a) (so a) (lenP ps a*3)) P pc (.slice da dn dc) V W):=HT2.out.roll hbd (x':=wc) rfl rfl rfl rfl HR5))
                go_loopg [13] 7 (fun g i wx=>∃(r:Nat) (v:Value),r≤7∧g=7-r∧i= .int .i64 r∧Hid (TL w wA wx bd lv at4 ts ps mb mo (inS w sb so ps ii (kk*3+2) v) P pc (.slice da dn dc) V W)∧Hid (L7 wA wx R P sp.2.2.1 r v))
                case atStart=>exact⟨0,y0,by decide,rfl,rfl,HT3.out.asS hjl hy0,⟨by rw[show List.replicate 0 ((0,0,()):Int×Int×Unit)=[]from rfl,List.append_nil];exact HY1.out _ HT3.out.grow,fun h=>absurd h (by decide)⟩⟩
                case round =>
                  obtain⟨r,v,hr,rfl,rfl,HL,HS⟩:=hrel
                  obtain⟨wx,hwx⟩:∃x,x=wr:=⟨_,rfl⟩
                  subst hwx
                  have hm0:=seven_len sp.2.2.1 r
                  obtain⟨a,c,rfl,ha⟩:=HS.out.src
                  obtain⟨d9,d10⟩:=HL.out.cellS hil hW hjl
                  have hsz:=HL.out.sX
                  have hown:=HS.out.own
                  clear HS
                  generalize hl:sp.2.2.1++List.replicate r ((0,0,()):Int×Int×Unit)=l at *
                  obtain⟨m,hm⟩:∃m,l.length=m:=⟨_,rfl⟩
                  rw[hm]at d9 HL hm0 hown ha
                  have hmb:m≤1007:=by omega
                  have hmr:1≤r→1≤m:=fun h=>by omega
                  clear hm0
                  by_cases hlt:r<7
                  · clear hown
                    by_cases hz:m=0
                    · subst hz
                      clear ha
                      have hfl:=tgs_nil hm
                      go_wp2_with (first
                        |(at_builtin;refine wpList_append_void _ rfl _ _ 84 rfl 112 i112 Tryz.underlying84 hi112 rfl a c rfl ?_)
                        | (at_builtin;go_loud (refine wpList_append_lies _ rfl _ _ 84 rfl wA.heap.size 112 i112 (.agg #[.int .i64 0,.int .i64 0]) 2 16 Tryz.underlying84 hi112 hz112 hs112 hb112 rfl (by decide) (.slice none 0 0) 0 [] rfl (World.ownsRow_nil _ _ _ _) ⟨wx.heap.size,0,none⟩ 1 1 [.int .i64 0,.int .i64 0] rfl rfl (World.news_of_block (heap_alloc_new wx _)) two_one (by decide) (by decide) (by decide) (by simp;omega) (wx.heap.size+1) (by simp) ?_);intro g2 cap2 w3 hown2 hgrow2 hat2 hlt2
                           have hG:=seven_grow0 hgrow2
                           have HN:=(HL.out.grow0 hbd hG).cellS hil hW hjl
                           have d11:=HN.1
                           have d12:=HN.2))
                      have HR:=seven_round (m:=0) HL.out hbd hil hW (by rw[hl];exact hm) hG (by rw[hl,tgs_nil hm];exact hown2) (seven_at0 hat2)
                      go_roundg (7-(r+1))
                      case measure=>omega
                      case rel=>exact⟨r+1,_,by omega,rfl,by simp,HR.1,HR.2⟩
                    · obtain⟨g,o,rfl,hc⟩:=ha hz
                      go_wp2_with (first
                        |(at_builtin;go_loud (refine wpList_append_lies _ rfl _ _ 84 rfl wA.heap.size 112 i112 (.agg #[.int .i64 0,.int .i64 0]) 2 16 Tryz.underlying84 hi112 hz112 hs112 hb112 rfl (by decide) (.slice none 0 0) 0 [] rfl (World.ownsRow_nil _ _ _ _) ⟨g,o,none⟩ m c (tgFlat l) rfl (hm ▸ tgFlat_len l) hc (tgFlat_one l) (by omega) (by unfold maxLen;omega) (by omega) hsz wx.heap.size rfl ?_);intro g1 cap1 w2 hown1 hgrow1 hat1 hlt1)
                        | (at_builtin;go_loud (refine wpList_append_lies _ rfl _ _ 84 rfl wA.heap.size 112 i112 (.agg #[.int .i64 0,.int .i64 0]) 2 16 Tryz.underlying84 hi112 hz112 hs112 hb112 rfl (by decide) (.slice (some ⟨g1,0,none⟩) m cap1) m (tgFlat l) rfl ((own0 hown1).alloc _) ⟨w2.heap.size,0,none⟩ 1 1 [.int .i64 0,.int .i64 0] rfl rfl (World.news_of_block (heap_alloc_new w2 _)) two_one (by decide) (by unfold maxLen;omega) (by omega) (by have:=hgrow1.size;simp;omega) (w2.heap.size+1) (by simp) ?_);intro g2 cap2 w3 hown2 hgrow2 hat2 hlt2
                           have hA:=seven_at hgrow1 hat1 hat2
                           have hG:=seven_grow hgrow1 hgrow2 hA.1
                           have HN:=(HL.out.grow0 hbd hG).cellS hil hW hjl
                           have d11:=HN.1
                           have d12:=HN.2))
                      have HR:=seven_round (m:=m) HL.out hbd hil hW (by rw[hl];exact hm) hG (by rw[hl];exact hown2) hA.2
                      go_roundg (7-(r+1))
                      case measure=>omega
                      case rel=>exact⟨r+1,_,by omega,rfl,by simp,HR.1,HR.2⟩
                  · have hr7:r=7:=by omega
                    subst hr7
                    obtain⟨g,hg1,hg2,hg3,hg4⟩:=hown (by decide)
                    obtain⟨f1,f2,f3,f4,f5,f6⟩:=HL.out.facts
                    go_wp2
                    refine bodyPost_ret (results_cell_row rfl _ _ (w.heap.size+1) 37 #[.slice da dn dc,.slice (some ⟨P,0,none⟩) ps.length pc] (0,0) _ rfl (end_heap HL.out.b4) Tryz.underlying37 rfl (by kernel_rfl)) rfl ?_
                    subst hl
                    exact⟨kk*3+2,_,some (sp.2.2.1++List.replicate 7 (0,0,())),_,HL.out.done hbd ((grown_set _ _ _ _).trans (grown_set _ _ _ _)) _ _ ⟨g,hg1,by rw[hm];exact hg2,hg3⟩,what7⟩
end Go.Proofs.YtcelhemfoehedaaGreat.Od
namespace Go.Proofs.YtcelhemfoehedaaGreat.Od
open Go Go.Abs Go.RowKit
theorem lstInv{w:World}{X:XT}{ρ:Rho}{v:Value}{sz:Nat}{l:List AV}{t:Bool}(h:VR w X ρ v (.lst sz l t)):PR w X v (.lst sz l t):=by
  cases h with
  |pur _ _ h=>exact h
theorem pairInv{w:World}{X:XT}{ρ:Rho}{v:Value}{t1 t2:Ty}{l1:List t1.den}{l2:List t2.den}{g1 g2:Bool}(h:VR w X ρ v (.agg [rowAV t1 l1 g1,rowAV t2 l2 g2])):
    ∃c0 c1,v= .agg #[c0,c1]∧PR w X c0 (rowAV t1 l1 g1)∧PR w X c1 (rowAV t2 l2 g2):=by
  have fin:∀cs:Array Value,cs.size=2→PR w X (cs.getD 0 undef) (rowAV t1 l1 g1)→PR w X (cs.getD 1 undef) (rowAV t2 l2 g2)→∃c0 c1,Value.agg cs= .agg #[c0,c1]∧PR w X c0 (rowAV t1 l1 g1)∧PR w X c1 (rowAV t2 l2 g2):=fun cs hn h0 h1=>by
    refine⟨_,_,?_,h0,h1⟩
    congr 1
    apply Array.ext
    · simp[hn]
    · intro k hk _
      have:k=0∨k=1:=by omega
      rcases this with rfl|rfl<;>simp[Array.getD,hn]
  cases h with
  | pur _ _ h=>
    cases h with
    |agg cs _ hn h1 h=>exact fin cs hn (h 0 _ rfl) (h 1 _ rfl)
  |agg cs _ hn h1 h=>exact fin cs hn (lstInv (h 0 _ rfl)) (lstInv (h 1 _ rfl))
theorem ptrInv{w:World}{X:XT}{ρ:Rho}{v:Value}{g:Nm}(h:VR w X ρ v (.ptr g 2 0 0)):∃b,v= .pointer (some ⟨b,0,none⟩)∧ρ g=some b:=by
  cases h with
  |pur _ _ h=>cases h
  |ptr _ b _ _ _ _ hρ=>exact⟨b,rfl,hρ⟩
theorem odd_calls {Y:XT} {w:World} {ρ:Rho} {a0 a1:Value} {xs:List Int} {at' atf:Int} {ts:List TeamD} {ps ps':List PolD} (hr:HR Y w ρ [[some (kDice xs at')]]) (v0:VR w (XU Y ρ [[some (kDice xs at')]]) ρ a0 (.ptr (0,0) 2 0 0))
    (v1:VR w (XU Y ρ [[some (kDice xs at')]]) ρ a1 (.agg [rowAV tTeam ts false,rowAV tPol ps false])) (hh:Hand xs at' ts ps atf ps'):
    Calls Tryz.prog 36 #[a0,a1] w fun e w'=>∃rv ρ',e= .returned rv∧HR Y w' ρ' (hBack xs atf ts ps')∧VR w' (XU Y ρ' (hBack xs atf ts ps')) ρ' rv (.agg [.own (1,0) 2 0 ts.length,.own (2,0) 3 0 ps'.length])∧
      Stable w (XX ρ [[some (kDice xs at')]]) w' (XX ρ' (hBack xs atf ts ps'))∧∀g b,ρ g=some b→ρ' g=some b:=by
  obtain⟨⟨h0,hp1,hp2,ht1,ht2,hp3⟩,ii,kk,pp,sp,sp',cs,at2,at3,at4,n1,n20,hpp,n3,n30,hsp,n4,n40,hstep,rfl⟩:=hh
  obtain⟨bd,rfl,hρ⟩:=ptrInv v0
  obtain⟨c0,c1,rfl,hT,hP⟩:=pairInv v1
  have hX:∀o,XU Y ρ [[some (kDice xs at')]] bd o:=fun o=>.inl ⟨(0,0),_,rfl,hρ,by show 0*2≤o;omega⟩
  have hbd:bd<w.heap.size:=hr.lt _ _ hρ
  obtain⟨ta,tb,to',tcap,mv,mb,mo,rfl,hta,hTi⟩:=teams_in hT
  obtain⟨pa,pb,po,pcap,sv,sb,so,rfl,hpa,hPi⟩:=pols_in hP
  obtain⟨bs,T,hbs,hel⟩:=(hr.at (g:=(0,0)) rfl hρ).cells (show 0<2 by decide)
  obtain⟨e1,e2⟩:=hel
  have e1:2≤bs.size:=by have:1*2≤bs.size:=e1;omega
  obtain⟨e3,e4⟩:=e2 0 (enc tDice ((xs,at',()):DiceD)) rfl
  obtain⟨q1,q2⟩:=e4 0 (rowAV (.int .i64) xs false) rfl
  obtain⟨_,q3⟩:=e4 1 (.int .i64 at') rfl
  have q1:(bs.getD 0 undef).oneCell'=true:=q1
  have q2:PR w (XU Y ρ [[some (kDice xs at')]]) (bs.getD 0 undef) (rowAV (.int .i64) xs false):=lstInv q2
  have q3:bs.getD 1 undef= .int .i64 at':=VR.intInv q3
  have g0:bs[0]?=some (bs.getD 0 undef):=by rw[Array.getD_eq_getD_getElem?,Array.getElem?_eq_getElem (by omega)];rfl
  have g1:bs[1]?=some (bs.getD 1 undef):=by rw[Array.getD_eq_getD_getElem?,Array.getElem?_eq_getElem (by omega)];rfl
  have hD:DiceAt w bd ⟨bs.getD 0 undef,T,bs.size⟩ at':=⟨by rw[blk_cell hbs];exact g0,by rw[blk_cell hbs,g1,q3],⟨bs,hbs,rfl⟩⟩
  have hI:=ints_far (lv:=⟨bs.getD 0 undef,T,bs.size⟩) q2 hX
  have hil:=(List.getElem?_eq_some_iff.1 hpp).1
  have hkl:=(List.getElem?_eq_some_iff.1 hsp).1
  have elen:(polSet ps ii kk pp sp').length=ps.length:=List.length_set ..
  have hwalk:=odd_walk (tcap:=tcap) (pcap:=pcap) w bd ⟨bs.getD 0 undef,T,bs.size⟩ xs at' ts ps hD hI h0 hta (hTi.mono (noX_stable _ _)) hpa (hPi.mono (noX_stable _ _)) hbd hp1 ii (by rw[n1]) pp hpp at2 at3 at4 (by rw[n1]) n20 kk (by rw[n3]) sp hsp (by rw[n3]) n30 cs (by rw[n4]) (by rw[n4]) n40
    (by rcases hstep with h|h|h;exact .inl h.1;exact .inr (.inl h.1);exact .inr (.inr h.1))
    (fun hc=>by
      rcases hstep with h|h|h
      · obtain⟨_,q,z,h1,h2,_⟩:=h;exact⟨q,z,h1,h2⟩
      · exact absurd (hc.symm.trans h.1) (by decide)
      · exact absurd (hc.symm.trans h.1) (by decide))
    (fun hc=>by
      rcases hstep with h|h|h
      · exact absurd (hc.symm.trans h.1) (by decide)
      · exact h.2.1
      · exact absurd (hc.symm.trans h.1) (by decide))
    (fun hc=>by
      rcases hstep with h|h|h
      · exact absurd (hc.symm.trans h.1) (by decide)
      · exact absurd (hc.symm.trans h.1) (by decide)
      · obtain⟨y,y1,_,y3⟩:=(hPi.row ii pp hpp).cell kk sp hsp 2 (rowAV tTgt sp.2.2.1 false) rfl
        exact⟨y,y1,src_far y3 hX,h.2.1⟩)
    ht1 hp2 ht2 hp3
  refine hwalk.mono ?_
  rintro e w' ⟨j,v,tg,atf',hE,hW⟩
  suffices hb:∃j0,j=kk*3+j0∧StepTo sp j0 v tg sp'∧atf'=atf by
    obtain⟨j0,rfl,hs,rfl⟩:=hb
    rw[elen]
    exact odd_back hr hρ rfl hD q2 q1 e1 hTi hPi hpp hsp hs hE
  rcases hW with⟨w1,q,z,w2,w3,w4,w5,w6,w7⟩|⟨w1,w2,w3,w4⟩|⟨w1,w2,w3,w4⟩
  · rcases hstep with⟨s1,q',z',s2,s3,s4,s5⟩|h|h
    · rw[w2]at s2
      have:q=q':=by omega
      subst this
      rw[w3]at s3
      have:=Option.some.inj s3
      subst this
      subst w5 w6 s4
      exact⟨0,w4,.wait z,by rw[w7,s5]⟩
    · exact absurd (w1.symm.trans h.1) (by decide)
    · exact absurd (w1.symm.trans h.1) (by decide)
  · rcases hstep with h|⟨s1,s2,s3,s4⟩|h
    · exact absurd (w1.symm.trans h.1) (by decide)
    · subst w3 s3
      exact⟨2,w2,.tgts v _,by rw[w4,s4]⟩
    · exact absurd (w1.symm.trans h.1) (by decide)
  · rcases hstep with h|h|⟨s1,s2,s3,s4⟩
    · exact absurd (w1.symm.trans h.1) (by decide)
    · exact absurd (w1.symm.trans h.1) (by decide)
    · subst w3 s3
      exact⟨2,w2,.tgts v _,by rw[w4,s4]⟩
end Go.Proofs.YtcelhemfoehedaaGreat.Od
