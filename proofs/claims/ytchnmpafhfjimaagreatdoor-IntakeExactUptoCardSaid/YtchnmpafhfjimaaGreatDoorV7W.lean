/- IntakeExact: what all functions make of any intakes, alerts, silences and instants is what the document says. For every input the function returns, does not panic, answers true and leaves its arguments as they were. Condition: what it reads is of bulk at most 1048576 (the statement's own); the two tables of package unicode/utf8 that the row lists hold what it lists. -/
import Derived.Test.YtchnmpafhfjimaaGreatDoorV7G
import Derived.Test.YtchnmpafhfjimaaGreatDoorCards
import Derived.Test.YtchnmpafhfjimaaGreatDoorTie
import Derived.WalkKit
import Derived.ProofKit
import Derived.OpenShut
import Derived.Deep.DeepHandedRow
import Derived.Lib.LaidTab
namespace Go.Proofs.YtchnmpafhfjimaaGreatDoor
open Go Go.ChangeShapes Go.WideShapes Go.ChangeAt Go.RowKit
theorem own:ownKnob Tryz.prog.godebug=none:=by kernel_rfl
theorem laid:laidOutB Tryz.prog=true:=by kernel_rfl
theorem one_le{H:Type}(d:DataW H):1≤Rows.uptoBulk d:=by
 cases d with
 |lit l=>cases l<;>simp[Rows.uptoBulk]
 |nil=>simp[Rows.uptoBulk]
 |ptr d=>simp[Rows.uptoBulk]
 |slice elems spare=>simp[Rows.uptoBulk]
 |agg parts=>simp[Rows.uptoBulk]
 |iface t d=>simp[Rows.uptoBulk]
 |map entries=>simp[Rows.uptoBulk]
 |held h=>simp[Rows.uptoBulk]
theorem part_le{H:Type}{d:DataW H}{l:List (DataW H)}(h:d∈l):Rows.uptoBulk d≤Rows.uptoBulkAll l:=by
 induction l with
 |nil=>cases h
 |cons x r ih=>
  simp only[Rows.uptoBulkAll]
  cases arW.1 h with
  |inl e=>subst e;omega
  |inr e=>have:=ih e;omega
theorem length_le{H:Type}(l:List (DataW H)):l.length≤Rows.uptoBulkAll l:=by
 induction l with
 |nil=>simp[Rows.uptoBulkAll]
 |cons x r ih=>have:=one_le x;simp only[Rows.uptoBulkAll,arS];omega
theorem bulk{H:Type}:Abs.VJ (H:=H) Rows.uptoBulk:=
 ⟨fun b=>by simp[Rows.uptoBulk],fun e s=>by have:=length_le e;simp only[Rows.uptoBulk];omega,fun e s d hd=>by have:=part_le hd;simp only[Rows.uptoBulk];omega,fun p d hd=>by have:=part_le hd;simp only[Rows.uptoBulk];omega⟩
noncomputable def table1(x:Obj):Obj:=match x with
 | .cells _ t frozen=>.cells (([128,191,160,191,128,159,144,191,128,143]++List.replicate 22 (0:Int)).map (fun n=>Value.int .u8 n)).toArray t frozen
 |o=>o
noncomputable def table2(x:Obj):Obj:=match x with
 | .cells _ t frozen=>.cells (Go.Pinned.utf8FirstZ.map (fun n=>Value.int .u8 (n:Nat))).toArray t frozen
 |o=>o
noncomputable def laidWorld(os:Os):World:=
 {World.holding Tryz.prog os ⟨#[],#[],[]⟩with heap:=((World.holding Tryz.prog os ⟨#[],#[],[]⟩).heap.modify 2 table1).modify 1 table2}
set_option maxRecDepth 100000 in
theorem laid_met(os:Os):laidMet Tryz.prog Rows.intakeExactUptoRow.laid ((laidWorld os).forCall (fun _ _=>0) ⟨#[],#[.slice none 0 0,.agg #[.int .i64 0,.slice none 0 0,.bool false],.agg #[.int .i64 0,.int .i64 0,.int .i64 0,.int .i64 0,.slice none 0 0],.int .i64 0,.int .i64 0],[]⟩).memory:=
 laidMet_of_run' 8 (by kernel_rfl) (by kernel_rfl)
set_option maxRecDepth 100000 in
theorem reads(os:Os){H:Type}(enc:TypeId×Value→H):∃places,DataW.whole enc Tryz.prog ((laidWorld os).forCall (fun _ _=>0) ⟨#[],#[.slice none 0 0,.agg #[.int .i64 0,.slice none 0 0,.bool false],.agg #[.int .i64 0,.int .i64 0,.int .i64 0,.int .i64 0,.slice none 0 0],.int .i64 0,.int .i64 0],[]⟩).memory Tryz.f7.params.toList Rows.intakeExactSpec.vars false (#[.slice none 0 0,.agg #[.int .i64 0,.slice none 0 0,.bool false],.agg #[.int .i64 0,.int .i64 0,.int .i64 0,.int .i64 0,.slice none 0 0],.int .i64 0,.int .i64 0]:Array Value).toList 8=some ([.nil,.agg [.lit (.int .i64 0),.nil,.lit (.bool false)],.agg [.lit (.int .i64 0),.lit (.int .i64 0),.lit (.int .i64 0),.lit (.int .i64 0),.nil],.lit (.int .i64 0),.lit (.int .i64 0)],[],places):=
 ⟨[],by kernel_rfl⟩
def tys7:List Abs.Ty:=[(.row (.int .i64)),Rh,Z6,(.int .i64),(.int .i64)]
set_option maxRecDepth 100000 in
theorem lifted7(law:∀x,Abs.WX 1048576 tys7 x→m7 (x,())=some ((true,()),()))(os:Os)(started:os.Started)(H:Type)(enc:TypeId×Value→H)(F:Stop.Interp):
  ReturnsInHanded {} Tryz.checked os 7 .any ((Rows.OpenSpec.upto Rows.intakeExactSpec).preRow enc Tryz.prog Tryz.f7 Rows.intakeExactUptoRow.domain false Rows.intakeExactUptoRow.laid) (((Rows.OpenSpec.upto Rows.intakeExactSpec).at F).post enc Tryz.prog Tryz.f7 false true false false):=by
 obtain⟨places,hx⟩:=reads os enc;refine returnsInHanded_of_row (C:=Tryz.checked) (s:=(Rows.OpenSpec.upto Rows.intakeExactSpec)) own started (by kernel_rfl) Tryz.func7
  (witness_row_at (enc:=enc) (C:=Tryz.checked) false (laidWorld os) #[.slice none 0 0,.agg #[.int .i64 0,.slice none 0 0,.bool false],.agg #[.int .i64 0,.int .i64 0,.int .i64 0,.int .i64 0,.slice none 0 0],.int .i64 0,.int .i64 0] rfl (by kernel_rfl) (by kernel_rfl) (by kernel_rfl)
   (OpenSpec.preRow_of_cond 8 hx (by kernel_rfl) (fun k hk=>by cases hk;kernel_rfl) (by kernel_rfl) (laid_met os))) ?_
 intro W base args ds gs before hval hW _ hk _ hL _ _;exact Abs.JC (P:=Tryz.prog) bulk (fn:=Tryz.f7) (tys:=tys7) (r:=10) (m:=m7) Tryz.func7 (by kernel_rfl) ok7 (by decide+kernel) (by kernel_rfl) laid (by kernel_rfl) (by kernel_rfl) (by kernel_rfl) (by kernel_rfl) Tryz.underlying4 rfl
  (fun ds h=>by match ds,h with| [d0,d1,d2,d3,d4],_=>rfl) law hval (fun y hy=>asb (part_le (List.mem_append_left _ hy)) (arx (hk _ rfl))) hW
theorem over7(law:∀x,Abs.WX 1048576 tys7 x→m7 (x,())=some ((true,()),())):Rows.intakeExactUptoRow.holds Tryz.pinned (Rows.OpenSpec.upto Rows.intakeExactSpec):=
 OpenClaim.holds_of_cond 7 Tryz.f7 rfl rfl rfl rfl rfl rfl rfl ⟨rfl,rfl,rfl,rfl,rfl⟩ rfl rfl rfl rfl rfl (by kernel_rfl) Tryz.func7 (by kernel_rfl)
  (arx (by kernel_rfl)) (by unfold Func.isWrapper;first|(rw[if_pos (by decide+kernel)];kernel_rfl)|(rw[if_neg (by decide+kernel)];exact⟨rfl,rfl⟩))
  (fun os started H enc _ F=>by rw[OpenClaim.pre_eq_preRow];exact lifted7 law os started H enc F)
theorem plain7(f:FuncId)(fn:Func)(hf:Tryz.pinned.checked.prog.funcNamed Rows.intakeExactUptoRow.func=some f)(hfn:Tryz.pinned.checked.prog.funcs[f]?=some fn):
  false=Tryz.pinned.checked.prog.looks []∧∀(j:Nat) t,fn.params[j]?=some t→Tryz.pinned.checked.prog.wantsStandIn t=false:=by
 obtain rfl:f=7:=Option.some.inj ((show Tryz.prog.funcNamed Rows.intakeExactUptoRow.func=some 7 by kernel_rfl).symm.trans hf)|>.symm;obtain rfl:fn=Tryz.f7:=(Option.some.inj (Tryz.func7.symm.trans hfn)).symm;refine⟨by kernel_rfl,fun j t ht=> ?_⟩;have hall:(Tryz.f7.params.toList.all fun t=> !Tryz.prog.wantsStandIn t)=true:=by kernel_rfl
 have hm:t∈Tryz.f7.params.toList:=Array.mem_toList_iff.2 (Array.mem_of_getElem? ht);have:=(arQ.1 hall) t hm;exact(show Tryz.prog.wantsStandIn t=false by simpa using this)
theorem intakeExact_holds:Rows.IntakeExactUptoCardSaid:=
 Claim7.holds_tied_plain_at .later [] _ _ _ _ (over7 apz) (fun _ h=>by cases h) (by kernel_rfl) (fun _ h=>by cases h) intakeExactUpto_row_tie rfl ⟨rfl,rfl⟩ (by kernel_rfl) rfl plain7 (by kernel_rfl)
end Go.Proofs.YtchnmpafhfjimaaGreatDoor
