/- IntakeSilences: silences get IDs one after the other, an alert which is silenced when its group is due is told at the end of the silence, and at once when the silence is ended. For every input the function returns, does not panic, answers true and leaves its arguments as they were. Condition: the two tables of package unicode/utf8 that the row lists hold what it lists (the statement's own). -/
import Derived.Test.YtchnmpafhfjimaaGreatDoorV6E
import Derived.Test.YtchnmpafhfjimaaGreatDoorCards
import Derived.Test.YtchnmpafhfjimaaGreatDoorTie
import Derived.WalkKit
import Derived.ProofKit
import Derived.OpenShut
import Derived.Deep.DeepHandedRow
import Derived.Lib.LaidTab
namespace Go.Proofs.YtchnmpafhfjimaaGreatDoor
open Go Go.ChangeShapes Go.WideShapes Go.ChangeAt Go.RowKit
theorem own:ownKnob Tryz.prog.godebug=none:=by kernel_rfl
theorem laid:laidOutB Tryz.prog=true:=by kernel_rfl
noncomputable def table1(x:Obj):Obj:=match x with
 | .cells _ t frozen=>.cells (([128,191,160,191,128,159,144,191,128,143]++List.replicate 22 (0:Int)).map (fun n=>Value.int .u8 n)).toArray t frozen
 |o=>o
noncomputable def table2(x:Obj):Obj:=match x with
 | .cells _ t frozen=>.cells (Go.Pinned.utf8FirstZ.map (fun n=>Value.int .u8 (n:Nat))).toArray t frozen
 |o=>o
noncomputable def laidWorld(os:Os):World:=
 {World.holding Tryz.prog os ⟨#[],#[],[]⟩with heap:=((World.holding Tryz.prog os ⟨#[],#[],[]⟩).heap.modify 2 table1).modify 1 table2}
set_option maxRecDepth 100000 in
theorem laid_met(os:Os):laidMet Tryz.prog Rows.intakeSilencesRow.laid ((laidWorld os).forCall (fun _ _=>0) ⟨#[],#[.slice none 0 0,.int .i64 0],[]⟩).memory:=
 laidMet_of_run' 8 (by kernel_rfl) (by kernel_rfl)
set_option maxRecDepth 100000 in
theorem reads(os:Os){H:Type}(enc:TypeId×Value→H):∃places,DataW.whole enc Tryz.prog ((laidWorld os).forCall (fun _ _=>0) ⟨#[],#[.slice none 0 0,.int .i64 0],[]⟩).memory Tryz.f6.params.toList Rows.intakeSilencesSpec.vars false (#[.slice none 0 0,.int .i64 0]:Array Value).toList 8=some ([.nil,.lit (.int .i64 0)],[],places):=
 ⟨[],by kernel_rfl⟩
def tys6:List Abs.Ty:=[(.row (.int .i64)),(.int .i64)]
set_option maxRecDepth 100000 in
theorem lifted6(law:∀x,Abs.Qi tys6 x→m6 (x,())=some ((true,()),()))(os:Os)(started:os.Started)(H:Type)(enc:TypeId×Value→H)(F:Stop.Interp):
  ReturnsInHanded {} Tryz.checked os 6 .any ((OpenSpec.ofChange Rows.intakeSilencesSpec).preRow enc Tryz.prog Tryz.f6 Rows.intakeSilencesRow.domain false Rows.intakeSilencesRow.laid) (((OpenSpec.ofChange Rows.intakeSilencesSpec).at F).post enc Tryz.prog Tryz.f6 false true false false):=by
 obtain⟨places,hx⟩:=reads os enc;refine returnsInHanded_of_row (C:=Tryz.checked) (s:=(OpenSpec.ofChange Rows.intakeSilencesSpec)) own started (by kernel_rfl) Tryz.func6
  (witness_row_at (enc:=enc) (C:=Tryz.checked) false (laidWorld os) #[.slice none 0 0,.int .i64 0] rfl (by kernel_rfl) (by kernel_rfl) (by kernel_rfl)
   (OpenSpec.preRow_of_cond 8 hx (by kernel_rfl) (fun k hk=>by cases hk) (by kernel_rfl) (laid_met os))) ?_
 intro W base args ds gs before hval hW _ hk _ hL _ _;exact Abs.Hl (P:=Tryz.prog) (fn:=Tryz.f6) (tys:=tys6) (r:=4) (m:=m6) Tryz.func6 (by kernel_rfl) ok6 (by decide+kernel) (by kernel_rfl) laid (by kernel_rfl) (by kernel_rfl) (by kernel_rfl) (by kernel_rfl) Tryz.underlying4 rfl
  (fun ds h=>by match ds,h with| [d0,d1],_=>rfl) law hval hW
theorem over6(law:∀x,Abs.Qi tys6 x→m6 (x,())=some ((true,()),())):Rows.intakeSilencesRow.holds Tryz.pinned (OpenSpec.ofChange Rows.intakeSilencesSpec):=
 OpenClaim.holds_of_cond 6 Tryz.f6 rfl rfl rfl rfl rfl rfl rfl ⟨rfl,rfl,rfl,rfl,rfl⟩ rfl rfl rfl rfl rfl (by kernel_rfl) Tryz.func6 (by kernel_rfl)
  (aix (by kernel_rfl)) (by unfold Func.isWrapper;first|(rw[if_pos (by decide+kernel)];kernel_rfl)|(rw[if_neg (by decide+kernel)];exact⟨rfl,rfl⟩))
  (fun os started H enc _ F=>by rw[OpenClaim.pre_eq_preRow];exact lifted6 law os started H enc F)
theorem plain6(f:FuncId)(fn:Func)(hf:Tryz.pinned.checked.prog.funcNamed Rows.intakeSilencesRow.func=some f)(hfn:Tryz.pinned.checked.prog.funcs[f]?=some fn):
  false=Tryz.pinned.checked.prog.looks []∧∀(j:Nat) t,fn.params[j]?=some t→Tryz.pinned.checked.prog.wantsStandIn t=false:=by
 obtain rfl:f=6:=Option.some.inj ((show Tryz.prog.funcNamed Rows.intakeSilencesRow.func=some 6 by kernel_rfl).symm.trans hf)|>.symm;obtain rfl:fn=Tryz.f6:=(Option.some.inj (Tryz.func6.symm.trans hfn)).symm;refine⟨by kernel_rfl,fun j t ht=> ?_⟩;have hall:(Tryz.f6.params.toList.all fun t=> !Tryz.prog.wantsStandIn t)=true:=by kernel_rfl
 have hm:t∈Tryz.f6.params.toList:=Array.mem_toList_iff.2 (Array.mem_of_getElem? ht);have:=(aiP.1 hall) t hm;exact(show Tryz.prog.wantsStandIn t=false by simpa using this)
theorem intakeSilences_holds:Rows.IntakeSilencesCardSaid:=
 Claim7.holds_tied_plain_at .later [] _ _ _ _ (over6 agO) (fun _ h=>by cases h) (by kernel_rfl) (fun _ h=>by cases h) intakeSilences_row_tie rfl ⟨rfl,rfl⟩ (by kernel_rfl) rfl plain6 (by kernel_rfl)
end Go.Proofs.YtchnmpafhfjimaaGreatDoor
