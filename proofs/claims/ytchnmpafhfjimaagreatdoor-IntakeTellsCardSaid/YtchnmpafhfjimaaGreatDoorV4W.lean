/- IntakeTells: T5 in a run: an alert that fires from t on, and for longer than the wait, and is never inhibited, is in a notice of the group of each of its routes between t and the end of the wait, or of the interval of the notice before it. For every input the function returns, does not panic, answers true and leaves its arguments as they were. Condition: the two tables of package unicode/utf8 that the row lists hold what it lists (the statement's own). -/
import Derived.Test.YtchnmpafhfjimaaGreatDoorV4F
import Derived.Test.YtchnmpafhfjimaaGreatDoorCards
import Derived.Test.YtchnmpafhfjimaaGreatDoorTie
import Derived.WalkKit
import Derived.ProofKit
import Derived.OpenShut
import Derived.Deep.DeepHandedRow
import Derived.Lib.LaidTab
namespace Go.Proofs.YtchnmpafhfjimaaGreatDoor
open Go Go.ChangeShapes Go.WideShapes Go.ChangeAt Go.RowKit
theorem own:ownKnob Tryz.prog.godebug=none:=by kernel_rfl
theorem laid:laidOutB Tryz.prog=true:=by kernel_rfl
noncomputable def table1(x:Obj):Obj:=match x with
 | .cells _ t frozen=>.cells (([128,191,160,191,128,159,144,191,128,143]++List.replicate 22 (0:Int)).map (fun n=>Value.int .u8 n)).toArray t frozen
 |o=>o
noncomputable def table2(x:Obj):Obj:=match x with
 | .cells _ t frozen=>.cells (Go.Pinned.utf8FirstZ.map (fun n=>Value.int .u8 (n:Nat))).toArray t frozen
 |o=>o
noncomputable def laidWorld(os:Os):World:=
 {World.holding Tryz.prog os ⟨#[],#[],[]⟩with heap:=((World.holding Tryz.prog os ⟨#[],#[],[]⟩).heap.modify 2 table1).modify 1 table2}
set_option maxRecDepth 100000 in
theorem laid_met(os:Os):laidMet Tryz.prog Rows.intakeTellsRow.laid ((laidWorld os).forCall (fun _ _=>0) ⟨#[],#[.slice none 0 0,.int .u8 0],[]⟩).memory:=
 laidMet_of_run' 8 (by kernel_rfl) (by kernel_rfl)
set_option maxRecDepth 100000 in
theorem reads(os:Os){H:Type}(enc:TypeId×Value→H):∃places,DataW.whole enc Tryz.prog ((laidWorld os).forCall (fun _ _=>0) ⟨#[],#[.slice none 0 0,.int .u8 0],[]⟩).memory Tryz.f4.params.toList Rows.intakeTellsSpec.vars false (#[.slice none 0 0,.int .u8 0]:Array Value).toList 8=some ([.nil,.lit (.int .u8 0)],[],places):=
 ⟨[],by kernel_rfl⟩
def tys4:List Abs.Ty:=[(.row (.int .i64)),(.int .u8)]
set_option maxRecDepth 100000 in
theorem lifted4(law:∀x,Abs.Uc tys4 x→m4 (x,())=some ((true,()),()))(os:Os)(started:os.Started)(H:Type)(enc:TypeId×Value→H)(F:Stop.Interp):
  ReturnsInHanded {} Tryz.checked os 4 .any ((OpenSpec.ofChange Rows.intakeTellsSpec).preRow enc Tryz.prog Tryz.f4 Rows.intakeTellsRow.domain false Rows.intakeTellsRow.laid) (((OpenSpec.ofChange Rows.intakeTellsSpec).at F).post enc Tryz.prog Tryz.f4 false true false false):=by
 obtain⟨places,hx⟩:=reads os enc;refine returnsInHanded_of_row (C:=Tryz.checked) (s:=(OpenSpec.ofChange Rows.intakeTellsSpec)) own started (by kernel_rfl) Tryz.func4
  (witness_row_at (enc:=enc) (C:=Tryz.checked) false (laidWorld os) #[.slice none 0 0,.int .u8 0] rfl (by kernel_rfl) (by kernel_rfl) (by kernel_rfl)
   (OpenSpec.preRow_of_cond 8 hx (by kernel_rfl) (fun k hk=>by cases hk) (by kernel_rfl) (laid_met os))) ?_
 intro W base args ds gs before hval hW _ hk _ hL _ _;exact Abs.KA (P:=Tryz.prog) (fn:=Tryz.f4) (tys:=tys4) (r:=4) (m:=m4) Tryz.func4 (by kernel_rfl) ok4 (by decide+kernel) (by kernel_rfl) laid (by kernel_rfl) (by kernel_rfl) (by kernel_rfl) (by kernel_rfl) Tryz.underlying4 rfl
  (fun ds h=>by match ds,h with| [d0,d1],_=>rfl) law hval hW
theorem over4(law:∀x,Abs.Uc tys4 x→m4 (x,())=some ((true,()),())):Rows.intakeTellsRow.holds Tryz.pinned (OpenSpec.ofChange Rows.intakeTellsSpec):=
 OpenClaim.holds_of_cond 4 Tryz.f4 rfl rfl rfl rfl rfl rfl rfl ⟨rfl,rfl,rfl,rfl,rfl⟩ rfl rfl rfl rfl rfl (by kernel_rfl) Tryz.func4 (by kernel_rfl)
  (ali (by kernel_rfl)) (by unfold Func.isWrapper;first|(rw[if_pos (by decide+kernel)];kernel_rfl)|(rw[if_neg (by decide+kernel)];exact⟨rfl,rfl⟩))
  (fun os started H enc _ F=>by rw[OpenClaim.pre_eq_preRow];exact lifted4 law os started H enc F)
theorem plain4(f:FuncId)(fn:Func)(hf:Tryz.pinned.checked.prog.funcNamed Rows.intakeTellsRow.func=some f)(hfn:Tryz.pinned.checked.prog.funcs[f]?=some fn):
  false=Tryz.pinned.checked.prog.looks []∧∀(j:Nat) t,fn.params[j]?=some t→Tryz.pinned.checked.prog.wantsStandIn t=false:=by
 obtain rfl:f=4:=Option.some.inj ((show Tryz.prog.funcNamed Rows.intakeTellsRow.func=some 4 by kernel_rfl).symm.trans hf)|>.symm;obtain rfl:fn=Tryz.f4:=(Option.some.inj (Tryz.func4.symm.trans hfn)).symm;refine⟨by kernel_rfl,fun j t ht=> ?_⟩;have hall:(Tryz.f4.params.toList.all fun t=> !Tryz.prog.wantsStandIn t)=true:=by kernel_rfl
 have hm:t∈Tryz.f4.params.toList:=Array.mem_toList_iff.2 (Array.mem_of_getElem? ht);have:=(alF.1 hall) t hm;exact(show Tryz.prog.wantsStandIn t=false by simpa using this)
theorem intakeTells_holds:Rows.IntakeTellsCardSaid:=
 Claim7.holds_tied_plain_at .later [] _ _ _ _ (over4 ako) (fun _ h=>by cases h) (by kernel_rfl) (fun _ h=>by cases h) intakeTells_row_tie rfl ⟨rfl,rfl⟩ (by kernel_rfl) rfl plain4 (by kernel_rfl)
end Go.Proofs.YtchnmpafhfjimaaGreatDoor
