/- IntakeRuns: what Run makes of any list of alerts is what the document says. For every input the function returns, does not panic, answers true and leaves its arguments as they were. Condition: what it reads is of bulk at most 1048576 (the statement's own); the two tables of package unicode/utf8 that the row lists hold what it lists. -/
import Derived.Test.YtchnmpafhfjimaaGreatDoorV3F
import Derived.Test.YtchnmpafhfjimaaGreatDoorCards
import Derived.Test.YtchnmpafhfjimaaGreatDoorTie
import Derived.WalkKit
import Derived.ProofKit
import Derived.OpenShut
import Derived.Deep.DeepHandedRow
import Derived.Lib.LaidTab
namespace Go.Proofs.YtchnmpafhfjimaaGreatDoor
open Go Go.ChangeShapes Go.WideShapes Go.ChangeAt Go.RowKit
theorem own:ownKnob Tryz.prog.godebug=none:=by kernel_rfl
theorem laid:laidOutB Tryz.prog=true:=by kernel_rfl
theorem one_le{H:Type}(d:DataW H):1≤Rows.uptoBulk d:=by
 cases d with
 |lit l=>cases l<;>simp[Rows.uptoBulk]
 |nil=>simp[Rows.uptoBulk]
 |ptr d=>simp[Rows.uptoBulk]
 |slice elems spare=>simp[Rows.uptoBulk]
 |agg parts=>simp[Rows.uptoBulk]
 |iface t d=>simp[Rows.uptoBulk]
 |map entries=>simp[Rows.uptoBulk]
 |held h=>simp[Rows.uptoBulk]
theorem part_le{H:Type}{d:DataW H}{l:List (DataW H)}(h:d∈l):Rows.uptoBulk d≤Rows.uptoBulkAll l:=by
 induction l with
 |nil=>cases h
 |cons x r ih=>
  simp only[Rows.uptoBulkAll]
  cases apD.1 h with
  |inl e=>subst e;omega
  |inr e=>have:=ih e;omega
theorem length_le{H:Type}(l:List (DataW H)):l.length≤Rows.uptoBulkAll l:=by
 induction l with
 |nil=>simp[Rows.uptoBulkAll]
 |cons x r ih=>have:=one_le x;simp only[Rows.uptoBulkAll,ap9];omega
theorem bulk{H:Type}:Abs.UB (H:=H) Rows.uptoBulk:=
 ⟨fun b=>by simp[Rows.uptoBulk],fun e s=>by have:=length_le e;simp only[Rows.uptoBulk];omega,fun e s d hd=>by have:=part_le hd;simp only[Rows.uptoBulk];omega,fun p d hd=>by have:=part_le hd;simp only[Rows.uptoBulk];omega⟩
noncomputable def table1(x:Obj):Obj:=match x with
 | .cells _ t frozen=>.cells (([128,191,160,191,128,159,144,191,128,143]++List.replicate 22 (0:Int)).map (fun n=>Value.int .u8 n)).toArray t frozen
 |o=>o
noncomputable def table2(x:Obj):Obj:=match x with
 | .cells _ t frozen=>.cells (Go.Pinned.utf8FirstZ.map (fun n=>Value.int .u8 (n:Nat))).toArray t frozen
 |o=>o
noncomputable def laidWorld(os:Os):World:=
 {World.holding Tryz.prog os ⟨#[],#[],[]⟩with heap:=((World.holding Tryz.prog os ⟨#[],#[],[]⟩).heap.modify 2 table1).modify 1 table2}
set_option maxRecDepth 100000 in
theorem laid_met(os:Os):laidMet Tryz.prog Rows.intakeRunsUptoRow.laid ((laidWorld os).forCall (fun _ _=>0) ⟨#[],#[.slice none 0 0,.slice none 0 0,.int .i64 0],[]⟩).memory:=
 laidMet_of_run' 8 (by kernel_rfl) (by kernel_rfl)
set_option maxRecDepth 100000 in
theorem reads(os:Os){H:Type}(enc:TypeId×Value→H):∃places,DataW.whole enc Tryz.prog ((laidWorld os).forCall (fun _ _=>0) ⟨#[],#[.slice none 0 0,.slice none 0 0,.int .i64 0],[]⟩).memory Tryz.f3.params.toList Rows.intakeRunsSpec.vars false (#[.slice none 0 0,.slice none 0 0,.int .i64 0]:Array Value).toList 8=some ([.nil,.nil,.lit (.int .i64 0)],[],places):=
 ⟨[],by kernel_rfl⟩
def tys3:List Abs.Ty:=[(.row (.int .i64)),(.row Vo),(.int .i64)]
set_option maxRecDepth 100000 in
theorem lifted3(law:∀x,Abs.Uv 1048576 tys3 x→m3 (x,())=some ((true,()),()))(os:Os)(started:os.Started)(H:Type)(enc:TypeId×Value→H)(F:Stop.Interp):
  ReturnsInHanded {} Tryz.checked os 3 .any ((Rows.OpenSpec.upto Rows.intakeRunsSpec).preRow enc Tryz.prog Tryz.f3 Rows.intakeRunsUptoRow.domain false Rows.intakeRunsUptoRow.laid) (((Rows.OpenSpec.upto Rows.intakeRunsSpec).at F).post enc Tryz.prog Tryz.f3 false true false false):=by
 obtain⟨places,hx⟩:=reads os enc;refine returnsInHanded_of_row (C:=Tryz.checked) (s:=(Rows.OpenSpec.upto Rows.intakeRunsSpec)) own started (by kernel_rfl) Tryz.func3
  (witness_row_at (enc:=enc) (C:=Tryz.checked) false (laidWorld os) #[.slice none 0 0,.slice none 0 0,.int .i64 0] rfl (by kernel_rfl) (by kernel_rfl) (by kernel_rfl)
   (OpenSpec.preRow_of_cond 8 hx (by kernel_rfl) (fun k hk=>by cases hk;kernel_rfl) (by kernel_rfl) (laid_met os))) ?_
 intro W base args ds gs before hval hW _ hk _ hL _ _;exact Abs.IC (P:=Tryz.prog) bulk (fn:=Tryz.f3) (tys:=tys3) (r:=6) (m:=m3) Tryz.func3 (by kernel_rfl) ok3 (by decide+kernel) (by kernel_rfl) laid (by kernel_rfl) (by kernel_rfl) (by kernel_rfl) (by kernel_rfl) Tryz.underlying4 rfl
  (fun ds h=>by match ds,h with| [d0,d1,d2],_=>rfl) law hval (fun y hy=>apI (part_le (List.mem_append_left _ hy)) (apd (hk _ rfl))) hW
theorem over3(law:∀x,Abs.Uv 1048576 tys3 x→m3 (x,())=some ((true,()),())):Rows.intakeRunsUptoRow.holds Tryz.pinned (Rows.OpenSpec.upto Rows.intakeRunsSpec):=
 OpenClaim.holds_of_cond 3 Tryz.f3 rfl rfl rfl rfl rfl rfl rfl ⟨rfl,rfl,rfl,rfl,rfl⟩ rfl rfl rfl rfl rfl (by kernel_rfl) Tryz.func3 (by kernel_rfl)
  (apd (by kernel_rfl)) (by unfold Func.isWrapper;first|(rw[if_pos (by decide+kernel)];kernel_rfl)|(rw[if_neg (by decide+kernel)];exact⟨rfl,rfl⟩))
  (fun os started H enc _ F=>by rw[OpenClaim.pre_eq_preRow];exact lifted3 law os started H enc F)
theorem plain3(f:FuncId)(fn:Func)(hf:Tryz.pinned.checked.prog.funcNamed Rows.intakeRunsUptoRow.func=some f)(hfn:Tryz.pinned.checked.prog.funcs[f]?=some fn):
  false=Tryz.pinned.checked.prog.looks []∧∀(j:Nat) t,fn.params[j]?=some t→Tryz.pinned.checked.prog.wantsStandIn t=false:=by
 obtain rfl:f=3:=Option.some.inj ((show Tryz.prog.funcNamed Rows.intakeRunsUptoRow.func=some 3 by kernel_rfl).symm.trans hf)|>.symm;obtain rfl:fn=Tryz.f3:=(Option.some.inj (Tryz.func3.symm.trans hfn)).symm;refine⟨by kernel_rfl,fun j t ht=> ?_⟩;have hall:(Tryz.f3.params.toList.all fun t=> !Tryz.prog.wantsStandIn t)=true:=by kernel_rfl
 have hm:t∈Tryz.f3.params.toList:=Array.mem_toList_iff.2 (Array.mem_of_getElem? ht);have:=(ap7.1 hall) t hm;exact(show Tryz.prog.wantsStandIn t=false by simpa using this)
theorem intakeRuns_holds:Rows.IntakeRunsUptoCardSaid:=
 Claim7.holds_tied_plain_at .later [] _ _ _ _ (over3 amz) (fun _ h=>by cases h) (by kernel_rfl) (fun _ h=>by cases h) intakeRunsUpto_row_tie rfl ⟨rfl,rfl⟩ (by kernel_rfl) rfl plain3 (by kernel_rfl)
end Go.Proofs.YtchnmpafhfjimaaGreatDoor
