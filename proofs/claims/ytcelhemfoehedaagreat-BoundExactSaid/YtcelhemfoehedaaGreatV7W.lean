/- For any pages, policies and profiles all bounds of the program are those of the reference. For every input the function returns, does not panic, answers true and leaves its arguments as they were. Conditions: none beyond the statement's own. -/
import Derived.Test.YtcelhemfoehedaaGreatV7G
import Derived.Test.YtcelhemfoehedaaGreatRows
import Derived.WalkKit
import Derived.ProofKit
import Derived.OpenShut
namespace Go.Proofs.YtcelhemfoehedaaGreat
open Go Go.ChangeShapes Go.WideShapes Go.ChangeAt Go.RowKit
theorem own:ownKnob Tryz.prog.godebug=none:=by kernel_rfl
theorem laid:laidOutB Tryz.prog=true:=by kernel_rfl
def tys7:List Abs.Ty:=[(.row (.int .i64)),Z5,(.int .i64)]
set_option maxRecDepth 100000 in
theorem lifted7(law:∀x,Abs.InRs tys7 x→m7 (x,())=some ((true,()),()))(os:Os)(started:os.Started)(H:Type)(enc:TypeId×Value→H):
    ReturnsInHanded {} Tryz.checked os 7 .any (Rows.boundExactSpec.pre6 enc Tryz.prog Tryz.f7 Rows.boundExactRow.domain false) (Rows.boundExactSpec.post enc Tryz.prog Tryz.f7 false true false false):=by
  refine returnsInHanded_of_change (C:=Tryz.checked) own started (by kernel_rfl) Tryz.func7
    (ChangeSpec.witness6 (enc:=enc) (C:=Tryz.checked) false ⟨#[],#[.slice none 0 0,.agg #[.string ByteArray.empty,.slice none 0 0,.int .i64 0],.int .i64 0],[]⟩ 8 (by kernel_rfl) (by kernel_rfl) (by kernel_rfl) (by kernel_rfl)) ?_
  intro W base args ds gs before hval hW hcnd _
  exact Abs.law_contract (P:=Tryz.prog) (fn:=Tryz.f7) (tys:=tys7) (r:=6) (m:=m7) Tryz.func7 (by kernel_rfl) ok7 (by decide+kernel) (by kernel_rfl) laid (by kernel_rfl) (by kernel_rfl) (by kernel_rfl) (by kernel_rfl) Tryz.underlying4 rfl
    (fun ds h=>by match ds,h with| [d0,d1,d2],_=>rfl) law hval hW
theorem over7(law:∀x,Abs.InRs tys7 x→m7 (x,())=some ((true,()),())):Rows.boundExactRow.holds Tryz.pinned (OpenSpec.ofChange Rows.boundExactSpec):=
  OpenClaim.holds_of_wide 7 Tryz.f7 rfl rfl rfl rfl rfl rfl rfl ⟨rfl,rfl,rfl,rfl,rfl⟩ rfl rfl rfl rfl rfl (by kernel_rfl) Tryz.func7 (by kernel_rfl)
    (of_decide_eq_true (by kernel_rfl)) (by unfold Func.isWrapper;first|(rw[if_pos (by decide+kernel)];kernel_rfl)|(rw[if_neg (by decide+kernel)];exact⟨rfl,rfl⟩))
    (fun os started H enc _=>lifted7 law os started H enc)
theorem boundExact_holds:Rows.BoundExactSaid:=over7 law7
end Go.Proofs.YtcelhemfoehedaaGreat
