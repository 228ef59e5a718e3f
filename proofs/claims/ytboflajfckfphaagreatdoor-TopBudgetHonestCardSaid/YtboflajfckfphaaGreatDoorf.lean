/- A part of TopBudgetHonest. -/
import Derived.Test.YtboflajfckfphaaGreatDoorA
import Derived.Test.YtboflajfckfphaaGreatDoorr
namespace Go.Proofs.YtboflajfckfphaaGreatDoor
open Go Go.Proofs.Tryz
theorem nf (a:Os):Input.okWideB checked.prog ((Ic a).forCall (fun _ _=>0) ⟨#[],#[.agg #[.int .i64 0,.slice none 0 0],.slice none 0 0,.int .i64 0],[]⟩) 3 ⟨#[],#[.agg #[.int .i64 0,.slice none 0 0],.slice none 0 0,.int .i64 0],[]⟩=true:=oK
theorem lR {H:Type} (a:TypeId×Value->H) (b:Os):Rows.topBudgetHonestSpec.preB a checked.prog f3 Rows.topBudgetHonestRow.domain false ((Ic b).forCall (fun _ _=>0) ⟨#[],#[.agg #[.int .i64 0,.slice none 0 0],.slice none 0 0,.int .i64 0],[]⟩).memory #[.agg #[.int .i64 0,.slice none 0 0],.slice none 0 0,.int .i64 0] 8=true:=oK
theorem dY {H:Type} (a:TypeId×Value->H) (b:Os):Rows.topBudgetHonestSpec.sizedB a checked.prog f3 false ((Ic b).forCall (fun _ _=>0) ⟨#[],#[.agg #[.int .i64 0,.slice none 0 0],.slice none 0 0,.int .i64 0],[]⟩).memory #[.agg #[.int .i64 0,.slice none 0 0],.slice none 0 0,.int .i64 0] 8=true:=oK
