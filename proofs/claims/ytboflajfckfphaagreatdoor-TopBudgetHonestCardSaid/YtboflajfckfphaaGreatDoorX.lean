/- A part of TopBudgetHonest. -/
import Derived.Test.YtboflajfckfphaaGreatDoorM
namespace Go.Refl
open Go.Proofs
theorem go:O4 E2 (run E2 (drawn E2) 1000000) 4 [] N2 (fun v _=>match v with| .bool true=>true|_=>false)=true:=oK
end Go.Refl
