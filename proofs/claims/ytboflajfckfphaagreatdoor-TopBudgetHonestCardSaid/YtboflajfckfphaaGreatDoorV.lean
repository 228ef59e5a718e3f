/- A part of TopBudgetHonest. -/
import Derived.Test.YtboflajfckfphaaGreatDoorM
namespace Go.Refl
open Go.Proofs
theorem Xj:di.fits 19=true:=oK
theorem Xk:di.runs E1 1000000=true:=oK
end Go.Refl
