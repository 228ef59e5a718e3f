/- A part of TopBudgetHonest. -/
import Derived.Test.YtboflajfckfphaaGreatDoorM
namespace Go.Refl
open Go.Proofs
theorem W7:dh.fits 19=true:=oK
theorem WA:dh.runs E1 1000000=true:=oK
end Go.Refl
