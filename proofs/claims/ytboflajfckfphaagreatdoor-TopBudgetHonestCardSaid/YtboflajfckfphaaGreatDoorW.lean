/- A part of TopBudgetHonest. -/
import Derived.Test.YtboflajfckfphaaGreatDoorM
namespace Go.Refl
open Go.Proofs
theorem W4:dj.fits 19=true:=oK
theorem W6:dj.runs E1 1000000=true:=oK
end Go.Refl
