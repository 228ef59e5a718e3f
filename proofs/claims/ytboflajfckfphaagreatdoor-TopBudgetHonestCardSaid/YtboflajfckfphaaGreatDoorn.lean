/- A part of the proof of TopBudgetHonest. -/
import Derived.Test.YtboflajfckfphaaGreatDoorl
namespace Go.Proofs.YtboflajfckfphaaGreatDoor
open Go Go.Proofs.Tryz
set_option maxRecDepth 100000
theorem ae (b:Os) (a:Tape):doorLeaves prog 448 8 257 U0 b a=some (U0.filter fun x=>x.2.handleName?.isNone,(funcsListed U0).map (·.2.funcsOut)):=oK
end Go.Proofs.YtboflajfckfphaaGreatDoor
