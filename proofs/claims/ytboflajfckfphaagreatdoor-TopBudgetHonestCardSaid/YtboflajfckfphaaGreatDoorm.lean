/- A part of TopBudgetHonest. -/
import Derived.Test.YtboflajfckfphaaGreatDoorl
namespace Go.Proofs.YtboflajfckfphaaGreatDoor
open Go Go.Proofs.Tryz
set_option maxRecDepth 100000
theorem jS:varsNamedLaterB prog (varsId prog) U0=true:=oK
