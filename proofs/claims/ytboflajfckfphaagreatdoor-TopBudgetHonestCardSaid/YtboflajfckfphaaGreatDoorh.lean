/- A part of TopBudgetHonest. -/
import Derived.JoinedOf
import Derived.Test.YtboflajfckfphaaGreatDoorRows
import Derived.Test.YtboflajfckfphaaGreatDoorA
set_option linter.all false
namespace Go.Proofs.YtboflajfckfphaaGreatDoor
open Go Go.Proofs.Tryz
set_option maxRecDepth 100000
theorem TO:Rows.topBudgetHonestRow.inPlace=prog.inPlace 3:=oK
