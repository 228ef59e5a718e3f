/- A part of TopBudgetHonest. -/
import Derived.LaidOnce
import Derived.LaidSub
import Derived.SevenTiedAt
import Derived.Test.YtboflajfckfphaaGreatDoorRows
import Derived.Test.YtboflajfckfphaaGreatDoorA
namespace Go.Proofs.YtboflajfckfphaaGreatDoor
open Go Go.Proofs.Tryz
set_option maxRecDepth 100000
noncomputable def U0:List (String×DataW Unit):=Rows.topBudgetHonestRow.laid.take 16
def br:List LaidKind:=[.data,.data,.data,.data,.data,.sentinel,.sentinel,.listed,.data,.mapped,.mapped,.mapped,.widerDeep,.data,.funcs,.funcs]
theorem jr:prog.worded (varsWordLater true)=true:=oK
theorem gJ:prog.worded (varsWordLater !true)=false:=oK
theorem Zr:prog.worded rootWordLater=true:=oK
theorem jt:U0.map (fun x=>prog.kindOfLater x.1)=br.map some:=oK
theorem ju:(prog.funcNamed "gosem.cut.vars").isSome=true:=oK
