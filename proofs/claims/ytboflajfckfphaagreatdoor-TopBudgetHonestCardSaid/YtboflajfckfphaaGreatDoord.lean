/- A part of TopBudgetHonest. -/
import Derived.Test.YtboflajfckfphaaGreatDoorA
import Derived.Test.YtboflajfckfphaaGreatDoorr
namespace Go.Proofs.YtboflajfckfphaaGreatDoor
open Go Go.Proofs.Tryz
theorem cR (b:Os) (a:Array Value):(Vz b).layIfaces prog (Oh.filter fun x=>Og.contains x.1) (OS b a)=true:=oK
def kh:List (String×DataW Unit):=Oh.filter fun x=>!Og.contains x.1
theorem ZQ (b:Os) (a:Array Value):LaidIn prog (OS b a) kh aJ:=
 LaidIn.of_run _ 8 oK oK oK oK
theorem ki (b:Os) (a:Array Value):laidMet prog Oh (OS b a):=
 laidMet_layVars (w0:=Vz b) Og aJ (WM b a) (jf b) (cR b a) (ZQ b a)
theorem ZR (b:Os) (a:Array Value):(Rows.topBudgetHonestRow.laid.filter fun x=>x.2.handleName?.isSome&&x.2.funcsIn?.isNone).all (handleAtB prog (OS b a))=true:=oK
theorem nL (b:Os) (a:Array Value):laidMetH prog Rows.topBudgetHonestRow.laid (OS b a):=
 laidMetH_of_parts3 (ki b a) (ZR b a) (eo b a)
