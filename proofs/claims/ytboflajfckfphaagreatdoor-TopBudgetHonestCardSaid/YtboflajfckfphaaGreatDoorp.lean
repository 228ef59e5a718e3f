/- A part of TopBudgetHonest. -/
import Derived.Test.YtboflajfckfphaaGreatDoorRows
import GoSem.ClaimSeven
import Derived.Test.YtboflajfckfphaaGreatDoorA
namespace Go.Proofs.YtboflajfckfphaaGreatDoor
open Go Go.Proofs.Tryz
set_option maxRecDepth 100000
theorem Xo:prog.funcs.any Func.goes=false:=oK
theorem ZD {P:Program} (h:P.funcs.any Func.goes=false) (f:FuncId):P.goes f=false:=by
 unfold Program.goes;rw[h,Bool.and_false,Bool.or_false];refine List.any_eq_false.2 fun g _ a=>?_
 cases c:P.funcs[g]? with
 |none=>rw[c] at a;cases a
 |some d=>
  rw[c] at a;obtain⟨b,rfl⟩:=Ak.1 c;have:=(Array.any_eq_false.1 h) g b;exact this a
theorem ZE {P:Program} (h:P.funcs.any Func.goes=false) (a:String):P.goesAt .entering a=false:=by
 unfold Program.goesAt Program.goesFrom
 cases P.funcNamed a with
 |none=>rfl
 |some f=>show(P.goes f||false)=false;rw[ZD h];rfl
