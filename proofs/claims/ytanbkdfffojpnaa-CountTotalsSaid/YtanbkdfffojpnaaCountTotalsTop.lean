/-
  CountTotals at arguments as the row reads them.
-/
import Derived.Test.YtanbkdfffojpnaaTotals
import Derived.Test.YtanbkdfffojpnaaOpen
import Derived.Test.YtanbkdfffojpnaaOpenB
namespace Go.Proofs.Ytanbkdfffojpnaa
open Go.RowKit
theorem countTotals_top (w : World) (a0 : Option Addr) (l0 c0 : Nat) (z0 : List Int) (w0 : InInts w a0 l0 c0 z0) (a1 : Int) (w1 : (Lit.int .i64 a1).wf = true) (a2 : Option Addr) (l2 c2 : Nat) (z2 : List Bool) (w2 : Bools w a2 l2 c2 z2) :
    Calls Try.prog 11 #[.slice a0 l0 c0, .int .i64 a1, .slice a2 l2 c2] w (RetBoolBelow w true) :=
  totals_walk w l0 c0 a0 z0 a1 l2 c2 a2 z2 w0.ints w0.fits w1 w2
end Go.Proofs.Ytanbkdfffojpnaa
