/-
  CountLeasts at arguments as the row reads them.
-/
import Derived.Test.YtanbkdfffojpnaaLeasts
import Derived.Test.YtanbkdfffojpnaaOpen
namespace Go.Proofs.Ytanbkdfffojpnaa
open Go.RowKit
theorem countLeasts_top (w : World) (a0 : Option Addr) (l0 c0 : Nat) (z0 : List Int) (w0 : InInts w a0 l0 c0 z0) (a1 : Int) (w1 : (Lit.int .i64 a1).wf = true) (a2 : Int) (w2 : (Lit.int .i64 a2).wf = true) :
    Calls Try.prog 3 #[.slice a0 l0 c0, .int .i64 a1, .int .i64 a2] w (RetBoolBelow w true) :=
  leasts_walk w l0 c0 a0 z0 a1 a2 w0.ints w0.fits w1 w2
end Go.Proofs.Ytanbkdfffojpnaa
