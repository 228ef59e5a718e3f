/-
  TotalMatches at arguments as the row reads them.
-/
import Derived.Test.YtohffgggogdgmaaMatches
import Derived.Test.YtohffgggogdgmaaOpen
namespace Go.Proofs.Ytohffgggogdgmaa
open Go.RowKit
theorem matches_top (w : World) (a0 : Option Addr) (l0 c0 : Nat) (z0 : List Int) (w0 : InInts w a0 l0 c0 z0) (a1 : Int) (_ : (Lit.int .i64 a1).wf = true) (a2 : Int) (_ : (Lit.int .i64 a2).wf = true) :
    Calls Try.prog 3 #[.slice a0 l0 c0, .int .i64 a1, .int .i64 a2] w (RetBoolBelow w true) :=
  matches_walk w l0 c0 a0 z0 a1 a2 w0.ints w0.fits
end Go.Proofs.Ytohffgggogdgmaa
