/-
  TotalUnique at arguments as the row reads them.
-/
import Derived.Test.YtohffgggogdgmaaUnique
import Derived.Test.YtohffgggogdgmaaOpenB
namespace Go.Proofs.Ytohffgggogdgmaa
open Go.RowKit
theorem unique_top (w : World) (a0 : Option Addr) (l0 c0 : Nat) (z0 : List Int) (w0 : InInts w a0 l0 c0 z0) (a1 : Int) (_ : (Lit.int .i64 a1).wf = true) (a2 : Int) (_ : (Lit.int .i64 a2).wf = true) (a3 : Option Addr) (l3 c3 : Nat) (z3 : List Bool) (w3 : Bools w a3 l3 c3 z3) :
    Calls Try.prog 6 #[.slice a0 l0 c0, .int .i64 a1, .int .i64 a2, .slice a3 l3 c3] w (RetBoolBelow w true) :=
  unique_walk w l0 c0 a0 z0 a1 a2 l3 c3 a3 z3 w0.ints w0.fits w3
end Go.Proofs.Ytohffgggogdgmaa
