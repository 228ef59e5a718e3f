/-
  TotalLimit at arguments as the row reads them.
-/
import Derived.Test.YtohffgggogdgmaaLimit
import Derived.Test.YtohffgggogdgmaaOpenB
namespace Go.Proofs.Ytohffgggogdgmaa
open Go.RowKit
theorem limit_top (w : World) (a0 : Option Addr) (l0 c0 : Nat) (z0 : List Int) (w0 : InInts w a0 l0 c0 z0) (a1 : Int) (_ : (Lit.int .i64 a1).wf = true) (a2 : Int) (_ : (Lit.int .i64 a2).wf = true) (a3 : Int) (_ : (Lit.int .i64 a3).wf = true) (a4 : Option Addr) (l4 c4 : Nat) (z4 : List Bool) (w4 : Bools w a4 l4 c4 z4) :
    Calls Try.prog 7 #[.slice a0 l0 c0, .int .i64 a1, .int .i64 a2, .int .i64 a3, .slice a4 l4 c4] w (RetBoolBelow w true) :=
  limit_walk w l0 c0 a0 z0 a1 a2 a3 l4 c4 a4 z4 w0.ints w0.fits w4
end Go.Proofs.Ytohffgggogdgmaa
