/-
  PropSound at arguments as the row reads them.
-/
import Derived.Test.YtelgabamdhaplaaSound
import Derived.Test.YtelgabamdhaplaaOpen
import Derived.Test.YtelgabamdhaplaaOpenS
namespace Go.Proofs.Ytelgabamdhaplaa
open Go.RowKit
theorem propSound_top (w : World) (N0 : Int) (a0 : Option Addr) (l0 c0 : Nat) (z0 : List (List Int)) (w0 : InCnf w N0 a0 l0 c0 z0) (a1 : Option Addr) (l1 c1 : Nat) (z1 : List TStep) (w1 : InSteps w a1 l1 c1 z1) :
    Calls Try.prog 9 #[.agg #[.int .i64 N0, .slice a0 l0 c0], .slice a1 l1 c1] w (RetBoolBelow w true) :=
  sound_walk w N0 a0 l0 c0 z0 a1 l1 c1 z1 w0 w1
end Go.Proofs.Ytelgabamdhaplaa
