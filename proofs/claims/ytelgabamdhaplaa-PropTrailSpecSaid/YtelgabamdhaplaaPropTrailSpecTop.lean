/-
  PropTrailSpec at arguments as the row reads them.
-/
import Derived.Test.YtelgabamdhaplaaTrailSpec
import Derived.Test.YtelgabamdhaplaaOpen
import Derived.Test.YtelgabamdhaplaaOpenS
namespace Go.Proofs.Ytelgabamdhaplaa
open Go.RowKit
theorem propTrailSpec_top (w : World) (N0 : Int) (a0 : Option Addr) (l0 c0 : Nat) (z0 : List (List Int)) (w0 : InCnf w N0 a0 l0 c0 z0) (a1 : Option Addr) (l1 c1 : Nat) (z1 : List TStep) (w1 : InSteps w a1 l1 c1 z1) (a2 : Int) (w2 : (Lit.int .i64 a2).wf = true) :
    Calls Try.prog 3 #[.agg #[.int .i64 N0, .slice a0 l0 c0], .slice a1 l1 c1, .int .i64 a2] w (RetBoolBelow w true) :=
  trailSpec_walk w N0 a0 l0 c0 z0 a1 l1 c1 z1 a2 w0 w1 w2
end Go.Proofs.Ytelgabamdhaplaa
