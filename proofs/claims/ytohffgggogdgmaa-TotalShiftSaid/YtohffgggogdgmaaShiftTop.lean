/-
  TotalShift at arguments as the row reads them.
-/
import Derived.Test.YtohffgggogdgmaaShift
import Derived.Test.YtohffgggogdgmaaOpen
namespace Go.Proofs.Ytohffgggogdgmaa
open Go.RowKit
theorem u8_bounds {x : Int} (h : (Lit.int .u8 x).wf = true) : 0 ≤ x ∧ x ≤ 255 := by simpa [Lit.wf, IntKind.min, IntKind.max, IntKind.signed, IntKind.bits] using h
theorem shift_top (w : World) (a0 : Option Addr) (l0 c0 : Nat) (z0 : List Int) (w0 : InInts w a0 l0 c0 z0) (a1 : Int) (_ : (Lit.int .i64 a1).wf = true) (a2 : Int) (_ : (Lit.int .i64 a2).wf = true) (a3 : Int) (w3 : (Lit.int .u8 a3).wf = true) :
    Calls Try.prog 4 #[.slice a0 l0 c0, .int .i64 a1, .int .i64 a2, .int .u8 a3] w (RetBoolBelow w true) :=
  shift_walk w l0 c0 a0 z0 a1 a2 a3 w0.ints w0.fits (u8_bounds w3).1 (u8_bounds w3).2
end Go.Proofs.Ytohffgggogdgmaa
