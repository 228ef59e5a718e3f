/-
  A part of the proof of TopCrashRecovery: the run of awake, a piece.
-/
import Derived.Test.YtpncejdamjbnlaaGreatDoorTb
set_option linter.all false
section
namespace Go.Refl
open Go.Proofs
theorem pB94_fits : pB94.fits 19 = true := by kernel_rfl
theorem pB94_runs : pB94.runs E1 1000000 = true := by kernel_rfl
end Go.Refl
end
section
namespace Go.Refl
open Go.Proofs
theorem pB98_fits : pB98.fits 19 = true := by kernel_rfl
theorem pB98_runs : pB98.runs E1 1000000 = true := by kernel_rfl
end Go.Refl
end
