/-
  A part of the proof of TopCrashRecovery: the run of awake, a piece.
-/
import Derived.Test.YtpncejdamjbnlaaGreatDoorTb
set_option linter.all false
section
namespace Go.Refl
open Go.Proofs
theorem pW_fits : pW.fits 19 = true := by kernel_rfl
theorem pW_runs : pW.runs E0 1000000 = true := by kernel_rfl
theorem pS_fits : pS.fits 19 = true := by kernel_rfl
theorem pS_runs : pS.runs E0 1000000 = true := by kernel_rfl
theorem pTs_fits : pTs.fits 19 = true := by kernel_rfl
theorem pTs_runs : pTs.runs E0 1000000 = true := by kernel_rfl
theorem pTl_fits : pTl.fits 19 = true := by kernel_rfl
theorem pTl_runs : pTl.runs E0 1000000 = true := by kernel_rfl
theorem pTno_fits : pTno.fits 19 = true := by kernel_rfl
theorem pTno_runs : pTno.runs E0 1000000 = true := by kernel_rfl
theorem pTb_fits : pTb.fits 19 = true := by kernel_rfl
theorem pTb_runs : pTb.runs E0 1000000 = true := by kernel_rfl
theorem pTx_fits : pTx.fits 19 = true := by kernel_rfl
theorem pTx_runs : pTx.runs E0 1000000 = true := by kernel_rfl
end Go.Refl
end
section
namespace Go.Refl
open Go.Proofs
theorem pB14_fits : pB14.fits 19 = true := by kernel_rfl
theorem pB14_runs : pB14.runs E1 1000000 = true := by kernel_rfl
end Go.Refl
end
