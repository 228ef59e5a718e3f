/-
  A part of the proof of TopCrashRecovery: the row, the ties, the card.
-/
import Derived.Test.YtpncejdamjbnlaaGreatDoorRows
import Derived.JoinedOf
set_option linter.all false
namespace Go.Proofs.YtpncejdamjbnlaaGreatDoor
open Go
set_option maxRecDepth 100000
theorem cl_unf : Tryz.prog.unfollowed 3 = true := by kernel_rfl
end Go.Proofs.YtpncejdamjbnlaaGreatDoor
