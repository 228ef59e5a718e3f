/-
  A part of the proof of TopCrashRecovery: the row, the ties, the card.
-/
import Derived.Test.YtpncejdamjbnlaaGreatDoorZa
set_option linter.all false
namespace Go.Proofs.YtpncejdamjbnlaaGreatDoor
open Go
set_option maxRecDepth 100000
theorem tie_run (os : Os) (tape : Tape) : doorLeaves Tryz.prog 448 8 257 tieL os tape = some (tieL.filter fun x => x.2.handleName?.isNone, (funcsListed tieL).map (·.2.funcsOut)) := by kernel_rfl
end Go.Proofs.YtpncejdamjbnlaaGreatDoor
