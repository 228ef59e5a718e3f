/-
  A part of the proof of TopCrashRecovery: the run of awake, a piece.
-/
import Derived.Test.YtpncejdamjbnlaaGreatDoorTb
set_option linter.all false
namespace Go.Refl
open Go.Proofs
theorem go : callK E2 (run E2 (drawn E2) 1000000) 4 [] heap0 (fun v _ => match v with | .bool true => true | _ => false) = true := by kernel_rfl
end Go.Refl
