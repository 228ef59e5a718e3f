/-
  A part of the proof of TopCrashRecovery: the row, the ties, the card.
-/
import Derived.Test.YtpncejdamjbnlaaGreatDoorZi
import Derived.Test.YtpncejdamjbnlaaGreatDoorZj
import Derived.Test.YtpncejdamjbnlaaGreatDoorZk
import Derived.Test.YtpncejdamjbnlaaGreatDoorRows
import Derived.JoinedOf
set_option linter.all false
namespace Go.Proofs.YtpncejdamjbnlaaGreatDoor
open Go
set_option maxRecDepth 100000
theorem cl_rec : Tryz.prog.recurses 3 = true := by unfold Program.recurses; rw [cl_unf]; rfl
set_option maxHeartbeats 4000000 in
theorem row_closed : joinedFacts Tryz.prog 3 Tryz.f3 Rows.topCrashRecoverySpec Rows.topCrashRecoveryRow = true := by
  unfold joinedFacts
  rw [← cl_inPlace, ← cl_named, cl_unf, cl_rec]
  repeat' (with_reducible refine Bool.and_eq_true_iff.2 ⟨?_, ?_⟩)
  all_goals (as_aux_lemma => kernel_rfl)
end Go.Proofs.YtpncejdamjbnlaaGreatDoor
