/-
  A part of the proof of TopCrashRecovery: a world that meets the condition of the row.
-/
import Derived.Test.YtpncejdamjbnlaaGreatDoorWa
set_option linter.all false
namespace Go.Proofs.YtpncejdamjbnlaaGreatDoor
open Go
noncomputable def wCall (os : Os) (args : Array Value) : World := ((wWorld os).forCall (fun _ _ => 0) ⟨#[], args, []⟩)
noncomputable def wMem (os : Os) (args : Array Value) : World := (wCall os args).memory
theorem wMem_heap (os : Os) (args : Array Value) : (wMem os args).heap = (wWorld os).heap := by simp [wMem, wCall, World.memory, World.forCall, Input.heap]
theorem wIfaces (os : Os) (args : Array Value) : (wBase os).layIfaces Tryz.prog (wPlain.filter fun x => wGreat.contains x.1) (wMem os args) = true := by kernel_rfl
def wRest : List (String × DataW Unit) := wPlain.filter fun x => !wGreat.contains x.1
theorem wRest_in (os : Os) (args : Array Value) : LaidIn Tryz.prog (wMem os args) wRest [2, 3, 5, 26, 27, 28] :=
  LaidIn.of_run _ 8 (by kernel_rfl) (by kernel_rfl) (by kernel_rfl) (by kernel_rfl)
theorem wLaid (os : Os) (args : Array Value) : laidMet Tryz.prog wPlain (wMem os args) :=
  laidMet_layVars (w0 := wBase os) wGreat [2, 3, 5, 26, 27, 28] (wMem_heap os args) (wFits os) (wIfaces os args) (wRest_in os args)
theorem wFuncs (os : Os) (args : Array Value) : funcsRun Tryz.prog (wMem os args) 8 ((funcsListed Rows.topCrashRecoveryRow.laid).map (·.1)) = some ((funcsListed Rows.topCrashRecoveryRow.laid).map (·.2.funcsOut)) := by kernel_rfl
theorem wHandles (os : Os) (args : Array Value) : (Rows.topCrashRecoveryRow.laid.filter fun x => x.2.handleName?.isSome && x.2.funcsIn?.isNone).all (handleAtB Tryz.prog (wMem os args)) = true := by kernel_rfl
theorem wMet (os : Os) (args : Array Value) : laidMetH Tryz.prog Rows.topCrashRecoveryRow.laid (wMem os args) :=
  laidMetH_of_parts3 (wLaid os args) (wHandles os args) (wFuncs os args)
end Go.Proofs.YtpncejdamjbnlaaGreatDoor
