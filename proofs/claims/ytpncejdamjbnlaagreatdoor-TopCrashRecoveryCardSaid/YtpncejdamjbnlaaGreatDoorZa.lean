/-
  A part of the proof of TopCrashRecovery: the row, the ties, the card.
-/
import Derived.Test.YtpncejdamjbnlaaGreatDoorRows
import Derived.LaidByTextLater
import Derived.SevenTiedAt
import Derived.LaidSub
import Derived.LaidOnce
set_option linter.all false
namespace Go.Proofs.YtpncejdamjbnlaaGreatDoor
open Go
set_option maxRecDepth 100000
noncomputable def tieL : List (String × DataW Unit) := Rows.topCrashRecoveryRow.laid.take 16
def tieK : List LaidKind := [.data, .data, .data, .data, .data, .sentinel, .sentinel, .listed, .data, .mapped, .mapped, .mapped, .widerDeep, .data, .funcs, .funcs]
theorem tie_w : Tryz.prog.worded (varsWordLater true) = true := by kernel_rfl
theorem tie_w2 : Tryz.prog.worded (varsWordLater !true) = false := by kernel_rfl
theorem tie_root : Tryz.prog.worded rootWordLater = true := by kernel_rfl
theorem tie_k : tieL.map (fun x => Tryz.prog.kindOfLater x.1) = tieK.map some := by kernel_rfl
theorem tie_g : (Tryz.prog.funcNamed "gosem.cut.vars").isSome = true := by kernel_rfl
end Go.Proofs.YtpncejdamjbnlaaGreatDoor
