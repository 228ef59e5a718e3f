/-
  A part of the proof of TopCrashRecovery: a world that meets the condition of the row.
-/
import Derived.Test.YtpncejdamjbnlaaGreatDoorRows
import Derived.LaidMore
import Derived.Lay
import Derived.LaidHandle
import Derived.Lib.LaidIn
set_option linter.all false
section
namespace Go.Proofs.YtpncejdamjbnlaaGreatDoor
open Go
def wObj19 : Obj := .map #[⟨.string ⟨#[33, 61]⟩, .func (.func 452) #[] #[], 0⟩, ⟨.string ⟨#[60]⟩, .func (.func 453) #[] #[], 1⟩, ⟨.string ⟨#[60, 61]⟩, .func (.func 454) #[] #[], 2⟩, ⟨.string ⟨#[61]⟩, .func (.func 451) #[] #[], 3⟩, ⟨.string ⟨#[62]⟩, .func (.func 455) #[] #[], 4⟩, ⟨.string ⟨#[62, 61]⟩, .func (.func 456) #[] #[], 5⟩] 6
def wObj20 : Obj := .map #[⟨.int .i64 3, .func (.func 457) #[] #[], 0⟩, ⟨.int .i64 4, .func (.func 458) #[] #[], 1⟩, ⟨.int .i64 5, .func (.func 459) #[] #[], 2⟩, ⟨.int .i64 6, .func (.func 461) #[] #[], 3⟩, ⟨.int .i64 7, .func (.func 463) #[] #[], 4⟩, ⟨.int .i64 8, .func (.func 465) #[] #[], 5⟩] 6
def wObj21 : Obj := .map #[⟨.int .i64 1, .int .i64 0, 0⟩, ⟨.int .i64 2, .int .i64 0, 1⟩, ⟨.int .i64 3, .int .i64 0, 2⟩, ⟨.int .i64 4, .int .i64 0, 3⟩, ⟨.int .i64 5, .int .i64 0, 4⟩, ⟨.int .i64 6, .int .i64 0, 5⟩, ⟨.int .i64 7, .int .i64 0, 6⟩, ⟨.int .i64 8, .int .i64 0, 7⟩, ⟨.int .i64 9, .int .i64 0, 8⟩, ⟨.int .i64 10, .int .i64 1, 9⟩, ⟨.int .i64 11, .int .i64 2, 10⟩, ⟨.int .i64 12, .int .i64 2, 11⟩, ⟨.int .i64 13, .int .i64 2, 12⟩, ⟨.int .i64 14, .int .i64 1, 13⟩, ⟨.int .i64 15, .int .i64 1, 14⟩, ⟨.int .i64 16, .int .i64 1, 15⟩, ⟨.int .i64 17, .int .i64 1, 16⟩] 17
def wObj22 : Obj := .map #[⟨.string ⟨#[33, 61]⟩, .string ⟨#[61]⟩, 0⟩, ⟨.string ⟨#[60]⟩, .string ⟨#[62, 61]⟩, 1⟩, ⟨.string ⟨#[60, 61]⟩, .string ⟨#[62]⟩, 2⟩, ⟨.string ⟨#[61]⟩, .string ⟨#[33, 61]⟩, 3⟩, ⟨.string ⟨#[62]⟩, .string ⟨#[60, 61]⟩, 4⟩, ⟨.string ⟨#[62, 61]⟩, .string ⟨#[60]⟩, 5⟩] 6
def wObj23 : Obj := .map #[⟨.string ⟨#[97, 108, 108]⟩, .bool true, 0⟩, ⟨.string ⟨#[97, 116]⟩, .bool true, 1⟩, ⟨.string ⟨#[97, 116, 116, 101, 110, 100, 115]⟩, .bool true, 2⟩, ⟨.string ⟨#[97, 119, 97, 121]⟩, .bool true, 3⟩, ⟨.string ⟨#[100, 97, 121]⟩, .bool true, 4⟩, ⟨.string ⟨#[101, 97, 99, 104]⟩, .bool true, 5⟩, ⟨.string ⟨#[102, 97, 108, 115, 101]⟩, .bool true, 6⟩, ⟨.string ⟨#[103, 114, 111, 117, 112]⟩, .bool true, 7⟩, ⟨.string ⟨#[104, 97, 114, 100]⟩, .bool true, 8⟩, ⟨.string ⟨#[104, 111, 117, 114]⟩, .bool true, 9⟩, ⟨.string ⟨#[104, 111, 117, 115, 101]⟩, .bool true, 10⟩, ⟨.string ⟨#[105, 110]⟩, .bool true, 11⟩, ⟨.string ⟨#[108, 101, 97, 115, 116]⟩, .bool true, 12⟩, ⟨.string ⟨#[108, 101, 115, 115, 111, 110]⟩, .bool true, 13⟩, ⟨.string ⟨#[109, 111, 115, 116]⟩, .bool true, 14⟩, ⟨.string ⟨#[112, 101, 114, 115, 111, 110]⟩, .bool true, 15⟩, ⟨.string ⟨#[114, 111, 111, 109]⟩, .bool true, 16⟩, ⟨.string ⟨#[115, 101, 97, 116, 115]⟩, .bool true, 17⟩, ⟨.string ⟨#[115, 104, 117, 116]⟩, .bool true, 18⟩, ⟨.string ⟨#[115, 105, 122, 101]⟩, .bool true, 19⟩, ⟨.string ⟨#[115, 108, 111, 116]⟩, .bool true, 20⟩, ⟨.string ⟨#[115, 111, 102, 116]⟩, .bool true, 21⟩, ⟨.string ⟨#[115, 111, 109, 101]⟩, .bool true, 22⟩, ⟨.string ⟨#[116, 101, 97, 99, 104, 101, 115]⟩, .bool true, 23⟩, ⟨.string ⟨#[116, 114, 117, 101]⟩, .bool true, 24⟩] 25
noncomputable def wBase (os : Os) : World :=
  let h := World.holding Tryz.prog os ⟨#[], #[], []⟩
  { h with heap := ⟨Lay.setRows h.heap.toList [(0, [.map (some 24)]), (1, [.map (some 25)]), (2, [.map (some 26)]), (3, [.map (some 27)]), (5, [.map (some 28)])] ++ [wObj19, wObj20, wObj21, wObj22, wObj23]⟩ }
def wGreat : List String := [0, 1, 2, 3, 4, 5, 6, 7, 8, 12, 13, 16].map fun k => ((Rows.topCrashRecoveryRow.laid[k]?).map (·.1)).getD ""
def wPlain : List (String × DataW Unit) := Rows.topCrashRecoveryRow.laid.filter fun x => x.2.handleName?.isNone
noncomputable def wWorld (os : Os) : World := (wBase os).layVars Tryz.prog (wPlain.filter fun x => wGreat.contains x.1)
theorem wWorld_os (os : Os) : (wWorld os).os = os := World.layVars_os _ _ _
def wKept : List Nat := [0, 1, 2, 3, 5, 24, 25, 26, 27, 28]
theorem wFits (os : Os) : (wBase os).layFits Tryz.prog (wPlain.filter fun x => wGreat.contains x.1) wKept = true := by kernel_rfl
end Go.Proofs.YtpncejdamjbnlaaGreatDoor
end
section
namespace Go.Proofs.YtpncejdamjbnlaaGreatDoor
open Go
theorem wZip (os : Os) (args : Array Value) : ((wWorld os).forCall (fun _ _ => 0) ⟨#[], args, []⟩).variablesZipB Tryz.prog = true := by kernel_rfl
theorem wDrop (os : Os) (args : Array Value) : ((((wWorld os).forCall (fun _ _ => 0) ⟨#[], args, []⟩).heap.toList.drop Tryz.prog.globals.size).take ((begin Tryz.prog (fun _ _ => 0) default).world.heap.size - Tryz.prog.globals.size)) =
      (begin Tryz.prog (fun _ _ => 0) default).world.heap.toList.drop Tryz.prog.globals.size := by kernel_rfl
theorem wShaped (os : Os) (args : Array Value) : ((wWorld os).forCall (fun _ _ => 0) ⟨#[], args, []⟩).Shaped Tryz.prog := World.shaped_of_ZipB (wZip os args) (wDrop os args)
end Go.Proofs.YtpncejdamjbnlaaGreatDoor
end
section
namespace Go.Proofs.YtpncejdamjbnlaaGreatDoor
open Go
theorem wOk (os : Os) : Input.okWideB Tryz.checked.prog ((wWorld os).forCall (fun _ _ => 0) ⟨#[], #[.slice none 0 0, .int .i64 0, .int .i64 0, .int .i64 0], []⟩) 3 ⟨#[], #[.slice none 0 0, .int .i64 0, .int .i64 0, .int .i64 0], []⟩ = true := by kernel_rfl
theorem wPre {H : Type} (enc : TypeId × Value → H) (os : Os) : Rows.topCrashRecoverySpec.preB enc Tryz.checked.prog Tryz.f3 Rows.topCrashRecoveryRow.domain false ((wWorld os).forCall (fun _ _ => 0) ⟨#[], #[.slice none 0 0, .int .i64 0, .int .i64 0, .int .i64 0], []⟩).memory #[.slice none 0 0, .int .i64 0, .int .i64 0, .int .i64 0] 8 = true := by kernel_rfl
theorem wSized {H : Type} (enc : TypeId × Value → H) (os : Os) : Rows.topCrashRecoverySpec.sizedB enc Tryz.checked.prog Tryz.f3 false ((wWorld os).forCall (fun _ _ => 0) ⟨#[], #[.slice none 0 0, .int .i64 0, .int .i64 0, .int .i64 0], []⟩).memory #[.slice none 0 0, .int .i64 0, .int .i64 0, .int .i64 0] 8 = true := by kernel_rfl
end Go.Proofs.YtpncejdamjbnlaaGreatDoor
end
