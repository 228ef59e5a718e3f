/-
  A part of the proof of TopCrashRecovery: the run of awake: tables, contracts, joining.
-/
import Derived.Shelf.Strings.Search3
import Derived.Ground.Names2Prog
import Derived.Test.YtpncejdamjbnlaaGreatDoorProg
set_option linter.all false
namespace Go.Proofs
open Go.Shelf
def Tryz.lays143_ren : Go.Shelf.Ren := ⟨fun | 143 => 227 | 219 => 287 | 217 => 344 | 225 => 345 | 224 => 346 | 267 => 347 | 266 => 378 | 314 => 379 | n => n, fun | 9 => 9 | 3 => 3 | 4 => 4 | 5 => 5 | 46 => 237 | 146 => 512 | 51 => 148 | n => n, fun | 1 => 11 | n => n⟩
theorem Tryz.lays143 : Go.Proofs.Lays.n143 Tryz.prog Tryz.lays143_ren := {
  mixed := by kernel_rfl
  f143 := Tryz.func227.trans (congrArg some (by kernel_rfl))
  f217 := Tryz.func344.trans (congrArg some (by kernel_rfl))
  f219 := Tryz.func287.trans (congrArg some (by kernel_rfl))
  f224 := Tryz.func346.trans (congrArg some (by kernel_rfl))
  f225 := Tryz.func345.trans (congrArg some (by kernel_rfl))
  f266 := Tryz.func378.trans (congrArg some (by kernel_rfl))
  f267 := Tryz.func347.trans (congrArg some (by kernel_rfl))
  f314 := Tryz.func379.trans (congrArg some (by kernel_rfl))
  t3 := Tryz.underlying3
  a3 := Tryz.isAgg3
  z3 := Tryz.sizeOf3
  v3 := Tryz.zeroValue3
  t4 := Tryz.underlying4
  a4 := Tryz.isAgg4
  z4 := Tryz.sizeOf4
  v4 := Tryz.zeroValue4
  t5 := Tryz.underlying5
  a5 := Tryz.isAgg5
  z5 := Tryz.sizeOf5
  v5 := Tryz.zeroValue5
  t9 := Tryz.underlying9
  a9 := Tryz.isAgg9
  z9 := Tryz.sizeOf9
  v9 := Tryz.zeroValue9
  t46 := Tryz.underlying237
  a46 := Tryz.isAgg237
  z46 := Tryz.sizeOf237
  v46 := Tryz.zeroValue237
  t51 := Tryz.underlying148
  a51 := Tryz.isAgg148
  z51 := Tryz.sizeOf148
  v51 := Tryz.zeroValue148
  t146 := Tryz.underlying512
  a146 := Tryz.isAgg512
  z146 := Tryz.sizeOf512
  v146 := Tryz.zeroValue512
  g1 := by kernel_rfl }
open Go.RowKit Go.Lib in
theorem Tryz.strings_Index (s sub : ByteArray) (m : Int) (w : World) (hs : s.size < 4294967281) (hm : w.cell? ⟨11, 0, none⟩ = some (.int .i64 m)) :
    Calls Tryz.prog 227 #[.string s, .string sub] w fun e w' => e = .returned (.int .i64 (Lib.index s.data.toList sub.data.toList)) ∧ w' = w := Any.strings_Index Tryz.lays143 s sub m w hs hm
end Go.Proofs
