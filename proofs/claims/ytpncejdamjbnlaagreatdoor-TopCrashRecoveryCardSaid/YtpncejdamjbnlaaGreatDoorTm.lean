/-
  A part of the proof of TopCrashRecovery: the run of awake: tables, contracts, joining.
-/
import Derived.Shelf.SlIterI.Nil
import Derived.Shelf.SortM.Plain
import Derived.Shelf.SortM.SortNone
import Derived.Ground.GgzProg
import Derived.Ground.SlgmProg
import Derived.Test.YtpncejdamjbnlaaGreatDoorProg
set_option linter.all false
namespace Go.Proofs
open Go.RowKit Go.Maps Go.Sort Go.Shelf
def Tryz.keysA_ren : Go.Shelf.Ren := ⟨fun | 7 => 312 | 10 => 358 | n => n, fun | 23 => 432 | 26 => 3 | 3 => 186 | 28 => 440 | 0 => 0 | 27 => 439 | 33 => 304 | 4 => 4 | n => n, fun | n => n⟩
theorem Tryz.keysA : Go.Proofs.SlLaysZI.n7 Tryz.prog Tryz.keysA_ren := {
  mixed := by kernel_rfl
  f7 := ⟨Tryz.f312.name, by decide, Tryz.func312.trans (congrArg some (by kernel_rfl))⟩
  f10 := ⟨Tryz.f358.name, by decide, Tryz.func358.trans (congrArg some (by kernel_rfl))⟩
  t0 := Tryz.underlying0
  a0 := Tryz.isAgg0
  z0 := Tryz.sizeOf0
  v0 := Tryz.zeroValue0
  t4 := Tryz.underlying4
  a4 := Tryz.isAgg4
  z4 := Tryz.sizeOf4
  v4 := Tryz.zeroValue4
  t23 := Tryz.underlying432
  a23 := Tryz.isAgg432
  z23 := Tryz.sizeOf432
  v23 := Tryz.zeroValue432
  t26 := Tryz.underlying3
  a26 := Tryz.isAgg3
  z26 := Tryz.sizeOf3
  v26 := Tryz.zeroValue3
  t27 := Tryz.underlying439
  a27 := Tryz.isAgg439
  z27 := Tryz.sizeOf439
  v27 := Tryz.zeroValue439
  t28 := Tryz.underlying440
  a28 := Tryz.isAgg440
  z28 := Tryz.sizeOf440
  v28 := Tryz.zeroValue440
  t33 := Tryz.underlying304
  a33 := Tryz.isAgg304
  z33 := Tryz.sizeOf304
  v33 := Tryz.zeroValue304 }
def Tryz.sortedA_ren : Go.Shelf.Ren := ⟨fun | 6 => 311 | 8 => 356 | 9 => 357 | 11 => 380 | 13 => 382 | 12 => 381 | 23 => 408 | 24 => 374 | 14 => 399 | 15 => 400 | 16 => 401 | 17 => 402 | 18 => 403 | 19 => 404 | 20 => 405 | 21 => 406 | 22 => 407 | 25 => 420 | 26 => 421 | 27 => 422 | 28 => 423 | 29 => 424 | 30 => 235 | 31 => 427 | n => n, fun | 26 => 3 | 28 => 440 | 24 => 59 | 0 => 0 | 3 => 3 | 37 => 237 | 48 => 148 | 50 => 334 | 4 => 4 | 40 => 535 | 39 => 534 | 45 => 257 | 5 => 5 | 9 => 9 | 51 => 549 | 55 => 400 | 57 => 554 | 58 => 527 | 33 => 304 | n => n, fun | n => n⟩
theorem Tryz.sortedA : Go.Proofs.SlLaysZI.n6 Tryz.prog Tryz.sortedA_ren := {
  mixed := by kernel_rfl
  f6 := ⟨Tryz.f311.name, by decide, Tryz.func311.trans (congrArg some (by kernel_rfl))⟩
  f8 := ⟨Tryz.f356.name, by decide, Tryz.func356.trans (congrArg some (by kernel_rfl))⟩
  f11 := ⟨Tryz.f380.name, by decide, Tryz.func380.trans (congrArg some (by kernel_rfl))⟩
  t0 := Tryz.underlying0
  a0 := Tryz.isAgg0
  z0 := Tryz.sizeOf0
  v0 := Tryz.zeroValue0
  t24 := Tryz.underlying59
  a24 := Tryz.isAgg59
  z24 := Tryz.sizeOf59
  v24 := Tryz.zeroValue59
  t26 := Tryz.underlying3
  a26 := Tryz.isAgg3
  z26 := Tryz.sizeOf3
  v26 := Tryz.zeroValue3
  t28 := Tryz.underlying440
  a28 := Tryz.isAgg440
  z28 := Tryz.sizeOf440
  v28 := Tryz.zeroValue440
  i26 := by kernel_rfl }
def Tryz.sortA_ren : Go.Shelf.Ren := ⟨fun | 5 => 357 | 8 => 382 | 7 => 381 | 19 => 408 | 20 => 374 | 10 => 399 | 11 => 400 | 12 => 401 | 13 => 402 | 14 => 403 | 15 => 404 | 16 => 405 | 17 => 406 | 18 => 407 | 30 => 420 | 31 => 421 | 32 => 422 | 33 => 423 | 34 => 424 | 35 => 235 | 40 => 427 | n => n, fun | 23 => 59 | 25 => 3 | 3 => 3 | 32 => 237 | 22 => 59 | 0 => 0 | 44 => 148 | 46 => 334 | 4 => 4 | 36 => 535 | 35 => 534 | 41 => 257 | 5 => 5 | 9 => 9 | 53 => 549 | 57 => 400 | 63 => 554 | 64 => 527 | n => n, fun | n => n⟩
theorem Tryz.sortA : Go.Proofs.SlLaysM.n5 Tryz.prog Tryz.sortA_ren := {
  mixed := by kernel_rfl
  f5 := ⟨Tryz.f357.name, by decide, Tryz.func357.trans (congrArg some (by kernel_rfl))⟩
  f7 := ⟨Tryz.f381.name, by decide, Tryz.func381.trans (congrArg some (by kernel_rfl))⟩
  f8 := Tryz.func382.trans (congrArg some (by kernel_rfl))
  f10 := ⟨Tryz.f399.name, by decide, Tryz.func399.trans (congrArg some (by kernel_rfl))⟩
  f11 := ⟨Tryz.f400.name, by decide, Tryz.func400.trans (congrArg some (by kernel_rfl))⟩
  f12 := ⟨Tryz.f401.name, by decide, Tryz.func401.trans (congrArg some (by kernel_rfl))⟩
  f13 := ⟨Tryz.f402.name, by decide, Tryz.func402.trans (congrArg some (by kernel_rfl))⟩
  f14 := ⟨Tryz.f403.name, by decide, Tryz.func403.trans (congrArg some (by kernel_rfl))⟩
  f15 := ⟨Tryz.f404.name, by decide, Tryz.func404.trans (congrArg some (by kernel_rfl))⟩
  f16 := ⟨Tryz.f405.name, by decide, Tryz.func405.trans (congrArg some (by kernel_rfl))⟩
  f17 := ⟨Tryz.f406.name, by decide, Tryz.func406.trans (congrArg some (by kernel_rfl))⟩
  f18 := ⟨Tryz.f407.name, by decide, Tryz.func407.trans (congrArg some (by kernel_rfl))⟩
  f19 := Tryz.func408.trans (congrArg some (by kernel_rfl))
  f20 := Tryz.func374.trans (congrArg some (by kernel_rfl))
  f30 := ⟨Tryz.f420.name, by decide, Tryz.func420.trans (congrArg some (by kernel_rfl))⟩
  f31 := Tryz.func421.trans (congrArg some (by kernel_rfl))
  f32 := Tryz.func422.trans (congrArg some (by kernel_rfl))
  f33 := ⟨Tryz.f423.name, by decide, Tryz.func423.trans (congrArg some (by kernel_rfl))⟩
  f34 := ⟨Tryz.f424.name, by decide, Tryz.func424.trans (congrArg some (by kernel_rfl))⟩
  f35 := ⟨Tryz.f235.name, by decide, Tryz.func235.trans (congrArg some (by kernel_rfl))⟩
  f40 := ⟨Tryz.f427.name, by decide, Tryz.func427.trans (congrArg some (by kernel_rfl))⟩
  t0 := Tryz.underlying0
  a0 := Tryz.isAgg0
  z0 := Tryz.sizeOf0
  v0 := Tryz.zeroValue0
  t3 := Tryz.underlying3
  a3 := Tryz.isAgg3
  z3 := Tryz.sizeOf3
  v3 := Tryz.zeroValue3
  t4 := Tryz.underlying4
  a4 := Tryz.isAgg4
  z4 := Tryz.sizeOf4
  v4 := Tryz.zeroValue4
  t5 := Tryz.underlying5
  a5 := Tryz.isAgg5
  z5 := Tryz.sizeOf5
  v5 := Tryz.zeroValue5
  t9 := Tryz.underlying9
  a9 := Tryz.isAgg9
  z9 := Tryz.sizeOf9
  v9 := Tryz.zeroValue9
  t22 := Tryz.underlying59
  a22 := Tryz.isAgg59
  z22 := Tryz.sizeOf59
  v22 := Tryz.zeroValue59
  t23 := Tryz.underlying59
  a23 := Tryz.isAgg59
  z23 := Tryz.sizeOf59
  v23 := Tryz.zeroValue59
  t25 := Tryz.underlying3
  a25 := Tryz.isAgg3
  z25 := Tryz.sizeOf3
  v25 := Tryz.zeroValue3
  t32 := Tryz.underlying237
  a32 := Tryz.isAgg237
  z32 := Tryz.sizeOf237
  v32 := Tryz.zeroValue237
  t35 := Tryz.underlying534
  a35 := Tryz.isAgg534
  z35 := Tryz.sizeOf534
  v35 := Tryz.zeroValue534
  t36 := Tryz.underlying535
  a36 := Tryz.isAgg535
  z36 := Tryz.sizeOf535
  v36 := Tryz.zeroValue535
  t41 := Tryz.underlying257
  a41 := Tryz.isAgg257
  z41 := Tryz.sizeOf257
  v41 := Tryz.zeroValue257
  t44 := Tryz.underlying148
  a44 := Tryz.isAgg148
  z44 := Tryz.sizeOf148
  v44 := Tryz.zeroValue148
  t46 := Tryz.underlying334
  a46 := Tryz.isAgg334
  z46 := Tryz.sizeOf334
  v46 := Tryz.zeroValue334
  t53 := Tryz.underlying549
  a53 := Tryz.isAgg549
  z53 := Tryz.sizeOf549
  v53 := Tryz.zeroValue549
  t57 := Tryz.underlying400
  a57 := Tryz.isAgg400
  z57 := Tryz.sizeOf400
  v57 := Tryz.zeroValue400
  t63 := Tryz.underlying554
  a63 := Tryz.isAgg554
  z63 := Tryz.sizeOf554
  v63 := Tryz.zeroValue554
  t64 := Tryz.underlying527
  a64 := Tryz.isAgg527
  z64 := Tryz.sizeOf527
  v64 := Tryz.zeroValue527 }
theorem Tryz.sortsA (m : Nat) : AnyZI.SortsIn Tryz.prog Tryz.sortedA_ren Fence.wide m :=
  ⟨fun blk off cap ss W hH hblk hsz => callsIn_wide.2 (AnyM.slices_Sort_int Tryz.sortA blk off cap ss W hH hblk hsz),
   fun p cap W => callsIn_wide.2 (AnyM.slices_Sort_int_none Tryz.sortA p cap W)⟩
theorem Tryz.sorted {H : Type} (Bm b nn : Nat) (D0 : DataW H) (R : Value → Option (DataW H × List MemPlace)) (w : World) (hBm : Bm < w.heap.size) (hc : w.cell? ⟨Bm, 0, none⟩ = some (.map (some b))) (hown : w.ownsMap Tryz.prog 3 R b nn D0) (hmax : Maps.size D0 ≤ maxLen) (hbytes : Maps.size D0 * 8 ≤ 140737488355328) :
    CallsIn Fence.wide 0 Tryz.prog 311 #[.func (.func 358) #[] #[.pointer (some ⟨Bm, 0, none⟩)]] w fun e w' => ∃ (v : Value) (ss : List Int), e = .returned v ∧ ss.Perm (intKeys D0) ∧
      w'.ownsRow w.heap.size 3 1 v ss.length ((ss.mergeSort (fun x y => decide (x ≤ y))).map encZ) ∧ (v = .slice none 0 0 ↔ ss = []) ∧ Below w.heap.size w w' := by
  have hseq : SeqGives Fence.wide 2 Tryz.prog 358 #[.pointer (some ⟨Bm, 0, none⟩)] encZ (fun ss => ss.Perm (intKeys D0)) (Maps.size D0) w :=
    AnyZI.keys_gives (ρ := Tryz.keysA_ren) { Tryz.keysA with } Fence.wide _ trivial rfl (by omega) Bm b nn D0 _ hBm hc hown
  have cS := AnyZI.sorted_in Tryz.sortedA Fence.wide 5 trivial trivial trivial trivial rfl (by omega) (Tryz.sortsA _) (enters_of Tryz.func357 (by kernel_rfl) rfl) 358 #[.pointer (some ⟨Bm, 0, none⟩)] trivial (enters_of Tryz.func358 (by kernel_rfl) rfl) _ _ hmax hbytes _ hseq
  change CallsIn _ _ Tryz.prog 311 _ _ _ at cS
  exact callsIn_wide.2 (callsIn_wide.1 cS)
end Go.Proofs
