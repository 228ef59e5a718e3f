/-
  TopCrashRecovery: for every input the law returns true and each argument reads afterwards as it read before; the listed package-level variables lie as the row lists them, which is tied to the text of the program (the card).
-/
import Derived.Test.YtpncejdamjbnlaaGreatDoorZg
import Derived.Test.YtpncejdamjbnlaaGreatDoorZb
import Derived.Test.YtpncejdamjbnlaaGreatDoorZc
import Derived.Test.YtpncejdamjbnlaaGreatDoorZd
import Derived.Test.YtpncejdamjbnlaaGreatDoorCards
import Derived.SevenTiedAt
set_option linter.all false
namespace Go.Proofs.YtpncejdamjbnlaaGreatDoor
open Go
set_option maxRecDepth 100000
theorem tie_all : Tryz.prog.laidByTextLater tieL tieK true := Program.laidByTextLater_by_one 448 8 257 tie_w tie_w2 tie_root tie_k tie_g tie_n tie_run
theorem tie_row : Rows.topCrashRecoveryRow.laidByTextAt .later Tryz.pinned Rows.topCrashRecoveryCard.laidKinds true :=
  OpenClaim.laidByTextAt_pinned rfl rfl tie_all rfl rfl rfl rfl tie_pins tie_fits
theorem proved : Rows.TopCrashRecoveryCardSaid :=
  Claim7.holds_tied_plain_at .later [] Rows.topCrashRecoveryCard.laidKinds true Rows.topCrashRecoveryCard.stood.harness true
    row_holds (fun _ h => by cases h) (by kernel_rfl) (fun _ h => by cases h) tie_row rfl ⟨rfl, rfl⟩ (by kernel_rfl) rfl
    (fun f fn hf hfn => by
      obtain rfl : f = 3 := Option.some.inj ((show Tryz.prog.funcNamed Rows.topCrashRecoveryRow.func = some 3 by kernel_rfl).symm.trans hf) |>.symm
      obtain rfl : fn = Tryz.f3 := (Option.some.inj (Tryz.func3.symm.trans hfn)).symm
      exact ⟨by kernel_rfl, fun j t ht => by
        rw [Tryz.params3] at ht
        have hm : t ∈ [22, 3] := by
          have := Array.mem_of_getElem? ht
          simp at this ⊢
          omega
        have hall : ([22, 3].all fun u => !Tryz.prog.wantsStandIn u) = true := by kernel_rfl
        exact (show Tryz.prog.wantsStandIn t = false by simpa using List.all_eq_true.1 hall t hm)⟩)
    (goes_row goes_none _).symm
#print axioms proved
end Go.Proofs.YtpncejdamjbnlaaGreatDoor
