/-
  DERIVED. GIVEN WITH THE SEED: THE CARDS: each row of YtpncejdamjbnlaaGreatDoorRows.lean that lists a variable, with what it lists TIED to the program's text (the seventh form; the later family's looks); each row that meets fmt, with fmt's text TOLD by the authors' own Lean function (tested against real Go, not proved from fmt's source: count such statements apart). THE CARD IS WHAT COUNTS. Prove the row's statement (the work); the ties are given (YtpncejdamjbnlaaGreatDoorTie.lean); close each card by the builder's one call (the guide's Derived/Test/ToyasCard.lean, 'card_holds'). Laid BY PROGRAM, IN A SANDBOX (cutbox-door.mjs). By AI agents, Wed Nov 11 2026. No macro, syntax, notation, axiom, sorry.
-/
import Derived.Test.YtpncejdamjbnlaaGreatDoorRows
import GoSem.ClaimSeven
namespace Go.Proofs.YtpncejdamjbnlaaGreatDoor
namespace Rows

/-- THE TIED CARD OF 'chalklinetop.TopCrashRecovery'. -/
def topCrashRecoveryCard : Claim7 := { stood := { row := topCrashRecoveryRow, standIns := [], harness := (true, "86500126c814db557ede0cb9615a0eb7c7527f66c7d4a2d6d883313816fc5d2a"), looks := true }, kinds := [], alts := [], laidByText := true, laidKinds := [.data, .data, .data, .data, .data, .sentinel, .sentinel, .listed, .data, .mapped, .mapped, .mapped, .widerDeep, .data, .funcs, .funcs, .pinned], laidTests := true, laidLooks := .later }
def TopCrashRecoveryCardSaid : Prop := Claim7.holds Tryz.pinned (.plain (OpenSpec.ofChange topCrashRecoverySpec)) topCrashRecoveryCard

/-- THE SECOND FORM's CARD OF 'chalklinetop.TopCrashRecovery'. -/
def topCrashRecoveryUptoCard : Claim7 := { stood := { row := topCrashRecoveryUptoRow, standIns := [], harness := (true, "86500126c814db557ede0cb9615a0eb7c7527f66c7d4a2d6d883313816fc5d2a"), looks := true }, kinds := [], alts := [], laidByText := true, laidKinds := [.data, .data, .data, .data, .data, .sentinel, .sentinel, .listed, .data, .mapped, .mapped, .mapped, .widerDeep, .data, .funcs, .funcs, .pinned], laidTests := true, laidLooks := .later }
def TopCrashRecoveryUptoCardSaid : Prop := Claim7.holds Tryz.pinned (.plain (OpenSpec.upto topCrashRecoverySpec)) topCrashRecoveryUptoCard
end Rows
end Go.Proofs.YtpncejdamjbnlaaGreatDoor
