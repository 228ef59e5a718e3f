/-
  DERIVED. GIVEN WITH THE SEED: THE CARDS: each row of YtboflajfckfphaaGreatDoorRows.lean that lists a variable, with what it lists TIED to the program's text (the seventh form; the later family's looks); each row that meets fmt, with fmt's text TOLD by the authors' own Lean function (tested against real Go, not proved from fmt's source: count such statements apart). THE CARD IS WHAT COUNTS. Prove the row's statement (the work); the ties are given (YtboflajfckfphaaGreatDoorTie.lean); close each card by the builder's one call (the guide's Derived/Test/ToyasCard.lean, 'card_holds'). Laid BY PROGRAM, IN A SANDBOX (cutbox-door.mjs). By AI agents, Wed Nov 11 2026. No macro, syntax, notation, axiom, sorry.
-/
import Derived.Test.YtboflajfckfphaaGreatDoorRows
import GoSem.ClaimSeven
namespace Go.Proofs.YtboflajfckfphaaGreatDoor
namespace Rows

/-- THE TIED CARD OF 'chalklinetop.TopBudgetHonest'. -/
def topBudgetHonestCard : Claim7 := { stood := { row := topBudgetHonestRow, standIns := [], harness := (true, "38adf4eebbe69f485a926b257b6dba3f7c57de382b96507bfa9791283b3ed0b7"), looks := true }, kinds := [], alts := [], laidByText := true, laidKinds := [.data, .data, .data, .data, .data, .sentinel, .sentinel, .listed, .data, .mapped, .mapped, .mapped, .widerDeep, .data, .funcs, .funcs, .pinned], laidTests := true, laidLooks := .later }
def TopBudgetHonestCardSaid : Prop := Claim7.holds Tryz.pinned (.plain (OpenSpec.ofChange topBudgetHonestSpec)) topBudgetHonestCard

/-- THE SECOND FORM's CARD OF 'chalklinetop.TopBudgetHonest'. -/
def topBudgetHonestUptoCard : Claim7 := { stood := { row := topBudgetHonestUptoRow, standIns := [], harness := (true, "38adf4eebbe69f485a926b257b6dba3f7c57de382b96507bfa9791283b3ed0b7"), looks := true }, kinds := [], alts := [], laidByText := true, laidKinds := [.data, .data, .data, .data, .data, .sentinel, .sentinel, .listed, .data, .mapped, .mapped, .mapped, .widerDeep, .data, .funcs, .funcs, .pinned], laidTests := true, laidLooks := .later }
def TopBudgetHonestUptoCardSaid : Prop := Claim7.holds Tryz.pinned (.plain (OpenSpec.upto topBudgetHonestSpec)) topBudgetHonestUptoCard
end Rows
end Go.Proofs.YtboflajfckfphaaGreatDoor
