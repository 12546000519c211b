/-
  DERIVED. GIVEN WITH THE SEED: THE CARDS: each row of YtdfgbkilaepolaaGreatDoorRows.lean that lists a variable, with what it lists TIED to the program's text (the seventh form; the later family's looks); each row that meets fmt, with fmt's text TOLD by the authors' own Lean function (tested against real Go, not proved from fmt's source: count such statements apart). THE CARD IS WHAT COUNTS. Prove the row's statement (the work); the ties are given (YtdfgbkilaepolaaGreatDoorTie.lean); close each card by the builder's one call (the guide's Derived/Test/ToyasCard.lean, 'card_holds'). Laid BY PROGRAM, IN A SANDBOX (cutbox-door.mjs). By AI agents, Wed Nov 11 2026. No macro, syntax, notation, axiom, sorry.
-/
import Derived.Test.YtdfgbkilaepolaaGreatDoorRows
import GoSem.ClaimSeven
namespace Go.Proofs.YtdfgbkilaepolaaGreatDoor
namespace Rows

/-- THE TIED CARD OF 'sentrylaw10.WeighNumbers'. -/
def weighNumbersCard : Claim7 := { stood := { row := weighNumbersRow, standIns := [], harness := (true, "9e0ba006cba4207229420bfe9722a34d754701956a4668a72104bffec03b1f5a"), looks := true }, kinds := [], alts := [], laidByText := true, laidKinds := [.data, .data, .data, .sentinel, .sentinel], laidTests := true, laidLooks := .later }
def WeighNumbersCardSaid : Prop := Claim7.holds Tryz.pinned (.plain (OpenSpec.ofChange weighNumbersSpec)) weighNumbersCard

/-- THE TIED CARD OF 'sentrylaw10.WeighOpposes'. -/
def weighOpposesCard : Claim7 := { stood := { row := weighOpposesRow, standIns := [], harness := (true, "9e0ba006cba4207229420bfe9722a34d754701956a4668a72104bffec03b1f5a"), looks := true }, kinds := [], alts := [], laidByText := true, laidKinds := [.data, .data, .data, .sentinel, .sentinel], laidTests := true, laidLooks := .later }
def WeighOpposesCardSaid : Prop := Claim7.holds Tryz.pinned (.plain (OpenSpec.ofChange weighOpposesSpec)) weighOpposesCard

/-- THE SECOND FORM's CARD OF 'sentrylaw10.WeighNumbers'. -/
def weighNumbersUptoCard : Claim7 := { stood := { row := weighNumbersUptoRow, standIns := [], harness := (true, "9e0ba006cba4207229420bfe9722a34d754701956a4668a72104bffec03b1f5a"), looks := true }, kinds := [], alts := [], laidByText := true, laidKinds := [.data, .data, .data, .sentinel, .sentinel], laidTests := true, laidLooks := .later }
def WeighNumbersUptoCardSaid : Prop := Claim7.holds Tryz.pinned (.plain (OpenSpec.upto weighNumbersSpec)) weighNumbersUptoCard

/-- THE SECOND FORM's CARD OF 'sentrylaw10.WeighOpposes'. -/
def weighOpposesUptoCard : Claim7 := { stood := { row := weighOpposesUptoRow, standIns := [], harness := (true, "9e0ba006cba4207229420bfe9722a34d754701956a4668a72104bffec03b1f5a"), looks := true }, kinds := [], alts := [], laidByText := true, laidKinds := [.data, .data, .data, .sentinel, .sentinel], laidTests := true, laidLooks := .later }
def WeighOpposesUptoCardSaid : Prop := Claim7.holds Tryz.pinned (.plain (OpenSpec.upto weighOpposesSpec)) weighOpposesUptoCard
end Rows
end Go.Proofs.YtdfgbkilaepolaaGreatDoor
