/-
  DERIVED. GIVEN WITH THE SEED: THE CARDS: each row of YtabcdodjkfknlaaGreatDoorRows.lean that lists a variable, with what it lists TIED to the program's text (the seventh form; the later family's looks); each row that meets fmt, with fmt's text TOLD by the authors' own Lean function (tested against real Go, not proved from fmt's source: count such statements apart). THE CARD IS WHAT COUNTS. Prove the row's statement (the work); the ties are given (YtabcdodjkfknlaaGreatDoorTie.lean); close each card by the builder's one call (the guide's Derived/Test/ToyasCard.lean, 'card_holds'). Laid BY PROGRAM, IN A SANDBOX (cutbox-door.mjs). By AI agents, Wed Nov 11 2026. No macro, syntax, notation, axiom, sorry.
-/
import Derived.Test.YtabcdodjkfknlaaGreatDoorRows
import GoSem.ClaimSeven
namespace Go.Proofs.YtabcdodjkfknlaaGreatDoor
namespace Rows

/-- THE TIED CARD OF 'sentrylaw21.FilesNames'. -/
def filesNamesCard : Claim7 := { stood := { row := filesNamesRow, standIns := [], harness := (true, "09d51d9fd49f6dc4058f0f7fe8a0c9d4c7ad630c39e24e492b81e10bdf70f861"), looks := true }, kinds := [], alts := [], laidByText := true, laidKinds := [.data, .data, .data, .sentinel, .sentinel], laidTests := true, laidLooks := .later }
def FilesNamesCardSaid : Prop := Claim7.holds Tryz.pinned (.plain (OpenSpec.ofChange filesNamesSpec)) filesNamesCard

/-- THE TIED CARD OF 'sentrylaw21.FilesTorn'. -/
def filesTornCard : Claim7 := { stood := { row := filesTornRow, standIns := [], harness := (true, "09d51d9fd49f6dc4058f0f7fe8a0c9d4c7ad630c39e24e492b81e10bdf70f861"), looks := true }, kinds := [], alts := [], laidByText := true, laidKinds := [.data, .data, .data, .sentinel, .sentinel], laidTests := true, laidLooks := .later }
def FilesTornCardSaid : Prop := Claim7.holds Tryz.pinned (.plain (OpenSpec.ofChange filesTornSpec)) filesTornCard

/-- THE TIED CARD OF 'sentrylaw21.FilesStarts'. -/
def filesStartsCard : Claim7 := { stood := { row := filesStartsRow, standIns := [], harness := (true, "09d51d9fd49f6dc4058f0f7fe8a0c9d4c7ad630c39e24e492b81e10bdf70f861"), looks := true }, kinds := [], alts := [], laidByText := true, laidKinds := [.data, .data, .data, .sentinel, .sentinel], laidTests := true, laidLooks := .later }
def FilesStartsCardSaid : Prop := Claim7.holds Tryz.pinned (.plain (OpenSpec.ofChange filesStartsSpec)) filesStartsCard

/-- THE TIED CARD OF 'sentrylaw21.FilesCrash'. -/
def filesCrashCard : Claim7 := { stood := { row := filesCrashRow, standIns := [], harness := (true, "09d51d9fd49f6dc4058f0f7fe8a0c9d4c7ad630c39e24e492b81e10bdf70f861"), looks := true }, kinds := [], alts := [], laidByText := true, laidKinds := [.data, .data, .data, .sentinel, .sentinel], laidTests := true, laidLooks := .later }
def FilesCrashCardSaid : Prop := Claim7.holds Tryz.pinned (.plain (OpenSpec.ofChange filesCrashSpec)) filesCrashCard

/-- THE TIED CARD OF 'sentrylaw21.FilesLoads'. -/
def filesLoadsCard : Claim7 := { stood := { row := filesLoadsRow, standIns := [], harness := (true, "09d51d9fd49f6dc4058f0f7fe8a0c9d4c7ad630c39e24e492b81e10bdf70f861"), looks := true }, kinds := [], alts := [], laidByText := true, laidKinds := [.data, .data, .data, .sentinel, .sentinel], laidTests := true, laidLooks := .later }
def FilesLoadsCardSaid : Prop := Claim7.holds Tryz.pinned (.plain (OpenSpec.ofChange filesLoadsSpec)) filesLoadsCard

/-- THE SECOND FORM's CARD OF 'sentrylaw21.FilesNames'. -/
def filesNamesUptoCard : Claim7 := { stood := { row := filesNamesUptoRow, standIns := [], harness := (true, "09d51d9fd49f6dc4058f0f7fe8a0c9d4c7ad630c39e24e492b81e10bdf70f861"), looks := true }, kinds := [], alts := [], laidByText := true, laidKinds := [.data, .data, .data, .sentinel, .sentinel], laidTests := true, laidLooks := .later }
def FilesNamesUptoCardSaid : Prop := Claim7.holds Tryz.pinned (.plain (OpenSpec.upto filesNamesSpec)) filesNamesUptoCard

/-- THE SECOND FORM's CARD OF 'sentrylaw21.FilesTorn'. -/
def filesTornUptoCard : Claim7 := { stood := { row := filesTornUptoRow, standIns := [], harness := (true, "09d51d9fd49f6dc4058f0f7fe8a0c9d4c7ad630c39e24e492b81e10bdf70f861"), looks := true }, kinds := [], alts := [], laidByText := true, laidKinds := [.data, .data, .data, .sentinel, .sentinel], laidTests := true, laidLooks := .later }
def FilesTornUptoCardSaid : Prop := Claim7.holds Tryz.pinned (.plain (OpenSpec.upto filesTornSpec)) filesTornUptoCard

/-- THE SECOND FORM's CARD OF 'sentrylaw21.FilesStarts'. -/
def filesStartsUptoCard : Claim7 := { stood := { row := filesStartsUptoRow, standIns := [], harness := (true, "09d51d9fd49f6dc4058f0f7fe8a0c9d4c7ad630c39e24e492b81e10bdf70f861"), looks := true }, kinds := [], alts := [], laidByText := true, laidKinds := [.data, .data, .data, .sentinel, .sentinel], laidTests := true, laidLooks := .later }
def FilesStartsUptoCardSaid : Prop := Claim7.holds Tryz.pinned (.plain (OpenSpec.upto filesStartsSpec)) filesStartsUptoCard

/-- THE SECOND FORM's CARD OF 'sentrylaw21.FilesCrash'. -/
def filesCrashUptoCard : Claim7 := { stood := { row := filesCrashUptoRow, standIns := [], harness := (true, "09d51d9fd49f6dc4058f0f7fe8a0c9d4c7ad630c39e24e492b81e10bdf70f861"), looks := true }, kinds := [], alts := [], laidByText := true, laidKinds := [.data, .data, .data, .sentinel, .sentinel], laidTests := true, laidLooks := .later }
def FilesCrashUptoCardSaid : Prop := Claim7.holds Tryz.pinned (.plain (OpenSpec.upto filesCrashSpec)) filesCrashUptoCard

/-- THE SECOND FORM's CARD OF 'sentrylaw21.FilesLoads'. -/
def filesLoadsUptoCard : Claim7 := { stood := { row := filesLoadsUptoRow, standIns := [], harness := (true, "09d51d9fd49f6dc4058f0f7fe8a0c9d4c7ad630c39e24e492b81e10bdf70f861"), looks := true }, kinds := [], alts := [], laidByText := true, laidKinds := [.data, .data, .data, .sentinel, .sentinel], laidTests := true, laidLooks := .later }
def FilesLoadsUptoCardSaid : Prop := Claim7.holds Tryz.pinned (.plain (OpenSpec.upto filesLoadsSpec)) filesLoadsUptoCard
end Rows
end Go.Proofs.YtabcdodjkfknlaaGreatDoor
