/-
  DERIVED. GIVEN WITH THE SEED: THE CARDS: each row of YtaikedlkkjnffaaGreatDoorRows.lean that lists a variable, with what it lists TIED to the program's text (the seventh form; the later family's looks); each row that meets fmt, with fmt's text TOLD by the authors' own Lean function (tested against real Go, not proved from fmt's source: count such statements apart). THE CARD IS WHAT COUNTS. Prove the row's statement (the work); the ties are given (YtaikedlkkjnffaaGreatDoorTie.lean); close each card by the builder's one call (the guide's Derived/Test/ToyasCard.lean, 'card_holds'). Laid BY PROGRAM, IN A SANDBOX (cutbox-door.mjs). By AI agents, Wed Nov 11 2026. No macro, syntax, notation, axiom, sorry.
-/
import Derived.Test.YtaikedlkkjnffaaGreatDoorRows
import GoSem.ClaimSeven
namespace Go.Proofs.YtaikedlkkjnffaaGreatDoor
namespace Rows

/-- THE TIED CARD OF 'sentrylaw25.FactsBook'. -/
def factsBookCard : Claim7 := { stood := { row := factsBookRow, standIns := [], harness := (true, "26f11b9b80beacaa248d29461d18f84039b6950e3fc6c64323facd76a9a1eb49"), looks := false }, kinds := [], alts := [], laidByText := true, laidKinds := [.data, .pinned], laidTests := true, laidLooks := .later }
def FactsBookCardSaid : Prop := Claim7.holds Tryz.pinned (.plain (OpenSpec.ofChange factsBookSpec)) factsBookCard

/-- THE TIED CARD OF 'sentrylaw25.FactsBoth'. -/
def factsBothCard : Claim7 := { stood := { row := factsBothRow, standIns := [], harness := (true, "26f11b9b80beacaa248d29461d18f84039b6950e3fc6c64323facd76a9a1eb49"), looks := false }, kinds := [], alts := [], laidByText := true, laidKinds := [.data, .pinned], laidTests := true, laidLooks := .later }
def FactsBothCardSaid : Prop := Claim7.holds Tryz.pinned (.plain (OpenSpec.ofChange factsBothSpec)) factsBothCard

/-- THE SECOND FORM's CARD OF 'sentrylaw25.FactsBook'. -/
def factsBookUptoCard : Claim7 := { stood := { row := factsBookUptoRow, standIns := [], harness := (true, "26f11b9b80beacaa248d29461d18f84039b6950e3fc6c64323facd76a9a1eb49"), looks := false }, kinds := [], alts := [], laidByText := true, laidKinds := [.data, .pinned], laidTests := true, laidLooks := .later }
def FactsBookUptoCardSaid : Prop := Claim7.holds Tryz.pinned (.plain (OpenSpec.upto factsBookSpec)) factsBookUptoCard

/-- THE SECOND FORM's CARD OF 'sentrylaw25.FactsBoth'. -/
def factsBothUptoCard : Claim7 := { stood := { row := factsBothUptoRow, standIns := [], harness := (true, "26f11b9b80beacaa248d29461d18f84039b6950e3fc6c64323facd76a9a1eb49"), looks := false }, kinds := [], alts := [], laidByText := true, laidKinds := [.data, .pinned], laidTests := true, laidLooks := .later }
def FactsBothUptoCardSaid : Prop := Claim7.holds Tryz.pinned (.plain (OpenSpec.upto factsBothSpec)) factsBothUptoCard
end Rows
end Go.Proofs.YtaikedlkkjnffaaGreatDoor
