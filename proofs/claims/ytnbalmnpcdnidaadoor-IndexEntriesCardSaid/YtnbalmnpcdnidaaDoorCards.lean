/-
  DERIVED. GIVEN WITH THE SEED: THE CARDS: each row of YtnbalmnpcdnidaaDoorRows.lean that lists a variable, with what it lists TIED to the program's text (the seventh form; the later family's looks); each row that meets fmt, with fmt's text TOLD by the authors' own Lean function (tested against real Go, not proved from fmt's source: count such statements apart). THE CARD IS WHAT COUNTS. Prove the row's statement (the work); the ties are given (YtnbalmnpcdnidaaDoorTie.lean); close each card by the builder's one call (the guide's Derived/Test/ToyasCard.lean, 'card_holds'). Laid BY PROGRAM, IN A SANDBOX (cutbox-door.mjs). By AI agents, Wed Nov 11 2026. No macro, syntax, notation, axiom, sorry.
-/
import Derived.Test.YtnbalmnpcdnidaaDoorRows
import GoSem.ClaimSeven
namespace Go.Proofs.YtnbalmnpcdnidaaDoor
namespace Rows

/-- THE TIED CARD OF 'sentrylaw04.TupleReads'. -/
def tupleReadsCard : Claim7 := { stood := { row := tupleReadsRow, standIns := [], harness := (true, "7295bb4018780105298d104f1433de998cdb5d674a6bba227cd99cac1c56a609"), looks := false }, kinds := [], alts := [], laidByText := true, laidKinds := [.data, .pinned], laidTests := true, laidLooks := .later }
def TupleReadsCardSaid : Prop := Claim7.holds Tryd.pinned (.plain (OpenSpec.ofChange tupleReadsSpec)) tupleReadsCard

/-- THE TIED CARD OF 'sentrylaw24.IndexReads'. -/
def indexReadsCard : Claim7 := { stood := { row := indexReadsRow, standIns := [], harness := (true, "7295bb4018780105298d104f1433de998cdb5d674a6bba227cd99cac1c56a609"), looks := false }, kinds := [], alts := [], laidByText := true, laidKinds := [.data, .pinned], laidTests := true, laidLooks := .later }
def IndexReadsCardSaid : Prop := Claim7.holds Tryd.pinned (.plain (OpenSpec.ofChange indexReadsSpec)) indexReadsCard

/-- THE TIED CARD OF 'sentrylaw04.TupleTells'. -/
def tupleTellsCard : Claim7 := { stood := { row := tupleTellsRow, standIns := [], harness := (true, "7295bb4018780105298d104f1433de998cdb5d674a6bba227cd99cac1c56a609"), looks := false }, kinds := [], alts := [], laidByText := true, laidKinds := [.data, .pinned], laidTests := true, laidLooks := .later }
def TupleTellsCardSaid : Prop := Claim7.holds Tryd.pinned (.plain (OpenSpec.ofChange tupleTellsSpec)) tupleTellsCard

/-- THE TIED CARD OF 'sentrylaw24.IndexKeys'. -/
def indexKeysCard : Claim7 := { stood := { row := indexKeysRow, standIns := [], harness := (true, "7295bb4018780105298d104f1433de998cdb5d674a6bba227cd99cac1c56a609"), looks := false }, kinds := [], alts := [], laidByText := true, laidKinds := [.data, .pinned], laidTests := true, laidLooks := .later }
def IndexKeysCardSaid : Prop := Claim7.holds Tryd.pinned (.plain (OpenSpec.ofChange indexKeysSpec)) indexKeysCard

/-- THE TIED CARD OF 'sentrylaw24.IndexRanges'. -/
def indexRangesCard : Claim7 := { stood := { row := indexRangesRow, standIns := [], harness := (true, "7295bb4018780105298d104f1433de998cdb5d674a6bba227cd99cac1c56a609"), looks := false }, kinds := [], alts := [], laidByText := true, laidKinds := [.data, .pinned], laidTests := true, laidLooks := .later }
def IndexRangesCardSaid : Prop := Claim7.holds Tryd.pinned (.plain (OpenSpec.ofChange indexRangesSpec)) indexRangesCard

/-- THE TIED CARD OF 'sentrylaw24.IndexEntries'. -/
def indexEntriesCard : Claim7 := { stood := { row := indexEntriesRow, standIns := [], harness := (true, "7295bb4018780105298d104f1433de998cdb5d674a6bba227cd99cac1c56a609"), looks := false }, kinds := [], alts := [], laidByText := true, laidKinds := [.data, .pinned], laidTests := true, laidLooks := .later }
def IndexEntriesCardSaid : Prop := Claim7.holds Tryd.pinned (.plain (OpenSpec.ofChange indexEntriesSpec)) indexEntriesCard

/-- THE SECOND FORM's CARD OF 'sentrylaw04.TupleReads'. -/
def tupleReadsUptoCard : Claim7 := { stood := { row := tupleReadsUptoRow, standIns := [], harness := (true, "7295bb4018780105298d104f1433de998cdb5d674a6bba227cd99cac1c56a609"), looks := false }, kinds := [], alts := [], laidByText := true, laidKinds := [.data, .pinned], laidTests := true, laidLooks := .later }
def TupleReadsUptoCardSaid : Prop := Claim7.holds Tryd.pinned (.plain (OpenSpec.upto tupleReadsSpec)) tupleReadsUptoCard

/-- THE SECOND FORM's CARD OF 'sentrylaw24.IndexReads'. -/
def indexReadsUptoCard : Claim7 := { stood := { row := indexReadsUptoRow, standIns := [], harness := (true, "7295bb4018780105298d104f1433de998cdb5d674a6bba227cd99cac1c56a609"), looks := false }, kinds := [], alts := [], laidByText := true, laidKinds := [.data, .pinned], laidTests := true, laidLooks := .later }
def IndexReadsUptoCardSaid : Prop := Claim7.holds Tryd.pinned (.plain (OpenSpec.upto indexReadsSpec)) indexReadsUptoCard

/-- THE SECOND FORM's CARD OF 'sentrylaw04.TupleTells'. -/
def tupleTellsUptoCard : Claim7 := { stood := { row := tupleTellsUptoRow, standIns := [], harness := (true, "7295bb4018780105298d104f1433de998cdb5d674a6bba227cd99cac1c56a609"), looks := false }, kinds := [], alts := [], laidByText := true, laidKinds := [.data, .pinned], laidTests := true, laidLooks := .later }
def TupleTellsUptoCardSaid : Prop := Claim7.holds Tryd.pinned (.plain (OpenSpec.upto tupleTellsSpec)) tupleTellsUptoCard

/-- THE SECOND FORM's CARD OF 'sentrylaw24.IndexKeys'. -/
def indexKeysUptoCard : Claim7 := { stood := { row := indexKeysUptoRow, standIns := [], harness := (true, "7295bb4018780105298d104f1433de998cdb5d674a6bba227cd99cac1c56a609"), looks := false }, kinds := [], alts := [], laidByText := true, laidKinds := [.data, .pinned], laidTests := true, laidLooks := .later }
def IndexKeysUptoCardSaid : Prop := Claim7.holds Tryd.pinned (.plain (OpenSpec.upto indexKeysSpec)) indexKeysUptoCard

/-- THE SECOND FORM's CARD OF 'sentrylaw24.IndexRanges'. -/
def indexRangesUptoCard : Claim7 := { stood := { row := indexRangesUptoRow, standIns := [], harness := (true, "7295bb4018780105298d104f1433de998cdb5d674a6bba227cd99cac1c56a609"), looks := false }, kinds := [], alts := [], laidByText := true, laidKinds := [.data, .pinned], laidTests := true, laidLooks := .later }
def IndexRangesUptoCardSaid : Prop := Claim7.holds Tryd.pinned (.plain (OpenSpec.upto indexRangesSpec)) indexRangesUptoCard

/-- THE SECOND FORM's CARD OF 'sentrylaw24.IndexEntries'. -/
def indexEntriesUptoCard : Claim7 := { stood := { row := indexEntriesUptoRow, standIns := [], harness := (true, "7295bb4018780105298d104f1433de998cdb5d674a6bba227cd99cac1c56a609"), looks := false }, kinds := [], alts := [], laidByText := true, laidKinds := [.data, .pinned], laidTests := true, laidLooks := .later }
def IndexEntriesUptoCardSaid : Prop := Claim7.holds Tryd.pinned (.plain (OpenSpec.upto indexEntriesSpec)) indexEntriesUptoCard
end Rows
end Go.Proofs.YtnbalmnpcdnidaaDoor
