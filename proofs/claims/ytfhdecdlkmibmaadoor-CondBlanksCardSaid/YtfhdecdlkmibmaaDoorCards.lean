/-
  DERIVED. GIVEN WITH THE SEED: THE CARDS: each row of YtfhdecdlkmibmaaDoorRows.lean that lists a variable, with what it lists TIED to the program's text (the seventh form; the later family's looks); each row that meets fmt, with fmt's text TOLD by the authors' own Lean function (tested against real Go, not proved from fmt's source: count such statements apart). THE CARD IS WHAT COUNTS. Prove the row's statement (the work); the ties are given (YtfhdecdlkmibmaaDoorTie.lean); close each card by the builder's one call (the guide's Derived/Test/ToyasCard.lean, 'card_holds'). Laid BY PROGRAM, IN A SANDBOX (cutbox-door.mjs). By AI agents, Wed Nov 11 2026. No macro, syntax, notation, axiom, sorry.
-/
import Derived.Test.YtfhdecdlkmibmaaDoorRows
import GoSem.ClaimSeven
namespace Go.Proofs.YtfhdecdlkmibmaaDoor
namespace Rows

/-- THE TIED CARD OF 'sentrylaw08.CondAgain'. -/
def condAgainCard : Claim7 := { stood := { row := condAgainRow, standIns := [], harness := (true, "4cb7716df51dc1c95db516672b2d993d6d17a238b400fc058762997ab6b43848"), looks := true }, kinds := [], alts := [], laidByText := true, laidKinds := [.data, .data, .data, .sentinel, .sentinel], laidTests := true, laidLooks := .later }
def CondAgainCardSaid : Prop := Claim7.holds Tryd.pinned (.plain (OpenSpec.ofChange condAgainSpec)) condAgainCard

/-- THE TIED CARD OF 'sentrylaw08.CondBlanks'. -/
def condBlanksCard : Claim7 := { stood := { row := condBlanksRow, standIns := [], harness := (true, "4cb7716df51dc1c95db516672b2d993d6d17a238b400fc058762997ab6b43848"), looks := true }, kinds := [], alts := [], laidByText := true, laidKinds := [.data, .data, .data, .sentinel, .sentinel], laidTests := true, laidLooks := .later }
def CondBlanksCardSaid : Prop := Claim7.holds Tryd.pinned (.plain (OpenSpec.ofChange condBlanksSpec)) condBlanksCard

/-- THE TIED CARD OF 'sentrylaw08.CondDeep'. -/
def condDeepCard : Claim7 := { stood := { row := condDeepRow, standIns := [], harness := (true, "4cb7716df51dc1c95db516672b2d993d6d17a238b400fc058762997ab6b43848"), looks := true }, kinds := [], alts := [], laidByText := true, laidKinds := [.data, .data, .data, .sentinel, .sentinel], laidTests := true, laidLooks := .later }
def CondDeepCardSaid : Prop := Claim7.holds Tryd.pinned (.plain (OpenSpec.ofChange condDeepSpec)) condDeepCard

/-- THE SECOND FORM's CARD OF 'sentrylaw08.CondAgain'. -/
def condAgainUptoCard : Claim7 := { stood := { row := condAgainUptoRow, standIns := [], harness := (true, "4cb7716df51dc1c95db516672b2d993d6d17a238b400fc058762997ab6b43848"), looks := true }, kinds := [], alts := [], laidByText := true, laidKinds := [.data, .data, .data, .sentinel, .sentinel], laidTests := true, laidLooks := .later }
def CondAgainUptoCardSaid : Prop := Claim7.holds Tryd.pinned (.plain (OpenSpec.upto condAgainSpec)) condAgainUptoCard

/-- THE SECOND FORM's CARD OF 'sentrylaw08.CondBlanks'. -/
def condBlanksUptoCard : Claim7 := { stood := { row := condBlanksUptoRow, standIns := [], harness := (true, "4cb7716df51dc1c95db516672b2d993d6d17a238b400fc058762997ab6b43848"), looks := true }, kinds := [], alts := [], laidByText := true, laidKinds := [.data, .data, .data, .sentinel, .sentinel], laidTests := true, laidLooks := .later }
def CondBlanksUptoCardSaid : Prop := Claim7.holds Tryd.pinned (.plain (OpenSpec.upto condBlanksSpec)) condBlanksUptoCard

/-- THE SECOND FORM's CARD OF 'sentrylaw08.CondDeep'. -/
def condDeepUptoCard : Claim7 := { stood := { row := condDeepUptoRow, standIns := [], harness := (true, "4cb7716df51dc1c95db516672b2d993d6d17a238b400fc058762997ab6b43848"), looks := true }, kinds := [], alts := [], laidByText := true, laidKinds := [.data, .data, .data, .sentinel, .sentinel], laidTests := true, laidLooks := .later }
def CondDeepUptoCardSaid : Prop := Claim7.holds Tryd.pinned (.plain (OpenSpec.upto condDeepSpec)) condDeepUptoCard
end Rows
end Go.Proofs.YtfhdecdlkmibmaaDoor
