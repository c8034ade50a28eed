/-
  DERIVED. GIVEN WITH THE SEED: THE CARDS: each row of YtokifgdmddnpoaaGreatDoorRows.lean that lists a variable, with what it lists TIED to the program's text (the seventh form; the later family's looks); each row that meets fmt, with fmt's text TOLD by the authors' own Lean function (tested against real Go, not proved from fmt's source: count such statements apart). THE CARD IS WHAT COUNTS. Prove the row's statement (the work); the ties are given (YtokifgdmddnpoaaGreatDoorTie.lean); close each card by the builder's one call (the guide's Derived/Test/ToyasCard.lean, 'card_holds'). Laid BY PROGRAM, IN A SANDBOX (cutbox-door.mjs). By AI agents, Wed Nov 11 2026. No macro, syntax, notation, axiom, sorry.
-/
import Derived.Test.YtokifgdmddnpoaaGreatDoorRows
import GoSem.ClaimSeven
namespace Go.Proofs.YtokifgdmddnpoaaGreatDoor
namespace Rows

/-- THE TIED CARD OF 'pantographlaw06.EventWrites'. -/
def eventWritesCard : Claim7 := { stood := { row := eventWritesRow, standIns := [], harness := (true, "55ce020fe52354cb15691c01b44378513e1c79fa71112d8e3c30a4ada9f38e73"), looks := false }, kinds := [], alts := [], laidByText := true, laidKinds := [.data, .pinned], laidTests := true, laidLooks := .later }
def EventWritesCardSaid : Prop := Claim7.holds Tryz.pinned (.plain (OpenSpec.ofChange eventWritesSpec)) eventWritesCard

/-- THE TIED CARD OF 'pantographlaw06.EventReads'. -/
def eventReadsCard : Claim7 := { stood := { row := eventReadsRow, standIns := [], harness := (true, "55ce020fe52354cb15691c01b44378513e1c79fa71112d8e3c30a4ada9f38e73"), looks := false }, kinds := [], alts := [], laidByText := true, laidKinds := [.data, .pinned], laidTests := true, laidLooks := .later }
def EventReadsCardSaid : Prop := Claim7.holds Tryz.pinned (.plain (OpenSpec.ofChange eventReadsSpec)) eventReadsCard

/-- THE SECOND FORM's CARD OF 'pantographlaw06.EventWrites'. -/
def eventWritesUptoCard : Claim7 := { stood := { row := eventWritesUptoRow, standIns := [], harness := (true, "55ce020fe52354cb15691c01b44378513e1c79fa71112d8e3c30a4ada9f38e73"), looks := false }, kinds := [], alts := [], laidByText := true, laidKinds := [.data, .pinned], laidTests := true, laidLooks := .later }
def EventWritesUptoCardSaid : Prop := Claim7.holds Tryz.pinned (.plain (OpenSpec.upto eventWritesSpec)) eventWritesUptoCard

/-- THE SECOND FORM's CARD OF 'pantographlaw06.EventReads'. -/
def eventReadsUptoCard : Claim7 := { stood := { row := eventReadsUptoRow, standIns := [], harness := (true, "55ce020fe52354cb15691c01b44378513e1c79fa71112d8e3c30a4ada9f38e73"), looks := false }, kinds := [], alts := [], laidByText := true, laidKinds := [.data, .pinned], laidTests := true, laidLooks := .later }
def EventReadsUptoCardSaid : Prop := Claim7.holds Tryz.pinned (.plain (OpenSpec.upto eventReadsSpec)) eventReadsUptoCard
end Rows
end Go.Proofs.YtokifgdmddnpoaaGreatDoor
