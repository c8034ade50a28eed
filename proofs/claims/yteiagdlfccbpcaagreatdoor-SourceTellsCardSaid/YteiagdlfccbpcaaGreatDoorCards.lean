/-
  DERIVED. GIVEN WITH THE SEED: THE CARDS: each row of YteiagdlfccbpcaaGreatDoorRows.lean that lists a variable, with what it lists TIED to the program's text (the seventh form; the later family's looks); each row that meets fmt, with fmt's text TOLD by the authors' own Lean function (tested against real Go, not proved from fmt's source: count such statements apart). THE CARD IS WHAT COUNTS. Prove the row's statement (the work); the ties are given (YteiagdlfccbpcaaGreatDoorTie.lean); close each card by the builder's one call (the guide's Derived/Test/ToyasCard.lean, 'card_holds'). Laid BY PROGRAM, IN A SANDBOX (cutbox-door.mjs). By AI agents, Wed Nov 11 2026. No macro, syntax, notation, axiom, sorry.
-/
import Derived.Test.YteiagdlfccbpcaaGreatDoorRows
import GoSem.ClaimSeven
namespace Go.Proofs.YteiagdlfccbpcaaGreatDoor
namespace Rows

/-- THE TIED CARD OF 'pantographlaw10.SourcePages'. -/
def sourcePagesCard : Claim7 := { stood := { row := sourcePagesRow, standIns := [], harness := (true, "3fc500998e8290c495f35db0f152216f3cea4a588f20684ef04c741cc2605672"), looks := false }, kinds := [], alts := [], laidByText := true, laidKinds := [.data, .pinned], laidTests := true, laidLooks := .later }
def SourcePagesCardSaid : Prop := Claim7.holds Tryz.pinned (.plain (OpenSpec.ofChange sourcePagesSpec)) sourcePagesCard

/-- THE TIED CARD OF 'pantographlaw10.SourceUndoes'. -/
def sourceUndoesCard : Claim7 := { stood := { row := sourceUndoesRow, standIns := [], harness := (true, "3fc500998e8290c495f35db0f152216f3cea4a588f20684ef04c741cc2605672"), looks := false }, kinds := [], alts := [], laidByText := true, laidKinds := [.data, .pinned], laidTests := true, laidLooks := .later }
def SourceUndoesCardSaid : Prop := Claim7.holds Tryz.pinned (.plain (OpenSpec.ofChange sourceUndoesSpec)) sourceUndoesCard

/-- THE TIED CARD OF 'pantographlaw10.SourceCounts'. -/
def sourceCountsCard : Claim7 := { stood := { row := sourceCountsRow, standIns := [], harness := (true, "3fc500998e8290c495f35db0f152216f3cea4a588f20684ef04c741cc2605672"), looks := false }, kinds := [], alts := [], laidByText := true, laidKinds := [.data, .pinned], laidTests := true, laidLooks := .later }
def SourceCountsCardSaid : Prop := Claim7.holds Tryz.pinned (.plain (OpenSpec.ofChange sourceCountsSpec)) sourceCountsCard

/-- THE TIED CARD OF 'pantographlaw10.SourcePlays'. -/
def sourcePlaysCard : Claim7 := { stood := { row := sourcePlaysRow, standIns := [], harness := (true, "3fc500998e8290c495f35db0f152216f3cea4a588f20684ef04c741cc2605672"), looks := false }, kinds := [], alts := [], laidByText := true, laidKinds := [.data, .pinned], laidTests := true, laidLooks := .later }
def SourcePlaysCardSaid : Prop := Claim7.holds Tryz.pinned (.plain (OpenSpec.ofChange sourcePlaysSpec)) sourcePlaysCard

/-- THE TIED CARD OF 'pantographlaw10.SourceTells'. -/
def sourceTellsCard : Claim7 := { stood := { row := sourceTellsRow, standIns := [], harness := (true, "3fc500998e8290c495f35db0f152216f3cea4a588f20684ef04c741cc2605672"), looks := false }, kinds := [], alts := [], laidByText := true, laidKinds := [.data, .pinned], laidTests := true, laidLooks := .later }
def SourceTellsCardSaid : Prop := Claim7.holds Tryz.pinned (.plain (OpenSpec.ofChange sourceTellsSpec)) sourceTellsCard

/-- THE TIED CARD OF 'pantographlaw10.SourceOwns'. -/
def sourceOwnsCard : Claim7 := { stood := { row := sourceOwnsRow, standIns := [], harness := (true, "3fc500998e8290c495f35db0f152216f3cea4a588f20684ef04c741cc2605672"), looks := false }, kinds := [], alts := [], laidByText := true, laidKinds := [.data, .pinned], laidTests := true, laidLooks := .later }
def SourceOwnsCardSaid : Prop := Claim7.holds Tryz.pinned (.plain (OpenSpec.ofChange sourceOwnsSpec)) sourceOwnsCard

/-- THE SECOND FORM's CARD OF 'pantographlaw10.SourcePages'. -/
def sourcePagesUptoCard : Claim7 := { stood := { row := sourcePagesUptoRow, standIns := [], harness := (true, "3fc500998e8290c495f35db0f152216f3cea4a588f20684ef04c741cc2605672"), looks := false }, kinds := [], alts := [], laidByText := true, laidKinds := [.data, .pinned], laidTests := true, laidLooks := .later }
def SourcePagesUptoCardSaid : Prop := Claim7.holds Tryz.pinned (.plain (OpenSpec.upto sourcePagesSpec)) sourcePagesUptoCard

/-- THE SECOND FORM's CARD OF 'pantographlaw10.SourceUndoes'. -/
def sourceUndoesUptoCard : Claim7 := { stood := { row := sourceUndoesUptoRow, standIns := [], harness := (true, "3fc500998e8290c495f35db0f152216f3cea4a588f20684ef04c741cc2605672"), looks := false }, kinds := [], alts := [], laidByText := true, laidKinds := [.data, .pinned], laidTests := true, laidLooks := .later }
def SourceUndoesUptoCardSaid : Prop := Claim7.holds Tryz.pinned (.plain (OpenSpec.upto sourceUndoesSpec)) sourceUndoesUptoCard

/-- THE SECOND FORM's CARD OF 'pantographlaw10.SourceCounts'. -/
def sourceCountsUptoCard : Claim7 := { stood := { row := sourceCountsUptoRow, standIns := [], harness := (true, "3fc500998e8290c495f35db0f152216f3cea4a588f20684ef04c741cc2605672"), looks := false }, kinds := [], alts := [], laidByText := true, laidKinds := [.data, .pinned], laidTests := true, laidLooks := .later }
def SourceCountsUptoCardSaid : Prop := Claim7.holds Tryz.pinned (.plain (OpenSpec.upto sourceCountsSpec)) sourceCountsUptoCard

/-- THE SECOND FORM's CARD OF 'pantographlaw10.SourcePlays'. -/
def sourcePlaysUptoCard : Claim7 := { stood := { row := sourcePlaysUptoRow, standIns := [], harness := (true, "3fc500998e8290c495f35db0f152216f3cea4a588f20684ef04c741cc2605672"), looks := false }, kinds := [], alts := [], laidByText := true, laidKinds := [.data, .pinned], laidTests := true, laidLooks := .later }
def SourcePlaysUptoCardSaid : Prop := Claim7.holds Tryz.pinned (.plain (OpenSpec.upto sourcePlaysSpec)) sourcePlaysUptoCard

/-- THE SECOND FORM's CARD OF 'pantographlaw10.SourceTells'. -/
def sourceTellsUptoCard : Claim7 := { stood := { row := sourceTellsUptoRow, standIns := [], harness := (true, "3fc500998e8290c495f35db0f152216f3cea4a588f20684ef04c741cc2605672"), looks := false }, kinds := [], alts := [], laidByText := true, laidKinds := [.data, .pinned], laidTests := true, laidLooks := .later }
def SourceTellsUptoCardSaid : Prop := Claim7.holds Tryz.pinned (.plain (OpenSpec.upto sourceTellsSpec)) sourceTellsUptoCard

/-- THE SECOND FORM's CARD OF 'pantographlaw10.SourceOwns'. -/
def sourceOwnsUptoCard : Claim7 := { stood := { row := sourceOwnsUptoRow, standIns := [], harness := (true, "3fc500998e8290c495f35db0f152216f3cea4a588f20684ef04c741cc2605672"), looks := false }, kinds := [], alts := [], laidByText := true, laidKinds := [.data, .pinned], laidTests := true, laidLooks := .later }
def SourceOwnsUptoCardSaid : Prop := Claim7.holds Tryz.pinned (.plain (OpenSpec.upto sourceOwnsSpec)) sourceOwnsUptoCard
end Rows
end Go.Proofs.YteiagdlfccbpcaaGreatDoor
