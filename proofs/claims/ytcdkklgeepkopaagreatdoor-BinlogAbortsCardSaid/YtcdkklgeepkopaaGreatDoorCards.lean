/-
  DERIVED. GIVEN WITH THE SEED: THE CARDS: each row of YtcdkklgeepkopaaGreatDoorRows.lean that lists a variable, with what it lists TIED to the program's text (the seventh form; the later family's looks); each row that meets fmt, with fmt's text TOLD by the authors' own Lean function (tested against real Go, not proved from fmt's source: count such statements apart). THE CARD IS WHAT COUNTS. Prove the row's statement (the work); the ties are given (YtcdkklgeepkopaaGreatDoorTie.lean); close each card by the builder's one call (the guide's Derived/Test/ToyasCard.lean, 'card_holds'). Laid BY PROGRAM, IN A SANDBOX (cutbox-door.mjs). By AI agents, Wed Nov 11 2026. No macro, syntax, notation, axiom, sorry.
-/
import Derived.Test.YtcdkklgeepkopaaGreatDoorRows
import GoSem.ClaimSeven
namespace Go.Proofs.YtcdkklgeepkopaaGreatDoor
namespace Rows

/-- THE TIED CARD OF 'pantographlaw07.BinlogFrames'. -/
def binlogFramesCard : Claim7 := { stood := { row := binlogFramesRow, standIns := [], harness := (true, "24f6c96608fd31e935fdb432facc3535b9385cffda6d2c2a80675d5d737187ea"), looks := false }, kinds := [], alts := [], laidByText := true, laidKinds := [.data, .pinned], laidTests := true, laidLooks := .later }
def BinlogFramesCardSaid : Prop := Claim7.holds Tryz.pinned (.plain (OpenSpec.ofChange binlogFramesSpec)) binlogFramesCard

/-- THE TIED CARD OF 'pantographlaw07.BinlogScans'. -/
def binlogScansCard : Claim7 := { stood := { row := binlogScansRow, standIns := [], harness := (true, "24f6c96608fd31e935fdb432facc3535b9385cffda6d2c2a80675d5d737187ea"), looks := false }, kinds := [], alts := [], laidByText := true, laidKinds := [.data, .pinned], laidTests := true, laidLooks := .later }
def BinlogScansCardSaid : Prop := Claim7.holds Tryz.pinned (.plain (OpenSpec.ofChange binlogScansSpec)) binlogScansCard

/-- THE TIED CARD OF 'pantographlaw07.BinlogEvents'. -/
def binlogEventsCard : Claim7 := { stood := { row := binlogEventsRow, standIns := [], harness := (true, "24f6c96608fd31e935fdb432facc3535b9385cffda6d2c2a80675d5d737187ea"), looks := false }, kinds := [], alts := [], laidByText := true, laidKinds := [.data, .pinned], laidTests := true, laidLooks := .later }
def BinlogEventsCardSaid : Prop := Claim7.holds Tryz.pinned (.plain (OpenSpec.ofChange binlogEventsSpec)) binlogEventsCard

/-- THE TIED CARD OF 'pantographlaw07.BinlogGoes'. -/
def binlogGoesCard : Claim7 := { stood := { row := binlogGoesRow, standIns := [], harness := (true, "24f6c96608fd31e935fdb432facc3535b9385cffda6d2c2a80675d5d737187ea"), looks := false }, kinds := [], alts := [], laidByText := true, laidKinds := [.data, .pinned], laidTests := true, laidLooks := .later }
def BinlogGoesCardSaid : Prop := Claim7.holds Tryz.pinned (.plain (OpenSpec.ofChange binlogGoesSpec)) binlogGoesCard

/-- THE TIED CARD OF 'pantographlaw07.BinlogBursts'. -/
def binlogBurstsCard : Claim7 := { stood := { row := binlogBurstsRow, standIns := [], harness := (true, "24f6c96608fd31e935fdb432facc3535b9385cffda6d2c2a80675d5d737187ea"), looks := false }, kinds := [], alts := [], laidByText := true, laidKinds := [.data, .pinned], laidTests := true, laidLooks := .later }
def BinlogBurstsCardSaid : Prop := Claim7.holds Tryz.pinned (.plain (OpenSpec.ofChange binlogBurstsSpec)) binlogBurstsCard

/-- THE TIED CARD OF 'pantographlaw07.BinlogAborts'. -/
def binlogAbortsCard : Claim7 := { stood := { row := binlogAbortsRow, standIns := [], harness := (true, "24f6c96608fd31e935fdb432facc3535b9385cffda6d2c2a80675d5d737187ea"), looks := false }, kinds := [], alts := [], laidByText := true, laidKinds := [.data, .pinned], laidTests := true, laidLooks := .later }
def BinlogAbortsCardSaid : Prop := Claim7.holds Tryz.pinned (.plain (OpenSpec.ofChange binlogAbortsSpec)) binlogAbortsCard

/-- THE TIED CARD OF 'pantographlaw07.BinlogMarks'. -/
def binlogMarksCard : Claim7 := { stood := { row := binlogMarksRow, standIns := [], harness := (true, "24f6c96608fd31e935fdb432facc3535b9385cffda6d2c2a80675d5d737187ea"), looks := false }, kinds := [], alts := [], laidByText := true, laidKinds := [.data, .pinned], laidTests := true, laidLooks := .later }
def BinlogMarksCardSaid : Prop := Claim7.holds Tryz.pinned (.plain (OpenSpec.ofChange binlogMarksSpec)) binlogMarksCard

/-- THE SECOND FORM's CARD OF 'pantographlaw07.BinlogFrames'. -/
def binlogFramesUptoCard : Claim7 := { stood := { row := binlogFramesUptoRow, standIns := [], harness := (true, "24f6c96608fd31e935fdb432facc3535b9385cffda6d2c2a80675d5d737187ea"), looks := false }, kinds := [], alts := [], laidByText := true, laidKinds := [.data, .pinned], laidTests := true, laidLooks := .later }
def BinlogFramesUptoCardSaid : Prop := Claim7.holds Tryz.pinned (.plain (OpenSpec.upto binlogFramesSpec)) binlogFramesUptoCard

/-- THE SECOND FORM's CARD OF 'pantographlaw07.BinlogScans'. -/
def binlogScansUptoCard : Claim7 := { stood := { row := binlogScansUptoRow, standIns := [], harness := (true, "24f6c96608fd31e935fdb432facc3535b9385cffda6d2c2a80675d5d737187ea"), looks := false }, kinds := [], alts := [], laidByText := true, laidKinds := [.data, .pinned], laidTests := true, laidLooks := .later }
def BinlogScansUptoCardSaid : Prop := Claim7.holds Tryz.pinned (.plain (OpenSpec.upto binlogScansSpec)) binlogScansUptoCard

/-- THE SECOND FORM's CARD OF 'pantographlaw07.BinlogEvents'. -/
def binlogEventsUptoCard : Claim7 := { stood := { row := binlogEventsUptoRow, standIns := [], harness := (true, "24f6c96608fd31e935fdb432facc3535b9385cffda6d2c2a80675d5d737187ea"), looks := false }, kinds := [], alts := [], laidByText := true, laidKinds := [.data, .pinned], laidTests := true, laidLooks := .later }
def BinlogEventsUptoCardSaid : Prop := Claim7.holds Tryz.pinned (.plain (OpenSpec.upto binlogEventsSpec)) binlogEventsUptoCard

/-- THE SECOND FORM's CARD OF 'pantographlaw07.BinlogGoes'. -/
def binlogGoesUptoCard : Claim7 := { stood := { row := binlogGoesUptoRow, standIns := [], harness := (true, "24f6c96608fd31e935fdb432facc3535b9385cffda6d2c2a80675d5d737187ea"), looks := false }, kinds := [], alts := [], laidByText := true, laidKinds := [.data, .pinned], laidTests := true, laidLooks := .later }
def BinlogGoesUptoCardSaid : Prop := Claim7.holds Tryz.pinned (.plain (OpenSpec.upto binlogGoesSpec)) binlogGoesUptoCard

/-- THE SECOND FORM's CARD OF 'pantographlaw07.BinlogBursts'. -/
def binlogBurstsUptoCard : Claim7 := { stood := { row := binlogBurstsUptoRow, standIns := [], harness := (true, "24f6c96608fd31e935fdb432facc3535b9385cffda6d2c2a80675d5d737187ea"), looks := false }, kinds := [], alts := [], laidByText := true, laidKinds := [.data, .pinned], laidTests := true, laidLooks := .later }
def BinlogBurstsUptoCardSaid : Prop := Claim7.holds Tryz.pinned (.plain (OpenSpec.upto binlogBurstsSpec)) binlogBurstsUptoCard

/-- THE SECOND FORM's CARD OF 'pantographlaw07.BinlogAborts'. -/
def binlogAbortsUptoCard : Claim7 := { stood := { row := binlogAbortsUptoRow, standIns := [], harness := (true, "24f6c96608fd31e935fdb432facc3535b9385cffda6d2c2a80675d5d737187ea"), looks := false }, kinds := [], alts := [], laidByText := true, laidKinds := [.data, .pinned], laidTests := true, laidLooks := .later }
def BinlogAbortsUptoCardSaid : Prop := Claim7.holds Tryz.pinned (.plain (OpenSpec.upto binlogAbortsSpec)) binlogAbortsUptoCard

/-- THE SECOND FORM's CARD OF 'pantographlaw07.BinlogMarks'. -/
def binlogMarksUptoCard : Claim7 := { stood := { row := binlogMarksUptoRow, standIns := [], harness := (true, "24f6c96608fd31e935fdb432facc3535b9385cffda6d2c2a80675d5d737187ea"), looks := false }, kinds := [], alts := [], laidByText := true, laidKinds := [.data, .pinned], laidTests := true, laidLooks := .later }
def BinlogMarksUptoCardSaid : Prop := Claim7.holds Tryz.pinned (.plain (OpenSpec.upto binlogMarksSpec)) binlogMarksUptoCard
end Rows
end Go.Proofs.YtcdkklgeepkopaaGreatDoor
