/-
  DERIVED. GIVEN WITH THE SEED: THE CARDS: each row of YtokifgdmddnpoaaDoorRows.lean that lists a variable, with what it lists TIED to the program's text (the seventh form; the later family's looks); each row that meets fmt, with fmt's text TOLD by the authors' own Lean function (tested against real Go, not proved from fmt's source: count such statements apart). THE CARD IS WHAT COUNTS. Prove the row's statement (the work); the ties are given (YtokifgdmddnpoaaDoorTie.lean); close each card by the builder's one call (the guide's Derived/Test/ToyasCard.lean, 'card_holds'). Laid BY PROGRAM, IN A SANDBOX (cutbox-door.mjs). By AI agents, Wed Nov 11 2026. No macro, syntax, notation, axiom, sorry.
-/
import Derived.Test.YtokifgdmddnpoaaDoorRows
import GoSem.ClaimSeven
namespace Go.Proofs.YtokifgdmddnpoaaDoor
namespace Rows

/-- THE TIED CARD OF 'pantographlaw06.EventTables'. -/
def eventTablesCard : Claim7 := { stood := { row := eventTablesRow, standIns := [], harness := (true, "6e8017369c4176848aeab539c71ed2982428a57eec9fb1a9042248def6ab50de"), looks := false }, kinds := [], alts := [], laidByText := true, laidKinds := [.data, .pinned], laidTests := true, laidLooks := .later }
def EventTablesCardSaid : Prop := Claim7.holds Tryd.pinned (.plain (OpenSpec.ofChange eventTablesSpec)) eventTablesCard

/-- THE TIED CARD OF 'pantographlaw06.EventMay'. -/
def eventMayCard : Claim7 := { stood := { row := eventMayRow, standIns := [], harness := (true, "6e8017369c4176848aeab539c71ed2982428a57eec9fb1a9042248def6ab50de"), looks := false }, kinds := [], alts := [], laidByText := true, laidKinds := [.data, .pinned], laidTests := true, laidLooks := .later }
def EventMayCardSaid : Prop := Claim7.holds Tryd.pinned (.plain (OpenSpec.ofChange eventMaySpec)) eventMayCard

/-- THE TIED CARD OF 'pantographlaw06.EventSame'. -/
def eventSameCard : Claim7 := { stood := { row := eventSameRow, standIns := [], harness := (true, "6e8017369c4176848aeab539c71ed2982428a57eec9fb1a9042248def6ab50de"), looks := false }, kinds := [], alts := [], laidByText := true, laidKinds := [.data, .pinned], laidTests := true, laidLooks := .later }
def EventSameCardSaid : Prop := Claim7.holds Tryd.pinned (.plain (OpenSpec.ofChange eventSameSpec)) eventSameCard

/-- THE TIED CARD OF 'pantographlaw06.EventFollows'. -/
def eventFollowsCard : Claim7 := { stood := { row := eventFollowsRow, standIns := [], harness := (true, "6e8017369c4176848aeab539c71ed2982428a57eec9fb1a9042248def6ab50de"), looks := false }, kinds := [], alts := [], laidByText := true, laidKinds := [.data, .pinned], laidTests := true, laidLooks := .later }
def EventFollowsCardSaid : Prop := Claim7.holds Tryd.pinned (.plain (OpenSpec.ofChange eventFollowsSpec)) eventFollowsCard

/-- THE TIED CARD OF 'pantographlaw06.EventDrops'. -/
def eventDropsCard : Claim7 := { stood := { row := eventDropsRow, standIns := [], harness := (true, "6e8017369c4176848aeab539c71ed2982428a57eec9fb1a9042248def6ab50de"), looks := false }, kinds := [], alts := [], laidByText := true, laidKinds := [.data, .pinned], laidTests := true, laidLooks := .later }
def EventDropsCardSaid : Prop := Claim7.holds Tryd.pinned (.plain (OpenSpec.ofChange eventDropsSpec)) eventDropsCard

/-- THE TIED CARD OF 'pantographlaw06.EventMany'. -/
def eventManyCard : Claim7 := { stood := { row := eventManyRow, standIns := [], harness := (true, "6e8017369c4176848aeab539c71ed2982428a57eec9fb1a9042248def6ab50de"), looks := false }, kinds := [], alts := [], laidByText := true, laidKinds := [.data, .pinned], laidTests := true, laidLooks := .later }
def EventManyCardSaid : Prop := Claim7.holds Tryd.pinned (.plain (OpenSpec.ofChange eventManySpec)) eventManyCard

/-- THE SECOND FORM's CARD OF 'pantographlaw06.EventTables'. -/
def eventTablesUptoCard : Claim7 := { stood := { row := eventTablesUptoRow, standIns := [], harness := (true, "6e8017369c4176848aeab539c71ed2982428a57eec9fb1a9042248def6ab50de"), looks := false }, kinds := [], alts := [], laidByText := true, laidKinds := [.data, .pinned], laidTests := true, laidLooks := .later }
def EventTablesUptoCardSaid : Prop := Claim7.holds Tryd.pinned (.plain (OpenSpec.upto eventTablesSpec)) eventTablesUptoCard

/-- THE SECOND FORM's CARD OF 'pantographlaw06.EventMay'. -/
def eventMayUptoCard : Claim7 := { stood := { row := eventMayUptoRow, standIns := [], harness := (true, "6e8017369c4176848aeab539c71ed2982428a57eec9fb1a9042248def6ab50de"), looks := false }, kinds := [], alts := [], laidByText := true, laidKinds := [.data, .pinned], laidTests := true, laidLooks := .later }
def EventMayUptoCardSaid : Prop := Claim7.holds Tryd.pinned (.plain (OpenSpec.upto eventMaySpec)) eventMayUptoCard

/-- THE SECOND FORM's CARD OF 'pantographlaw06.EventSame'. -/
def eventSameUptoCard : Claim7 := { stood := { row := eventSameUptoRow, standIns := [], harness := (true, "6e8017369c4176848aeab539c71ed2982428a57eec9fb1a9042248def6ab50de"), looks := false }, kinds := [], alts := [], laidByText := true, laidKinds := [.data, .pinned], laidTests := true, laidLooks := .later }
def EventSameUptoCardSaid : Prop := Claim7.holds Tryd.pinned (.plain (OpenSpec.upto eventSameSpec)) eventSameUptoCard

/-- THE SECOND FORM's CARD OF 'pantographlaw06.EventFollows'. -/
def eventFollowsUptoCard : Claim7 := { stood := { row := eventFollowsUptoRow, standIns := [], harness := (true, "6e8017369c4176848aeab539c71ed2982428a57eec9fb1a9042248def6ab50de"), looks := false }, kinds := [], alts := [], laidByText := true, laidKinds := [.data, .pinned], laidTests := true, laidLooks := .later }
def EventFollowsUptoCardSaid : Prop := Claim7.holds Tryd.pinned (.plain (OpenSpec.upto eventFollowsSpec)) eventFollowsUptoCard

/-- THE SECOND FORM's CARD OF 'pantographlaw06.EventDrops'. -/
def eventDropsUptoCard : Claim7 := { stood := { row := eventDropsUptoRow, standIns := [], harness := (true, "6e8017369c4176848aeab539c71ed2982428a57eec9fb1a9042248def6ab50de"), looks := false }, kinds := [], alts := [], laidByText := true, laidKinds := [.data, .pinned], laidTests := true, laidLooks := .later }
def EventDropsUptoCardSaid : Prop := Claim7.holds Tryd.pinned (.plain (OpenSpec.upto eventDropsSpec)) eventDropsUptoCard

/-- THE SECOND FORM's CARD OF 'pantographlaw06.EventMany'. -/
def eventManyUptoCard : Claim7 := { stood := { row := eventManyUptoRow, standIns := [], harness := (true, "6e8017369c4176848aeab539c71ed2982428a57eec9fb1a9042248def6ab50de"), looks := false }, kinds := [], alts := [], laidByText := true, laidKinds := [.data, .pinned], laidTests := true, laidLooks := .later }
def EventManyUptoCardSaid : Prop := Claim7.holds Tryd.pinned (.plain (OpenSpec.upto eventManySpec)) eventManyUptoCard
end Rows
end Go.Proofs.YtokifgdmddnpoaaDoor
