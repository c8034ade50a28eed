/-
  DERIVED. GIVEN WITH THE SEED: THE CARDS: each row of YtcgpgpbnpjbhhaaDoorRows.lean that lists a variable, with what it lists TIED to the program's text (the seventh form; the later family's looks); each row that meets fmt, with fmt's text TOLD by the authors' own Lean function (tested against real Go, not proved from fmt's source: count such statements apart). THE CARD IS WHAT COUNTS. Prove the row's statement (the work); the ties are given (YtcgpgpbnpjbhhaaDoorTie.lean); close each card by the builder's one call (the guide's Derived/Test/ToyasCard.lean, 'card_holds'). Laid BY PROGRAM, IN A SANDBOX (cutbox-door.mjs). By AI agents, Wed Nov 11 2026. No macro, syntax, notation, axiom, sorry.
-/
import Derived.Test.YtcgpgpbnpjbhhaaDoorRows
import GoSem.ClaimSeven
namespace Go.Proofs.YtcgpgpbnpjbhhaaDoor
namespace Rows

/-- THE TIED CARD OF 'pantographlaw04.SchemaFits'. -/
def schemaFitsCard : Claim7 := { stood := { row := schemaFitsRow, standIns := [], harness := (true, "5225aec662514c789875714286db41e387eccc8b7b8cb3e2101574f4485e3611"), looks := false }, kinds := [], alts := [], laidByText := true, laidKinds := [.data, .pinned], laidTests := true, laidLooks := .later }
def SchemaFitsCardSaid : Prop := Claim7.holds Tryd.pinned (.plain (OpenSpec.ofChange schemaFitsSpec)) schemaFitsCard

/-- THE TIED CARD OF 'pantographlaw04.SchemaParts'. -/
def schemaPartsCard : Claim7 := { stood := { row := schemaPartsRow, standIns := [], harness := (true, "5225aec662514c789875714286db41e387eccc8b7b8cb3e2101574f4485e3611"), looks := false }, kinds := [], alts := [], laidByText := true, laidKinds := [.data, .pinned], laidTests := true, laidLooks := .later }
def SchemaPartsCardSaid : Prop := Claim7.holds Tryd.pinned (.plain (OpenSpec.ofChange schemaPartsSpec)) schemaPartsCard

/-- THE TIED CARD OF 'pantographlaw04.SchemaKeys'. -/
def schemaKeysCard : Claim7 := { stood := { row := schemaKeysRow, standIns := [], harness := (true, "5225aec662514c789875714286db41e387eccc8b7b8cb3e2101574f4485e3611"), looks := false }, kinds := [], alts := [], laidByText := true, laidKinds := [.data, .pinned], laidTests := true, laidLooks := .later }
def SchemaKeysCardSaid : Prop := Claim7.holds Tryd.pinned (.plain (OpenSpec.ofChange schemaKeysSpec)) schemaKeysCard

/-- THE SECOND FORM's CARD OF 'pantographlaw04.SchemaFits'. -/
def schemaFitsUptoCard : Claim7 := { stood := { row := schemaFitsUptoRow, standIns := [], harness := (true, "5225aec662514c789875714286db41e387eccc8b7b8cb3e2101574f4485e3611"), looks := false }, kinds := [], alts := [], laidByText := true, laidKinds := [.data, .pinned], laidTests := true, laidLooks := .later }
def SchemaFitsUptoCardSaid : Prop := Claim7.holds Tryd.pinned (.plain (OpenSpec.upto schemaFitsSpec)) schemaFitsUptoCard

/-- THE SECOND FORM's CARD OF 'pantographlaw04.SchemaParts'. -/
def schemaPartsUptoCard : Claim7 := { stood := { row := schemaPartsUptoRow, standIns := [], harness := (true, "5225aec662514c789875714286db41e387eccc8b7b8cb3e2101574f4485e3611"), looks := false }, kinds := [], alts := [], laidByText := true, laidKinds := [.data, .pinned], laidTests := true, laidLooks := .later }
def SchemaPartsUptoCardSaid : Prop := Claim7.holds Tryd.pinned (.plain (OpenSpec.upto schemaPartsSpec)) schemaPartsUptoCard

/-- THE SECOND FORM's CARD OF 'pantographlaw04.SchemaKeys'. -/
def schemaKeysUptoCard : Claim7 := { stood := { row := schemaKeysUptoRow, standIns := [], harness := (true, "5225aec662514c789875714286db41e387eccc8b7b8cb3e2101574f4485e3611"), looks := false }, kinds := [], alts := [], laidByText := true, laidKinds := [.data, .pinned], laidTests := true, laidLooks := .later }
def SchemaKeysUptoCardSaid : Prop := Claim7.holds Tryd.pinned (.plain (OpenSpec.upto schemaKeysSpec)) schemaKeysUptoCard
end Rows
end Go.Proofs.YtcgpgpbnpjbhhaaDoor
