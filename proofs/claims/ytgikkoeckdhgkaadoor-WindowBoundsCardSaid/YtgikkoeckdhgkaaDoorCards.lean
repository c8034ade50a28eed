/-
  DERIVED. GIVEN WITH THE SEED: THE CARDS: each row of YtgikkoeckdhgkaaDoorRows.lean that lists a variable, with what it lists TIED to the program's text (the seventh form; the later family's looks); each row that meets fmt, with fmt's text TOLD by the authors' own Lean function (tested against real Go, not proved from fmt's source: count such statements apart). THE CARD IS WHAT COUNTS. Prove the row's statement (the work); the ties are given (YtgikkoeckdhgkaaDoorTie.lean); close each card by the builder's one call (the guide's Derived/Test/ToyasCard.lean, 'card_holds'). Laid BY PROGRAM, IN A SANDBOX (cutbox-door.mjs). By AI agents, Wed Nov 11 2026. No macro, syntax, notation, axiom, sorry.
-/
import Derived.Test.YtgikkoeckdhgkaaDoorRows
import GoSem.ClaimSeven
namespace Go.Proofs.YtgikkoeckdhgkaaDoor
namespace Rows

/-- THE TIED CARD OF 'pantographlaw13.WindowOwns'. -/
def windowOwnsCard : Claim7 := { stood := { row := windowOwnsRow, standIns := [], harness := (true, "5e9d0cc5c4dfa2bfbba7117eddc87c3c2a74b73551d63258d15b9653ab699a22"), looks := false }, kinds := [], alts := [], laidByText := true, laidKinds := [.data, .pinned], laidTests := true, laidLooks := .later }
def WindowOwnsCardSaid : Prop := Claim7.holds Tryd.pinned (.plain (OpenSpec.ofChange windowOwnsSpec)) windowOwnsCard

/-- THE TIED CARD OF 'pantographlaw13.WindowArgs'. -/
def windowArgsCard : Claim7 := { stood := { row := windowArgsRow, standIns := [], harness := (true, "5e9d0cc5c4dfa2bfbba7117eddc87c3c2a74b73551d63258d15b9653ab699a22"), looks := false }, kinds := [], alts := [], laidByText := true, laidKinds := [.data, .pinned], laidTests := true, laidLooks := .later }
def WindowArgsCardSaid : Prop := Claim7.holds Tryd.pinned (.plain (OpenSpec.ofChange windowArgsSpec)) windowArgsCard

/-- THE TIED CARD OF 'pantographlaw13.WindowFollows'. -/
def windowFollowsCard : Claim7 := { stood := { row := windowFollowsRow, standIns := [], harness := (true, "5e9d0cc5c4dfa2bfbba7117eddc87c3c2a74b73551d63258d15b9653ab699a22"), looks := false }, kinds := [], alts := [], laidByText := true, laidKinds := [.data, .pinned], laidTests := true, laidLooks := .later }
def WindowFollowsCardSaid : Prop := Claim7.holds Tryd.pinned (.plain (OpenSpec.ofChange windowFollowsSpec)) windowFollowsCard

/-- THE TIED CARD OF 'pantographlaw13.WindowBounds'. -/
def windowBoundsCard : Claim7 := { stood := { row := windowBoundsRow, standIns := [], harness := (true, "5e9d0cc5c4dfa2bfbba7117eddc87c3c2a74b73551d63258d15b9653ab699a22"), looks := false }, kinds := [], alts := [], laidByText := true, laidKinds := [.data, .pinned], laidTests := true, laidLooks := .later }
def WindowBoundsCardSaid : Prop := Claim7.holds Tryd.pinned (.plain (OpenSpec.ofChange windowBoundsSpec)) windowBoundsCard

/-- THE TIED CARD OF 'pantographlaw13.WindowSpoils'. -/
def windowSpoilsCard : Claim7 := { stood := { row := windowSpoilsRow, standIns := [], harness := (true, "5e9d0cc5c4dfa2bfbba7117eddc87c3c2a74b73551d63258d15b9653ab699a22"), looks := false }, kinds := [], alts := [], laidByText := true, laidKinds := [.data, .pinned], laidTests := true, laidLooks := .later }
def WindowSpoilsCardSaid : Prop := Claim7.holds Tryd.pinned (.plain (OpenSpec.ofChange windowSpoilsSpec)) windowSpoilsCard

/-- THE SECOND FORM's CARD OF 'pantographlaw13.WindowOwns'. -/
def windowOwnsUptoCard : Claim7 := { stood := { row := windowOwnsUptoRow, standIns := [], harness := (true, "5e9d0cc5c4dfa2bfbba7117eddc87c3c2a74b73551d63258d15b9653ab699a22"), looks := false }, kinds := [], alts := [], laidByText := true, laidKinds := [.data, .pinned], laidTests := true, laidLooks := .later }
def WindowOwnsUptoCardSaid : Prop := Claim7.holds Tryd.pinned (.plain (OpenSpec.upto windowOwnsSpec)) windowOwnsUptoCard

/-- THE SECOND FORM's CARD OF 'pantographlaw13.WindowArgs'. -/
def windowArgsUptoCard : Claim7 := { stood := { row := windowArgsUptoRow, standIns := [], harness := (true, "5e9d0cc5c4dfa2bfbba7117eddc87c3c2a74b73551d63258d15b9653ab699a22"), looks := false }, kinds := [], alts := [], laidByText := true, laidKinds := [.data, .pinned], laidTests := true, laidLooks := .later }
def WindowArgsUptoCardSaid : Prop := Claim7.holds Tryd.pinned (.plain (OpenSpec.upto windowArgsSpec)) windowArgsUptoCard

/-- THE SECOND FORM's CARD OF 'pantographlaw13.WindowFollows'. -/
def windowFollowsUptoCard : Claim7 := { stood := { row := windowFollowsUptoRow, standIns := [], harness := (true, "5e9d0cc5c4dfa2bfbba7117eddc87c3c2a74b73551d63258d15b9653ab699a22"), looks := false }, kinds := [], alts := [], laidByText := true, laidKinds := [.data, .pinned], laidTests := true, laidLooks := .later }
def WindowFollowsUptoCardSaid : Prop := Claim7.holds Tryd.pinned (.plain (OpenSpec.upto windowFollowsSpec)) windowFollowsUptoCard

/-- THE SECOND FORM's CARD OF 'pantographlaw13.WindowBounds'. -/
def windowBoundsUptoCard : Claim7 := { stood := { row := windowBoundsUptoRow, standIns := [], harness := (true, "5e9d0cc5c4dfa2bfbba7117eddc87c3c2a74b73551d63258d15b9653ab699a22"), looks := false }, kinds := [], alts := [], laidByText := true, laidKinds := [.data, .pinned], laidTests := true, laidLooks := .later }
def WindowBoundsUptoCardSaid : Prop := Claim7.holds Tryd.pinned (.plain (OpenSpec.upto windowBoundsSpec)) windowBoundsUptoCard

/-- THE SECOND FORM's CARD OF 'pantographlaw13.WindowSpoils'. -/
def windowSpoilsUptoCard : Claim7 := { stood := { row := windowSpoilsUptoRow, standIns := [], harness := (true, "5e9d0cc5c4dfa2bfbba7117eddc87c3c2a74b73551d63258d15b9653ab699a22"), looks := false }, kinds := [], alts := [], laidByText := true, laidKinds := [.data, .pinned], laidTests := true, laidLooks := .later }
def WindowSpoilsUptoCardSaid : Prop := Claim7.holds Tryd.pinned (.plain (OpenSpec.upto windowSpoilsSpec)) windowSpoilsUptoCard
end Rows
end Go.Proofs.YtgikkoeckdhgkaaDoor
