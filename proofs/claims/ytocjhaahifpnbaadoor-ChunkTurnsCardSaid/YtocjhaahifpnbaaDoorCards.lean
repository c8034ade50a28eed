/-
  DERIVED. GIVEN WITH THE SEED: THE CARDS: each row of YtocjhaahifpnbaaDoorRows.lean that lists a variable, with what it lists TIED to the program's text (the seventh form; the later family's looks); each row that meets fmt, with fmt's text TOLD by the authors' own Lean function (tested against real Go, not proved from fmt's source: count such statements apart). THE CARD IS WHAT COUNTS. Prove the row's statement (the work); the ties are given (YtocjhaahifpnbaaDoorTie.lean); close each card by the builder's one call (the guide's Derived/Test/ToyasCard.lean, 'card_holds'). Laid BY PROGRAM, IN A SANDBOX (cutbox-door.mjs). By AI agents, Wed Nov 11 2026. No macro, syntax, notation, axiom, sorry.
-/
import Derived.Test.YtocjhaahifpnbaaDoorRows
import GoSem.ClaimSeven
namespace Go.Proofs.YtocjhaahifpnbaaDoor
namespace Rows

/-- THE TIED CARD OF 'pantographlaw11.ChunkCovers'. -/
def chunkCoversCard : Claim7 := { stood := { row := chunkCoversRow, standIns := [], harness := (true, "831a9db6caa2aa9f97cc03ca975cb5685c2c506faedd73324d9abfc629ecee6d"), looks := false }, kinds := [], alts := [], laidByText := true, laidKinds := [.data, .pinned], laidTests := true, laidLooks := .later }
def ChunkCoversCardSaid : Prop := Claim7.holds Tryd.pinned (.plain (OpenSpec.ofChange chunkCoversSpec)) chunkCoversCard

/-- THE TIED CARD OF 'pantographlaw11.ChunkRight'. -/
def chunkRightCard : Claim7 := { stood := { row := chunkRightRow, standIns := [], harness := (true, "831a9db6caa2aa9f97cc03ca975cb5685c2c506faedd73324d9abfc629ecee6d"), looks := false }, kinds := [], alts := [], laidByText := true, laidKinds := [.data, .pinned], laidTests := true, laidLooks := .later }
def ChunkRightCardSaid : Prop := Claim7.holds Tryd.pinned (.plain (OpenSpec.ofChange chunkRightSpec)) chunkRightCard

/-- THE TIED CARD OF 'pantographlaw11.ChunkNext'. -/
def chunkNextCard : Claim7 := { stood := { row := chunkNextRow, standIns := [], harness := (true, "831a9db6caa2aa9f97cc03ca975cb5685c2c506faedd73324d9abfc629ecee6d"), looks := false }, kinds := [], alts := [], laidByText := true, laidKinds := [.data, .pinned], laidTests := true, laidLooks := .later }
def ChunkNextCardSaid : Prop := Claim7.holds Tryd.pinned (.plain (OpenSpec.ofChange chunkNextSpec)) chunkNextCard

/-- THE TIED CARD OF 'pantographlaw11.ChunkReads'. -/
def chunkReadsCard : Claim7 := { stood := { row := chunkReadsRow, standIns := [], harness := (true, "831a9db6caa2aa9f97cc03ca975cb5685c2c506faedd73324d9abfc629ecee6d"), looks := false }, kinds := [], alts := [], laidByText := true, laidKinds := [.data, .pinned], laidTests := true, laidLooks := .later }
def ChunkReadsCardSaid : Prop := Claim7.holds Tryd.pinned (.plain (OpenSpec.ofChange chunkReadsSpec)) chunkReadsCard

/-- THE TIED CARD OF 'pantographlaw11.ChunkPoints'. -/
def chunkPointsCard : Claim7 := { stood := { row := chunkPointsRow, standIns := [], harness := (true, "831a9db6caa2aa9f97cc03ca975cb5685c2c506faedd73324d9abfc629ecee6d"), looks := false }, kinds := [], alts := [], laidByText := true, laidKinds := [.data, .pinned], laidTests := true, laidLooks := .later }
def ChunkPointsCardSaid : Prop := Claim7.holds Tryd.pinned (.plain (OpenSpec.ofChange chunkPointsSpec)) chunkPointsCard

/-- THE TIED CARD OF 'pantographlaw11.ChunkGoes'. -/
def chunkGoesCard : Claim7 := { stood := { row := chunkGoesRow, standIns := [], harness := (true, "831a9db6caa2aa9f97cc03ca975cb5685c2c506faedd73324d9abfc629ecee6d"), looks := false }, kinds := [], alts := [], laidByText := true, laidKinds := [.data, .pinned], laidTests := true, laidLooks := .later }
def ChunkGoesCardSaid : Prop := Claim7.holds Tryd.pinned (.plain (OpenSpec.ofChange chunkGoesSpec)) chunkGoesCard

/-- THE TIED CARD OF 'pantographlaw11.ChunkTurns'. -/
def chunkTurnsCard : Claim7 := { stood := { row := chunkTurnsRow, standIns := [], harness := (true, "831a9db6caa2aa9f97cc03ca975cb5685c2c506faedd73324d9abfc629ecee6d"), looks := false }, kinds := [], alts := [], laidByText := true, laidKinds := [.data, .pinned], laidTests := true, laidLooks := .later }
def ChunkTurnsCardSaid : Prop := Claim7.holds Tryd.pinned (.plain (OpenSpec.ofChange chunkTurnsSpec)) chunkTurnsCard

/-- THE SECOND FORM's CARD OF 'pantographlaw11.ChunkCovers'. -/
def chunkCoversUptoCard : Claim7 := { stood := { row := chunkCoversUptoRow, standIns := [], harness := (true, "831a9db6caa2aa9f97cc03ca975cb5685c2c506faedd73324d9abfc629ecee6d"), looks := false }, kinds := [], alts := [], laidByText := true, laidKinds := [.data, .pinned], laidTests := true, laidLooks := .later }
def ChunkCoversUptoCardSaid : Prop := Claim7.holds Tryd.pinned (.plain (OpenSpec.upto chunkCoversSpec)) chunkCoversUptoCard

/-- THE SECOND FORM's CARD OF 'pantographlaw11.ChunkRight'. -/
def chunkRightUptoCard : Claim7 := { stood := { row := chunkRightUptoRow, standIns := [], harness := (true, "831a9db6caa2aa9f97cc03ca975cb5685c2c506faedd73324d9abfc629ecee6d"), looks := false }, kinds := [], alts := [], laidByText := true, laidKinds := [.data, .pinned], laidTests := true, laidLooks := .later }
def ChunkRightUptoCardSaid : Prop := Claim7.holds Tryd.pinned (.plain (OpenSpec.upto chunkRightSpec)) chunkRightUptoCard

/-- THE SECOND FORM's CARD OF 'pantographlaw11.ChunkNext'. -/
def chunkNextUptoCard : Claim7 := { stood := { row := chunkNextUptoRow, standIns := [], harness := (true, "831a9db6caa2aa9f97cc03ca975cb5685c2c506faedd73324d9abfc629ecee6d"), looks := false }, kinds := [], alts := [], laidByText := true, laidKinds := [.data, .pinned], laidTests := true, laidLooks := .later }
def ChunkNextUptoCardSaid : Prop := Claim7.holds Tryd.pinned (.plain (OpenSpec.upto chunkNextSpec)) chunkNextUptoCard

/-- THE SECOND FORM's CARD OF 'pantographlaw11.ChunkReads'. -/
def chunkReadsUptoCard : Claim7 := { stood := { row := chunkReadsUptoRow, standIns := [], harness := (true, "831a9db6caa2aa9f97cc03ca975cb5685c2c506faedd73324d9abfc629ecee6d"), looks := false }, kinds := [], alts := [], laidByText := true, laidKinds := [.data, .pinned], laidTests := true, laidLooks := .later }
def ChunkReadsUptoCardSaid : Prop := Claim7.holds Tryd.pinned (.plain (OpenSpec.upto chunkReadsSpec)) chunkReadsUptoCard

/-- THE SECOND FORM's CARD OF 'pantographlaw11.ChunkPoints'. -/
def chunkPointsUptoCard : Claim7 := { stood := { row := chunkPointsUptoRow, standIns := [], harness := (true, "831a9db6caa2aa9f97cc03ca975cb5685c2c506faedd73324d9abfc629ecee6d"), looks := false }, kinds := [], alts := [], laidByText := true, laidKinds := [.data, .pinned], laidTests := true, laidLooks := .later }
def ChunkPointsUptoCardSaid : Prop := Claim7.holds Tryd.pinned (.plain (OpenSpec.upto chunkPointsSpec)) chunkPointsUptoCard

/-- THE SECOND FORM's CARD OF 'pantographlaw11.ChunkGoes'. -/
def chunkGoesUptoCard : Claim7 := { stood := { row := chunkGoesUptoRow, standIns := [], harness := (true, "831a9db6caa2aa9f97cc03ca975cb5685c2c506faedd73324d9abfc629ecee6d"), looks := false }, kinds := [], alts := [], laidByText := true, laidKinds := [.data, .pinned], laidTests := true, laidLooks := .later }
def ChunkGoesUptoCardSaid : Prop := Claim7.holds Tryd.pinned (.plain (OpenSpec.upto chunkGoesSpec)) chunkGoesUptoCard

/-- THE SECOND FORM's CARD OF 'pantographlaw11.ChunkTurns'. -/
def chunkTurnsUptoCard : Claim7 := { stood := { row := chunkTurnsUptoRow, standIns := [], harness := (true, "831a9db6caa2aa9f97cc03ca975cb5685c2c506faedd73324d9abfc629ecee6d"), looks := false }, kinds := [], alts := [], laidByText := true, laidKinds := [.data, .pinned], laidTests := true, laidLooks := .later }
def ChunkTurnsUptoCardSaid : Prop := Claim7.holds Tryd.pinned (.plain (OpenSpec.upto chunkTurnsSpec)) chunkTurnsUptoCard
end Rows
end Go.Proofs.YtocjhaahifpnbaaDoor
