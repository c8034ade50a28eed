/-
  NARROWER THAN 'FOR EVERY INPUT', by the rows' own cells (each row's printed sentence says how): ChunkCovers: laid · ChunkRight: laid · ChunkNext: laid · ChunkReads: laid · ChunkPoints: laid · ChunkGoes: laid · ChunkTurns: laid.
  DERIVED. THE GIVEN ROWS OF THIS SEAT. 7 by the template 'for every input the law returns true; each argument reads behind the call as it read before'; 0 by the template 'total and deterministic' (their statements: YtocjhaahifpnbaaDoorTotals.lean).
  GIVEN WITH THE SEED: the statements are not yours to turn. If you find one false, say at which input.
  Laid BY PROGRAM, IN A SANDBOX (cutbox-rows.mjs): the forced cells as the released guide's own fill.sh prints them over the translation 0d0d70bb030574b7… (all of the seat's roots in one cut). By AI agents, Wed Nov 11 2026. No macro, syntax, notation, axiom, sorry.
-/
import Derived.Test.YtocjhaahifpnbaaDoorChecked
import GoSem.PinnedTables
import GoSem.Claim
import GoSem.ClaimJoined
import GoSem.ClaimMapViews
import Derived.JoinedTies
import Derived.KernelRfl
namespace Go.Proofs.YtocjhaahifpnbaaDoor
/- THE CELL 'sum', in the pinned program and in every row, IS THE sha256 OF THE DUMP (.gsa) THAT YtocjhaahifpnbaaDoorProg.lean LOADS. Nothing in Lean hashes anything: it is a label: what it is worth is what the hold of that sum in a sandbox is worth. -/
noncomputable def Tryd.pinned : Pinned := { name := "ytocjhaahifpnbaadoor", sum := "0d0d70bb030574b70a2602f2c91a070d6904dd9de9a0417955673c5b57b9f351", checked := Tryd.checked }
namespace Rows
def none {H : Type} : Left H := { results := [], args := [] }

/- WHAT THE LISTED PACKAGE-LEVEL VARIABLES READ AS WHEN THE CALL BEGINS. Each datum BY PROGRAM (the guide's laid-datum.mjs) off the statement by which the dump's own 'gosem.cut.vars' lays the variable. In a bare row this is a premise. The card (YtocjhaahifpnbaaDoorCards.lean) ties it to the program's text. -/
def laid_unicode_utf8_acceptRanges {H : Type} : DataW H := .agg [.agg [.lit (.int .u8 128), .lit (.int .u8 191)], .agg [.lit (.int .u8 160), .lit (.int .u8 191)], .agg [.lit (.int .u8 128), .lit (.int .u8 159)], .agg [.lit (.int .u8 144), .lit (.int .u8 191)], .agg [.lit (.int .u8 128), .lit (.int .u8 143)], .agg [.lit (.int .u8 0), .lit (.int .u8 0)], .agg [.lit (.int .u8 0), .lit (.int .u8 0)], .agg [.lit (.int .u8 0), .lit (.int .u8 0)], .agg [.lit (.int .u8 0), .lit (.int .u8 0)], .agg [.lit (.int .u8 0), .lit (.int .u8 0)], .agg [.lit (.int .u8 0), .lit (.int .u8 0)], .agg [.lit (.int .u8 0), .lit (.int .u8 0)], .agg [.lit (.int .u8 0), .lit (.int .u8 0)], .agg [.lit (.int .u8 0), .lit (.int .u8 0)], .agg [.lit (.int .u8 0), .lit (.int .u8 0)], .agg [.lit (.int .u8 0), .lit (.int .u8 0)]]
/-- One of Go's own tables, pinned by name: the form's constant. -/
def laid_unicode_utf8_first : DataW Unit := Go.Pinned.utf8First

/-- 'pantographlaw11.ChunkCovers': WHATEVER THE INPUT: true; the input reads as it did. -/
def chunkCoversSpec : ChangeSpec := { name := "chunkCovers", fn := fun _ => fun
  | [d1, d2, d3, d4, d5] => { results := [.lit (.bool true)], args := [d1, d2, d3, d4, d5] }
  | _ => none }
def chunkCoversRow : OpenClaim := { program := "ytocjhaahifpnbaadoor", sum := "0d0d70bb030574b70a2602f2c91a070d6904dd9de9a0417955673c5b57b9f351", func := "pantograph/pantographlaw11.ChunkCovers", spec := "chunkCovers", inPlace := ["internal/bytealg.IndexByteString", "internal/bytealg.IndexString", "internal/abi.NoEscape"], unfollowed := true, recurses := true, named := ["internal/bytealg.MaxLen", "unicode/utf8.first", "unicode/utf8.acceptRanges"], apart := false, laid := [("unicode/utf8.acceptRanges", laid_unicode_utf8_acceptRanges), ("unicode/utf8.first", laid_unicode_utf8_first)] }
def ChunkCoversSaid : Prop := chunkCoversRow.holds Tryd.pinned (OpenSpec.ofChange chunkCoversSpec)

/-- ITS FALSE NEIGHBOUR: 'it returns false'. Refute it at one input. -/
def chunkCoversWrong : ChangeSpec := { name := "chunkCovers", fn := fun _ => fun
  | [d1, d2, d3, d4, d5] => { results := [.lit (.bool false)], args := [d1, d2, d3, d4, d5] }
  | _ => none }
def ChunkCoversWrongFalsely : Prop := chunkCoversRow.holds Tryd.pinned (OpenSpec.ofChange chunkCoversWrong)

/-- 'pantographlaw11.ChunkRight': WHATEVER THE INPUT: true; the input reads as it did. -/
def chunkRightSpec : ChangeSpec := { name := "chunkRight", fn := fun _ => fun
  | [d] => { results := [.lit (.bool true)], args := [d] }
  | _ => none }
def chunkRightRow : OpenClaim := { program := "ytocjhaahifpnbaadoor", sum := "0d0d70bb030574b70a2602f2c91a070d6904dd9de9a0417955673c5b57b9f351", func := "pantograph/pantographlaw11.ChunkRight", spec := "chunkRight", inPlace := ["internal/bytealg.IndexByteString", "internal/bytealg.IndexString", "internal/abi.NoEscape"], unfollowed := true, recurses := true, named := ["internal/bytealg.MaxLen", "unicode/utf8.first", "unicode/utf8.acceptRanges"], apart := false, laid := [("unicode/utf8.acceptRanges", laid_unicode_utf8_acceptRanges), ("unicode/utf8.first", laid_unicode_utf8_first)] }
def ChunkRightSaid : Prop := chunkRightRow.holds Tryd.pinned (OpenSpec.ofChange chunkRightSpec)

/-- ITS FALSE NEIGHBOUR: 'it returns false'. Refute it at one input. -/
def chunkRightWrong : ChangeSpec := { name := "chunkRight", fn := fun _ => fun
  | [d] => { results := [.lit (.bool false)], args := [d] }
  | _ => none }
def ChunkRightWrongFalsely : Prop := chunkRightRow.holds Tryd.pinned (OpenSpec.ofChange chunkRightWrong)

/-- 'pantographlaw11.ChunkNext': WHATEVER THE INPUT: true; the input reads as it did. -/
def chunkNextSpec : ChangeSpec := { name := "chunkNext", fn := fun _ => fun
  | [d] => { results := [.lit (.bool true)], args := [d] }
  | _ => none }
def chunkNextRow : OpenClaim := { program := "ytocjhaahifpnbaadoor", sum := "0d0d70bb030574b70a2602f2c91a070d6904dd9de9a0417955673c5b57b9f351", func := "pantograph/pantographlaw11.ChunkNext", spec := "chunkNext", inPlace := ["internal/abi.NoEscape", "internal/bytealg.IndexByteString", "internal/bytealg.IndexString"], unfollowed := true, recurses := true, named := ["unicode/utf8.first", "unicode/utf8.acceptRanges", "internal/bytealg.MaxLen"], apart := false, laid := [("unicode/utf8.acceptRanges", laid_unicode_utf8_acceptRanges), ("unicode/utf8.first", laid_unicode_utf8_first)] }
def ChunkNextSaid : Prop := chunkNextRow.holds Tryd.pinned (OpenSpec.ofChange chunkNextSpec)

/-- ITS FALSE NEIGHBOUR: 'it returns false'. Refute it at one input. -/
def chunkNextWrong : ChangeSpec := { name := "chunkNext", fn := fun _ => fun
  | [d] => { results := [.lit (.bool false)], args := [d] }
  | _ => none }
def ChunkNextWrongFalsely : Prop := chunkNextRow.holds Tryd.pinned (OpenSpec.ofChange chunkNextWrong)

/-- 'pantographlaw11.ChunkReads': WHATEVER THE INPUT: true; the input reads as it did. -/
def chunkReadsSpec : ChangeSpec := { name := "chunkReads", fn := fun _ => fun
  | [d] => { results := [.lit (.bool true)], args := [d] }
  | _ => none }
def chunkReadsRow : OpenClaim := { program := "ytocjhaahifpnbaadoor", sum := "0d0d70bb030574b70a2602f2c91a070d6904dd9de9a0417955673c5b57b9f351", func := "pantograph/pantographlaw11.ChunkReads", spec := "chunkReads", inPlace := ["internal/bytealg.IndexByteString", "internal/bytealg.IndexString", "internal/abi.NoEscape"], unfollowed := true, recurses := true, named := ["internal/bytealg.MaxLen", "unicode/utf8.first", "unicode/utf8.acceptRanges"], apart := false, laid := [("unicode/utf8.acceptRanges", laid_unicode_utf8_acceptRanges), ("unicode/utf8.first", laid_unicode_utf8_first)] }
def ChunkReadsSaid : Prop := chunkReadsRow.holds Tryd.pinned (OpenSpec.ofChange chunkReadsSpec)

/-- ITS FALSE NEIGHBOUR: 'it returns false'. Refute it at one input. -/
def chunkReadsWrong : ChangeSpec := { name := "chunkReads", fn := fun _ => fun
  | [d] => { results := [.lit (.bool false)], args := [d] }
  | _ => none }
def ChunkReadsWrongFalsely : Prop := chunkReadsRow.holds Tryd.pinned (OpenSpec.ofChange chunkReadsWrong)

/-- 'pantographlaw11.ChunkPoints': WHATEVER THE INPUT: true; the input reads as it did. -/
def chunkPointsSpec : ChangeSpec := { name := "chunkPoints", fn := fun _ => fun
  | [d] => { results := [.lit (.bool true)], args := [d] }
  | _ => none }
def chunkPointsRow : OpenClaim := { program := "ytocjhaahifpnbaadoor", sum := "0d0d70bb030574b70a2602f2c91a070d6904dd9de9a0417955673c5b57b9f351", func := "pantograph/pantographlaw11.ChunkPoints", spec := "chunkPoints", inPlace := ["internal/bytealg.IndexByteString", "internal/bytealg.IndexString", "internal/abi.NoEscape"], unfollowed := true, recurses := true, named := ["internal/bytealg.MaxLen", "unicode/utf8.first", "unicode/utf8.acceptRanges"], apart := false, laid := [("unicode/utf8.acceptRanges", laid_unicode_utf8_acceptRanges), ("unicode/utf8.first", laid_unicode_utf8_first)] }
def ChunkPointsSaid : Prop := chunkPointsRow.holds Tryd.pinned (OpenSpec.ofChange chunkPointsSpec)

/-- ITS FALSE NEIGHBOUR: 'it returns false'. Refute it at one input. -/
def chunkPointsWrong : ChangeSpec := { name := "chunkPoints", fn := fun _ => fun
  | [d] => { results := [.lit (.bool false)], args := [d] }
  | _ => none }
def ChunkPointsWrongFalsely : Prop := chunkPointsRow.holds Tryd.pinned (OpenSpec.ofChange chunkPointsWrong)

/-- 'pantographlaw11.ChunkGoes': WHATEVER THE INPUT: true; the input reads as it did. -/
def chunkGoesSpec : ChangeSpec := { name := "chunkGoes", fn := fun _ => fun
  | [d1, d2] => { results := [.lit (.bool true)], args := [d1, d2] }
  | _ => none }
def chunkGoesRow : OpenClaim := { program := "ytocjhaahifpnbaadoor", sum := "0d0d70bb030574b70a2602f2c91a070d6904dd9de9a0417955673c5b57b9f351", func := "pantograph/pantographlaw11.ChunkGoes", spec := "chunkGoes", inPlace := ["internal/bytealg.IndexByteString", "internal/bytealg.IndexString", "slices.overlaps[pantograph/api.Work]", "internal/abi.NoEscape"], unfollowed := true, recurses := true, named := ["internal/bytealg.MaxLen", "unicode/utf8.first", "unicode/utf8.acceptRanges"], apart := false, laid := [("unicode/utf8.acceptRanges", laid_unicode_utf8_acceptRanges), ("unicode/utf8.first", laid_unicode_utf8_first)] }
def ChunkGoesSaid : Prop := chunkGoesRow.holds Tryd.pinned (OpenSpec.ofChange chunkGoesSpec)

/-- ITS FALSE NEIGHBOUR: 'it returns false'. Refute it at one input. -/
def chunkGoesWrong : ChangeSpec := { name := "chunkGoes", fn := fun _ => fun
  | [d1, d2] => { results := [.lit (.bool false)], args := [d1, d2] }
  | _ => none }
def ChunkGoesWrongFalsely : Prop := chunkGoesRow.holds Tryd.pinned (OpenSpec.ofChange chunkGoesWrong)

/-- 'pantographlaw11.ChunkTurns': WHATEVER THE INPUT: true; the input reads as it did. -/
def chunkTurnsSpec : ChangeSpec := { name := "chunkTurns", fn := fun _ => fun
  | [d1, d2, d3, d4, d5] => { results := [.lit (.bool true)], args := [d1, d2, d3, d4, d5] }
  | _ => none }
def chunkTurnsRow : OpenClaim := { program := "ytocjhaahifpnbaadoor", sum := "0d0d70bb030574b70a2602f2c91a070d6904dd9de9a0417955673c5b57b9f351", func := "pantograph/pantographlaw11.ChunkTurns", spec := "chunkTurns", inPlace := ["internal/bytealg.IndexByteString", "internal/bytealg.IndexString", "slices.overlaps[pantograph/api.Work]", "internal/abi.NoEscape"], unfollowed := true, recurses := true, named := ["internal/bytealg.MaxLen", "unicode/utf8.first", "unicode/utf8.acceptRanges"], apart := false, laid := [("unicode/utf8.acceptRanges", laid_unicode_utf8_acceptRanges), ("unicode/utf8.first", laid_unicode_utf8_first)] }
def ChunkTurnsSaid : Prop := chunkTurnsRow.holds Tryd.pinned (OpenSpec.ofChange chunkTurnsSpec)

/-- ITS FALSE NEIGHBOUR: 'it returns false'. Refute it at one input. -/
def chunkTurnsWrong : ChangeSpec := { name := "chunkTurns", fn := fun _ => fun
  | [d1, d2, d3, d4, d5] => { results := [.lit (.bool false)], args := [d1, d2, d3, d4, d5] }
  | _ => none }
def ChunkTurnsWrongFalsely : Prop := chunkTurnsRow.holds Tryd.pinned (OpenSpec.ofChange chunkTurnsWrong)

/- THE SECOND FORM. 'bulk': how many values and letters a reading holds, each counted each time it is reached (what is shared counts as often as it is met; a slice's spare places count too). A statement '..UptoSaid' is the law's where the arguments, and the package variables that the reading takes, are together of bulk at most 1048576: NARROWER than '..Said'. Prove '..Said' where nothing that the law and all that it calls make is longer than what came in: it says more and counts as full. Else prove '..UptoSaid'. A law counts once. -/
mutual
def uptoBulk {H : Type} : DataW H → Nat
  | .lit (.string bytes) => bytes.length + 1
  | .lit _ => 1
  | .nil => 1
  | .ptr d => uptoBulk d + 1
  | .slice elems spare => uptoBulkAll elems + uptoBulkAll spare + 1
  | .agg parts => uptoBulkAll parts + 1
  | .iface _ d => uptoBulk d + 1
  | .map entries => uptoBulkEntries entries + 1
  | .held _ => 1
def uptoBulkAll {H : Type} : List (DataW H) → Nat
  | [] => 0
  | d :: r => uptoBulk d + uptoBulkAll r
def uptoBulkEntries {H : Type} : List (Lit × DataW H) → Nat
  | [] => 0
  | x :: r => uptoBulkEntry x + uptoBulkEntries r
def uptoBulkEntry {H : Type} : Lit × DataW H → Nat
  | (.string bytes, d) => bytes.length + uptoBulk d + 1
  | (_, d) => uptoBulk d + 1
 end
def uptoSmall : (H : Type) → List (DataW H) → Bool := fun _ ds => decide (uptoBulkAll ds ≤ 1048576)
def OpenSpec.upto (s : _root_.Go.ChangeSpec) : _root_.Go.OpenSpec := { _root_.Go.OpenSpec.ofChange s with cond := some uptoSmall }

/-- 'pantographlaw11.ChunkCovers', WHERE WHAT IT READS IS OF BULK AT MOST 1048576: true; the input reads as it did. -/
def chunkCoversUptoRow : OpenClaim := { program := "ytocjhaahifpnbaadoor", sum := "0d0d70bb030574b70a2602f2c91a070d6904dd9de9a0417955673c5b57b9f351", func := "pantograph/pantographlaw11.ChunkCovers", spec := "chunkCovers", inPlace := ["internal/bytealg.IndexByteString", "internal/bytealg.IndexString", "internal/abi.NoEscape"], unfollowed := true, recurses := true, named := ["internal/bytealg.MaxLen", "unicode/utf8.first", "unicode/utf8.acceptRanges"], apart := false, laid := [("unicode/utf8.acceptRanges", laid_unicode_utf8_acceptRanges), ("unicode/utf8.first", laid_unicode_utf8_first)], narrowed := true }
def ChunkCoversUptoSaid : Prop := chunkCoversUptoRow.holds Tryd.pinned (OpenSpec.upto chunkCoversSpec)

/-- 'pantographlaw11.ChunkRight', WHERE WHAT IT READS IS OF BULK AT MOST 1048576: true; the input reads as it did. -/
def chunkRightUptoRow : OpenClaim := { program := "ytocjhaahifpnbaadoor", sum := "0d0d70bb030574b70a2602f2c91a070d6904dd9de9a0417955673c5b57b9f351", func := "pantograph/pantographlaw11.ChunkRight", spec := "chunkRight", inPlace := ["internal/bytealg.IndexByteString", "internal/bytealg.IndexString", "internal/abi.NoEscape"], unfollowed := true, recurses := true, named := ["internal/bytealg.MaxLen", "unicode/utf8.first", "unicode/utf8.acceptRanges"], apart := false, laid := [("unicode/utf8.acceptRanges", laid_unicode_utf8_acceptRanges), ("unicode/utf8.first", laid_unicode_utf8_first)], narrowed := true }
def ChunkRightUptoSaid : Prop := chunkRightUptoRow.holds Tryd.pinned (OpenSpec.upto chunkRightSpec)

/-- 'pantographlaw11.ChunkNext', WHERE WHAT IT READS IS OF BULK AT MOST 1048576: true; the input reads as it did. -/
def chunkNextUptoRow : OpenClaim := { program := "ytocjhaahifpnbaadoor", sum := "0d0d70bb030574b70a2602f2c91a070d6904dd9de9a0417955673c5b57b9f351", func := "pantograph/pantographlaw11.ChunkNext", spec := "chunkNext", inPlace := ["internal/abi.NoEscape", "internal/bytealg.IndexByteString", "internal/bytealg.IndexString"], unfollowed := true, recurses := true, named := ["unicode/utf8.first", "unicode/utf8.acceptRanges", "internal/bytealg.MaxLen"], apart := false, laid := [("unicode/utf8.acceptRanges", laid_unicode_utf8_acceptRanges), ("unicode/utf8.first", laid_unicode_utf8_first)], narrowed := true }
def ChunkNextUptoSaid : Prop := chunkNextUptoRow.holds Tryd.pinned (OpenSpec.upto chunkNextSpec)

/-- 'pantographlaw11.ChunkReads', WHERE WHAT IT READS IS OF BULK AT MOST 1048576: true; the input reads as it did. -/
def chunkReadsUptoRow : OpenClaim := { program := "ytocjhaahifpnbaadoor", sum := "0d0d70bb030574b70a2602f2c91a070d6904dd9de9a0417955673c5b57b9f351", func := "pantograph/pantographlaw11.ChunkReads", spec := "chunkReads", inPlace := ["internal/bytealg.IndexByteString", "internal/bytealg.IndexString", "internal/abi.NoEscape"], unfollowed := true, recurses := true, named := ["internal/bytealg.MaxLen", "unicode/utf8.first", "unicode/utf8.acceptRanges"], apart := false, laid := [("unicode/utf8.acceptRanges", laid_unicode_utf8_acceptRanges), ("unicode/utf8.first", laid_unicode_utf8_first)], narrowed := true }
def ChunkReadsUptoSaid : Prop := chunkReadsUptoRow.holds Tryd.pinned (OpenSpec.upto chunkReadsSpec)

/-- 'pantographlaw11.ChunkPoints', WHERE WHAT IT READS IS OF BULK AT MOST 1048576: true; the input reads as it did. -/
def chunkPointsUptoRow : OpenClaim := { program := "ytocjhaahifpnbaadoor", sum := "0d0d70bb030574b70a2602f2c91a070d6904dd9de9a0417955673c5b57b9f351", func := "pantograph/pantographlaw11.ChunkPoints", spec := "chunkPoints", inPlace := ["internal/bytealg.IndexByteString", "internal/bytealg.IndexString", "internal/abi.NoEscape"], unfollowed := true, recurses := true, named := ["internal/bytealg.MaxLen", "unicode/utf8.first", "unicode/utf8.acceptRanges"], apart := false, laid := [("unicode/utf8.acceptRanges", laid_unicode_utf8_acceptRanges), ("unicode/utf8.first", laid_unicode_utf8_first)], narrowed := true }
def ChunkPointsUptoSaid : Prop := chunkPointsUptoRow.holds Tryd.pinned (OpenSpec.upto chunkPointsSpec)

/-- 'pantographlaw11.ChunkGoes', WHERE WHAT IT READS IS OF BULK AT MOST 1048576: true; the input reads as it did. -/
def chunkGoesUptoRow : OpenClaim := { program := "ytocjhaahifpnbaadoor", sum := "0d0d70bb030574b70a2602f2c91a070d6904dd9de9a0417955673c5b57b9f351", func := "pantograph/pantographlaw11.ChunkGoes", spec := "chunkGoes", inPlace := ["internal/bytealg.IndexByteString", "internal/bytealg.IndexString", "slices.overlaps[pantograph/api.Work]", "internal/abi.NoEscape"], unfollowed := true, recurses := true, named := ["internal/bytealg.MaxLen", "unicode/utf8.first", "unicode/utf8.acceptRanges"], apart := false, laid := [("unicode/utf8.acceptRanges", laid_unicode_utf8_acceptRanges), ("unicode/utf8.first", laid_unicode_utf8_first)], narrowed := true }
def ChunkGoesUptoSaid : Prop := chunkGoesUptoRow.holds Tryd.pinned (OpenSpec.upto chunkGoesSpec)

/-- 'pantographlaw11.ChunkTurns', WHERE WHAT IT READS IS OF BULK AT MOST 1048576: true; the input reads as it did. -/
def chunkTurnsUptoRow : OpenClaim := { program := "ytocjhaahifpnbaadoor", sum := "0d0d70bb030574b70a2602f2c91a070d6904dd9de9a0417955673c5b57b9f351", func := "pantograph/pantographlaw11.ChunkTurns", spec := "chunkTurns", inPlace := ["internal/bytealg.IndexByteString", "internal/bytealg.IndexString", "slices.overlaps[pantograph/api.Work]", "internal/abi.NoEscape"], unfollowed := true, recurses := true, named := ["internal/bytealg.MaxLen", "unicode/utf8.first", "unicode/utf8.acceptRanges"], apart := false, laid := [("unicode/utf8.acceptRanges", laid_unicode_utf8_acceptRanges), ("unicode/utf8.first", laid_unicode_utf8_first)], narrowed := true }
def ChunkTurnsUptoSaid : Prop := chunkTurnsUptoRow.holds Tryd.pinned (OpenSpec.upto chunkTurnsSpec)

end Rows
end Go.Proofs.YtocjhaahifpnbaaDoor
