/-
  NARROWER THAN 'FOR EVERY INPUT', by the rows' own cells (each row's printed sentence says how): BinlogFrames: laid · BinlogScans: laid · BinlogEvents: laid · BinlogGoes: laid · BinlogBursts: laid · BinlogAborts: laid · BinlogMarks: laid.
  DERIVED. THE GIVEN ROWS OF THIS SEAT. 7 by the template 'for every input the law returns true; each argument reads behind the call as it read before'; 0 by the template 'total and deterministic' (their statements: YtcdkklgeepkopaaGreatDoorTotals.lean).
  GIVEN WITH THE SEED: the statements are not yours to turn. If you find one false, say at which input.
  Laid BY PROGRAM, IN A SANDBOX (cutbox-rows.mjs): the forced cells as the released guide's own fill.sh prints them over the translation 7602fd15a193ba1d… (all of the seat's roots in one cut). By AI agents, Wed Nov 11 2026. No macro, syntax, notation, axiom, sorry.
-/
import Derived.Test.YtcdkklgeepkopaaGreatDoorChecked
import GoSem.PinnedTables
import GoSem.Claim
import GoSem.ClaimJoined
import GoSem.ClaimMapViews
import Derived.JoinedTies
import Derived.KernelRfl
namespace Go.Proofs.YtcdkklgeepkopaaGreatDoor
/- THE CELL 'sum', in the pinned program and in every row, IS THE sha256 OF THE DUMP (.gsa) THAT YtcdkklgeepkopaaGreatDoorProg.lean LOADS. Nothing in Lean hashes anything: it is a label: what it is worth is what the hold of that sum in a sandbox is worth. -/
noncomputable def Tryz.pinned : Pinned := { name := "ytcdkklgeepkopaagreatdoor", sum := "7602fd15a193ba1d1bd822d54da4f106882a430671d8c93d2cd613c608cda688", checked := Tryz.checked }
namespace Rows
def none {H : Type} : Left H := { results := [], args := [] }

/- WHAT THE LISTED PACKAGE-LEVEL VARIABLES READ AS WHEN THE CALL BEGINS. Each datum BY PROGRAM (the guide's laid-datum.mjs) off the statement by which the dump's own 'gosem.cut.vars' lays the variable. In a bare row this is a premise. The card (YtcdkklgeepkopaaGreatDoorCards.lean) ties it to the program's text. -/
def laid_unicode_utf8_acceptRanges {H : Type} : DataW H := .agg [.agg [.lit (.int .u8 128), .lit (.int .u8 191)], .agg [.lit (.int .u8 160), .lit (.int .u8 191)], .agg [.lit (.int .u8 128), .lit (.int .u8 159)], .agg [.lit (.int .u8 144), .lit (.int .u8 191)], .agg [.lit (.int .u8 128), .lit (.int .u8 143)], .agg [.lit (.int .u8 0), .lit (.int .u8 0)], .agg [.lit (.int .u8 0), .lit (.int .u8 0)], .agg [.lit (.int .u8 0), .lit (.int .u8 0)], .agg [.lit (.int .u8 0), .lit (.int .u8 0)], .agg [.lit (.int .u8 0), .lit (.int .u8 0)], .agg [.lit (.int .u8 0), .lit (.int .u8 0)], .agg [.lit (.int .u8 0), .lit (.int .u8 0)], .agg [.lit (.int .u8 0), .lit (.int .u8 0)], .agg [.lit (.int .u8 0), .lit (.int .u8 0)], .agg [.lit (.int .u8 0), .lit (.int .u8 0)], .agg [.lit (.int .u8 0), .lit (.int .u8 0)]]
/-- One of Go's own tables, pinned by name: the form's constant. -/
def laid_unicode_utf8_first : DataW Unit := Go.Pinned.utf8First

/-- 'pantographlaw07.BinlogFrames': WHATEVER THE INPUT: true; the input reads as it did. -/
def binlogFramesSpec : ChangeSpec := { name := "binlogFrames", fn := fun _ => fun
  | [d1, d2, d3] => { results := [.lit (.bool true)], args := [d1, d2, d3] }
  | _ => none }
def binlogFramesRow : OpenClaim := { program := "ytcdkklgeepkopaagreatdoor", sum := "7602fd15a193ba1d1bd822d54da4f106882a430671d8c93d2cd613c608cda688", func := "pantograph/pantographlaw07.BinlogFrames", spec := "binlogFrames", inPlace := ["internal/bytealg.IndexByteString", "internal/bytealg.IndexString", "slices.overlaps[pantograph/api.Table]"], unfollowed := true, recurses := true, named := ["unicode/utf8.first", "unicode/utf8.acceptRanges", "internal/bytealg.MaxLen"], apart := false, laid := [("unicode/utf8.acceptRanges", laid_unicode_utf8_acceptRanges), ("unicode/utf8.first", laid_unicode_utf8_first)] }
def BinlogFramesSaid : Prop := binlogFramesRow.holds Tryz.pinned (OpenSpec.ofChange binlogFramesSpec)

/-- ITS FALSE NEIGHBOUR: 'it returns false'. Refute it at one input. -/
def binlogFramesWrong : ChangeSpec := { name := "binlogFrames", fn := fun _ => fun
  | [d1, d2, d3] => { results := [.lit (.bool false)], args := [d1, d2, d3] }
  | _ => none }
def BinlogFramesWrongFalsely : Prop := binlogFramesRow.holds Tryz.pinned (OpenSpec.ofChange binlogFramesWrong)

/-- 'pantographlaw07.BinlogScans': WHATEVER THE INPUT: true; the input reads as it did. -/
def binlogScansSpec : ChangeSpec := { name := "binlogScans", fn := fun _ => fun
  | [d1, d2, d3, d4] => { results := [.lit (.bool true)], args := [d1, d2, d3, d4] }
  | _ => none }
def binlogScansRow : OpenClaim := { program := "ytcdkklgeepkopaagreatdoor", sum := "7602fd15a193ba1d1bd822d54da4f106882a430671d8c93d2cd613c608cda688", func := "pantograph/pantographlaw07.BinlogScans", spec := "binlogScans", inPlace := ["internal/bytealg.IndexByteString", "internal/bytealg.IndexString", "slices.overlaps[pantograph/api.Table]"], unfollowed := true, recurses := true, named := ["unicode/utf8.first", "unicode/utf8.acceptRanges", "internal/bytealg.MaxLen"], apart := false, laid := [("unicode/utf8.acceptRanges", laid_unicode_utf8_acceptRanges), ("unicode/utf8.first", laid_unicode_utf8_first)] }
def BinlogScansSaid : Prop := binlogScansRow.holds Tryz.pinned (OpenSpec.ofChange binlogScansSpec)

/-- ITS FALSE NEIGHBOUR: 'it returns false'. Refute it at one input. -/
def binlogScansWrong : ChangeSpec := { name := "binlogScans", fn := fun _ => fun
  | [d1, d2, d3, d4] => { results := [.lit (.bool false)], args := [d1, d2, d3, d4] }
  | _ => none }
def BinlogScansWrongFalsely : Prop := binlogScansRow.holds Tryz.pinned (OpenSpec.ofChange binlogScansWrong)

/-- 'pantographlaw07.BinlogEvents': WHATEVER THE INPUT: true; the input reads as it did. -/
def binlogEventsSpec : ChangeSpec := { name := "binlogEvents", fn := fun _ => fun
  | [d1, d2, d3] => { results := [.lit (.bool true)], args := [d1, d2, d3] }
  | _ => none }
def binlogEventsRow : OpenClaim := { program := "ytcdkklgeepkopaagreatdoor", sum := "7602fd15a193ba1d1bd822d54da4f106882a430671d8c93d2cd613c608cda688", func := "pantograph/pantographlaw07.BinlogEvents", spec := "binlogEvents", inPlace := ["internal/bytealg.IndexByteString", "internal/bytealg.IndexString", "slices.overlaps[pantograph/api.Table]"], unfollowed := true, recurses := true, named := ["unicode/utf8.first", "unicode/utf8.acceptRanges", "internal/bytealg.MaxLen"], apart := false, laid := [("unicode/utf8.acceptRanges", laid_unicode_utf8_acceptRanges), ("unicode/utf8.first", laid_unicode_utf8_first)] }
def BinlogEventsSaid : Prop := binlogEventsRow.holds Tryz.pinned (OpenSpec.ofChange binlogEventsSpec)

/-- ITS FALSE NEIGHBOUR: 'it returns false'. Refute it at one input. -/
def binlogEventsWrong : ChangeSpec := { name := "binlogEvents", fn := fun _ => fun
  | [d1, d2, d3] => { results := [.lit (.bool false)], args := [d1, d2, d3] }
  | _ => none }
def BinlogEventsWrongFalsely : Prop := binlogEventsRow.holds Tryz.pinned (OpenSpec.ofChange binlogEventsWrong)

/-- 'pantographlaw07.BinlogGoes': WHATEVER THE INPUT: true; the input reads as it did. -/
def binlogGoesSpec : ChangeSpec := { name := "binlogGoes", fn := fun _ => fun
  | [d1, d2] => { results := [.lit (.bool true)], args := [d1, d2] }
  | _ => none }
def binlogGoesRow : OpenClaim := { program := "ytcdkklgeepkopaagreatdoor", sum := "7602fd15a193ba1d1bd822d54da4f106882a430671d8c93d2cd613c608cda688", func := "pantograph/pantographlaw07.BinlogGoes", spec := "binlogGoes", inPlace := ["internal/bytealg.IndexByteString", "internal/bytealg.IndexString", "slices.overlaps[pantograph/api.Table]"], unfollowed := true, recurses := true, named := ["unicode/utf8.first", "unicode/utf8.acceptRanges", "internal/bytealg.MaxLen"], apart := false, laid := [("unicode/utf8.acceptRanges", laid_unicode_utf8_acceptRanges), ("unicode/utf8.first", laid_unicode_utf8_first)] }
def BinlogGoesSaid : Prop := binlogGoesRow.holds Tryz.pinned (OpenSpec.ofChange binlogGoesSpec)

/-- ITS FALSE NEIGHBOUR: 'it returns false'. Refute it at one input. -/
def binlogGoesWrong : ChangeSpec := { name := "binlogGoes", fn := fun _ => fun
  | [d1, d2] => { results := [.lit (.bool false)], args := [d1, d2] }
  | _ => none }
def BinlogGoesWrongFalsely : Prop := binlogGoesRow.holds Tryz.pinned (OpenSpec.ofChange binlogGoesWrong)

/-- 'pantographlaw07.BinlogBursts': WHATEVER THE INPUT: true; the input reads as it did. -/
def binlogBurstsSpec : ChangeSpec := { name := "binlogBursts", fn := fun _ => fun
  | [d1, d2, d3] => { results := [.lit (.bool true)], args := [d1, d2, d3] }
  | _ => none }
def binlogBurstsRow : OpenClaim := { program := "ytcdkklgeepkopaagreatdoor", sum := "7602fd15a193ba1d1bd822d54da4f106882a430671d8c93d2cd613c608cda688", func := "pantograph/pantographlaw07.BinlogBursts", spec := "binlogBursts", inPlace := ["internal/bytealg.IndexByteString", "internal/bytealg.IndexString", "slices.overlaps[pantograph/api.Table]"], unfollowed := true, recurses := true, named := ["unicode/utf8.first", "unicode/utf8.acceptRanges", "internal/bytealg.MaxLen"], apart := false, laid := [("unicode/utf8.acceptRanges", laid_unicode_utf8_acceptRanges), ("unicode/utf8.first", laid_unicode_utf8_first)] }
def BinlogBurstsSaid : Prop := binlogBurstsRow.holds Tryz.pinned (OpenSpec.ofChange binlogBurstsSpec)

/-- ITS FALSE NEIGHBOUR: 'it returns false'. Refute it at one input. -/
def binlogBurstsWrong : ChangeSpec := { name := "binlogBursts", fn := fun _ => fun
  | [d1, d2, d3] => { results := [.lit (.bool false)], args := [d1, d2, d3] }
  | _ => none }
def BinlogBurstsWrongFalsely : Prop := binlogBurstsRow.holds Tryz.pinned (OpenSpec.ofChange binlogBurstsWrong)

/-- 'pantographlaw07.BinlogAborts': WHATEVER THE INPUT: true; the input reads as it did. -/
def binlogAbortsSpec : ChangeSpec := { name := "binlogAborts", fn := fun _ => fun
  | [d1, d2] => { results := [.lit (.bool true)], args := [d1, d2] }
  | _ => none }
def binlogAbortsRow : OpenClaim := { program := "ytcdkklgeepkopaagreatdoor", sum := "7602fd15a193ba1d1bd822d54da4f106882a430671d8c93d2cd613c608cda688", func := "pantograph/pantographlaw07.BinlogAborts", spec := "binlogAborts", inPlace := ["internal/bytealg.IndexByteString", "internal/bytealg.IndexString", "slices.overlaps[pantograph/api.Table]"], unfollowed := true, recurses := true, named := ["unicode/utf8.first", "unicode/utf8.acceptRanges", "internal/bytealg.MaxLen"], apart := false, laid := [("unicode/utf8.acceptRanges", laid_unicode_utf8_acceptRanges), ("unicode/utf8.first", laid_unicode_utf8_first)] }
def BinlogAbortsSaid : Prop := binlogAbortsRow.holds Tryz.pinned (OpenSpec.ofChange binlogAbortsSpec)

/-- ITS FALSE NEIGHBOUR: 'it returns false'. Refute it at one input. -/
def binlogAbortsWrong : ChangeSpec := { name := "binlogAborts", fn := fun _ => fun
  | [d1, d2] => { results := [.lit (.bool false)], args := [d1, d2] }
  | _ => none }
def BinlogAbortsWrongFalsely : Prop := binlogAbortsRow.holds Tryz.pinned (OpenSpec.ofChange binlogAbortsWrong)

/-- 'pantographlaw07.BinlogMarks': WHATEVER THE INPUT: true; the input reads as it did. -/
def binlogMarksSpec : ChangeSpec := { name := "binlogMarks", fn := fun _ => fun
  | [d1, d2] => { results := [.lit (.bool true)], args := [d1, d2] }
  | _ => none }
def binlogMarksRow : OpenClaim := { program := "ytcdkklgeepkopaagreatdoor", sum := "7602fd15a193ba1d1bd822d54da4f106882a430671d8c93d2cd613c608cda688", func := "pantograph/pantographlaw07.BinlogMarks", spec := "binlogMarks", inPlace := ["internal/bytealg.IndexByteString", "internal/bytealg.IndexString", "slices.overlaps[pantograph/api.Table]"], unfollowed := true, recurses := true, named := ["unicode/utf8.first", "unicode/utf8.acceptRanges", "internal/bytealg.MaxLen"], apart := false, laid := [("unicode/utf8.acceptRanges", laid_unicode_utf8_acceptRanges), ("unicode/utf8.first", laid_unicode_utf8_first)] }
def BinlogMarksSaid : Prop := binlogMarksRow.holds Tryz.pinned (OpenSpec.ofChange binlogMarksSpec)

/-- ITS FALSE NEIGHBOUR: 'it returns false'. Refute it at one input. -/
def binlogMarksWrong : ChangeSpec := { name := "binlogMarks", fn := fun _ => fun
  | [d1, d2] => { results := [.lit (.bool false)], args := [d1, d2] }
  | _ => none }
def BinlogMarksWrongFalsely : Prop := binlogMarksRow.holds Tryz.pinned (OpenSpec.ofChange binlogMarksWrong)

/- THE SECOND FORM. 'bulk': how many values and letters a reading holds, each counted each time it is reached (what is shared counts as often as it is met; a slice's spare places count too). A statement '..UptoSaid' is the law's where the arguments, and the package variables that the reading takes, are together of bulk at most 1048576: NARROWER than '..Said'. Prove '..Said' where nothing that the law and all that it calls make is longer than what came in: it says more and counts as full. Else prove '..UptoSaid'. A law counts once. -/
mutual
def uptoBulk {H : Type} : DataW H → Nat
  | .lit (.string bytes) => bytes.length + 1
  | .lit _ => 1
  | .nil => 1
  | .ptr d => uptoBulk d + 1
  | .slice elems spare => uptoBulkAll elems + uptoBulkAll spare + 1
  | .agg parts => uptoBulkAll parts + 1
  | .iface _ d => uptoBulk d + 1
  | .map entries => uptoBulkEntries entries + 1
  | .held _ => 1
def uptoBulkAll {H : Type} : List (DataW H) → Nat
  | [] => 0
  | d :: r => uptoBulk d + uptoBulkAll r
def uptoBulkEntries {H : Type} : List (Lit × DataW H) → Nat
  | [] => 0
  | x :: r => uptoBulkEntry x + uptoBulkEntries r
def uptoBulkEntry {H : Type} : Lit × DataW H → Nat
  | (.string bytes, d) => bytes.length + uptoBulk d + 1
  | (_, d) => uptoBulk d + 1
 end
def uptoSmall : (H : Type) → List (DataW H) → Bool := fun _ ds => decide (uptoBulkAll ds ≤ 1048576)
def OpenSpec.upto (s : _root_.Go.ChangeSpec) : _root_.Go.OpenSpec := { _root_.Go.OpenSpec.ofChange s with cond := some uptoSmall }

/-- 'pantographlaw07.BinlogFrames', WHERE WHAT IT READS IS OF BULK AT MOST 1048576: true; the input reads as it did. -/
def binlogFramesUptoRow : OpenClaim := { program := "ytcdkklgeepkopaagreatdoor", sum := "7602fd15a193ba1d1bd822d54da4f106882a430671d8c93d2cd613c608cda688", func := "pantograph/pantographlaw07.BinlogFrames", spec := "binlogFrames", inPlace := ["internal/bytealg.IndexByteString", "internal/bytealg.IndexString", "slices.overlaps[pantograph/api.Table]"], unfollowed := true, recurses := true, named := ["unicode/utf8.first", "unicode/utf8.acceptRanges", "internal/bytealg.MaxLen"], apart := false, laid := [("unicode/utf8.acceptRanges", laid_unicode_utf8_acceptRanges), ("unicode/utf8.first", laid_unicode_utf8_first)], narrowed := true }
def BinlogFramesUptoSaid : Prop := binlogFramesUptoRow.holds Tryz.pinned (OpenSpec.upto binlogFramesSpec)

/-- 'pantographlaw07.BinlogScans', WHERE WHAT IT READS IS OF BULK AT MOST 1048576: true; the input reads as it did. -/
def binlogScansUptoRow : OpenClaim := { program := "ytcdkklgeepkopaagreatdoor", sum := "7602fd15a193ba1d1bd822d54da4f106882a430671d8c93d2cd613c608cda688", func := "pantograph/pantographlaw07.BinlogScans", spec := "binlogScans", inPlace := ["internal/bytealg.IndexByteString", "internal/bytealg.IndexString", "slices.overlaps[pantograph/api.Table]"], unfollowed := true, recurses := true, named := ["unicode/utf8.first", "unicode/utf8.acceptRanges", "internal/bytealg.MaxLen"], apart := false, laid := [("unicode/utf8.acceptRanges", laid_unicode_utf8_acceptRanges), ("unicode/utf8.first", laid_unicode_utf8_first)], narrowed := true }
def BinlogScansUptoSaid : Prop := binlogScansUptoRow.holds Tryz.pinned (OpenSpec.upto binlogScansSpec)

/-- 'pantographlaw07.BinlogEvents', WHERE WHAT IT READS IS OF BULK AT MOST 1048576: true; the input reads as it did. -/
def binlogEventsUptoRow : OpenClaim := { program := "ytcdkklgeepkopaagreatdoor", sum := "7602fd15a193ba1d1bd822d54da4f106882a430671d8c93d2cd613c608cda688", func := "pantograph/pantographlaw07.BinlogEvents", spec := "binlogEvents", inPlace := ["internal/bytealg.IndexByteString", "internal/bytealg.IndexString", "slices.overlaps[pantograph/api.Table]"], unfollowed := true, recurses := true, named := ["unicode/utf8.first", "unicode/utf8.acceptRanges", "internal/bytealg.MaxLen"], apart := false, laid := [("unicode/utf8.acceptRanges", laid_unicode_utf8_acceptRanges), ("unicode/utf8.first", laid_unicode_utf8_first)], narrowed := true }
def BinlogEventsUptoSaid : Prop := binlogEventsUptoRow.holds Tryz.pinned (OpenSpec.upto binlogEventsSpec)

/-- 'pantographlaw07.BinlogGoes', WHERE WHAT IT READS IS OF BULK AT MOST 1048576: true; the input reads as it did. -/
def binlogGoesUptoRow : OpenClaim := { program := "ytcdkklgeepkopaagreatdoor", sum := "7602fd15a193ba1d1bd822d54da4f106882a430671d8c93d2cd613c608cda688", func := "pantograph/pantographlaw07.BinlogGoes", spec := "binlogGoes", inPlace := ["internal/bytealg.IndexByteString", "internal/bytealg.IndexString", "slices.overlaps[pantograph/api.Table]"], unfollowed := true, recurses := true, named := ["unicode/utf8.first", "unicode/utf8.acceptRanges", "internal/bytealg.MaxLen"], apart := false, laid := [("unicode/utf8.acceptRanges", laid_unicode_utf8_acceptRanges), ("unicode/utf8.first", laid_unicode_utf8_first)], narrowed := true }
def BinlogGoesUptoSaid : Prop := binlogGoesUptoRow.holds Tryz.pinned (OpenSpec.upto binlogGoesSpec)

/-- 'pantographlaw07.BinlogBursts', WHERE WHAT IT READS IS OF BULK AT MOST 1048576: true; the input reads as it did. -/
def binlogBurstsUptoRow : OpenClaim := { program := "ytcdkklgeepkopaagreatdoor", sum := "7602fd15a193ba1d1bd822d54da4f106882a430671d8c93d2cd613c608cda688", func := "pantograph/pantographlaw07.BinlogBursts", spec := "binlogBursts", inPlace := ["internal/bytealg.IndexByteString", "internal/bytealg.IndexString", "slices.overlaps[pantograph/api.Table]"], unfollowed := true, recurses := true, named := ["unicode/utf8.first", "unicode/utf8.acceptRanges", "internal/bytealg.MaxLen"], apart := false, laid := [("unicode/utf8.acceptRanges", laid_unicode_utf8_acceptRanges), ("unicode/utf8.first", laid_unicode_utf8_first)], narrowed := true }
def BinlogBurstsUptoSaid : Prop := binlogBurstsUptoRow.holds Tryz.pinned (OpenSpec.upto binlogBurstsSpec)

/-- 'pantographlaw07.BinlogAborts', WHERE WHAT IT READS IS OF BULK AT MOST 1048576: true; the input reads as it did. -/
def binlogAbortsUptoRow : OpenClaim := { program := "ytcdkklgeepkopaagreatdoor", sum := "7602fd15a193ba1d1bd822d54da4f106882a430671d8c93d2cd613c608cda688", func := "pantograph/pantographlaw07.BinlogAborts", spec := "binlogAborts", inPlace := ["internal/bytealg.IndexByteString", "internal/bytealg.IndexString", "slices.overlaps[pantograph/api.Table]"], unfollowed := true, recurses := true, named := ["unicode/utf8.first", "unicode/utf8.acceptRanges", "internal/bytealg.MaxLen"], apart := false, laid := [("unicode/utf8.acceptRanges", laid_unicode_utf8_acceptRanges), ("unicode/utf8.first", laid_unicode_utf8_first)], narrowed := true }
def BinlogAbortsUptoSaid : Prop := binlogAbortsUptoRow.holds Tryz.pinned (OpenSpec.upto binlogAbortsSpec)

/-- 'pantographlaw07.BinlogMarks', WHERE WHAT IT READS IS OF BULK AT MOST 1048576: true; the input reads as it did. -/
def binlogMarksUptoRow : OpenClaim := { program := "ytcdkklgeepkopaagreatdoor", sum := "7602fd15a193ba1d1bd822d54da4f106882a430671d8c93d2cd613c608cda688", func := "pantograph/pantographlaw07.BinlogMarks", spec := "binlogMarks", inPlace := ["internal/bytealg.IndexByteString", "internal/bytealg.IndexString", "slices.overlaps[pantograph/api.Table]"], unfollowed := true, recurses := true, named := ["unicode/utf8.first", "unicode/utf8.acceptRanges", "internal/bytealg.MaxLen"], apart := false, laid := [("unicode/utf8.acceptRanges", laid_unicode_utf8_acceptRanges), ("unicode/utf8.first", laid_unicode_utf8_first)], narrowed := true }
def BinlogMarksUptoSaid : Prop := binlogMarksUptoRow.holds Tryz.pinned (OpenSpec.upto binlogMarksSpec)

end Rows
end Go.Proofs.YtcdkklgeepkopaaGreatDoor
