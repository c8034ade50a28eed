/-
  NARROWER THAN 'FOR EVERY INPUT', by the rows' own cells (each row's printed sentence says how): SourcePages: laid · SourceUndoes: laid · SourceCounts: laid · SourcePlays: laid · SourceTells: laid · SourceOwns: laid.
  DERIVED. THE GIVEN ROWS OF THIS SEAT. 6 by the template 'for every input the law returns true; each argument reads behind the call as it read before'; 0 by the template 'total and deterministic' (their statements: YteiagdlfccbpcaaGreatDoorTotals.lean).
  GIVEN WITH THE SEED: the statements are not yours to turn. If you find one false, say at which input.
  Laid BY PROGRAM, IN A SANDBOX (cutbox-rows.mjs): the forced cells as the released guide's own fill.sh prints them over the translation 110feeb1080bda97… (all of the seat's roots in one cut). By AI agents, Wed Nov 11 2026. No macro, syntax, notation, axiom, sorry.
-/
import Derived.Test.YteiagdlfccbpcaaGreatDoorChecked
import GoSem.PinnedTables
import GoSem.Claim
import GoSem.ClaimJoined
import GoSem.ClaimMapViews
import Derived.JoinedTies
import Derived.KernelRfl
namespace Go.Proofs.YteiagdlfccbpcaaGreatDoor
/- THE CELL 'sum', in the pinned program and in every row, IS THE sha256 OF THE DUMP (.gsa) THAT YteiagdlfccbpcaaGreatDoorProg.lean LOADS. Nothing in Lean hashes anything: it is a label: what it is worth is what the hold of that sum in a sandbox is worth. -/
noncomputable def Tryz.pinned : Pinned := { name := "yteiagdlfccbpcaagreatdoor", sum := "110feeb1080bda97326cdb09a85d29cbace04de4b12c8ac34aeb2674bb86bf41", checked := Tryz.checked }
namespace Rows
def none {H : Type} : Left H := { results := [], args := [] }

/- WHAT THE LISTED PACKAGE-LEVEL VARIABLES READ AS WHEN THE CALL BEGINS. Each datum BY PROGRAM (the guide's laid-datum.mjs) off the statement by which the dump's own 'gosem.cut.vars' lays the variable. In a bare row this is a premise. The card (YteiagdlfccbpcaaGreatDoorCards.lean) ties it to the program's text. -/
def laid_unicode_utf8_acceptRanges {H : Type} : DataW H := .agg [.agg [.lit (.int .u8 128), .lit (.int .u8 191)], .agg [.lit (.int .u8 160), .lit (.int .u8 191)], .agg [.lit (.int .u8 128), .lit (.int .u8 159)], .agg [.lit (.int .u8 144), .lit (.int .u8 191)], .agg [.lit (.int .u8 128), .lit (.int .u8 143)], .agg [.lit (.int .u8 0), .lit (.int .u8 0)], .agg [.lit (.int .u8 0), .lit (.int .u8 0)], .agg [.lit (.int .u8 0), .lit (.int .u8 0)], .agg [.lit (.int .u8 0), .lit (.int .u8 0)], .agg [.lit (.int .u8 0), .lit (.int .u8 0)], .agg [.lit (.int .u8 0), .lit (.int .u8 0)], .agg [.lit (.int .u8 0), .lit (.int .u8 0)], .agg [.lit (.int .u8 0), .lit (.int .u8 0)], .agg [.lit (.int .u8 0), .lit (.int .u8 0)], .agg [.lit (.int .u8 0), .lit (.int .u8 0)], .agg [.lit (.int .u8 0), .lit (.int .u8 0)]]
/-- One of Go's own tables, pinned by name: the form's constant. -/
def laid_unicode_utf8_first : DataW Unit := Go.Pinned.utf8First

/-- 'pantographlaw10.SourcePages': WHATEVER THE INPUT: true; the input reads as it did. -/
def sourcePagesSpec : ChangeSpec := { name := "sourcePages", fn := fun _ => fun
  | [d1, d2] => { results := [.lit (.bool true)], args := [d1, d2] }
  | _ => none }
def sourcePagesRow : OpenClaim := { program := "yteiagdlfccbpcaagreatdoor", sum := "110feeb1080bda97326cdb09a85d29cbace04de4b12c8ac34aeb2674bb86bf41", func := "pantograph/pantographlaw10.SourcePages", spec := "sourcePages", inPlace := ["internal/bytealg.IndexByteString", "internal/bytealg.IndexString", "slices.overlaps[pantograph/api.Table]"], unfollowed := true, recurses := true, named := ["unicode/utf8.first", "unicode/utf8.acceptRanges", "internal/bytealg.MaxLen"], apart := false, laid := [("unicode/utf8.acceptRanges", laid_unicode_utf8_acceptRanges), ("unicode/utf8.first", laid_unicode_utf8_first)] }
def SourcePagesSaid : Prop := sourcePagesRow.holds Tryz.pinned (OpenSpec.ofChange sourcePagesSpec)

/-- ITS FALSE NEIGHBOUR: 'it returns false'. Refute it at one input. -/
def sourcePagesWrong : ChangeSpec := { name := "sourcePages", fn := fun _ => fun
  | [d1, d2] => { results := [.lit (.bool false)], args := [d1, d2] }
  | _ => none }
def SourcePagesWrongFalsely : Prop := sourcePagesRow.holds Tryz.pinned (OpenSpec.ofChange sourcePagesWrong)

/-- 'pantographlaw10.SourceUndoes': WHATEVER THE INPUT: true; the input reads as it did. -/
def sourceUndoesSpec : ChangeSpec := { name := "sourceUndoes", fn := fun _ => fun
  | [d1, d2] => { results := [.lit (.bool true)], args := [d1, d2] }
  | _ => none }
def sourceUndoesRow : OpenClaim := { program := "yteiagdlfccbpcaagreatdoor", sum := "110feeb1080bda97326cdb09a85d29cbace04de4b12c8ac34aeb2674bb86bf41", func := "pantograph/pantographlaw10.SourceUndoes", spec := "sourceUndoes", inPlace := ["internal/bytealg.IndexByteString", "internal/bytealg.IndexString", "slices.overlaps[pantograph/api.Table]"], unfollowed := true, recurses := true, named := ["unicode/utf8.first", "unicode/utf8.acceptRanges", "internal/bytealg.MaxLen"], apart := false, laid := [("unicode/utf8.acceptRanges", laid_unicode_utf8_acceptRanges), ("unicode/utf8.first", laid_unicode_utf8_first)] }
def SourceUndoesSaid : Prop := sourceUndoesRow.holds Tryz.pinned (OpenSpec.ofChange sourceUndoesSpec)

/-- ITS FALSE NEIGHBOUR: 'it returns false'. Refute it at one input. -/
def sourceUndoesWrong : ChangeSpec := { name := "sourceUndoes", fn := fun _ => fun
  | [d1, d2] => { results := [.lit (.bool false)], args := [d1, d2] }
  | _ => none }
def SourceUndoesWrongFalsely : Prop := sourceUndoesRow.holds Tryz.pinned (OpenSpec.ofChange sourceUndoesWrong)

/-- 'pantographlaw10.SourceCounts': WHATEVER THE INPUT: true; the input reads as it did. -/
def sourceCountsSpec : ChangeSpec := { name := "sourceCounts", fn := fun _ => fun
  | [d] => { results := [.lit (.bool true)], args := [d] }
  | _ => none }
def sourceCountsRow : OpenClaim := { program := "yteiagdlfccbpcaagreatdoor", sum := "110feeb1080bda97326cdb09a85d29cbace04de4b12c8ac34aeb2674bb86bf41", func := "pantograph/pantographlaw10.SourceCounts", spec := "sourceCounts", inPlace := ["internal/bytealg.IndexByteString", "internal/bytealg.IndexString", "slices.overlaps[pantograph/api.Table]"], unfollowed := true, recurses := true, named := ["unicode/utf8.first", "unicode/utf8.acceptRanges", "internal/bytealg.MaxLen"], apart := false, laid := [("unicode/utf8.acceptRanges", laid_unicode_utf8_acceptRanges), ("unicode/utf8.first", laid_unicode_utf8_first)] }
def SourceCountsSaid : Prop := sourceCountsRow.holds Tryz.pinned (OpenSpec.ofChange sourceCountsSpec)

/-- ITS FALSE NEIGHBOUR: 'it returns false'. Refute it at one input. -/
def sourceCountsWrong : ChangeSpec := { name := "sourceCounts", fn := fun _ => fun
  | [d] => { results := [.lit (.bool false)], args := [d] }
  | _ => none }
def SourceCountsWrongFalsely : Prop := sourceCountsRow.holds Tryz.pinned (OpenSpec.ofChange sourceCountsWrong)

/-- 'pantographlaw10.SourcePlays': WHATEVER THE INPUT: true; the input reads as it did. -/
def sourcePlaysSpec : ChangeSpec := { name := "sourcePlays", fn := fun _ => fun
  | [d] => { results := [.lit (.bool true)], args := [d] }
  | _ => none }
def sourcePlaysRow : OpenClaim := { program := "yteiagdlfccbpcaagreatdoor", sum := "110feeb1080bda97326cdb09a85d29cbace04de4b12c8ac34aeb2674bb86bf41", func := "pantograph/pantographlaw10.SourcePlays", spec := "sourcePlays", inPlace := ["internal/bytealg.IndexByteString", "internal/bytealg.IndexString", "slices.overlaps[pantograph/api.Table]"], unfollowed := true, recurses := true, named := ["unicode/utf8.first", "unicode/utf8.acceptRanges", "internal/bytealg.MaxLen"], apart := false, laid := [("unicode/utf8.acceptRanges", laid_unicode_utf8_acceptRanges), ("unicode/utf8.first", laid_unicode_utf8_first)] }
def SourcePlaysSaid : Prop := sourcePlaysRow.holds Tryz.pinned (OpenSpec.ofChange sourcePlaysSpec)

/-- ITS FALSE NEIGHBOUR: 'it returns false'. Refute it at one input. -/
def sourcePlaysWrong : ChangeSpec := { name := "sourcePlays", fn := fun _ => fun
  | [d] => { results := [.lit (.bool false)], args := [d] }
  | _ => none }
def SourcePlaysWrongFalsely : Prop := sourcePlaysRow.holds Tryz.pinned (OpenSpec.ofChange sourcePlaysWrong)

/-- 'pantographlaw10.SourceTells': WHATEVER THE INPUT: true; the input reads as it did. -/
def sourceTellsSpec : ChangeSpec := { name := "sourceTells", fn := fun _ => fun
  | [d] => { results := [.lit (.bool true)], args := [d] }
  | _ => none }
def sourceTellsRow : OpenClaim := { program := "yteiagdlfccbpcaagreatdoor", sum := "110feeb1080bda97326cdb09a85d29cbace04de4b12c8ac34aeb2674bb86bf41", func := "pantograph/pantographlaw10.SourceTells", spec := "sourceTells", inPlace := ["internal/bytealg.IndexByteString", "internal/bytealg.IndexString", "slices.overlaps[pantograph/api.Table]"], unfollowed := true, recurses := true, named := ["unicode/utf8.first", "unicode/utf8.acceptRanges", "internal/bytealg.MaxLen"], apart := false, laid := [("unicode/utf8.acceptRanges", laid_unicode_utf8_acceptRanges), ("unicode/utf8.first", laid_unicode_utf8_first)] }
def SourceTellsSaid : Prop := sourceTellsRow.holds Tryz.pinned (OpenSpec.ofChange sourceTellsSpec)

/-- ITS FALSE NEIGHBOUR: 'it returns false'. Refute it at one input. -/
def sourceTellsWrong : ChangeSpec := { name := "sourceTells", fn := fun _ => fun
  | [d] => { results := [.lit (.bool false)], args := [d] }
  | _ => none }
def SourceTellsWrongFalsely : Prop := sourceTellsRow.holds Tryz.pinned (OpenSpec.ofChange sourceTellsWrong)

/-- 'pantographlaw10.SourceOwns': WHATEVER THE INPUT: true; the input reads as it did. -/
def sourceOwnsSpec : ChangeSpec := { name := "sourceOwns", fn := fun _ => fun
  | [d] => { results := [.lit (.bool true)], args := [d] }
  | _ => none }
def sourceOwnsRow : OpenClaim := { program := "yteiagdlfccbpcaagreatdoor", sum := "110feeb1080bda97326cdb09a85d29cbace04de4b12c8ac34aeb2674bb86bf41", func := "pantograph/pantographlaw10.SourceOwns", spec := "sourceOwns", inPlace := ["internal/bytealg.IndexByteString", "internal/bytealg.IndexString", "slices.overlaps[pantograph/api.Table]"], unfollowed := true, recurses := true, named := ["unicode/utf8.first", "unicode/utf8.acceptRanges", "internal/bytealg.MaxLen"], apart := false, laid := [("unicode/utf8.acceptRanges", laid_unicode_utf8_acceptRanges), ("unicode/utf8.first", laid_unicode_utf8_first)] }
def SourceOwnsSaid : Prop := sourceOwnsRow.holds Tryz.pinned (OpenSpec.ofChange sourceOwnsSpec)

/-- ITS FALSE NEIGHBOUR: 'it returns false'. Refute it at one input. -/
def sourceOwnsWrong : ChangeSpec := { name := "sourceOwns", fn := fun _ => fun
  | [d] => { results := [.lit (.bool false)], args := [d] }
  | _ => none }
def SourceOwnsWrongFalsely : Prop := sourceOwnsRow.holds Tryz.pinned (OpenSpec.ofChange sourceOwnsWrong)

/- THE SECOND FORM. 'bulk': how many values and letters a reading holds, each counted each time it is reached (what is shared counts as often as it is met; a slice's spare places count too). A statement '..UptoSaid' is the law's where the arguments, and the package variables that the reading takes, are together of bulk at most 1048576: NARROWER than '..Said'. Prove '..Said' where nothing that the law and all that it calls make is longer than what came in: it says more and counts as full. Else prove '..UptoSaid'. A law counts once. -/
mutual
def uptoBulk {H : Type} : DataW H → Nat
  | .lit (.string bytes) => bytes.length + 1
  | .lit _ => 1
  | .nil => 1
  | .ptr d => uptoBulk d + 1
  | .slice elems spare => uptoBulkAll elems + uptoBulkAll spare + 1
  | .agg parts => uptoBulkAll parts + 1
  | .iface _ d => uptoBulk d + 1
  | .map entries => uptoBulkEntries entries + 1
  | .held _ => 1
def uptoBulkAll {H : Type} : List (DataW H) → Nat
  | [] => 0
  | d :: r => uptoBulk d + uptoBulkAll r
def uptoBulkEntries {H : Type} : List (Lit × DataW H) → Nat
  | [] => 0
  | x :: r => uptoBulkEntry x + uptoBulkEntries r
def uptoBulkEntry {H : Type} : Lit × DataW H → Nat
  | (.string bytes, d) => bytes.length + uptoBulk d + 1
  | (_, d) => uptoBulk d + 1
 end
def uptoSmall : (H : Type) → List (DataW H) → Bool := fun _ ds => decide (uptoBulkAll ds ≤ 1048576)
def OpenSpec.upto (s : _root_.Go.ChangeSpec) : _root_.Go.OpenSpec := { _root_.Go.OpenSpec.ofChange s with cond := some uptoSmall }

/-- 'pantographlaw10.SourcePages', WHERE WHAT IT READS IS OF BULK AT MOST 1048576: true; the input reads as it did. -/
def sourcePagesUptoRow : OpenClaim := { program := "yteiagdlfccbpcaagreatdoor", sum := "110feeb1080bda97326cdb09a85d29cbace04de4b12c8ac34aeb2674bb86bf41", func := "pantograph/pantographlaw10.SourcePages", spec := "sourcePages", inPlace := ["internal/bytealg.IndexByteString", "internal/bytealg.IndexString", "slices.overlaps[pantograph/api.Table]"], unfollowed := true, recurses := true, named := ["unicode/utf8.first", "unicode/utf8.acceptRanges", "internal/bytealg.MaxLen"], apart := false, laid := [("unicode/utf8.acceptRanges", laid_unicode_utf8_acceptRanges), ("unicode/utf8.first", laid_unicode_utf8_first)], narrowed := true }
def SourcePagesUptoSaid : Prop := sourcePagesUptoRow.holds Tryz.pinned (OpenSpec.upto sourcePagesSpec)

/-- 'pantographlaw10.SourceUndoes', WHERE WHAT IT READS IS OF BULK AT MOST 1048576: true; the input reads as it did. -/
def sourceUndoesUptoRow : OpenClaim := { program := "yteiagdlfccbpcaagreatdoor", sum := "110feeb1080bda97326cdb09a85d29cbace04de4b12c8ac34aeb2674bb86bf41", func := "pantograph/pantographlaw10.SourceUndoes", spec := "sourceUndoes", inPlace := ["internal/bytealg.IndexByteString", "internal/bytealg.IndexString", "slices.overlaps[pantograph/api.Table]"], unfollowed := true, recurses := true, named := ["unicode/utf8.first", "unicode/utf8.acceptRanges", "internal/bytealg.MaxLen"], apart := false, laid := [("unicode/utf8.acceptRanges", laid_unicode_utf8_acceptRanges), ("unicode/utf8.first", laid_unicode_utf8_first)], narrowed := true }
def SourceUndoesUptoSaid : Prop := sourceUndoesUptoRow.holds Tryz.pinned (OpenSpec.upto sourceUndoesSpec)

/-- 'pantographlaw10.SourceCounts', WHERE WHAT IT READS IS OF BULK AT MOST 1048576: true; the input reads as it did. -/
def sourceCountsUptoRow : OpenClaim := { program := "yteiagdlfccbpcaagreatdoor", sum := "110feeb1080bda97326cdb09a85d29cbace04de4b12c8ac34aeb2674bb86bf41", func := "pantograph/pantographlaw10.SourceCounts", spec := "sourceCounts", inPlace := ["internal/bytealg.IndexByteString", "internal/bytealg.IndexString", "slices.overlaps[pantograph/api.Table]"], unfollowed := true, recurses := true, named := ["unicode/utf8.first", "unicode/utf8.acceptRanges", "internal/bytealg.MaxLen"], apart := false, laid := [("unicode/utf8.acceptRanges", laid_unicode_utf8_acceptRanges), ("unicode/utf8.first", laid_unicode_utf8_first)], narrowed := true }
def SourceCountsUptoSaid : Prop := sourceCountsUptoRow.holds Tryz.pinned (OpenSpec.upto sourceCountsSpec)

/-- 'pantographlaw10.SourcePlays', WHERE WHAT IT READS IS OF BULK AT MOST 1048576: true; the input reads as it did. -/
def sourcePlaysUptoRow : OpenClaim := { program := "yteiagdlfccbpcaagreatdoor", sum := "110feeb1080bda97326cdb09a85d29cbace04de4b12c8ac34aeb2674bb86bf41", func := "pantograph/pantographlaw10.SourcePlays", spec := "sourcePlays", inPlace := ["internal/bytealg.IndexByteString", "internal/bytealg.IndexString", "slices.overlaps[pantograph/api.Table]"], unfollowed := true, recurses := true, named := ["unicode/utf8.first", "unicode/utf8.acceptRanges", "internal/bytealg.MaxLen"], apart := false, laid := [("unicode/utf8.acceptRanges", laid_unicode_utf8_acceptRanges), ("unicode/utf8.first", laid_unicode_utf8_first)], narrowed := true }
def SourcePlaysUptoSaid : Prop := sourcePlaysUptoRow.holds Tryz.pinned (OpenSpec.upto sourcePlaysSpec)

/-- 'pantographlaw10.SourceTells', WHERE WHAT IT READS IS OF BULK AT MOST 1048576: true; the input reads as it did. -/
def sourceTellsUptoRow : OpenClaim := { program := "yteiagdlfccbpcaagreatdoor", sum := "110feeb1080bda97326cdb09a85d29cbace04de4b12c8ac34aeb2674bb86bf41", func := "pantograph/pantographlaw10.SourceTells", spec := "sourceTells", inPlace := ["internal/bytealg.IndexByteString", "internal/bytealg.IndexString", "slices.overlaps[pantograph/api.Table]"], unfollowed := true, recurses := true, named := ["unicode/utf8.first", "unicode/utf8.acceptRanges", "internal/bytealg.MaxLen"], apart := false, laid := [("unicode/utf8.acceptRanges", laid_unicode_utf8_acceptRanges), ("unicode/utf8.first", laid_unicode_utf8_first)], narrowed := true }
def SourceTellsUptoSaid : Prop := sourceTellsUptoRow.holds Tryz.pinned (OpenSpec.upto sourceTellsSpec)

/-- 'pantographlaw10.SourceOwns', WHERE WHAT IT READS IS OF BULK AT MOST 1048576: true; the input reads as it did. -/
def sourceOwnsUptoRow : OpenClaim := { program := "yteiagdlfccbpcaagreatdoor", sum := "110feeb1080bda97326cdb09a85d29cbace04de4b12c8ac34aeb2674bb86bf41", func := "pantograph/pantographlaw10.SourceOwns", spec := "sourceOwns", inPlace := ["internal/bytealg.IndexByteString", "internal/bytealg.IndexString", "slices.overlaps[pantograph/api.Table]"], unfollowed := true, recurses := true, named := ["unicode/utf8.first", "unicode/utf8.acceptRanges", "internal/bytealg.MaxLen"], apart := false, laid := [("unicode/utf8.acceptRanges", laid_unicode_utf8_acceptRanges), ("unicode/utf8.first", laid_unicode_utf8_first)], narrowed := true }
def SourceOwnsUptoSaid : Prop := sourceOwnsUptoRow.holds Tryz.pinned (OpenSpec.upto sourceOwnsSpec)

end Rows
end Go.Proofs.YteiagdlfccbpcaaGreatDoor
