/-
  NARROWER THAN 'FOR EVERY INPUT', by the rows' own cells (each row's printed sentence says how): WindowOwns: laid · WindowArgs: laid · WindowFollows: laid · WindowBounds: laid · WindowSpoils: laid.
  DERIVED. THE GIVEN ROWS OF THIS SEAT. 5 by the template 'for every input the law returns true; each argument reads behind the call as it read before'; 0 by the template 'total and deterministic' (their statements: YtgikkoeckdhgkaaDoorTotals.lean).
  GIVEN WITH THE SEED: the statements are not yours to turn. If you find one false, say at which input.
  Laid BY PROGRAM, IN A SANDBOX (cutbox-rows.mjs): the forced cells as the released guide's own fill.sh prints them over the translation 0b25c25372cf76c7… (all of the seat's roots in one cut). By AI agents, Wed Nov 11 2026. No macro, syntax, notation, axiom, sorry.
-/
import Derived.Test.YtgikkoeckdhgkaaDoorChecked
import GoSem.PinnedTables
import GoSem.Claim
import GoSem.ClaimJoined
import GoSem.ClaimMapViews
import Derived.JoinedTies
import Derived.KernelRfl
namespace Go.Proofs.YtgikkoeckdhgkaaDoor
/- THE CELL 'sum', in the pinned program and in every row, IS THE sha256 OF THE DUMP (.gsa) THAT YtgikkoeckdhgkaaDoorProg.lean LOADS. Nothing in Lean hashes anything: it is a label: what it is worth is what the hold of that sum in a sandbox is worth. -/
noncomputable def Tryd.pinned : Pinned := { name := "ytgikkoeckdhgkaadoor", sum := "0b25c25372cf76c78fae8cca02071c74d47cfdd9c8169c5b66f80cf75482c85b", checked := Tryd.checked }
namespace Rows
def none {H : Type} : Left H := { results := [], args := [] }

/- WHAT THE LISTED PACKAGE-LEVEL VARIABLES READ AS WHEN THE CALL BEGINS. Each datum BY PROGRAM (the guide's laid-datum.mjs) off the statement by which the dump's own 'gosem.cut.vars' lays the variable. In a bare row this is a premise. The card (YtgikkoeckdhgkaaDoorCards.lean) ties it to the program's text. -/
def laid_unicode_utf8_acceptRanges {H : Type} : DataW H := .agg [.agg [.lit (.int .u8 128), .lit (.int .u8 191)], .agg [.lit (.int .u8 160), .lit (.int .u8 191)], .agg [.lit (.int .u8 128), .lit (.int .u8 159)], .agg [.lit (.int .u8 144), .lit (.int .u8 191)], .agg [.lit (.int .u8 128), .lit (.int .u8 143)], .agg [.lit (.int .u8 0), .lit (.int .u8 0)], .agg [.lit (.int .u8 0), .lit (.int .u8 0)], .agg [.lit (.int .u8 0), .lit (.int .u8 0)], .agg [.lit (.int .u8 0), .lit (.int .u8 0)], .agg [.lit (.int .u8 0), .lit (.int .u8 0)], .agg [.lit (.int .u8 0), .lit (.int .u8 0)], .agg [.lit (.int .u8 0), .lit (.int .u8 0)], .agg [.lit (.int .u8 0), .lit (.int .u8 0)], .agg [.lit (.int .u8 0), .lit (.int .u8 0)], .agg [.lit (.int .u8 0), .lit (.int .u8 0)], .agg [.lit (.int .u8 0), .lit (.int .u8 0)]]
/-- One of Go's own tables, pinned by name: the form's constant. -/
def laid_unicode_utf8_first : DataW Unit := Go.Pinned.utf8First

/-- 'pantographlaw13.WindowOwns': WHATEVER THE INPUT: true; the input reads as it did. -/
def windowOwnsSpec : ChangeSpec := { name := "windowOwns", fn := fun _ => fun
  | [d] => { results := [.lit (.bool true)], args := [d] }
  | _ => none }
def windowOwnsRow : OpenClaim := { program := "ytgikkoeckdhgkaadoor", sum := "0b25c25372cf76c78fae8cca02071c74d47cfdd9c8169c5b66f80cf75482c85b", func := "pantograph/pantographlaw13.WindowOwns", spec := "windowOwns", inPlace := ["internal/bytealg.IndexByteString", "internal/bytealg.IndexString"], unfollowed := true, recurses := true, named := ["internal/bytealg.MaxLen", "unicode/utf8.first", "unicode/utf8.acceptRanges"], apart := false, laid := [("unicode/utf8.acceptRanges", laid_unicode_utf8_acceptRanges), ("unicode/utf8.first", laid_unicode_utf8_first)] }
def WindowOwnsSaid : Prop := windowOwnsRow.holds Tryd.pinned (OpenSpec.ofChange windowOwnsSpec)

/-- ITS FALSE NEIGHBOUR: 'it returns false'. Refute it at one input. -/
def windowOwnsWrong : ChangeSpec := { name := "windowOwns", fn := fun _ => fun
  | [d] => { results := [.lit (.bool false)], args := [d] }
  | _ => none }
def WindowOwnsWrongFalsely : Prop := windowOwnsRow.holds Tryd.pinned (OpenSpec.ofChange windowOwnsWrong)

/-- 'pantographlaw13.WindowArgs': WHATEVER THE INPUT: true; the input reads as it did. -/
def windowArgsSpec : ChangeSpec := { name := "windowArgs", fn := fun _ => fun
  | [d1, d2, d3, d4, d5] => { results := [.lit (.bool true)], args := [d1, d2, d3, d4, d5] }
  | _ => none }
def windowArgsRow : OpenClaim := { program := "ytgikkoeckdhgkaadoor", sum := "0b25c25372cf76c78fae8cca02071c74d47cfdd9c8169c5b66f80cf75482c85b", func := "pantograph/pantographlaw13.WindowArgs", spec := "windowArgs", inPlace := ["internal/bytealg.IndexByteString", "internal/bytealg.IndexString"], unfollowed := true, recurses := true, named := ["internal/bytealg.MaxLen", "unicode/utf8.first", "unicode/utf8.acceptRanges"], apart := false, laid := [("unicode/utf8.acceptRanges", laid_unicode_utf8_acceptRanges), ("unicode/utf8.first", laid_unicode_utf8_first)] }
def WindowArgsSaid : Prop := windowArgsRow.holds Tryd.pinned (OpenSpec.ofChange windowArgsSpec)

/-- ITS FALSE NEIGHBOUR: 'it returns false'. Refute it at one input. -/
def windowArgsWrong : ChangeSpec := { name := "windowArgs", fn := fun _ => fun
  | [d1, d2, d3, d4, d5] => { results := [.lit (.bool false)], args := [d1, d2, d3, d4, d5] }
  | _ => none }
def WindowArgsWrongFalsely : Prop := windowArgsRow.holds Tryd.pinned (OpenSpec.ofChange windowArgsWrong)

/-- 'pantographlaw13.WindowFollows': WHATEVER THE INPUT: true; the input reads as it did. -/
def windowFollowsSpec : ChangeSpec := { name := "windowFollows", fn := fun _ => fun
  | [d1, d2, d3, d4, d5] => { results := [.lit (.bool true)], args := [d1, d2, d3, d4, d5] }
  | _ => none }
def windowFollowsRow : OpenClaim := { program := "ytgikkoeckdhgkaadoor", sum := "0b25c25372cf76c78fae8cca02071c74d47cfdd9c8169c5b66f80cf75482c85b", func := "pantograph/pantographlaw13.WindowFollows", spec := "windowFollows", inPlace := ["internal/bytealg.IndexByteString", "internal/bytealg.IndexString"], unfollowed := true, recurses := true, named := ["internal/bytealg.MaxLen", "unicode/utf8.first", "unicode/utf8.acceptRanges"], apart := false, laid := [("unicode/utf8.acceptRanges", laid_unicode_utf8_acceptRanges), ("unicode/utf8.first", laid_unicode_utf8_first)] }
def WindowFollowsSaid : Prop := windowFollowsRow.holds Tryd.pinned (OpenSpec.ofChange windowFollowsSpec)

/-- ITS FALSE NEIGHBOUR: 'it returns false'. Refute it at one input. -/
def windowFollowsWrong : ChangeSpec := { name := "windowFollows", fn := fun _ => fun
  | [d1, d2, d3, d4, d5] => { results := [.lit (.bool false)], args := [d1, d2, d3, d4, d5] }
  | _ => none }
def WindowFollowsWrongFalsely : Prop := windowFollowsRow.holds Tryd.pinned (OpenSpec.ofChange windowFollowsWrong)

/-- 'pantographlaw13.WindowBounds': WHATEVER THE INPUT: true; the input reads as it did. -/
def windowBoundsSpec : ChangeSpec := { name := "windowBounds", fn := fun _ => fun
  | [d1, d2, d3] => { results := [.lit (.bool true)], args := [d1, d2, d3] }
  | _ => none }
def windowBoundsRow : OpenClaim := { program := "ytgikkoeckdhgkaadoor", sum := "0b25c25372cf76c78fae8cca02071c74d47cfdd9c8169c5b66f80cf75482c85b", func := "pantograph/pantographlaw13.WindowBounds", spec := "windowBounds", inPlace := ["internal/bytealg.IndexByteString", "internal/bytealg.IndexString"], unfollowed := true, recurses := true, named := ["internal/bytealg.MaxLen", "unicode/utf8.first", "unicode/utf8.acceptRanges"], apart := false, laid := [("unicode/utf8.acceptRanges", laid_unicode_utf8_acceptRanges), ("unicode/utf8.first", laid_unicode_utf8_first)] }
def WindowBoundsSaid : Prop := windowBoundsRow.holds Tryd.pinned (OpenSpec.ofChange windowBoundsSpec)

/-- ITS FALSE NEIGHBOUR: 'it returns false'. Refute it at one input. -/
def windowBoundsWrong : ChangeSpec := { name := "windowBounds", fn := fun _ => fun
  | [d1, d2, d3] => { results := [.lit (.bool false)], args := [d1, d2, d3] }
  | _ => none }
def WindowBoundsWrongFalsely : Prop := windowBoundsRow.holds Tryd.pinned (OpenSpec.ofChange windowBoundsWrong)

/-- 'pantographlaw13.WindowSpoils': WHATEVER THE INPUT: true; the input reads as it did. -/
def windowSpoilsSpec : ChangeSpec := { name := "windowSpoils", fn := fun _ => fun
  | [d1, d2, d3, d4] => { results := [.lit (.bool true)], args := [d1, d2, d3, d4] }
  | _ => none }
def windowSpoilsRow : OpenClaim := { program := "ytgikkoeckdhgkaadoor", sum := "0b25c25372cf76c78fae8cca02071c74d47cfdd9c8169c5b66f80cf75482c85b", func := "pantograph/pantographlaw13.WindowSpoils", spec := "windowSpoils", inPlace := ["internal/bytealg.IndexByteString", "internal/bytealg.IndexString"], unfollowed := true, recurses := true, named := ["internal/bytealg.MaxLen", "unicode/utf8.first", "unicode/utf8.acceptRanges"], apart := false, laid := [("unicode/utf8.acceptRanges", laid_unicode_utf8_acceptRanges), ("unicode/utf8.first", laid_unicode_utf8_first)] }
def WindowSpoilsSaid : Prop := windowSpoilsRow.holds Tryd.pinned (OpenSpec.ofChange windowSpoilsSpec)

/-- ITS FALSE NEIGHBOUR: 'it returns false'. Refute it at one input. -/
def windowSpoilsWrong : ChangeSpec := { name := "windowSpoils", fn := fun _ => fun
  | [d1, d2, d3, d4] => { results := [.lit (.bool false)], args := [d1, d2, d3, d4] }
  | _ => none }
def WindowSpoilsWrongFalsely : Prop := windowSpoilsRow.holds Tryd.pinned (OpenSpec.ofChange windowSpoilsWrong)

/- THE SECOND FORM. 'bulk': how many values and letters a reading holds, each counted each time it is reached (what is shared counts as often as it is met; a slice's spare places count too). A statement '..UptoSaid' is the law's where the arguments, and the package variables that the reading takes, are together of bulk at most 1048576: NARROWER than '..Said'. Prove '..Said' where nothing that the law and all that it calls make is longer than what came in: it says more and counts as full. Else prove '..UptoSaid'. A law counts once. -/
mutual
def uptoBulk {H : Type} : DataW H → Nat
  | .lit (.string bytes) => bytes.length + 1
  | .lit _ => 1
  | .nil => 1
  | .ptr d => uptoBulk d + 1
  | .slice elems spare => uptoBulkAll elems + uptoBulkAll spare + 1
  | .agg parts => uptoBulkAll parts + 1
  | .iface _ d => uptoBulk d + 1
  | .map entries => uptoBulkEntries entries + 1
  | .held _ => 1
def uptoBulkAll {H : Type} : List (DataW H) → Nat
  | [] => 0
  | d :: r => uptoBulk d + uptoBulkAll r
def uptoBulkEntries {H : Type} : List (Lit × DataW H) → Nat
  | [] => 0
  | x :: r => uptoBulkEntry x + uptoBulkEntries r
def uptoBulkEntry {H : Type} : Lit × DataW H → Nat
  | (.string bytes, d) => bytes.length + uptoBulk d + 1
  | (_, d) => uptoBulk d + 1
 end
def uptoSmall : (H : Type) → List (DataW H) → Bool := fun _ ds => decide (uptoBulkAll ds ≤ 1048576)
def OpenSpec.upto (s : _root_.Go.ChangeSpec) : _root_.Go.OpenSpec := { _root_.Go.OpenSpec.ofChange s with cond := some uptoSmall }

/-- 'pantographlaw13.WindowOwns', WHERE WHAT IT READS IS OF BULK AT MOST 1048576: true; the input reads as it did. -/
def windowOwnsUptoRow : OpenClaim := { program := "ytgikkoeckdhgkaadoor", sum := "0b25c25372cf76c78fae8cca02071c74d47cfdd9c8169c5b66f80cf75482c85b", func := "pantograph/pantographlaw13.WindowOwns", spec := "windowOwns", inPlace := ["internal/bytealg.IndexByteString", "internal/bytealg.IndexString"], unfollowed := true, recurses := true, named := ["internal/bytealg.MaxLen", "unicode/utf8.first", "unicode/utf8.acceptRanges"], apart := false, laid := [("unicode/utf8.acceptRanges", laid_unicode_utf8_acceptRanges), ("unicode/utf8.first", laid_unicode_utf8_first)], narrowed := true }
def WindowOwnsUptoSaid : Prop := windowOwnsUptoRow.holds Tryd.pinned (OpenSpec.upto windowOwnsSpec)

/-- 'pantographlaw13.WindowArgs', WHERE WHAT IT READS IS OF BULK AT MOST 1048576: true; the input reads as it did. -/
def windowArgsUptoRow : OpenClaim := { program := "ytgikkoeckdhgkaadoor", sum := "0b25c25372cf76c78fae8cca02071c74d47cfdd9c8169c5b66f80cf75482c85b", func := "pantograph/pantographlaw13.WindowArgs", spec := "windowArgs", inPlace := ["internal/bytealg.IndexByteString", "internal/bytealg.IndexString"], unfollowed := true, recurses := true, named := ["internal/bytealg.MaxLen", "unicode/utf8.first", "unicode/utf8.acceptRanges"], apart := false, laid := [("unicode/utf8.acceptRanges", laid_unicode_utf8_acceptRanges), ("unicode/utf8.first", laid_unicode_utf8_first)], narrowed := true }
def WindowArgsUptoSaid : Prop := windowArgsUptoRow.holds Tryd.pinned (OpenSpec.upto windowArgsSpec)

/-- 'pantographlaw13.WindowFollows', WHERE WHAT IT READS IS OF BULK AT MOST 1048576: true; the input reads as it did. -/
def windowFollowsUptoRow : OpenClaim := { program := "ytgikkoeckdhgkaadoor", sum := "0b25c25372cf76c78fae8cca02071c74d47cfdd9c8169c5b66f80cf75482c85b", func := "pantograph/pantographlaw13.WindowFollows", spec := "windowFollows", inPlace := ["internal/bytealg.IndexByteString", "internal/bytealg.IndexString"], unfollowed := true, recurses := true, named := ["internal/bytealg.MaxLen", "unicode/utf8.first", "unicode/utf8.acceptRanges"], apart := false, laid := [("unicode/utf8.acceptRanges", laid_unicode_utf8_acceptRanges), ("unicode/utf8.first", laid_unicode_utf8_first)], narrowed := true }
def WindowFollowsUptoSaid : Prop := windowFollowsUptoRow.holds Tryd.pinned (OpenSpec.upto windowFollowsSpec)

/-- 'pantographlaw13.WindowBounds', WHERE WHAT IT READS IS OF BULK AT MOST 1048576: true; the input reads as it did. -/
def windowBoundsUptoRow : OpenClaim := { program := "ytgikkoeckdhgkaadoor", sum := "0b25c25372cf76c78fae8cca02071c74d47cfdd9c8169c5b66f80cf75482c85b", func := "pantograph/pantographlaw13.WindowBounds", spec := "windowBounds", inPlace := ["internal/bytealg.IndexByteString", "internal/bytealg.IndexString"], unfollowed := true, recurses := true, named := ["internal/bytealg.MaxLen", "unicode/utf8.first", "unicode/utf8.acceptRanges"], apart := false, laid := [("unicode/utf8.acceptRanges", laid_unicode_utf8_acceptRanges), ("unicode/utf8.first", laid_unicode_utf8_first)], narrowed := true }
def WindowBoundsUptoSaid : Prop := windowBoundsUptoRow.holds Tryd.pinned (OpenSpec.upto windowBoundsSpec)

/-- 'pantographlaw13.WindowSpoils', WHERE WHAT IT READS IS OF BULK AT MOST 1048576: true; the input reads as it did. -/
def windowSpoilsUptoRow : OpenClaim := { program := "ytgikkoeckdhgkaadoor", sum := "0b25c25372cf76c78fae8cca02071c74d47cfdd9c8169c5b66f80cf75482c85b", func := "pantograph/pantographlaw13.WindowSpoils", spec := "windowSpoils", inPlace := ["internal/bytealg.IndexByteString", "internal/bytealg.IndexString"], unfollowed := true, recurses := true, named := ["internal/bytealg.MaxLen", "unicode/utf8.first", "unicode/utf8.acceptRanges"], apart := false, laid := [("unicode/utf8.acceptRanges", laid_unicode_utf8_acceptRanges), ("unicode/utf8.first", laid_unicode_utf8_first)], narrowed := true }
def WindowSpoilsUptoSaid : Prop := windowSpoilsUptoRow.holds Tryd.pinned (OpenSpec.upto windowSpoilsSpec)

end Rows
end Go.Proofs.YtgikkoeckdhgkaaDoor
