/-
  NARROWER THAN 'FOR EVERY INPUT', by the rows' own cells (each row's printed sentence says how): EventTables: laid · EventMay: laid · EventSame: laid · EventFollows: laid · EventDrops: laid · EventMany: laid.
  DERIVED. THE GIVEN ROWS OF THIS SEAT. 6 by the template 'for every input the law returns true; each argument reads behind the call as it read before'; 0 by the template 'total and deterministic' (their statements: YtokifgdmddnpoaaDoorTotals.lean).
  GIVEN WITH THE SEED: the statements are not yours to turn. If you find one false, say at which input.
  Laid BY PROGRAM, IN A SANDBOX (cutbox-rows.mjs): the forced cells as the released guide's own fill.sh prints them over the translation 8692cf4ff5303639… (all of the seat's roots in one cut). By AI agents, Wed Nov 11 2026. No macro, syntax, notation, axiom, sorry.
-/
import Derived.Test.YtokifgdmddnpoaaDoorChecked
import GoSem.PinnedTables
import GoSem.Claim
import GoSem.ClaimJoined
import GoSem.ClaimMapViews
import Derived.JoinedTies
import Derived.KernelRfl
namespace Go.Proofs.YtokifgdmddnpoaaDoor
/- THE CELL 'sum', in the pinned program and in every row, IS THE sha256 OF THE DUMP (.gsa) THAT YtokifgdmddnpoaaDoorProg.lean LOADS. Nothing in Lean hashes anything: it is a label: what it is worth is what the hold of that sum in a sandbox is worth. -/
noncomputable def Tryd.pinned : Pinned := { name := "ytokifgdmddnpoaadoor", sum := "8692cf4ff5303639a71a3fd78b2e7ab402af79e7f0b32834004ae2c34f209e84", checked := Tryd.checked }
namespace Rows
def none {H : Type} : Left H := { results := [], args := [] }

/- WHAT THE LISTED PACKAGE-LEVEL VARIABLES READ AS WHEN THE CALL BEGINS. Each datum BY PROGRAM (the guide's laid-datum.mjs) off the statement by which the dump's own 'gosem.cut.vars' lays the variable. In a bare row this is a premise. The card (YtokifgdmddnpoaaDoorCards.lean) ties it to the program's text. -/
def laid_unicode_utf8_acceptRanges {H : Type} : DataW H := .agg [.agg [.lit (.int .u8 128), .lit (.int .u8 191)], .agg [.lit (.int .u8 160), .lit (.int .u8 191)], .agg [.lit (.int .u8 128), .lit (.int .u8 159)], .agg [.lit (.int .u8 144), .lit (.int .u8 191)], .agg [.lit (.int .u8 128), .lit (.int .u8 143)], .agg [.lit (.int .u8 0), .lit (.int .u8 0)], .agg [.lit (.int .u8 0), .lit (.int .u8 0)], .agg [.lit (.int .u8 0), .lit (.int .u8 0)], .agg [.lit (.int .u8 0), .lit (.int .u8 0)], .agg [.lit (.int .u8 0), .lit (.int .u8 0)], .agg [.lit (.int .u8 0), .lit (.int .u8 0)], .agg [.lit (.int .u8 0), .lit (.int .u8 0)], .agg [.lit (.int .u8 0), .lit (.int .u8 0)], .agg [.lit (.int .u8 0), .lit (.int .u8 0)], .agg [.lit (.int .u8 0), .lit (.int .u8 0)], .agg [.lit (.int .u8 0), .lit (.int .u8 0)]]
/-- One of Go's own tables, pinned by name: the form's constant. -/
def laid_unicode_utf8_first : DataW Unit := Go.Pinned.utf8First

/-- 'pantographlaw06.EventTables': WHATEVER THE INPUT: true; the input reads as it did. -/
def eventTablesSpec : ChangeSpec := { name := "eventTables", fn := fun _ => fun
  | [d1, d2] => { results := [.lit (.bool true)], args := [d1, d2] }
  | _ => none }
def eventTablesRow : OpenClaim := { program := "ytokifgdmddnpoaadoor", sum := "8692cf4ff5303639a71a3fd78b2e7ab402af79e7f0b32834004ae2c34f209e84", func := "pantograph/pantographlaw06.EventTables", spec := "eventTables", inPlace := ["internal/bytealg.IndexByteString", "internal/bytealg.IndexString"], unfollowed := true, recurses := true, named := ["internal/bytealg.MaxLen", "unicode/utf8.first", "unicode/utf8.acceptRanges"], apart := false, laid := [("unicode/utf8.acceptRanges", laid_unicode_utf8_acceptRanges), ("unicode/utf8.first", laid_unicode_utf8_first)] }
def EventTablesSaid : Prop := eventTablesRow.holds Tryd.pinned (OpenSpec.ofChange eventTablesSpec)

/-- ITS FALSE NEIGHBOUR: 'it returns false'. Refute it at one input. -/
def eventTablesWrong : ChangeSpec := { name := "eventTables", fn := fun _ => fun
  | [d1, d2] => { results := [.lit (.bool false)], args := [d1, d2] }
  | _ => none }
def EventTablesWrongFalsely : Prop := eventTablesRow.holds Tryd.pinned (OpenSpec.ofChange eventTablesWrong)

/-- 'pantographlaw06.EventMay': WHATEVER THE INPUT: true; the input reads as it did. -/
def eventMaySpec : ChangeSpec := { name := "eventMay", fn := fun _ => fun
  | [d1, d2] => { results := [.lit (.bool true)], args := [d1, d2] }
  | _ => none }
def eventMayRow : OpenClaim := { program := "ytokifgdmddnpoaadoor", sum := "8692cf4ff5303639a71a3fd78b2e7ab402af79e7f0b32834004ae2c34f209e84", func := "pantograph/pantographlaw06.EventMay", spec := "eventMay", inPlace := ["internal/bytealg.IndexByteString", "internal/bytealg.IndexString"], unfollowed := true, recurses := true, named := ["unicode/utf8.first", "unicode/utf8.acceptRanges", "internal/bytealg.MaxLen"], apart := false, laid := [("unicode/utf8.acceptRanges", laid_unicode_utf8_acceptRanges), ("unicode/utf8.first", laid_unicode_utf8_first)] }
def EventMaySaid : Prop := eventMayRow.holds Tryd.pinned (OpenSpec.ofChange eventMaySpec)

/-- ITS FALSE NEIGHBOUR: 'it returns false'. Refute it at one input. -/
def eventMayWrong : ChangeSpec := { name := "eventMay", fn := fun _ => fun
  | [d1, d2] => { results := [.lit (.bool false)], args := [d1, d2] }
  | _ => none }
def EventMayWrongFalsely : Prop := eventMayRow.holds Tryd.pinned (OpenSpec.ofChange eventMayWrong)

/-- 'pantographlaw06.EventSame': WHATEVER THE INPUT: true; the input reads as it did. -/
def eventSameSpec : ChangeSpec := { name := "eventSame", fn := fun _ => fun
  | [d1, d2] => { results := [.lit (.bool true)], args := [d1, d2] }
  | _ => none }
def eventSameRow : OpenClaim := { program := "ytokifgdmddnpoaadoor", sum := "8692cf4ff5303639a71a3fd78b2e7ab402af79e7f0b32834004ae2c34f209e84", func := "pantograph/pantographlaw06.EventSame", spec := "eventSame", inPlace := ["internal/bytealg.IndexByteString", "internal/bytealg.IndexString"], unfollowed := true, recurses := true, named := ["unicode/utf8.first", "unicode/utf8.acceptRanges", "internal/bytealg.MaxLen"], apart := false, laid := [("unicode/utf8.acceptRanges", laid_unicode_utf8_acceptRanges), ("unicode/utf8.first", laid_unicode_utf8_first)] }
def EventSameSaid : Prop := eventSameRow.holds Tryd.pinned (OpenSpec.ofChange eventSameSpec)

/-- ITS FALSE NEIGHBOUR: 'it returns false'. Refute it at one input. -/
def eventSameWrong : ChangeSpec := { name := "eventSame", fn := fun _ => fun
  | [d1, d2] => { results := [.lit (.bool false)], args := [d1, d2] }
  | _ => none }
def EventSameWrongFalsely : Prop := eventSameRow.holds Tryd.pinned (OpenSpec.ofChange eventSameWrong)

/-- 'pantographlaw06.EventFollows': WHATEVER THE INPUT: true; the input reads as it did. -/
def eventFollowsSpec : ChangeSpec := { name := "eventFollows", fn := fun _ => fun
  | [d1, d2, d3] => { results := [.lit (.bool true)], args := [d1, d2, d3] }
  | _ => none }
def eventFollowsRow : OpenClaim := { program := "ytokifgdmddnpoaadoor", sum := "8692cf4ff5303639a71a3fd78b2e7ab402af79e7f0b32834004ae2c34f209e84", func := "pantograph/pantographlaw06.EventFollows", spec := "eventFollows", inPlace := ["internal/bytealg.IndexByteString", "internal/bytealg.IndexString", "slices.overlaps[pantograph/api.Table]"], unfollowed := true, recurses := true, named := ["internal/bytealg.MaxLen", "unicode/utf8.first", "unicode/utf8.acceptRanges"], apart := false, laid := [("unicode/utf8.acceptRanges", laid_unicode_utf8_acceptRanges), ("unicode/utf8.first", laid_unicode_utf8_first)] }
def EventFollowsSaid : Prop := eventFollowsRow.holds Tryd.pinned (OpenSpec.ofChange eventFollowsSpec)

/-- ITS FALSE NEIGHBOUR: 'it returns false'. Refute it at one input. -/
def eventFollowsWrong : ChangeSpec := { name := "eventFollows", fn := fun _ => fun
  | [d1, d2, d3] => { results := [.lit (.bool false)], args := [d1, d2, d3] }
  | _ => none }
def EventFollowsWrongFalsely : Prop := eventFollowsRow.holds Tryd.pinned (OpenSpec.ofChange eventFollowsWrong)

/-- 'pantographlaw06.EventDrops': WHATEVER THE INPUT: true; the input reads as it did. -/
def eventDropsSpec : ChangeSpec := { name := "eventDrops", fn := fun _ => fun
  | [d1, d2, d3] => { results := [.lit (.bool true)], args := [d1, d2, d3] }
  | _ => none }
def eventDropsRow : OpenClaim := { program := "ytokifgdmddnpoaadoor", sum := "8692cf4ff5303639a71a3fd78b2e7ab402af79e7f0b32834004ae2c34f209e84", func := "pantograph/pantographlaw06.EventDrops", spec := "eventDrops", inPlace := ["internal/bytealg.IndexByteString", "internal/bytealg.IndexString", "slices.overlaps[pantograph/api.Table]"], unfollowed := true, recurses := true, named := ["internal/bytealg.MaxLen", "unicode/utf8.first", "unicode/utf8.acceptRanges"], apart := false, laid := [("unicode/utf8.acceptRanges", laid_unicode_utf8_acceptRanges), ("unicode/utf8.first", laid_unicode_utf8_first)] }
def EventDropsSaid : Prop := eventDropsRow.holds Tryd.pinned (OpenSpec.ofChange eventDropsSpec)

/-- ITS FALSE NEIGHBOUR: 'it returns false'. Refute it at one input. -/
def eventDropsWrong : ChangeSpec := { name := "eventDrops", fn := fun _ => fun
  | [d1, d2, d3] => { results := [.lit (.bool false)], args := [d1, d2, d3] }
  | _ => none }
def EventDropsWrongFalsely : Prop := eventDropsRow.holds Tryd.pinned (OpenSpec.ofChange eventDropsWrong)

/-- 'pantographlaw06.EventMany': WHATEVER THE INPUT: true; the input reads as it did. -/
def eventManySpec : ChangeSpec := { name := "eventMany", fn := fun _ => fun
  | [d] => { results := [.lit (.bool true)], args := [d] }
  | _ => none }
def eventManyRow : OpenClaim := { program := "ytokifgdmddnpoaadoor", sum := "8692cf4ff5303639a71a3fd78b2e7ab402af79e7f0b32834004ae2c34f209e84", func := "pantograph/pantographlaw06.EventMany", spec := "eventMany", inPlace := ["internal/bytealg.IndexByteString", "internal/bytealg.IndexString", "slices.overlaps[pantograph/api.Table]"], unfollowed := true, recurses := true, named := ["internal/bytealg.MaxLen", "unicode/utf8.first", "unicode/utf8.acceptRanges"], apart := false, laid := [("unicode/utf8.acceptRanges", laid_unicode_utf8_acceptRanges), ("unicode/utf8.first", laid_unicode_utf8_first)] }
def EventManySaid : Prop := eventManyRow.holds Tryd.pinned (OpenSpec.ofChange eventManySpec)

/-- ITS FALSE NEIGHBOUR: 'it returns false'. Refute it at one input. -/
def eventManyWrong : ChangeSpec := { name := "eventMany", fn := fun _ => fun
  | [d] => { results := [.lit (.bool false)], args := [d] }
  | _ => none }
def EventManyWrongFalsely : Prop := eventManyRow.holds Tryd.pinned (OpenSpec.ofChange eventManyWrong)

/- THE SECOND FORM. 'bulk': how many values and letters a reading holds, each counted each time it is reached (what is shared counts as often as it is met; a slice's spare places count too). A statement '..UptoSaid' is the law's where the arguments, and the package variables that the reading takes, are together of bulk at most 1048576: NARROWER than '..Said'. Prove '..Said' where nothing that the law and all that it calls make is longer than what came in: it says more and counts as full. Else prove '..UptoSaid'. A law counts once. -/
mutual
def uptoBulk {H : Type} : DataW H → Nat
  | .lit (.string bytes) => bytes.length + 1
  | .lit _ => 1
  | .nil => 1
  | .ptr d => uptoBulk d + 1
  | .slice elems spare => uptoBulkAll elems + uptoBulkAll spare + 1
  | .agg parts => uptoBulkAll parts + 1
  | .iface _ d => uptoBulk d + 1
  | .map entries => uptoBulkEntries entries + 1
  | .held _ => 1
def uptoBulkAll {H : Type} : List (DataW H) → Nat
  | [] => 0
  | d :: r => uptoBulk d + uptoBulkAll r
def uptoBulkEntries {H : Type} : List (Lit × DataW H) → Nat
  | [] => 0
  | x :: r => uptoBulkEntry x + uptoBulkEntries r
def uptoBulkEntry {H : Type} : Lit × DataW H → Nat
  | (.string bytes, d) => bytes.length + uptoBulk d + 1
  | (_, d) => uptoBulk d + 1
 end
def uptoSmall : (H : Type) → List (DataW H) → Bool := fun _ ds => decide (uptoBulkAll ds ≤ 1048576)
def OpenSpec.upto (s : _root_.Go.ChangeSpec) : _root_.Go.OpenSpec := { _root_.Go.OpenSpec.ofChange s with cond := some uptoSmall }

/-- 'pantographlaw06.EventTables', WHERE WHAT IT READS IS OF BULK AT MOST 1048576: true; the input reads as it did. -/
def eventTablesUptoRow : OpenClaim := { program := "ytokifgdmddnpoaadoor", sum := "8692cf4ff5303639a71a3fd78b2e7ab402af79e7f0b32834004ae2c34f209e84", func := "pantograph/pantographlaw06.EventTables", spec := "eventTables", inPlace := ["internal/bytealg.IndexByteString", "internal/bytealg.IndexString"], unfollowed := true, recurses := true, named := ["internal/bytealg.MaxLen", "unicode/utf8.first", "unicode/utf8.acceptRanges"], apart := false, laid := [("unicode/utf8.acceptRanges", laid_unicode_utf8_acceptRanges), ("unicode/utf8.first", laid_unicode_utf8_first)], narrowed := true }
def EventTablesUptoSaid : Prop := eventTablesUptoRow.holds Tryd.pinned (OpenSpec.upto eventTablesSpec)

/-- 'pantographlaw06.EventMay', WHERE WHAT IT READS IS OF BULK AT MOST 1048576: true; the input reads as it did. -/
def eventMayUptoRow : OpenClaim := { program := "ytokifgdmddnpoaadoor", sum := "8692cf4ff5303639a71a3fd78b2e7ab402af79e7f0b32834004ae2c34f209e84", func := "pantograph/pantographlaw06.EventMay", spec := "eventMay", inPlace := ["internal/bytealg.IndexByteString", "internal/bytealg.IndexString"], unfollowed := true, recurses := true, named := ["unicode/utf8.first", "unicode/utf8.acceptRanges", "internal/bytealg.MaxLen"], apart := false, laid := [("unicode/utf8.acceptRanges", laid_unicode_utf8_acceptRanges), ("unicode/utf8.first", laid_unicode_utf8_first)], narrowed := true }
def EventMayUptoSaid : Prop := eventMayUptoRow.holds Tryd.pinned (OpenSpec.upto eventMaySpec)

/-- 'pantographlaw06.EventSame', WHERE WHAT IT READS IS OF BULK AT MOST 1048576: true; the input reads as it did. -/
def eventSameUptoRow : OpenClaim := { program := "ytokifgdmddnpoaadoor", sum := "8692cf4ff5303639a71a3fd78b2e7ab402af79e7f0b32834004ae2c34f209e84", func := "pantograph/pantographlaw06.EventSame", spec := "eventSame", inPlace := ["internal/bytealg.IndexByteString", "internal/bytealg.IndexString"], unfollowed := true, recurses := true, named := ["unicode/utf8.first", "unicode/utf8.acceptRanges", "internal/bytealg.MaxLen"], apart := false, laid := [("unicode/utf8.acceptRanges", laid_unicode_utf8_acceptRanges), ("unicode/utf8.first", laid_unicode_utf8_first)], narrowed := true }
def EventSameUptoSaid : Prop := eventSameUptoRow.holds Tryd.pinned (OpenSpec.upto eventSameSpec)

/-- 'pantographlaw06.EventFollows', WHERE WHAT IT READS IS OF BULK AT MOST 1048576: true; the input reads as it did. -/
def eventFollowsUptoRow : OpenClaim := { program := "ytokifgdmddnpoaadoor", sum := "8692cf4ff5303639a71a3fd78b2e7ab402af79e7f0b32834004ae2c34f209e84", func := "pantograph/pantographlaw06.EventFollows", spec := "eventFollows", inPlace := ["internal/bytealg.IndexByteString", "internal/bytealg.IndexString", "slices.overlaps[pantograph/api.Table]"], unfollowed := true, recurses := true, named := ["internal/bytealg.MaxLen", "unicode/utf8.first", "unicode/utf8.acceptRanges"], apart := false, laid := [("unicode/utf8.acceptRanges", laid_unicode_utf8_acceptRanges), ("unicode/utf8.first", laid_unicode_utf8_first)], narrowed := true }
def EventFollowsUptoSaid : Prop := eventFollowsUptoRow.holds Tryd.pinned (OpenSpec.upto eventFollowsSpec)

/-- 'pantographlaw06.EventDrops', WHERE WHAT IT READS IS OF BULK AT MOST 1048576: true; the input reads as it did. -/
def eventDropsUptoRow : OpenClaim := { program := "ytokifgdmddnpoaadoor", sum := "8692cf4ff5303639a71a3fd78b2e7ab402af79e7f0b32834004ae2c34f209e84", func := "pantograph/pantographlaw06.EventDrops", spec := "eventDrops", inPlace := ["internal/bytealg.IndexByteString", "internal/bytealg.IndexString", "slices.overlaps[pantograph/api.Table]"], unfollowed := true, recurses := true, named := ["internal/bytealg.MaxLen", "unicode/utf8.first", "unicode/utf8.acceptRanges"], apart := false, laid := [("unicode/utf8.acceptRanges", laid_unicode_utf8_acceptRanges), ("unicode/utf8.first", laid_unicode_utf8_first)], narrowed := true }
def EventDropsUptoSaid : Prop := eventDropsUptoRow.holds Tryd.pinned (OpenSpec.upto eventDropsSpec)

/-- 'pantographlaw06.EventMany', WHERE WHAT IT READS IS OF BULK AT MOST 1048576: true; the input reads as it did. -/
def eventManyUptoRow : OpenClaim := { program := "ytokifgdmddnpoaadoor", sum := "8692cf4ff5303639a71a3fd78b2e7ab402af79e7f0b32834004ae2c34f209e84", func := "pantograph/pantographlaw06.EventMany", spec := "eventMany", inPlace := ["internal/bytealg.IndexByteString", "internal/bytealg.IndexString", "slices.overlaps[pantograph/api.Table]"], unfollowed := true, recurses := true, named := ["internal/bytealg.MaxLen", "unicode/utf8.first", "unicode/utf8.acceptRanges"], apart := false, laid := [("unicode/utf8.acceptRanges", laid_unicode_utf8_acceptRanges), ("unicode/utf8.first", laid_unicode_utf8_first)], narrowed := true }
def EventManyUptoSaid : Prop := eventManyUptoRow.holds Tryd.pinned (OpenSpec.upto eventManySpec)

end Rows
end Go.Proofs.YtokifgdmddnpoaaDoor
