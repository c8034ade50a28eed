/-
  No cell of these rows narrows 'for every input' (looked for: loops, veiled, ifaces, maps, wideKeys, modest, calm, conditions, laid).
  DERIVED. THE GIVEN ROWS OF THIS SEAT. 4 by the template 'for every input the law returns true; each argument reads behind the call as it read before'; 0 by the template 'total and deterministic' (their statements: YtcgpgpbnpjbhhaaTotals.lean).
  GIVEN WITH THE SEED: the statements are not yours to turn. If you find one false, say at which input.
  Laid BY PROGRAM, IN A SANDBOX (cutbox-rows.mjs): the forced cells as the released guide's own fill.sh prints them over the translation 038b809dd02f20b5… (all of the seat's roots in one cut). By AI agents, Wed Nov 11 2026. No macro, syntax, notation, axiom, sorry.
-/
import Derived.Test.YtcgpgpbnpjbhhaaChecked
import GoSem.Claim
import GoSem.ClaimJoined
import GoSem.ClaimMapViews
import Derived.JoinedTies
import Derived.KernelRfl
namespace Go.Proofs.Ytcgpgpbnpjbhhaa
/- THE CELL 'sum', in the pinned program and in every row, IS THE sha256 OF THE DUMP (.gsa) THAT YtcgpgpbnpjbhhaaProg.lean LOADS. Nothing in Lean hashes anything: it is a label: what it is worth is what the hold of that sum in a sandbox is worth. -/
noncomputable def Try.pinned : Pinned := { name := "ytcgpgpbnpjbhhaa", sum := "038b809dd02f20b5f78286664a5aa50f2d32f113bec7bebf66bad772f1faccb2", checked := Try.checked }
namespace Rows
def none {H : Type} : Left H := { results := [], args := [] }

/-- 'pantographlaw04.SchemaApplies': WHATEVER THE INPUT: true; the input reads as it did. -/
def schemaAppliesSpec : ChangeSpec := { name := "schemaApplies", fn := fun _ => fun
  | [d1, d2] => { results := [.lit (.bool true)], args := [d1, d2] }
  | _ => none }
def schemaAppliesRow : OpenClaim := { program := "ytcgpgpbnpjbhhaa", sum := "038b809dd02f20b5f78286664a5aa50f2d32f113bec7bebf66bad772f1faccb2", func := "pantograph/pantographlaw04.SchemaApplies", spec := "schemaApplies", inPlace := ["internal/bytealg.IndexByteString", "internal/bytealg.IndexString"], unfollowed := true, recurses := true, named := ["internal/bytealg.MaxLen"], apart := false }
def SchemaAppliesSaid : Prop := schemaAppliesRow.holds Try.pinned (OpenSpec.ofChange schemaAppliesSpec)

/-- ITS FALSE NEIGHBOUR: 'it returns false'. Refute it at one input. -/
def schemaAppliesWrong : ChangeSpec := { name := "schemaApplies", fn := fun _ => fun
  | [d1, d2] => { results := [.lit (.bool false)], args := [d1, d2] }
  | _ => none }
def SchemaAppliesWrongFalsely : Prop := schemaAppliesRow.holds Try.pinned (OpenSpec.ofChange schemaAppliesWrong)

/-- 'pantographlaw04.SchemaMay': WHATEVER THE INPUT: true; the input reads as it did. -/
def schemaMaySpec : ChangeSpec := { name := "schemaMay", fn := fun _ => fun
  | [d1, d2, d3] => { results := [.lit (.bool true)], args := [d1, d2, d3] }
  | _ => none }
def schemaMayRow : OpenClaim := { program := "ytcgpgpbnpjbhhaa", sum := "038b809dd02f20b5f78286664a5aa50f2d32f113bec7bebf66bad772f1faccb2", func := "pantograph/pantographlaw04.SchemaMay", spec := "schemaMay", inPlace := ["internal/bytealg.IndexByteString", "internal/bytealg.IndexString"], unfollowed := true, recurses := true, named := ["internal/bytealg.MaxLen"], apart := false }
def SchemaMaySaid : Prop := schemaMayRow.holds Try.pinned (OpenSpec.ofChange schemaMaySpec)

/-- ITS FALSE NEIGHBOUR: 'it returns false'. Refute it at one input. -/
def schemaMayWrong : ChangeSpec := { name := "schemaMay", fn := fun _ => fun
  | [d1, d2, d3] => { results := [.lit (.bool false)], args := [d1, d2, d3] }
  | _ => none }
def SchemaMayWrongFalsely : Prop := schemaMayRow.holds Try.pinned (OpenSpec.ofChange schemaMayWrong)

/-- 'pantographlaw04.SchemaTurns': WHATEVER THE INPUT: true; the input reads as it did. -/
def schemaTurnsSpec : ChangeSpec := { name := "schemaTurns", fn := fun _ => fun
  | [d1, d2, d3] => { results := [.lit (.bool true)], args := [d1, d2, d3] }
  | _ => none }
def schemaTurnsRow : OpenClaim := { program := "ytcgpgpbnpjbhhaa", sum := "038b809dd02f20b5f78286664a5aa50f2d32f113bec7bebf66bad772f1faccb2", func := "pantograph/pantographlaw04.SchemaTurns", spec := "schemaTurns", inPlace := ["internal/bytealg.IndexByteString", "internal/bytealg.IndexString"], unfollowed := true, recurses := true, named := ["internal/bytealg.MaxLen"], apart := false }
def SchemaTurnsSaid : Prop := schemaTurnsRow.holds Try.pinned (OpenSpec.ofChange schemaTurnsSpec)

/-- ITS FALSE NEIGHBOUR: 'it returns false'. Refute it at one input. -/
def schemaTurnsWrong : ChangeSpec := { name := "schemaTurns", fn := fun _ => fun
  | [d1, d2, d3] => { results := [.lit (.bool false)], args := [d1, d2, d3] }
  | _ => none }
def SchemaTurnsWrongFalsely : Prop := schemaTurnsRow.holds Try.pinned (OpenSpec.ofChange schemaTurnsWrong)

/-- 'pantographlaw04.SchemaBack': WHATEVER THE INPUT: true; the input reads as it did. -/
def schemaBackSpec : ChangeSpec := { name := "schemaBack", fn := fun _ => fun
  | [d1, d2, d3] => { results := [.lit (.bool true)], args := [d1, d2, d3] }
  | _ => none }
def schemaBackRow : OpenClaim := { program := "ytcgpgpbnpjbhhaa", sum := "038b809dd02f20b5f78286664a5aa50f2d32f113bec7bebf66bad772f1faccb2", func := "pantograph/pantographlaw04.SchemaBack", spec := "schemaBack", inPlace := ["internal/bytealg.IndexByteString", "internal/bytealg.IndexString"], unfollowed := true, recurses := true, named := ["internal/bytealg.MaxLen"], apart := false }
def SchemaBackSaid : Prop := schemaBackRow.holds Try.pinned (OpenSpec.ofChange schemaBackSpec)

/-- ITS FALSE NEIGHBOUR: 'it returns false'. Refute it at one input. -/
def schemaBackWrong : ChangeSpec := { name := "schemaBack", fn := fun _ => fun
  | [d1, d2, d3] => { results := [.lit (.bool false)], args := [d1, d2, d3] }
  | _ => none }
def SchemaBackWrongFalsely : Prop := schemaBackRow.holds Try.pinned (OpenSpec.ofChange schemaBackWrong)

/- THE SECOND FORM. 'bulk': how many values and letters a reading holds, each counted each time it is reached (what is shared counts as often as it is met; a slice's spare places count too). A statement '..UptoSaid' is the law's where the arguments, and the package variables that the reading takes, are together of bulk at most 1048576: NARROWER than '..Said'. Prove '..Said' where nothing that the law and all that it calls make is longer than what came in: it says more and counts as full. Else prove '..UptoSaid'. A law counts once. -/
mutual
def uptoBulk {H : Type} : DataW H → Nat
  | .lit (.string bytes) => bytes.length + 1
  | .lit _ => 1
  | .nil => 1
  | .ptr d => uptoBulk d + 1
  | .slice elems spare => uptoBulkAll elems + uptoBulkAll spare + 1
  | .agg parts => uptoBulkAll parts + 1
  | .iface _ d => uptoBulk d + 1
  | .map entries => uptoBulkEntries entries + 1
  | .held _ => 1
def uptoBulkAll {H : Type} : List (DataW H) → Nat
  | [] => 0
  | d :: r => uptoBulk d + uptoBulkAll r
def uptoBulkEntries {H : Type} : List (Lit × DataW H) → Nat
  | [] => 0
  | x :: r => uptoBulkEntry x + uptoBulkEntries r
def uptoBulkEntry {H : Type} : Lit × DataW H → Nat
  | (.string bytes, d) => bytes.length + uptoBulk d + 1
  | (_, d) => uptoBulk d + 1
 end
def uptoSmall : (H : Type) → List (DataW H) → Bool := fun _ ds => decide (uptoBulkAll ds ≤ 1048576)
def OpenSpec.upto (s : _root_.Go.ChangeSpec) : _root_.Go.OpenSpec := { _root_.Go.OpenSpec.ofChange s with cond := some uptoSmall }

/-- 'pantographlaw04.SchemaApplies', WHERE WHAT IT READS IS OF BULK AT MOST 1048576: true; the input reads as it did. -/
def schemaAppliesUptoRow : OpenClaim := { program := "ytcgpgpbnpjbhhaa", sum := "038b809dd02f20b5f78286664a5aa50f2d32f113bec7bebf66bad772f1faccb2", func := "pantograph/pantographlaw04.SchemaApplies", spec := "schemaApplies", inPlace := ["internal/bytealg.IndexByteString", "internal/bytealg.IndexString"], unfollowed := true, recurses := true, named := ["internal/bytealg.MaxLen"], apart := false, narrowed := true }
def SchemaAppliesUptoSaid : Prop := schemaAppliesUptoRow.holds Try.pinned (OpenSpec.upto schemaAppliesSpec)

/-- 'pantographlaw04.SchemaMay', WHERE WHAT IT READS IS OF BULK AT MOST 1048576: true; the input reads as it did. -/
def schemaMayUptoRow : OpenClaim := { program := "ytcgpgpbnpjbhhaa", sum := "038b809dd02f20b5f78286664a5aa50f2d32f113bec7bebf66bad772f1faccb2", func := "pantograph/pantographlaw04.SchemaMay", spec := "schemaMay", inPlace := ["internal/bytealg.IndexByteString", "internal/bytealg.IndexString"], unfollowed := true, recurses := true, named := ["internal/bytealg.MaxLen"], apart := false, narrowed := true }
def SchemaMayUptoSaid : Prop := schemaMayUptoRow.holds Try.pinned (OpenSpec.upto schemaMaySpec)

/-- 'pantographlaw04.SchemaTurns', WHERE WHAT IT READS IS OF BULK AT MOST 1048576: true; the input reads as it did. -/
def schemaTurnsUptoRow : OpenClaim := { program := "ytcgpgpbnpjbhhaa", sum := "038b809dd02f20b5f78286664a5aa50f2d32f113bec7bebf66bad772f1faccb2", func := "pantograph/pantographlaw04.SchemaTurns", spec := "schemaTurns", inPlace := ["internal/bytealg.IndexByteString", "internal/bytealg.IndexString"], unfollowed := true, recurses := true, named := ["internal/bytealg.MaxLen"], apart := false, narrowed := true }
def SchemaTurnsUptoSaid : Prop := schemaTurnsUptoRow.holds Try.pinned (OpenSpec.upto schemaTurnsSpec)

/-- 'pantographlaw04.SchemaBack', WHERE WHAT IT READS IS OF BULK AT MOST 1048576: true; the input reads as it did. -/
def schemaBackUptoRow : OpenClaim := { program := "ytcgpgpbnpjbhhaa", sum := "038b809dd02f20b5f78286664a5aa50f2d32f113bec7bebf66bad772f1faccb2", func := "pantograph/pantographlaw04.SchemaBack", spec := "schemaBack", inPlace := ["internal/bytealg.IndexByteString", "internal/bytealg.IndexString"], unfollowed := true, recurses := true, named := ["internal/bytealg.MaxLen"], apart := false, narrowed := true }
def SchemaBackUptoSaid : Prop := schemaBackUptoRow.holds Try.pinned (OpenSpec.upto schemaBackSpec)

end Rows
end Go.Proofs.Ytcgpgpbnpjbhhaa
