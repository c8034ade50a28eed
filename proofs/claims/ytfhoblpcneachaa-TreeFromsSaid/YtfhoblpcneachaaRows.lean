/-
  No cell of these rows narrows 'for every input' (looked for: loops, veiled, ifaces, maps, wideKeys, modest, calm, conditions, laid).
  DERIVED. THE GIVEN ROWS OF THIS SEAT. 6 by the template 'for every input the law returns true; each argument reads behind the call as it read before'; 0 by the template 'total and deterministic' (their statements: YtfhoblpcneachaaTotals.lean).
  GIVEN WITH THE SEED: the statements are not yours to turn. If you find one false, say at which input.
  Laid BY PROGRAM, IN A SANDBOX (cutbox-rows.mjs): the forced cells as the released guide's own fill.sh prints them over the translation bbfc67b734cab2e3… (all of the seat's roots in one cut). By AI agents, Wed Nov 11 2026. No macro, syntax, notation, axiom, sorry.
-/
import Derived.Test.YtfhoblpcneachaaChecked
import GoSem.Claim
import GoSem.ClaimJoined
import GoSem.ClaimMapViews
import Derived.JoinedTies
import Derived.KernelRfl
namespace Go.Proofs.Ytfhoblpcneachaa
/- THE CELL 'sum', in the pinned program and in every row, IS THE sha256 OF THE DUMP (.gsa) THAT YtfhoblpcneachaaProg.lean LOADS. Nothing in Lean hashes anything: it is a label: what it is worth is what the hold of that sum in a sandbox is worth. -/
noncomputable def Try.pinned : Pinned := { name := "ytfhoblpcneachaa", sum := "bbfc67b734cab2e390af47bd40b8dfa0e9fc3dbba9887b1c58e5aef4555fc3d6", checked := Try.checked }
namespace Rows
def none {H : Type} : Left H := { results := [], args := [] }

/-- 'pantographlaw09.TreePages': WHATEVER THE INPUT: true; the input reads as it did. -/
def treePagesSpec : ChangeSpec := { name := "treePages", fn := fun _ => fun
  | [d1, d2] => { results := [.lit (.bool true)], args := [d1, d2] }
  | _ => none }
def treePagesRow : OpenClaim := { program := "ytfhoblpcneachaa", sum := "bbfc67b734cab2e390af47bd40b8dfa0e9fc3dbba9887b1c58e5aef4555fc3d6", func := "pantograph/pantographlaw09.TreePages", spec := "treePages", unfollowed := true, recurses := true, apart := false }
def TreePagesSaid : Prop := treePagesRow.holds Try.pinned (OpenSpec.ofChange treePagesSpec)

/-- ITS FALSE NEIGHBOUR: 'it returns false'. Refute it at one input. -/
def treePagesWrong : ChangeSpec := { name := "treePages", fn := fun _ => fun
  | [d1, d2] => { results := [.lit (.bool false)], args := [d1, d2] }
  | _ => none }
def TreePagesWrongFalsely : Prop := treePagesRow.holds Try.pinned (OpenSpec.ofChange treePagesWrong)

/-- 'pantographlaw09.TreeRows': WHATEVER THE INPUT: true; the input reads as it did. -/
def treeRowsSpec : ChangeSpec := { name := "treeRows", fn := fun _ => fun
  | [d] => { results := [.lit (.bool true)], args := [d] }
  | _ => none }
def treeRowsRow : OpenClaim := { program := "ytfhoblpcneachaa", sum := "bbfc67b734cab2e390af47bd40b8dfa0e9fc3dbba9887b1c58e5aef4555fc3d6", func := "pantograph/pantographlaw09.TreeRows", spec := "treeRows", unfollowed := true, recurses := true, apart := false }
def TreeRowsSaid : Prop := treeRowsRow.holds Try.pinned (OpenSpec.ofChange treeRowsSpec)

/-- ITS FALSE NEIGHBOUR: 'it returns false'. Refute it at one input. -/
def treeRowsWrong : ChangeSpec := { name := "treeRows", fn := fun _ => fun
  | [d] => { results := [.lit (.bool false)], args := [d] }
  | _ => none }
def TreeRowsWrongFalsely : Prop := treeRowsRow.holds Try.pinned (OpenSpec.ofChange treeRowsWrong)

/-- 'pantographlaw09.TreeFroms': WHATEVER THE INPUT: true; the input reads as it did. -/
def treeFromsSpec : ChangeSpec := { name := "treeFroms", fn := fun _ => fun
  | [d1, d2, d3] => { results := [.lit (.bool true)], args := [d1, d2, d3] }
  | _ => none }
def treeFromsRow : OpenClaim := { program := "ytfhoblpcneachaa", sum := "bbfc67b734cab2e390af47bd40b8dfa0e9fc3dbba9887b1c58e5aef4555fc3d6", func := "pantograph/pantographlaw09.TreeFroms", spec := "treeFroms", unfollowed := true, recurses := true, apart := false }
def TreeFromsSaid : Prop := treeFromsRow.holds Try.pinned (OpenSpec.ofChange treeFromsSpec)

/-- ITS FALSE NEIGHBOUR: 'it returns false'. Refute it at one input. -/
def treeFromsWrong : ChangeSpec := { name := "treeFroms", fn := fun _ => fun
  | [d1, d2, d3] => { results := [.lit (.bool false)], args := [d1, d2, d3] }
  | _ => none }
def TreeFromsWrongFalsely : Prop := treeFromsRow.holds Try.pinned (OpenSpec.ofChange treeFromsWrong)

/-- 'pantographlaw09.TreePlays': WHATEVER THE INPUT: true; the input reads as it did. -/
def treePlaysSpec : ChangeSpec := { name := "treePlays", fn := fun _ => fun
  | [d] => { results := [.lit (.bool true)], args := [d] }
  | _ => none }
def treePlaysRow : OpenClaim := { program := "ytfhoblpcneachaa", sum := "bbfc67b734cab2e390af47bd40b8dfa0e9fc3dbba9887b1c58e5aef4555fc3d6", func := "pantograph/pantographlaw09.TreePlays", spec := "treePlays", unfollowed := true, recurses := true, apart := false }
def TreePlaysSaid : Prop := treePlaysRow.holds Try.pinned (OpenSpec.ofChange treePlaysSpec)

/-- ITS FALSE NEIGHBOUR: 'it returns false'. Refute it at one input. -/
def treePlaysWrong : ChangeSpec := { name := "treePlays", fn := fun _ => fun
  | [d] => { results := [.lit (.bool false)], args := [d] }
  | _ => none }
def TreePlaysWrongFalsely : Prop := treePlaysRow.holds Try.pinned (OpenSpec.ofChange treePlaysWrong)

/-- 'pantographlaw09.TreeCuts': WHATEVER THE INPUT: true; the input reads as it did. -/
def treeCutsSpec : ChangeSpec := { name := "treeCuts", fn := fun _ => fun
  | [d] => { results := [.lit (.bool true)], args := [d] }
  | _ => none }
def treeCutsRow : OpenClaim := { program := "ytfhoblpcneachaa", sum := "bbfc67b734cab2e390af47bd40b8dfa0e9fc3dbba9887b1c58e5aef4555fc3d6", func := "pantograph/pantographlaw09.TreeCuts", spec := "treeCuts", unfollowed := true, recurses := true, apart := false }
def TreeCutsSaid : Prop := treeCutsRow.holds Try.pinned (OpenSpec.ofChange treeCutsSpec)

/-- ITS FALSE NEIGHBOUR: 'it returns false'. Refute it at one input. -/
def treeCutsWrong : ChangeSpec := { name := "treeCuts", fn := fun _ => fun
  | [d] => { results := [.lit (.bool false)], args := [d] }
  | _ => none }
def TreeCutsWrongFalsely : Prop := treeCutsRow.holds Try.pinned (OpenSpec.ofChange treeCutsWrong)

/-- 'pantographlaw09.TreeClones': WHATEVER THE INPUT: true; the input reads as it did. -/
def treeClonesSpec : ChangeSpec := { name := "treeClones", fn := fun _ => fun
  | [d1, d2, d3] => { results := [.lit (.bool true)], args := [d1, d2, d3] }
  | _ => none }
def treeClonesRow : OpenClaim := { program := "ytfhoblpcneachaa", sum := "bbfc67b734cab2e390af47bd40b8dfa0e9fc3dbba9887b1c58e5aef4555fc3d6", func := "pantograph/pantographlaw09.TreeClones", spec := "treeClones", unfollowed := true, recurses := true, apart := false }
def TreeClonesSaid : Prop := treeClonesRow.holds Try.pinned (OpenSpec.ofChange treeClonesSpec)

/-- ITS FALSE NEIGHBOUR: 'it returns false'. Refute it at one input. -/
def treeClonesWrong : ChangeSpec := { name := "treeClones", fn := fun _ => fun
  | [d1, d2, d3] => { results := [.lit (.bool false)], args := [d1, d2, d3] }
  | _ => none }
def TreeClonesWrongFalsely : Prop := treeClonesRow.holds Try.pinned (OpenSpec.ofChange treeClonesWrong)

/- THE SECOND FORM. 'bulk': how many values and letters a reading holds, each counted each time it is reached (what is shared counts as often as it is met; a slice's spare places count too). A statement '..UptoSaid' is the law's where the arguments, and the package variables that the reading takes, are together of bulk at most 1048576: NARROWER than '..Said'. Prove '..Said' where nothing that the law and all that it calls make is longer than what came in: it says more and counts as full. Else prove '..UptoSaid'. A law counts once. -/
mutual
def uptoBulk {H : Type} : DataW H → Nat
  | .lit (.string bytes) => bytes.length + 1
  | .lit _ => 1
  | .nil => 1
  | .ptr d => uptoBulk d + 1
  | .slice elems spare => uptoBulkAll elems + uptoBulkAll spare + 1
  | .agg parts => uptoBulkAll parts + 1
  | .iface _ d => uptoBulk d + 1
  | .map entries => uptoBulkEntries entries + 1
  | .held _ => 1
def uptoBulkAll {H : Type} : List (DataW H) → Nat
  | [] => 0
  | d :: r => uptoBulk d + uptoBulkAll r
def uptoBulkEntries {H : Type} : List (Lit × DataW H) → Nat
  | [] => 0
  | x :: r => uptoBulkEntry x + uptoBulkEntries r
def uptoBulkEntry {H : Type} : Lit × DataW H → Nat
  | (.string bytes, d) => bytes.length + uptoBulk d + 1
  | (_, d) => uptoBulk d + 1
 end
def uptoSmall : (H : Type) → List (DataW H) → Bool := fun _ ds => decide (uptoBulkAll ds ≤ 1048576)
def OpenSpec.upto (s : _root_.Go.ChangeSpec) : _root_.Go.OpenSpec := { _root_.Go.OpenSpec.ofChange s with cond := some uptoSmall }

/-- 'pantographlaw09.TreePages', WHERE WHAT IT READS IS OF BULK AT MOST 1048576: true; the input reads as it did. -/
def treePagesUptoRow : OpenClaim := { program := "ytfhoblpcneachaa", sum := "bbfc67b734cab2e390af47bd40b8dfa0e9fc3dbba9887b1c58e5aef4555fc3d6", func := "pantograph/pantographlaw09.TreePages", spec := "treePages", unfollowed := true, recurses := true, apart := false, narrowed := true }
def TreePagesUptoSaid : Prop := treePagesUptoRow.holds Try.pinned (OpenSpec.upto treePagesSpec)

/-- 'pantographlaw09.TreeRows', WHERE WHAT IT READS IS OF BULK AT MOST 1048576: true; the input reads as it did. -/
def treeRowsUptoRow : OpenClaim := { program := "ytfhoblpcneachaa", sum := "bbfc67b734cab2e390af47bd40b8dfa0e9fc3dbba9887b1c58e5aef4555fc3d6", func := "pantograph/pantographlaw09.TreeRows", spec := "treeRows", unfollowed := true, recurses := true, apart := false, narrowed := true }
def TreeRowsUptoSaid : Prop := treeRowsUptoRow.holds Try.pinned (OpenSpec.upto treeRowsSpec)

/-- 'pantographlaw09.TreeFroms', WHERE WHAT IT READS IS OF BULK AT MOST 1048576: true; the input reads as it did. -/
def treeFromsUptoRow : OpenClaim := { program := "ytfhoblpcneachaa", sum := "bbfc67b734cab2e390af47bd40b8dfa0e9fc3dbba9887b1c58e5aef4555fc3d6", func := "pantograph/pantographlaw09.TreeFroms", spec := "treeFroms", unfollowed := true, recurses := true, apart := false, narrowed := true }
def TreeFromsUptoSaid : Prop := treeFromsUptoRow.holds Try.pinned (OpenSpec.upto treeFromsSpec)

/-- 'pantographlaw09.TreePlays', WHERE WHAT IT READS IS OF BULK AT MOST 1048576: true; the input reads as it did. -/
def treePlaysUptoRow : OpenClaim := { program := "ytfhoblpcneachaa", sum := "bbfc67b734cab2e390af47bd40b8dfa0e9fc3dbba9887b1c58e5aef4555fc3d6", func := "pantograph/pantographlaw09.TreePlays", spec := "treePlays", unfollowed := true, recurses := true, apart := false, narrowed := true }
def TreePlaysUptoSaid : Prop := treePlaysUptoRow.holds Try.pinned (OpenSpec.upto treePlaysSpec)

/-- 'pantographlaw09.TreeCuts', WHERE WHAT IT READS IS OF BULK AT MOST 1048576: true; the input reads as it did. -/
def treeCutsUptoRow : OpenClaim := { program := "ytfhoblpcneachaa", sum := "bbfc67b734cab2e390af47bd40b8dfa0e9fc3dbba9887b1c58e5aef4555fc3d6", func := "pantograph/pantographlaw09.TreeCuts", spec := "treeCuts", unfollowed := true, recurses := true, apart := false, narrowed := true }
def TreeCutsUptoSaid : Prop := treeCutsUptoRow.holds Try.pinned (OpenSpec.upto treeCutsSpec)

/-- 'pantographlaw09.TreeClones', WHERE WHAT IT READS IS OF BULK AT MOST 1048576: true; the input reads as it did. -/
def treeClonesUptoRow : OpenClaim := { program := "ytfhoblpcneachaa", sum := "bbfc67b734cab2e390af47bd40b8dfa0e9fc3dbba9887b1c58e5aef4555fc3d6", func := "pantograph/pantographlaw09.TreeClones", spec := "treeClones", unfollowed := true, recurses := true, apart := false, narrowed := true }
def TreeClonesUptoSaid : Prop := treeClonesUptoRow.holds Try.pinned (OpenSpec.upto treeClonesSpec)

end Rows
end Go.Proofs.Ytfhoblpcneachaa
