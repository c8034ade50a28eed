/-
  No cell of these rows narrows 'for every input' (looked for: loops, veiled, ifaces, maps, wideKeys, modest, calm, conditions, laid).
  DERIVED. THE GIVEN ROWS OF THIS SEAT. 5 by the template 'for every input the law returns true; each argument reads behind the call as it read before'; 0 by the template 'total and deterministic' (their statements: YtlomkfggcmjepaaTotals.lean).
  GIVEN WITH THE SEED: the statements are not yours to turn. If you find one false, say at which input.
  Laid BY PROGRAM, IN A SANDBOX (cutbox-rows.mjs): the forced cells as the released guide's own fill.sh prints them over the translation 08c1cd4e1ff2b490… (all of the seat's roots in one cut). By AI agents, Wed Nov 11 2026. No macro, syntax, notation, axiom, sorry.
-/
import Derived.Test.YtlomkfggcmjepaaChecked
import GoSem.Claim
import GoSem.ClaimJoined
import GoSem.ClaimMapViews
import Derived.JoinedTies
import Derived.KernelRfl
namespace Go.Proofs.Ytlomkfggcmjepaa
/- THE CELL 'sum', in the pinned program and in every row, IS THE sha256 OF THE DUMP (.gsa) THAT YtlomkfggcmjepaaProg.lean LOADS. Nothing in Lean hashes anything: it is a label: what it is worth is what the hold of that sum in a sandbox is worth. -/
noncomputable def Try.pinned : Pinned := { name := "ytlomkfggcmjepaa", sum := "08c1cd4e1ff2b4904ff29068d7d4757c2215de01c20830cad5ca7807093ba06b", checked := Try.checked }
namespace Rows
def none {H : Type} : Left H := { results := [], args := [] }

/-- 'pantographlaw17.MarkNumbers': WHATEVER THE INPUT: true; the input reads as it did. -/
def markNumbersSpec : ChangeSpec := { name := "markNumbers", fn := fun _ => fun
  | [d] => { results := [.lit (.bool true)], args := [d] }
  | _ => none }
def markNumbersRow : OpenClaim := { program := "ytlomkfggcmjepaa", sum := "08c1cd4e1ff2b4904ff29068d7d4757c2215de01c20830cad5ca7807093ba06b", func := "pantograph/pantographlaw17.MarkNumbers", spec := "markNumbers", inPlace := ["internal/bytealg.IndexByteString", "internal/bytealg.IndexString"], named := ["internal/bytealg.MaxLen"], apart := false }
def MarkNumbersSaid : Prop := markNumbersRow.holds Try.pinned (OpenSpec.ofChange markNumbersSpec)

/-- ITS FALSE NEIGHBOUR: 'it returns false'. Refute it at one input. -/
def markNumbersWrong : ChangeSpec := { name := "markNumbers", fn := fun _ => fun
  | [d] => { results := [.lit (.bool false)], args := [d] }
  | _ => none }
def MarkNumbersWrongFalsely : Prop := markNumbersRow.holds Try.pinned (OpenSpec.ofChange markNumbersWrong)

/-- 'pantographlaw17.MarkGoes': WHATEVER THE INPUT: true; the input reads as it did. -/
def markGoesSpec : ChangeSpec := { name := "markGoes", fn := fun _ => fun
  | [d1, d2] => { results := [.lit (.bool true)], args := [d1, d2] }
  | _ => none }
def markGoesRow : OpenClaim := { program := "ytlomkfggcmjepaa", sum := "08c1cd4e1ff2b4904ff29068d7d4757c2215de01c20830cad5ca7807093ba06b", func := "pantograph/pantographlaw17.MarkGoes", spec := "markGoes", inPlace := ["internal/bytealg.IndexByteString", "internal/bytealg.IndexString"], named := ["internal/bytealg.MaxLen"], apart := false }
def MarkGoesSaid : Prop := markGoesRow.holds Try.pinned (OpenSpec.ofChange markGoesSpec)

/-- ITS FALSE NEIGHBOUR: 'it returns false'. Refute it at one input. -/
def markGoesWrong : ChangeSpec := { name := "markGoes", fn := fun _ => fun
  | [d1, d2] => { results := [.lit (.bool false)], args := [d1, d2] }
  | _ => none }
def MarkGoesWrongFalsely : Prop := markGoesRow.holds Try.pinned (OpenSpec.ofChange markGoesWrong)

/-- 'pantographlaw17.MarkShuts': WHATEVER THE INPUT: true; the input reads as it did. -/
def markShutsSpec : ChangeSpec := { name := "markShuts", fn := fun _ => fun
  | [d] => { results := [.lit (.bool true)], args := [d] }
  | _ => none }
def markShutsRow : OpenClaim := { program := "ytlomkfggcmjepaa", sum := "08c1cd4e1ff2b4904ff29068d7d4757c2215de01c20830cad5ca7807093ba06b", func := "pantograph/pantographlaw17.MarkShuts", spec := "markShuts", inPlace := ["internal/bytealg.IndexByteString", "internal/bytealg.IndexString"], named := ["internal/bytealg.MaxLen"], apart := false }
def MarkShutsSaid : Prop := markShutsRow.holds Try.pinned (OpenSpec.ofChange markShutsSpec)

/-- ITS FALSE NEIGHBOUR: 'it returns false'. Refute it at one input. -/
def markShutsWrong : ChangeSpec := { name := "markShuts", fn := fun _ => fun
  | [d] => { results := [.lit (.bool false)], args := [d] }
  | _ => none }
def MarkShutsWrongFalsely : Prop := markShutsRow.holds Try.pinned (OpenSpec.ofChange markShutsWrong)

/-- 'pantographlaw17.MarkPlays': WHATEVER THE INPUT: true; the input reads as it did. -/
def markPlaysSpec : ChangeSpec := { name := "markPlays", fn := fun _ => fun
  | [d] => { results := [.lit (.bool true)], args := [d] }
  | _ => none }
def markPlaysRow : OpenClaim := { program := "ytlomkfggcmjepaa", sum := "08c1cd4e1ff2b4904ff29068d7d4757c2215de01c20830cad5ca7807093ba06b", func := "pantograph/pantographlaw17.MarkPlays", spec := "markPlays", inPlace := ["internal/bytealg.IndexByteString", "internal/bytealg.IndexString"], named := ["internal/bytealg.MaxLen"], apart := false }
def MarkPlaysSaid : Prop := markPlaysRow.holds Try.pinned (OpenSpec.ofChange markPlaysSpec)

/-- ITS FALSE NEIGHBOUR: 'it returns false'. Refute it at one input. -/
def markPlaysWrong : ChangeSpec := { name := "markPlays", fn := fun _ => fun
  | [d] => { results := [.lit (.bool false)], args := [d] }
  | _ => none }
def MarkPlaysWrongFalsely : Prop := markPlaysRow.holds Try.pinned (OpenSpec.ofChange markPlaysWrong)

/-- 'pantographlaw17.MarkClears': WHATEVER THE INPUT: true; the input reads as it did. -/
def markClearsSpec : ChangeSpec := { name := "markClears", fn := fun _ => fun
  | [d1, d2, d3] => { results := [.lit (.bool true)], args := [d1, d2, d3] }
  | _ => none }
def markClearsRow : OpenClaim := { program := "ytlomkfggcmjepaa", sum := "08c1cd4e1ff2b4904ff29068d7d4757c2215de01c20830cad5ca7807093ba06b", func := "pantograph/pantographlaw17.MarkClears", spec := "markClears", inPlace := ["internal/bytealg.IndexByteString", "internal/bytealg.IndexString"], named := ["internal/bytealg.MaxLen"], apart := false }
def MarkClearsSaid : Prop := markClearsRow.holds Try.pinned (OpenSpec.ofChange markClearsSpec)

/-- ITS FALSE NEIGHBOUR: 'it returns false'. Refute it at one input. -/
def markClearsWrong : ChangeSpec := { name := "markClears", fn := fun _ => fun
  | [d1, d2, d3] => { results := [.lit (.bool false)], args := [d1, d2, d3] }
  | _ => none }
def MarkClearsWrongFalsely : Prop := markClearsRow.holds Try.pinned (OpenSpec.ofChange markClearsWrong)

/- THE SECOND FORM. 'bulk': how many values and letters a reading holds, each counted each time it is reached (what is shared counts as often as it is met; a slice's spare places count too). A statement '..UptoSaid' is the law's where the arguments, and the package variables that the reading takes, are together of bulk at most 1048576: NARROWER than '..Said'. Prove '..Said' where nothing that the law and all that it calls make is longer than what came in: it says more and counts as full. Else prove '..UptoSaid'. A law counts once. -/
mutual
def uptoBulk {H : Type} : DataW H → Nat
  | .lit (.string bytes) => bytes.length + 1
  | .lit _ => 1
  | .nil => 1
  | .ptr d => uptoBulk d + 1
  | .slice elems spare => uptoBulkAll elems + uptoBulkAll spare + 1
  | .agg parts => uptoBulkAll parts + 1
  | .iface _ d => uptoBulk d + 1
  | .map entries => uptoBulkEntries entries + 1
  | .held _ => 1
def uptoBulkAll {H : Type} : List (DataW H) → Nat
  | [] => 0
  | d :: r => uptoBulk d + uptoBulkAll r
def uptoBulkEntries {H : Type} : List (Lit × DataW H) → Nat
  | [] => 0
  | x :: r => uptoBulkEntry x + uptoBulkEntries r
def uptoBulkEntry {H : Type} : Lit × DataW H → Nat
  | (.string bytes, d) => bytes.length + uptoBulk d + 1
  | (_, d) => uptoBulk d + 1
 end
def uptoSmall : (H : Type) → List (DataW H) → Bool := fun _ ds => decide (uptoBulkAll ds ≤ 1048576)
def OpenSpec.upto (s : _root_.Go.ChangeSpec) : _root_.Go.OpenSpec := { _root_.Go.OpenSpec.ofChange s with cond := some uptoSmall }

/-- 'pantographlaw17.MarkNumbers', WHERE WHAT IT READS IS OF BULK AT MOST 1048576: true; the input reads as it did. -/
def markNumbersUptoRow : OpenClaim := { program := "ytlomkfggcmjepaa", sum := "08c1cd4e1ff2b4904ff29068d7d4757c2215de01c20830cad5ca7807093ba06b", func := "pantograph/pantographlaw17.MarkNumbers", spec := "markNumbers", inPlace := ["internal/bytealg.IndexByteString", "internal/bytealg.IndexString"], named := ["internal/bytealg.MaxLen"], apart := false, narrowed := true }
def MarkNumbersUptoSaid : Prop := markNumbersUptoRow.holds Try.pinned (OpenSpec.upto markNumbersSpec)

/-- 'pantographlaw17.MarkGoes', WHERE WHAT IT READS IS OF BULK AT MOST 1048576: true; the input reads as it did. -/
def markGoesUptoRow : OpenClaim := { program := "ytlomkfggcmjepaa", sum := "08c1cd4e1ff2b4904ff29068d7d4757c2215de01c20830cad5ca7807093ba06b", func := "pantograph/pantographlaw17.MarkGoes", spec := "markGoes", inPlace := ["internal/bytealg.IndexByteString", "internal/bytealg.IndexString"], named := ["internal/bytealg.MaxLen"], apart := false, narrowed := true }
def MarkGoesUptoSaid : Prop := markGoesUptoRow.holds Try.pinned (OpenSpec.upto markGoesSpec)

/-- 'pantographlaw17.MarkShuts', WHERE WHAT IT READS IS OF BULK AT MOST 1048576: true; the input reads as it did. -/
def markShutsUptoRow : OpenClaim := { program := "ytlomkfggcmjepaa", sum := "08c1cd4e1ff2b4904ff29068d7d4757c2215de01c20830cad5ca7807093ba06b", func := "pantograph/pantographlaw17.MarkShuts", spec := "markShuts", inPlace := ["internal/bytealg.IndexByteString", "internal/bytealg.IndexString"], named := ["internal/bytealg.MaxLen"], apart := false, narrowed := true }
def MarkShutsUptoSaid : Prop := markShutsUptoRow.holds Try.pinned (OpenSpec.upto markShutsSpec)

/-- 'pantographlaw17.MarkPlays', WHERE WHAT IT READS IS OF BULK AT MOST 1048576: true; the input reads as it did. -/
def markPlaysUptoRow : OpenClaim := { program := "ytlomkfggcmjepaa", sum := "08c1cd4e1ff2b4904ff29068d7d4757c2215de01c20830cad5ca7807093ba06b", func := "pantograph/pantographlaw17.MarkPlays", spec := "markPlays", inPlace := ["internal/bytealg.IndexByteString", "internal/bytealg.IndexString"], named := ["internal/bytealg.MaxLen"], apart := false, narrowed := true }
def MarkPlaysUptoSaid : Prop := markPlaysUptoRow.holds Try.pinned (OpenSpec.upto markPlaysSpec)

/-- 'pantographlaw17.MarkClears', WHERE WHAT IT READS IS OF BULK AT MOST 1048576: true; the input reads as it did. -/
def markClearsUptoRow : OpenClaim := { program := "ytlomkfggcmjepaa", sum := "08c1cd4e1ff2b4904ff29068d7d4757c2215de01c20830cad5ca7807093ba06b", func := "pantograph/pantographlaw17.MarkClears", spec := "markClears", inPlace := ["internal/bytealg.IndexByteString", "internal/bytealg.IndexString"], named := ["internal/bytealg.MaxLen"], apart := false, narrowed := true }
def MarkClearsUptoSaid : Prop := markClearsUptoRow.holds Try.pinned (OpenSpec.upto markClearsSpec)

end Rows
end Go.Proofs.Ytlomkfggcmjepaa
