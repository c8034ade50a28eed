/- Proved: for every slice of deeds, every text and every integer the law TreeFroms returns true, and its arguments read behind the call as they did before. There are no conditions. -/
import Derived.Test.YtfhoblpcneachaaPg09TreeFroms
import Derived.Test.YtfhoblpcneachaaRows
namespace Go.Proofs.Ytfhoblpcneachaa
open Go.ChangeShapes Go.WideShapes Go.ChangeAt Go.RowKit Go.Proofs.YtfhoblpcneachaaPg

theorem treeFroms_own : ownKnob Try.prog.godebug = none := by kernel_rfl
theorem treeFroms_laidOut : laidOutB Try.prog = true := by kernel_rfl

theorem treeFroms_law (l : List V) (h : Shps tt 8 Try.f5.params.toList l) : ACall Try.prog 5 0 l [] (fun v _ => v = .bool true) := by
  rw [Try.params5] at h
  obtain ⟨vs, r, ⟨es, _, h1, rfl⟩, ⟨vs2, r2, ⟨s, _, rfl⟩, ⟨vs3, r3, ⟨m, _, rfl⟩, rfl, rfl⟩, rfl⟩, rfl⟩ := h
  refine TreeFroms_spec (fun x hx => ?_)
  obtain ⟨_, _, ⟨k, _, rfl⟩, ⟨_, _, ⟨n, _, rfl⟩, ⟨_, _, ⟨s, _, rfl⟩, rfl, rfl⟩, rfl⟩, rfl⟩ := h1 x hx
  exact ⟨k, n, s, rfl⟩

set_option maxRecDepth 100000 in
theorem treeFroms_lifted (os : Os) (started : os.Started) (H : Type) (enc : TypeId × Value → H) :
    ReturnsInHanded {} Try.checked os 5 .any (Rows.treeFromsSpec.pre6 enc Try.prog Try.f5 Rows.treeFromsRow.domain false) (Rows.treeFromsSpec.post enc Try.prog Try.f5 false true false false) := by
  refine returnsInHanded_of_change (C := Try.checked) treeFroms_own started (by kernel_rfl) Try.func5
    (ChangeSpec.witness6 (enc := enc) (C := Try.checked) false ⟨#[], #[.slice none 0 0, .string ⟨#[]⟩, .int .i64 0], []⟩ 8 (by kernel_rfl) (by kernel_rfl) (by kernel_rfl) (by kernel_rfl)) ?_
  intro W base args ds gs before hval hW _ _
  exact law_contract (P := Try.prog) tt_ok treeFroms_laidOut (fn := Try.f5) (s := Rows.treeFromsSpec) 8 (by kernel_rfl) (tb := 4) (by kernel_rfl) Try.underlying4 rfl (fun H ds hd => by
    rw [show Try.f5.params.size = 3 by kernel_rfl] at hd
    match ds, hd with
    | [d0, d1, d2], _ => rfl) treeFroms_law W base args ds gs before hval hW

theorem treeFroms_holds : Rows.TreeFromsSaid :=
  OpenClaim.holds_of_wide 5 Try.f5 rfl rfl rfl rfl rfl rfl rfl ⟨rfl, rfl, rfl, rfl, rfl⟩ rfl rfl rfl rfl rfl (by kernel_rfl) Try.func5 (by kernel_rfl)
    (of_decide_eq_true (by kernel_rfl)) (by unfold Func.isWrapper; first | (rw [if_pos (by decide +kernel)]; kernel_rfl) | (rw [if_neg (by decide +kernel)]; exact ⟨rfl, rfl⟩))
    (fun os started H enc _ => treeFroms_lifted os started H enc)

#print axioms treeFroms_holds
end Go.Proofs.Ytfhoblpcneachaa
