/- Proved: for every slice of texts and every integer the law TreePages returns true, and its arguments read behind the call as they did before. There are no conditions. -/
import Derived.Test.YtfhoblpcneachaaPg09TreePages
import Derived.Test.YtfhoblpcneachaaRows
namespace Go.Proofs.Ytfhoblpcneachaa
open Go.ChangeShapes Go.WideShapes Go.ChangeAt Go.RowKit Go.Proofs.YtfhoblpcneachaaPg

theorem treePages_own : ownKnob Try.prog.godebug = none := by kernel_rfl
theorem treePages_laidOut : laidOutB Try.prog = true := by kernel_rfl

theorem treePages_law (l : List V) (h : Shps tt 8 Try.f3.params.toList l) : ACall Try.prog 3 0 l [] (fun v _ => v = .bool true) := by
  rw [Try.params3] at h
  obtain ⟨vs, r, ⟨es, _, h1, rfl⟩, ⟨vs2, r2, ⟨m, hw, rfl⟩, rfl, rfl⟩, rfl⟩ := h
  refine TreePages_spec (fun x hx => ?_) (wf_i64 hw)
  obtain ⟨v, _, hv⟩ := h1 x hx
  exact ⟨v, hv⟩

set_option maxRecDepth 100000 in
theorem treePages_lifted (os : Os) (started : os.Started) (H : Type) (enc : TypeId × Value → H) :
    ReturnsInHanded {} Try.checked os 3 .any (Rows.treePagesSpec.pre6 enc Try.prog Try.f3 Rows.treePagesRow.domain false) (Rows.treePagesSpec.post enc Try.prog Try.f3 false true false false) := by
  refine returnsInHanded_of_change (C := Try.checked) treePages_own started (by kernel_rfl) Try.func3
    (ChangeSpec.witness6 (enc := enc) (C := Try.checked) false ⟨#[], #[.slice none 0 0, .int .i64 0], []⟩ 8 (by kernel_rfl) (by kernel_rfl) (by kernel_rfl) (by kernel_rfl)) ?_
  intro W base args ds gs before hval hW _ _
  exact law_contract (P := Try.prog) tt_ok treePages_laidOut (fn := Try.f3) (s := Rows.treePagesSpec) 8 (by kernel_rfl) (tb := 4) (by kernel_rfl) Try.underlying4 rfl (fun H ds hd => by
    rw [show Try.f3.params.size = 2 by kernel_rfl] at hd
    match ds, hd with
    | [d0, d1], _ => rfl) treePages_law W base args ds gs before hval hW

theorem treePages_holds : Rows.TreePagesSaid :=
  OpenClaim.holds_of_wide 3 Try.f3 rfl rfl rfl rfl rfl rfl rfl ⟨rfl, rfl, rfl, rfl, rfl⟩ rfl rfl rfl rfl rfl (by kernel_rfl) Try.func3 (by kernel_rfl)
    (of_decide_eq_true (by kernel_rfl)) (by unfold Func.isWrapper; first | (rw [if_pos (by decide +kernel)]; kernel_rfl) | (rw [if_neg (by decide +kernel)]; exact ⟨rfl, rfl⟩))
    (fun os started H enc _ => treePages_lifted os started H enc)

#print axioms treePages_holds
end Go.Proofs.Ytfhoblpcneachaa
