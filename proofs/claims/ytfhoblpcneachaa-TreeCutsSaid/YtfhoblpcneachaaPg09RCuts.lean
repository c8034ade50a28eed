/- Proved: for every slice of texts the law TreeCuts returns true, and its argument reads behind the call as it did before. There are no conditions. -/
import Derived.Test.YtfhoblpcneachaaPg09TreeCuts
import Derived.Test.YtfhoblpcneachaaRows
namespace Go.Proofs.Ytfhoblpcneachaa
open Go.ChangeShapes Go.WideShapes Go.ChangeAt Go.RowKit Go.Proofs.YtfhoblpcneachaaPg

theorem treeCuts_own : ownKnob Try.prog.godebug = none := by kernel_rfl
theorem treeCuts_laidOut : laidOutB Try.prog = true := by kernel_rfl

theorem treeCuts_law (l : List V) (h : Shps tt 8 Try.f7.params.toList l) : ACall Try.prog 7 0 l [] (fun v _ => v = .bool true) := by
  rw [Try.params7] at h
  obtain ⟨vs, r, ⟨es, _, h1, rfl⟩, rfl, rfl⟩ := h
  refine TreeCuts_spec (fun x hx => ?_)
  obtain ⟨v, _, hv⟩ := h1 x hx
  exact ⟨v, hv⟩

set_option maxRecDepth 100000 in
theorem treeCuts_lifted (os : Os) (started : os.Started) (H : Type) (enc : TypeId × Value → H) :
    ReturnsInHanded {} Try.checked os 7 .any (Rows.treeCutsSpec.pre6 enc Try.prog Try.f7 Rows.treeCutsRow.domain false) (Rows.treeCutsSpec.post enc Try.prog Try.f7 false true false false) := by
  refine returnsInHanded_of_change (C := Try.checked) treeCuts_own started (by kernel_rfl) Try.func7
    (ChangeSpec.witness6 (enc := enc) (C := Try.checked) false ⟨#[], #[.slice none 0 0], []⟩ 8 (by kernel_rfl) (by kernel_rfl) (by kernel_rfl) (by kernel_rfl)) ?_
  intro W base args ds gs before hval hW _ _
  exact law_contract (P := Try.prog) tt_ok treeCuts_laidOut (fn := Try.f7) (s := Rows.treeCutsSpec) 8 (by kernel_rfl) (tb := 4) (by kernel_rfl) Try.underlying4 rfl (fun H ds hd => by
    rw [show Try.f7.params.size = 1 by kernel_rfl] at hd
    match ds, hd with
    | [d0], _ => rfl) treeCuts_law W base args ds gs before hval hW

theorem treeCuts_holds : Rows.TreeCutsSaid :=
  OpenClaim.holds_of_wide 7 Try.f7 rfl rfl rfl rfl rfl rfl rfl ⟨rfl, rfl, rfl, rfl, rfl⟩ rfl rfl rfl rfl rfl (by kernel_rfl) Try.func7 (by kernel_rfl)
    (of_decide_eq_true (by kernel_rfl)) (by unfold Func.isWrapper; first | (rw [if_pos (by decide +kernel)]; kernel_rfl) | (rw [if_neg (by decide +kernel)]; exact ⟨rfl, rfl⟩))
    (fun os started H enc _ => treeCuts_lifted os started H enc)

#print axioms treeCuts_holds
end Go.Proofs.Ytfhoblpcneachaa
