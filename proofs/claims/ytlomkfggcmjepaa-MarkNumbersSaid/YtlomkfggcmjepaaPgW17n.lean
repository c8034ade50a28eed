/- Proved: for every slice of integers the law MarkNumbers returns true, and its argument reads behind the call as it did before. There are no conditions. -/
import Derived.Test.YtlomkfggcmjepaaPgW17c
import Derived.Test.YtlomkfggcmjepaaRows
namespace Go.Proofs.Ytlomkfggcmjepaa
open Go.ChangeShapes Go.WideShapes Go.ChangeAt Go.RowKit Go.Proofs.YtlomkfggcmjepaaPg

theorem own17 : ownKnob Try.prog.godebug = none := by kernel_rfl
theorem laidOut17 : laidOutB Try.prog = true := by kernel_rfl

theorem markNumbers_law (l : List V) (h : Shps tt 8 Try.f3.params.toList l) : ACall Try.prog 3 0 l [] (fun v _ => v = .bool true) := by
  rw [Try.params3] at h
  obtain ⟨vs, r, ⟨es, _, h1, rfl⟩, rfl, rfl⟩ := h
  refine MarkNumbers_spec fun x hx => ?_
  obtain ⟨v, _, hv⟩ := h1 x hx
  exact ⟨v, hv⟩

set_option maxRecDepth 100000 in
theorem markNumbers_lifted (os : Os) (started : os.Started) (H : Type) (enc : TypeId × Value → H) :
    ReturnsInHanded {} Try.checked os 3 .any (Rows.markNumbersSpec.pre6 enc Try.prog Try.f3 Rows.markNumbersRow.domain false) (Rows.markNumbersSpec.post enc Try.prog Try.f3 false true false false) := by
  refine returnsInHanded_of_change (C := Try.checked) own17 started (by kernel_rfl) Try.func3
    (ChangeSpec.witness6 (enc := enc) (C := Try.checked) false ⟨#[], #[.slice none 0 0], []⟩ 8 (by kernel_rfl) (by kernel_rfl) (by kernel_rfl) (by kernel_rfl)) ?_
  intro W base args ds gs before hval hW _ _
  exact law_contract (P := Try.prog) tt_ok laidOut17 (fn := Try.f3) (s := Rows.markNumbersSpec) 8 (by kernel_rfl) (tb := 4) (by kernel_rfl) Try.underlying4 rfl (fun H ds hd => by
    rw [show Try.f3.params.size = 1 by kernel_rfl] at hd
    match ds, hd with
    | [d], _ => rfl) markNumbers_law W base args ds gs before hval hW

theorem markNumbers_holds : Rows.MarkNumbersSaid :=
  OpenClaim.holds_of_wide 3 Try.f3 rfl rfl rfl rfl rfl rfl rfl ⟨rfl, rfl, rfl, rfl, rfl⟩ rfl rfl rfl rfl rfl (by kernel_rfl) Try.func3 (by kernel_rfl)
    (of_decide_eq_true (by kernel_rfl)) (by unfold Func.isWrapper; first | (rw [if_pos (by decide +kernel)]; kernel_rfl) | (rw [if_neg (by decide +kernel)]; exact ⟨rfl, rfl⟩))
    (fun os started H enc _ => markNumbers_lifted os started H enc)

#print axioms markNumbers_holds
end Go.Proofs.Ytlomkfggcmjepaa
