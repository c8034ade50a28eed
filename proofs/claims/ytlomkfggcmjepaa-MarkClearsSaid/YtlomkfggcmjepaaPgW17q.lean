/- Proved: for every slice of deeds and every two integers the law MarkClears returns true, and its arguments read behind the call as they did before. There are no conditions. -/
import Derived.Test.YtlomkfggcmjepaaPgW17i
import Derived.Test.YtlomkfggcmjepaaRows
namespace Go.Proofs.Ytlomkfggcmjepaa
open Go.ChangeShapes Go.WideShapes Go.ChangeAt Go.RowKit Go.Proofs.YtlomkfggcmjepaaPg

theorem markClears_own : ownKnob Try.prog.godebug = none := by kernel_rfl
theorem markClears_laidOut : laidOutB Try.prog = true := by kernel_rfl

theorem markClears_law (l : List V) (h : Shps tt 8 Try.f7.params.toList l) : ACall Try.prog 7 0 l [] (fun v _ => v = .bool true) := by
  rw [Try.params7] at h
  obtain ⟨vs, r, ⟨es, _, h1, rfl⟩, ⟨vs2, r2, ⟨kd, _, rfl⟩, ⟨vs3, r3, ⟨n, _, rfl⟩, rfl, rfl⟩, rfl⟩, rfl⟩ := h
  refine MarkClears_spec fun x hx => ?_
  obtain ⟨_, _, ⟨a, _, rfl⟩, ⟨_, _, ⟨b, _, rfl⟩, ⟨_, _, ⟨c, _, rfl⟩, ⟨_, _, ⟨s, _, rfl⟩, rfl, rfl⟩, rfl⟩, rfl⟩, rfl⟩ := h1 x hx
  exact ⟨a, b, c, s, rfl⟩

set_option maxRecDepth 100000 in
theorem markClears_lifted (os : Os) (started : os.Started) (H : Type) (enc : TypeId × Value → H) :
    ReturnsInHanded {} Try.checked os 7 .any (Rows.markClearsSpec.pre6 enc Try.prog Try.f7 Rows.markClearsRow.domain false) (Rows.markClearsSpec.post enc Try.prog Try.f7 false true false false) := by
  refine returnsInHanded_of_change (C := Try.checked) markClears_own started (by kernel_rfl) Try.func7
    (ChangeSpec.witness6 (enc := enc) (C := Try.checked) false ⟨#[], #[.slice none 0 0, .int .i64 0, .int .i64 0], []⟩ 8 (by kernel_rfl) (by kernel_rfl) (by kernel_rfl) (by kernel_rfl)) ?_
  intro W base args ds gs before hval hW _ _
  exact law_contract (P := Try.prog) tt_ok markClears_laidOut (fn := Try.f7) (s := Rows.markClearsSpec) 8 (by kernel_rfl) (tb := 4) (by kernel_rfl) Try.underlying4 rfl (fun H ds hd => by
    rw [show Try.f7.params.size = 3 by kernel_rfl] at hd
    match ds, hd with
    | [d0, d1, d2], _ => rfl) markClears_law W base args ds gs before hval hW

theorem markClears_holds : Rows.MarkClearsSaid :=
  OpenClaim.holds_of_wide 7 Try.f7 rfl rfl rfl rfl rfl rfl rfl ⟨rfl, rfl, rfl, rfl, rfl⟩ rfl rfl rfl rfl rfl (by kernel_rfl) Try.func7 (by kernel_rfl)
    (of_decide_eq_true (by kernel_rfl)) (by unfold Func.isWrapper; first | (rw [if_pos (by decide +kernel)]; kernel_rfl) | (rw [if_neg (by decide +kernel)]; exact ⟨rfl, rfl⟩))
    (fun os started H enc _ => markClears_lifted os started H enc)

#print axioms markClears_holds
end Go.Proofs.Ytlomkfggcmjepaa
