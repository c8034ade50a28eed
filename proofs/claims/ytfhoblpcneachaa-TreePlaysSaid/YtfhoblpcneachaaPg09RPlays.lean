/- Proved: for every slice of deeds the law TreePlays returns true, and its argument reads behind the call as it did before. There are no conditions. -/
import Derived.Test.YtfhoblpcneachaaPg09TreePlays
import Derived.Test.YtfhoblpcneachaaRows
namespace Go.Proofs.Ytfhoblpcneachaa
open Go.ChangeShapes Go.WideShapes Go.ChangeAt Go.RowKit Go.Proofs.YtfhoblpcneachaaPg

theorem treePlays_own : ownKnob Try.prog.godebug = none := by kernel_rfl
theorem treePlays_laidOut : laidOutB Try.prog = true := by kernel_rfl

theorem treePlays_law (l : List V) (h : Shps tt 8 Try.f6.params.toList l) : ACall Try.prog 6 0 l [] (fun v _ => v = .bool true) := by
  rw [Try.params6] at h
  obtain ⟨vs, r, ⟨es, _, h1, rfl⟩, rfl, rfl⟩ := h
  refine TreePlays_spec (fun x hx => ?_)
  obtain ⟨_, _, ⟨k, _, rfl⟩, ⟨_, _, ⟨n, _, rfl⟩, ⟨_, _, ⟨s, _, rfl⟩, rfl, rfl⟩, rfl⟩, rfl⟩ := h1 x hx
  exact ⟨k, n, s, rfl⟩

set_option maxRecDepth 100000 in
theorem treePlays_lifted (os : Os) (started : os.Started) (H : Type) (enc : TypeId × Value → H) :
    ReturnsInHanded {} Try.checked os 6 .any (Rows.treePlaysSpec.pre6 enc Try.prog Try.f6 Rows.treePlaysRow.domain false) (Rows.treePlaysSpec.post enc Try.prog Try.f6 false true false false) := by
  refine returnsInHanded_of_change (C := Try.checked) treePlays_own started (by kernel_rfl) Try.func6
    (ChangeSpec.witness6 (enc := enc) (C := Try.checked) false ⟨#[], #[.slice none 0 0], []⟩ 8 (by kernel_rfl) (by kernel_rfl) (by kernel_rfl) (by kernel_rfl)) ?_
  intro W base args ds gs before hval hW _ _
  exact law_contract (P := Try.prog) tt_ok treePlays_laidOut (fn := Try.f6) (s := Rows.treePlaysSpec) 8 (by kernel_rfl) (tb := 4) (by kernel_rfl) Try.underlying4 rfl (fun H ds hd => by
    rw [show Try.f6.params.size = 1 by kernel_rfl] at hd
    match ds, hd with
    | [d0], _ => rfl) treePlays_law W base args ds gs before hval hW

theorem treePlays_holds : Rows.TreePlaysSaid :=
  OpenClaim.holds_of_wide 6 Try.f6 rfl rfl rfl rfl rfl rfl rfl ⟨rfl, rfl, rfl, rfl, rfl⟩ rfl rfl rfl rfl rfl (by kernel_rfl) Try.func6 (by kernel_rfl)
    (of_decide_eq_true (by kernel_rfl)) (by unfold Func.isWrapper; first | (rw [if_pos (by decide +kernel)]; kernel_rfl) | (rw [if_neg (by decide +kernel)]; exact ⟨rfl, rfl⟩))
    (fun os started H enc _ => treePlays_lifted os started H enc)

#print axioms treePlays_holds
end Go.Proofs.Ytfhoblpcneachaa
