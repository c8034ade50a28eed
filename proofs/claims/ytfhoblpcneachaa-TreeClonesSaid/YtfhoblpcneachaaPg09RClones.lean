/- Proved: for all slices of deeds the law TreeClones returns true, and its arguments read behind the call as they did before. There are no conditions. -/
import Derived.Test.YtfhoblpcneachaaPg09TreeClones
import Derived.Test.YtfhoblpcneachaaRows
namespace Go.Proofs.Ytfhoblpcneachaa
open Go.ChangeShapes Go.WideShapes Go.ChangeAt Go.RowKit Go.Proofs.YtfhoblpcneachaaPg

theorem treeClones_own : ownKnob Try.prog.godebug = none := by kernel_rfl
theorem treeClones_laidOut : laidOutB Try.prog = true := by kernel_rfl

theorem treeClones_law (l : List V) (h : Shps tt 8 Try.f8.params.toList l) : ACall Try.prog 8 0 l [] (fun v _ => v = .bool true) := by
  rw [Try.params8] at h
  obtain ⟨vs, r, ⟨es, _, h1, rfl⟩, ⟨vs2, r2, ⟨fs, _, h2, rfl⟩, ⟨vs3, r3, ⟨gs, _, h3, rfl⟩, rfl, rfl⟩, rfl⟩, rfl⟩ := h
  refine TreeClones_spec (fun x hx => ?_) (fun x hx => ?_) (fun x hx => ?_)
  · obtain ⟨_, _, ⟨k, _, rfl⟩, ⟨_, _, ⟨n, _, rfl⟩, ⟨_, _, ⟨s, _, rfl⟩, rfl, rfl⟩, rfl⟩, rfl⟩ := h1 x hx
    exact ⟨k, n, s, rfl⟩
  · obtain ⟨_, _, ⟨k, _, rfl⟩, ⟨_, _, ⟨n, _, rfl⟩, ⟨_, _, ⟨s, _, rfl⟩, rfl, rfl⟩, rfl⟩, rfl⟩ := h2 x hx
    exact ⟨k, n, s, rfl⟩
  · obtain ⟨_, _, ⟨k, _, rfl⟩, ⟨_, _, ⟨n, _, rfl⟩, ⟨_, _, ⟨s, _, rfl⟩, rfl, rfl⟩, rfl⟩, rfl⟩ := h3 x hx
    exact ⟨k, n, s, rfl⟩

set_option maxRecDepth 100000 in
theorem treeClones_lifted (os : Os) (started : os.Started) (H : Type) (enc : TypeId × Value → H) :
    ReturnsInHanded {} Try.checked os 8 .any (Rows.treeClonesSpec.pre6 enc Try.prog Try.f8 Rows.treeClonesRow.domain false) (Rows.treeClonesSpec.post enc Try.prog Try.f8 false true false false) := by
  refine returnsInHanded_of_change (C := Try.checked) treeClones_own started (by kernel_rfl) Try.func8
    (ChangeSpec.witness6 (enc := enc) (C := Try.checked) false ⟨#[], #[.slice none 0 0, .slice none 0 0, .slice none 0 0], []⟩ 8 (by kernel_rfl) (by kernel_rfl) (by kernel_rfl) (by kernel_rfl)) ?_
  intro W base args ds gs before hval hW _ _
  exact law_contract (P := Try.prog) tt_ok treeClones_laidOut (fn := Try.f8) (s := Rows.treeClonesSpec) 8 (by kernel_rfl) (tb := 4) (by kernel_rfl) Try.underlying4 rfl (fun H ds hd => by
    rw [show Try.f8.params.size = 3 by kernel_rfl] at hd
    match ds, hd with
    | [d0, d1, d2], _ => rfl) treeClones_law W base args ds gs before hval hW

theorem treeClones_holds : Rows.TreeClonesSaid :=
  OpenClaim.holds_of_wide 8 Try.f8 rfl rfl rfl rfl rfl rfl rfl ⟨rfl, rfl, rfl, rfl, rfl⟩ rfl rfl rfl rfl rfl (by kernel_rfl) Try.func8 (by kernel_rfl)
    (of_decide_eq_true (by kernel_rfl)) (by unfold Func.isWrapper; first | (rw [if_pos (by decide +kernel)]; kernel_rfl) | (rw [if_neg (by decide +kernel)]; exact ⟨rfl, rfl⟩))
    (fun os started H enc _ => treeClones_lifted os started H enc)

#print axioms treeClones_holds
end Go.Proofs.Ytfhoblpcneachaa
