/- Proved: for every schema and every change the law SchemaApplies returns true, and its arguments read behind the call as they did before. There are no conditions. -/
import Derived.Test.YtcgpgpbnpjbhhaaPgM14
import Derived.Test.YtcgpgpbnpjbhhaaRows
namespace Go.Proofs.Ytcgpgpbnpjbhhaa
open Go.ChangeShapes Go.WideShapes Go.ChangeAt Go.RowKit Go.Proofs.YtcgpgpbnpjbhhaaPg

theorem schemaApplies_own : ownKnob Try.prog.godebug = none := by kernel_rfl
theorem schemaApplies_laidOut : laidOutB Try.prog = true := by kernel_rfl

theorem schemaApplies_law (l : List V) (h : Shps tt 8 Try.f3.params.toList l) : ACall Try.prog 3 0 l [] (fun v _ => v = .bool true) := by
  obtain ⟨v1, _, h1, ⟨v2, _, h2, rfl, rfl⟩, rfl⟩ := h
  obtain ⟨a, ka, e1, ha, hka⟩ := sch_in h1
  obtain ⟨k, s, l, k3, c, e2, _, _⟩ := chg_in h2
  rw [e1, e2]
  exact SchemaApplies_spec ha hka

set_option maxRecDepth 100000 in
theorem schemaApplies_lifted (os : Os) (started : os.Started) (H : Type) (enc : TypeId × Value → H) :
    ReturnsInHanded {} Try.checked os 3 .any (Rows.schemaAppliesSpec.pre6 enc Try.prog Try.f3 Rows.schemaAppliesRow.domain false) (Rows.schemaAppliesSpec.post enc Try.prog Try.f3 false true false false) := by
  refine returnsInHanded_of_change (C := Try.checked) schemaApplies_own started (by kernel_rfl) Try.func3
    (ChangeSpec.witness6 (enc := enc) (C := Try.checked) false ⟨#[], #[.agg #[.slice none 0 0, .int .i64 0], .agg #[.int .i64 0, .string ⟨#[]⟩, .slice none 0 0, .int .i64 0, .string ⟨#[]⟩, .int .i64 0, .bool false]], []⟩ 8 (by kernel_rfl) (by kernel_rfl) (by kernel_rfl) (by kernel_rfl)) ?_
  intro W base args ds gs before hval hW _ _
  exact law_contract (P := Try.prog) tt_ok schemaApplies_laidOut (fn := Try.f3) (s := Rows.schemaAppliesSpec) 8 (by kernel_rfl) (tb := 4) (by kernel_rfl) Try.underlying4 rfl (fun H ds hd => by
    rw [show Try.f3.params.size = 2 by kernel_rfl] at hd
    match ds, hd with
    | [d0, d1], _ => rfl) schemaApplies_law W base args ds gs before hval hW

theorem schemaApplies_holds : Rows.SchemaAppliesSaid :=
  OpenClaim.holds_of_wide 3 Try.f3 rfl rfl rfl rfl rfl rfl rfl ⟨rfl, rfl, rfl, rfl, rfl⟩ rfl rfl rfl rfl rfl (by kernel_rfl) Try.func3 (by kernel_rfl)
    (of_decide_eq_true (by kernel_rfl)) (by unfold Func.isWrapper; first | (rw [if_pos (by decide +kernel)]; kernel_rfl) | (rw [if_neg (by decide +kernel)]; exact ⟨rfl, rfl⟩))
    (fun os started H enc _ => schemaApplies_lifted os started H enc)

#print axioms schemaApplies_holds
end Go.Proofs.Ytcgpgpbnpjbhhaa
