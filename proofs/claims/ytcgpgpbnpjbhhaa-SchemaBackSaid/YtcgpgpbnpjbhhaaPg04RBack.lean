/- Proved: for every schema, every column and every values the law SchemaBack returns true, and its arguments read behind the call as they did before. There are no conditions. -/
import Derived.Test.YtcgpgpbnpjbhhaaPgM14
import Derived.Test.YtcgpgpbnpjbhhaaRows
namespace Go.Proofs.Ytcgpgpbnpjbhhaa
open Go.ChangeShapes Go.WideShapes Go.ChangeAt Go.RowKit Go.Proofs.YtcgpgpbnpjbhhaaPg

theorem schemaBack_own : ownKnob Try.prog.godebug = none := by kernel_rfl
theorem schemaBack_laidOut : laidOutB Try.prog = true := by kernel_rfl

theorem schemaBack_law (l : List V) (h : Shps tt 8 Try.f6.params.toList l) : ACall Try.prog 6 0 l [] (fun v _ => v = .bool true) := by
  obtain ⟨v1, _, h1, ⟨v2, _, h2, ⟨v3, _, h3, rfl, rfl⟩, rfl⟩, rfl⟩ := h
  obtain ⟨a, ka, e1, ha, hka⟩ := sch_in h1
  obtain ⟨c, e2, _⟩ := col_in h2
  obtain ⟨vs, e3, _⟩ := vals_in h3
  rw [e1, e2, e3]
  exact SchemaBack_spec ha hka

set_option maxRecDepth 100000 in
theorem schemaBack_lifted (os : Os) (started : os.Started) (H : Type) (enc : TypeId × Value → H) :
    ReturnsInHanded {} Try.checked os 6 .any (Rows.schemaBackSpec.pre6 enc Try.prog Try.f6 Rows.schemaBackRow.domain false) (Rows.schemaBackSpec.post enc Try.prog Try.f6 false true false false) := by
  refine returnsInHanded_of_change (C := Try.checked) schemaBack_own started (by kernel_rfl) Try.func6
    (ChangeSpec.witness6 (enc := enc) (C := Try.checked) false ⟨#[], #[.agg #[.slice none 0 0, .int .i64 0], .agg #[.string ⟨#[]⟩, .int .i64 0, .bool false], .slice none 0 0], []⟩ 8 (by kernel_rfl) (by kernel_rfl) (by kernel_rfl) (by kernel_rfl)) ?_
  intro W base args ds gs before hval hW _ _
  exact law_contract (P := Try.prog) tt_ok schemaBack_laidOut (fn := Try.f6) (s := Rows.schemaBackSpec) 8 (by kernel_rfl) (tb := 4) (by kernel_rfl) Try.underlying4 rfl (fun H ds hd => by
    rw [show Try.f6.params.size = 3 by kernel_rfl] at hd
    match ds, hd with
    | [d0, d1, d2], _ => rfl) schemaBack_law W base args ds gs before hval hW

theorem schemaBack_holds : Rows.SchemaBackSaid :=
  OpenClaim.holds_of_wide 6 Try.f6 rfl rfl rfl rfl rfl rfl rfl ⟨rfl, rfl, rfl, rfl, rfl⟩ rfl rfl rfl rfl rfl (by kernel_rfl) Try.func6 (by kernel_rfl)
    (of_decide_eq_true (by kernel_rfl)) (by unfold Func.isWrapper; first | (rw [if_pos (by decide +kernel)]; kernel_rfl) | (rw [if_neg (by decide +kernel)]; exact ⟨rfl, rfl⟩))
    (fun os started H enc _ => schemaBack_lifted os started H enc)

#print axioms schemaBack_holds
end Go.Proofs.Ytcgpgpbnpjbhhaa
