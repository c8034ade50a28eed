/- Proved: for every schema, every change and every values the law SchemaTurns returns true, and its arguments read behind the call as they did before. There are no conditions. -/
import Derived.Test.YtcgpgpbnpjbhhaaPgM14
import Derived.Test.YtcgpgpbnpjbhhaaRows
namespace Go.Proofs.Ytcgpgpbnpjbhhaa
open Go.ChangeShapes Go.WideShapes Go.ChangeAt Go.RowKit Go.Proofs.YtcgpgpbnpjbhhaaPg

theorem schemaTurns_own : ownKnob Try.prog.godebug = none := by kernel_rfl
theorem schemaTurns_laidOut : laidOutB Try.prog = true := by kernel_rfl

theorem schemaTurns_law (l : List V) (h : Shps tt 8 Try.f5.params.toList l) : ACall Try.prog 5 0 l [] (fun v _ => v = .bool true) := by
  obtain ⟨v1, _, h1, ⟨v2, _, h2, ⟨v3, _, h3, rfl, rfl⟩, rfl⟩, rfl⟩ := h
  obtain ⟨a, ka, e1, ha, hka⟩ := sch_in h1
  obtain ⟨k, s, l, k3, c, e2, _, _⟩ := chg_in h2
  obtain ⟨vs, e3, _⟩ := vals_in h3
  rw [e1, e2, e3]
  exact SchemaTurns_spec ha hka

set_option maxRecDepth 100000 in
theorem schemaTurns_lifted (os : Os) (started : os.Started) (H : Type) (enc : TypeId × Value → H) :
    ReturnsInHanded {} Try.checked os 5 .any (Rows.schemaTurnsSpec.pre6 enc Try.prog Try.f5 Rows.schemaTurnsRow.domain false) (Rows.schemaTurnsSpec.post enc Try.prog Try.f5 false true false false) := by
  refine returnsInHanded_of_change (C := Try.checked) schemaTurns_own started (by kernel_rfl) Try.func5
    (ChangeSpec.witness6 (enc := enc) (C := Try.checked) false ⟨#[], #[.agg #[.slice none 0 0, .int .i64 0], .agg #[.int .i64 0, .string ⟨#[]⟩, .slice none 0 0, .int .i64 0, .string ⟨#[]⟩, .int .i64 0, .bool false], .slice none 0 0], []⟩ 8 (by kernel_rfl) (by kernel_rfl) (by kernel_rfl) (by kernel_rfl)) ?_
  intro W base args ds gs before hval hW _ _
  exact law_contract (P := Try.prog) tt_ok schemaTurns_laidOut (fn := Try.f5) (s := Rows.schemaTurnsSpec) 8 (by kernel_rfl) (tb := 4) (by kernel_rfl) Try.underlying4 rfl (fun H ds hd => by
    rw [show Try.f5.params.size = 3 by kernel_rfl] at hd
    match ds, hd with
    | [d0, d1, d2], _ => rfl) schemaTurns_law W base args ds gs before hval hW

theorem schemaTurns_holds : Rows.SchemaTurnsSaid :=
  OpenClaim.holds_of_wide 5 Try.f5 rfl rfl rfl rfl rfl rfl rfl ⟨rfl, rfl, rfl, rfl, rfl⟩ rfl rfl rfl rfl rfl (by kernel_rfl) Try.func5 (by kernel_rfl)
    (of_decide_eq_true (by kernel_rfl)) (by unfold Func.isWrapper; first | (rw [if_pos (by decide +kernel)]; kernel_rfl) | (rw [if_neg (by decide +kernel)]; exact ⟨rfl, rfl⟩))
    (fun os started H enc _ => schemaTurns_lifted os started H enc)

#print axioms schemaTurns_holds
end Go.Proofs.Ytcgpgpbnpjbhhaa
