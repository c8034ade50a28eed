/- Proved: for every two schemas and every text the law SchemaMay returns true, and its arguments read behind the call as they did before. There are no conditions. -/
import Derived.Test.YtcgpgpbnpjbhhaaPgM14
import Derived.Test.YtcgpgpbnpjbhhaaRows
namespace Go.Proofs.Ytcgpgpbnpjbhhaa
open Go.ChangeShapes Go.WideShapes Go.ChangeAt Go.RowKit Go.Proofs.YtcgpgpbnpjbhhaaPg

theorem schemaMay_own : ownKnob Try.prog.godebug = none := by kernel_rfl
theorem schemaMay_laidOut : laidOutB Try.prog = true := by kernel_rfl

theorem schemaMay_law (l : List V) (h : Shps tt 8 Try.f4.params.toList l) : ACall Try.prog 4 0 l [] (fun v _ => v = .bool true) := by
  obtain ⟨v1, _, h1, ⟨v2, _, h2, ⟨v3, _, ⟨s, _, rfl⟩, rfl, rfl⟩, rfl⟩, rfl⟩ := h
  obtain ⟨a, ka, e1, ha, hka⟩ := sch_in h1
  obtain ⟨b, kb, e2, hb, hkb⟩ := sch_in h2
  rw [e1, e2]
  exact SchemaMay_spec ha hka

set_option maxRecDepth 100000 in
theorem schemaMay_lifted (os : Os) (started : os.Started) (H : Type) (enc : TypeId × Value → H) :
    ReturnsInHanded {} Try.checked os 4 .any (Rows.schemaMaySpec.pre6 enc Try.prog Try.f4 Rows.schemaMayRow.domain false) (Rows.schemaMaySpec.post enc Try.prog Try.f4 false true false false) := by
  refine returnsInHanded_of_change (C := Try.checked) schemaMay_own started (by kernel_rfl) Try.func4
    (ChangeSpec.witness6 (enc := enc) (C := Try.checked) false ⟨#[], #[.agg #[.slice none 0 0, .int .i64 0], .agg #[.slice none 0 0, .int .i64 0], .string ⟨#[]⟩], []⟩ 8 (by kernel_rfl) (by kernel_rfl) (by kernel_rfl) (by kernel_rfl)) ?_
  intro W base args ds gs before hval hW _ _
  exact law_contract (P := Try.prog) tt_ok schemaMay_laidOut (fn := Try.f4) (s := Rows.schemaMaySpec) 8 (by kernel_rfl) (tb := 4) (by kernel_rfl) Try.underlying4 rfl (fun H ds hd => by
    rw [show Try.f4.params.size = 3 by kernel_rfl] at hd
    match ds, hd with
    | [d0, d1, d2], _ => rfl) schemaMay_law W base args ds gs before hval hW

theorem schemaMay_holds : Rows.SchemaMaySaid :=
  OpenClaim.holds_of_wide 4 Try.f4 rfl rfl rfl rfl rfl rfl rfl ⟨rfl, rfl, rfl, rfl, rfl⟩ rfl rfl rfl rfl rfl (by kernel_rfl) Try.func4 (by kernel_rfl)
    (of_decide_eq_true (by kernel_rfl)) (by unfold Func.isWrapper; first | (rw [if_pos (by decide +kernel)]; kernel_rfl) | (rw [if_neg (by decide +kernel)]; exact ⟨rfl, rfl⟩))
    (fun os started H enc _ => schemaMay_lifted os started H enc)

#print axioms schemaMay_holds
end Go.Proofs.Ytcgpgpbnpjbhhaa
