/- A contract, its result made immutable, or its objects let go. -/
import Derived.Test.YtcgpgpbnpjbhhaaPgE1
import Derived.Test.YtcgpgpbnpjbhhaaPgC1
namespace Go.Proofs.YtcgpgpbnpjbhhaaPg
open Go Go.RowKit
variable [Globs]
set_option linter.unusedVariables false
set_option linter.unusedSimpArgs false

/-- Cells that may become immutable. -/
def frzOkC : O → Bool
  | .cells cs => cs.all pureV
  | _ => false

/-- An object of what comes back, a row of cells, becomes immutable. -/
theorem ACall.frz {P : Program} {f : FuncId} {k : Nat} {args : List V} {H : List O} {Q : V → List O → Prop} (id : Nat)
    (h : ACall P f k args H fun r H' => frzOkC (getO H' id) = true ∧ Q (frzV id (getO H' id) r) (frzH id (getO H' id) 0 H')) : ACall P f k args H Q := by
  refine ⟨fun I ρ w us hst hk ha => (h.out I ρ w us hst hk ha).mono ?_⟩
  rintro en w' ⟨v, r, I', ρ', H', h1, h2, h3, h4, h5, h6⟩
  have hne : getO H' id ≠ .dead := fun e => by rw [e] at h5; cases h5
  have hfr : frzOk (getO H' id) = true ∧ FitH id (getO H' id) H' ∧ ∀ v, FitV id (getO H' id) v := by
    cases ho' : getO H' id <;> rw [ho'] at h5 <;> simp only [frzOkC] at h5 <;> (try (cases h5; done))
    exact ⟨h5, fun _ _ _ _ => trivial, fun _ _ _ => trivial⟩
  have ho := getO_some (H := H') (id := id) rfl hne
  have hlt : id < ρ'.length := by rw [h2.len]; exact (List.getElem?_eq_some_iff.1 ho).1
  obtain ⟨I2, g1, g2, g3⟩ := frz_st h2 (List.getElem?_eq_getElem hlt) ho hfr.1 hfr.2.1 k
  exact ⟨v, _, I2, ρ', _, h1, g1, g3 _ _ (hfr.2.2 _) h3, h4.trans g2, h6⟩

/-- Objects of what comes back are let go, the others named anew. -/
theorem ACall.sel {P : Program} {f : FuncId} {k : Nat} {args : List V} {H : List O} {Q : V → List O → Prop}
    (h : ACall P f k args H fun r H' => ∃ sel, selOk sel H'.length k = true ∧ Q (renV (idx sel) r) (gather (idx sel) H' sel)) : ACall P f k args H Q := by
  refine ⟨fun I ρ w us hst hk ha => (h.out I ρ w us hst hk ha).mono ?_⟩
  rintro en w' ⟨v, r, I', ρ', H', h1, h2, h3, h4, sel, h5, h6⟩
  obtain ⟨g1, g2, g3⟩ := sel_step h2 h5 h4
  exact ⟨v, _, I', _, _, h1, g1, h3.ren g2, g3, h6⟩

end Go.Proofs.YtcgpgpbnpjbhhaaPg
