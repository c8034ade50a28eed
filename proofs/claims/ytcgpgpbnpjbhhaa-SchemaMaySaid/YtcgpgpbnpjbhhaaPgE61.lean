/- A buffer without room. -/
import Derived.Test.YtcgpgpbnpjbhhaaPgA9
namespace Go.Proofs.YtcgpgpbnpjbhhaaPg
open Go Go.RowKit
variable [Globs]
set_option linter.unusedVariables false

variable {I : Imm} {ρ : List Pl} {H : List O} {w : World}

/-- A buffer without room is had for nothing. -/
theorem adopt_st (h : St I ρ H w) : St I (ρ ++ [⟨0, 0, 0, 0⟩]) (H ++ [.buf []]) w ∧ ∀ b, Owned (ρ ++ [⟨0, 0, 0, 0⟩]) (H ++ [.buf []]) b → Owned ρ H b := by
  have get : ∀ (i : Nat) (p : Pl) (o : O), (ρ ++ [⟨0, 0, 0, 0⟩])[i]? = some p → (H ++ [O.buf []])[i]? = some o → (ρ[i]? = some p ∧ H[i]? = some o) ∨ (i = ρ.length ∧ p = ⟨0, 0, 0, 0⟩ ∧ o = .buf []) := by
    intro i p o hp ho
    rcases Nat.lt_or_ge i ρ.length with hi | hi
    · rw [List.getElem?_append_left hi] at hp
      rw [List.getElem?_append_left (by rw [← h.len]; exact hi)] at ho
      exact .inl ⟨hp, ho⟩
    · have hlt := (List.getElem?_eq_some_iff.1 hp).1
      simp at hlt
      have e : i = ρ.length := by omega
      subst e
      rw [List.getElem?_append_right (Nat.le_refl _), Nat.sub_self] at hp
      rw [List.getElem?_append_right (by rw [← h.len]; exact Nat.le_refl _), ← h.len, Nat.sub_self] at ho
      exact .inr ⟨rfl, by simpa using hp.symm, by simpa using ho.symm⟩
  have hno : ∀ b, ¬ (O.buf []).owns ⟨0, 0, 0, 0⟩ b := fun b hw => hw.1 rfl
  have hown : ∀ b, Owned (ρ ++ [⟨0, 0, 0, 0⟩]) (H ++ [.buf []]) b → Owned ρ H b := by
    rintro b ⟨i, p, o, hp, ho, hw⟩
    rcases get i p o hp ho with ⟨g1, g2⟩ | ⟨_, rfl, rfl⟩
    · exact ⟨i, p, o, g1, g2, hw⟩
    · exact absurd hw (hno b)
  refine ⟨⟨by simp [h.len], fun i p o hp ho => ?_, fun i j p q o r b hp ho hw hq hr hw' => ?_, h.imm, fun b hb => h.sep b (hown b hb)⟩, hown⟩
  · rcases get i p o hp ho with ⟨g1, g2⟩ | ⟨_, rfl, rfl⟩
    · exact (h.obj i p o g1 g2).keep (fun _ _ => rfl) (ILe.refl _) (PLe.append _ _)
    · exact .inl ⟨rfl, rfl⟩
  · rcases get i p o hp ho with ⟨g1, g2⟩ | ⟨_, rfl, rfl⟩
    · rcases get j q r hq hr with ⟨g3, g4⟩ | ⟨_, rfl, rfl⟩
      · exact h.inj i j p q o r b g1 g2 hw g3 g4 hw'
      · exact absurd hw' (hno b)
    · exact absurd hw (hno b)

theorem adopt_step {k : Nat} (h : St I ρ H w) (hk : k ≤ ρ.length) : Step k I ρ H w I (ρ ++ [⟨0, 0, 0, 0⟩]) (H ++ [.buf []]) w :=
  ⟨ILe.refl _, fun i hi => by rw [List.getElem?_append_left (by omega)], rfl, rfl, rfl, Nat.le_refl _, fun _ _ _ => rfl, fun b hb => .inl ((adopt_st h).2 b hb), fun _ _ _ h => .inl h⟩

end Go.Proofs.YtcgpgpbnpjbhhaaPg
