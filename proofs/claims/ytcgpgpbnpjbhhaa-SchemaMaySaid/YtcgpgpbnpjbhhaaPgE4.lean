/- A contract's result is closed. -/
import Derived.Test.YtcgpgpbnpjbhhaaPgE3
namespace Go.Proofs.YtcgpgpbnpjbhhaaPg
open Go Go.RowKit
variable [Globs]
set_option linter.unusedVariables false
set_option linter.unusedSimpArgs false

variable {P : Program} {T : Nat → TI} {I : Imm} {ρ : List Pl} {H : List O} {w : World} {e : Env}

theorem pure_one {v : V} (h : pureV v = true) {u : Value} (hr : VRel I ρ v u) : u.oneCell' = true := by
  cases hr <;> simp [pureV] at h <;> first | rfl | assumption

theorem VRel.im' {v : V} (h : pureV v = true) {u : Value} (hr : VRel I ρ v u) : VRel I ρ (.im v) u := .im _ _ _ (pure_one h hr) (pureV_nil h hr)

/-- The result of a contract is closed. -/
theorem ACall.im {P : Program} {f : FuncId} {k : Nat} {args : List V} {H : List O} {Q : V → List O → Prop}
    (h : ACall P f k args H fun r H' => pureV r = true ∧ Q (.im r) H') : ACall P f k args H Q := by
  refine ⟨fun I ρ w us hst hk ha => (h.out I ρ w us hst hk ha).mono ?_⟩
  rintro en w' ⟨v, r, I', ρ', H', h1, h2, h3, h4, h5, h6⟩
  exact ⟨v, _, I', ρ', H', h1, h2, h3.im' h5, h4, h6⟩

/-- What is closed may be taken as open. -/
theorem ACall.opened {P : Program} {f : FuncId} {k : Nat} {args : List V} {H : List O} {Q : V → List O → Prop} (h : ACall P f k (args.map open1) H Q) : ACall P f k args H Q :=
  ⟨fun I ρ w us hst hk ha => h.out I ρ w us hst hk ⟨by simpa using ha.1, fun i a u hx hu => by
    rw [List.getElem?_map] at hx
    cases hy : args[i]? with
    | none => rw [hy] at hx; cases hx
    | some y => rw [hy] at hx; cases hx; exact open_rel (ha.2 i y u hy hu)⟩⟩

end Go.Proofs.YtcgpgpbnpjbhhaaPg
