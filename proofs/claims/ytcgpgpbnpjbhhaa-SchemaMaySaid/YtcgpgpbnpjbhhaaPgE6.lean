/- Values and objects told in less sharp words. -/
import Derived.Test.YtcgpgpbnpjbhhaaPgE5
namespace Go.Proofs.YtcgpgpbnpjbhhaaPg
open Go Go.RowKit
variable [Globs]
set_option linter.unusedVariables false
set_option linter.unusedSimpArgs false

variable {P : Program} {T : Nat → TI} {I : Imm} {ρ : List Pl} {H : List O} {w : World} {e : Env}

theorem VSub.im {v : V} (h : pureV v = true) : VSub v (.im v) := fun _ _ _ hr => hr.im' h
theorem VSub.im2 {v v' : V} (h : VSub v v') : VSub (.im v) (.im v') := fun I ρ u hr => by
  cases hr with
  | im _ _ _ h1 h2 => exact .im _ _ _ h1 (h I [] u h2)

/-- A contract, its result told in less sharp words. -/
theorem ACall.sub {f : FuncId} {k : Nat} {args : List V} {H : List O} {Q : V → List O → Prop}
    (h : ACall P f k args H fun r H' => ∃ r' H'', VSub r r' ∧ HSub H' H'' ∧ Q r' H'') : ACall P f k args H Q := by
  refine ⟨fun I ρ w us hst hk ha => (h.out I ρ w us hst hk ha).mono ?_⟩
  rintro en w' ⟨v, r, I', ρ', H', h1, h2, h3, h4, r', H'', h5, h6, h7⟩
  exact ⟨v, r', I', ρ', H'', h1, h6.st h2, h5 _ _ _ h3, h4.trans (h6.step k), h7⟩

/-- A contract, of whose result objects may become immutable, or be let go. -/
theorem ACall.ret {f : FuncId} {k : Nat} {args : List V} {H : List O} {Q : V → List O → Prop} (h : ACall P f k args H (ARet k Q)) : ACall P f k args H Q := by
  refine ⟨fun I ρ w us hst hk ha => (h.out I ρ w us hst hk ha).mono ?_⟩
  rintro en w' ⟨v, r, I', ρ', H', h1, h2, h3, h4, h5⟩
  obtain ⟨r3, I3, ρ3, H3, y1, y2, y3, y4⟩ := aret_sound h5 (h4.klen (by rw [hst.len]; exact hk)) h2 h3 h4
  exact ⟨v, r3, I3, ρ3, H3, h1, y2, y3, y4, y1⟩

theorem frz_ms_eq (id z : Nat) (es : List (List V)) (c : Bool) : frzV id (.buf es) (.ms z id 0 es.length c) = .sl z es c := by
  simp only [frzV, Nat.beq_refl, List.drop_zero, List.take_length]

/-- A slice that is its whole buffer becomes immutable. -/
theorem ARet.frz_ms {k : Nat} {Q : V → List O → Prop} {H : List O} {id z len : Nat} {es : List (List V)} {c : Bool} (ho : getO H id = .buf es) (hl : len = es.length) (hfit : msLe es.length (msH id H)) (h : ARet k Q (.sl z es c) (frzH id (.buf es) 0 H)) : ARet k Q (.ms z id 0 len c) H := by
  refine .frz id (by rw [ho]; rfl) ?_ ?_
  · rw [ho]
    show msLe es.length (msL id [.ms z id 0 len c] ++ (msE id [] ++ msH id H))
    have : msL id [.ms z id 0 len c] = [(0, len)] := by simp [msL, msV, Nat.beq_refl]
    rw [this]
    exact ⟨by omega, hfit⟩
  · rw [ho]
    subst hl
    rw [frz_ms_eq]; exact h

/-- A contract for arguments told in less sharp words. -/
theorem ACall.args {f : FuncId} {k : Nat} {as bs : List V} {H : List O} {Q : V → List O → Prop} (hs : VSubs as bs) (h : ACall P f k bs H Q) : ACall P f k as H Q :=
  ⟨fun I ρ w us hst hk ha => h.out I ρ w us hst hk ⟨by rw [← hs.1]; exact ha.1, fun i b u hb hu => by
    obtain ⟨a, ga, gs⟩ := hs.get hb
    exact gs _ _ _ (ha.2 i a u ga hu)⟩⟩

end Go.Proofs.YtcgpgpbnpjbhhaaPg
