/- A contract whose objects all stay where they are: what was moved leaves an empty place behind. -/
import Derived.Test.YtcgpgpbnpjbhhaaPgE2
import Derived.Test.YtcgpgpbnpjbhhaaPgE0
import Derived.Test.YtcgpgpbnpjbhhaaPgE6
namespace Go.Proofs.YtcgpgpbnpjbhhaaPg
open Go Go.RowKit
variable [Globs]
set_option linter.unusedVariables false
set_option linter.unusedSimpArgs false

theorem stay_st {I : Imm} {ρ ρr : List Pl} {H rest : List O} {w : World} {k : Nat} (hst : St I ρ H w) (hk : k ≤ H.length) (hr : ρr.length = rest.length) (hd : ∀ o ∈ rest, o = .dead) :
    St I (ρ.take k ++ (ρr ++ ρ.drop k)) (weave k H rest) w ∧ ∀ b, Owned (ρ.take k ++ (ρr ++ ρ.drop k)) (weave k H rest) b → Owned ρ H b := by
  have f1 := fits_outH (ρs := ρ) (ρr := ρr) (k := k) (by rw [hst.len]; exact hk)
  rw [hr] at f1
  have hdead : ∀ {j : Nat} {o0 : O}, rest[j]? = some o0 → o0 = .dead := fun h => hd _ (List.mem_of_getElem? h)
  have hown : ∀ b, Owned (ρ.take k ++ (ρr ++ ρ.drop k)) (weave k H rest) b → Owned ρ H b := by
    rintro b ⟨i, q, o, hq, ho, hw⟩
    rcases weave_get hst.len hr hk hq ho with ⟨j, o0, h1, h2, rfl, h3⟩ | ⟨j, o0, h1, h2, rfl, h3⟩
    · rw [renO_has] at hw
      exact ⟨j, q, o0, h2, h1, hw⟩
    · rw [renO_has, hdead h1] at hw
      exact hw.1.elim
  refine ⟨⟨?_, fun i q o hq ho => ?_, fun i j q r o x b hq ho hw hr' hx hw' => ?_, hst.imm, fun b hb => hst.sep b (hown b hb)⟩, hown⟩
  · have := hst.len
    simp [weave, mapO_len]
    omega
  · rcases weave_get hst.len hr hk hq ho with ⟨j, o0, h1, h2, rfl, h3⟩ | ⟨j, o0, h1, h2, rfl, h3⟩
    · exact (hst.obj j q o0 h2 h1).ren f1
    · rw [hdead h1]; trivial
  · rcases weave_get hst.len hr hk hq ho with ⟨a, o0, h1, h2, rfl, h3⟩ | ⟨a, o0, h1, h2, rfl, h3⟩ <;> rcases weave_get hst.len hr hk hr' hx with ⟨c, x0, g1, g2, rfl, g3⟩ | ⟨c, x0, g1, g2, rfl, g3⟩ <;> rw [renO_has] at hw hw'
    · have := hst.inj a c q r o0 x0 b h2 h1 hw g2 g1 hw'
      subst this
      rw [h3] at g3; exact Option.some.inj g3
    · rw [hdead g1] at hw'; exact hw'.1.elim
    · rw [hdead h1] at hw; exact hw.1.elim
    · rw [hdead g1] at hw'; exact hw'.1.elim

/-- All places stay: behind the first k, empty ones. -/
theorem ACall.stay {P : Program} {f : FuncId} {k : Nat} {args : List V} {H : List O} {Q : V → List O → Prop} (m : Nat) (hm : H.length = k + m)
    (h : ACall P f k args H fun r H' => Q (renV (outH k m) r) (weave k H' (List.replicate m .dead))) : ACall P f (k + m) args H Q := by
  refine ⟨fun I ρ w us hst hk ha => (h.out I ρ w us hst (by omega) ha).mono ?_⟩
  rintro en w' ⟨v, r, I', ρ', H', h1, h2, h3, h4, h5⟩
  have hρ := hst.len
  have hkl : k ≤ ρ'.length := by
    rcases Nat.eq_zero_or_pos k with h0 | h0
    · omega
    · have e := h4.take (k - 1) (by omega)
      rw [List.getElem?_eq_getElem (show k - 1 < ρ.length by omega)] at e
      have := (List.getElem?_eq_some_iff.1 e).1
      omega
  have hlen : (ρ.drop k).length = m := by simp; omega
  have hkH : k ≤ H'.length := by rw [← h2.len]; exact hkl
  obtain ⟨g1, g2⟩ := stay_st (ρr := ρ.drop k) (rest := List.replicate m .dead) h2 hkH (by simp; omega) (fun o ho => (List.mem_replicate.1 ho).2)
  have f1 := fits_outH (ρs := ρ') (ρr := ρ.drop k) (k := k) hkl
  rw [hlen] at f1
  refine ⟨v, _, I', _, _, h1, g1, h3.ren f1, ⟨h4.ile, fun i hi => ?_, h4.os, h4.tape, h4.output, h4.size, h4.frame, fun b hb => h4.own b (g2 b hb), h4.imm⟩, h5⟩
  by_cases hik : i < k
  · rw [List.getElem?_append_left (by simp; omega), List.getElem?_take_of_lt hik]
    exact h4.take i hik
  · rw [List.getElem?_append_right (by simp; omega), List.getElem?_append_left (by simp; omega), List.getElem?_drop]
    simp only [List.length_take]
    rw [show k + (i - min k ρ'.length) = i by omega]

theorem ACall.adopt {P : Program} {f : FuncId} {k : Nat} {args : List V} {H : List O} {Q : V → List O → Prop}
    (h : ACall P f k args H fun r H' => Q r (H' ++ [.buf []])) : ACall P f k args H Q := by
  refine ⟨fun I ρ w us hst hk ha => (h.out I ρ w us hst hk ha).mono ?_⟩
  rintro en w' ⟨v, r, I', ρ', H', h1, h2, h3, h4, h5⟩
  obtain ⟨g1, g2⟩ := adopt_st h2
  refine ⟨v, r, I', _, _, h1, g1, h3.mono (ILe.refl _) (PLe.append _ _), ⟨h4.ile, fun i hi => ?_, h4.os, h4.tape, h4.output, h4.size, h4.frame, fun b hb => h4.own b (g2 b hb), h4.imm⟩, h5⟩
  have hlt : i < ρ'.length := by
    have hi2 : i < ρ.length := by rw [hst.len]; omega
    have e := h4.take i hi
    rw [List.getElem?_eq_getElem hi2] at e
    exact (List.getElem?_eq_some_iff.1 e).1
  rw [List.getElem?_append_left hlt]
  exact h4.take i hi


end Go.Proofs.YtcgpgpbnpjbhhaaPg
