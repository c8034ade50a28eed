/- A round of a loop whose objects are packed. -/
import Derived.Test.YtcgpgpbnpjbhhaaPgE4
namespace Go.Proofs.YtcgpgpbnpjbhhaaPg
open Go Go.RowKit
variable [Globs]
set_option linter.unusedVariables false
set_option linter.unusedSimpArgs false

variable {P : Program} {T : Nat → TI} {I : Imm} {ρ : List Pl} {H : List O} {w : World} {e : Env}

/-- A pack of which J holds. -/
def IsPk (J : List O → Prop) (ks : List Pl) (o : O) : Prop := ∃ B, o = .res (packR J ks B) B

theorem IsPk.mono {J J' : List O → Prop} {ks : List Pl} {B : List Nat} (hJ : ∀ Hs, J Hs → J' Hs) {I : Imm} {w : World} {ρ0 : List Pl} {p : Pl} (h : ORel I ρ0 w p (.res (packR J ks B) B)) : ORel I ρ0 w p (.res (packR J' ks B) B) := by
  obtain ⟨h1, h2, h3⟩ := h
  have key : ∀ I' w', packR J ks B I' w' p.b → packR J' ks B I' w' p.b := fun I' w' ⟨ρs, Hs, g1, g2⟩ => ⟨ρs, Hs, hJ _ g1, g2⟩
  exact ⟨key _ _ h1, fun I' w' hi hs => key _ _ (h2 I' w' hi hs), h3⟩

/-- A call of yield where the loop's objects are packed, by one where they lie open. -/
theorem packed_yield {J : List O → Prop} {ks : List Pl} {B : List Nat} {args : List V} {Q : V → List O → Prop} {Q' : V → List O → Prop} (hargs : args.all pureV = true)
    (h : ∀ Hs, J Hs → AYield P ks.length (.yld 0 :: args) Hs Q') (hq : ∀ r Hs B', Q' r Hs → (∃ b, r = .bool b) ∧ ∃ J', J' Hs ∧ Q r [.res (packR J' ks B') B']) : AYield P 1 (.yld 0 :: args) [.res (packR J ks B) B] Q := by
  refine ⟨fun I ρ w us hst hk ha => ?_⟩
  obtain ⟨p, rfl⟩ : ∃ p, ρ = [p] := by
    have := hst.len
    simp at this
    exact List.length_eq_one_iff.1 this
  obtain ⟨⟨ρs, Hs, hJ, hso, hks, hb, hB⟩, _, _⟩ := hst.obj 0 p _ rfl rfl
  obtain ⟨u0, us', rfl, h0, hvs⟩ := ha.cons_inv
  obtain ⟨p', hp', rfl⟩ := vr_yld h0
  simp only [List.getElem?_cons_zero, Option.some.injEq] at hp'
  subst hp'
  have hkl : ks.length ≤ ρs.length := by
    rcases Nat.eq_zero_or_pos ks.length with h0 | h0
    · omega
    · have := hks (ks.length - 1) _ (List.getElem?_eq_getElem (by omega))
      have := (List.getElem?_eq_some_iff.1 this).1
      omega
  obtain ⟨k0, hk0, hkb⟩ : ∃ k0, ks[0]? = some k0 ∧ k0.b = p.b := by
    cases hx : ks[0]? with
    | none => rw [hx] at hb; cases hb
    | some k0 => rw [hx] at hb; exact ⟨k0, rfl, by simpa using hb⟩
  have hown : ∀ b, Owned [p] [.res (packR J ks B) B] b ↔ b ∈ B := fun b =>
    ⟨fun ⟨i, q, o, hq, ho, hw⟩ => by
      cases i with
      | zero => simp at ho; subst ho; exact hw
      | succ i => simp at ho, fun hb => ⟨0, p, _, rfl, rfl, hb⟩⟩
  have hst2 : St I ρs Hs w := ⟨hso.len, hso.obj, hso.inj, hst.imm, fun b hb => hst.sep b ((hown b).2 ((hB b).1 hb))⟩
  have hvs2 : VRels I ρs (.yld 0 :: args) (.func (.yield p.b) #[] #[] :: us') := by
    refine .cons ?_ ⟨hvs.1, fun i x u hx hu => (pureV_nil (List.all_eq_true.1 hargs x (List.mem_of_getElem? hx)) (hvs.2 i x u hx hu)).mono (ILe.refl _) (PLe.nil _)⟩
    rw [← hkb]
    exact .yld _ _ _ (hks 0 k0 hk0)
  obtain ⟨l, us2, e1, fn, tmps, asg, body, h2, h3⟩ := (h Hs hJ).out I ρs w _ hst2 (by rw [← hso.len]; exact hkl) hvs2
  refine ⟨l, us2, e1, fn, tmps, asg, body, h2, h3.mono ?_⟩
  rintro en w' ⟨v, r, I', ρ', H', rfl, s1, s2, s3, s4⟩
  obtain ⟨B', hB'⟩ := blocks_of (fun b hb => s1.lt hb)
  obtain ⟨⟨bb, rfl⟩, J', hJ', hQ⟩ := hq r H' B' s4
  have hks' : PLe ks ρ' := fun i q hi => by
    have hik : i < ks.length := (List.getElem?_eq_some_iff.1 hi).1
    rw [s3.take i hik]; exact hks i q hi
  have hown' : ∀ b, Owned [p] [.res (packR J' ks B') B'] b ↔ b ∈ B' := fun b =>
    ⟨fun ⟨i, q, o, hq, ho, hw⟩ => by
      cases i with
      | zero => simp at ho; subst ho; exact hw
      | succ i => simp at ho, fun hb => ⟨0, p, _, rfl, rfl, hb⟩⟩
  have hst3 : St I' [p] [.res (packR J' ks B') B'] w' := by
    refine ⟨rfl, fun i q o hq ho => ?_, fun i j q q' o o' b hq ho _ hq' ho' _ => ?_, s1.imm, fun b hb => s1.sep b ((hB' b).2 ((hown' b).1 hb))⟩
    · cases i with
      | zero => simp at hq ho; subst hq; subst ho; exact pack_rel s1 hJ' hks' (by rw [hk0]; simp [hkb]) hB'
      | succ i => simp at hq
    · cases i with
      | zero => cases j with
        | zero => rfl
        | succ j => simp at hq'
      | succ i => simp at hq
  refine ⟨v, .bool bb, I', [p], _, rfl, hst3, ?_, ⟨s3.ile, fun _ _ => rfl, s3.os, s3.tape, s3.output, s3.size, fun b hb hn => s3.frame b hb fun ho => hn ((hown b).2 ((hB b).1 ho)), fun b hb => ?_, fun b o x hx => ?_⟩, hQ⟩
  · rw [vr_bool s2]; exact .bool _ _
  · rcases s3.own b ((hB' b).2 ((hown' b).1 hb)) with h | h
    · exact .inl ((hown b).2 ((hB b).1 h))
    · exact .inr h
  · rcases s3.imm b o x hx with h | h | h
    · exact .inl h
    · exact .inr (.inl ((hown b).2 ((hB b).1 h)))
    · exact .inr (.inr h)

end Go.Proofs.YtcgpgpbnpjbhhaaPg
