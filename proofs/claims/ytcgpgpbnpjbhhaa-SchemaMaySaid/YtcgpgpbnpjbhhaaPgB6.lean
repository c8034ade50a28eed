/- The call. -/
import Derived.Test.YtcgpgpbnpjbhhaaPgB5
namespace Go.Proofs.YtcgpgpbnpjbhhaaPg
open Go Go.RowKit
variable [Globs]
set_option linter.unusedVariables false
set_option linter.unusedSimpArgs false

variable {P : Program} {T : Nat → TI} {I : Imm} {ρ : List Pl} {H : List O} {w : World} {e : Env}

/-- the callee's places -/
def subP (is : List Nat) (ρ : List Pl) : List Pl := is.map fun i => ρ.getD i ⟨0, 0, 0, 0⟩

theorem subP_get {is : List Nat} (hl : ∀ i ∈ is, i < ρ.length) {j : Nat} {p : Pl} : (subP is ρ)[j]? = some p ↔ ∃ i, is[j]? = some i ∧ ρ[i]? = some p := by
  constructor
  · intro h
    simp only [subP, List.getElem?_map, Option.map_eq_some_iff] at h
    obtain ⟨i, h1, h2⟩ := h
    have := hl i (List.mem_of_getElem? h1)
    refine ⟨i, h1, ?_⟩
    rw [List.getElem?_eq_getElem this]
    simpa [List.getD, List.getElem?_eq_getElem this] using h2
  · rintro ⟨i, h1, h2⟩
    simp [subP, List.getElem?_map, h1, List.getD, h2]

theorem gather_get {f : Nat → Option Nat} {is : List Nat} {j : Nat} {o : O} : (gather f H is)[j]? = some o ↔ ∃ i, is[j]? = some i ∧ o = renO f (getO H i) := by
  rw [gather_map, List.getElem?_map]
  constructor
  · intro h
    simp at h
    obtain ⟨i, h1, h2⟩ := h
    exact ⟨i, h1, h2.symm⟩
  · rintro ⟨i, h1, rfl⟩; simp [h1]

theorem handover (hst : St I ρ H w) {is : List Nat} (hl : allLt is H.length = true) (hn : nodupB is = true) :
    St I (subP is ρ) (gather (idx is) H is) w ∧ Fits (idx is) ρ (subP is ρ) ∧ (∀ b, Owned (subP is ρ) (gather (idx is) H is) b → ∃ i ∈ is, ∃ p o, ρ[i]? = some p ∧ H[i]? = some o ∧ o.owns p b) := by
  have hlt : ∀ i ∈ is, i < ρ.length := fun i hi => by rw [hst.len]; exact allLt_lt hl i hi
  have hfit : Fits (idx is) ρ (subP is ρ) := fun i j p hij hp => (subP_get hlt).2 ⟨i, idx_some hij, hp⟩
  have own : ∀ (j : Nat) (p : Pl) (o : O), (subP is ρ)[j]? = some p → (gather (idx is) H is)[j]? = some o → ∃ i o', is[j]? = some i ∧ ρ[i]? = some p ∧ H[i]? = some o' ∧ o = renO (idx is) o' := by
    intro j p o hp ho
    obtain ⟨i, h1, h2⟩ := (subP_get hlt).1 hp
    obtain ⟨i', h1', h3⟩ := gather_get.1 ho
    rw [h1] at h1'; cases h1'
    have hi : i < H.length := by rw [← hst.len]; exact hlt i (List.mem_of_getElem? h1)
    exact ⟨i, H[i], h1, h2, List.getElem?_eq_getElem hi, by rw [h3]; simp [getO, List.getD, List.getElem?_eq_getElem hi]⟩
  refine ⟨⟨by simp [subP, gather_map], fun j p o hp ho => ?_, fun i j p q o r b0 hp ho hh hq hr hh' => ?_, hst.imm, fun b ⟨j, p, o, hp, ho, hh⟩ => ?_⟩, hfit, fun b ⟨j, p, o, hp, ho, hh⟩ => ?_⟩
  · obtain ⟨i, o', h1, h2, h3, rfl⟩ := own j p o hp ho
    exact (hst.obj i p o' h2 h3).ren hfit
  · obtain ⟨a, o', h1, h2, h3, rfl⟩ := own i p o hp ho
    obtain ⟨b, r', g1, g2, g3, rfl⟩ := own j q r hq hr
    have := hst.inj a b p q o' r' b0 h2 h3 ((renO_has _ _ _ _).1 hh) g2 g3 ((renO_has _ _ _ _).1 hh')
    subst this
    have e1 := nodup_idx hn h1
    have e2 := nodup_idx hn g1
    rw [e1] at e2
    exact Option.some.inj e2
  · obtain ⟨i, o', h1, h2, h3, rfl⟩ := own j p o hp ho
    exact hst.sep b ⟨i, p, o', h2, h3, (renO_has _ _ _ _).1 hh⟩
  · obtain ⟨i, o', h1, h2, h3, rfl⟩ := own j p o hp ho
    exact ⟨i, List.mem_of_getElem? h1, p, o', h2, h3, (renO_has _ _ _ _).1 hh⟩

theorem forget_some {l : List Nat} {i j : Nat} (h : forget l i = some j) : j = i ∧ i ∉ l := by
  unfold forget at h
  cases hx : idx l i with
  | some p => simp only [hx] at h; cases h
  | none => simp only [hx] at h; cases h; exact ⟨rfl, idx_none hx⟩

theorem fogOf_some {is : List Nat} {k i j : Nat} (h : fogOf is k i = some j) : j = i ∧ i ∉ is.drop k := by
  unfold fogOf at h
  cases hd : is.drop k with
  | nil => rw [hd] at h; cases h; exact ⟨rfl, by simp⟩
  | cons a l => rw [hd] at h; exact forget_some h

theorem fogE_get (is : List Nat) (k : Nat) (e : Env) (t : Nat) {ρ' : List Pl} {I' : Imm} {u : Value} (hf : Fits (fogOf is k) ρ ρ') (hI : ILe I I') (h : VRel I ρ (Env.get e t) u) (hid : is.drop k = [] → PLe ρ ρ') : VRel I' ρ' (Env.get (fogE is k e) t) u := by
  unfold fogE
  cases hd : is.drop k with
  | nil => exact h.mono hI (hid hd)
  | cons a l =>
    simp only
    rw [renE_get]
    have : fogOf is k = forget (a :: l) := by unfold fogOf; rw [hd]
    rw [this] at hf
    exact (h.mono hI (PLe.refl _)).ren hf

theorem takeback (hst : St I ρ H w) {is : List Nat} (hl : allLt is H.length = true) (hn : nodupB is = true) {k k' : Nat} (hk' : k' ≤ is.length) (hge : allGe (is.drop k') k = true) (hk : k ≤ ρ.length) {I' : Imm} {ρ' : List Pl} {H' : List O} {w' : World}
    (hst' : St I' ρ' H' w') (hstep : Step k' I (subP is ρ) (gather (idx is) H is) w I' ρ' H' w') :
    St I' (mergeP is ρ ρ') (mergeO is H.length (fogOf is k') H' 0 H) w' ∧ Fits (back is H.length) ρ' (mergeP is ρ ρ') ∧ Fits (fogOf is k') ρ (mergeP is ρ ρ') ∧ (is.drop k' = [] → PLe ρ (mergeP is ρ ρ')) ∧
    Step k I ρ H w I' (mergeP is ρ ρ') (mergeO is H.length (fogOf is k') H' 0 H) w' := by
  obtain ⟨hc, hfit, hown⟩ := handover hst hl hn
  have hlt : ∀ i ∈ is, i < ρ.length := fun i hi => by rw [hst.len]; exact allLt_lt hl i hi
  have hlen : ρ'.length = H'.length := hst'.len
  have hrl : ρ.length = H.length := hst.len
  -- the places
  have gP : ∀ i, i < ρ.length + (ρ'.length - is.length) → (mergeP is ρ ρ')[i]? = _ := fun i hi => mergeP_get is ρ ρ' i hi
  have stab : ∀ j i p, j < k' → is[j]? = some i → ρ[i]? = some p → ρ'[j]? = some p := fun j i p hj hi hp => by
    rw [hstep.take j hj]; exact (subP_get hlt).2 ⟨i, hi, hp⟩
  have hback : Fits (back is H.length) ρ' (mergeP is ρ ρ') := by
    intro j i p hji hp
    have hjl : j < ρ'.length := (List.getElem?_eq_some_iff.1 hp).1
    unfold back at hji
    cases hx : is[j]? with
    | some i' =>
      rw [hx] at hji; cases hji
      have hi : i < ρ.length := hlt i (List.mem_of_getElem? hx)
      rw [gP i (by omega), if_pos hi, nodup_idx hn hx]
      simp [List.getD, hp]
    | none =>
      rw [hx] at hji; cases hji
      have : is.length ≤ j := List.getElem?_eq_none_iff.1 hx
      rw [← hrl]
      rw [gP _ (by omega), if_neg (by omega)]
      rw [show is.length + (ρ.length + (j - is.length) - ρ.length) = j by omega]
      simp [List.getD, hp]
  have hfog : Fits (fogOf is k') ρ (mergeP is ρ ρ') := by
    intro i j p hij hp
    obtain ⟨e0, hni⟩ := fogOf_some hij
    rw [e0]
    have hi : i < ρ.length := (List.getElem?_eq_some_iff.1 hp).1
    rw [gP i (by omega), if_pos hi]
    cases hx : idx is i with
    | none => simp [List.getD, hp]
    | some j =>
      have hj := idx_some hx
      have hjk : j < k' := by
        rcases Nat.lt_or_ge j k' with h | h
        · exact h
        · exfalso; apply hni
          have : (is.drop k')[j - k']? = some i := by rw [List.getElem?_drop, show k' + (j - k') = j by omega]; exact hj
          exact List.mem_of_getElem? this
      simp only
      have := stab j i p hjk hj hp
      simp [List.getD, this]
  have hple : is.drop k' = [] → PLe ρ (mergeP is ρ ρ') := fun hd i p hp => hfog i i p (by unfold fogOf; rw [hd]) hp
  -- what each object is
  have cls : ∀ (i : Nat) (p : Pl) (o : O), (mergeP is ρ ρ')[i]? = some p → (mergeO is H.length (fogOf is k') H' 0 H)[i]? = some o → o = .dead ∨
      (i < H.length ∧ idx is i = none ∧ ρ[i]? = some p ∧ ∃ o', H[i]? = some o' ∧ o = renO (fogOf is k') o') ∨
      (∃ j o', ρ'[j]? = some p ∧ H'[j]? = some o' ∧ o = renO (back is H.length) o' ∧ (idx is i = some j ∧ i < H.length ∨ (H.length ≤ i ∧ j = is.length + (i - H.length)))) := by
    intro i p o hp ho
    rw [mergeO_get] at ho
    have hil : i < ρ.length + (ρ'.length - is.length) := by have := (List.getElem?_eq_some_iff.1 hp).1; simpa [mergeP] using this
    rw [gP i hil] at hp
    by_cases hi : i < H.length
    · rw [if_pos hi, Nat.zero_add] at ho
      rw [if_pos (by omega)] at hp
      cases hx : idx is i with
      | none =>
        simp only [hx] at ho hp
        cases hp
        refine .inr (.inl ⟨hi, rfl, ?_, ?_⟩)
        · rw [List.getElem?_eq_getElem (by omega)]; simp [List.getD, List.getElem?_eq_getElem (show i < ρ.length by omega)]
        · rw [List.getElem?_eq_getElem hi] at ho ⊢
          cases ho; exact ⟨_, rfl, rfl⟩
      | some j =>
        simp only [hx] at ho hp
        cases hj : H'[j]? with
        | none => rw [hj] at ho; cases ho; exact .inl rfl
        | some o' =>
          rw [hj] at ho; cases ho
          have hjl : j < ρ'.length := by rw [hlen]; exact (List.getElem?_eq_some_iff.1 hj).1
          cases hp
          refine .inr (.inr ⟨j, o', ?_, hj, rfl, .inl ⟨rfl, hi⟩⟩)
          rw [List.getElem?_eq_getElem hjl]; simp [List.getD, List.getElem?_eq_getElem hjl]
    · rw [if_neg hi] at ho
      rw [if_neg (by omega)] at hp
      cases hj : H'[is.length + (i - H.length)]? with
      | none => rw [hj] at ho; cases ho
      | some o' =>
        rw [hj] at ho; cases ho
        have hjl : is.length + (i - H.length) < ρ'.length := by rw [hlen]; exact (List.getElem?_eq_some_iff.1 hj).1
        cases hp
        refine .inr (.inr ⟨_, o', ?_, hj, rfl, .inr ⟨by omega, rfl⟩⟩)
        rw [hrl]
        rw [List.getElem?_eq_getElem hjl]; simp [List.getD, List.getElem?_eq_getElem hjl]
  have notOwned : ∀ (i : Nat) (p : Pl) (o : O) (b : Nat), idx is i = none → ρ[i]? = some p → H[i]? = some o → o.owns p b → ¬ Owned (subP is ρ) (gather (idx is) H is) b := by
    intro i p o b hx hp ho hh hO
    obtain ⟨i', hi', p', o', h1, h2, h3⟩ := hown _ hO
    have := hst.inj i' i p' p o' o b h1 h2 h3 hp ho hh
    subst this
    exact idx_none hx hi'
  have notOwned' : ∀ (i : Nat) (p : Pl) (o : O) (b : Nat), idx is i = none → ρ[i]? = some p → H[i]? = some o → o.owns p b → ¬ Owned ρ' H' b := by
    intro i p o b hx hp ho hh hO
    rcases hstep.own _ hO with h | h
    · exact notOwned i p o b hx hp ho hh h
    · have := hst.lt ⟨i, p, o, hp, ho, hh⟩; omega
  have hSt : St I' (mergeP is ρ ρ') (mergeO is H.length (fogOf is k') H' 0 H) w' := by
    refine ⟨by rw [mergeO_length]; simp [mergeP, hrl, hlen], fun i p o hp ho => ?_, fun i j p q o r b0 hp ho hh hq hr hh' => ?_, hst'.imm, fun b ⟨i, p, o, hp, ho, hh⟩ x => ?_⟩
    · rcases cls i p o hp ho with rfl | ⟨hi, hx, hp', o', ho', rfl⟩ | ⟨j, o', hp', ho', rfl, _⟩
      · trivial
      · refine ((hst.obj i p o' hp' ho').keep (fun b hh => ?_) hstep.ile (PLe.refl _)).ren hfog
        exact hstep.frame _ (hst.lt ⟨i, p, o', hp', ho', hh⟩) (notOwned i p o' b hx hp' ho' hh)
      · exact (hst'.obj j p o' hp' ho').ren hback
    · rcases cls i p o hp ho with rfl | ⟨hi, hx, hp', o', ho', rfl⟩ | ⟨a, o', hp', ho', rfl, ha⟩
      · exact hh.1.elim
      · rcases cls j q r hq hr with rfl | ⟨hj, hy, hq', r', hr', rfl⟩ | ⟨c, r', hq', hr', rfl, hc'⟩
        · exact hh'.1.elim
        · exact hst.inj i j p q o' r' b0 hp' ho' ((renO_has _ _ _ _).1 hh) hq' hr' ((renO_has _ _ _ _).1 hh')
        · exact absurd ⟨c, q, r', hq', hr', (renO_has _ _ _ _).1 hh'⟩ (notOwned' i p o' b0 hx hp' ho' ((renO_has _ _ _ _).1 hh))
      · rcases cls j q r hq hr with rfl | ⟨hj, hy, hq', r', hr', rfl⟩ | ⟨c, r', hq', hr', rfl, hc'⟩
        · exact hh'.1.elim
        · exact absurd ⟨a, p, o', hp', ho', (renO_has _ _ _ _).1 hh⟩ (notOwned' j q r' b0 hy hq' hr' ((renO_has _ _ _ _).1 hh'))
        · have := hst'.inj a c p q o' r' b0 hp' ho' ((renO_has _ _ _ _).1 hh) hq' hr' ((renO_has _ _ _ _).1 hh')
          subst this
          rcases ha with ⟨h1, h1'⟩ | ⟨h1, h1'⟩ <;> rcases hc' with ⟨h2, h2'⟩ | ⟨h2, h2'⟩
          · have e1 := idx_some h1
            have e2 := idx_some h2
            rw [e1] at e2; exact Option.some.inj e2
          · have e1 := (List.getElem?_eq_some_iff.1 (idx_some h1)).1
            omega
          · have e1 := (List.getElem?_eq_some_iff.1 (idx_some h2)).1
            omega
          · omega
    · rcases cls i p o hp ho with rfl | ⟨hi, hx, hp', o', ho', rfl⟩ | ⟨j, o', hp', ho', rfl, _⟩
      · exact hh.1.elim
      · have hh0 := (renO_has _ _ _ _).1 hh
        cases hv : I' b x with
        | none => rfl
        | some v =>
          rcases hstep.imm _ _ _ hv with h | h | h
          · rw [hst.sep _ ⟨i, p, o', hp', ho', hh0⟩] at h; cases h
          · exact absurd h (notOwned i p o' b hx hp' ho' hh0)
          · have := hst.lt ⟨i, p, o', hp', ho', hh0⟩; omega
      · exact hst'.sep b ⟨j, p, o', hp', ho', (renO_has _ _ _ _).1 hh⟩ x
  have up : ∀ b, Owned (subP is ρ) (gather (idx is) H is) b → Owned ρ H b := fun b hO => by
    obtain ⟨i', hi', p', o', h1, h2, h3⟩ := hown _ hO
    exact ⟨i', p', o', h1, h2, h3⟩
  refine ⟨hSt, hback, hfog, hple, hstep.ile, fun i hi => ?_, hstep.os, hstep.tape, hstep.output, hstep.size, fun b hb hn' => hstep.frame b hb (fun h => hn' (up b h)), fun b ⟨i, p, o, hp, ho, hh⟩ => ?_, fun b o v hv => ?_⟩
  · have hi' : i < ρ.length := by omega
    rw [List.getElem?_eq_getElem hi']
    refine hfog i i _ ?_ (List.getElem?_eq_getElem hi')
    unfold fogOf
    cases hd : is.drop k' with
    | nil => rfl
    | cons a l =>
      simp only [forget]
      cases hx : idx (a :: l) i with
      | none => rfl
      | some j =>
        rw [hd] at hge
        have := allGe_ge hge i (List.mem_of_getElem? (idx_some hx))
        omega
  · rcases cls i p o hp ho with rfl | ⟨hi, hx, hp', o', ho', rfl⟩ | ⟨j, o', hp', ho', rfl, _⟩
    · exact hh.1.elim
    · exact .inl ⟨i, p, o', hp', ho', (renO_has _ _ _ _).1 hh⟩
    · rcases hstep.own b ⟨j, p, o', hp', ho', (renO_has _ _ _ _).1 hh⟩ with h | h
      · exact .inl (up b h)
      · exact .inr h
  · rcases hstep.imm b o v hv with h | h | h
    · exact .inl h
    · exact .inr (.inl (up b h))
    · exact .inr (.inr h)

end Go.Proofs.YtcgpgpbnpjbhhaaPg
