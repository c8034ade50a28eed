/- Objects packed, and unpacked. -/
import Derived.Test.YtokifgdmddnpoaaDoorPgM7
namespace Go.Proofs.YtokifgdmddnpoaaDoorPg
open Go Go.RowKit
set_option linter.unusedSectionVars false
variable [Globs]
set_option linter.unusedVariables false
set_option linter.unusedSimpArgs false

variable {P : Program} {T : Nat → TI} {I : Imm} {ρ : List Pl} {H : List O} {w : World} {e : Env}

theorem St.o (h : St I ρ H w) : StO I ρ H w := ⟨h.len, h.obj, h.inj⟩

theorem StO.keep {I' : Imm} {w' : World} (h : StO I ρ H w) (hI : ILe I I') (hb : ∀ b, Owned ρ H b → w'.heap[b]? = w.heap[b]?) : StO I' ρ H w' :=
  ⟨h.len, fun i p o hp ho => (h.obj i p o hp ho).keep (fun b hw => hb b ⟨i, p, o, hp, ho, hw⟩) hI (PLe.refl _), h.inj⟩

theorem blocks_of {n : Nat} (hlt : ∀ b, Owned ρ H b → b < n) : ∃ B : List Nat, ∀ b, Owned ρ H b ↔ b ∈ B := by
  classical
  exact ⟨(List.range n).filter fun b => decide (Owned ρ H b), fun b => ⟨fun h => by simp [h, hlt b h], fun h => by simp at h; exact h.2⟩⟩

theorem own_in {f : Nat → Option Nat} {is : List Nat} (hl : ∀ i ∈ is, i < ρ.length) {i : Nat} (hi : i ∈ is) {p : Pl} {o : O} {b : Nat} (hp : ρ[i]? = some p) (ho : H[i]? = some o) (hw : o.owns p b) : Owned (subP is ρ) (gather f H is) b := by
  obtain ⟨j, hj⟩ := List.getElem?_of_mem hi
  refine ⟨j, p, renO f (getO H i), (subP_get hl).2 ⟨i, hj, hp⟩, gather_get.2 ⟨i, hj, rfl⟩, ?_⟩
  rw [renO_has]
  have : getO H i = o := by simp [getO, List.getD, ho]
  rw [this]; exact hw

/-- A pack in place of objects: its relation. -/
theorem pack_rel (hst : St I ρ H w) {J : List O → Prop} (hJ : J H) {ks : List Pl} (hks : PLe ks ρ) {p : Pl} (hp : (ks[0]?).map Pl.b = some p.b) {B : List Nat} (hB : ∀ b, Owned ρ H b ↔ b ∈ B) {ρ0 : List Pl} : ORel I ρ0 w p (.res (packR J ks B) B) := by
  refine ⟨⟨ρ, H, hJ, hst.o, hks, hp, hB⟩, fun I' w' hI hw => ⟨ρ, H, hJ, hst.o.keep hI fun b hb => hw b ((hB b).1 hb), hks, hp, hB⟩, fun b hb => hst.lt ((hB b).2 hb)⟩

theorem mapO_get (f : Nat → Option Nat) (l : List O) (i : Nat) : (mapO f l)[i]? = (l[i]?).map (renO f) := by rw [mapO_map, List.getElem?_map]
theorem mapO_len (f : Nat → Option Nat) (l : List O) : (mapO f l).length = l.length := by rw [mapO_map]; simp

theorem subP_append (a b : List Nat) (ρ : List Pl) : subP (a ++ b) ρ = subP a ρ ++ subP b ρ := by simp [subP]

/-- Where a thing of a woven row comes from. -/
theorem weave_get {k : Nat} {Hs rest : List O} {ρs ρr : List Pl} (hs : ρs.length = Hs.length) (hr : ρr.length = rest.length) (hk : k ≤ Hs.length) {i : Nat} {q : Pl} {o : O}
    (hq : (ρs.take k ++ (ρr ++ ρs.drop k))[i]? = some q) (ho : (weave k Hs rest)[i]? = some o) :
    (∃ j o0, Hs[j]? = some o0 ∧ ρs[j]? = some q ∧ o = renO (outH k rest.length) o0 ∧ outH k rest.length j = some i) ∨ (∃ j o0, rest[j]? = some o0 ∧ ρr[j]? = some q ∧ o = renO (outR k) o0 ∧ i = k + j) := by
  unfold weave at ho
  by_cases h1 : i < k
  · rw [List.getElem?_append_left (by simp; omega)] at hq
    rw [List.getElem?_append_left (by rw [mapO_len]; simp; omega), mapO_get] at ho
    rw [List.getElem?_take_of_lt h1] at hq ho
    cases hx : Hs[i]? with
    | none => rw [hx] at ho; cases ho
    | some x =>
      rw [hx] at ho; cases ho
      refine .inl ⟨i, x, hx, hq, rfl, ?_⟩
      unfold outH
      rw [show Nat.blt i k = true from Nat.ble_eq_true_of_le h1]
  · rw [List.getElem?_append_right (by simp; omega)] at hq
    rw [List.getElem?_append_right (by rw [mapO_len]; simp; omega), mapO_len] at ho
    simp only [List.length_take] at hq ho
    rw [show min k ρs.length = k by omega] at hq
    rw [show min k Hs.length = k by omega] at ho
    by_cases h2 : i - k < rest.length
    · rw [List.getElem?_append_left (by omega)] at hq
      rw [List.getElem?_append_left (by rw [mapO_len]; omega), mapO_get] at ho
      cases hx : rest[i - k]? with
      | none => rw [hx] at ho; cases ho
      | some x =>
        rw [hx] at ho; cases ho
        exact .inr ⟨i - k, x, hx, hq, rfl, by omega⟩
    · rw [List.getElem?_append_right (by omega), List.getElem?_drop] at hq
      rw [List.getElem?_append_right (by rw [mapO_len]; omega), mapO_get, mapO_len, List.getElem?_drop] at ho
      rw [hr] at hq
      cases hx : Hs[k + (i - k - rest.length)]? with
      | none => rw [hx] at ho; cases ho
      | some x =>
        rw [hx] at ho; cases ho
        refine .inl ⟨_, x, hx, hq, rfl, ?_⟩
        unfold outH
        have : Nat.blt (k + (i - k - rest.length)) k = false := by
          cases hb : Nat.blt (k + (i - k - rest.length)) k with
          | false => rfl
          | true => have := Nat.le_of_ble_eq_true hb; omega
        rw [this]
        simp only
        congr 1
        omega

theorem outH_inj {k m i j a : Nat} (h : outH k m i = some a) (g : outH k m j = some a) : i = j := by
  unfold outH at h g
  cases hb : Nat.blt i k <;> cases hc : Nat.blt j k <;> simp only [hb, hc, Option.some.injEq] at h g
  · omega
  · have := Nat.le_of_ble_eq_true hc
    have : ¬ i < k := fun hlt => by rw [show Nat.blt i k = true from Nat.ble_eq_true_of_le hlt] at hb; cases hb
    omega
  · have := Nat.le_of_ble_eq_true hb
    have : ¬ j < k := fun hlt => by rw [show Nat.blt j k = true from Nat.ble_eq_true_of_le hlt] at hc; cases hc
    omega
  · omega

theorem fits_outH {k : Nat} {ρs ρr : List Pl} (hk : k ≤ ρs.length) : Fits (outH k ρr.length) ρs (ρs.take k ++ (ρr ++ ρs.drop k)) := by
  intro i j p hij hp
  have hil := (List.getElem?_eq_some_iff.1 hp).1
  unfold outH at hij
  cases hb : Nat.blt i k with
  | true =>
    have hlt : i < k := Nat.le_of_ble_eq_true hb
    simp only [hb, Option.some.injEq] at hij
    subst hij
    rw [List.getElem?_append_left (by simp; omega), List.getElem?_take_of_lt hlt]
    exact hp
  | false =>
    have hge : ¬ i < k := fun hlt => by rw [show Nat.blt i k = true from Nat.ble_eq_true_of_le hlt] at hb; cases hb
    simp only [hb, Option.some.injEq] at hij
    subst hij
    rw [List.getElem?_append_right (by simp; omega), List.getElem?_append_right (by simp; omega), List.getElem?_drop]
    simp only [List.length_take]
    rw [show k + (i + ρr.length - min k ρs.length - ρr.length) = i by omega]
    exact hp

theorem fits_outR {k : Nat} {ρs ρr : List Pl} {p0 : Pl} (hk : k ≤ ρs.length) : Fits (outR k) (p0 :: ρr) (ρs.take k ++ (ρr ++ ρs.drop k)) := by
  intro i j p hij hp
  cases i with
  | zero => cases hij
  | succ i =>
    simp only [outR, Option.some.injEq] at hij
    subst hij
    simp only [List.getElem?_cons_succ] at hp
    have hil := (List.getElem?_eq_some_iff.1 hp).1
    rw [List.getElem?_append_right (by simp; omega), List.getElem?_append_left (by simp; omega)]
    simp only [List.length_take]
    rw [show k + i - min k ρs.length = i by omega]
    exact hp

/-- The state, unpacked. -/
theorem unpack_st {p0 : Pl} {ρr : List Pl} {rest : List O} {J : List O → Prop} {ks : List Pl} {B : List Nat} (hst : St I (p0 :: ρr) (.res (packR J ks B) B :: rest) w) :
    ∃ ρs Hs, J Hs ∧ PLe ks ρs ∧ ρs.length = Hs.length ∧ (ks.length ≤ Hs.length) ∧ St I (ρs.take ks.length ++ (ρr ++ ρs.drop ks.length)) (weave ks.length Hs rest) w ∧ (∀ b, Owned (ρs.take ks.length ++ (ρr ++ ρs.drop ks.length)) (weave ks.length Hs rest) b → Owned (p0 :: ρr) (.res (packR J ks B) B :: rest) b) := by
  obtain ⟨⟨ρs, Hs, hJ, hso, hks, _, hB⟩, _, _⟩ := hst.obj 0 p0 _ rfl rfl
  have hr : ρr.length = rest.length := by have := hst.len; simpa using this
  have hk : ks.length ≤ ρs.length := by
    rcases Nat.eq_zero_or_pos ks.length with h0 | h0
    · omega
    · have := hks (ks.length - 1) _ (List.getElem?_eq_getElem (by omega))
      have := (List.getElem?_eq_some_iff.1 this).1
      omega
  have hkH : ks.length ≤ Hs.length := by rw [← hso.len]; exact hk
  have f1 := fits_outH (ρr := ρr) hk
  have f2 := fits_outR (ρr := ρr) (p0 := p0) hk
  rw [hr] at f1
  have hown : ∀ b, Owned (ρs.take ks.length ++ (ρr ++ ρs.drop ks.length)) (weave ks.length Hs rest) b → Owned (p0 :: ρr) (.res (packR J ks B) B :: rest) b := by
    rintro b ⟨i, q, o, hq, ho, hw⟩
    rcases weave_get hso.len hr hkH hq ho with ⟨j, o0, h1, h2, rfl, h3⟩ | ⟨j, o0, h1, h2, rfl, h3⟩
    · rw [renO_has] at hw
      exact ⟨0, p0, _, rfl, rfl, (hB b).1 ⟨j, q, o0, h2, h1, hw⟩⟩
    · rw [renO_has] at hw
      exact ⟨j + 1, q, o0, by simpa using h2, by simpa using h1, hw⟩
  refine ⟨ρs, Hs, hJ, hks, hso.len, hkH, ⟨?_, fun i q o hq ho => ?_, fun i j q r o x b hq ho hw hr' hx hw' => ?_, hst.imm, fun b hb => hst.sep b (hown b hb)⟩, hown⟩
  · have := hso.len
    simp [weave, mapO_len]
    omega
  · rcases weave_get hso.len hr hkH hq ho with ⟨j, o0, h1, h2, rfl, h3⟩ | ⟨j, o0, h1, h2, rfl, h3⟩
    · exact (hso.obj j q o0 h2 h1).ren f1
    · exact (hst.obj (j + 1) q o0 (by simpa using h2) (by simpa using h1)).ren f2
  · rcases weave_get hso.len hr hkH hq ho with ⟨a, o0, h1, h2, rfl, h3⟩ | ⟨a, o0, h1, h2, rfl, h3⟩ <;> rcases weave_get hso.len hr hkH hr' hx with ⟨c, x0, g1, g2, rfl, g3⟩ | ⟨c, x0, g1, g2, rfl, g3⟩ <;> rw [renO_has] at hw hw'
    · have := hso.inj a c q r o0 x0 b h2 h1 hw g2 g1 hw'
      subst this
      rw [h3] at g3; exact Option.some.inj g3
    · have := hst.inj 0 (c + 1) p0 r _ x0 b rfl rfl ((hB b).1 ⟨a, q, o0, h2, h1, hw⟩) (by simpa using g2) (by simpa using g1) hw'
      cases this
    · have := hst.inj (a + 1) 0 q p0 o0 _ b (by simpa using h2) (by simpa using h1) hw rfl rfl ((hB b).1 ⟨c, r, x0, g2, g1, hw'⟩)
      cases this
    · have := hst.inj (a + 1) (c + 1) q r o0 x0 b (by simpa using h2) (by simpa using h1) hw (by simpa using g2) (by simpa using g1) hw'
      omega

/-- Objects 'is' packed, 'js' beside them. -/
theorem pack_st (hst : St I ρ H w) {is js : List Nat} {n : Nat} {k : Nat} (hl : allLt is H.length = true) (hn : nodupB is = true) (hl2 : allLt (n :: js) H.length = true) (hn2 : nodupB (n :: js) = true) (hdis : ∀ i ∈ is, i ∉ js) (hhead : is[0]? = some n) (hk0 : 0 < k)
    {J : List O → Prop} (hJ : J (gather (idx is) H is)) : ∃ B, (∀ b, Owned (subP is ρ) (gather (idx is) H is) b ↔ b ∈ B) ∧
      St I (subP (n :: js) ρ) (.res (packR J ((subP is ρ).take k) B) B :: gather (idx (n :: js)) H js) w := by
  obtain ⟨a1, a2, a3⟩ := handover hst hl hn
  obtain ⟨b1, b2, b3⟩ := handover hst hl2 hn2
  obtain ⟨B, hB⟩ := blocks_of (fun b hb => a1.lt hb)
  have hlt : ∀ i ∈ is, i < ρ.length := fun i hi => by rw [hst.len]; exact allLt_lt hl i hi
  have hlt2 : ∀ i ∈ n :: js, i < ρ.length := fun i hi => by rw [hst.len]; exact allLt_lt hl2 i hi
  have hgc : gather (idx (n :: js)) H (n :: js) = renO (idx (n :: js)) (getO H n) :: gather (idx (n :: js)) H js := rfl
  rw [hgc] at b1
  have hsc : subP (n :: js) ρ = ρ.getD n ⟨0, 0, 0, 0⟩ :: subP js ρ := rfl
  have hks : PLe ((subP is ρ).take k) (subP is ρ) := fun i p hp => by
    have hi : i < k := by have := (List.getElem?_eq_some_iff.1 hp).1; simp at this; omega
    rwa [List.getElem?_take_of_lt hi] at hp
  have hnl : n < ρ.length := hlt2 n (by simp)
  have hk : (((subP is ρ).take k)[0]?).map Pl.b = some (ρ.getD n ⟨0, 0, 0, 0⟩).b := by
    rw [List.getElem?_take_of_lt hk0]
    simp [subP, hhead]
  have cross : ∀ (j : Nat) (q : Pl) (x : O) (b : Nat), (subP js ρ)[j]? = some q → (gather (idx (n :: js)) H js)[j]? = some x → x.owns q b → b ∉ B := by
    intro j q x b hq hx hw hb
    obtain ⟨i, hi, p, o, h1, h2, h3⟩ := a3 b ((hB b).2 hb)
    obtain ⟨i2, h4, h5⟩ := (subP_get (fun i hi => hlt2 i (by simp [hi]))).1 hq
    obtain ⟨i3, h6, h7⟩ := gather_get.1 hx
    rw [h4] at h6; cases h6
    have hmem := List.mem_of_getElem? h4
    have hi2 : i2 < H.length := by rw [← hst.len]; exact hlt2 i2 (by simp [hmem])
    subst h7
    rw [renO_has] at hw
    have := hst.inj i i2 p q o (getO H i2) b h1 h2 h3 h5 (by simp [getO, List.getD, List.getElem?_eq_getElem hi2]) hw
    subst this
    exact hdis i hi hmem
  refine ⟨B, hB, ⟨by simpa [hsc] using b1.len, fun i p o hp ho => ?_, fun i j p q o r b hp ho hw hq hr hw' => ?_, hst.imm, fun b hb => ?_⟩⟩
  · cases i with
    | zero =>
      simp only [hsc, List.getElem?_cons_zero, Option.some.injEq] at hp ho
      subst hp; subst ho
      exact pack_rel a1 hJ hks hk hB
    | succ i => exact b1.obj (i + 1) p o hp (by simpa using ho)
  · cases i with
    | zero =>
      cases j with
      | zero => rfl
      | succ j =>
        simp only [List.getElem?_cons_zero, Option.some.injEq] at ho
        subst ho
        exact absurd hw (cross j q r b (by simpa [hsc] using hq) (by simpa using hr) hw')
    | succ i =>
      cases j with
      | zero =>
        simp only [List.getElem?_cons_zero, Option.some.injEq] at hr
        subst hr
        exact absurd hw' (cross i p o b (by simpa [hsc] using hp) (by simpa using ho) hw)
      | succ j => exact b1.inj (i + 1) (j + 1) p q o r b hp (by simpa using ho) hw hq (by simpa using hr) hw'
  · obtain ⟨i, p, o, hp, ho, hw⟩ := hb
    cases i with
    | zero =>
      simp only [List.getElem?_cons_zero, Option.some.injEq] at ho
      subst ho
      exact a1.sep b ((hB b).2 hw)
    | succ i => exact b1.sep b ⟨i + 1, p, o, hp, by simpa using ho, hw⟩

end Go.Proofs.YtokifgdmddnpoaaDoorPg
