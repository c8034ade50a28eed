/- Objects handed over to a call, and back. -/
import Derived.Test.YtcgpgpbnpjbhhaaPgB41
import Derived.RangeFuncCalls
namespace Go.Proofs.YtcgpgpbnpjbhhaaPg
open Go Go.RowKit
variable [Globs]
set_option linter.unusedVariables false
set_option linter.unusedSimpArgs false

variable {P : Program} {T : Nat → TI} {I : Imm} {ρ : List Pl} {H : List O} {w : World} {e : Env}

theorem renL_map (f : Nat → Option Nat) : ∀ l, renL f l = l.map (renV f)
  | [] => by rw [renL]; rfl
  | v :: l => by rw [renL, renL_map f l]; rfl

theorem renKV_map (f : Nat → Option Nat) : ∀ l, renKV f l = l.map fun p => (renV f p.1, renV f p.2)
  | [] => rfl
  | (a, b) :: l => by rw [renKV, renKV_map f l]; rfl

theorem mapO_map (f : Nat → Option Nat) : ∀ l, mapO f l = l.map (renO f)
  | [] => rfl
  | v :: l => by rw [mapO, mapO_map f l]; rfl

theorem gather_map (f : Nat → Option Nat) (H : List O) : ∀ is, gather f H is = is.map fun i => renO f (getO H i)
  | [] => rfl
  | i :: is => by rw [gather, gather_map f H is]; rfl

theorem renE_get (f : Nat → Option Nat) : ∀ (e : Env) (t : Nat), Env.get (renE f e) t = renV f (Env.get e t)
  | [], t => by simp [renE, Env.get, renV]
  | (i, v) :: e, t => by
    simp only [renE, Env.get]
    cases Nat.beq i t
    · exact renE_get f e t
    · rfl

/-- f takes places of ρ to the same places of ρ'. -/
def Fits (f : Nat → Option Nat) (ρ ρ' : List Pl) : Prop := ∀ i j p, f i = some j → ρ[i]? = some p → ρ'[j]? = some p

theorem VRel.ren {f : Nat → Option Nat} {v : V} {u : Value} (h : VRel I ρ v u) : ∀ {ρ' : List Pl}, Fits f ρ ρ' → VRel I ρ' (renV f v) u := by
  induction h with
  | any => intros; simp only [renV]; exact .any _ _
  | bool => intros; simp only [renV]; exact .bool _ _
  | int => intros; simp only [renV]; exact .int _ _ _
  | str => intros; simp only [renV]; exact .str _ _
  | ptr ρ id off p h =>
    intro ρ' hf
    simp only [renV]
    cases hi : f id with
    | none => exact .any _ _
    | some j => exact .ptr _ _ _ _ (hf _ _ _ hi h)
  | ep ρ id i j p h =>
    intro ρ' hf
    simp only [renV]
    cases hi : f id with
    | none => exact .any _ _
    | some j => exact .ep _ _ _ _ _ (hf _ _ _ hi h)
  | ip ρ cs off b base g h1 h2 h3 ih => intro ρ' hf; simp only [renV]; exact .ip _ _ _ _ _ g h1 h2 h3
  | nilp => intros; simp only [renV]; exact .nilp _
  | sl ρ sz es full b base cap g h1 h2 h3 h4 h5 h6 ih => intro ρ' hf; simp only [renV]; exact .sl _ _ _ _ _ _ _ g h1 h2 h3 h4 h5 h6
  | slnil => intros; simp only [renV]; exact .slnil _ _ _ _
  | ms ρ id off len cap full p h1 h2 h3 h4 h5 =>
    intro ρ' hf
    simp only [renV]
    cases hi : f id with
    | none => exact .any _ _
    | some j => exact .ms _ _ _ _ _ _ _ (hf _ _ _ hi h1) h2 h3 h4 h5
  | ms0 ρ sz id off full a =>
    intro ρ' hf
    simp only [renV]
    cases hi : f id with
    | none => exact .any _ _
    | some j => exact .ms0 _ _ _ _ _ _
  | nils => intros; simp only [renV]; exact .nils _
  | fn ρ g as bs us ws h1 h2 h3 h4 ih1 ih2 =>
    intro ρ' hf
    simp only [renV, renL_map]
    refine .fn _ _ _ _ _ _ (by simpa using h1) (by simpa using h2) (fun i a u ha hu => ?_) (fun i a u ha hu => ?_)
    · rw [List.getElem?_map] at ha
      cases hx : as[i]? <;> rw [hx] at ha <;> simp at ha
      subst ha
      exact ih1 i _ u hx hu hf
    · rw [List.getElem?_map] at ha
      cases hx : bs[i]? <;> rw [hx] at ha <;> simp at ha
      subst ha
      exact ih2 i _ u hx hu hf
  | nilf => intros; simp only [renV]; exact .nilf _
  | map ρ id p h =>
    intro ρ' hf
    simp only [renV]
    cases hi : f id with
    | none => exact .any _ _
    | some j => exact .map _ _ _ (hf _ _ _ hi h)
  | nilm => intros; simp only [renV]; exact .nilm _
  | agg ρ cs us h1 h2 h3 ih =>
    intro ρ' hf
    simp only [renV, renL_map]
    refine .agg _ _ _ (by simpa using h1) h2 (fun i a u ha hu => ?_)
    rw [List.getElem?_map] at ha
    cases hx : cs[i]? <;> rw [hx] at ha <;> simp at ha
    subst ha
    exact ih i _ u hx hu hf
  | tup ρ cs us h1 h2 ih =>
    intro ρ' hf
    simp only [renV, renL_map]
    refine .tup _ _ _ (by simpa using h1) (fun i a u ha hu => ?_)
    rw [List.getElem?_map] at ha
    cases hx : cs[i]? <;> rw [hx] at ha <;> simp at ha
    subst ha
    exact ih i _ u hx hu hf
  | iface ρ t v u h ih => intro ρ' hf; simp only [renV]; exact .iface _ _ _ _ (ih hf)
  | nili => intros; simp only [renV]; exact .nili _
  | glob => intros; simp only [renV]; exact .glob _ _
  | im ρ v u h1 h2 ih => intro ρ' hf; simp only [renV]; exact .im _ _ _ h1 h2
  | yld ρ id p h =>
    intro ρ' hf
    simp only [renV]
    cases hi : f id with
    | none => exact .any _ _
    | some j => exact .yld _ _ _ (hf _ _ _ hi h)

theorem VRels.ren {f : Nat → Option Nat} {ρ' : List Pl} (hf : Fits f ρ ρ') {as : List V} {us : List Value} (h : VRels I ρ as us) : VRels I ρ' (renL f as) us := by
  rw [renL_map]
  refine ⟨by simpa using h.1, fun i a u ha hu => ?_⟩
  rw [List.getElem?_map] at ha
  cases hx : as[i]? <;> rw [hx] at ha <;> simp at ha
  subst ha
  exact (h.2 i _ u hx hu).ren hf

theorem ORel.ren {f : Nat → Option Nat} {ρ' : List Pl} (hf : Fits f ρ ρ') {p : Pl} {o : O} (h : ORel I ρ w p o) : ORel I ρ' w p (renO f o) := by
  cases o with
  | cells cs =>
    obtain ⟨h1, h2, h3, h4⟩ := h
    have hl : (renL f cs).length = cs.length := by rw [renL_map]; simp
    refine ⟨h1, by rw [hl]; exact h2, by rw [hl]; exact h3, fun i v hv => ?_⟩
    rw [renL_map, List.getElem?_map] at hv
    cases hx : cs[i]? <;> rw [hx] at hv <;> simp at hv
    subst hv
    obtain ⟨u, g1, g2, g3⟩ := h4 i _ hx
    exact ⟨u, g1, g2, g3.ren hf⟩
  | buf es => exact h
  | iter s pos => exact h
  | map kvs clock =>
    obtain ⟨es, h1, h2, h3⟩ := h
    refine ⟨es, h1, by rw [renKV_map]; simpa using h2, fun i kv e hkv he => ?_⟩
    rw [renKV_map, List.getElem?_map] at hkv
    cases hx : kvs[i]? <;> rw [hx] at hkv <;> simp at hkv
    subst hkv
    exact ⟨(h3 i _ e hx he).1.ren hf, (h3 i _ e hx he).2.ren hf⟩
  | loop c st e =>
    obtain ⟨r, h1, h2, h3, h4, h5, h6, h7, h8⟩ := h
    exact ⟨r, h1, h2, h3, h4, h5, h6, h7, fun t => by rw [renE_get]; exact (h8 t).ren hf⟩
  | res R B => exact h
  | dead => trivial

theorem renO_has (f : Nat → Option Nat) (p : Pl) (b : Nat) (o : O) : (renO f o).owns p b ↔ o.owns p b := by cases o <;> exact Iff.rfl

theorem idx_some : ∀ {is : List Nat} {i j : Nat}, idx is i = some j → is[j]? = some i
  | [], i, j, h => by simp [idx] at h
  | x :: is, i, j, h => by
    unfold idx at h
    cases hb : Nat.beq x i with
    | true => simp only [hb] at h; cases h; simp [Nat.eq_of_beq_eq_true hb]
    | false =>
      simp only [hb] at h
      cases hx : idx is i with
      | none => simp only [hx] at h; cases h
      | some p => simp only [hx] at h; cases h; simpa using idx_some hx
theorem idx_none : ∀ {is : List Nat} {i : Nat}, idx is i = none → i ∉ is
  | [], i, h => by simp
  | x :: is, i, h => by
    unfold idx at h
    cases hb : Nat.beq x i with
    | true => simp only [hb] at h; cases h
    | false =>
      simp only [hb] at h
      cases hx : idx is i with
      | some p => simp only [hx] at h; cases h
      | none =>
        have := idx_none hx
        have hne : x ≠ i := Nat.ne_of_beq_eq_false hb
        simp [this]; exact fun h => hne h.symm
theorem nodup_idx : ∀ {is : List Nat}, nodupB is = true → ∀ {i j : Nat}, is[j]? = some i → idx is i = some j
  | [], _, i, j, h => by simp at h
  | x :: is, hn, i, j, h => by
    simp only [nodupB, Bool.and_eq_true, Option.isNone_iff_eq_none] at hn
    unfold idx
    cases j with
    | zero => simp at h; subst h; rw [show Nat.beq x x = true from Nat.beq_refl x]
    | succ j =>
      simp at h
      have hm : i ∈ is := List.mem_of_getElem? h
      have hne : x ≠ i := fun e => by subst e; exact idx_none hn.1 hm
      have hb : Nat.beq x i = false := by
        cases hb : Nat.beq x i with
        | false => rfl
        | true => exact absurd (Nat.eq_of_beq_eq_true hb) hne
      rw [hb]
      simp only [nodup_idx hn.2 h]
theorem allLt_lt : ∀ {is : List Nat} {n : Nat}, allLt is n = true → ∀ i ∈ is, i < n
  | [], n, _, i, hi => by simp at hi
  | x :: is, n, h, i, hi => by
    simp only [allLt, Bool.and_eq_true] at h
    rcases List.mem_cons.1 hi with rfl | hi
    · exact Nat.le_of_ble_eq_true h.1
    · exact allLt_lt h.2 i hi
theorem allGe_ge : ∀ {is : List Nat} {n : Nat}, allGe is n = true → ∀ i ∈ is, n ≤ i
  | [], n, _, i, hi => by simp at hi
  | x :: is, n, h, i, hi => by
    simp only [allGe, Bool.and_eq_true] at h
    rcases List.mem_cons.1 hi with rfl | hi
    · exact Nat.le_of_ble_eq_true h.1
    · exact allGe_ge h.2 i hi
theorem memN_mem : ∀ {l : List Nat} {i : Nat}, memN i l = true → i ∈ l
  | [], i, h => by simp [memN] at h
  | j :: l, i, h => by
    unfold memN at h
    cases hb : Nat.beq i j with
    | true => simp [Nat.eq_of_beq_eq_true hb]
    | false => simp only [hb] at h; simp [memN_mem h]

theorem mergeO_get (is : List Nat) (n : Nat) (fo : Nat → Option Nat) (H' : List O) : ∀ (H : List O) (i0 i : Nat), (mergeO is n fo H' i0 H)[i]? =
    if i < H.length then (match idx is (i0 + i) with
      | some j => (match H'[j]? with | some o' => some (renO (back is n) o') | none => some .dead)
      | none => (H[i]?).map (renO fo)) else (H'[is.length + (i - H.length)]?).map (renO (back is n))
  | [], i0, i => by
    simp only [mergeO, mapO_map, List.length_nil, Nat.not_lt_zero, if_false, List.getElem?_map, List.getElem?_drop, Nat.sub_zero]
  | o :: H, i0, 0 => by
    simp only [mergeO, List.getElem?_cons_zero, List.length_cons, Nat.zero_lt_succ, if_true, Nat.add_zero]
    cases idx is i0 with
    | none => rfl
    | some j => simp only; cases H'[j]? <;> rfl
  | o :: H, i0, i + 1 => by
    simp only [mergeO, List.getElem?_cons_succ, List.length_cons]
    rw [mergeO_get is n fo H' H (i0 + 1) i]
    rw [show i0 + 1 + i = i0 + (i + 1) by omega, show i + 1 - (H.length + 1) = i - H.length by omega]
    by_cases h : i < H.length
    · rw [if_pos h, if_pos (by omega)]
    · rw [if_neg h, if_neg (by omega)]

theorem mergeO_length (is : List Nat) (n : Nat) (fo : Nat → Option Nat) (H' : List O) : ∀ (H : List O) (i0 : Nat), (mergeO is n fo H' i0 H).length = H.length + (H'.length - is.length)
  | [], i0 => by simp [mergeO, mapO_map]
  | o :: H, i0 => by simp only [mergeO, List.length_cons, mergeO_length is n fo H' H (i0 + 1)]; omega

/-- the caller's places behind the call -/
def mergeP (is : List Nat) (ρ ρ' : List Pl) : List Pl :=
  (List.range (ρ.length + (ρ'.length - is.length))).map fun i =>
    if i < ρ.length then (match idx is i with
      | some j => ρ'.getD j (ρ.getD i ⟨0, 0, 0, 0⟩)
      | none => ρ.getD i ⟨0, 0, 0, 0⟩) else ρ'.getD (is.length + (i - ρ.length)) ⟨0, 0, 0, 0⟩

theorem mergeP_get (is : List Nat) (ρ ρ' : List Pl) (i : Nat) (hi : i < ρ.length + (ρ'.length - is.length)) : (mergeP is ρ ρ')[i]? = some (if i < ρ.length then (match idx is i with
      | some j => ρ'.getD j (ρ.getD i ⟨0, 0, 0, 0⟩)
      | none => ρ.getD i ⟨0, 0, 0, 0⟩) else ρ'.getD (is.length + (i - ρ.length)) ⟨0, 0, 0, 0⟩) := by
  simp [mergeP, hi]

end Go.Proofs.YtcgpgpbnpjbhhaaPg
