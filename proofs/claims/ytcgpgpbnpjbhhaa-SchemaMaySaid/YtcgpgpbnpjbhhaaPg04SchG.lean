/- Schemas: the one that is made may be. -/
import Derived.Test.YtcgpgpbnpjbhhaaPg04SchF
namespace Go.Proofs.YtcgpgpbnpjbhhaaPg
open Go Go.RowKit
set_option linter.unusedVariables false

variable {Q : V → List O → Prop}

theorem fnd_neg {name : List UInt8} : ∀ {l : List Col} {i : Nat}, fnd name l i < 0 → ∀ c ∈ l, c.n ≠ name
  | [], _, _, c, hc => by simp at hc
  | d :: l, i, h, c, hc => by
    unfold fnd at h
    split at h
    · omega
    · rename_i hn
      rcases List.mem_cons.1 hc with rfl | hc
      · exact hn
      · exact fnd_neg h c hc

def NamesOk (l : List Col) : Prop := (l.map Col.n).Pairwise (· ≠ ·)
def ColOk (c : Col) : Prop := nameOk c.n = true ∧ kindOk c.k = true

theorem fnd_at {l : List Col} (h : NamesOk l) {i : Nat} {c : Col} (hc : l[i]? = some c) : fnd c.n l 0 = i := by
  refine fnd_here (fun d hd => ?_) hc rfl
  obtain ⟨j, hj, rfl⟩ := List.mem_iff_getElem.1 hd
  rw [List.length_take] at hj
  have hlt := (List.getElem?_eq_some_iff.1 hc).1
  have he := (List.getElem?_eq_some_iff.1 hc).2
  have := List.pairwise_iff_getElem.1 h j i (by simp; omega) (by simpa using hlt) (by omega)
  simp only [List.getElem_map] at this
  rw [List.getElem_take, ← he]
  exact this

theorem pool_ok : ∀ i < 6, nameOk (poolS.getD i []) = true := by decide

theorem kindOk_g {k : Int} (h : -9223372036854775808 ≤ k ∧ k ≤ 9223372036854775807) : kindOk (gKind k) = true := by
  have := gKind_ok h
  unfold kindOk
  simp; omega

def I64 (k : Int) : Prop := -9223372036854775808 ≤ k ∧ k ≤ 9223372036854775807

theorem step_ok {g : List Col} {i : Nat} {c : Col} (hi : i < 6) (h1 : NamesOk g) (h2 : ∀ d ∈ g, ColOk d) (hc : I64 c.k) : NamesOk (stepG nameOk g i c) ∧ ∀ d ∈ stepG nameOk g i c, ColOk d := by
  unfold stepG
  split
  · rename_i hf
    have hne := fnd_neg hf
    have hok : nameOk (gName nameOk g i c) = true := by
      unfold gName
      split
      · exact pool_ok i hi
      · rename_i hx
        cases h : nameOk c.n with
        | true => rfl
        | false => exact absurd (.inl h) hx
    refine ⟨?_, fun d hd => ?_⟩
    · unfold NamesOk
      rw [List.map_append, List.pairwise_append]
      refine ⟨h1, by simp, fun a ha b hb => ?_⟩
      obtain ⟨d, hd, rfl⟩ := List.mem_map.1 ha
      simp at hb
      subst hb
      exact hne d hd
    · rcases List.mem_append.1 hd with hd | hd
      · exact h2 d hd
      · simp at hd
        subst hd
        exact ⟨hok, kindOk_g hc⟩
  · exact ⟨h1, h2⟩

theorem gN_ok {l : List Col} (hl : ∀ c ∈ l, I64 c.k) : ∀ i ≤ 6, NamesOk (gN nameOk l i) ∧ ∀ d ∈ gN nameOk l i, ColOk d
  | 0, _ => by simp [gN, NamesOk]
  | i + 1, hi => by
    have ih := gN_ok hl i (by omega)
    unfold gN
    split
    · rename_i c hc
      exact step_ok (by omega) ih.1 ih.2 (hl c (List.mem_of_getElem? hc))
    · exact ih

theorem gCols_ok {l : List Col} (hl : ∀ c ∈ l, I64 c.k) : NamesOk (gCols nameOk l) ∧ ∀ d ∈ gCols nameOk l, ColOk d := by
  have := gN_ok hl (min l.length 6) (by omega)
  unfold gCols
  split
  · refine ⟨by simp [NamesOk], fun d hd => ?_⟩
    simp at hd
    subst hd
    exact ⟨by decide, by decide⟩
  · exact this

theorem clearK_names (k : Nat) (l : List Col) : (clearK k l).map Col.n = l.map Col.n := by
  refine List.ext_getElem? fun i => ?_
  rw [List.getElem?_map, List.getElem?_map, clearK_get]
  cases l[i]? with
  | none => rfl
  | some c => by_cases h : i < k <;> simp [h]

theorem good_names {l : List Col} (hl : ∀ c ∈ l, I64 c.k) (keys : Int) : NamesOk (goodL nameOk l keys) ∧ ∀ d ∈ goodL nameOk l keys, ColOk d := by
  obtain ⟨h1, h2⟩ := gCols_ok hl
  unfold goodL
  refine ⟨by unfold NamesOk; rw [clearK_names]; exact h1, fun d hd => ?_⟩
  obtain ⟨i, hi⟩ := List.mem_iff_getElem?.1 hd
  rw [clearK_get] at hi
  cases hc : (gCols nameOk l)[i]? with
  | none => rw [hc] at hi; cases hi
  | some c =>
    rw [hc] at hi
    have := h2 c (List.mem_of_getElem? hc)
    simp only [Option.map_some, Option.some.injEq] at hi
    subst hi
    split
    · exact this
    · exact this

theorem good_len (l : List Col) (keys : Int) : 1 ≤ (goodL nameOk l keys).length ∧ (goodL nameOk l keys).length ≤ 6 := by
  unfold goodL
  rw [clearK_len]; exact gCols_len _ _

theorem good_keys {l : List Col} {keys : Int} (hk : I64 keys) : 1 ≤ goodK nameOk l keys ∧ goodK nameOk l keys ≤ 3 ∧ goodK nameOk l keys ≤ (goodL nameOk l keys).length := by
  unfold goodK goodL
  rw [clearK_len]
  exact gKeys_ok (gCols_len _ _).1 hk

theorem good_may {l : List Col} {keys : Int} (hl : ∀ c ∈ l, I64 c.k) (hk : I64 keys) : mayS (goodL nameOk l keys) (goodK nameOk l keys) = true := by
  obtain ⟨h1, h2⟩ := good_names hl keys
  obtain ⟨k1, k2, k3⟩ := good_keys (l := l) hk
  have hlen := good_len l keys
  refine mayS_yes (by unfold mayH; simp; omega) fun i c hc => ?_
  obtain ⟨g1, g2⟩ := h2 c (List.mem_of_getElem? hc)
  unfold mayC
  rw [g1, g2, fnd_at h1 hc]
  simp
  rcases Int.lt_or_le (i : Int) (goodK nameOk l keys) with hi | hi
  rotate_left
  · exact .inl hi
  refine .inr ?_
  unfold goodL at hc
  rw [clearK_get] at hc
  cases hd : (gCols nameOk l)[i]? with
  | none => rw [hd] at hc; cases hc
  | some d =>
    rw [hd] at hc
    simp only [Option.map_some, Option.some.injEq] at hc
    have : i < (gKeys (gCols nameOk l).length keys).toNat := by
      unfold goodK at hi
      omega
    rw [if_pos this] at hc
    rw [← hc]

end Go.Proofs.YtcgpgpbnpjbhhaaPg
