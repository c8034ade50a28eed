/- Chapter 09: has a tree what it must have? -/
import Derived.Test.YtfhoblpcneachaaPg09TreeDoes
namespace Go.Proofs.YtfhoblpcneachaaPg
open Go Go.RowKit
set_option linter.unusedVariables false

variable {Q : V → List O → Prop}

theorem bal_digits {t : Tr Int} (h : Bal t) {d : Nat} (hd : ((inL t).length + 1) / 2 ^ d = 0) : t.ht ≤ 2 * d := by
  have h1 := bal_size t h
  have h2 : (inL t).length + 1 < 2 ^ d := by
    rcases Nat.div_eq_zero_iff.1 hd with h3 | h3
    · exact absurd h3 (Nat.ne_of_gt (Nat.two_pow_pos d))
    · exact h3
  have h3 : t.ht / 2 < d := by
    rcases Nat.lt_or_ge (t.ht / 2) d with h4 | h4
    · exact h4
    · have := Nat.pow_le_pow_right (n := 2) (by omega) h4
      omega
  omega

theorem ht_zero (t : Tr Int) : (t.ht = 0) ↔ ((inL t).length = 0) := by
  cases t with
  | nil => simp [Tr.ht, inL]
  | node k v a b => simp [Tr.ht, inL]

theorem like_spec {t : Tr Int} {n : Int} {m : Nat} {H : List O} (hD : DS H t n) (hT : TB t n m) (hm : m < 1000) (h : Q (.bool true) H) :
    ACall Try.prog 19 2 [.ptr 0 0, .ptr 1 0] H Q := by
  have hs := hT.ok.srt
  have hle := hT.ok.le
  have hht := hT.ok.ht
  have hn := hT.ok.len
  have hkl := keysL_len t
  have hsk : (strs (kL (inL t))).length = (inL t).length := by simp [strs]
  rcases hD with ⟨rfl, rfl⟩ | rfl
  · have hn0 : n = 0 := hn
    subst hn0
    refine by_body Try.func19 2 rfl (Nat.le_of_ble_eq_true rfl) ?_
    conv => whnf
    refine ⟨⟨[0, 1, 5, 6, 7], fun m vs H => ∃ d : Nat, H = D0 .nil 0 ∧ vs = [.ptr 0 0, .ptr 1 0, fI 0, fI d, fI m] ∧ d + m = 1, .at 1 ⟨0, rfl, rfl, rfl⟩, ?_⟩⟩
    rintro m vs H ⟨d, rfl, rfl, hdm⟩
    conv => whnf
    refine branch_i (fun c => ?_) (fun c => ?_) <;> try rw [c] <;> conv => whnf
    · have c' := of_decide_eq_true c
      have hm1 : m = 1 := by omega
      have hd0 : d = 0 := by omega
      subst hm1
      subst hd0
      refine ⟨by decide, ?_⟩
      conv => whnf
      exact .go [0, 1] rfl 0 (by omega) ⟨1, rfl, rfl, rfl⟩
    · have c' := of_decide_eq_false c
      have hm0 : m = 0 := by omega
      have hd1 : d = 1 := by omega
      subst hm0
      subst hd1
      refine .call [0] 1 ⟨rfl, rfl, rfl⟩ (Len_spec ?_)
      conv => whnf
      refine .call [0] 1 ⟨rfl, rfl, rfl⟩ (Height_spec ?_)
      conv => whnf
      refine .call [0] 1 ⟨rfl, rfl, rfl⟩ (Height_spec ?_)
      conv => whnf
      refine ⟨[0, 1, 2, 4, 5, 6, 7, 3, 8, 9], by kernel_rfl, by kernel_rfl, ?_⟩
      conv => whnf
      refine .call [0] 1 ⟨rfl, rfl, rfl⟩ (Keys_spec (by decide) ?_)
      rw [show keysT [] _ (Tr.nil : Tr Int) = [] by simp [keysT, fromL]]
      repeat (refine ⟨rfl, ?_⟩)
      conv => whnf
      refine .call [] 0 ⟨rfl, rfl, rfl⟩ (Same_spec (la := []) (lb := []) (.sl _ _) (.inl ⟨rfl, rfl⟩) (by decide) ?_)
      repeat (refine ⟨rfl, ?_⟩)
      conv => whnf
      iterate 3 (repeat (refine ⟨rfl, ?_⟩)); conv => whnf
      exact ⟨[0, 1], rfl, h⟩
  · refine by_body Try.func19 2 rfl (Nat.le_of_ble_eq_true rfl) ?_
    conv => whnf
    rw [hsk, show IntKind.i64.wrap (((inL t).length : Int) + 1) = (((inL t).length + 1 : Nat) : Int) by rw [IntKind.wrap_i64]; omega]
    refine ⟨⟨[0, 1, 5, 6, 7], fun m vs H => ∃ d : Nat, H = D1 t n (inL t) ∧ vs = [.ptr 0 0, .ptr 1 0, fI (inL t).length, fI d, fI m] ∧ d + m ≤ (inL t).length + 1 ∧ m = ((inL t).length + 1) / 2 ^ d, .at ((inL t).length + 1) ⟨0, rfl, rfl, by omega, by simp⟩, ?_⟩⟩
    rintro m vs H ⟨d, rfl, rfl, hdm, hmd⟩
    conv => whnf
    refine branch_i (fun c => ?_) (fun c => ?_) <;> try rw [c] <;> conv => whnf
    · have c' := of_decide_eq_true c
      refine ⟨by decide, ?_⟩
      conv => whnf
      have e1 : (m : Int).tdiv 2 = ((m / 2 : Nat) : Int) := by
        rw [Int.tdiv_eq_ediv_of_nonneg (by omega)]; omega
      refine .go [0, 1, 2] rfl (m / 2) (by omega) ⟨d + 1, rfl, ?_, by omega, by rw [hmd, Nat.div_div_eq_div_mul, Nat.pow_succ]⟩
      show [V.ptr 0 0, V.ptr 1 0, fI (inL t).length, V.int .i64 (IntKind.i64.wrap ((d : Int) + 1)), V.int .i64 (IntKind.i64.wrap ((m : Int).tdiv 2))] = _
      rw [e1, show IntKind.i64.wrap ((d : Int) + 1) = ((d + 1 : Nat) : Int) by rw [IntKind.wrap_i64]; omega, show IntKind.i64.wrap ((m / 2 : Nat) : Int) = ((m / 2 : Nat) : Int) by rw [IntKind.wrap_i64]; omega]
    · have c' := of_decide_eq_false c
      have hm0 : m = 0 := by omega
      subst hm0
      have hdg := bal_digits hT.bal hmd.symm
      have hz := ht_zero t
      refine .call [0] 1 ⟨rfl, rfl, rfl⟩ (Len_spec ?_)
      conv => whnf
      rw [show decide (n = ((inL t).length : Int)) = true by simp [hn]]
      conv => whnf
      refine .call [0] 1 ⟨rfl, rfl, rfl⟩ (Height_spec ?_)
      conv => whnf
      rw [show decide (IntKind.i64.wrap (2 * (d : Int)) < (t.ht : Int)) = false by
        rw [show IntKind.i64.wrap (2 * (d : Int)) = 2 * (d : Int) by rw [IntKind.wrap_i64]; omega]
        simp; omega]
      conv => whnf
      refine .call [0] 1 ⟨rfl, rfl, rfl⟩ (Height_spec ?_)
      conv => whnf
      have hb : decide ((t.ht : Int) = 0) = decide (((inL t).length : Int) = 0) := by
        by_cases hz0 : t.ht = 0
        · simp [hz0, hz.1 hz0]
        · have : (inL t).length ≠ 0 := fun e => hz0 (hz.2 e)
          simp [hz0, this]
      rw [hb]
      rw [beq_self_eq_true]
      conv => whnf
      refine ⟨[0, 1, 2, 4, 5, 6, 7, 3, 8, 9], by kernel_rfl, by kernel_rfl, ?_⟩
      conv => whnf
      have hw1 : IntKind.i64.wrap (((inL t).length : Int) + 1) = ((inL t).length : Int) + 1 := by rw [IntKind.wrap_i64]; omega
      have hkn := keysT_nil hs (most := ((inL t).length : Int) + 1) (by omega)
      rw [hw1]
      refine .call [0] 1 ⟨rfl, rfl, rfl⟩ (Keys_spec (by omega) ?_)
      rw [hkn]
      repeat (refine ⟨rfl, ?_⟩)
      conv => whnf
      refine .call [] 0 ⟨rfl, rfl, rfl⟩ (Same_spec (la := keysL t) (lb := kL (inL t)) (.sl _ _) (.sl _ _) (by omega) ?_)
      rw [show decide (keysL t = kL (inL t)) = true by simp [keysL]]
      repeat (refine ⟨rfl, ?_⟩)
      conv => whnf
      iterate 3 (repeat (refine ⟨rfl, ?_⟩)); conv => whnf
      exact ⟨[0, 1, 2], rfl, h⟩

end Go.Proofs.YtfhoblpcneachaaPg
