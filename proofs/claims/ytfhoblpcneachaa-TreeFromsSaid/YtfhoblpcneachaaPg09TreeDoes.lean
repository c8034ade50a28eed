/- Chapter 09: a deed, of both. -/
import Derived.Test.YtfhoblpcneachaaPg09TreeRef0
import Derived.Test.YtfhoblpcneachaaPg09TreeCuts
namespace Go.Proofs.YtfhoblpcneachaaPg
open Go Go.RowKit
set_option linter.unusedVariables false

variable {Q : V → List O → Prop}

def D0 (t : Tr Int) (n : Int) : List O := [treeO t n, .cells [.nils, .nils]]
def D1 (t : Tr Int) (n : Int) (l : List KV) : List O := [treeO t n, .cells [.sl 1 (strs (kL l)) false, .ms 1 2 0 (ints (vL l)).length false], .buf (ints (vL l))]
def DS (H : List O) (t : Tr Int) (n : Int) : Prop := (H = D0 t n ∧ t = .nil) ∨ H = D1 t n (inL t)

/-- A tree that was made in m steps, and is even. -/
structure TB (t : Tr Int) (n : Int) (m : Nat) : Prop where
  ok : TOk t n m
  bal : Bal t

theorem find_hasH {t : Tr Int} (hs : SortedL (inL t)) {key : List UInt8} {a b : List KV} (he : inL t = a ++ b) (ha : ∀ x ∈ a, Op.bytesLess x.1 key = true) (hb : ∀ x r, b = x :: r → Op.bytesLess x.1 key = false) : (findT key t).isNil = !hasH key b := by
  rw [find_has key t hs, he, hasL_split (he ▸ hs) ha hb]

theorem does_spec {t : Tr Int} {n : Int} {m : Nat} {H : List O} {kind num : Int} {key : List UInt8} (hD : DS H t n) (hT : TB t n m) (hm : m < 1000)
    (h : ∀ t' n' H', DS H' t' n' → (H = D1 t n (inL t) → H' = D1 t' n' (inL t')) → TB t' n' (m + 1) → Q (.bool true) H') :
    ACall Try.prog 17 2 [.ptr 0 0, .ptr 1 0, .agg [fI kind, fI num, .str key]] H Q := by
  obtain ⟨a, b, he, ha, hb⟩ := split_at (key.take 8) (inL t)
  have hs := hT.ok.srt
  have hf := find_hasH hs he ha hb
  have hle := hT.ok.le
  have hht := hT.ok.ht
  have hput : TB (putT (key.take 8) num t) (if (findT (key.take 8) t).isNil then IntKind.i64.wrap (n + 1) else n) (m + 1) := ⟨hT.ok.put (by omega) _ _, (put_bal _ _ _ hT.bal).1⟩
  have hcut : TB (if (findT (key.take 8) t).isNil then t else cutT (key.take 8) t) (if (findT (key.take 8) t).isNil then n else IntKind.i64.wrap (n - 1)) (m + 1) :=
    ⟨(hT.ok.cut (by omega) (key.take 8)).mono (by omega), by split; exact hT.bal; exact (cut_bal _ _ hT.bal).1⟩
  have hlput : inL (putT (key.take 8) num t) = a ++ (key.take 8, num) :: (if hasH (key.take 8) b then b.tail else b) := by
    rw [inL_put _ _ _ hs, he, ins_split ha hb]
  have hlcut := cut_list hs (key.take 8)
  rw [he, del_split (he ▸ hs) ha hb] at hlcut
  have hll : (a ++ b).length < 1000000 := by rw [← he]; omega
  rcases hD with ⟨rfl, rfl⟩ | rfl
  · refine by_body Try.func17 2 rfl (Nat.le_of_ble_eq_true rfl) ?_
    conv => whnf
    refine .call [] 0 ⟨rfl, rfl, rfl⟩ (few_spec ?_)
    conv => whnf
    refine branch_i (fun c => ?_) (fun c => ?_) <;> try rw [c] <;> conv => whnf
    · refine ⟨[0, 1, 2, 3, 5, 6, 7, 8, 4, 9, 10, 11], by kernel_rfl, by kernel_rfl, ?_⟩
      conv => whnf
      refine .call [0] 1 ⟨rfl, rfl, rfl⟩ (Put_spec (by omega) ?_)
      repeat (refine ⟨rfl, ?_⟩)
      conv => whnf
      refine .call [1] 1 ⟨rfl, rfl, rfl⟩ (RPut0_spec ?_)
      repeat (refine ⟨rfl, ?_⟩)
      conv => whnf
      have hX := h _ _ _ (.inr rfl) (fun _ => rfl) hput
      exact ⟨[0, 1, 3], rfl, hX⟩
    refine branch_i (fun c2 => ?_) (fun c2 => ?_) <;> try rw [c2] <;> conv => whnf
    · refine .call [0] 1 ⟨rfl, rfl, rfl⟩ (Cut_spec (by omega) ?_)
      conv => whnf
      refine .call [1] 1 ⟨rfl, rfl, rfl⟩ (RCut0_spec ?_)
      conv => whnf
      have hX := h _ _ _ (.inl ⟨rfl, rfl⟩) (fun e => by simp [D0, D1] at e) hcut
      exact ⟨[0, 1], rfl, hX⟩
    · have hX := h _ _ _ (.inl ⟨rfl, rfl⟩) (fun e => by simp [D0, D1] at e) ⟨hT.ok.mono (Nat.le_succ m), hT.bal⟩
      refine .call [0] 1 ⟨rfl, rfl, rfl⟩ (Get_none rfl ?_)
      conv => whnf
      refine .call [1] 1 ⟨rfl, rfl, rfl⟩ (RGet0_spec ?_)
      conv => whnf
      refine ⟨[0, 1, 2, 3, 4, 5, 6, 7, 8, 9, 10, 11, 12, 13, 15, 16, 17, 18, 19, 14, 20, 21, 22, 23], by kernel_rfl, by kernel_rfl, ?_⟩
      conv => whnf
      refine ⟨by decide, ?_⟩
      conv => whnf
      refine ⟨by decide, ?_⟩
      conv => whnf
      refine .call [0] 1 ⟨rfl, rfl, rfl⟩ (Keys_spec (Int.lt_trans (Int.tmod_lt_of_pos num (by decide)) (by decide)) ?_)
      repeat (refine ⟨rfl, ?_⟩)
      conv => whnf
      refine .call [1] 1 ⟨rfl, rfl, rfl⟩ (Behind0_spec ?_)
      repeat (refine ⟨rfl, ?_⟩)
      conv => whnf
      have hkt : keysT (key.take 8) (num.tmod 10) (Tr.nil : Tr Int) = [] := by simp [keysT, fromL]
      rw [hkt]
      refine .call [] 0 ⟨rfl, rfl, rfl⟩ (Same_spec (la := []) (lb := []) (.sl _ _) (.inl ⟨rfl, rfl⟩) (by decide) ?_)
      repeat (refine ⟨rfl, ?_⟩)
      conv => whnf
      iterate 3 (repeat (refine ⟨rfl, ?_⟩)); conv => whnf
      exact ⟨[0, 1], rfl, hX⟩
  · rw [he]
    refine by_body Try.func17 2 rfl (Nat.le_of_ble_eq_true rfl) ?_
    conv => whnf
    refine .call [] 0 ⟨rfl, rfl, rfl⟩ (few_spec ?_)
    conv => whnf
    refine branch_i (fun c => ?_) (fun c => ?_) <;> try rw [c] <;> conv => whnf
    · refine ⟨[0, 1, 2, 3, 5, 6, 7, 8, 4, 9, 10, 11], by kernel_rfl, by kernel_rfl, ?_⟩
      conv => whnf
      refine .call [0] 1 ⟨rfl, rfl, rfl⟩ (Put_spec (by omega) ?_)
      repeat (refine ⟨rfl, ?_⟩)
      conv => whnf
      refine .call [1, 2] 2 ⟨rfl, rfl, rfl⟩ (RPut2_spec ha hb hll (fun hh => ?_) (fun hh => ?_))
      · repeat (refine ⟨rfl, ?_⟩)
        conv => whnf
        have hX := h _ _ _ (.inr rfl) (fun _ => rfl) hput
        rw [hlput, hf, hh] at hX
        rw [hf, hh]
        exact ⟨[0, 1, 2], rfl, hX⟩
      · repeat (refine ⟨rfl, ?_⟩)
        conv => whnf
        have hX := h _ _ _ (.inr rfl) (fun _ => rfl) hput
        rw [hlput, hf, hh] at hX
        rw [hf, hh]
        exact ⟨[0, 1, 4], rfl, hX⟩
    refine branch_i (fun c2 => ?_) (fun c2 => ?_) <;> try rw [c2] <;> conv => whnf
    · refine .call [0] 1 ⟨rfl, rfl, rfl⟩ (Cut_spec (by omega) ?_)
      conv => whnf
      refine .call [1, 2] 1 ⟨rfl, rfl, rfl⟩ (RCut_spec ha hb hll ?_)
      conv => whnf
      have hX := h _ _ _ (.inr rfl) (fun _ => rfl) hcut
      rw [hlcut, hf] at hX
      rw [hf]
      cases hh : hasH (key.take 8) b with
      | true =>
        rw [hh] at hX
        unfold cutS
        rw [hh]
        exact ⟨[0, 1, 2], rfl, hX⟩
      | false =>
        rw [hh] at hX
        unfold cutS
        rw [hh]
        exact ⟨[0, 1, 2], rfl, hX⟩
    · have hX := h _ _ _ (.inr rfl) (fun _ => rfl) ⟨hT.ok.mono (Nat.le_succ m), hT.bal⟩
      rw [he] at hX
      have hkb := keys_behind hs (key.take 8) (num.tmod 10)
      rw [he] at hkb
      have hbh : decide (keysT (key.take 8) (num.tmod 10) t = ((kL (a ++ b)).filter (behindR (key.take 8))).take (num.tmod 10).toNat) = true := by simp [hkb]
      have hkt : (keysT (key.take 8) (num.tmod 10) t).length < 4611686018427387904 := by
        rw [hkb, List.length_take]
        have := List.length_filter_le (behindR (key.take 8)) (kL (a ++ b))
        have e : (kL (a ++ b)).length = (a ++ b).length := List.length_map ..
        omega
      cases hh : hasH (key.take 8) b with
      | false =>
        refine .call [0] 1 ⟨rfl, rfl, rfl⟩ (Get_none (isNil_eq (by rw [hf, hh]; rfl)) ?_)
        conv => whnf
        refine .call [1, 2] 2 ⟨rfl, rfl, rfl⟩ (RGet_spec ha hb hll ?_)
        rw [hh]
        conv => whnf
        refine ⟨[0, 1, 2, 3, 4, 5, 6, 7, 8, 9, 10, 11, 12, 13, 15, 16, 17, 18, 19, 14, 20, 21, 22, 23], by kernel_rfl, by kernel_rfl, ?_⟩
        conv => whnf
        refine ⟨by decide, ?_⟩
        conv => whnf
        refine ⟨by decide, ?_⟩
        conv => whnf
        refine .call [0] 1 ⟨rfl, rfl, rfl⟩ (Keys_spec (Int.lt_trans (Int.tmod_lt_of_pos num (by decide)) (by decide)) ?_)
        repeat (refine ⟨rfl, ?_⟩)
        conv => whnf
        refine .call [1, 2] 2 ⟨rfl, rfl, rfl⟩ (Behind_spec hll ?_)
        repeat (refine ⟨rfl, ?_⟩)
        conv => whnf
        refine .call [] 0 ⟨rfl, rfl, rfl⟩ (Same_spec (la := keysT (key.take 8) (num.tmod 10) t) (lb := ((kL (a ++ b)).filter (behindR (key.take 8))).take (num.tmod 10).toNat) (.sl _ _) (.sl _ _) hkt ?_)
        rw [hbh]
        repeat (refine ⟨rfl, ?_⟩)
        conv => whnf
        iterate 3 (repeat (refine ⟨rfl, ?_⟩)); conv => whnf
        exact ⟨[0, 1, 2], rfl, hX⟩
      | true =>
        cases hfd : findT (key.take 8) t with
        | nil => rw [hfd, hh] at hf; cases hf
        | node k v x y =>
          obtain ⟨rfl, hmem⟩ := find_mem hfd
          cases b with
          | nil => cases hh
          | cons z r =>
            obtain ⟨k2, w⟩ := z
            have e2 : k2 = key.take 8 := by simpa [hasH] using hh
            subst e2
            have hvw : v = w := sorted_unique hs hmem (by rw [he]; simp)
            subst hvw
            refine .call [0] 1 ⟨rfl, rfl, rfl⟩ (Get_some hfd ?_)
            conv => whnf
            refine .call [1, 2] 2 ⟨rfl, rfl, rfl⟩ (RGet_spec ha hb hll ?_)
            rw [hh]
            conv => whnf
            refine ⟨[0, 1, 2, 3, 4, 5, 6, 7, 8, 9, 10, 11, 12, 13, 15, 16, 17, 18, 19, 14, 20, 21, 22, 23], by kernel_rfl, by kernel_rfl, ?_⟩
            conv => whnf
            rw [show decide (v = v) = true by simp]
            conv => whnf
            refine ⟨by decide, ?_⟩
            conv => whnf
            refine ⟨by decide, ?_⟩
            conv => whnf
            refine .call [0] 1 ⟨rfl, rfl, rfl⟩ (Keys_spec (Int.lt_trans (Int.tmod_lt_of_pos num (by decide)) (by decide)) ?_)
            repeat (refine ⟨rfl, ?_⟩)
            conv => whnf
            refine .call [1, 2] 2 ⟨rfl, rfl, rfl⟩ (Behind_spec hll ?_)
            repeat (refine ⟨rfl, ?_⟩)
            conv => whnf
            refine .call [] 0 ⟨rfl, rfl, rfl⟩ (Same_spec (la := keysT (key.take 8) (num.tmod 10) t) (lb := ((kL (a ++ (key.take 8, v) :: r)).filter (behindR (key.take 8))).take (num.tmod 10).toNat) (.sl _ _) (.sl _ _) hkt ?_)
            rw [hbh]
            repeat (refine ⟨rfl, ?_⟩)
            conv => whnf
            iterate 3 (repeat (refine ⟨rfl, ?_⟩)); conv => whnf
            exact ⟨[0, 1, 2], rfl, hX⟩

end Go.Proofs.YtfhoblpcneachaaPg
