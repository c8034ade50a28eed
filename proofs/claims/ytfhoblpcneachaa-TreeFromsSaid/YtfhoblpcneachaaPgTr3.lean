/- Trees of keys: what the laws ask of them. -/
import Derived.Test.YtfhoblpcneachaaPgTr2
namespace Go.Proofs.YtfhoblpcneachaaPg
open Go Go.RowKit

/-- A tree that was made in m steps. -/
structure TOk (t : Tr Int) (n : Int) (m : Nat) : Prop where
  srt : SortedL (inL t)
  len : n = ((inL t).length : Int)
  le : (inL t).length ≤ m
  ht : t.ht ≤ m

theorem TOk.nil : TOk .nil 0 0 := ⟨by simp [inL, SortedL], rfl, by simp [inL], by simp [Tr.ht]⟩
theorem TOk.mono {t : Tr Int} {n : Int} {m m' : Nat} (h : TOk t n m) (hm : m ≤ m') : TOk t n m' := ⟨h.srt, h.len, Nat.le_trans h.le hm, Nat.le_trans h.ht hm⟩

theorem TOk.put {t : Tr Int} {n : Int} {m : Nat} (h : TOk t n m) (hm : m < 1099511627776) (key : List UInt8) (v : Int) : TOk (putT key v t) (if (findT key t).isNil then IntKind.i64.wrap (n + 1) else n) (m + 1) := by
  have h1 := inL_put key v t h.srt
  have h2 := ins_len (key := key) (w := v) h.srt
  have h3 := find_has key t h.srt
  have h4 := ht_put key v t
  have h5 := h.le
  have h6 := h.ht
  have h7 := h.len
  rw [← h1] at h2
  refine ⟨by rw [h1]; exact ins_sorted h.srt, ?_, ?_, by omega⟩
  · rw [h3]
    cases hc : hasL key (inL t) with
    | true => rw [hc] at h2; simp only [if_true] at h2; simp only [Bool.not_true, Bool.false_eq_true, if_false]; omega
    | false =>
      rw [hc] at h2
      simp only [Bool.false_eq_true, if_false] at h2
      simp only [Bool.not_false, if_true]
      rw [IntKind.wrap_i64]; omega
  · split at h2 <;> omega

theorem TOk.cut {t : Tr Int} {n : Int} {m : Nat} (h : TOk t n m) (hm : m < 1099511627776) (key : List UInt8) : TOk (if (findT key t).isNil then t else cutT key t) (if (findT key t).isNil then n else IntKind.i64.wrap (n - 1)) m := by
  have h3 := find_has key t h.srt
  cases hc : hasL key (inL t) with
  | false =>
    rw [h3, hc]
    simp only [Bool.not_false, if_true]
    exact h
  | true =>
    rw [h3, hc]
    simp only [Bool.not_true, Bool.false_eq_true, if_false]
    have h1 := inL_cut t key h.srt
    have h2 := del_len h.srt hc
    have h4 := ht_cut t key
    have h5 := h.le
    have h6 := h.ht
    have h7 := h.len
    rw [← h1] at h2
    refine ⟨by rw [h1]; exact del_sorted h.srt, ?_, by omega, by omega⟩
    rw [IntKind.wrap_i64]; omega

def keysL (t : Tr Int) : List (List UInt8) := (inL t).map (·.1)

theorem keysL_len (t : Tr Int) : (keysL t).length = (inL t).length := by simp [keysL]

theorem leS_nil (k : List UInt8) : leS [] k = true := by cases k <;> simp [leS, Op.bytesLess]

theorem keysT_nil {t : Tr Int} (h : SortedL (inL t)) {most : Int} (hm : (keysL t).length ≤ most.toNat) : keysT [] most t = keysL t := by
  unfold keysT
  rw [from_filter [] t h]
  have e1 : (inL t).filter (fun x => leS [] x.1) = inL t := List.filter_eq_self.2 fun x _ => leS_nil _
  have e2 : ((inL t).map (·.1)).filter (behindB []) = (inL t).map (·.1) := List.filter_eq_self.2 fun x _ => by simp [behindB]
  rw [e1, e2, List.take_of_length_le]
  · rfl
  · exact hm

/-- The keys behind one that stands there. -/
theorem keysT_behind {t : Tr Int} (h : SortedL (inL t)) {A R : List (List UInt8)} {k : List UInt8} (hk : keysL t = A ++ k :: R) {most : Int} (hne : k ≠ []) : keysT k most t = R.take most.toNat := by
  unfold keysT
  rw [from_filter k t h]
  congr 1
  have e1 : ((inL t).filter fun x => leS k x.1).map (·.1) = (keysL t).filter (leS k) := by
    unfold keysL
    rw [List.filter_map]; rfl
  rw [e1, hk]
  have hs : (keysL t).Pairwise fun x y => Op.bytesLess x y = true := by
    unfold keysL
    rw [List.pairwise_map]; exact h
  rw [hk, List.pairwise_append, List.pairwise_cons] at hs
  obtain ⟨h1, ⟨h2, h3⟩, h4⟩ := hs
  rw [List.filter_append, List.filter_cons, List.filter_append, List.filter_filter]
  have eA : A.filter (fun a => behindB k a && leS k a) = [] := by
    rw [List.filter_eq_nil_iff]
    intro x hx hh
    have := h4 x hx k (by simp)
    simp only [leS, Bool.and_eq_true, Bool.or_eq_true, decide_eq_true_eq] at hh
    rcases hh.2 with g | g
    · rw [less_asymm this] at g; cases g
    · exact less_ne this g.symm
  rw [eA]
  have ek : leS k k = true := by simp [leS]
  rw [if_pos ek, List.filter_cons]
  have eb : behindB k k = false := by simp [behindB, hne]
  rw [eb, List.filter_filter]
  simp only [Bool.false_eq_true, if_false, List.nil_append]
  rw [List.filter_eq_self]
  intro x hx
  have := h2 x hx
  have hne2 : x ≠ k := (less_ne this).symm
  simp [behindB, leS, this, hne2]

theorem keysT_first {t : Tr Int} (h : SortedL (inL t)) (most : Int) : keysT [] most t = (keysL t).take most.toNat := by
  unfold keysT
  rw [from_filter [] t h]
  have e1 : (inL t).filter (fun x => leS [] x.1) = inL t := List.filter_eq_self.2 fun x _ => leS_nil _
  have e2 : ((inL t).map (·.1)).filter (behindB []) = (inL t).map (·.1) := List.filter_eq_self.2 fun x _ => by simp [behindB]
  rw [e1, e2]; rfl

theorem page_eq {t : Tr Int} (h : SortedL (inL t)) (hne : ∀ k ∈ keysL t, k ≠ []) {A R : List (List UInt8)} (hk : keysL t = A ++ R) (most : Int) : keysT (A.getLastD []) most t = R.take most.toNat := by
  rcases List.eq_nil_or_concat A with rfl | ⟨A', k, rfl⟩
  · simp only [List.nil_append] at hk
    rw [← hk]
    exact keysT_first h most
  · have e : (A' ++ [k]).getLastD [] = k := by simp
    simp only [List.concat_eq_append] at *
    rw [e]
    exact keysT_behind h (A := A') (by simpa using hk) (hne k (by rw [hk]; simp))

theorem wf_i64 {m : Int} (h : (Lit.int .i64 m).wf = true) : -9223372036854775808 ≤ m ∧ m ≤ 9223372036854775807 := by
  have h1 : IntKind.i64.min = -9223372036854775808 := by decide
  have h2 : IntKind.i64.max = 9223372036854775807 := by decide
  simp only [Lit.wf, Bool.and_eq_true, decide_eq_true_eq, h1, h2] at h
  exact h

end Go.Proofs.YtfhoblpcneachaaPg
