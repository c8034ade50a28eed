/- Chapter 09: TreePages. -/
import Derived.Test.YtfhoblpcneachaaPg09TreeLawA
import Derived.Test.YtfhoblpcneachaaPgTr3
namespace Go.Proofs.YtfhoblpcneachaaPg
open Go Go.RowKit
set_option linter.unusedVariables false

variable {Q : V → List O → Prop}

theorem bang_ne (s : List UInt8) : s ++ [33] ≠ [] := by simp

/-- No key is empty. -/
def NE (t : Tr Int) : Prop := ∀ k ∈ keysL t, k ≠ []

theorem NE.put {t : Tr Int} (h : NE t) (hs : SortedL (inL t)) {k : List UInt8} (hk : k ≠ []) (v : Int) : NE (putT k v t) := by
  intro x hx
  unfold keysL at hx
  rw [inL_put k v t hs, List.mem_map] at hx
  obtain ⟨y, hy, rfl⟩ := hx
  rcases ins_mem hy with rfl | hy
  · exact hk
  · exact h _ (List.mem_map.2 ⟨y, hy, rfl⟩)

theorem concat_of {α : Type} {l : List α} (h : l.length ≠ 0) : ∃ a x, l = a ++ [x] := by
  rcases List.eq_nil_or_concat l with rfl | ⟨a, x, h2⟩
  · simp at h
  · exact ⟨a, x, by rw [h2, List.concat_eq_append]⟩

theorem pages_most (m : Int) (h1 : -9223372036854775808 ≤ m) (h2 : m ≤ 9223372036854775807) :
    (0 ≤ m → 1 ≤ IntKind.i64.wrap (1 + m.tmod 5) ∧ IntKind.i64.wrap (1 + m.tmod 5) ≤ 5) ∧
    (m < 0 → 1 ≤ IntKind.i64.wrap (1 + (IntKind.i64.wrap (0 - IntKind.i64.wrap (m + 1))).tmod 5) ∧ IntKind.i64.wrap (1 + (IntKind.i64.wrap (0 - IntKind.i64.wrap (m + 1))).tmod 5) ≤ 5) := by
  constructor
  · intro h
    rw [IntKind.wrap_i64, Int.tmod_eq_emod_of_nonneg h]
    omega
  · intro h
    have e1 : IntKind.i64.wrap (m + 1) = m + 1 := by rw [IntKind.wrap_i64]; omega
    have e2 : IntKind.i64.wrap (0 - (m + 1)) = - (m + 1) := by rw [IntKind.wrap_i64]; omega
    rw [e1, e2, IntKind.wrap_i64, Int.tmod_eq_emod_of_nonneg (by omega)]
    omega

theorem TreePages_spec {es : List (List V)} {most : Int} (hes : ∀ x ∈ es, ∃ s, x = [.str s]) (hm : -9223372036854775808 ≤ most ∧ most ≤ 9223372036854775807) :
    ACall Try.prog 3 0 [.sl 1 es false, fI most] [] (fun v _ => v = .bool true) := by
  refine by_body Try.func3 0 rfl (Nat.le_of_ble_eq_true rfl) ?_
  conv => whnf
  refine .call [] 0 ⟨rfl, rfl, rfl⟩ (TNew_spec ?_)
  conv => whnf
  refine ⟨⟨[0, 1, 5, 6], fun m vs H => ∃ (i : Nat) (t : Tr Int) (n : Int), vs = [.sl 1 es false, fI most, .ptr 0 0, fI i] ∧ H = [treeO t n] ∧ TOk t n i ∧ NE t ∧ i ≤ 40 ∧ m = 40 - i, ⟨_, 0, .nil, 0, rfl, rfl, .nil, fun k hk => by simp [keysL, inL] at hk, by omega, rfl⟩, ?_⟩⟩
  rintro m vs H ⟨i, t, n, rfl, rfl, hok, hne, hi, rfl⟩
  conv => whnf
  obtain ⟨pm1, pm2⟩ := pages_most most hm.1 hm.2
  have hkl := keysL_len t
  have hle := hok.le
  refine branch_i (fun c => ?_) (fun c => ?_) <;> try rw [c] <;> conv => whnf
  focus refine branch_i (fun c2 => ?_) (fun c2 => ?_) <;> try rw [c2] <;> conv => whnf
  focus
    have c' := of_decide_eq_true c
    have c2' := of_decide_eq_true c2
    have hlt : i < es.length := by omega
    obtain ⟨s, hs⟩ := hes es[i] (List.getElem_mem hlt)
    have hget : es[i]? = some [.str s] := by rw [List.getElem?_eq_getElem hlt, hs]
    refine ⟨_, ⟨by omega, by simpa using hget⟩, ?_⟩
    conv => whnf
    refine .call [] 0 ⟨rfl, rfl, rfl⟩ (few_spec ?_)
    conv => whnf
    refine ⟨by simp; omega, ?_⟩
    conv => whnf
    have h6 := hok.ht
    refine .call [0] 1 ⟨rfl, rfl, rfl⟩ (Put_spec (by omega) ?_)
    conv => whnf
    refine .go [0] rfl (40 - (i + 1)) (by omega) ⟨i + 1, putT (s.take 8 ++ [33]) i t, _, ?_, rfl, hok.put (by omega) _ _, hne.put hok.srt (bang_ne _) _, by omega, rfl⟩
    show [V.sl 1 es false, fI most, V.ptr 0 0, V.int .i64 (IntKind.i64.wrap ((i : Int) + 1))] = _
    rw [show IntKind.i64.wrap ((i : Int) + 1) = ((i + 1 : Nat) : Int) by rw [IntKind.wrap_i64]; omega]
  all_goals (refine branch_i (fun c3 => ?_) (fun c3 => ?_) <;> try rw [c3] <;> conv => whnf)
  all_goals
    refine ⟨by decide, ?_⟩
    conv => whnf
    refine ⟨⟨[1, 5, 7, 8, 9], fun m vs H => ∃ (mp : Int) (j : Nat) (A R : List (List UInt8)) (al : V), 1 ≤ mp ∧ mp ≤ 5 ∧ vs = [fI mp, .ptr 0 0, al, .str (A.getLastD []), fI j] ∧ keysL t = A ++ R ∧ j ≤ A.length ∧ m = 46 - j ∧ j ≤ 45 ∧
      ((j = 0 ∧ al = .nils ∧ A = [] ∧ H = [treeO t n]) ∨ (al = .ms 1 1 0 (strs A).length false ∧ H = [treeO t n, .buf (strs A)])), ⟨_, _, 0, [], keysL t, .nils, ?_, ?_, rfl, rfl, Nat.zero_le _, rfl, by omega, .inl ⟨rfl, rfl, rfl, rfl⟩⟩, ?_⟩⟩
  all_goals first
    | exact (pm2 (of_decide_eq_true c3)).1
    | exact (pm2 (of_decide_eq_true c3)).2
    | exact (pm1 (by have := of_decide_eq_false c3; omega)).1
    | exact (pm1 (by have := of_decide_eq_false c3; omega)).2
    | skip
  all_goals
    rintro m vs H ⟨mp, j, A, R, al, hp1, hp5, rfl, hK, hjA, rfl, hj45, hal⟩
    have hAK : A.length ≤ 40 := by
      have := congrArg List.length hK
      simp at this
      omega
    have hRK : R.length ≤ 40 := by
      have := congrArg List.length hK
      simp at this
      omega
    have hpage := page_eq hok.srt hne hK mp
    have hlast := keysT_nil hok.srt (most := 100) (by omega)
    have hsl := strs_len A
    rcases hal with ⟨hj0, rfl, hA, rfl⟩ | ⟨rfl, rfl⟩
  all_goals conv => whnf
  all_goals (try refine branch_i (fun c4 => ?_) (fun c4 => ?_) <;> try rw [c4] <;> conv => whnf)
  all_goals first
    | (exfalso; have := of_decide_eq_false c4; omega)
    | skip
  all_goals
    refine .call [0] 1 ⟨rfl, rfl, rfl⟩ (Keys_spec (by omega) ?_)
    rw [hpage]
    conv => whnf
  all_goals first
    | (refine ⟨(show (strs (R.take mp.toNat)).length * 16 ≤ 70368744177664 by rw [strs_len, List.length_take]; omega), ?_⟩)
    | (refine ⟨(show 0 + (strs A).length = (strs A).length by omega), ?_⟩
       conv => whnf
       refine ⟨(show ((strs A).drop 0 ++ strs (R.take mp.toNat)).length * 16 ≤ 70368744177664 by simp only [List.drop_zero, List.length_append, strs_len, List.length_take]; omega), ?_⟩)
  all_goals
    conv => whnf
    refine branch_i (fun c5 => ?_) (fun c5 => ?_) <;> try rw [c5] <;> conv => whnf
    · have hP : R.take mp.toNat = [] := by
        have := of_decide_eq_true c5
        rw [strs_len] at this
        exact List.length_eq_zero_iff.1 (by omega)
      have hR : R = [] := by
        cases R with
        | nil => rfl
        | cons x r =>
          obtain ⟨q, hq⟩ : ∃ q, mp.toNat = q + 1 := ⟨mp.toNat - 1, by omega⟩
          rw [hq] at hP
          simp at hP
      subst hR
      rw [List.append_nil] at hK
      refine .call [0] 1 ⟨rfl, rfl, rfl⟩ (Keys_spec (by decide) ?_)
      rw [hlast]
      conv => whnf
      first
        | (refine .frz 1 rfl rfl (by repeat (first | exact trivial | refine And.intro (Nat.le_of_eq (Nat.zero_add _)) ?_)) (.call [] 0 ⟨rfl, rfl, rfl⟩ (Same_spec (la := keysL t) (lb := keysL t) (frz_strs (by first | (simp [hK, strs]; done) | (rw [hK, hA]; simp [strs]))) (.sl _ _) (by omega) ?_)))
        | (refine .frz 2 rfl rfl (by repeat (first | exact trivial | refine And.intro (Nat.le_of_eq (Nat.zero_add _)) ?_)) (.call [] 0 ⟨rfl, rfl, rfl⟩ (Same_spec (la := keysL t) (lb := keysL t) (frz_strs (by first | (simp [hK, strs]; done) | (rw [hK, hA]; simp [strs]))) (.sl _ _) (by omega) ?_)))
      rw [show decide (keysL t = keysL t) = true by simp]
      conv => whnf
      refine .call [0] 1 ⟨rfl, rfl, rfl⟩ (Len_spec ?_)
      conv => whnf
      have hn := hok.len
      have hAn := congrArg List.length hK
      refine branch_i (fun c6 => ?_) (fun c6 => ?_)
      · rw [c6]
        conv => whnf
        refine .call [] 0 ⟨rfl, rfl, rfl⟩ (lives_spec ?_)
        conv => whnf
        exact ⟨[], rfl, rfl⟩
      · exfalso
        have c6' := of_decide_eq_false c6
        refine c6' ?_
        first
          | (simp only [List.drop_zero, List.take_length]; simp only [List.length_append, strs_len, List.take_nil, List.length_nil]; omega)
          | (rw [hA] at hAn; simp only [List.length_nil] at hAn; simp only [List.take_nil, strs, List.map_nil, List.drop_zero, List.length_nil]; omega)
    · have hP : (R.take mp.toNat).length ≠ 0 := by
        have := of_decide_eq_false c5
        rw [strs_len] at this
        omega
      obtain ⟨P', x, hPx⟩ := concat_of hP
      rw [hPx]
      have hw : IntKind.i64.wrap (((strs (P' ++ [x])).length : Int) - 1) = (P'.length : Int) := by
        rw [strs_len, IntKind.wrap_i64]
        have := congrArg List.length hPx
        simp only [List.length_take, List.length_append, List.length_singleton] at this ⊢
        omega
      rw [hw]
      refine ⟨[.str x], ⟨by omega, by simp [strs_app, strs]⟩, ?_⟩
      conv => whnf
      have hK2 : keysL t = (A ++ (P' ++ [x])) ++ R.drop mp.toNat := by rw [hK, ← hPx, List.append_assoc, List.take_append_drop]
      have hl2 : (A ++ (P' ++ [x])).getLastD [] = x := by rw [← List.append_assoc]; simp
      have hwj : IntKind.i64.wrap ((j : Int) + 1) = ((j + 1 : Nat) : Int) := by rw [IntKind.wrap_i64]; omega
      first
        | (refine .go [0, 2] rfl (46 - (j + 1)) (by omega) ⟨mp, j + 1, A ++ (P' ++ [x]), R.drop mp.toNat, _, hp1, hp5, ?_, hK2, by simp; omega, rfl, by omega, .inr ⟨rfl, ?_⟩⟩
           · show [V.int .i64 mp, V.ptr 0 0, V.ms 1 1 0 (List.drop 0 (strs A) ++ strs (P' ++ [x])).length false, V.str x, V.int .i64 (IntKind.i64.wrap ((j : Int) + 1))] = _
             rw [hl2, hwj, List.drop_zero, strs_app A]
           · show [treeO t n, O.buf (List.drop 0 (strs A) ++ strs (P' ++ [x]))] = _
             rw [List.drop_zero, strs_app A])
        | (refine .go [0, 1] rfl (46 - (j + 1)) (by omega) ⟨mp, j + 1, A ++ (P' ++ [x]), R.drop mp.toNat, _, hp1, hp5, ?_, hK2, by simp; omega, rfl, by omega, .inr ⟨rfl, ?_⟩⟩
           · show [V.int .i64 mp, V.ptr 0 0, V.ms 1 1 0 (strs (P' ++ [x])).length false, V.str x, V.int .i64 (IntKind.i64.wrap ((j : Int) + 1))] = _
             rw [hl2, hwj, hA]; rfl
           · show [treeO t n, O.buf (strs (P' ++ [x]))] = _
             rw [hA]; rfl)

end Go.Proofs.YtfhoblpcneachaaPg
