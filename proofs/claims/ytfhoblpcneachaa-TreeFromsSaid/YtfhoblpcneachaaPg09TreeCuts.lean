/- Chapter 09: TreeCuts. -/
import Derived.Test.YtfhoblpcneachaaPg09TreeLawA
import Derived.Test.YtfhoblpcneachaaPgTr3
namespace Go.Proofs.YtfhoblpcneachaaPg
open Go Go.RowKit
set_option linter.unusedVariables false

variable {Q : V → List O → Prop}

theorem strs_of : ∀ {es : List (List V)}, (∀ x ∈ es, ∃ s, x = [.str s]) → ∃ ss, es = strs ss
  | [], _ => ⟨[], rfl⟩
  | x :: l, h => by
    obtain ⟨s, rfl⟩ := h x (by simp)
    obtain ⟨ss, rfl⟩ := strs_of (es := l) fun y hy => h y (by simp [hy])
    exact ⟨s :: ss, rfl⟩

theorem isNil_eq {t : Tr Int} (h : t.isNil = true) : t = .nil := by cases t with
  | nil => rfl
  | node => cases h

theorem cut_list {t : Tr Int} (hs : SortedL (inL t)) (key : List UInt8) : inL (if (findT key t).isNil then t else cutT key t) = delL key (inL t) := by
  rw [find_has key t hs]
  cases hc : hasL key (inL t) with
  | true => simp only [Bool.not_true, Bool.false_eq_true, if_false]; exact inL_cut t key hs
  | false =>
    simp only [Bool.not_false, if_true]
    refine (delL_none fun x hx e => ?_).symm
    have : hasL key (inL t) = true := by simp only [hasL, List.any_eq_true]; exact ⟨x, hx, by simp [e]⟩
    rw [this] at hc; cases hc

theorem has_del (key : List UInt8) (l : List (List UInt8 × Int)) : hasL key (delL key l) = false :=
  hasL_none fun x hx => by
    simp only [delL, List.mem_filter] at hx
    simpa using hx.2

/-- All keys of the tree are among these. -/
def Among (t : Tr Int) (l : List (List UInt8)) : Prop := ∀ x ∈ inL t, ∃ s ∈ l, x.1 = s.take 8

theorem TreeCuts_spec {es : List (List V)} (hes : ∀ x ∈ es, ∃ s, x = [.str s]) :
    ACall Try.prog 7 0 [.sl 1 es false] [] (fun v _ => v = .bool true) := by
  obtain ⟨ss, rfl⟩ := strs_of hes
  clear hes
  refine by_body Try.func7 0 rfl (Nat.le_of_ble_eq_true rfl) ?_
  conv => whnf
  have hsl := strs_len ss
  refine branch_i (fun c => ?_) (fun c => ?_) <;> try rw [c] <;> conv => whnf
  focus
    have c' := of_decide_eq_true c
    refine ⟨⟨by decide, by omega⟩, ?_⟩
    conv => whnf
    rw [show List.take (Int.toNat 40) (strs ss) = strs (ss.take 40) by simp [strs]]
    have hl : (ss.take 40).length ≤ 40 := by rw [List.length_take]; omega
    revert hl
    generalize ss.take 40 = ls
    intro hl
  rotate_left
  focus
    have hl : ss.length ≤ 40 := by have := of_decide_eq_false c; omega
    revert hl
    clear hsl
    generalize ss = ls
    intro hl
  all_goals
    have hsl := strs_len ls
    refine .call [] 0 ⟨rfl, rfl, rfl⟩ (TNew_spec ?_)
    conv => whnf
    refine ⟨⟨[0, 3, 4], fun m vs H => ∃ (i : Nat) (t : Tr Int) (n : Int), vs = [.sl 1 (strs ls) false, .ptr 0 0, fI i] ∧ H = [treeO t n] ∧ TOk t n i ∧ Among t (ls.take i) ∧ i ≤ ls.length ∧ m = 40 - i, .at _ ⟨0, .nil, 0, rfl, rfl, .nil, fun k hk => by simp [inL] at hk, by omega, rfl⟩, ?_⟩⟩
    rintro m vs H ⟨i, t, n, rfl, rfl, hok, ham, hi, rfl⟩
    conv => whnf
    refine branch_i (fun c => ?_) (fun c => ?_) <;> try rw [c] <;> conv => whnf
    · have c' := of_decide_eq_true c
      have hlt : i < ls.length := by omega
      have hget : ls[i]? = some ls[i] := List.getElem?_eq_getElem hlt
      refine ⟨_, ⟨by omega, by simpa using strs_get hget⟩, ?_⟩
      conv => whnf
      refine .call [] 0 ⟨rfl, rfl, rfl⟩ (few_spec ?_)
      conv => whnf
      have h6 := hok.ht
      refine .call [0] 1 ⟨rfl, rfl, rfl⟩ (Put_spec (by omega) ?_)
      conv => whnf
      refine .go [0] rfl (40 - (i + 1)) (by omega) ⟨i + 1, putT (ls[i].take 8) i t, _, ?_, rfl, hok.put (by omega) _ _, ?_, by omega, rfl⟩
      · show [V.sl 1 (strs ls) false, V.ptr 0 0, V.int .i64 (IntKind.i64.wrap ((i : Int) + 1))] = _
        rw [show IntKind.i64.wrap ((i : Int) + 1) = ((i + 1 : Nat) : Int) by rw [IntKind.wrap_i64]; omega]
      · intro x hx
        rw [inL_put _ _ t hok.srt] at hx
        rw [List.take_add_one, hget]
        rcases ins_mem hx with rfl | hx
        · exact ⟨ls[i], List.mem_append_right _ (List.mem_singleton.2 rfl), rfl⟩
        · obtain ⟨s, h1, h2⟩ := ham x hx
          exact ⟨s, List.mem_append_left _ h1, h2⟩
    · have c' := of_decide_eq_false c
      have hil : i = ls.length := by omega
      subst hil
      have hok := hok.mono hl
      rw [List.take_length] at ham
      refine .call [0] 1 ⟨rfl, rfl, rfl⟩ (Len_spec ?_)
      conv => whnf
      rw [show IntKind.i64.wrap (((strs ls).length : Int) - 1) = (ls.length : Int) - 1 by rw [hsl, IntKind.wrap_i64]; omega]
      refine ⟨⟨[0, 3, 5, 6], fun m vs H => ∃ (j : Nat) (t : Tr Int) (n : Int), vs = [.sl 1 (strs ls) false, .ptr 0 0, fI n, fI ((j : Int) - 1)] ∧ H = [treeO t n] ∧ TOk t n 40 ∧ Among t (ls.take j) ∧ j ≤ ls.length ∧ m = j, .at _ ⟨ls.length, t, n, rfl, rfl, hok, by rw [List.take_length]; exact ham, by omega, rfl⟩, ?_⟩⟩
      clear hok ham
      rintro m vs H ⟨j, t, n, rfl, rfl, hok, ham, hj, rfl⟩
      conv => whnf
      refine branch_i (fun c => ?_) (fun c => ?_) <;> try rw [c] <;> conv => whnf
      · have c' := of_decide_eq_true c
        obtain ⟨i, rfl⟩ : ∃ i, m = i + 1 := ⟨m - 1, by omega⟩
        have hlt : i < ls.length := by omega
        have hget : ls[i]? = some ls[i] := List.getElem?_eq_getElem hlt
        have hji : (((i + 1 : Nat) : Int) - 1) = (i : Int) := by omega
        rw [hji]
        refine ⟨_, ⟨by omega, by simpa using strs_get hget⟩, ?_⟩
        conv => whnf
        refine .call [] 0 ⟨rfl, rfl, rfl⟩ (few_spec ?_)
        conv => whnf
        have h6 := hok.ht
        refine .call [0] 1 ⟨rfl, rfl, rfl⟩ (Cut_spec (by omega) ?_)
        have hok2 := hok.cut (by omega) (ls[i].take 8)
        have hcl := cut_list hok.srt (ls[i].take 8)
        have hnone : findT (ls[i].take 8) (if (findT (ls[i].take 8) t).isNil then t else cutT (ls[i].take 8) t) = .nil := by
          refine isNil_eq ?_
          rw [find_has _ _ hok2.srt, hcl, has_del]; rfl
        have ham2 : Among (if (findT (ls[i].take 8) t).isNil then t else cutT (ls[i].take 8) t) (ls.take i) := by
          intro x hx
          rw [hcl] at hx
          simp only [delL, List.mem_filter] at hx
          obtain ⟨s, h1, h2⟩ := ham x hx.1
          rw [List.take_add_one, hget] at h1
          rcases List.mem_append.1 h1 with h1 | h1
          · exact ⟨s, h1, h2⟩
          · simp at h1
            subst h1
            simp [h2] at hx
        revert hok2 hcl hnone ham2
        generalize (if (findT (ls[i].take 8) t).isNil then t else cutT (ls[i].take 8) t) = t2
        intro hok2 hcl hnone ham2
        have hwi : IntKind.i64.wrap ((i : Int) - 1) = (i : Int) - 1 := by rw [IntKind.wrap_i64]; omega
        cases hd : (findT (ls[i].take 8) t).isNil with
        | true =>
          rw [hd] at hok2
          simp only [if_true] at hok2 ⊢
          conv => whnf
          refine ⟨_, ⟨by omega, by simpa using strs_get hget⟩, ?_⟩
          conv => whnf
          refine .call [] 0 ⟨rfl, rfl, rfl⟩ (few_spec ?_)
          conv => whnf
          refine .call [0] 1 ⟨rfl, rfl, rfl⟩ (Get_none hnone ?_)
          conv => whnf
          refine .call [0] 1 ⟨rfl, rfl, rfl⟩ (Len_spec ?_)
          conv => whnf
          rw [show decide (n = n) = true by simp]
          conv => whnf
          refine .go [0] rfl i (by omega) ⟨i, t2, n, ?_, rfl, hok2, ham2, by omega, rfl⟩
          show [V.sl 1 (strs ls) false, V.ptr 0 0, V.int .i64 n, V.int .i64 (IntKind.i64.wrap ((i : Int) - 1))] = _
          rw [hwi]
        | false =>
          rw [hd] at hok2
          simp only [Bool.false_eq_true, if_false] at hok2 ⊢
          conv => whnf
          refine ⟨_, ⟨by omega, by simpa using strs_get hget⟩, ?_⟩
          conv => whnf
          refine .call [] 0 ⟨rfl, rfl, rfl⟩ (few_spec ?_)
          conv => whnf
          refine .call [0] 1 ⟨rfl, rfl, rfl⟩ (Get_none hnone ?_)
          conv => whnf
          refine .call [0] 1 ⟨rfl, rfl, rfl⟩ (Len_spec ?_)
          conv => whnf
          rw [show decide (IntKind.i64.wrap (n - 1) = IntKind.i64.wrap (n - 1)) = true by simp]
          conv => whnf
          refine .go [0] rfl i (by omega) ⟨i, t2, _, ?_, rfl, hok2, ham2, by omega, rfl⟩
          show [V.sl 1 (strs ls) false, V.ptr 0 0, V.int .i64 (IntKind.i64.wrap (n - 1)), V.int .i64 (IntKind.i64.wrap ((i : Int) - 1))] = _
          rw [hwi]
      · have c' := of_decide_eq_false c
        have hj0 : m = 0 := by omega
        subst hj0
        have ht : t = .nil := by
          cases t with
          | nil => rfl
          | node k v a b =>
            obtain ⟨s, h1, _⟩ := ham (k, v) (by simp [inL])
            simp at h1
        subst ht
        have hn : n = 0 := hok.len
        subst hn
        refine .call [0] 1 ⟨rfl, rfl, rfl⟩ (Height_spec ?_)
        conv => whnf
        refine .call [0] 1 ⟨rfl, rfl, rfl⟩ (Keys_spec (by decide) ?_)
        rw [show keysT [] 9 (Tr.nil : Tr Int) = [] by rfl]
        conv => whnf
        refine .call [] 0 ⟨rfl, rfl, rfl⟩ (lives_spec ?_)
        conv => whnf
        exact ⟨[], rfl, rfl⟩

end Go.Proofs.YtfhoblpcneachaaPg
