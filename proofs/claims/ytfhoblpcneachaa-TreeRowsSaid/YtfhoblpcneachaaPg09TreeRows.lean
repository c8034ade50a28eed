/- Chapter 09: TreeRows. -/
import Derived.Test.YtfhoblpcneachaaPg09TreeCuts
namespace Go.Proofs.YtfhoblpcneachaaPg
open Go Go.RowKit
set_option linter.unusedVariables false

variable {Q : V → List O → Prop}

theorem ins_has {key : List UInt8} {w : Int} : ∀ {l : List (List UInt8 × Int)}, (key, w) ∈ insL key w l
  | [] => by simp [insL]
  | (k, v) :: l => by
    simp only [insL]
    split
    · simp
    · split
      · exact List.mem_cons_of_mem _ ins_has
      · simp

theorem ins_keep {key : List UInt8} {w : Int} {x : List UInt8 × Int} (hx : x.1 ≠ key) : ∀ {l : List (List UInt8 × Int)}, x ∈ l → x ∈ insL key w l
  | [], h => by simp at h
  | (k, v) :: l, h => by
    simp only [insL]
    split
    · exact List.mem_cons_of_mem _ h
    · split
      · rcases List.mem_cons.1 h with rfl | h
        · simp
        · exact List.mem_cons_of_mem _ (ins_keep hx h)
      · rename_i h1 h2
        rcases List.mem_cons.1 h with rfl | h
        · exact absurd (less_total (by simpa using h2) (by simpa using h1)) hx
        · exact List.mem_cons_of_mem _ h

theorem sorted_same : ∀ {a b : List (List UInt8 × Int)}, SortedL a → SortedL b → (∀ x, x ∈ a ↔ x ∈ b) → a = b
  | [], [], _, _, _ => rfl
  | [], y :: b, _, _, h => by have := (h y).2 (by simp); simp at this
  | x :: a, [], _, _, h => by have := (h x).1 (by simp); simp at this
  | x :: a, y :: b, ha, hb, h => by
    unfold SortedL at ha hb
    rw [List.pairwise_cons] at ha hb
    have e : x = y := by
      rcases List.mem_cons.1 ((h x).1 (by simp)) with e | h1
      · exact e
      · rcases List.mem_cons.1 ((h y).2 (by simp)) with e | h2
        · exact e.symm
        · have g1 := hb.1 x h1
          have g2 := ha.1 y h2
          rw [less_asymm g1] at g2; cases g2
    subst e
    rw [sorted_same (a := a) (b := b) ha.2 hb.2 fun z => ?_]
    constructor
    · intro hz
      rcases List.mem_cons.1 ((h z).1 (List.mem_cons_of_mem _ hz)) with e | h1
      · subst e
        have := ha.1 _ hz
        rw [less_irrefl] at this; cases this
      · exact h1
    · intro hz
      rcases List.mem_cons.1 ((h z).2 (List.mem_cons_of_mem _ hz)) with e | h1
      · subst e
        have := hb.1 _ hz
        rw [less_irrefl] at this; cases this
      · exact h1

/-- The tree has the beginnings of these, and their lengths. -/
def Has (t : Tr Int) (l : List (List UInt8)) : Prop := ∀ x, x ∈ inL t ↔ ∃ s ∈ l, x = (s.take 8, ((s.take 8).length : Int))

theorem Has.put {t : Tr Int} {l l' : List (List UInt8)} (h : Has t l) (hs : SortedL (inL t)) (s : List UInt8) (hl : ∀ u, u ∈ l' ↔ u = s ∨ u ∈ l) : Has (putT (s.take 8) ((s.take 8).length : Int) t) l' := by
  intro x
  rw [inL_put _ _ t hs]
  constructor
  · intro hx
    rcases ins_mem hx with rfl | hx
    · exact ⟨s, (hl s).2 (.inl rfl), rfl⟩
    · obtain ⟨u, h1, h2⟩ := (h x).1 hx
      exact ⟨u, (hl u).2 (.inr h1), h2⟩
  · rintro ⟨u, h1, rfl⟩
    rcases (hl u).1 h1 with rfl | h1
    · exact ins_has
    · by_cases e : u.take 8 = s.take 8
      · rw [e]; exact ins_has
      · exact ins_keep e ((h _).2 ⟨u, h1, rfl⟩)

theorem Has.get {t : Tr Int} {l : List (List UInt8)} (h : Has t l) (hs : SortedL (inL t)) {k : List UInt8} (hk : k ∈ keysL t) : ∃ a b, findT k t = .node k (k.length : Int) a b := by
  obtain ⟨x, hx, rfl⟩ := List.mem_map.1 hk
  have h1 := find_has x.1 t hs
  have h2 : hasL x.1 (inL t) = true := by simp only [hasL, List.any_eq_true]; exact ⟨x, hx, by simp⟩
  rw [h2] at h1
  cases hf : findT x.1 t with
  | nil => rw [hf] at h1; cases h1
  | node k v a b =>
    obtain ⟨rfl, hm⟩ := find_mem hf
    obtain ⟨s, _, e⟩ := (h _).1 hm
    have e1 := congrArg Prod.fst e
    have e2 := congrArg Prod.snd e
    simp only at e1 e2
    rw [← e1] at e2
    subst e2
    exact ⟨a, b, rfl⟩

theorem keys_sorted {t : Tr Int} (hs : SortedL (inL t)) : (keysL t).Pairwise fun x y => Op.bytesLess x y = true := by
  unfold keysL
  rw [List.pairwise_map]; exact hs

theorem TreeRows_spec {es : List (List V)} (hes : ∀ x ∈ es, ∃ s, x = [.str s]) :
    ACall Try.prog 4 0 [.sl 1 es false] [] (fun v _ => v = .bool true) := by
  obtain ⟨ss, rfl⟩ := strs_of hes
  clear hes
  refine by_body Try.func4 0 rfl (Nat.le_of_ble_eq_true rfl) ?_
  conv => whnf
  have hsl := strs_len ss
  refine branch_i (fun c => ?_) (fun c => ?_) <;> try rw [c] <;> conv => whnf
  focus
    have c' := of_decide_eq_true c
    refine ⟨⟨by decide, by omega⟩, ?_⟩
    conv => whnf
    rw [show List.take (Int.toNat 40) (strs ss) = strs (ss.take 40) by simp [strs]]
    have hl : (ss.take 40).length ≤ 40 := by rw [List.length_take]; omega
    revert hl
    generalize ss.take 40 = ls
    intro hl
  rotate_left
  focus
    have hl : ss.length ≤ 40 := by have := of_decide_eq_false c; omega
    revert hl
    clear hsl
    generalize ss = ls
    intro hl
  all_goals
    have hsl := strs_len ls
    refine .call [] 0 ⟨rfl, rfl, rfl⟩ (TNew_spec ?_)
    conv => whnf
    refine .call [] 0 ⟨rfl, rfl, rfl⟩ (TNew_spec ?_)
    conv => whnf
    refine ⟨⟨[0, 3, 4, 5], fun m vs H => ∃ (i : Nat) (t : Tr Int) (n : Int) (t2 : Tr Int) (n2 : Int), vs = [.sl 1 (strs ls) false, .ptr 0 0, .ptr 1 0, fI i] ∧ H = [treeO t n, treeO t2 n2] ∧ TOk t n i ∧ TOk t2 n2 i ∧ Has t (ls.take i) ∧ Has t2 (ls.drop (ls.length - i)) ∧ i ≤ ls.length ∧ m = 40 - i, ⟨_, 0, .nil, 0, .nil, 0, rfl, rfl, .nil, .nil, fun k => by simp [inL], fun k => by simp [inL], by omega, rfl⟩, ?_⟩⟩
    rintro m vs H ⟨i, t, n, t2, n2, rfl, rfl, hok, hok2, hh, hh2, hi, rfl⟩
    conv => whnf
    refine branch_i (fun c => ?_) (fun c => ?_) <;> try rw [c] <;> conv => whnf
    · have c' := of_decide_eq_true c
      have hlt : i < ls.length := by omega
      have hget : ls[i]? = some ls[i] := List.getElem?_eq_getElem hlt
      have hlt2 : ls.length - 1 - i < ls.length := by omega
      have hget2 : ls[ls.length - 1 - i]? = some ls[ls.length - 1 - i] := List.getElem?_eq_getElem hlt2
      have hidx : IntKind.i64.wrap (IntKind.i64.wrap (((strs ls).length : Int) - 1) - (i : Int)) = ((ls.length - 1 - i : Nat) : Int) := by
        rw [hsl, show IntKind.i64.wrap ((ls.length : Int) - 1) = (ls.length : Int) - 1 by rw [IntKind.wrap_i64]; omega, IntKind.wrap_i64]; omega
      refine ⟨[0, 1, 2, 3, 4, 6, 7, 8, 9, 5, 10, 11, 12], by kernel_rfl, by kernel_rfl, ?_⟩
      conv => whnf
      refine ⟨_, ⟨by omega, by simpa using strs_get hget⟩, ?_⟩
      conv => whnf
      repeat (refine ⟨rfl, ?_⟩)
      conv => whnf
      refine ⟨_, ⟨by omega, by simpa using strs_get hget⟩, ?_⟩
      conv => whnf
      refine .call [] 0 ⟨rfl, rfl, rfl⟩ (few_spec ?_)
      repeat (refine ⟨rfl, ?_⟩)
      conv => whnf
      refine .call [] 0 ⟨rfl, rfl, rfl⟩ (few_spec ?_)
      repeat (refine ⟨rfl, ?_⟩)
      conv => whnf
      have h6 := hok.ht
      have h7 := hok2.ht
      refine .call [0] 1 ⟨rfl, rfl, rfl⟩ (Put_spec (by omega) ?_)
      repeat (refine ⟨rfl, ?_⟩)
      conv => whnf
      repeat (refine ⟨rfl, ?_⟩)
      conv => whnf
      rw [hidx]
      refine ⟨_, ⟨by omega, by simpa using strs_get hget2⟩, ?_⟩
      conv => whnf
      refine .call [] 0 ⟨rfl, rfl, rfl⟩ (few_spec ?_)
      conv => whnf
      refine .call [1] 1 ⟨rfl, rfl, rfl⟩ (Put_spec (by omega) ?_)
      conv => whnf
      refine .go [0, 1] rfl (40 - (i + 1)) (by omega) ⟨i + 1, putT (ls[i].take 8) ((ls[i].take 8).length : Int) t, _, putT (ls[ls.length - 1 - i].take 8) ((ls[ls.length - 1 - i].take 8).length : Int) t2, _, ?_, rfl, hok.put (by omega) _ _, hok2.put (by omega) _ _, hh.put hok.srt _ ?_, hh2.put hok2.srt _ ?_, by omega, rfl⟩
      · show [V.sl 1 (strs ls) false, V.ptr 0 0, V.ptr 1 0, V.int .i64 (IntKind.i64.wrap ((i : Int) + 1))] = _
        rw [show IntKind.i64.wrap ((i : Int) + 1) = ((i + 1 : Nat) : Int) by rw [IntKind.wrap_i64]; omega]
      · intro u
        rw [List.take_add_one, hget, List.mem_append, Option.toList_some, List.mem_singleton]
        exact Or.comm
      · intro u
        rw [show ls.length - i = (ls.length - 1 - i) + 1 by omega, show ls.length - (i + 1) = ls.length - 1 - i by omega, List.drop_eq_getElem_cons hlt2, List.mem_cons]
    · have c' := of_decide_eq_false c
      have hil : i = ls.length := by omega
      subst hil
      rw [List.take_length] at hh
      rw [Nat.sub_self, List.drop_zero] at hh2
      have hkl := keysL_len t
      have hle := hok.le
      have hkk : keysL t2 = keysL t := by
        unfold keysL
        rw [sorted_same hok2.srt hok.srt fun x => (hh2 x).trans (hh x).symm]
      have hkl2 := keysL_len t2
      have hK := keysT_nil hok.srt (most := 50) (by omega)
      have hK2 := keysT_nil hok2.srt (most := 50) (by rw [hkk]; omega)
      have hn : n = n2 := by rw [hok.len, hok2.len]; rw [hkk] at hkl2; omega
      subst hn
      refine .call [0] 1 ⟨rfl, rfl, rfl⟩ (Keys_spec (by decide) ?_)
      rw [hK]
      conv => whnf
      refine ⟨⟨[3, 4, 7, 8], fun m vs H => ∃ (i : Nat), vs = [.ptr 0 0, .ptr 1 0, .sl 1 (strs (keysL t)) false, fI i] ∧ H = [treeO t n, treeO t2 n] ∧ i ≤ (keysL t).length ∧ m = 40 - i, ⟨_, 0, rfl, rfl, by omega, rfl⟩, ?_⟩⟩
      rintro m vs H ⟨i, rfl, rfl, hi, rfl⟩
      have hsk := strs_len (keysL t)
      conv => whnf
      refine branch_i (fun c => ?_) (fun c => ?_) <;> try rw [c] <;> conv => whnf
      · have c' := of_decide_eq_true c
        have hlt : i < (keysL t).length := by omega
        have hget : (keysL t)[i]? = some (keysL t)[i] := List.getElem?_eq_getElem hlt
        have hmem : (keysL t)[i] ∈ keysL t := List.getElem_mem hlt
        obtain ⟨ga, gb, hg⟩ := hh.get hok.srt hmem
        obtain ⟨ga2, gb2, hg2⟩ := hh2.get hok2.srt (show (keysL t)[i] ∈ keysL t2 by rw [hkk]; exact hmem)
        refine ⟨_, ⟨by omega, by simpa using strs_get hget⟩, ?_⟩
        conv => whnf
        refine .call [0] 1 ⟨rfl, rfl, rfl⟩ (Get_some hg ?_)
        conv => whnf
        refine ⟨_, ⟨by omega, by simpa using strs_get hget⟩, ?_⟩
        conv => whnf
        refine .call [1] 1 ⟨rfl, rfl, rfl⟩ (Get_some hg2 ?_)
        conv => whnf
        refine ⟨List.range 27, by kernel_rfl, by kernel_rfl, ?_⟩
        conv => whnf
        rw [show decide (((keysL t)[i].length : Int) = ((keysL t)[i].length : Int)) = true by simp]
        conv => whnf
        cases i with
        | zero =>
          iterate 3 (repeat (refine ⟨rfl, ?_⟩)); conv => whnf
          refine .go [0, 1] rfl (40 - 1) (by omega) ⟨1, ?_, rfl, by omega, rfl⟩
          show [V.ptr 0 0, V.ptr 1 0, V.sl 1 (strs (keysL t)) false, V.int .i64 (IntKind.i64.wrap ((0 : Nat) + 1 : Int))] = _
          rfl
        | succ j =>
          rw [show decide (0 < ((j + 1 : Nat) : Int)) = true by simp]
          conv => whnf
          have hwj : IntKind.i64.wrap (((j + 1 : Nat) : Int) - 1) = (j : Int) := by rw [IntKind.wrap_i64]; omega
          rw [hwj]
          have hgetj : (keysL t)[j]? = some (keysL t)[j] := List.getElem?_eq_getElem (by omega)
          refine ⟨_, ⟨by omega, by simpa using strs_get hgetj⟩, ?_⟩
          conv => whnf
          refine ⟨_, ⟨by omega, by simpa using strs_get hget⟩, ?_⟩
          conv => whnf
          have hord : Op.bytesLess (keysL t)[j] (keysL t)[j + 1] = true := List.pairwise_iff_getElem.1 (keys_sorted hok.srt) j (j + 1) (by omega) hlt (by omega)
          rw [hord]
          conv => whnf
          iterate 3 (repeat (refine ⟨rfl, ?_⟩)); conv => whnf
          refine .go [0, 1] rfl (40 - (j + 1 + 1)) (by omega) ⟨j + 1 + 1, ?_, rfl, by omega, rfl⟩
          show [V.ptr 0 0, V.ptr 1 0, V.sl 1 (strs (keysL t)) false, V.int .i64 (IntKind.i64.wrap (((j + 1 : Nat) : Int) + 1))] = _
          rw [show IntKind.i64.wrap (((j + 1 : Nat) : Int) + 1) = ((j + 1 + 1 : Nat) : Int) by rw [IntKind.wrap_i64]; omega]
      · have c' := of_decide_eq_false c
        refine .call [1] 1 ⟨rfl, rfl, rfl⟩ (Keys_spec (by decide) ?_)
        rw [hK2]
        conv => whnf
        refine .call [] 0 ⟨rfl, rfl, rfl⟩ (Same_spec (la := keysL t) (lb := keysL t2) (.sl _ _) (.sl _ _) (by omega) ?_)
        rw [hkk, show decide (keysL t = keysL t) = true by simp]
        conv => whnf
        refine .call [0] 1 ⟨rfl, rfl, rfl⟩ (Len_spec ?_)
        conv => whnf
        refine .call [1] 1 ⟨rfl, rfl, rfl⟩ (Len_spec ?_)
        conv => whnf
        rw [show decide (n = n) = true by simp]
        conv => whnf
        refine .call [0] 1 ⟨rfl, rfl, rfl⟩ (Len_spec ?_)
        conv => whnf
        rw [show decide (n = ((strs (keysL t)).length : Int)) = true by rw [hok.len, hsk, hkl]; simp]
        conv => whnf
        refine .call [] 0 ⟨rfl, rfl, rfl⟩ (lives_spec ?_)
        conv => whnf
        exact ⟨[], rfl, rfl⟩

end Go.Proofs.YtfhoblpcneachaaPg
