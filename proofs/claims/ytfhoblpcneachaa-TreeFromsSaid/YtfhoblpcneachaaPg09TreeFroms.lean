/- Chapter 09: TreeFroms. -/
import Derived.Test.YtfhoblpcneachaaPg09TreeClones
import Derived.Test.YtfhoblpcneachaaPgE7
namespace Go.Proofs.YtfhoblpcneachaaPg
open Go Go.RowKit
set_option linter.unusedVariables false

variable {Q : V → List O → Prop}

def G0 (most : Int) (t : Tr Int) (n : Int) : List O := [.cells [fI most], .cells [.bool false], treeO t n, .cells [.nils, .nils], .cells [.ptr 3 0]]
def G1 (most : Int) (t : Tr Int) (n : Int) : List O := [.cells [fI most], .cells [.bool false], treeO t n, refC (inL t) 5, .cells [.ptr 3 0], .buf (ints (vL (inL t)))]
def GS (most : Int) (H : List O) (t : Tr Int) (n : Int) : Prop := (H = G0 most t n ∧ t = .nil) ∨ H = G1 most t n

theorem from_split {t : Tr Int} (hs : SortedL (inL t)) {key : List UInt8} {A B : List KV} (he : inL t = A ++ B) (hA : ∀ x ∈ A, Op.bytesLess x.1 key = true) (hB : ∀ x r, B = x :: r → Op.bytesLess x.1 key = false) : fromL key t = B := by
  rw [from_filter key t hs, he, List.filter_append]
  have e1 : A.filter (fun x => leS key x.1) = [] := by
    rw [List.filter_eq_nil_iff]
    intro x hx h
    have h1 := hA x hx
    simp only [leS, Bool.or_eq_true, decide_eq_true_eq] at h
    rcases h with h | h
    · rw [less_asymm h1] at h; cases h
    · exact less_ne h1 h.symm
  rw [e1, List.nil_append, List.filter_eq_self]
  intro x hx
  cases B with
  | nil => simp at hx
  | cons y r =>
    have hy := hB y r rfl
    have hky : leS key y.1 = true := by
      simp only [leS, Bool.or_eq_true, decide_eq_true_eq]
      cases h : Op.bytesLess key y.1 with
      | true => exact .inl rfl
      | false => exact .inr (less_total h hy)
    rcases List.mem_cons.1 hx with rfl | hx
    · exact hky
    · rw [he] at hs
      have hyx : Op.bytesLess y.1 x.1 = true := by
        unfold SortedL at hs
        rw [List.pairwise_append, List.pairwise_cons] at hs
        exact hs.2.1.1 x hx
      simp only [leS, Bool.or_eq_true, decide_eq_true_eq] at hky ⊢
      rcases hky with h | h
      · exact .inl (less_trans h hyx)
      · exact .inl (h ▸ hyx)

def K0 (most a : Int) (t : Tr Int) (n : Int) : List O := [.cells [fI most], .cells [.bool false], treeO t n, .cells [.nils, .nils], .cells [.ptr 3 0], .cells [fI a]]
def K1 (most a : Int) (t : Tr Int) (n : Int) : List O := [.cells [fI most], .cells [.bool false], treeO t n, refC (inL t) 6, .cells [.ptr 3 0], .cells [fI a], .buf (ints (vL (inL t)))]

abbrev envF : Env := [(5, .ptr 1 0), (6, .ptr 2 0), (8, .ptr 4 0), (10, .ptr 5 0), (12, .ptr 6 0)]
def L0 (c : LoopC) (most : Int) : List O := [.loop c .ready envF, .cells [fI most], .cells [.bool false], .cells [.nils, .nils], .cells [.ptr 3 0], .cells [fI 0], .cells [fI 0]]
def LH (c : LoopC) (st : LSt) (most : Int) (t : Tr Int) (A : List KV) (n : Int) : List O := [.loop c st envF, .cells [fI most], .cells [.bool false], refC (inL t) 7, .cells [.ptr 3 0], .cells [fI A.length], .cells [fI n], .buf (ints (vL (inL t)))]
def LJ (c : LoopC) (most : Int) (t : Tr Int) (A : List KV) (pre : List (List V)) (Hs : List O) : Prop := Hs = LH c .ready most t A pre.length
def LS (c : LoopC) (most : Int) (t : Tr Int) (A : List KV) (Hs : List O) : Prop := Hs = LH c (.exit 4) most t A most
def LE (c : LoopC) (most : Int) (t : Tr Int) (A B : List KV) (Hs : List O) : Prop := Hs = LH c .ready most t A B.length ∨ LS c most t A Hs

set_option maxHeartbeats 4000000 in
theorem TreeFroms_spec {es : List (List V)} {key : List UInt8} {most : Int} (hes : Deeds es) :
    ACall Try.prog 5 0 [.sl 3 es false, .str key, fI most] [] (fun v _ => v = .bool true) := by
  refine by_body Try.func5 0 rfl (Nat.le_of_ble_eq_true rfl) ?_
  conv => whnf
  refine .call [] 0 ⟨rfl, rfl, rfl⟩ (TNew_spec ?_)
  conv => whnf
  refine ⟨⟨[0, 1, 5, 6, 7, 8, 9], fun m vs H => ∃ (i : Nat) (t : Tr Int) (n : Int), vs = [.sl 3 es false, .str key, .ptr 0 0, .ptr 1 0, .ptr 2 0, .ptr 4 0, fI i] ∧ GS most H t n ∧ TB t n i ∧ i ≤ 40 ∧ m = 40 - i, .at _ ⟨0, .nil, 0, rfl, .inl ⟨rfl, rfl⟩, TB.nil, by omega, rfl⟩, ?_⟩⟩
  rintro m vs H ⟨i, t, n, rfl, hD, hT, hi, rfl⟩
  have hwi : i < 40 → IntKind.i64.wrap ((i : Int) + 1) = ((i + 1 : Nat) : Int) := fun _ => by rw [IntKind.wrap_i64]; omega
  have hle := hT.ok.le
  rcases hD with ⟨rfl, rfl⟩ | rfl
  all_goals
    conv => whnf
    refine branch_i (fun c => ?_) (fun c => ?_) <;> try rw [c] <;> conv => whnf
    focus refine branch_i (fun c2 => ?_) (fun c2 => ?_) <;> try rw [c2] <;> conv => whnf
    focus
      have c' := of_decide_eq_true c
      have c2' := of_decide_eq_true c2
      have hlt : i < es.length := by omega
      obtain ⟨kd, nm, s, hget⟩ := hes.get hlt
      refine ⟨List.range 7, by kernel_rfl, by kernel_rfl, ?_⟩
      conv => whnf
      refine ⟨_, ⟨by omega, hget⟩, ?_⟩
      conv => whnf
      repeat (refine ⟨rfl, ?_⟩)
      conv => whnf
      first
        | refine .call [2, 3] 2 ⟨rfl, rfl, rfl⟩ (does_spec (t := .nil) (.inl ⟨rfl, rfl⟩) hT (by omega) (fun t2 n2 H2 hD2 _ hT2 => ?_))
        | refine .call [2, 3, 5] 3 ⟨rfl, rfl, rfl⟩ (ACall.stay 1 rfl (does_spec (t := t) (.inr rfl) hT (by omega) (fun t2 n2 H2 hD2 _ hT2 => ?_)))
      rcases hD2 with ⟨rfl, rfl⟩ | rfl
    focus
      repeat (refine ⟨rfl, ?_⟩)
      conv => whnf
      refine .go [0, 1, 2, 3, 4] rfl (40 - (i + 1)) (by omega) ⟨i + 1, _, _, ?_, .inl ⟨rfl, rfl⟩, hT2, by omega, rfl⟩
      show [V.sl 3 es false, V.str key, V.ptr 0 0, V.ptr 1 0, V.ptr 2 0, V.ptr 4 0, V.int .i64 (IntKind.i64.wrap ((i : Int) + 1))] = _
      rw [hwi (by omega)]
    focus
      repeat (refine ⟨rfl, ?_⟩)
      conv => whnf
      first
        | refine .go [0, 1, 2, 3, 4, 6] rfl (40 - (i + 1)) (by omega) ⟨i + 1, _, _, ?_, .inr rfl, hT2, by omega, rfl⟩
        | refine .go [0, 1, 2, 3, 4, 5] rfl (40 - (i + 1)) (by omega) ⟨i + 1, _, _, ?_, .inr rfl, hT2, by omega, rfl⟩
      show [V.sl 3 es false, V.str key, V.ptr 0 0, V.ptr 1 0, V.ptr 2 0, V.ptr 4 0, V.int .i64 (IntKind.i64.wrap ((i : Int) + 1))] = _
      rw [hwi (by omega)]
    all_goals
      refine .call [] 0 ⟨rfl, rfl, rfl⟩ (few_spec ?_)
      conv => whnf
      clear c
      try clear c2
      generalize key.take 8 = key
      have hs := hT.ok.srt
  iterate 2
    focus
      refine ⟨⟨[1, 5, 6, 7, 8, 10], fun m vs H => vs = [.str key, .ptr 0 0, .ptr 1 0, .ptr 2 0, .ptr 4 0, .ptr 5 0] ∧ H = K0 most 0 .nil n ∧ m = 0, .at _ ⟨rfl, rfl, rfl⟩, ?_⟩⟩
      rintro m vs H ⟨rfl, rfl, rfl⟩
      conv => whnf
      refine ⟨List.range 18, by kernel_rfl, by kernel_rfl, ?_⟩
      conv => whnf
      iterate 3 (repeat (refine ⟨rfl, ?_⟩)); conv => whnf
      refine .call [2] 1 ⟨rfl, rfl, rfl⟩ (From_spec ?_)
      conv => whnf
      refine ⟨[5, 6, 8, 10, 12], fun c hc => .pack [9, 0, 1, 3, 4, 5, 8] [2, 6, 7] 7 (fun Hs => Hs = L0 c most) (fun Hs => Hs = L0 c most) rfl rfl fun ks W hks => ?_⟩
      refine From1_spec (J := fun _ Hs => Hs = L0 c most) (S := fun _ => False) (J' := fun Hs => Hs = L0 c most) (yieldS_intro ?_ ?_) ?_ ?_ ?_
      · intro x hx
        simp [encKV, fromL] at hx
      · intro pre x post Hs hp _
        simp [encKV, fromL] at hp
      · intro Hs h; exact h
      · intro Hs h; exact h.elim
      · intro B'
        refine ⟨B', _, rfl, rfl, ?_⟩
        rintro Hs rfl _
        conv => whnf
        refine ⟨List.range 18, by kernel_rfl, by kernel_rfl, ?_⟩
        conv => whnf
        iterate 3 (repeat (refine ⟨rfl, ?_⟩)); conv => whnf
        refine .call [] 0 ⟨rfl, rfl, rfl⟩ (lives_spec ?_)
        iterate 3 (repeat (refine ⟨rfl, ?_⟩)); conv => whnf
        exact ⟨[], rfl, rfl⟩
  all_goals
    obtain ⟨A, B, he, hA, hB⟩ := split_at key (inL t)
    have hlk : (strs (kL (inL t))).length = (inL t).length := by simp [strs]
    have hAB : (inL t).length = A.length + B.length := by rw [he]; simp
    have hgetk : ∀ j (x : KV), (A ++ B)[j]? = some x → (strs (kL (inL t)))[j]? = some [V.str x.1] := fun j x hx => by
      rw [he]
      exact strs_get (show (List.map (fun y : KV => y.1) (A ++ B))[j]? = some x.1 by rw [List.getElem?_map, hx]; rfl)
    have hgetv : ∀ j (x : KV), (A ++ B)[j]? = some x → (ints (vL (inL t)))[j]? = some [V.int .i64 x.2] := fun j x hx => by
      rw [he]
      exact ints_get (show (List.map (fun y : KV => y.2) (A ++ B))[j]? = some x.2 by rw [List.getElem?_map, hx]; rfl)
    refine ⟨⟨[1, 5, 6, 7, 8, 10], fun m vs H => ∃ a : Nat, vs = [.str key, .ptr 0 0, .ptr 1 0, .ptr 2 0, .ptr 4 0, .ptr 5 0] ∧ H = K1 most a t n ∧ a ≤ A.length ∧ m = A.length - a, .frz (A.length + 1) (.go [0, 1, 2, 3, 4, 6, 5] rfl A.length (by omega) ⟨0, rfl, rfl, Nat.zero_le _, rfl⟩), ?_⟩⟩
    rintro m vs H ⟨a, rfl, rfl, ha, rfl⟩
    conv => whnf
    refine ⟨List.range 18, by kernel_rfl, by kernel_rfl, ?_⟩
    conv => whnf
    by_cases hia : a < A.length
    focus
      have hx : (A ++ B)[a]? = some A[a] := by rw [List.getElem?_append_left hia]; exact List.getElem?_eq_getElem hia
      rw [show decide ((a : Int) < ((strs (kL (inL t))).length : Int)) = true by rw [hlk, hAB]; simp; omega]
      conv => whnf
      refine ⟨_, ⟨by omega, hgetk a _ hx⟩, ?_⟩
      conv => whnf
      rw [hA A[a] (List.getElem_mem hia)]
      conv => whnf
      iterate 3 (repeat (refine ⟨rfl, ?_⟩)); conv => whnf
      refine .go [0, 1, 2, 3, 4, 5, 6] rfl (A.length - (a + 1)) (by omega) ⟨a + 1, rfl, ?_, by omega, rfl⟩
      rw [← show IntKind.i64.wrap ((a : Int) + 1) = ((a + 1 : Nat) : Int) by rw [IntKind.wrap_i64]; omega]
      rfl
    have ha' : a = A.length := by omega
    subst ha'
    have hfl := from_split hs he hA hB
    cases B
    focus
      rw [show decide ((A.length : Int) < ((strs (kL (inL t))).length : Int)) = false by rw [hlk, hAB]; simp]
      conv => whnf
      iterate 3 (repeat (refine ⟨rfl, ?_⟩)); conv => whnf
    rotate_left
    focus
      rename_i y r
      rw [show decide ((A.length : Int) < ((strs (kL (inL t))).length : Int)) = true by rw [hlk, hAB]; simp; omega]
      conv => whnf
      refine ⟨_, ⟨by omega, hgetk A.length y (by simp)⟩, ?_⟩
      conv => whnf
      rw [hB y r rfl]
      conv => whnf
      iterate 3 (repeat (refine ⟨rfl, ?_⟩)); conv => whnf
      revert he hB hAB hgetk hgetv hfl
      generalize y :: r = B
      intro he hB hAB hgetk hgetv hfl
    rotate_left
    focus
      revert he hB hAB hgetk hgetv hfl
      generalize ([] : List KV) = B
      intro he hB hAB hgetk hgetv hfl
    all_goals
      refine .call [2] 1 ⟨rfl, rfl, rfl⟩ (From_spec ?_)
      conv => whnf
      refine ⟨[5, 6, 8, 10, 12], fun c hc => .pack [10, 0, 1, 3, 4, 5, 9, 6] [2, 7, 8] 8 (LJ c most t A []) (LE c most t A B) rfl rfl fun ks W hks => ?_⟩
      subst hfl
      refine From1_spec (J := LJ c most t A) (S := LS c most t A) (J' := LE c most t A (fromL key t)) (yieldS_intro ?_ ?_) ?_ ?_ ?_
      · intro x hx
        simp only [encKV, List.mem_map] at hx
        obtain ⟨kv, _, rfl⟩ := hx
        rfl
      · rintro pre x post Hs hp rfl
        obtain ⟨kv, hkv, rfl⟩ : ∃ kv, (fromL key t)[pre.length]? = some kv ∧ x = [.str kv.1, fI kv.2] := by
          have hx : (encKV fI (fromL key t))[pre.length]? = some x := by rw [← hp]; simp
          unfold encKV at hx
          rw [List.getElem?_map] at hx
          cases h1 : (fromL key t)[pre.length]? with
          | none => rw [h1] at hx; cases hx
          | some kv => rw [h1] at hx; cases hx; exact ⟨kv, rfl, rfl⟩
        have hpl := (List.getElem?_eq_some_iff.1 hkv).1
        have hidx : (A ++ fromL key t)[A.length + pre.length]? = some kv := by
          rw [List.getElem?_append_right (by omega), show A.length + pre.length - A.length = pre.length by omega]; exact hkv
        rw [hks]
        subst hc
        refine ayield_intro (cx_ok 0 0) ?_
        conv => whnf
        refine ⟨List.range 35, by kernel_rfl, by kernel_rfl, ?_⟩
        conv => whnf
        have hw : IntKind.i64.wrap ((A.length : Int) + (pre.length : Int)) = ((A.length + pre.length : Nat) : Int) := by rw [IntKind.wrap_i64]; omega
        rw [hw, show decide (((strs (kL (inL t))).length : Int) ≤ ((A.length + pre.length : Nat) : Int)) = false by rw [hlk, hAB]; simp; omega]
        conv => whnf
        refine ⟨_, ⟨by omega, by rw [hw]; exact hgetk _ kv hidx⟩, ?_⟩
        conv => whnf
        rw [show decide (kv.1 = kv.1) = true by simp]
        conv => whnf
        have hil : (ints (vL (inL t))).length = A.length + (fromL key t).length := by rw [ints_len, List.length_map, hAB]
        refine ⟨by rw [hw]; omega, ?_⟩
        conv => whnf
        refine ⟨[.int .i64 kv.2], by rw [hw]; exact hgetv _ kv hidx, ?_⟩
        conv => whnf
        rw [show decide (kv.2 = kv.2) = true by simp]
        conv => whnf
        iterate 3 (repeat (refine ⟨rfl, ?_⟩)); conv => whnf
        have hq : IntKind.i64.wrap ((pre.length : Int) + 1) = ((pre ++ [[V.str kv.1, fI kv.2]]).length : Int) := by rw [IntKind.wrap_i64]; simp; omega
        generalize IntKind.i64.wrap ((pre.length : Int) + 1) = q at *
        by_cases hqm : q = most
        · rw [show decide (q = most) = true by simp [hqm]]
          conv => whnf
          exact .done [0, 1, 2, 3, 4, 5, 6, 7] rfl (.inr ⟨rfl, by subst hqm; rfl⟩)
        · rw [show decide (q = most) = false by simp [hqm]]
          conv => whnf
          exact .done [0, 1, 2, 3, 4, 5, 6, 7] rfl (.inl ⟨rfl, by unfold LJ; rw [← hq]; rfl⟩)
      · rintro Hs rfl
        exact .inl (by unfold encKV; rw [List.length_map])
      · intro Hs h
        exact .inr h
      · intro B'
        refine ⟨B', _, rfl, rfl, ?_⟩
        rintro Hs h _
        have hABl : (A.length : Int) + ((fromL key t).length : Int) = ((strs (kL (inL t))).length : Int) := by rw [hlk, hAB]; simp
        have hwl : IntKind.i64.wrap ((A.length : Int) + ((fromL key t).length : Int)) = ((strs (kL (inL t))).length : Int) := by rw [hABl, IntKind.wrap_i64]; omega
        rcases h with rfl | rfl
        · conv => whnf
          refine ⟨List.range 18, by kernel_rfl, by kernel_rfl, ?_⟩
          conv => whnf
          rw [hwl, show decide (((strs (kL (inL t))).length : Int) = ((strs (kL (inL t))).length : Int)) = true by simp]
          conv => whnf
          iterate 3 (repeat (refine ⟨rfl, ?_⟩)); conv => whnf
          refine .call [] 0 ⟨rfl, rfl, rfl⟩ (lives_spec ?_)
          iterate 3 (repeat (refine ⟨rfl, ?_⟩)); conv => whnf
          exact ⟨[], rfl, rfl⟩
        · conv => whnf
          refine ⟨List.range 18, by kernel_rfl, by kernel_rfl, ?_⟩
          conv => whnf
          by_cases hb : IntKind.i64.wrap ((A.length : Int) + most) = ((strs (kL (inL t))).length : Int)
          focus rw [show decide (IntKind.i64.wrap ((A.length : Int) + most) = ((strs (kL (inL t))).length : Int)) = true by simp [hb]]
          rotate_left
          focus
            rw [show decide (IntKind.i64.wrap ((A.length : Int) + most) = ((strs (kL (inL t))).length : Int)) = false by simp [hb]]
            conv => whnf
            rw [show decide (most = most) = true by simp]
          all_goals
            conv => whnf
            iterate 3 (repeat (refine ⟨rfl, ?_⟩)); conv => whnf
            refine .call [] 0 ⟨rfl, rfl, rfl⟩ (lives_spec ?_)
            iterate 3 (repeat (refine ⟨rfl, ?_⟩)); conv => whnf
            exact ⟨[], rfl, rfl⟩

end Go.Proofs.YtfhoblpcneachaaPg
