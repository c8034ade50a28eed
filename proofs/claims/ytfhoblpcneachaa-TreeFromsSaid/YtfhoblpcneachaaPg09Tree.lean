/- The tree's functions. -/
import Derived.Test.YtfhoblpcneachaaPg09T
import Derived.Test.YtfhoblpcneachaaPgTr1
namespace Go.Proofs.YtfhoblpcneachaaPg
open Go Go.RowKit
set_option linter.unusedVariables false

/-- A function of this program, by its body. -/
theorem by_body {f : FuncId} {fn : Func} (hf : Try.prog.funcs[f]? = some fn) (k : Nat) {args : List V} {H : List O} {Q : V → List O → Prop} (hb : fn.body = some (fn.body.getD .skip)) (hl : args.length ≤ fn.ntmps)
    (h : abody (cx fn.ntmps k) fn (fn.body.getD .skip) args H Q) : ACall Try.prog f k args H Q :=
  acall_intro (cx_ok fn.ntmps k) hf hb rfl rfl hl h

abbrev fI (n : Int) : V := .int .i64 n
variable {Q : V → List O → Prop}

theorem high_spec {x : Tr Int} (h : Q (.int .i64 ((x.ht : Nat) : Int)) []) : ACall Try.prog 32 0 [.im (encT fI x)] [] Q := by
  refine by_body Try.func32 0 rfl (Nat.le_of_ble_eq_true rfl) ?_
  cases x with
  | nil =>
    conv => whnf
    exact ⟨[], rfl, h⟩
  | node k v a b =>
    conv => whnf
    exact ⟨[], rfl, h⟩

theorem made_spec {k : List UInt8} {v : Int} {xa xb a b : Tr Int} (ha : a.ht < 4611686018427387904) (hb : b.ht < 4611686018427387904) (h : Q (.im (encT fI (.node k v a b))) []) :
    ACall Try.prog 36 0 [.im (encT fI (.node k v xa xb)), .im (encT fI a), .im (encT fI b)] [] Q := by
  refine ACall.sel (ACall.im (ACall.frz 0 (by_body Try.func36 0 rfl (Nat.le_of_ble_eq_true rfl) ?_)))
  conv => whnf
  refine ⟨[0, 1, 2, 3, 4, 5, 6, 7, 8, 10, 14, 15, 9, 11, 12, 13, 16, 17, 18], by kernel_rfl, by kernel_rfl, ?_⟩
  conv => whnf
  refine .call [] 0 ⟨rfl, rfl, rfl⟩ (high_spec ?_)
  repeat (refine ⟨rfl, ?_⟩)
  conv => whnf
  refine .call [] 0 ⟨rfl, rfl, rfl⟩ (high_spec ?_)
  repeat (refine ⟨rfl, ?_⟩)
  conv => whnf
  refine ⟨[0], rfl, rfl, rfl, [], rfl, ?_⟩
  have hw : IntKind.i64.wrap (1 + (if ((b.ht : Nat) : Int) > ((a.ht : Nat) : Int) then ((b.ht : Nat) : Int) else ((a.ht : Nat) : Int))) = ((Tr.ht (.node k v a b) : Nat) : Int) := by
    rw [IntKind.wrap_i64]
    simp only [Tr.ht]
    split <;> omega
  show Q (.im (.ip [.str k, fI v, .int .i64 (IntKind.i64.wrap (1 + (if ((b.ht : Nat) : Int) > ((a.ht : Nat) : Int) then ((b.ht : Nat) : Int) else ((a.ht : Nat) : Int)))), .im (encT fI a), .im (encT fI b)] 0)) []
  rw [hw]
  exact h

theorem even_spec {k : List UInt8} {v : Int} {xa xb a b : Tr Int} (ha : a.ht < 2305843009213693952) (hb : b.ht < 2305843009213693952) (h : Q (.im (encT fI (evenT k v a b))) []) :
    ACall Try.prog 33 0 [.im (encT fI (.node k v xa xb)), .im (encT fI a), .im (encT fI b)] [] Q := by
  refine by_body Try.func33 0 rfl (Nat.le_of_ble_eq_true rfl) ?_
  conv => whnf
  refine .call [] 0 ⟨rfl, rfl, rfl⟩ (high_spec ?_)
  conv => whnf
  refine .call [] 0 ⟨rfl, rfl, rfl⟩ (high_spec ?_)
  conv => whnf
  have hw : IntKind.i64.wrap (((a.ht : Nat) : Int) - ((b.ht : Nat) : Int)) = ((a.ht : Nat) : Int) - ((b.ht : Nat) : Int) := by rw [IntKind.wrap_i64]; omega
  refine ⟨[0, 1, 2, 3, 4, 5, 6, 8, 9, 10, 11, 7, 12, 13, 14, 15], by kernel_rfl, by kernel_rfl, ?_⟩
  conv => whnf
  refine branch_i (fun c => ?_) (fun c => ?_) <;> try rw [c] <;> conv => whnf
  · have c' := of_decide_eq_true c
    rw [hw] at c'
    cases a with
    | nil => exfalso; simp only [Tr.ht] at c'; omega
    | node ak av aa ab =>
    have hm : (Tr.node ak av aa ab).ht = 1 + max aa.ht ab.ht := rfl
    unfold evenT at h
    rw [if_pos (by omega)] at h
    dsimp only at h
    conv => whnf
    refine .call [] 0 ⟨rfl, rfl, rfl⟩ (high_spec ?_)
    repeat (refine ⟨rfl, ?_⟩)
    conv => whnf
    refine .call [] 0 ⟨rfl, rfl, rfl⟩ (high_spec ?_)
    repeat (refine ⟨rfl, ?_⟩)
    conv => whnf
    refine branch_i (fun c2 => ?_) (fun c2 => ?_) <;> try rw [c2] <;> conv => whnf
    · have c2' := of_decide_eq_true c2
      rw [if_pos (by omega)] at h
      refine ⟨[0, 1, 2, 3, 4, 5, 6, 7, 8, 9, 10, 11, 12, 13], by kernel_rfl, by kernel_rfl, ?_⟩
      conv => whnf
      refine .call [] 0 ⟨rfl, rfl, rfl⟩ (made_spec (by omega) (by omega) ?_)
      repeat (refine ⟨rfl, ?_⟩)
      conv => whnf
      refine .call [] 0 ⟨rfl, rfl, rfl⟩ (made_spec (by omega) (by simp only [Tr.ht]; omega) ?_)
      repeat (refine ⟨rfl, ?_⟩)
      conv => whnf
      exact ⟨[], rfl, h⟩
    · have c2' := of_decide_eq_false c2
      rw [if_neg (by omega)] at h
      rw [c]
      conv => whnf
      cases ab with
      | nil => exfalso; simp only [Tr.ht] at c2'; omega
      | node mk mv ma mb =>
      have hm2 : (Tr.node mk mv ma mb).ht = 1 + max ma.ht mb.ht := rfl
      refine ⟨[0, 1, 2, 3, 4, 5, 6, 7, 8, 9, 11, 12, 13, 14, 15, 16, 10, 17, 18, 19], by kernel_rfl, by kernel_rfl, ?_⟩
      conv => whnf
      refine .call [] 0 ⟨rfl, rfl, rfl⟩ (made_spec (by omega) (by omega) ?_)
      repeat (refine ⟨rfl, ?_⟩)
      conv => whnf
      refine .call [] 0 ⟨rfl, rfl, rfl⟩ (made_spec (by omega) (by omega) ?_)
      repeat (refine ⟨rfl, ?_⟩)
      conv => whnf
      refine .call [] 0 ⟨rfl, rfl, rfl⟩ (made_spec (by simp only [Tr.ht]; omega) (by simp only [Tr.ht]; omega) ?_)
      repeat (refine ⟨rfl, ?_⟩)
      conv => whnf
      exact ⟨[], rfl, h⟩
  · have c' := of_decide_eq_false c
    rw [hw] at c'
    rw [c]
    conv => whnf
    refine ⟨[0, 1, 2, 3, 4, 5, 6, 8, 9, 10, 11, 7, 12, 13, 14, 15], by kernel_rfl, by kernel_rfl, ?_⟩
    conv => whnf
    unfold evenT at h
    rw [if_neg (by omega)] at h
    refine branch_i (fun c3 => ?_) (fun c3 => ?_) <;> try rw [c3] <;> conv => whnf
    · have c3' := of_decide_eq_true c3
      rw [hw] at c3'
      cases b with
      | nil => exfalso; simp only [Tr.ht] at c3'; omega
      | node bk bv ba bb =>
      have hm : (Tr.node bk bv ba bb).ht = 1 + max ba.ht bb.ht := rfl
      rw [if_pos (by omega)] at h
      dsimp only at h
      conv => whnf
      refine .call [] 0 ⟨rfl, rfl, rfl⟩ (high_spec ?_)
      repeat (refine ⟨rfl, ?_⟩)
      conv => whnf
      refine .call [] 0 ⟨rfl, rfl, rfl⟩ (high_spec ?_)
      repeat (refine ⟨rfl, ?_⟩)
      conv => whnf
      refine branch_i (fun c2 => ?_) (fun c2 => ?_) <;> try rw [c2] <;> conv => whnf
      · have c2' := of_decide_eq_true c2
        rw [if_pos (by omega)] at h
        refine ⟨[0, 1, 2, 3, 4, 5, 6, 8, 9, 10, 11, 7, 12, 13], by kernel_rfl, by kernel_rfl, ?_⟩
        conv => whnf
        refine .call [] 0 ⟨rfl, rfl, rfl⟩ (made_spec (by omega) (by omega) ?_)
        repeat (refine ⟨rfl, ?_⟩)
        conv => whnf
        refine .call [] 0 ⟨rfl, rfl, rfl⟩ (made_spec (by simp only [Tr.ht]; omega) (by omega) ?_)
        repeat (refine ⟨rfl, ?_⟩)
        conv => whnf
        exact ⟨[], rfl, h⟩
      · have c2' := of_decide_eq_false c2
        rw [if_neg (by omega)] at h
        rw [c3]
        conv => whnf
        cases ba with
        | nil => exfalso; simp only [Tr.ht] at c2'; omega
        | node mk mv ma mb =>
        have hm2 : (Tr.node mk mv ma mb).ht = 1 + max ma.ht mb.ht := rfl
        refine ⟨[0, 1, 2, 3, 4, 5, 6, 8, 9, 10, 11, 12, 13, 14, 15, 16, 7, 17, 18, 19], by kernel_rfl, by kernel_rfl, ?_⟩
        conv => whnf
        refine .call [] 0 ⟨rfl, rfl, rfl⟩ (made_spec (by omega) (by omega) ?_)
        repeat (refine ⟨rfl, ?_⟩)
        conv => whnf
        refine .call [] 0 ⟨rfl, rfl, rfl⟩ (made_spec (by omega) (by omega) ?_)
        repeat (refine ⟨rfl, ?_⟩)
        conv => whnf
        refine .call [] 0 ⟨rfl, rfl, rfl⟩ (made_spec (by simp only [Tr.ht]; omega) (by simp only [Tr.ht]; omega) ?_)
        repeat (refine ⟨rfl, ?_⟩)
        conv => whnf
        exact ⟨[], rfl, h⟩
    · have c3' := of_decide_eq_false c3
      rw [hw] at c3'
      rw [if_neg (by omega)] at h
      rw [c3]
      conv => whnf
      refine .call [] 0 ⟨rfl, rfl, rfl⟩ (made_spec (by omega) (by omega) ?_)
      conv => whnf
      exact ⟨[], rfl, h⟩

theorem from_spec {key : List UInt8} {J : List (List V) → List O → Prop} {S : List O → Prop} {ks : List Pl} {L : List (List V)} (hy : YieldS Try.prog ks J S L) : ∀ (t : Tr Int) (pre post : List (List V)) (B : List Nat) {Q : V → List O → Prop},
    pre ++ (encKV fI (fromL key t) ++ post) = L → (∀ B', Q (.bool true) [.res (packR (J (pre ++ encKV fI (fromL key t))) ks B') B']) → (∀ B', Q (.bool false) [.res (packR S ks B') B']) →
    ACall Try.prog 30 1 [.im (encT fI t), .str key, .yld 0] [.res (packR (J pre) ks B) B] Q := by
  intro t
  induction t with
  | nil =>
    intro pre post B Q hL h1 h2
    refine by_body Try.func30 1 rfl (Nat.le_of_ble_eq_true rfl) ?_
    conv => whnf
    simp only [fromL, encKV, List.map_nil, List.append_nil] at h1
    exact ⟨[0], rfl, h1 B⟩
  | node k v a b iha ihb =>
    intro pre post B Q hL h1 h2
    refine by_body Try.func30 1 rfl (Nat.le_of_ble_eq_true rfl) ?_
    conv => whnf
    refine ⟨[0, 1, 2, 3, 4, 5, 6, 7, 8, 9, 10, 11, 12, 13, 14, 15, 16, 17, 18, 19, 20, 21, 22, 23, 24, 25, 26, 27, 28], by kernel_rfl, by kernel_rfl, ?_⟩
    conv => whnf
    refine branch_i (fun c => ?_) (fun c => ?_) <;> try rw [c] <;> conv => whnf
    · have e : fromL key (.node k v a b) = fromL key a ++ ((k, v) :: fromL key b) := by simp [fromL, leS, c]
      rw [e] at hL h1
      simp only [encKV, List.map_append, List.map_cons, List.append_assoc, List.cons_append] at hL h1
      refine .call [0] 1 ⟨rfl, rfl, rfl⟩ (iha pre ([.str k, fI v] :: (encKV fI (fromL key b) ++ post)) B (by simpa [encKV] using hL) (fun B1 => ?_) (fun B1 => ?_))
      · repeat (refine ⟨rfl, ?_⟩)
        conv => whnf
        refine .call [0] 1 ⟨rfl, rfl, rfl⟩ (AYield.mono (hy (pre ++ encKV fI (fromL key a)) [.str k, fI v] (encKV fI (fromL key b) ++ post) B1 (by simpa [encKV] using hL)) ?_)
        rintro r H' ⟨B2, ⟨rfl, rfl⟩ | ⟨rfl, rfl⟩⟩
        · repeat (refine ⟨rfl, ?_⟩)
          conv => whnf
          refine .call [0] 1 ⟨rfl, rfl, rfl⟩ (ihb (pre ++ encKV fI (fromL key a) ++ [[.str k, fI v]]) post B2 (by simpa [encKV] using hL) (fun B3 => ?_) (fun B3 => ?_))
          · conv => whnf
            exact ⟨[0], rfl, (congrArg (fun l => Q (.bool true) [.res (packR (J l) ks B3) B3]) (by simp [encKV])).mp (h1 B3)⟩
          · conv => whnf
            exact ⟨[0], rfl, h2 B3⟩
        · repeat (refine ⟨rfl, ?_⟩)
          conv => whnf
          exact ⟨[0], rfl, h2 B2⟩
      · repeat (refine ⟨rfl, ?_⟩)
        conv => whnf
        exact ⟨[0], rfl, h2 B1⟩
    · have e : fromL key (.node k v a b) = fromL key b := by simp [fromL, leS, c]
      rw [e] at hL h1
      refine .call [0] 1 ⟨rfl, rfl, rfl⟩ (ihb pre post B hL (fun B3 => ?_) (fun B3 => ?_))
      · conv => whnf
        exact ⟨[0], rfl, h1 B3⟩
      · conv => whnf
        exact ⟨[0], rfl, h2 B3⟩

theorem put_spec {key : List UInt8} {v0 : Int} : ∀ (t : Tr Int), t.ht < 1152921504606846976 → ∀ {Q : V → List O → Prop}, Q (.im (encT fI (putT key v0 t))) [] → ACall Try.prog 24 0 [.im (encT fI t), .str key, fI v0] [] Q := by
  intro t
  induction t with
  | nil =>
    intro hh Q h
    refine ACall.im (ACall.sub (ACall.sel (ACall.frz 0 (by_body Try.func24 0 rfl (Nat.le_of_ble_eq_true rfl) ?_))))
    conv => whnf
    refine ⟨[0], rfl, rfl, [], rfl, _, [], VSub.ip (cs' := [.str key, fI v0, .int .i64 1, .im .nilp, .im .nilp]) (.cons (.refl _) (.cons (.refl _) (.cons (.refl _) (.cons (.im rfl) (.cons (.im rfl) .nil))))), .nil, rfl, h⟩
  | node k v a b iha ihb =>
    intro hh Q h
    have hm : (Tr.node k v a b).ht = 1 + max a.ht b.ht := rfl
    have h1 := ht_put key v0 a
    have h2 := ht_put key v0 b
    by_cases c1 : Op.bytesLess key k = true
    · simp only [putT, if_pos c1] at h
      refine by_body Try.func24 0 rfl (Nat.le_of_ble_eq_true rfl) ?_
      conv => whnf
      rw [c1]
      conv => whnf
      refine ⟨[0, 1, 2, 3, 4, 5, 6, 8, 9, 10, 11, 7, 12, 13], by kernel_rfl, by kernel_rfl, ?_⟩
      conv => whnf
      refine .call [] 0 ⟨rfl, rfl, rfl⟩ (iha (by omega) ?_)
      repeat (refine ⟨rfl, ?_⟩)
      conv => whnf
      refine .call [] 0 ⟨rfl, rfl, rfl⟩ (even_spec (by omega) (by omega) ?_)
      repeat (refine ⟨rfl, ?_⟩)
      conv => whnf
      exact ⟨[], rfl, h⟩
    · simp only [putT, if_neg c1] at h
      have c1' : Op.bytesLess key k = false := by simpa using c1
      by_cases c2 : Op.bytesLess k key = true
      · simp only [if_pos c2] at h
        have hne : decide (key = k) = false := by
          simp only [decide_eq_false_iff_not]
          intro e
          rw [e] at c2 c1'
          rw [c2] at c1'; cases c1'
        refine by_body Try.func24 0 rfl (Nat.le_of_ble_eq_true rfl) ?_
        conv => whnf
        rw [c1']
        conv => whnf
        rw [c1', hne]
        conv => whnf
        refine ⟨[0, 1, 2, 3, 4, 5, 6, 7, 8, 9, 10, 11, 12, 13], by kernel_rfl, by kernel_rfl, ?_⟩
        conv => whnf
        refine .call [] 0 ⟨rfl, rfl, rfl⟩ (ihb (by omega) ?_)
        repeat (refine ⟨rfl, ?_⟩)
        conv => whnf
        refine .call [] 0 ⟨rfl, rfl, rfl⟩ (even_spec (by omega) (by omega) ?_)
        repeat (refine ⟨rfl, ?_⟩)
        conv => whnf
        exact ⟨[], rfl, h⟩
      · simp only [if_neg c2] at h
        have c2' : Op.bytesLess k key = false := by simpa using c2
        have he : key = k := less_total c1' c2'
        subst he
        refine ACall.sel (ACall.im (ACall.frz 0 (by_body Try.func24 0 rfl (Nat.le_of_ble_eq_true rfl) ?_)))
        conv => whnf
        rw [c1']
        conv => whnf
        rw [c1', show decide (key = key) = true by simp]
        conv => whnf
        refine ⟨[0, 1, 2, 3, 4, 5, 6, 7, 8, 9, 10, 11, 12, 13, 14, 15, 16], by kernel_rfl, by kernel_rfl, ?_⟩
        conv => whnf
        exact ⟨[0], rfl, rfl, rfl, [], rfl, h⟩

theorem first_spec {k : List UInt8} {v : Int} {a b : Tr Int} (h : ∀ b', Q (.im (encT fI (.node (firstT (k, v) a).1 (firstT (k, v) a).2 .nil b'))) []) : ACall Try.prog 35 0 [.im (encT fI (.node k v a b))] [] Q := by
  refine by_body Try.func35 0 rfl (Nat.le_of_ble_eq_true rfl) ?_
  conv => whnf
  refine ⟨⟨[0], fun n vs H => H = [] ∧ ∃ k' v' a' b', vs = [.im (encT fI (.node k' v' a' b'))] ∧ firstT (k', v') a' = firstT (k, v) a ∧ n = a'.size, .at (a.size) ⟨rfl, k, v, a, b, rfl, rfl, rfl⟩, ?_⟩⟩
  rintro n vs H ⟨rfl, k', v', a', b', rfl, he, rfl⟩
  cases a' with
  | nil =>
    conv => whnf
    simp only [firstT] at he
    refine ⟨[], rfl, ?_⟩
    have := h b'
    rw [← he] at this
    exact this
  | node k2 v2 a2 b2 =>
    conv => whnf
    exact .go [] rfl a2.size (by simp only [Tr.size]; omega) ⟨rfl, k2, v2, a2, b2, rfl, he, rfl⟩

theorem cut_spec : ∀ (t : Tr Int) (key : List UInt8), t.ht < 1152921504606846976 → ∀ {Q : V → List O → Prop}, Q (.im (encT fI (cutT key t))) [] → ACall Try.prog 31 0 [.im (encT fI t), .str key] [] Q := by
  intro t
  induction t with
  | nil =>
    intro key hh Q h
    refine ACall.im (by_body Try.func31 0 rfl (Nat.le_of_ble_eq_true rfl) ?_)
    conv => whnf
    exact ⟨[], rfl, rfl, h⟩
  | node k v a b iha ihb =>
    intro key hh Q h
    have hm : (Tr.node k v a b).ht = 1 + max a.ht b.ht := rfl
    have h1 := ht_cut a key
    have h2 := fun key => ht_cut b key
    refine by_body Try.func31 0 rfl (Nat.le_of_ble_eq_true rfl) ?_
    unfold cutT at h
    by_cases c1 : Op.bytesLess key k = true
    · rw [if_pos c1] at h
      conv => whnf
      rw [c1]
      conv => whnf
      refine ⟨[0, 1, 2, 3, 4, 5, 7, 8, 9, 10, 6, 11, 12], by kernel_rfl, by kernel_rfl, ?_⟩
      conv => whnf
      refine .call [] 0 ⟨rfl, rfl, rfl⟩ (iha key (by omega) ?_)
      repeat (refine ⟨rfl, ?_⟩)
      conv => whnf
      refine .call [] 0 ⟨rfl, rfl, rfl⟩ (even_spec (by omega) (by omega) ?_)
      repeat (refine ⟨rfl, ?_⟩)
      conv => whnf
      exact ⟨[], rfl, h⟩
    · rw [if_neg c1] at h
      have c1' : Op.bytesLess key k = false := by simpa using c1
      conv => whnf
      rw [c1']
      conv => whnf
      by_cases c2 : Op.bytesLess k key = true
      · rw [if_pos c2] at h
        have hne : decide (key = k) = false := decide_eq_false (less_ne c2).symm
        rw [c1', hne]
        conv => whnf
        refine ⟨[0, 1, 2, 3, 4, 5, 6, 7, 8, 9, 10, 11, 12], by kernel_rfl, by kernel_rfl, ?_⟩
        conv => whnf
        refine .call [] 0 ⟨rfl, rfl, rfl⟩ (ihb key (by omega) ?_)
        repeat (refine ⟨rfl, ?_⟩)
        conv => whnf
        have := h2 key
        refine .call [] 0 ⟨rfl, rfl, rfl⟩ (even_spec (by omega) (by omega) ?_)
        repeat (refine ⟨rfl, ?_⟩)
        conv => whnf
        exact ⟨[], rfl, h⟩
      · rw [if_neg c2] at h
        have c2' : Op.bytesLess k key = false := by simpa using c2
        have he : key = k := less_total c1' c2'
        rw [c1', show decide (key = k) = true by simp [he]]
        conv => whnf
        cases a with
        | nil =>
          conv => whnf
          exact ⟨[], rfl, h⟩
        | node ak av aa ab =>
          conv => whnf
          cases b with
          | nil =>
            conv => whnf
            exact ⟨[], rfl, h⟩
          | node bk bv ba bb =>
            simp only at h
            conv => whnf
            refine .call [] 0 ⟨rfl, rfl, rfl⟩ (first_spec fun b' => ?_)
            conv => whnf
            refine ⟨[0, 1, 2, 3, 4, 5, 6, 7, 8, 9, 10, 11, 12, 13, 14, 15], by kernel_rfl, by kernel_rfl, ?_⟩
            conv => whnf
            refine .call [] 0 ⟨rfl, rfl, rfl⟩ (ihb _ (by omega) ?_)
            repeat (refine ⟨rfl, ?_⟩)
            conv => whnf
            have := h2 (firstT (bk, bv) ba).1
            refine .call [] 0 ⟨rfl, rfl, rfl⟩ (even_spec (by omega) (by omega) ?_)
            repeat (refine ⟨rfl, ?_⟩)
            conv => whnf
            exact ⟨[], rfl, h⟩

abbrev treeO (t : Tr Int) (n : Int) : O := .cells [.im (encT fI t), .int .i64 n]

theorem TNew_spec (h : Q (.ptr 0 0) [treeO .nil 0]) : ACall Try.prog 9 0 [] [] Q := by
  refine ACall.sub (by_body Try.func9 0 rfl (Nat.le_of_ble_eq_true rfl) ?_)
  conv => whnf
  exact ⟨[0], rfl, _, _, .refl _, .cons (.cells (cs' := [.im .nilp, .int .i64 0]) (.cons (.im rfl) (.cons (.refl _) .nil))) .nil, h⟩

theorem find_spec {t : Tr Int} {n : Int} {key : List UInt8} (h : Q (.im (encT fI (findT key t))) [treeO t n]) : ACall Try.prog 23 1 [.ptr 0 0, .str key] [treeO t n] Q := by
  refine by_body Try.func23 1 rfl (Nat.le_of_ble_eq_true rfl) ?_
  conv => whnf
  refine ⟨⟨[1, 5], fun m vs H => H = [treeO t n] ∧ ∃ x, vs = [.str key, .im (encT fI x)] ∧ findT key x = findT key t ∧ m = x.size, .at (t.size) ⟨rfl, t, rfl, rfl, rfl⟩, ?_⟩⟩
  rintro m vs H ⟨rfl, x, rfl, he, rfl⟩
  cases x with
  | nil =>
    conv => whnf
    rw [← he] at h
    exact ⟨[0], rfl, h⟩
  | node k v a b =>
    conv => whnf
    by_cases ck : k = key
    · rw [show decide (k = key) = true by simp [ck]]
      conv => whnf
      simp only [findT, if_pos ck] at he
      rw [← he] at h
      exact ⟨[0], rfl, h⟩
    · rw [show decide (k = key) = false by simp [ck]]
      simp only [findT, if_neg ck] at he
      conv => whnf
      refine branch_i (fun c => ?_) (fun c => ?_) <;> try rw [c] <;> conv => whnf
      · rw [if_pos c] at he
        exact .go [0] rfl a.size (by simp only [Tr.size]; omega) ⟨rfl, a, rfl, he, rfl⟩
      · rw [if_neg (by simp [c])] at he
        exact .go [0] rfl b.size (by simp only [Tr.size]; omega) ⟨rfl, b, rfl, he, rfl⟩

theorem nn_not (b : Bool) : (!(!b)) = b := by cases b <;> rfl

theorem Put_spec {t : Tr Int} {n : Int} {key : List UInt8} {v : Int} (ht : t.ht < 1152921504606846976) (h : Q (.bool (!(findT key t).isNil)) [treeO (putT key v t) (if (findT key t).isNil then IntKind.i64.wrap (n + 1) else n)]) :
    ACall Try.prog 10 1 [.ptr 0 0, .str key, fI v] [treeO t n] Q := by
  refine by_body Try.func10 1 rfl (Nat.le_of_ble_eq_true rfl) ?_
  conv => whnf
  refine .call [0] 1 ⟨rfl, rfl, rfl⟩ (find_spec ?_)
  conv => whnf
  cases hf : findT key t with
  | nil =>
    rw [hf] at h
    conv => whnf
    refine .call [] 0 ⟨rfl, rfl, rfl⟩ (put_spec t ht ?_)
    conv => whnf
    exact ⟨[0], rfl, h⟩
  | node k w a b =>
    rw [hf] at h
    conv => whnf
    refine .call [] 0 ⟨rfl, rfl, rfl⟩ (put_spec t ht ?_)
    conv => whnf
    exact ⟨[0], rfl, h⟩

theorem Cut_spec {t : Tr Int} {n : Int} {key : List UInt8} (ht : t.ht < 1152921504606846976) (h : Q (.bool (!(findT key t).isNil)) [treeO (if (findT key t).isNil then t else cutT key t) (if (findT key t).isNil then n else IntKind.i64.wrap (n - 1))]) :
    ACall Try.prog 20 1 [.ptr 0 0, .str key] [treeO t n] Q := by
  refine by_body Try.func20 1 rfl (Nat.le_of_ble_eq_true rfl) ?_
  conv => whnf
  refine .call [0] 1 ⟨rfl, rfl, rfl⟩ (find_spec ?_)
  conv => whnf
  cases hf : findT key t with
  | nil =>
    rw [hf] at h
    conv => whnf
    exact ⟨[0], rfl, h⟩
  | node k w a b =>
    rw [hf] at h
    conv => whnf
    refine .call [] 0 ⟨rfl, rfl, rfl⟩ (cut_spec t key ht ?_)
    conv => whnf
    exact ⟨[0], rfl, h⟩

theorem Get_none {t : Tr Int} {n : Int} {key : List UInt8} (hf : findT key t = .nil) (h : Q (.tup [fI 0, .bool false]) [treeO t n]) : ACall Try.prog 16 1 [.ptr 0 0, .str key] [treeO t n] Q := by
  refine by_body Try.func16 1 rfl (Nat.le_of_ble_eq_true rfl) ?_
  conv => whnf
  refine .call [0] 1 ⟨rfl, rfl, rfl⟩ (find_spec ?_)
  rw [hf]
  conv => whnf
  exact ⟨[0], rfl, h⟩

theorem Get_some {t : Tr Int} {n : Int} {key : List UInt8} {k : List UInt8} {v : Int} {a b : Tr Int} (hf : findT key t = .node k v a b) (h : Q (.tup [fI v, .bool true]) [treeO t n]) : ACall Try.prog 16 1 [.ptr 0 0, .str key] [treeO t n] Q := by
  refine by_body Try.func16 1 rfl (Nat.le_of_ble_eq_true rfl) ?_
  conv => whnf
  refine .call [0] 1 ⟨rfl, rfl, rfl⟩ (find_spec ?_)
  rw [hf]
  conv => whnf
  exact ⟨[0], rfl, h⟩

theorem Len_spec {t : Tr Int} {n : Int} (h : Q (.int .i64 n) [treeO t n]) : ACall Try.prog 14 1 [.ptr 0 0] [treeO t n] Q := by
  refine by_body Try.func14 1 rfl (Nat.le_of_ble_eq_true rfl) ?_
  conv => whnf
  exact ⟨[0], rfl, h⟩

theorem Height_spec {t : Tr Int} {n : Int} (h : Q (.int .i64 ((t.ht : Nat) : Int)) [treeO t n]) : ACall Try.prog 21 1 [.ptr 0 0] [treeO t n] Q := by
  refine by_body Try.func21 1 rfl (Nat.le_of_ble_eq_true rfl) ?_
  conv => whnf
  refine .call [] 0 ⟨rfl, rfl, rfl⟩ (high_spec ?_)
  conv => whnf
  exact ⟨[0], rfl, h⟩

theorem TClone_spec {t : Tr Int} {n : Int} (h : Q (.ptr 1 0) [treeO t n, treeO t n]) : ACall Try.prog 22 1 [.ptr 0 0] [treeO t n] Q := by
  refine by_body Try.func22 1 rfl (Nat.le_of_ble_eq_true rfl) ?_
  conv => whnf
  refine ⟨[0, 1, 2, 3, 4, 5, 6, 7, 8, 9, 10], by kernel_rfl, by kernel_rfl, ?_⟩
  conv => whnf
  exact ⟨[0, 1], rfl, h⟩

theorem From_spec {t : Tr Int} {n : Int} {key : List UInt8} (h : Q (.fn (.func 29) [] [.ptr 1 0, .ptr 2 0]) [treeO t n, .cells [.ptr 0 0], .cells [.str key]]) :
    ACall Try.prog 18 1 [.ptr 0 0, .str key] [treeO t n] Q := by
  refine by_body Try.func18 1 rfl (Nat.le_of_ble_eq_true rfl) ?_
  conv => whnf
  exact ⟨[0, 1, 2], rfl, h⟩

theorem From1_spec {t : Tr Int} {n : Int} {key : List UInt8} {J : List (List V) → List O → Prop} {S J' : List O → Prop} {ks : List Pl} (hy : YieldS Try.prog ks J S (encKV fI (fromL key t))) {B : List Nat} (hJ : ∀ Hs, J (encKV fI (fromL key t)) Hs → J' Hs) (hS : ∀ Hs, S Hs → J' Hs)
    (h : ∀ B', Q (.tup []) [.res (packR J' ks B') B', treeO t n, .cells [.ptr 1 0], .cells [.str key]]) :
    ACall Try.prog 29 4 [.yld 0, .ptr 2 0, .ptr 3 0] [.res (packR (J []) ks B) B, treeO t n, .cells [.ptr 1 0], .cells [.str key]] Q := by
  refine ACall.sub (by_body Try.func29 4 rfl (Nat.le_of_ble_eq_true rfl) ?_)
  conv => whnf
  refine ⟨[0, 1, 2, 3, 4, 5, 6], by kernel_rfl, by kernel_rfl, ?_⟩
  conv => whnf
  refine .call [0] 1 ⟨rfl, rfl, rfl⟩ (from_spec hy t [] [] B (by simp) (fun B' => ?_) (fun B' => ?_))
  · repeat (refine ⟨rfl, ?_⟩)
    conv => whnf
    exact ⟨[0, 1, 2, 3], rfl, _, _, .refl _, .cons (.pk ks B' hJ) (HSub.refl _), h B'⟩
  · repeat (refine ⟨rfl, ?_⟩)
    conv => whnf
    exact ⟨[0, 1, 2, 3], rfl, _, _, .refl _, .cons (.pk ks B' hS) (HSub.refl _), h B'⟩

end Go.Proofs.YtfhoblpcneachaaPg
