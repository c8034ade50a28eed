/- Chapter 09: the document's list. -/
import Derived.Test.YtfhoblpcneachaaPg09TreeLawA
import Derived.Test.YtfhoblpcneachaaPgTr4
namespace Go.Proofs.YtfhoblpcneachaaPg
open Go Go.RowKit
set_option linter.unusedVariables false

variable {Q : V → List O → Prop}

theorem at_spec {key : List UInt8} {a b : List KV} (ha : ∀ x ∈ a, Op.bytesLess x.1 key = true) (hb : ∀ x r, b = x :: r → Op.bytesLess x.1 key = false) (hl : (a ++ b).length < 1000000) (h : Q (.tup [fI a.length, .bool (hasH key b)]) (RO (a ++ b))) :
    ACall Try.prog 34 2 [.ptr 0 0, .str key] (RO (a ++ b)) Q := by
  refine by_body Try.func34 2 rfl (Nat.le_of_ble_eq_true rfl) ?_
  conv => whnf
  have hlk : (strs (kL (a ++ b))).length = (a ++ b).length := by simp [strs]
  refine ⟨⟨[0, 1, 6], fun m vs H => H = RO (a ++ b) ∧ ∃ i : Nat, vs = [.ptr 0 0, .str key, fI i] ∧ i ≤ a.length ∧ m = a.length - i, .at _ ⟨rfl, 0, rfl, Nat.zero_le _, rfl⟩, ?_⟩⟩
  rintro m vs H ⟨rfl, i, rfl, hi, rfl⟩
  have hget : ∀ j (x : KV), (a ++ b)[j]? = some x → (strs (kL (a ++ b)))[j]? = some [V.str x.1] := fun j x hx => strs_get (show (List.map (fun y : KV => y.1) (a ++ b))[j]? = some x.1 by rw [List.getElem?_map, hx]; rfl)
  conv => whnf
  refine branch_i (fun c => ?_) (fun c => ?_) <;> try rw [c] <;> conv => whnf
  · have c' := of_decide_eq_true c
    have hlt : i < (a ++ b).length := by omega
    obtain ⟨x, hx⟩ : ∃ x, (a ++ b)[i]? = some x := ⟨_, List.getElem?_eq_getElem hlt⟩
    refine ⟨_, ⟨by omega, hget i x hx⟩, ?_⟩
    conv => whnf
    by_cases hia : i < a.length
    · have hxa : x ∈ a := by
        rw [List.getElem?_append_left hia] at hx
        exact List.mem_of_getElem? hx
      rw [ha x hxa]
      conv => whnf
      refine .go [0, 1] rfl (a.length - (i + 1)) (by omega) ⟨rfl, i + 1, ?_, by omega, rfl⟩
      show [V.ptr 0 0, V.str key, V.int .i64 (IntKind.i64.wrap ((i : Int) + 1))] = _
      rw [show IntKind.i64.wrap ((i : Int) + 1) = ((i + 1 : Nat) : Int) by rw [IntKind.wrap_i64]; omega]
    · have hia' : i = a.length := by omega
      subst hia'
      rw [List.getElem?_append_right (Nat.le_refl _), Nat.sub_self] at hx
      cases b with
      | nil => simp at hx
      | cons y r =>
        simp only [List.getElem?_cons_zero, Option.some.injEq] at hx
        subst hx
        rw [hb y r rfl]
        conv => whnf
        refine ⟨[0, 1, 2, 3, 4, 5, 6, 7, 8, 9, 10, 11, 12, 13, 14, 15, 16, 17, 18, 19, 20], by kernel_rfl, by kernel_rfl, ?_⟩
        conv => whnf
        rw [c]
        conv => whnf
        refine ⟨_, ⟨by omega, hget a.length y (by simp)⟩, ?_⟩
        conv => whnf
        iterate 3 (repeat (refine ⟨rfl, ?_⟩)); conv => whnf
        exact ⟨[0, 1], rfl, h⟩
  · have c' := of_decide_eq_false c
    have hia' : i = a.length := by simp at *; omega
    have hbn : b = [] := by
      cases b with
      | nil => rfl
      | cons y r => simp at *; omega
    subst hbn
    subst hia'
    refine ⟨[0, 1, 2, 3, 4, 5, 6, 7, 8, 9, 10, 11, 12, 13, 14, 15, 16, 17, 18, 19, 20], by kernel_rfl, by kernel_rfl, ?_⟩
    conv => whnf
    rw [c]
    conv => whnf
    iterate 3 (repeat (refine ⟨rfl, ?_⟩)); conv => whnf
    exact ⟨[0, 1], rfl, h⟩

theorem RPut_spec {key : List UInt8} {v : Int} {a b : List KV} (ha : ∀ x ∈ a, Op.bytesLess x.1 key = true) (hb : ∀ x r, b = x :: r → Op.bytesLess x.1 key = false) (hl : (a ++ b).length < 1000000)
    (h : Q (.bool (hasH key b)) (RO (a ++ (key, v) :: (if hasH key b then b.tail else b)))) :
    ACall Try.prog 25 1 [.ptr 0 0, .str key, fI v] (RO (a ++ b)) Q := by
  refine ACall.ret (by_body Try.func25 1 rfl (Nat.le_of_ble_eq_true rfl) ?_)
  conv => whnf
  refine .call [0, 1] 2 ⟨rfl, rfl, rfl⟩ (at_spec ha hb hl ?_)
  conv => whnf
  refine branch_i (fun c => ?_) (fun c => ?_) <;> try rw [c] <;> conv => whnf
  · rw [c] at h
    cases b with
    | nil => cases c
    | cons x r =>
      obtain ⟨k, w⟩ := x
      have hk : k = key := by simpa [hasH] using c
      subst hk
      refine ⟨⟨by omega, by simp [ints]; omega⟩, ?_⟩
      conv => whnf
      refine ⟨[.int .i64 w], by simp [ints], ?_⟩
      conv => whnf
      have e : RO (a ++ (k, v) :: r) = [.cells [.sl 1 (strs (kL (a ++ (k, w) :: r))) false, .ms 1 1 0 (ints (vL (a ++ (k, w) :: r))).length false], .buf ((ints (vL (a ++ (k, w) :: r))).set a.length [.int .i64 v])] := by
        simp [RO, ints]
      have h' : Q (.bool true) (RO (a ++ (k, v) :: r)) := h
      rw [e] at h'
      exact ⟨[0, 1], rfl, .done [0, 1] rfl h'⟩
  · rw [c] at h
    simp only [Bool.false_eq_true, if_false] at h
    have hab : (a ++ b).length = a.length + b.length := by simp
    have l1 : (strs (kL (a ++ b))).length = a.length + b.length := by simp [strs]
    have l2 : (ints (vL (a ++ b))).length = a.length + b.length := by simp [ints]
    refine ⟨⟨by omega, by rw [l1]; omega⟩, ?_⟩
    conv => whnf
    refine ⟨(show ((strs (kL (a ++ b))).take a.length).length * 16 ≤ 70368744177664 by rw [List.length_take]; omega), ?_⟩
    conv => whnf
    refine ⟨Nat.le_refl _, ?_⟩
    conv => whnf
    refine ⟨rfl, ?_⟩
    conv => whnf
    refine ⟨(show ((strs (kL (a ++ b))).take a.length ++ [[V.str key]]).length * 16 ≤ 70368744177664 by simp only [List.length_append, List.length_take, List.length_singleton]; omega), ?_⟩
    conv => whnf
    refine ⟨⟨by omega, by rw [l2]; omega⟩, ?_⟩
    conv => whnf
    refine ⟨(show 0 + a.length ≤ (ints (vL (a ++ b))).length by rw [l2]; omega), ?_⟩
    conv => whnf
    refine ⟨(show ((ints (vL (a ++ b))).take a.length).length * 8 ≤ 70368744177664 by rw [List.length_take]; omega), ?_⟩
    conv => whnf
    refine ⟨Nat.le_refl _, ?_⟩
    conv => whnf
    refine ⟨rfl, ?_⟩
    conv => whnf
    refine ⟨(show ((ints (vL (a ++ b))).take a.length ++ [[V.int .i64 v]]).length * 8 ≤ 70368744177664 by simp only [List.length_append, List.length_take, List.length_singleton]; omega), ?_⟩
    conv => whnf
    refine ⟨⟨by omega, by rw [l1]; omega⟩, ?_⟩
    conv => whnf
    refine ⟨rfl, ?_⟩
    conv => whnf
    refine ⟨(show ((strs (kL (a ++ b))).take a.length ++ [[V.str key]] ++ (strs (kL (a ++ b))).drop a.length).length * 16 ≤ 70368744177664 by simp only [List.length_append, List.length_take, List.length_drop, List.length_singleton]; omega), ?_⟩
    conv => whnf
    refine ⟨⟨by omega, by rw [l2]; omega⟩, ?_⟩
    conv => whnf
    refine ⟨(show a.length + 0 + ((ints (vL (a ++ b))).length - a.length) ≤ (ints (vL (a ++ b))).length by rw [l2]; omega), ?_⟩
    conv => whnf
    refine ⟨rfl, ?_⟩
    conv => whnf
    refine ⟨(show ((ints (vL (a ++ b))).take a.length ++ [[V.int .i64 v]] ++ ((ints (vL (a ++ b))).drop a.length).take ((ints (vL (a ++ b))).length - a.length)).length * 8 ≤ 70368744177664 by simp only [List.length_append, List.length_take, List.length_drop, List.length_singleton]; omega), ?_⟩
    conv => whnf
    have ek : List.take ((strs (kL (a ++ b))).take a.length ++ [[V.str key]] ++ (strs (kL (a ++ b))).drop a.length).length ((strs (kL (a ++ b))).take a.length ++ [[V.str key]] ++ (strs (kL (a ++ b))).drop a.length) = strs (kL (a ++ (key, v) :: b)) := by rw [List.take_length]; simp [strs]
    have ev : (ints (vL (a ++ b))).take a.length ++ [[V.int .i64 v]] ++ ((ints (vL (a ++ b))).drop a.length).take ((ints (vL (a ++ b))).length - a.length) = ints (vL (a ++ (key, v) :: b)) := by
      rw [List.take_of_length_le (l := (ints (vL (a ++ b))).drop a.length) (by simp)]
      simp [ints]
    unfold RO at h
    rw [← ek, ← ev] at h
    exact ⟨[0, 9, 8], rfl, .frz 2 rfl (And.intro (Nat.le_of_eq (Nat.zero_add _)) trivial) (.done [0, 1] rfl h)⟩

theorem RPut2_spec {key : List UInt8} {v : Int} {a b : List KV} (ha : ∀ x ∈ a, Op.bytesLess x.1 key = true) (hb : ∀ x r, b = x :: r → Op.bytesLess x.1 key = false) (hl : (a ++ b).length < 1000000)
    (h1 : hasH key b = true → Q (.bool true) (RO (a ++ (key, v) :: b.tail)))
    (h2 : hasH key b = false → Q (.bool false) [.cells [.sl 1 (strs (kL (a ++ (key, v) :: b))) false, .ms 1 2 0 (ints (vL (a ++ (key, v) :: b))).length false], .buf (ints (vL (a ++ b))), .buf (ints (vL (a ++ (key, v) :: b)))]) :
    ACall Try.prog 25 2 [.ptr 0 0, .str key, fI v] (RO (a ++ b)) Q := by
  refine ACall.ret (by_body Try.func25 2 rfl (Nat.le_of_ble_eq_true rfl) ?_)
  conv => whnf
  refine .call [0, 1] 2 ⟨rfl, rfl, rfl⟩ (at_spec ha hb hl ?_)
  conv => whnf
  refine branch_i (fun c => ?_) (fun c => ?_) <;> try rw [c] <;> conv => whnf
  · cases b with
    | nil => cases c
    | cons x r =>
      obtain ⟨k, w⟩ := x
      have hk : k = key := by simpa [hasH] using c
      subst hk
      refine ⟨⟨by omega, by simp [ints]; omega⟩, ?_⟩
      conv => whnf
      refine ⟨[.int .i64 w], by simp [ints], ?_⟩
      conv => whnf
      have e : RO (a ++ (k, v) :: r) = [.cells [.sl 1 (strs (kL (a ++ (k, w) :: r))) false, .ms 1 1 0 (ints (vL (a ++ (k, w) :: r))).length false], .buf ((ints (vL (a ++ (k, w) :: r))).set a.length [.int .i64 v])] := by
        simp [RO, ints]
      have h' : Q (.bool true) (RO (a ++ (k, v) :: r)) := h1 c
      rw [e] at h'
      exact ⟨[0, 1], rfl, .done [0, 1] rfl h'⟩
  · have h := h2 c
    have hab : (a ++ b).length = a.length + b.length := by simp
    have l1 : (strs (kL (a ++ b))).length = a.length + b.length := by simp [strs]
    have l2 : (ints (vL (a ++ b))).length = a.length + b.length := by simp [ints]
    refine ⟨⟨by omega, by rw [l1]; omega⟩, ?_⟩
    conv => whnf
    refine ⟨(show ((strs (kL (a ++ b))).take a.length).length * 16 ≤ 70368744177664 by rw [List.length_take]; omega), ?_⟩
    conv => whnf
    refine ⟨Nat.le_refl _, ?_⟩
    conv => whnf
    refine ⟨rfl, ?_⟩
    conv => whnf
    refine ⟨(show ((strs (kL (a ++ b))).take a.length ++ [[V.str key]]).length * 16 ≤ 70368744177664 by simp only [List.length_append, List.length_take, List.length_singleton]; omega), ?_⟩
    conv => whnf
    refine ⟨⟨by omega, by rw [l2]; omega⟩, ?_⟩
    conv => whnf
    refine ⟨(show 0 + a.length ≤ (ints (vL (a ++ b))).length by rw [l2]; omega), ?_⟩
    conv => whnf
    refine ⟨(show ((ints (vL (a ++ b))).take a.length).length * 8 ≤ 70368744177664 by rw [List.length_take]; omega), ?_⟩
    conv => whnf
    refine ⟨Nat.le_refl _, ?_⟩
    conv => whnf
    refine ⟨rfl, ?_⟩
    conv => whnf
    refine ⟨(show ((ints (vL (a ++ b))).take a.length ++ [[V.int .i64 v]]).length * 8 ≤ 70368744177664 by simp only [List.length_append, List.length_take, List.length_singleton]; omega), ?_⟩
    conv => whnf
    refine ⟨⟨by omega, by rw [l1]; omega⟩, ?_⟩
    conv => whnf
    refine ⟨rfl, ?_⟩
    conv => whnf
    refine ⟨(show ((strs (kL (a ++ b))).take a.length ++ [[V.str key]] ++ (strs (kL (a ++ b))).drop a.length).length * 16 ≤ 70368744177664 by simp only [List.length_append, List.length_take, List.length_drop, List.length_singleton]; omega), ?_⟩
    conv => whnf
    refine ⟨⟨by omega, by rw [l2]; omega⟩, ?_⟩
    conv => whnf
    refine ⟨(show a.length + 0 + ((ints (vL (a ++ b))).length - a.length) ≤ (ints (vL (a ++ b))).length by rw [l2]; omega), ?_⟩
    conv => whnf
    refine ⟨rfl, ?_⟩
    conv => whnf
    refine ⟨(show ((ints (vL (a ++ b))).take a.length ++ [[V.int .i64 v]] ++ ((ints (vL (a ++ b))).drop a.length).take ((ints (vL (a ++ b))).length - a.length)).length * 8 ≤ 70368744177664 by simp only [List.length_append, List.length_take, List.length_drop, List.length_singleton]; omega), ?_⟩
    conv => whnf
    have ek : List.take ((strs (kL (a ++ b))).take a.length ++ [[V.str key]] ++ (strs (kL (a ++ b))).drop a.length).length ((strs (kL (a ++ b))).take a.length ++ [[V.str key]] ++ (strs (kL (a ++ b))).drop a.length) = strs (kL (a ++ (key, v) :: b)) := by rw [List.take_length]; simp [strs]
    have ev : (ints (vL (a ++ b))).take a.length ++ [[V.int .i64 v]] ++ ((ints (vL (a ++ b))).drop a.length).take ((ints (vL (a ++ b))).length - a.length) = ints (vL (a ++ (key, v) :: b)) := by
      rw [List.take_of_length_le (l := (ints (vL (a ++ b))).drop a.length) (by simp)]
      simp [ints]
    rw [← ek, ← ev] at h
    exact ⟨[0, 1, 9, 8], rfl, .frz 3 rfl (And.intro (Nat.le_of_eq (Nat.zero_add _)) trivial) (.done [0, 1, 2] rfl h)⟩

/-- What a cut leaves. -/
def cutS (key : List UInt8) (a b : List KV) : List KV := if hasH key b then a ++ b.tail else a ++ b

theorem RCut_spec {key : List UInt8} {a b : List KV} (ha : ∀ x ∈ a, Op.bytesLess x.1 key = true) (hb : ∀ x r, b = x :: r → Op.bytesLess x.1 key = false) (hl : (a ++ b).length < 1000000)
    (h : Q (.bool (hasH key b)) (RO (cutS key a b))) :
    ACall Try.prog 26 1 [.ptr 0 0, .str key] (RO (a ++ b)) Q := by
  refine ACall.ret (by_body Try.func26 1 rfl (Nat.le_of_ble_eq_true rfl) ?_)
  conv => whnf
  refine .call [0, 1] 2 ⟨rfl, rfl, rfl⟩ (at_spec ha hb hl ?_)
  conv => whnf
  unfold cutS at h
  refine branch_i (fun c => ?_) (fun c => ?_) <;> try rw [c] <;> conv => whnf
  · have c' : hasH key b = false := by simpa using c
    rw [c'] at h
    exact ⟨[0, 1], rfl, .done [0, 1] rfl h⟩
  · have c' : hasH key b = true := by simpa using c
    rw [c'] at h
    simp only [if_true] at h
    cases b with
    | nil => cases c'
    | cons x r =>
      have hab : (a ++ x :: r).length = a.length + r.length + 1 := by simp; omega
      have l1 : (strs (kL (a ++ x :: r))).length = a.length + r.length + 1 := by simp [strs]; omega
      have l2 : (ints (vL (a ++ x :: r))).length = a.length + r.length + 1 := by simp [ints]; omega
      have hw : IntKind.i64.wrap ((a.length : Int) + 1) = ((a.length + 1 : Nat) : Int) := by rw [IntKind.wrap_i64]; omega
      refine ⟨⟨by omega, by rw [l1]; omega⟩, ?_⟩
      conv => whnf
      refine ⟨(show ((strs (kL (a ++ x :: r))).take a.length).length * 16 ≤ 70368744177664 by rw [List.length_take]; omega), ?_⟩
      conv => whnf
      refine ⟨⟨by omega, by rw [l2]; omega⟩, ?_⟩
      conv => whnf
      refine ⟨(show 0 + a.length ≤ (ints (vL (a ++ x :: r))).length by rw [l2]; omega), ?_⟩
      conv => whnf
      refine ⟨(show ((ints (vL (a ++ x :: r))).take a.length).length * 8 ≤ 70368744177664 by rw [List.length_take]; omega), ?_⟩
      conv => whnf
      simp only [hw]
      refine ⟨⟨by omega, by rw [l1]; omega⟩, ?_⟩
      conv => whnf
      refine ⟨rfl, ?_⟩
      conv => whnf
      refine ⟨(show ((strs (kL (a ++ x :: r))).take a.length ++ (strs (kL (a ++ x :: r))).drop (a.length + 1)).length * 16 ≤ 70368744177664 by simp only [List.length_append, List.length_take, List.length_drop]; omega), ?_⟩
      conv => whnf
      simp only [hw]
      refine ⟨⟨by omega, by rw [l2]; omega⟩, ?_⟩
      conv => whnf
      refine ⟨(show a.length + 1 + 0 + ((ints (vL (a ++ x :: r))).length - (a.length + 1)) ≤ (ints (vL (a ++ x :: r))).length by rw [l2]; omega), ?_⟩
      conv => whnf
      refine ⟨rfl, ?_⟩
      conv => whnf
      refine ⟨(show ((ints (vL (a ++ x :: r))).take a.length ++ ((ints (vL (a ++ x :: r))).drop (a.length + 1)).take ((ints (vL (a ++ x :: r))).length - (a.length + 1))).length * 8 ≤ 70368744177664 by simp only [List.length_append, List.length_take, List.length_drop]; omega), ?_⟩
      conv => whnf
      have d1 : (strs (kL (a ++ x :: r))).drop (a.length + 1) = strs (kL r) := by
        rw [show a.length + 1 = (strs (kL a)).length + 1 by simp [strs]]
        simp [strs, List.drop_append]
      have d2 : (ints (vL (a ++ x :: r))).drop (a.length + 1) = ints (vL r) := by
        rw [show a.length + 1 = (ints (vL a)).length + 1 by simp [ints]]
        simp [ints, List.drop_append]
      have ek : List.take ((strs (kL (a ++ x :: r))).take a.length ++ (strs (kL (a ++ x :: r))).drop (a.length + 1)).length ((strs (kL (a ++ x :: r))).take a.length ++ (strs (kL (a ++ x :: r))).drop (a.length + 1)) = strs (kL (a ++ r)) := by
        rw [List.take_length, d1]; simp [strs]
      have ev : (ints (vL (a ++ x :: r))).take a.length ++ ((ints (vL (a ++ x :: r))).drop (a.length + 1)).take ((ints (vL (a ++ x :: r))).length - (a.length + 1)) = ints (vL (a ++ r)) := by
        rw [List.take_of_length_le (l := (ints (vL (a ++ x :: r))).drop (a.length + 1)) (by simp), d2]
        simp [ints]
      simp only [List.tail_cons] at h
      unfold RO at h
      rw [← ek, ← ev] at h
      exact ⟨[0, 5, 4], rfl, .frz 2 rfl (And.intro (Nat.le_of_eq (Nat.zero_add _)) trivial) (.done [0, 1] rfl h)⟩

theorem RGet_spec {key : List UInt8} {a b : List KV} (ha : ∀ x ∈ a, Op.bytesLess x.1 key = true) (hb : ∀ x r, b = x :: r → Op.bytesLess x.1 key = false) (hl : (a ++ b).length < 1000000)
    (h : Q (match hasH key b, b with | true, x :: _ => .tup [fI x.2, .bool true] | _, _ => .tup [fI 0, .bool false]) (RO (a ++ b))) :
    ACall Try.prog 27 2 [.ptr 0 0, .str key] (RO (a ++ b)) Q := by
  refine by_body Try.func27 2 rfl (Nat.le_of_ble_eq_true rfl) ?_
  conv => whnf
  refine .call [0, 1] 2 ⟨rfl, rfl, rfl⟩ (at_spec ha hb hl ?_)
  conv => whnf
  refine branch_i (fun c => ?_) (fun c => ?_) <;> try rw [c] <;> conv => whnf
  · have c' : hasH key b = false := by simpa using c
    rw [c'] at h
    exact ⟨[0, 1], rfl, h⟩
  · have c' : hasH key b = true := by simpa using c
    rw [c'] at h
    cases b with
    | nil => cases c'
    | cons x r =>
      simp only at h
      refine ⟨⟨by omega, by simp [ints]; omega⟩, ?_⟩
      conv => whnf
      refine ⟨[.int .i64 x.2], by simp [ints], ?_⟩
      conv => whnf
      exact ⟨[0, 1], rfl, h⟩

theorem take_full {α : Type} {a b : List α} {m : Nat} (h1 : a.length ≤ m) (h2 : m ≤ a.length ∨ b = []) : (a ++ b).take m = a := by
  rcases h2 with h2 | rfl
  · exact take_stop h1 h2
  · rw [List.append_nil, List.take_of_length_le h1]

theorem gtr_eq (k a : List UInt8) : (!(Op.bytesLess k a || decide (k = a))) = Op.bytesLess a k := by
  by_cases e : k = a
  · subst e; simp [less_irrefl]
  · cases h : Op.bytesLess k a with
    | true => rw [less_asymm h]; rfl
    | false =>
      cases h2 : Op.bytesLess a k with
      | true => simp [e]
      | false => exact absurd (less_total h h2) e

theorem filter_one {α : Type} (f : α → Bool) (x : α) : [x].filter f = if f x then [x] else [] := by
  cases h : f x <;> simp [h]

/-- the keys told so far, and where they lie -/
def bOut (l : List KV) : List (List V) → V × List O
  | [] => (.nils, RO l)
  | x :: r => (.ms 1 2 0 (x :: r).length false, RO l ++ [.buf (x :: r)])

theorem Behind_spec {after : List UInt8} {most : Int} {l : List KV} (hl : l.length < 1000000) (h : Q (.sl 1 (strs (((kL l).filter (behindR after)).take most.toNat)) false) (RO l)) :
    ACall Try.prog 28 2 [.ptr 0 0, .str after, fI most] (RO l) Q := by
  refine ACall.sub (ACall.ret (by_body Try.func28 2 rfl (Nat.le_of_ble_eq_true rfl) ?_))
  conv => whnf
  have hlk : (strs (kL l)).length = l.length := by simp [strs]
  refine ⟨⟨[0, 1, 2, 7, 8], fun m vs H => ∃ (i : Nat) (out : List (List UInt8)), out = (kL (l.take i)).filter (behindR after) ∧ out.length ≤ most.toNat ∧ i ≤ l.length ∧ vs = [.ptr 0 0, .str after, fI most, (bOut l (strs out)).1, fI i] ∧ H = (bOut l (strs out)).2 ∧ m = l.length - i,
    .at _ ⟨0, [], by simp, by simp, Nat.zero_le _, rfl, rfl, rfl⟩, ?_⟩⟩
  rintro m vs H ⟨i, out, hout, hle, hi, rfl, rfl, rfl⟩
  have hol := strs_len out
  have hsplit : (kL l).filter (behindR after) = out ++ (kL (l.drop i)).filter (behindR after) := by
    rw [hout, ← List.filter_append, ← List.map_append, List.take_append_drop]
  have hget : ∀ j (x : KV), l[j]? = some x → (strs (kL l))[j]? = some [V.str x.1] := fun j x hx => strs_get (show (List.map (fun y : KV => y.1) l)[j]? = some x.1 by rw [List.getElem?_map, hx]; rfl)
  have hnext : ∀ x : KV, l[i]? = some x → (kL (l.take (i + 1))).filter (behindR after) = out ++ (if behindR after x.1 then [x.1] else []) := fun x hx => by
    rw [List.take_add_one, hx, hout]
    simp only [Option.toList_some, List.map_append, List.filter_append, List.map_cons, List.map_nil]
    congr 1
    rw [filter_one]
  have hwi : IntKind.i64.wrap ((i : Int) + 1) = ((i + 1 : Nat) : Int) := by rw [IntKind.wrap_i64]; omega
  -- at the end
  have hend : l.length ≤ i ∨ most.toNat ≤ out.length → ((kL l).filter (behindR after)).take most.toNat = out := fun hx => by
    rw [hsplit]
    refine take_full hle ?_
    rcases hx with hx | hx
    · right; rw [List.drop_of_length_le hx]; rfl
    · exact .inl hx
  have hoN : out.length ≤ l.length := by
    rw [hout]
    refine Nat.le_trans (List.length_filter_le _ _) ?_
    simp; omega
  generalize hes : strs out = es at *
  cases es with
  | nil =>
    simp only [List.length_nil] at hol
    have ho0 : out = [] := List.eq_nil_of_length_eq_zero (by omega)
    conv => whnf
    refine branch_i (fun c => ?_) (fun c => ?_) <;> try rw [c] <;> conv => whnf
    focus refine branch_i (fun c2 => ?_) (fun c2 => ?_) <;> try rw [c2] <;> conv => whnf
    focus
      have c' := of_decide_eq_true c
      rw [hlk] at c'
      have c2' := of_decide_eq_true c2
      have hlt : i < l.length := by omega
      obtain ⟨x, hx⟩ : ∃ x, l[i]? = some x := ⟨_, List.getElem?_eq_getElem hlt⟩
      have hn := hnext x hx
      by_cases ha : after = []
      · rw [show decide (after = []) = true by simp [ha]]
        conv => whnf
        refine ⟨_, ⟨by omega, hget i x hx⟩, ?_⟩
        conv => whnf
        refine ⟨Nat.le_refl _, ?_⟩
        conv => whnf
        refine ⟨(show (1 : Nat) * 16 ≤ 70368744177664 by decide), ?_⟩
        conv => whnf
        have hb : behindR after x.1 = true := by simp [behindR, ha]
        rw [hb, if_pos rfl, ho0] at hn
        refine .go [0, 1, 3] rfl (l.length - (i + 1)) (by omega) ⟨i + 1, [x.1], by rw [hn]; rfl, by simp; omega, by omega, ?_, rfl, rfl⟩
        show [V.ptr 0 0, V.str after, V.int .i64 most, V.ms 1 2 0 1 false, V.int .i64 (IntKind.i64.wrap ((i : Int) + 1))] = _
        rw [hwi]; rfl
      · rw [show decide (after = []) = false by simp [ha]]
        conv => whnf
        refine ⟨_, ⟨by omega, hget i x hx⟩, ?_⟩
        conv => whnf
        rw [gtr_eq]
        have hbe : behindR after x.1 = Op.bytesLess after x.1 := by simp [behindR, ha]
        cases hb : Op.bytesLess after x.1 with
        | true =>
          conv => whnf
          refine ⟨_, ⟨by omega, hget i x hx⟩, ?_⟩
          conv => whnf
          refine ⟨Nat.le_refl _, ?_⟩
          conv => whnf
          refine ⟨(show (1 : Nat) * 16 ≤ 70368744177664 by decide), ?_⟩
          conv => whnf
          rw [hbe, hb, if_pos rfl, ho0] at hn
          refine .go [0, 1, 3] rfl (l.length - (i + 1)) (by omega) ⟨i + 1, [x.1], by rw [hn]; rfl, by simp; omega, by omega, ?_, rfl, rfl⟩
          show [V.ptr 0 0, V.str after, V.int .i64 most, V.ms 1 2 0 1 false, V.int .i64 (IntKind.i64.wrap ((i : Int) + 1))] = _
          rw [hwi]; rfl
        | false =>
          conv => whnf
          rw [hbe, hb, ho0] at hn
          refine .go [0, 1] rfl (l.length - (i + 1)) (by omega) ⟨i + 1, [], by rw [hn]; rfl, by simp, by omega, ?_, rfl, rfl⟩
          show [V.ptr 0 0, V.str after, V.int .i64 most, V.nils, V.int .i64 (IntKind.i64.wrap ((i : Int) + 1))] = _
          rw [hwi]; rfl
    all_goals
      have c3 : l.length ≤ i ∨ most.toNat ≤ out.length := by
        first
          | (left; have := of_decide_eq_false c; rw [hlk] at this; omega)
          | (right; have := of_decide_eq_false c2; omega)
      rw [hend c3, hes] at h
      exact ⟨[0, 1], rfl, .done [0, 1] rfl ⟨_, _, VSub.nils 1 false, HSub.refl _, h⟩⟩
  | cons y r =>
    simp only [List.length_cons] at hol
    conv => whnf
    refine branch_i (fun c => ?_) (fun c => ?_) <;> try rw [c] <;> conv => whnf
    focus refine branch_i (fun c2 => ?_) (fun c2 => ?_) <;> try rw [c2] <;> conv => whnf
    focus
      have c' := of_decide_eq_true c
      rw [hlk] at c'
      have c2' := of_decide_eq_true c2
      simp only [List.length_cons] at c2'
      have hlt : i < l.length := by omega
      obtain ⟨x, hx⟩ : ∃ x, l[i]? = some x := ⟨_, List.getElem?_eq_getElem hlt⟩
      have hn := hnext x hx
      have hso : strs (out ++ [x.1]) = y :: (r ++ [[.str x.1]]) := by rw [strs_app, hes]; rfl
      have hgo : behindR after x.1 = true → ∀ H, H = (bOut l (y :: (r ++ [[V.str x.1]]))).2 → ∀ vs, vs = [.ptr 0 0, .str after, fI most, .ms 1 2 0 (y :: (r ++ [[V.str x.1]])).length false, fI (IntKind.i64.wrap ((i : Int) + 1))] →
          ∃ (i2 : Nat) (out2 : List (List UInt8)), out2 = (kL (l.take i2)).filter (behindR after) ∧ out2.length ≤ most.toNat ∧ i2 ≤ l.length ∧ vs = [.ptr 0 0, .str after, fI most, (bOut l (strs out2)).1, fI i2] ∧ H = (bOut l (strs out2)).2 ∧ l.length - (i + 1) = l.length - i2 := fun hb H hH vs hvs => by
        rw [hb, if_pos rfl] at hn
        refine ⟨i + 1, out ++ [x.1], hn.symm, by simp; omega, by omega, ?_, by rw [hso]; exact hH, rfl⟩
        rw [hso, hvs, hwi]; rfl
      by_cases ha : after = []
      · rw [show decide (after = []) = true by simp [ha]]
        conv => whnf
        refine ⟨_, ⟨by omega, hget i x hx⟩, ?_⟩
        conv => whnf
        refine ⟨Nat.le_refl _, ?_⟩
        conv => whnf
        refine ⟨by simp, ?_⟩
        conv => whnf
        refine ⟨(show (y :: (r ++ [[V.str x.1]])).length * 16 ≤ 70368744177664 by simp only [List.length_cons, List.length_append, List.length_nil]; omega), ?_⟩
        conv => whnf
        exact .go [0, 1, 4] rfl (l.length - (i + 1)) (by omega) (hgo (by simp [behindR, ha]) _ rfl _ rfl)
      · rw [show decide (after = []) = false by simp [ha]]
        conv => whnf
        refine ⟨_, ⟨by omega, hget i x hx⟩, ?_⟩
        conv => whnf
        rw [gtr_eq]
        have hbe : behindR after x.1 = Op.bytesLess after x.1 := by simp [behindR, ha]
        cases hb : Op.bytesLess after x.1 with
        | true =>
          conv => whnf
          refine ⟨_, ⟨by omega, hget i x hx⟩, ?_⟩
          conv => whnf
          refine ⟨Nat.le_refl _, ?_⟩
          conv => whnf
          refine ⟨by simp, ?_⟩
          conv => whnf
          refine ⟨(show (y :: (r ++ [[V.str x.1]])).length * 16 ≤ 70368744177664 by simp only [List.length_cons, List.length_append, List.length_nil]; omega), ?_⟩
          conv => whnf
          exact .go [0, 1, 4] rfl (l.length - (i + 1)) (by omega) (hgo (by rw [hbe, hb]) _ rfl _ rfl)
        | false =>
          conv => whnf
          rw [hbe, hb] at hn
          refine .go [0, 1, 2] rfl (l.length - (i + 1)) (by omega) ⟨i + 1, out, by rw [hn]; simp, by omega, by omega, ?_, by rw [hes]; rfl, rfl⟩
          rw [hes]
          show [V.ptr 0 0, V.str after, V.int .i64 most, V.ms 1 2 0 (y :: r).length false, V.int .i64 (IntKind.i64.wrap ((i : Int) + 1))] = _
          rw [hwi]; rfl
    all_goals
      have c3 : l.length ≤ i ∨ most.toNat ≤ out.length := by
        first
          | (left; have := of_decide_eq_false c; rw [hlk] at this; omega)
          | (right; have := of_decide_eq_false c2; simp only [List.length_cons] at this; omega)
      rw [hend c3, hes] at h
      exact ⟨[0, 1, 2], rfl, .frz_ms (id := 2) (es := y :: r) (z := 1) (c := false) rfl rfl trivial (.done [0, 1] rfl ⟨_, _, .refl _, HSub.refl _, h⟩)⟩


end Go.Proofs.YtfhoblpcneachaaPg
