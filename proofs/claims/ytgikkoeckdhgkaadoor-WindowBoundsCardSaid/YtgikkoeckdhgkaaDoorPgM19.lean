/- Own texts, laid together: Pg13DValid, Pg13DValG, Pg13DKeyP, Pg13DCmp, Pg13DEv1, Pg13DEv2, Pg13DEv3, Pg13DWin6, Pg13DEv4, Pg13DEv5, Pg13DLay, Pg13DLayB, Pg13DLayC, Pg13DLayD, Pg13DLayE, Pg13DEv6, Pg13DEvIn, Pg13DEv7, Pg13DEv8, Pg13DEv9, Pg13DWin7, Pg13DWin8, Pg13DWin9, Pg13DWin10, Pg13DWin11, Pg13DValF, Pg13DWin12, Pg13DEv10, Pg13DEv11, Pg13DWin13, Pg13DWin14, Pg13DWin15. -/
import Derived.Test.YtgikkoeckdhgkaaDoorPgM17
import Derived.Test.YtgikkoeckdhgkaaDoorPgM14
import Derived.Shelf.Unicode.ValidAny
import Derived.Test.YtgikkoeckdhgkaaDoorPgM18
/- utf8.ValidString: the shelf's contract. -/
namespace Go.Proofs.YtgikkoeckdhgkaaDoorPg
open Go Go.RowKit
set_option linter.unusedSimpArgs false
set_option linter.unusedVariables false

variable {Q : V → List O → Prop}

theorem ValidString_spec {s : List UInt8} (hs : s.length ≤ 9223372036854775807) (h : Q (.bool (u8 s)) []) : ACall Tryd.prog 88 0 [.str s] [] Q := by
  refine acall_below (r := .bool (u8 s)) (fun I ρ w us hst ha => ?_) h
  obtain ⟨u, us', e1, hu, ht⟩ := ha.cons_inv
  have e2 : us' = [] := List.eq_nil_of_length_eq_zero ht.1.symm
  obtain ⟨b, hb, rfl⟩ := vr_str hu
  subst e2
  have eu : us = #[.string b] := by
    apply Array.ext'
    simpa using e1
  subst eu
  refine ⟨.bool (u8 s), fun _ _ => .bool _ _, ?_⟩
  have hsz : b.size ≤ 9223372036854775807 := by
    have : b.size = s.length := by rw [← hb]; rfl
    omega
  have := Any.utf8_ValidString Tryd.laysValid b w hsz (tabs_of hst)
  rw [hb, valid_u8] at this
  exact this

end Go.Proofs.YtgikkoeckdhgkaaDoorPg

/- Values and rows: the program's own functions. -/
namespace Go.Proofs.YtgikkoeckdhgkaaDoorPg
open Go Go.RowKit
set_option linter.unusedSimpArgs false
set_option linter.unusedVariables false

variable {Q : V → List O → Prop}

theorem vals_take (vs : List Val) (n : Nat) : List.take n (vals vs) = vals (vs.take n) := by simp [vals, List.map_take]

theorem qb {b b' : Bool} {H : List O} (h : Q (.bool b) H) (e : b = b') : Q (.bool b') H := e ▸ h

set_option maxHeartbeats 4000000 in
theorem VMay_spec {v : Val} (ht : v.t.length < 1000000000000000000) (h : Q (.bool (mayV v)) []) : ACall Tryd.prog 78 0 [valA v] [] Q := by
  refine by_body Tryd.func78 0 rfl (Nat.le_of_ble_eq_true rfl) ?_
  conv => whnf
  refine branch_i (fun c1 => ?_) (fun c1 => ?_) <;> try rw [c1] <;> conv => whnf
  all_goals
    have hc := c1
    refine branch_i (fun k0 => ?_) (fun k0 => ?_) <;> try rw [k0] <;> conv => whnf
    focus
      refine ⟨[], rfl, qb h ?_⟩
      unfold mayV
      rw [if_pos (of_decide_eq_true k0), k0]
      simp
    have k0' := of_decide_eq_false k0
    refine branch_i (fun k1 => ?_) (fun k1 => ?_) <;> try rw [k1] <;> conv => whnf
    focus
      have e : mayV v = (decide (v.t = []) && (decide (v.n = 0) || decide (v.n = 1))) := by unfold mayV; rw [if_neg k0', if_pos (of_decide_eq_true k1)]
      rw [e] at h
      refine branch_i (fun d1 => ?_) (fun d1 => ?_) <;> rw [d1] at h <;> try rw [d1] <;> conv => whnf
      focus exact ⟨[], rfl, qb h (by simp)⟩
      refine branch_i (fun d2 => ?_) (fun d2 => ?_) <;> rw [d2] at h <;> try rw [d2] <;> conv => whnf
      · exact ⟨[], rfl, qb h (by simp)⟩
      · exact ⟨[], rfl, qb h (by simp)⟩
    have k1' := of_decide_eq_false k1
    refine branch_i (fun k2 => ?_) (fun k2 => ?_) <;> try rw [k2] <;> conv => whnf
    focus
      have e : mayV v = decide (v.t = []) := by unfold mayV; rw [if_neg k0', if_neg k1', if_pos (of_decide_eq_true k2)]
      rw [e] at h
      exact ⟨[], rfl, h⟩
    have k2' := of_decide_eq_false k2
    refine branch_i (fun k3 => ?_) (fun k3 => ?_) <;> try rw [k3] <;> conv => whnf
    focus
      have e : mayV v = (u8 v.t && decide (v.n = 0) && decide ((v.t.length : Int) ≤ 4096)) := by unfold mayV; rw [if_neg k0', if_neg k1', if_neg k2', if_pos (of_decide_eq_true k3)]
      rw [e, hc] at h
      first
        | exact ⟨[], rfl, qb h (by simp)⟩
        | (refine branch_i (fun d1 => ?_) (fun d1 => ?_) <;> rw [d1] at h <;> try rw [d1] <;> conv => whnf
           · refine .pure (ValidString_spec (by omega) ⟨rfl, ?_⟩)
             conv => whnf
             exact ⟨[], rfl, qb h (by simp)⟩
           · exact ⟨[], rfl, qb h (by simp)⟩)
    have k3' := of_decide_eq_false k3
    refine branch_i (fun k4 => ?_) (fun k4 => ?_) <;> try rw [k4] <;> conv => whnf
    · have e : mayV v = (decide (v.n = 0) && decide ((v.t.length : Int) ≤ 4096)) := by unfold mayV; rw [if_neg k0', if_neg k1', if_neg k2', if_neg k3', if_pos (of_decide_eq_true k4)]
      rw [e, hc] at h
      exact ⟨[], rfl, qb h (by simp)⟩
    · have e : mayV v = false := by unfold mayV; rw [if_neg k0', if_neg k1', if_neg k2', if_neg k3', if_neg (of_decide_eq_false k4)]
      rw [e] at h
      exact ⟨[], rfl, h⟩

theorem fits_spec {c : Col} {v : Val} (ht : v.t.length < 1000000000000000000) (h : Q (.bool (standsV c v)) []) : ACall Tryd.prog 77 0 [colA c, valA v] [] Q := by
  refine by_body Tryd.func77 0 rfl (Nat.le_of_ble_eq_true rfl) ?_
  conv => whnf
  unfold standsV at h
  refine .pure (VMay_spec ht ⟨rfl, ?_⟩)
  conv => whnf
  cases c1 : mayV v <;> rw [c1] at h <;> conv => whnf
  focus exact ⟨[], rfl, h⟩
  refine branch_i (fun c2 => ?_) (fun c2 => ?_) <;> rw [c2] at h <;> try rw [c2] <;> conv => whnf
  focus exact ⟨[], rfl, h⟩
  refine branch_i (fun c3 => ?_) (fun c3 => ?_) <;> rw [c3] at h <;> try rw [c3] <;> conv => whnf
  all_goals exact ⟨[], rfl, h⟩

theorem begins_spec {l : List Col} {keys : Int} {vs : List Val} {f : Bool} {n : Nat} (hl : l.length ≤ 1000) (hn : n ≤ l.length) (ht : TextsOk vs) (h : Q (.bool (keyOkL l n vs)) []) :
    ACall Tryd.prog 61 0 [sch l keys, .sl 3 (vals vs) f, fI n] [] Q := by
  have hlc := cols_len l
  have hlv := vals_len vs
  refine by_body Tryd.func61 0 rfl (Nat.le_of_ble_eq_true rfl) ?_
  conv => whnf
  refine branch_i (fun c1 => ?_) (fun c1 => ?_) <;> try rw [c1] <;> conv => whnf
  focus
    have c1' := of_decide_eq_true c1
    have e : keyOkL l n vs = false := by unfold keyOkL; rw [decide_eq_false (by omega), Bool.false_and]
    rw [e] at h
    exact ⟨[], rfl, h⟩
  have c1' := of_decide_eq_false c1
  refine ⟨⟨[1, 3, 12, 13], fun m ws H => ∃ i : Nat, ws = [.sl 3 (vals vs) f, .ptr 0 0, fI n, fI i] ∧ H = [.cells [.sl 3 (cols l) false, fI keys]] ∧ standN l vs i ∧ i ≤ n ∧ m = n - i,
    .at n ⟨0, rfl, rfl, fun i c v hi => by omega, Nat.zero_le _, rfl⟩, ?_⟩⟩
  rintro m ws H ⟨i, rfl, rfl, hs, hi, rfl⟩
  conv => whnf
  refine branch_i (fun c2 => ?_) (fun c2 => ?_) <;> try rw [c2] <;> conv => whnf
  focus
    have c2' := of_decide_eq_true c2
    have hi1 : i < l.length := by omega
    have hi2 : i < vs.length := by omega
    have g1 : l[i]? = some l[i] := List.getElem?_eq_getElem hi1
    have g2 : vs[i]? = some vs[i] := List.getElem?_eq_getElem hi2
    have htt := ht vs[i] (List.getElem_mem hi2)
    generalize l[i] = c at *
    generalize vs[i] = v at *
    refine ⟨List.range 11, by kernel_rfl, by kernel_rfl, ?_⟩
    conv => whnf
    refine ⟨_, ⟨by omega, cols_get g1⟩, ?_⟩
    conv => whnf
    refine ⟨_, ⟨by omega, vals_get g2⟩, ?_⟩
    conv => whnf
    refine .pure (fits_spec (c := c) (v := v) htt ⟨rfl, ?_⟩)
    conv => whnf
    cases e : standsV c v
    · conv => whnf
      rw [keyOk_no (by omega) g1 g2 e] at h
      exact ⟨[], rfl, h⟩
    · conv => whnf
      refine .go [0] rfl (n - (i + 1)) (by omega) ⟨i + 1, ?_, rfl, fun j c' v' hj hc' hv' => ?_, by omega, rfl⟩
      · show [V.sl 3 (vals vs) f, V.ptr 0 0, fI n, V.int .i64 (IntKind.i64.wrap ((i : Int) + 1))] = _
        rw [wrapI (by omega)]; rfl
      · rcases Nat.lt_or_ge j i with h1 | h1
        · exact hs j c' v' h1 hc' hv'
        · have : j = i := by omega
          subst this
          rw [g1] at hc'; rw [g2] at hv'; cases hc'; cases hv'; exact e
  have c2' := of_decide_eq_false c2
  have hie : i = n := by omega
  subst hie
  rw [keyOk_yes (by omega) hs] at h
  exact ⟨[], rfl, h⟩

theorem Fits_spec {l : List Col} {keys : Int} {vs : List Val} {f : Bool} (hl : l.length ≤ 1000) (ht : TextsOk vs) (h : Q (.bool (fitsL l vs)) []) :
    ACall Tryd.prog 36 0 [sch l keys, .sl 3 (vals vs) f] [] Q := by
  have hlc := cols_len l
  have hlv := vals_len vs
  refine by_body Tryd.func36 0 rfl (Nat.le_of_ble_eq_true rfl) ?_
  conv => whnf
  by_cases e : vs.length = l.length
  rotate_left
  focus
    rw [show decide (((vals vs).length : Int) = ((cols l).length : Int)) = false by simp only [hlv, hlc, decide_eq_false_iff_not]; omega]
    conv => whnf
    have e2 : fitsL l vs = false := by unfold fitsL; rw [decide_eq_false e, Bool.false_and]
    rw [e2] at h
    exact ⟨[], rfl, h⟩
  rw [show decide (((vals vs).length : Int) = ((cols l).length : Int)) = true by simp only [hlv, hlc, decide_eq_true_eq]; omega]
  conv => whnf
  rw [hlv]
  refine .pure (begins_spec hl (by omega) ht ⟨rfl, ?_⟩)
  conv => whnf
  refine ⟨[], rfl, qb h ?_⟩
  unfold fitsL keyOkL
  rw [decide_eq_true e, decide_eq_true (Nat.le_refl _)]

end Go.Proofs.YtgikkoeckdhgkaaDoorPg

/- Keys of values: the program's functions. -/
namespace Go.Proofs.YtgikkoeckdhgkaaDoorPg
open Go Go.RowKit
set_option linter.unusedSimpArgs false
set_option linter.unusedVariables false

variable {Q : V → List O → Prop}

set_option maxHeartbeats 8000000 in
set_option maxRecDepth 10000 in
theorem key_spec {v : Val} {P : List UInt8} (hP : P.length ≤ 9000000) (hvt : v.t.length ≤ 4096) (h : Q (.ms 1 0 0 (bs (P ++ keyV v)).length false) [.buf (bs (P ++ keyV v))]) :
    ACall Tryd.prog 79 0 [.ms 1 0 0 (bs P).length false, valA v] [.buf (bs P)] Q := by
  refine by_body Tryd.func79 0 rfl (Nat.le_of_ble_eq_true rfl) ?_
  conv => whnf
  refine ⟨Nat.le_refl _, ?_⟩
  conv => whnf
  refine ⟨rfl, ?_⟩
  conv => whnf
  refine ⟨Nat.le_trans (Nat.mul_le_mul_right _ (by rw [List.length_append, List.length_take, List.drop_zero]; exact Nat.add_le_add (show _ ≤ 9000000 by simp only [bs_len, List.length_append, List.length_cons, List.length_nil, List.length_take, List.length_drop]; omega) (Nat.le_trans (Nat.min_le_left _ _) (by decide)))) (show (9000000 + 2) * 1 ≤ 70368744177664 by omega), ?_⟩
  conv => whnf
  by_cases k1 : v.k = 1
  focus
    have hk : keyV v = [b8 v.k, b8 v.n] := by unfold keyV keyT; rw [if_pos k1]
    rw [hk] at h
    rw [show decide (v.k = 1) = true by simp [k1]]
    conv => whnf
    refine ⟨Nat.le_refl _, ?_⟩
    conv => whnf
    refine ⟨rfl, ?_⟩
    conv => whnf
    refine ⟨Nat.le_trans (Nat.mul_le_mul_right _ (by rw [List.length_append, List.length_take, List.drop_zero]; exact Nat.add_le_add (show _ ≤ 9000001 by simp only [bs_len, List.length_append, List.length_cons, List.length_nil, List.length_take, List.length_drop]; omega) (Nat.le_trans (Nat.min_le_left _ _) (by decide)))) (show (9000001 + 2) * 1 ≤ 70368744177664 by omega), ?_⟩
    conv => whnf
    refine ⟨[5], rfl, ?_⟩
    have e : bs (P ++ [b8 v.k, b8 v.n]) = bs P ++ [[V.int .u8 (IntKind.u8.wrap v.k)]] ++ [[V.int .u8 (IntKind.u8.wrap v.n)]] := by simp [bs, b8_wrap]
    rw [e] at h
    exact h
  rw [show decide (v.k = 1) = false by simp [k1]]
  conv => whnf
  by_cases k2 : v.k = 2
  focus
    have hk : keyV v = b8 v.k :: beB (keyM v.n) 8 := by unfold keyV keyT; rw [if_neg k1, if_pos k2]
    rw [hk] at h
    rw [show decide (v.k = 2) = true by simp [k2]]
    conv => whnf
    refine ⟨⟨[0, 3, 25], fun m ws H => ∃ (j : Nat), ws = [.ms 1 1 0 (bs (P ++ b8 v.k :: beB (keyM v.n) j)).length false, .ptr 0 0, fI j] ∧
      H = [.cells (valC v), .buf (bs (P ++ b8 v.k :: beB (keyM v.n) j))] ∧ j ≤ 8 ∧ m = 8 - j, .frz 9 (.go [1, 3] rfl 8 (by omega) ⟨0, ?_, ?_, by omega, rfl⟩), ?_⟩⟩
    · show [V.ms 1 1 0 (bs P ++ [[V.int .u8 (IntKind.u8.wrap v.k)]]).length false, V.ptr 0 0, fI 0] = _
      simp [bs, beB]
    · show [O.cells (valC v), O.buf (bs P ++ [[V.int .u8 (IntKind.u8.wrap v.k)]])] = _
      simp [bs, beB, b8_wrap]
    rintro m ws H ⟨j, rfl, rfl, hj, rfl⟩
    conv => whnf
    have hbl := beB_len (keyM v.n) j
    refine branch_i (fun d1 => ?_) (fun d1 => ?_) <;> try rw [d1] <;> conv => whnf
    rotate_left
    focus
      have d1' := of_decide_eq_false d1
      have hj8 : j = 8 := by omega
      subst hj8
      exact ⟨[1], rfl, h⟩
    have d1' := of_decide_eq_true d1
    refine ⟨(by rw [IntKind.wrap_i64, IntKind.wrap_i64]; omega), ?_⟩
    conv => whnf
    refine ⟨Nat.le_refl _, ?_⟩
    conv => whnf
    refine ⟨rfl, ?_⟩
    conv => whnf
    refine ⟨Nat.le_trans (Nat.mul_le_mul_right _ (by rw [List.length_append, List.length_take, List.drop_zero]; exact Nat.add_le_add (show _ ≤ 9000009 by simp only [bs_len, List.length_append, List.length_cons, List.length_nil, List.length_take, List.length_drop]; omega) (Nat.le_trans (Nat.min_le_left _ _) (by decide)))) (show (9000009 + 2) * 1 ≤ 70368744177664 by omega), ?_⟩
    conv => whnf
    have hby := byte_eq v.n j (by omega)
    refine .go [0, 3] rfl (8 - (j + 1)) (by omega) ⟨j + 1, ?_, ?_, by omega, rfl⟩
    · show [V.ms 1 1 0 (bs (P ++ b8 v.k :: beB (keyM v.n) j) ++ [[V.int .u8 (IntKind.u8.wrap _)]]).length false, V.ptr 0 0, V.int .i64 (IntKind.i64.wrap ((j : Int) + 1))] = _
      rw [wrapI (n := (j : Int) + 1) (by omega)]; simp [bs, beB]
    · show [O.cells (valC v), O.buf (bs (P ++ b8 v.k :: beB (keyM v.n) j) ++ [[V.int .u8 (IntKind.u8.wrap _)]])] = _
      rw [b8_wrap, xor_keyB, hby]
      simp [bs, beB]
  rw [show decide (v.k = 2) = false by simp [k2]]
  conv => whnf
  by_cases k34 : v.k = 3 ∨ v.k = 4
  rotate_left
  focus
    have hk : keyV v = [b8 v.k] := by unfold keyV keyT; rw [if_neg k1, if_neg k2, if_neg k34]
    rw [hk] at h
    rw [show decide (v.k = 3) = false by simp; omega]
    conv => whnf
    rw [show decide (v.k = 4) = false by simp; omega]
    conv => whnf
    refine ⟨[3], rfl, ?_⟩
    have e : bs (P ++ [b8 v.k]) = bs P ++ [[V.int .u8 (IntKind.u8.wrap v.k)]] := by simp [bs, b8_wrap]
    rw [e] at h
    exact h
  have hk : keyV v = b8 v.k :: (escL v.t ++ [0, 1]) := by unfold keyV keyT; rw [if_neg k1, if_neg k2, if_pos k34]
  rw [hk] at h
  by_cases k3 : v.k = 3
  focus
    rw [show decide (v.k = 3) = true by simp [k3]]
    conv => whnf
  rotate_left
  focus
    rw [show decide (v.k = 3) = false by simp [k3]]
    conv => whnf
    rw [show decide (v.k = 4) = true by simp; omega]
    conv => whnf
  all_goals
    refine ⟨⟨[0, 3, 46, 47], fun m ws H => ∃ (j : Nat), ws = [.ms 1 1 0 (bs (P ++ b8 v.k :: escL (v.t.take j))).length false, .ptr 0 0, fI v.t.length, fI j] ∧
      H = [.cells (valC v), .buf (bs (P ++ b8 v.k :: escL (v.t.take j)))] ∧ j ≤ v.t.length ∧ m = v.t.length - j, .frz (v.t.length + 1) (.go [1, 3] rfl v.t.length (by omega) ⟨0, ?_, ?_, by omega, rfl⟩), ?_⟩⟩
    · show [V.ms 1 1 0 (bs P ++ [[V.int .u8 (IntKind.u8.wrap v.k)]]).length false, V.ptr 0 0, fI v.t.length, fI 0] = _
      simp [bs, escL]
    · show [O.cells (valC v), O.buf (bs P ++ [[V.int .u8 (IntKind.u8.wrap v.k)]])] = _
      simp [bs, escL, b8_wrap]
    rintro m ws H ⟨j, rfl, rfl, hj, rfl⟩
    conv => whnf
    have hel := escL_len (v.t.take j)
    rw [List.length_take] at hel
    refine branch_i (fun d1 => ?_) (fun d1 => ?_) <;> try rw [d1] <;> conv => whnf
    focus
      have d1' := of_decide_eq_true d1
      have hjl : j < v.t.length := by omega
      have hgb : v.t[j]? = some v.t[j] := List.getElem?_eq_getElem hjl
      generalize v.t[j] = b at *
      have hes := escL_snoc hgb
      refine ⟨b, ⟨by omega, hgb⟩, ?_⟩
      conv => whnf
      refine ⟨Nat.le_refl _, ?_⟩
      conv => whnf
      refine ⟨rfl, ?_⟩
      conv => whnf
      refine ⟨Nat.le_trans (Nat.mul_le_mul_right _ (by rw [List.length_append, List.length_take, List.drop_zero]; exact Nat.add_le_add (show _ ≤ 9010000 by simp only [bs_len, List.length_append, List.length_cons, List.length_nil, List.length_take, List.length_drop]; omega) (Nat.le_trans (Nat.min_le_left _ _) (by decide)))) (show (9010000 + 2) * 1 ≤ 70368744177664 by omega), ?_⟩
      conv => whnf
      refine ⟨b, ⟨by omega, hgb⟩, ?_⟩
      conv => whnf
      by_cases hb : b = 0
      · subst hb
        conv => whnf
        refine ⟨Nat.le_refl _, ?_⟩
        conv => whnf
        refine ⟨rfl, ?_⟩
        conv => whnf
        refine ⟨Nat.le_trans (Nat.mul_le_mul_right _ (by rw [List.length_append, List.length_take, List.drop_zero]; exact Nat.add_le_add (show _ ≤ 9010001 by simp only [bs_len, List.length_append, List.length_cons, List.length_nil, List.length_take, List.length_drop]; omega) (Nat.le_trans (Nat.min_le_left _ _) (by decide)))) (show (9010001 + 2) * 1 ≤ 70368744177664 by omega), ?_⟩
        conv => whnf
        have he : escB 0 = [0, 255] := rfl
        rw [he] at hes
        refine .go [0, 5] rfl (v.t.length - (j + 1)) (by omega) ⟨j + 1, ?_, ?_, by omega, rfl⟩
        · show [V.ms 1 1 0 (bs (P ++ b8 v.k :: escL (v.t.take j)) ++ [[V.int .u8 ((0 : UInt8).toNat : Int)]] ++ [[V.int .u8 255]]).length false, V.ptr 0 0, fI v.t.length, V.int .i64 (IntKind.i64.wrap ((j : Int) + 1))] = _
          rw [wrapI (n := (j : Int) + 1) (by omega), hes]; simp [bs]
        · show [O.cells (valC v), O.buf (bs (P ++ b8 v.k :: escL (v.t.take j)) ++ [[V.int .u8 ((0 : UInt8).toNat : Int)]] ++ [[V.int .u8 255]])] = _
          rw [hes]; simp [bs]
      · have hb' : ¬ (b.toNat : Int) = 0 := fun e => hb (by
          have : b.toNat = 0 := by omega
          exact UInt8.toNat_inj.1 (by rw [this]; rfl))
        rw [show decide ((b.toNat : Int) = 0) = false by simp only [hb', decide_false]]
        conv => whnf
        have he : escB b = [b] := by unfold escB; rw [if_neg hb]
        rw [he] at hes
        refine .go [0, 3] rfl (v.t.length - (j + 1)) (by omega) ⟨j + 1, ?_, ?_, by omega, rfl⟩
        · show [V.ms 1 1 0 (bs (P ++ b8 v.k :: escL (v.t.take j)) ++ [[V.int .u8 (b.toNat : Int)]]).length false, V.ptr 0 0, fI v.t.length, V.int .i64 (IntKind.i64.wrap ((j : Int) + 1))] = _
          rw [wrapI (n := (j : Int) + 1) (by omega), hes]; simp [bs]
        · show [O.cells (valC v), O.buf (bs (P ++ b8 v.k :: escL (v.t.take j)) ++ [[V.int .u8 (b.toNat : Int)]])] = _
          rw [hes]; simp [bs]
    have d1' := of_decide_eq_false d1
    have hjt : j = v.t.length := by omega
    subst hjt
    rw [List.take_length] at hel ⊢
    refine ⟨Nat.le_refl _, ?_⟩
    conv => whnf
    refine ⟨rfl, ?_⟩
    conv => whnf
    refine ⟨Nat.le_trans (Nat.mul_le_mul_right _ (by rw [List.length_append, List.length_take, List.drop_zero]; exact Nat.add_le_add (show _ ≤ 9010000 by simp only [bs_len, List.length_append, List.length_cons, List.length_nil, List.length_take, List.length_drop]; omega) (Nat.le_trans (Nat.min_le_left _ _) (by decide)))) (show (9010000 + 2) * 1 ≤ 70368744177664 by omega), ?_⟩
    conv => whnf
    refine ⟨[3], rfl, ?_⟩
    have e : bs (P ++ b8 v.k :: (escL v.t ++ [0, 1])) = bs (P ++ b8 v.k :: escL v.t) ++ [[V.int .u8 0], [V.int .u8 1]] := by simp [bs]
    rw [e] at h
    exact h

set_option maxHeartbeats 8000000 in
set_option maxRecDepth 10000 in
theorem Key_spec {l : List Val} {f : Bool} (hl : l.length ≤ 1000) (ht : TextsOk l) (h : Q (if l.all mayV then .tup [.str (keyS l), fI 0] else .tup [.str [], fI 1]) []) : ACall Tryd.prog 62 0 [.sl 3 (vals l) f] [] Q := by
  have hlv := vals_len l
  refine by_body Tryd.func62 0 rfl (Nat.le_of_ble_eq_true rfl) ?_
  conv => whnf
  refine ⟨⟨[4, 7, 8, 9], fun m ws H => ∃ i : Nat, ws = [.ms 1 0 0 (bs (keyS (l.take i))).length false, .sl 3 (vals l) f, fI l.length, fI i] ∧ H = [.buf (bs (keyS (l.take i)))] ∧ i ≤ l.length ∧ (∀ v ∈ l.take i, mayV v = true) ∧ m = l.length - i,
    .frz (l.length + 1) (.adopt (.sub _ _ (.cons (ms0_row 1 0) (VSubs.refl _)) (HSub.refl _) (.go [0] rfl l.length (by omega) ⟨0, ?_, rfl, by omega, by simp, rfl⟩))), ?_⟩⟩
  · show [V.ms 1 0 0 0 false, V.sl 3 (vals l) f, fI (vals l).length, fI 0] = _
    rw [hlv]; simp [keyS, bs]
  rintro m ws H ⟨i, rfl, rfl, hi, hm, rfl⟩
  conv => whnf
  refine branch_i (fun c1 => ?_) (fun c1 => ?_) <;> try rw [c1] <;> conv => whnf
  rotate_left
  focus
    have c1' := of_decide_eq_false c1
    have hie : l.take i = l := List.take_of_length_le (by omega)
    rw [hie] at hm ⊢
    rw [if_pos (List.all_eq_true.2 hm)] at h
    refine ⟨(by omega : 0 + (bs (keyS l)).length ≤ (bs (keyS l)).length), keyS l, ?_, ?_⟩
    · show bytesOfEs (List.take (bs (keyS l)).length (List.drop 0 (bs (keyS l)))) = _
      rw [List.drop_zero, List.take_length]; exact bytesOfEs_bs _
    conv => whnf
    exact ⟨[], rfl, h⟩
  have c1' := of_decide_eq_true c1
  have hlt : i < l.length := by omega
  have hg : l[i]? = some l[i] := List.getElem?_eq_getElem hlt
  have hvt := ht l[i] (List.getElem_mem hlt)
  have hmem : l[i] ∈ l := List.getElem_mem hlt
  generalize l[i] = v at *
  have hsn := keyS_snoc hg
  have hP : (keyS (l.take i)).length ≤ 9000000 := Nat.le_trans (keyS_len fun w hw => may_text (hm w hw)) (by rw [List.length_take]; omega)
  have htk : l.take (i + 1) = l.take i ++ [v] := by rw [List.take_add_one, hg]; rfl
  refine ⟨_, ⟨by omega, vals_get hg⟩, ?_⟩
  conv => whnf
  refine .pure (VMay_spec hvt ⟨rfl, ?_⟩)
  conv => whnf
  cases hmv : mayV v
  · conv => whnf
    rw [if_neg (by rw [List.all_eq_true]; intro hx; have := hx v hmem; rw [hmv] at this; cases this)] at h
    exact ⟨[], rfl, h⟩
  conv => whnf
  refine .call [0] 0 ⟨rfl, rfl, rfl⟩ (key_spec hP (may_text hmv) ?_)
  rw [← hsn]
  conv => whnf
  refine .go [0] rfl (l.length - (i + 1)) (by omega) ⟨i + 1, ?_, rfl, by omega, ?_, rfl⟩
  · show [V.ms 1 0 0 (bs (keyS (l.take (i + 1)))).length false, V.sl 3 (vals l) f, fI l.length, V.int .i64 (IntKind.i64.wrap ((i : Int) + 1))] = _
    rw [wrapI (by omega)]; rfl
  · rw [htk]
    intro w hw
    rcases List.mem_append.1 hw with h1 | h1
    · exact hm w h1
    · simp at h1; subst h1; exact hmv

theorem keyOk_may {l : List Col} {keys : Nat} {vs : List Val} (hk : keys ≤ l.length) (h : keyOkL l keys vs = true) : keys ≤ vs.length ∧ (vs.take keys).all mayV = true := by
  unfold keyOkL at h
  rw [Bool.and_eq_true, decide_eq_true_eq, List.all_eq_true] at h
  refine ⟨h.1, List.all_eq_true.2 fun v hv => ?_⟩
  obtain ⟨i, hi⟩ := List.mem_iff_getElem?.1 hv
  have hlt := (List.getElem?_eq_some_iff.1 hi).1
  rw [List.length_take] at hlt
  rw [List.getElem?_take_of_lt (by omega)] at hi
  have := h.2 i (List.mem_range.2 (by omega))
  rw [stAt_some (List.getElem?_eq_getElem (show i < l.length by omega)) hi] at this
  unfold standsV at this
  rw [Bool.and_eq_true] at this
  exact this.1

set_option maxHeartbeats 4000000 in
theorem SKey_spec {l : List Col} {keys : Nat} {vs : List Val} {f : Bool} (hl : l.length ≤ 1000) (hk : keys ≤ l.length) (ht : TextsOk vs) (h : Q (keyR l keys vs) []) :
    ACall Tryd.prog 35 0 [sch l keys, .sl 3 (vals vs) f] [] Q := by
  have hlv := vals_len vs
  refine by_body Tryd.func35 0 rfl (Nat.le_of_ble_eq_true rfl) ?_
  conv => whnf
  unfold keyR at h
  refine .pure (begins_spec hl hk ht ⟨rfl, ?_⟩)
  conv => whnf
  cases e : keyOkL l keys vs <;> rw [e] at h <;> conv => whnf
  focus exact ⟨[], rfl, h⟩
  obtain ⟨e1, e2⟩ := keyOk_may hk e
  refine ⟨⟨by omega, by omega⟩, ?_⟩
  conv => whnf
  rw [show List.take (keys : Int).toNat (vals vs) = vals (vs.take keys) from vals_take vs keys]
  refine .pure (Key_spec (by rw [List.length_take]; omega) (fun v hv => ht v (List.mem_of_mem_take hv)) ⟨rfl, ?_⟩)
  rw [e2]
  conv => whnf
  exact ⟨[], rfl, h⟩

end Go.Proofs.YtgikkoeckdhgkaaDoorPg

/- Texts compared; places in a sorted row. -/
namespace Go.Proofs.YtgikkoeckdhgkaaDoorPg
open Go Go.RowKit
set_option linter.unusedSimpArgs false
set_option linter.unusedVariables false

variable {Q : V → List O → Prop}

def cmpS (a b : List UInt8) : Int := if Op.bytesLess a b then -1 else if Op.bytesLess b a then 1 else 0

theorem cmpS_lt {a b : List UInt8} : decide (cmpS a b < 0) = Op.bytesLess a b := by
  unfold cmpS
  cases h : Op.bytesLess a b
  · simp only [Bool.false_eq_true, if_false]
    split <;> decide
  · simp

theorem cmpS_eq {a b : List UInt8} : decide (cmpS a b = 0) = decide (a = b) := by
  unfold cmpS
  cases h : Op.bytesLess a b
  · cases g : Op.bytesLess b a
    · simp [less_total h g]
    · have := less_ne g
      have e : ¬ a = b := fun e => this e.symm
      simp [e]
  · have := less_ne h
    simp [this]

def BelowT (l : List Wk) (t : List UInt8) (i : Nat) : Prop := ∀ (j : Nat) (w : Wk), j < i → l[j]? = some w → Op.bytesLess w.t t = true
def AboveT (l : List Wk) (t : List UInt8) (i : Nat) : Prop := ∀ (j : Nat) (w : Wk), i ≤ j → l[j]? = some w → Op.bytesLess w.t t = false

theorem below_sorted {l : List Wk} {t : List UInt8} {i : Nat} {x : Wk} (hs : SortedW l) (hg : l[i]? = some x) (h : Op.bytesLess x.t t = true) : BelowT l t (i + 1) := fun j w hj hw => by
  rcases Nat.lt_or_ge j i with h1 | h1
  · exact less_trans (sorted_get hs h1 hw hg) h
  · have : j = i := by omega
    subst this
    rw [hg] at hw; cases hw; exact h

theorem above_sorted {l : List Wk} {t : List UInt8} {i : Nat} {x : Wk} (hs : SortedW l) (hg : l[i]? = some x) (h : Op.bytesLess x.t t = false) : AboveT l t i := fun j w hj hw => by
  rcases Nat.lt_or_ge i j with h1 | h1
  · cases hb : Op.bytesLess w.t t with
    | false => rfl
    | true =>
      have := less_trans (sorted_get hs h1 hg hw) hb
      rw [h] at this; cases this
  · have : j = i := by omega
    subst this
    rw [hg] at hw; cases hw; exact h

theorem add_pos_step {l : List Wk} {t : List UInt8} {k : Nat} {w : Wk} (hb : BelowT l t k) (hg : l[k]? = some w) (h : Op.bytesLess w.t t = true) : BelowT l t (k + 1) := fun j x hj hx => by
  rcases Nat.lt_or_ge j k with h1 | h1
  · exact hb j x h1 hx
  · have : j = k := by omega
    subst this
    rw [hg] at hx; cases hx; exact h

end Go.Proofs.YtgikkoeckdhgkaaDoorPg

/- Tables: where one stands, its schema, which may be. -/
namespace Go.Proofs.YtgikkoeckdhgkaaDoorPg
open Go Go.RowKit
set_option linter.unusedSimpArgs false
set_option linter.unusedVariables false

variable {Q : V → List O → Prop}

theorem nils_sl3 (f : Bool) : VSub .nils (.sl 3 [] f) := fun I ρ u h => by cases h; exact .slnil _ _ _ _

theorem wrapE {n : Int} (h : -9223372036854775808 ≤ n ∧ n ≤ 9223372036854775807) : IntKind.i64.wrap n = n := by rw [IntKind.wrap_i64]; omega

theorem pos_of_at {l : List Tb} {t : List UInt8} {i : Nat} (hs : SortedT l) (h : atT l t = some i) : posT l t = i := at_sorted hs h

def atTI (l : List Tb) (t : List UInt8) : Int := atI (nws l) t

theorem EvRAt_spec {l : List Tb} {t : List UInt8} {f : Bool} (hl : l.length < 4611686018427387904) (h : Q (.int .i64 (atTI l t)) []) : ACall Tryd.prog 68 0 [.sl 3 (tbs l) f, .str t] [] Q := by
  refine by_body Tryd.func68 0 rfl (Nat.le_of_ble_eq_true rfl) ?_
  conv => whnf
  have hlv := tbs_len l
  have hnv := nws_len l
  refine ⟨⟨[0, 1, 5], fun m ws H => ∃ i : Nat, ws = [.sl 3 (tbs l) f, .str t, fI i] ∧ H = [] ∧ NoneBefore (nws l) t i ∧ i ≤ l.length ∧ m = l.length - i,
    .at l.length ⟨0, rfl, rfl, fun j w hj => by omega, Nat.zero_le _, rfl⟩, ?_⟩⟩
  rintro m ws H ⟨i, rfl, rfl, hn, hi, rfl⟩
  conv => whnf
  refine branch_i (fun c1 => ?_) (fun c1 => ?_) <;> try rw [c1] <;> conv => whnf
  rotate_left
  focus
    have c1' := of_decide_eq_false c1
    have : i = l.length := by omega
    subst this
    unfold atTI atI at h
    rw [at_none (by rw [hnv]; exact hn)] at h
    exact ⟨[], rfl, h⟩
  have c1' := of_decide_eq_true c1
  have hlt : i < l.length := by omega
  have hg : l[i]? = some l[i] := List.getElem?_eq_getElem hlt
  generalize l[i] = w at *
  refine ⟨_, ⟨by omega, tbs_get hg⟩, ?_⟩
  conv => whnf
  refine branch_i (fun c2 => ?_) (fun c2 => ?_) <;> try rw [c2] <;> conv => whnf
  · unfold atTI atI at h
    rw [at_some hn (nws_get hg) (of_decide_eq_true c2)] at h
    exact ⟨[], rfl, h⟩
  · refine .go [] rfl (l.length - (i + 1)) (by omega) ⟨i + 1, ?_, rfl, fun j x hj hx => ?_, by omega, rfl⟩
    · show [V.sl 3 (tbs l) f, V.str t, V.int .i64 (IntKind.i64.wrap ((i : Int) + 1))] = _
      rw [wrapE (by omega)]; rfl
    · rcases Nat.lt_or_ge j i with h1 | h1
      · exact hn j x h1 hx
      · have : j = i := by omega
        subst this
        rw [nws_get hg] at hx; cases hx
        exact of_decide_eq_false c2

theorem atTI_none {l : List Tb} {t : List UInt8} (h : atT l t = none) : atTI l t = -1 := by unfold atTI atI; rw [show atL (nws l) t = none from h]
theorem atTI_some {l : List Tb} {t : List UInt8} {i : Nat} (h : atT l t = some i) : atTI l t = (i : Int) := by unfold atTI atI; rw [show atL (nws l) t = some i from h]

theorem EvRFind_spec {l : List Tb} {t : List UInt8} {f : Bool} (hl : l.length < 4611686018427387904) (h : Q (findR (findT l t)) []) : ACall Tryd.prog 45 0 [.sl 3 (tbs l) f, .str t] [] Q := by
  refine ACall.ret (by_body Tryd.func45 0 rfl (Nat.le_of_ble_eq_true rfl) ?_)
  conv => whnf
  refine .pure (EvRAt_spec hl ⟨rfl, ?_⟩)
  cases ha : atT l t with
  | none =>
    rw [find_none ha] at h
    rw [atTI_none ha]
    conv => whnf
    exact ⟨[], rfl, .sub _ _ (VSub.tup (.cons (.agg (.cons (nils_sl3 false) (VSubs.refl _))) (VSubs.refl _))) (HSub.refl _) (.done [] rfl h)⟩
  | some i =>
    obtain ⟨x, hx, _, hlt⟩ := atT_get ha
    rw [find_some ha hx] at h
    rw [atTI_some ha]
    conv => whnf
    rw [show decide ((i : Int) < 0) = false from decide_eq_false (by omega)]
    conv => whnf
    refine ⟨_, ⟨by omega, tbs_get hx⟩, ?_⟩
    conv => whnf
    exact ⟨[], rfl, .done [] rfl h⟩

end Go.Proofs.YtgikkoeckdhgkaaDoorPg

/- Tables: which may be. -/
namespace Go.Proofs.YtgikkoeckdhgkaaDoorPg
open Go Go.RowKit
set_option linter.unusedSimpArgs false
set_option linter.unusedVariables false

variable {Q : V → List O → Prop}

theorem stepT_eq {l : List Tb} {i : Nat} {w : Tb} (hg : l[i]? = some w) : stepT nameOk mayS l i = (nameOk w.n && (mayS w.c w.k && (decide (i = 0) || (match l[i - 1]? with | some p => Op.bytesLess p.n w.n | none => true)))) := by unfold stepT; rw [hg]; rfl

theorem rightT_step {l : List Tb} {i : Nat} (h : ∀ j, j < i → stepT nameOk mayS l j = true) (hs : stepT nameOk mayS l i = true) : ∀ j, j < i + 1 → stepT nameOk mayS l j = true := fun j hj => by
  rcases Nat.lt_or_ge j i with h1 | h1
  · exact h j h1
  · have : j = i := by omega
    subst this; exact hs

def rtInvT (l : List Tb) (f : Bool) (m : Nat) (ws : List V) (H : List O) : Prop :=
  ∃ i : Nat, ws = [.sl 3 (tbs l) f, .sl 3 (tbs l) f, fI l.length, fI i] ∧ H = [] ∧ (∀ j, j < i → stepT nameOk mayS l j = true) ∧ i ≤ l.length ∧ m = l.length - i

def rrInvT (l : List Tb) (f : Bool) (m : Nat) (ws : List V) (H : List O) : Prop :=
  ∃ i : Nat, ws = [.sl 3 (tbs l) f, fI i] ∧ H = [] ∧ (∀ j, j < i → stepT nameOk mayS l j = true) ∧ i ≤ l.length ∧ m = l.length - i

end Go.Proofs.YtgikkoeckdhgkaaDoorPg

/- Tables behind a change: the document's. -/
namespace Go.Proofs.YtgikkoeckdhgkaaDoorPg
open Go Go.RowKit
set_option linter.unusedSimpArgs false
set_option linter.unusedVariables false

variable {Q : V → List O → Prop}

def folT (l : List Tb) (k : Int) (t : List UInt8) (cs : List Col) (ks : Int) (c : Col) : List Tb × Int :=
  if k = 1 then (if nameOk t = false then ([], 6) else if (atT l t).isSome then ([], 8) else if mayS cs ks = false then ([], 1) else if 64 ≤ l.length then ([], 13) else (insT l ⟨t, cs, ks⟩, 0))
  else match atT l t with
    | none => ([], 7)
    | some i => if k = 2 then (l.eraseIdx i, 0) else match l[i]? with
      | some x => if (applyS x.c x.k k c).2.2 ≠ 0 then ([], (applyS x.c x.k k c).2.2) else (l.set i ⟨x.n, (applyS x.c x.k k c).1, (applyS x.c x.k k c).2.1⟩, 0)
      | none => ([], 7)

def folR (r : List Tb × Int) : V := .tup [.sl 3 (tbs r.1) false, fI r.2]

theorem err_fol (e : Int) : VSub (.tup [.nils, fI e]) (folR ([], e)) := .tup (.cons (nils_sl3 false) (VSubs.refl _))

def chT (k : Int) (t : List UInt8) (cs : List Col) (ks : Int) (c : Col) : V := chg k (.str t) (.sl 3 (cols cs) false) (fI ks) c

def fkInv (l : List Tb) (f : Bool) (C : List V) (t : List UInt8) (m : Nat) (ws : List V) (H : List O) : Prop :=
  ∃ k : Nat, ws = [.sl 3 (tbs l) f, .ptr 0 0, .nils, fI k] ∧ H = [.cells C] ∧ BelowT (nws l) t k ∧ k ≤ l.length ∧ m = l.length - k

theorem may_bd {l : List Col} {k : Int} (h : mayS l k = true) : 1 ≤ k ∧ k ≤ 4 ∧ k ≤ l.length ∧ l.length ≤ 16 := by
  unfold mayS at h
  rw [Bool.and_eq_true] at h
  have := h.1
  unfold mayH at this
  simp only [Bool.and_eq_true, decide_eq_true_eq] at this
  exact ⟨this.1, this.2.1, this.2.2.1, this.2.2.2⟩

/-- tables that were laid out anew, handed back -/
theorem fol_ret {j n : Nat} {H : List O} {L : List Tb} (hg : getO H j = .buf (tbs L)) (hn : n = L.length) (hj : j < H.length) (h : Q (folR (L, 0)) []) : ∃ sel, selOk sel H.length 0 = true ∧ ARet 0 Q (renV (idx sel) (.tup [.ms 3 j 0 n false, fI 0])) (gather (idx sel) H sel) := by
  subst hn
  refine ⟨[j], ?_, ?_⟩
  · simp [selOk, allLt, nodupB, idx, Nat.blt_eq, hj]
  · have e1 : renV (idx [j]) (.tup [.ms 3 j 0 L.length false, fI 0]) = .tup [.ms 3 0 0 L.length false, fI 0] := by simp [renV, renL, idx]
    have e2 : gather (idx [j]) H [j] = [.buf (tbs L)] := by simp [gather, hg, renO]
    rw [e1, e2]
    have hle := tbs_len L
    refine .frz 0 rfl (by repeat (first | exact trivial | refine And.intro (by rw [hle, Nat.zero_add]; exact Nat.le_refl _) ?_)) (.done [] rfl ?_)
    show Q (.tup [.sl 3 (List.take L.length (List.drop 0 (tbs L))) false, fI 0]) []
    rw [List.drop_zero, ← hle, List.take_length]
    exact h

end Go.Proofs.YtgikkoeckdhgkaaDoorPg

/- Rows by their keys: the document's functions. -/
namespace Go.Proofs.YtgikkoeckdhgkaaDoorPg
open Go Go.RowKit
set_option linter.unusedSimpArgs false
set_option linter.unusedVariables false

variable {Q : V → List O → Prop}

theorem RKey10_spec {C : List Col} {K : Nat} {r : Rw} {f : Bool} (hl : C.length ≤ 1000) (hk : K ≤ C.length) (ht : TextsOk r) (h : Q (.str (kyR C K r)) []) :
    ACall Tryd.prog 23 0 [sch C K, .sl 3 (vals r) f] [] Q := by
  refine by_body Tryd.func23 0 rfl (Nat.le_of_ble_eq_true rfl) ?_
  conv => whnf
  refine .pure (RKey_spec hl hk ht ⟨rfl, ?_⟩)
  unfold kyR at h
  unfold keyR
  cases hb : keyOkL C K r <;> rw [hb] at h <;> conv => whnf
  · exact ⟨[], rfl, h⟩
  · exact ⟨[], rfl, h⟩

def RowsT (l : List Rw) : Prop := ∀ r ∈ l, TextsOk r

theorem ahead_at {C : List Col} {K : Nat} {key : List UInt8} : ∀ {l : List Rw} {k : Nat} {r : Rw}, l[k]? = some r → k ≤ (aheadR C K key l).length → Op.bytesLess (kyR C K r) key = decide (k < (aheadR C K key l).length)
  | [], k, r, h, _ => by simp at h
  | x :: l, k, r, h, hk => by
    unfold aheadR at *
    rw [List.takeWhile_cons] at *
    cases hx : Op.bytesLess (kyR C K x) key with
    | true =>
      rw [hx] at hk
      simp only [if_true, List.length_cons] at hk ⊢
      cases k with
      | zero =>
        simp only [List.getElem?_cons_zero, Option.some.injEq] at h
        subst h
        rw [hx]; simp
      | succ k =>
        rw [List.getElem?_cons_succ] at h
        have := ahead_at (C := C) (K := K) (key := key) h (by unfold aheadR; omega)
        rw [this]
        unfold aheadR
        simp
    | false =>
      rw [hx] at hk
      simp only [Bool.false_eq_true, if_false, List.length_nil, Nat.le_zero] at hk
      subst hk
      simp only [List.getElem?_cons_zero, Option.some.injEq] at h
      subst h
      rw [hx]; simp

theorem ahead_take (C : List Col) (K : Nat) (key : List UInt8) (l : List Rw) : l.take (aheadR C K key l).length = aheadR C K key l ∧ l.drop (aheadR C K key l).length = restR C K key l := by
  have e := ahead_rest C K key l
  constructor
  · conv => lhs; arg 2; rw [← e]
    exact List.take_left
  · conv => lhs; arg 2; rw [← e]
    exact List.drop_left

theorem ahead_le (C : List Col) (K : Nat) (key : List UInt8) (l : List Rw) : (aheadR C K key l).length ≤ l.length := by
  have e := congrArg List.length (ahead_rest C K key l)
  rw [List.length_append] at e
  omega

theorem rest_at {C : List Col} {K : Nat} {key : List UInt8} {l : List Rw} {r : Rw} (h : l[(aheadR C K key l).length]? = some r) : headIs C K key (restR C K key l) = decide (kyR C K r = key) := by
  rw [← (ahead_take C K key l).2]
  have hlt := (List.getElem?_eq_some_iff.1 h).1
  rw [List.drop_eq_getElem_cons hlt]
  have : l[(aheadR C K key l).length] = r := by
    have := List.getElem?_eq_some_iff.1 h
    exact this.2
  rw [this]; rfl

theorem rest_none {C : List Col} {K : Nat} {key : List UInt8} {l : List Rw} (h : l.length ≤ (aheadR C K key l).length) : headIs C K key (restR C K key l) = false := by
  rw [← (ahead_take C K key l).2, List.drop_of_length_le h]; rfl

theorem rws_some {l : List Rw} {i : Nat} {r : Rw} (h : l[i]? = some r) : (rws l)[i]? = some [V.sl 3 (vals r) false] := by simp [rws, h, fR]

set_option maxHeartbeats 4000000 in
theorem RPlace_spec {C : List Col} {K : Nat} {l : List Rw} {key : List UInt8} {f : Bool} (hl : C.length ≤ 1000) (hk : K ≤ C.length) (ht : RowsT l) (hn : l.length ≤ 1000000)
    (h : Q (.tup [fI ((aheadR C K key l).length : Nat), .bool (headIs C K key (restR C K key l))]) []) :
    ACall Tryd.prog 54 0 [sch C K, .sl 1 (rws l) f, .str key] [] Q := by
  refine by_body Tryd.func54 0 rfl (Nat.le_of_ble_eq_true rfl) ?_
  conv => whnf
  have hlr := rws_len l
  have hal := ahead_le C K key l
  refine ⟨⟨[1, 2, 3, 8], fun m ws H => ∃ k : Nat, ws = [.sl 1 (rws l) f, .str key, .ptr 0 0, fI k] ∧ H = [.cells [.sl 3 (cols C) false, fI K]] ∧ k ≤ (aheadR C K key l).length ∧ m = l.length - k, .at _ ⟨0, rfl, rfl, Nat.zero_le _, rfl⟩, ?_⟩⟩
  rintro m ws H ⟨k, rfl, rfl, hk2, rfl⟩
  conv => whnf
  refine ⟨[0, 1, 2, 3, 4, 5, 6, 7, 8, 9, 11, 10, 12, 13], by kernel_rfl, by kernel_rfl, ?_⟩
  conv => whnf
  refine branch_i (fun c => ?_) (fun c => ?_) <;> try rw [c] <;> conv => whnf
  · have c' := of_decide_eq_true c
    have hlt : k < l.length := by omega
    have hg : l[k]? = some l[k] := List.getElem?_eq_getElem hlt
    have htr := ht l[k] (List.getElem_mem hlt)
    generalize l[k] = r at *
    have hb := ahead_at (C := C) (K := K) (key := key) hg hk2
    refine ⟨_, ⟨by omega, rws_some hg⟩, ?_⟩
    conv => whnf
    refine .pure (RKey10_spec (C := C) (K := K) (r := r) hl hk htr ⟨rfl, ?_⟩)
    repeat (conv => whnf
            first | (refine ⟨rfl, ?_⟩) | (refine ⟨⟨_, ⟨by omega, rws_some hg⟩, rfl⟩, ?_⟩))
    conv => whnf
    refine branch_i (fun c2 => ?_) (fun c2 => ?_) <;> try rw [c2] <;> conv => whnf
    · rw [c2] at hb
      have hb' := of_decide_eq_true hb.symm
      refine .go [0] rfl (l.length - (k + 1)) (by omega) ⟨k + 1, ?_, rfl, by omega, rfl⟩
      show [V.sl 1 (rws l) f, V.str key, V.ptr 0 0, V.int .i64 (IntKind.i64.wrap ((k : Int) + 1))] = _
      rw [wrapE (by omega)]; rfl
    · rw [c2] at hb
      have hb' := of_decide_eq_false hb.symm
      have he : (aheadR C K key l).length = k := by omega
      have hr := rest_at (C := C) (K := K) (key := key) (l := l) (r := r) (by rw [he]; exact hg)
      rw [he, hr] at h
      refine ⟨[0, 1, 2, 3, 4, 5, 6, 7, 8, 9, 10, 12, 11, 13, 14, 15, 16], by kernel_rfl, by kernel_rfl, ?_⟩
      conv => whnf
      rw [c]
      conv => whnf
      refine ⟨_, ⟨by omega, rws_some hg⟩, ?_⟩
      conv => whnf
      refine .pure (RKey10_spec (C := C) (K := K) (r := r) hl hk htr ⟨rfl, ?_⟩)
      repeat (conv => whnf
              first | (refine ⟨rfl, ?_⟩) | (refine ⟨⟨_, ⟨by omega, rws_some hg⟩, rfl⟩, ?_⟩))
      conv => whnf
      exact ⟨[], rfl, h⟩
  · have c' := of_decide_eq_false c
    have he : (aheadR C K key l).length = k := by omega
    rw [rest_none (by omega), he] at h
    refine ⟨[0, 1, 2, 3, 4, 5, 6, 7, 8, 9, 10, 12, 11, 13, 14, 15, 16], by kernel_rfl, by kernel_rfl, ?_⟩
    conv => whnf
    rw [c]
    conv => whnf
    exact ⟨[], rfl, h⟩

/-- rows laid out anew, handed back -/
theorem rws_ret {j n : Nat} {H : List O} {L : List Rw} (hg : getO H j = .buf (rws L)) (hn : n = L.length) (hj : j < H.length) (h : Q (.sl 1 (rws L) false) []) : ∃ sel, selOk sel H.length 0 = true ∧ ARet 0 Q (renV (idx sel) (.ms 1 j 0 n false)) (gather (idx sel) H sel) := by
  subst hn
  refine ⟨[j], ?_, ?_⟩
  · simp [selOk, allLt, nodupB, idx, Nat.blt_eq, hj]
  · have e1 : renV (idx [j]) (.ms 1 j 0 L.length false) = .ms 1 0 0 L.length false := by simp [renV, idx]
    have e2 : gather (idx [j]) H [j] = [.buf (rws L)] := by simp [gather, hg, renO]
    rw [e1, e2]
    have hle := rws_len L
    refine .frz 0 rfl (by repeat (first | exact trivial | refine And.intro (by rw [hle, Nat.zero_add]; exact Nat.le_refl _) ?_)) (.done [] rfl ?_)
    show Q (.sl 1 (List.take L.length (List.drop 0 (rws L))) false) []
    rw [List.drop_zero, ← hle, List.take_length]
    exact h

set_option maxHeartbeats 4000000 in
theorem RPut10_spec {C : List Col} {K : Nat} {l : List Rw} {r : Rw} {f : Bool} (hl : C.length ≤ 1000) (hk : K ≤ C.length) (ht : RowsT l) (hr : TextsOk r) (hn : l.length ≤ 1000000)
    (h : Q (.sl 1 (rws (putR C K l r)) false) []) :
    ACall Tryd.prog 29 0 [sch C K, .sl 1 (rws l) f, .sl 3 (vals r) false] [] Q := by
  refine ACall.ret (by_body Tryd.func29 0 rfl (Nat.le_of_ble_eq_true rfl) ?_)
  conv => whnf
  have hlr := rws_len l
  have hal := ahead_le C K (kyR C K r) l
  obtain ⟨ht1, ht2⟩ := ahead_take C K (kyR C K r) l
  refine ⟨[0, 1, 2, 3, 4, 5, 6, 7, 8, 9, 10], by kernel_rfl, by kernel_rfl, ?_⟩
  conv => whnf
  refine .pure (RKey10_spec (C := C) (K := K) (r := r) hl hk hr ⟨rfl, ?_⟩)
  repeat (conv => whnf
          refine ⟨rfl, ?_⟩)
  conv => whnf
  refine .pure (RPlace_spec (C := C) (K := K) (l := l) (key := kyR C K r) (f := f) hl hk ht hn ⟨rfl, ?_⟩)
  repeat (conv => whnf
          refine ⟨rfl, ?_⟩)
  conv => whnf
  generalize hA : (aheadR C K (kyR C K r) l).length = n at *
  have hT : (List.take n (rws l)).length ≤ 1000000 := by rw [List.length_take]; omega
  refine ⟨⟨by omega, by omega⟩, ?_⟩
  conv => whnf
  refine ⟨(Nat.le_trans (Nat.mul_le_mul_right _ hT) (show 1000000 * 24 ≤ 70368744177664 by omega)), ?_⟩
  conv => whnf
  refine ⟨Nat.le_refl 1, ?_⟩
  refine app_gen rfl rfl rfl (Nat.le_trans (Nat.mul_le_mul_right _ (Nat.add_le_add hT (show 1 ≤ 1 by omega))) (show (1000000 + 1) * 24 ≤ 70368744177664 by omega)) ?_
  conv => whnf
  unfold putR at h
  rw [← ht1, ← ht2] at h
  cases hh : headIs C K (kyR C K r) (restR C K (kyR C K r) l) <;> rw [ht2, hh] at h <;> rw [← ht2] at h <;> conv => whnf
  · simp only [Bool.false_eq_true, if_false] at h
    have hD : (List.drop n (rws l)).length ≤ 1000000 := by rw [List.length_drop]; omega
    refine ⟨⟨by omega, by omega⟩, ?_⟩
    conv => whnf
    refine app_gen2 (by rw [List.length_append]) (Nat.le_trans (Nat.mul_le_mul_right _ (Nat.add_le_add (by rw [List.length_append]; exact Nat.add_le_add hT (show 1 ≤ 1 by omega)) hD)) (show (1000000 + 1 + 1000000) * 24 ≤ 70368744177664 by omega)) ?_
    conv => whnf
    refine rws_ret (L := l.take n ++ r :: l.drop n) ?_ ?_ (Nat.le_refl _) h
    · show O.buf (List.take n (rws l) ++ [[fR r]] ++ List.drop n (rws l)) = _
      rw [rws_take, rws_drop]
      simp [rws]
    · rw [List.length_append]
      show (List.take n (rws l)).length + 1 + (List.drop n (rws l)).length = _
      rw [rws_take, rws_drop, rws_len, rws_len, List.length_append, List.length_cons]
      omega
  · have hlt : n < l.length := by
      refine Decidable.by_contra fun hc => ?_
      rw [rest_none (by omega)] at hh; cases hh
    simp only [if_true, List.tail_drop] at h
    have hi1 : IntKind.i64.wrap ((n : Int) + 1) = ((n + 1 : Nat) : Int) := by rw [wrapE (by omega)]; omega
    rw [hi1]
    have hD : (List.drop (n + 1) (rws l)).length ≤ 1000000 := by rw [List.length_drop]; omega
    refine ⟨⟨by omega, by omega⟩, ?_⟩
    conv => whnf
    refine app_gen2 (by rw [List.length_append]) (Nat.le_trans (Nat.mul_le_mul_right _ (Nat.add_le_add (by rw [List.length_append]; exact Nat.add_le_add hT (show 1 ≤ 1 by omega)) hD)) (show (1000000 + 1 + 1000000) * 24 ≤ 70368744177664 by omega)) ?_
    conv => whnf
    refine rws_ret (L := l.take n ++ r :: l.drop (n + 1)) ?_ ?_ (Nat.le_refl _) h
    · show O.buf (List.take n (rws l) ++ [[fR r]] ++ List.drop (n + 1) (rws l)) = _
      rw [rws_take, rws_drop]
      simp [rws]
    · rw [List.length_append]
      show (List.take n (rws l)).length + 1 + (List.drop (n + 1) (rws l)).length = _
      rw [rws_take, rws_drop, rws_len, rws_len, List.length_append, List.length_cons]
      omega

set_option maxHeartbeats 4000000 in
theorem RCut10_spec {C : List Col} {K : Nat} {l : List Rw} {key : List UInt8} (hl : C.length ≤ 1000) (hk : K ≤ C.length) (ht : RowsT l) (hn : l.length ≤ 1000000)
    (h : Q (.sl 1 (rws (cutR C K l key)) false) []) :
    ACall Tryd.prog 46 0 [sch C K, .sl 1 (rws l) false, .str key] [] Q := by
  refine ACall.ret (by_body Tryd.func46 0 rfl (Nat.le_of_ble_eq_true rfl) ?_)
  conv => whnf
  have hlr := rws_len l
  have hal := ahead_le C K key l
  obtain ⟨ht1, ht2⟩ := ahead_take C K key l
  refine .pure (RPlace_spec (C := C) (K := K) (l := l) (key := key) (f := false) hl hk ht hn ⟨rfl, ?_⟩)
  conv => whnf
  generalize hA : (aheadR C K key l).length = n at *
  unfold cutR at h
  rw [← ht1, ← ht2] at h
  cases hh : headIs C K key (restR C K key l) <;> rw [ht2, hh] at h <;> rw [← ht2] at h <;> conv => whnf
  · exact ⟨[], rfl, .done [] rfl h⟩
  · have hlt : n < l.length := by
      refine Decidable.by_contra fun hc => ?_
      rw [rest_none (by omega)] at hh; cases hh
    simp only [if_true, List.tail_drop] at h
    have hT : (List.take n (rws l)).length ≤ 1000000 := by rw [List.length_take]; omega
    refine ⟨⟨by omega, by omega⟩, ?_⟩
    conv => whnf
    refine ⟨(Nat.le_trans (Nat.mul_le_mul_right _ hT) (show 1000000 * 24 ≤ 70368744177664 by omega)), ?_⟩
    conv => whnf
    have hi1 : IntKind.i64.wrap ((n : Int) + 1) = ((n + 1 : Nat) : Int) := by rw [wrapE (by omega)]; omega
    rw [hi1]
    have hD : (List.drop (n + 1) (rws l)).length ≤ 1000000 := by rw [List.length_drop]; omega
    refine ⟨⟨by omega, by omega⟩, ?_⟩
    conv => whnf
    refine app_gen2 rfl (Nat.le_trans (Nat.mul_le_mul_right _ (Nat.add_le_add hT hD)) (show (1000000 + 1000000) * 24 ≤ 70368744177664 by omega)) ?_
    conv => whnf
    refine rws_ret (L := l.take n ++ l.drop (n + 1)) ?_ ?_ (Nat.le_refl _) h
    · show O.buf (List.take n (rws l) ++ List.drop (n + 1) (rws l)) = _
      rw [rws_take, rws_drop, ← rws_app]
    · show (List.take n (rws l)).length + (List.drop (n + 1) (rws l)).length = _
      rw [rws_take, rws_drop, rws_len, rws_len, List.length_append]

end Go.Proofs.YtgikkoeckdhgkaaDoorPg

/- Events: which are the same. -/
namespace Go.Proofs.YtgikkoeckdhgkaaDoorPg
open Go Go.RowKit
set_option linter.unusedSimpArgs false
set_option linter.unusedVariables false

variable {Q : V → List O → Prop}

theorem qbE {b b' : Bool} {H : List O} (h : Q (.bool b) H) (e : b = b') : Q (.bool b') H := e ▸ h

end Go.Proofs.YtgikkoeckdhgkaaDoorPg

/- Events: changes cut short; numbers of kinds. -/
namespace Go.Proofs.YtgikkoeckdhgkaaDoorPg
open Go Go.RowKit
set_option linter.unusedSimpArgs false
set_option linter.unusedVariables false

variable {Q : V → List O → Prop}

def ints6 : List Int := [1, 2, 7, 8, 9, 10]
def numK (k : Int) : Bool := decide (k = 1) || (decide (k = 2) || (decide (k = 7) || (decide (k = 8) || (decide (k = 9) || decide (k = 10)))))

def rowK (k : Int) : Bool := decide (k = 3) || (decide (k = 4) || decide (k = 5))

/-- the example's event -/
def ev7 : Evt := ⟨7, 5, [], [], [], chg0⟩

theorem ev7_sub : VSub (.agg [fI 7, fI 5, .str [], .nils, .nils, fI 0, .str [], .nils, fI 0, .str [], fI 0, .bool false]) (evA ev7) :=
  .agg (.cons (.refl _) (.cons (.refl _) (.cons (.refl _) (.cons (nils_sl3 false) (.cons (nils_sl3 false) (.cons (.refl _) (.cons (.refl _) (.cons (nils_sl3 false) (VSubs.refl _)))))))))

end Go.Proofs.YtgikkoeckdhgkaaDoorPg

/- Readers of bytes: the program's. -/
namespace Go.Proofs.YtgikkoeckdhgkaaDoorPg
open Go Go.RowKit
set_option linter.unusedSimpArgs false
set_option linter.unusedVariables false

variable {Q : V → List O → Prop}

/-- a reader: what is left, the error -/
def rdO (s : List UInt8) (f : Bool) (e : Int) : O := .cells [.sl 1 (bs s) f, .int .i64 e]

theorem bs_take (s : List UInt8) (n : Nat) : List.take n (bs s) = bs (s.take n) := by simp [bs, List.map_take]
theorem bs_drop (s : List UInt8) (n : Nat) : List.drop n (bs s) = bs (s.drop n) := by simp [bs, List.map_drop]

theorem bs_drop_rd (s : List UInt8) (n : Nat) (f : Bool) (e : Int) : O.cells [.sl 1 (List.drop n (bs s)) f, .int .i64 e] = rdO (s.drop n) f e := by rw [bs_drop]; rfl

def digInv (s : List UInt8) (f : Bool) (m : Nat) (ws : List V) (H : List O) : Prop :=
  ∃ (i N : Nat) (q : List UInt8), ws = [.ptr 0 0, .int .u64 (N : Int), .sl 1 (bs s) f, fI i] ∧ H = [rdO q f 0] ∧ i ≤ 10 ∧ N < 128 ^ i ∧ digF (10 - i) i N q = digL s ∧ m = 10 - i

end Go.Proofs.YtgikkoeckdhgkaaDoorPg

/- Readers of bytes: numbers, texts, bytes. -/
namespace Go.Proofs.YtgikkoeckdhgkaaDoorPg
open Go Go.RowKit
set_option linter.unusedSimpArgs false
set_option linter.unusedVariables false

variable {Q : V → List O → Prop}

theorem wrapL {n : Int} (h : -9223372036854775808 ≤ n ∧ n ≤ 9223372036854775807) : IntKind.i64.wrap n = n := by rw [IntKind.wrap_i64]; omega

theorem wrapN {n : Nat} (h : n ≤ 9223372036854775807) : IntKind.i64.wrap (n : Int) = (n : Int) := by rw [IntKind.wrap_i64]; omega

def endE (s : List UInt8) (e : Int) : Int := if e = 0 ∧ s ≠ [] then 2 else e

end Go.Proofs.YtgikkoeckdhgkaaDoorPg

/- Readers of bytes: the document's. -/
namespace Go.Proofs.YtgikkoeckdhgkaaDoorPg
open Go Go.RowKit
set_option linter.unusedSimpArgs false
set_option linter.unusedVariables false

variable {Q : V → List O → Prop}

def rtInv (s : List UInt8) (f : Bool) (m : Nat) (ws : List V) (H : List O) : Prop :=
  ∃ (i N : Nat), ws = [.sl 1 (bs s) f, .int .u64 (N : Int), .int .u64 (IntKind.u64.wrap ((128 ^ i : Nat) : Int)), fI i] ∧ H = [] ∧ i ≤ 10 ∧ i ≤ s.length ∧ N < 128 ^ i ∧ digF (10 - i) i N (s.drop i) = digL s ∧ m = 10 - i

theorem pow_bd {i : Nat} (h : i ≤ 9) : 128 ^ i ≤ 9223372036854775808 := by
  obtain rfl | rfl | rfl | rfl | rfl | rfl | rfl | rfl | rfl | rfl : i = 0 ∨ i = 1 ∨ i = 2 ∨ i = 3 ∨ i = 4 ∨ i = 5 ∨ i = 6 ∨ i = 7 ∨ i = 8 ∨ i = 9 := by omega
  all_goals decide

theorem pow_bd8 {i : Nat} (h : i ≤ 8) : 128 ^ i ≤ 72057594037927936 := by
  obtain rfl | rfl | rfl | rfl | rfl | rfl | rfl | rfl | rfl : i = 0 ∨ i = 1 ∨ i = 2 ∨ i = 3 ∨ i = 4 ∨ i = 5 ∨ i = 6 ∨ i = 7 ∨ i = 8 := by omega
  all_goals decide

end Go.Proofs.YtgikkoeckdhgkaaDoorPg

/- Writers of bytes: numbers and texts, the program's and the document's. -/
namespace Go.Proofs.YtgikkoeckdhgkaaDoorPg
open Go Go.RowKit
set_option linter.unusedSimpArgs false
set_option linter.unusedVariables false

variable {Q : V → List O → Prop}

theorem bs_ne {l : List UInt8} (h : l ≠ []) : ∃ x r, bs l = x :: r := by
  cases l with
  | nil => exact absurd rfl h
  | cons b l => exact ⟨_, _, rfl⟩

theorem bs_snoc (l : List UInt8) (b : UInt8) : bs l ++ [[.int .u8 b.toNat]] = bs (l ++ [b]) := by rw [bs_app]; rfl

/-- the byte of a digit that others follow -/
theorem hi7 (m : Nat) (h : m < 2 ^ 64) : IntKind.u8.wrap ↑(BitVec.ofInt IntKind.u8.bits (IntKind.u8.wrap (m : Int)) ||| BitVec.ofInt IntKind.u8.bits 128).toNat = (((UInt8.ofNat (m % 128 + 128)).toNat : Nat) : Int) := by
  have e0 : (UInt8.ofNat (m % 128 + 128)).toNat = m % 128 + 128 := ofNat_lt (by omega)
  have ew : ∀ n : Int, IntKind.u8.wrap n = n % 256 := fun n => by simp [IntKind.wrap, IntKind.bits, IntKind.signed]
  have e1 : (BitVec.ofInt 8 (IntKind.u8.wrap (m : Int))).toNat = m % 256 := by
    rw [BitVec.toNat_ofInt, ew]
    have : ((2 : Nat) ^ 8 : Nat) = 256 := by decide
    omega
  have e2 : (BitVec.ofInt 8 128).toNat = 128 := by decide
  have e3 : (BitVec.ofInt IntKind.u8.bits (IntKind.u8.wrap (m : Int)) ||| BitVec.ofInt IntKind.u8.bits 128).toNat = m % 128 + 128 := by
    show (BitVec.ofInt 8 (IntKind.u8.wrap (m : Int)) ||| BitVec.ofInt 8 128).toNat = _
    rw [BitVec.toNat_or, e1, e2]
    apply Nat.eq_of_testBit_eq
    intro i
    rw [show m % 128 + 128 = 2 ^ 7 * 1 + m % 128 by omega, Nat.testBit_or, Nat.testBit_two_pow_mul_add 1 (show m % 128 < 2 ^ 7 by omega)]
    rcases Nat.lt_or_ge i 7 with h7 | h7
    · rw [if_pos h7, show (128 : Nat) = 2 ^ 7 from rfl, Nat.testBit_two_pow, show (256 : Nat) = 2 ^ 8 from rfl, Nat.testBit_mod_two_pow, Nat.testBit_mod_two_pow]
      simp only [h7, show i < 8 by omega, decide_true, Bool.true_and, show ¬ (7 = i) by omega, decide_false, Bool.or_false]
    · rw [if_neg (by omega)]
      rcases Nat.eq_or_lt_of_le h7 with h8 | h8
      · subst h8
        rw [show (128 : Nat) = 2 ^ 7 from rfl, Nat.testBit_two_pow]
        simp
      · rw [show (128 : Nat) = 2 ^ 7 from rfl, Nat.testBit_two_pow, show (256 : Nat) = 2 ^ 8 from rfl, Nat.testBit_mod_two_pow]
        rw [show (1 : Nat) = 2 ^ 0 from rfl, Nat.testBit_two_pow]
        simp only [show ¬ (i < 8) by omega, decide_false, Bool.false_and, Bool.false_or]
        rw [decide_eq_false (by omega), decide_eq_false (by omega)]
  rw [e3, e0, ew]; omega

theorem lo7 (m : Nat) (h : m < 128) : IntKind.u8.wrap (m : Int) = (((UInt8.ofNat m).toNat : Nat) : Int) := by
  have e0 : (UInt8.ofNat m).toNat = m := ofNat_lt (by omega)
  have ew : ∀ n : Int, IntKind.u8.wrap n = n % 256 := fun n => by simp [IntKind.wrap, IntKind.bits, IntKind.signed]
  rw [e0, ew]; omega

theorem shr7 (m : Nat) : Int.fdiv (m : Int) (2 ^ min (7 : Int).toNat IntKind.u64.bits) = ((m / 128 : Nat) : Int) := by
  show Int.fdiv (m : Int) (2 ^ 7) = _
  rw [show ((2 : Int) ^ 7) = ((128 : Nat) : Int) from rfl, Int.fdiv_eq_ediv_of_nonneg _ (by omega)]
  rfl

def digInvW (l : List UInt8) (N : Nat) (m : Nat) (ws : List V) (H : List O) : Prop :=
  ∃ (out : List UInt8) (n f : Nat), m = f + 1 ∧ n < 128 ^ (f + 1) ∧ f ≤ 9 ∧ n < 2 ^ 64 ∧ out ++ digWF f n = l ++ digW N ∧ out.length ≤ l.length + 9 ∧
    ((ws = [.sl 1 (bs out) true, .int .u64 n] ∧ H = []) ∨ (ws = [.ms 1 0 0 out.length false, .int .u64 n] ∧ H = [.buf (bs out)]))

end Go.Proofs.YtgikkoeckdhgkaaDoorPg

/- Writers of bytes: numbers and texts whole. -/
namespace Go.Proofs.YtgikkoeckdhgkaaDoorPg
open Go Go.RowKit
set_option linter.unusedSimpArgs false
set_option linter.unusedVariables false

variable {Q : V → List O → Prop}

theorem u64_of {n : Int} (h0 : 0 ≤ n) (h1 : n ≤ 9223372036854775807) : IntKind.u64.wrap n = ((n.toNat : Nat) : Int) := by rw [wrap_u64]; omega

def rdigInv (N : Nat) (m : Nat) (ws : List V) (H : List O) : Prop :=
  ∃ (out : List UInt8) (n f : Nat), m = f + 1 ∧ n < 128 ^ (f + 1) ∧ f ≤ 9 ∧ n < 2 ^ 64 ∧ out ++ digWF f n = digW N ∧ out.length ≤ 9 ∧
    ((out = [] ∧ ws = [.int .u64 n, .nils] ∧ H = []) ∨ (ws = [.int .u64 n, .ms 1 0 0 out.length false] ∧ H = [.buf (bs out)]))

theorem tdiv128 (n : Nat) (h : n < 2 ^ 64) : IntKind.u64.wrap (Int.tdiv (n : Int) 128) = ((n / 128 : Nat) : Int) := by
  rw [show Int.tdiv (n : Int) 128 = ((n / 128 : Nat) : Int) from rfl, wrap_u64]; omega

theorem tmod128 (n : Nat) : IntKind.u8.wrap (Int.tmod (n : Int) 128) = ((n % 128 : Nat) : Int) := by
  have ew : ∀ n : Int, IntKind.u8.wrap n = n % 256 := fun n => by simp [IntKind.wrap, IntKind.bits, IntKind.signed]
  rw [show Int.tmod (n : Int) 128 = ((n % 128 : Nat) : Int) from rfl, ew]; omega

theorem add128 (n : Nat) : IntKind.u8.wrap (((n % 128 : Nat) : Int) + 128) = (((UInt8.ofNat (n % 128 + 128)).toNat : Nat) : Int) := by
  have ew : ∀ n : Int, IntKind.u8.wrap n = n % 256 := fun n => by simp [IntKind.wrap, IntKind.bits, IntKind.signed]
  rw [ew, ofNat_lt (by omega)]; omega

/-- Bytes put behind bytes. -/
theorem app_bs {i j n m : Nat} {f : Bool} {X Y : List UInt8} {H : List O} {K : V → List O → Prop} (hij : Nat.beq i j = false) (hX : getO H i = .buf (bs X)) (hY : getO H j = .buf (bs Y)) (hn : n = X.length) (hm : m = Y.length) (hs : X.length + Y.length ≤ 70368744177664)
    (hK : copyH (setO H i .dead ++ [.buf (bs (X ++ Y))]) fun H' => K (.ms 1 (setO H i .dead).length 0 (X ++ Y).length false) H') :
    0 + m ≤ (bs Y).length ∧ aapp 1 1 (.ms 1 i 0 n false) (.ms 1 j 0 m f) (List.take m (List.drop 0 (bs Y))) H K := by
  subst hn hm
  refine ⟨by rw [bs_len]; omega, ?_⟩
  unfold aapp sameBuf
  simp only [hij]
  unfold aappend
  simp only [show Nat.beq 1 1 = true from rfl, hX]
  refine ⟨by rw [bs_len]; rfl, ?_⟩
  have e : List.drop 0 (bs X) ++ List.take Y.length (List.drop 0 (bs Y)) = bs (X ++ Y) := by
    rw [List.drop_zero, List.drop_zero, bs_app, ← bs_len Y, List.take_length]
  rw [e]
  refine ⟨by rw [bs_len, List.length_append]; omega, ?_⟩
  rw [bs_len]
  exact hK

theorem app_str {i n : Nat} {X s : List UInt8} {H : List O} {K : V → List O → Prop} (hX : getO H i = .buf (bs X)) (hn : n = X.length) (hs : X.length + s.length ≤ 70368744177664)
    (hK : copyH (setO H i .dead ++ [.buf (bs (X ++ s))]) fun H' => K (.ms 1 (setO H i .dead).length 0 (X ++ s).length false) H') :
    aapp 1 1 (.ms 1 i 0 n false) (.str s) (bs s) H K := by
  subst hn
  unfold aapp sameBuf
  simp only
  unfold aappend
  simp only [show Nat.beq 1 1 = true from rfl, hX]
  refine ⟨by rw [bs_len]; rfl, ?_⟩
  have e : List.drop 0 (bs X) ++ bs s = bs (X ++ s) := by
    rw [List.drop_zero, bs_app]
  rw [e]
  refine ⟨by rw [bs_len, List.length_append]; omega, ?_⟩
  rw [bs_len]
  exact hK

theorem numW_len (n : Int) : (numW n).length ≤ 10 := digW_len _

end Go.Proofs.YtgikkoeckdhgkaaDoorPg

/- Events: the example; the law EventSame. -/
namespace Go.Proofs.YtgikkoeckdhgkaaDoorPg
open Go Go.RowKit
set_option linter.unusedSimpArgs false
set_option linter.unusedVariables false

variable {Q : V → List O → Prop}

theorem sorted_nil : SortedT [] := List.Pairwise.nil

structure EvtB (e : Evt) : Prop where
  b : e.b.length ≤ 9223372036854775807
  a : e.a.length ≤ 9223372036854775807

end Go.Proofs.YtgikkoeckdhgkaaDoorPg

/- Events and tables as arguments. -/
namespace Go.Proofs.YtgikkoeckdhgkaaDoorPg
open Go Go.RowKit
set_option linter.unusedSimpArgs false
set_option linter.unusedVariables false

structure ValIn (v : Val) : Prop where
  k : I64 v.k
  n : I64 v.n
  t : v.t.length ≤ Globs.txt

structure ChgIn (c : Chg) : Prop where
  k : I64 c.k
  ks : I64 c.ks
  col : I64 c.col.k
  c : ∀ x ∈ c.c, I64 x.k

structure EvtIn (e : Evt) : Prop extends EvtB e where
  k : I64 e.k
  n : I64 e.n
  vb : ∀ v ∈ e.b, ValIn v
  va : ∀ v ∈ e.a, ValIn v
  ch : ChgIn e.ch

theorem evals_of : ∀ {es : List (List V)}, (∀ x ∈ es, ∃ (k n : Int) (s : List UInt8), x = [.int .i64 k, .int .i64 n, .str s] ∧ I64 k ∧ I64 n ∧ s.length ≤ Globs.txt) → ∃ l : List Val, es = vals l ∧ ∀ v ∈ l, ValIn v
  | [], _ => ⟨[], rfl, by simp⟩
  | x :: es, h => by
    obtain ⟨k, n, s, rfl, h1, h2, h3⟩ := h x (by simp)
    obtain ⟨l, rfl, hl⟩ := evals_of (es := es) fun y hy => h y (by simp [hy])
    refine ⟨⟨k, n, s⟩ :: l, rfl, fun v hv => ?_⟩
    rcases List.mem_cons.1 hv with rfl | hv
    · exact ⟨h1, h2, h3⟩
    · exact hl v hv

theorem vals_len' (l : List Val) : (vals l).length = l.length := vals_len l

theorem ev_in {vs : List V} (h : Shp tt 8 60 vs) : ∃ e : Evt, argV tt 60 vs = evA e ∧ EvtIn e := by
  obtain ⟨_, _, ⟨k, hk, rfl⟩, ⟨_, _, ⟨n, hn, rfl⟩, ⟨_, _, ⟨t, _, rfl⟩, ⟨_, _, ⟨eb, heb, gb, rfl⟩, ⟨_, _, ⟨ea, hea, ga, rfl⟩, ⟨_, _, hch, rfl, rfl⟩, rfl⟩, rfl⟩, rfl⟩, rfl⟩, rfl⟩ := h
  obtain ⟨_, _, ⟨ck, hck, rfl⟩, ⟨_, _, ⟨ct, _, rfl⟩, ⟨_, _, ⟨_, _, ⟨es, _, g1, rfl⟩, ⟨_, _, ⟨ks, hks, rfl⟩, rfl, rfl⟩, rfl⟩, ⟨_, _, ⟨_, _, ⟨cn, _, rfl⟩, ⟨_, _, ⟨cck, hcck, rfl⟩, ⟨_, _, ⟨o, rfl⟩, rfl, rfl⟩, rfl⟩, rfl⟩, rfl, rfl⟩, rfl⟩, rfl⟩, rfl⟩ := hch
  obtain ⟨l, rfl, hl⟩ := cols_of fun x hx => by
    obtain ⟨_, _, ⟨s, _, rfl⟩, ⟨_, _, ⟨k, hk, rfl⟩, ⟨_, _, ⟨o, rfl⟩, rfl, rfl⟩, rfl⟩, rfl⟩ := g1 x hx
    exact ⟨s, k, o, rfl, i64_wf hk⟩
  obtain ⟨lb, rfl, hlb⟩ := evals_of fun x hx => by
    obtain ⟨_, _, ⟨k, hk, rfl⟩, ⟨_, _, ⟨n, hn, rfl⟩, ⟨_, _, ⟨s, hs, rfl⟩, rfl, rfl⟩, rfl⟩, rfl⟩ := gb x hx
    exact ⟨k, n, s, rfl, i64_wf hk, i64_wf hn, hs⟩
  obtain ⟨la, rfl, hla⟩ := evals_of fun x hx => by
    obtain ⟨_, _, ⟨k, hk, rfl⟩, ⟨_, _, ⟨n, hn, rfl⟩, ⟨_, _, ⟨s, hs, rfl⟩, rfl, rfl⟩, rfl⟩, rfl⟩ := ga x hx
    exact ⟨k, n, s, rfl, i64_wf hk, i64_wf hn, hs⟩
  refine ⟨⟨k, n, t, lb, la, ⟨ck, ct, l, ks, ⟨cn, cck, o⟩⟩⟩, rfl, ⟨⟨?_, ?_⟩, i64_wf hk, i64_wf hn, hlb, hla, ⟨i64_wf hck, i64_wf hks, i64_wf hcck, hl⟩⟩⟩
  · rw [vals_len] at heb; exact Nat.le_trans heb (by decide)
  · rw [vals_len] at hea; exact Nat.le_trans hea (by decide)

structure TbIn (t : Tb) : Prop where
  k : I64 t.k
  c : ∀ x ∈ t.c, I64 x.k

theorem tbs_of : ∀ {es : List (List V)}, (∀ x ∈ es, ∃ t : Tb, x = tbC t ∧ TbIn t) → ∃ l : List Tb, es = tbs l ∧ ∀ t ∈ l, TbIn t
  | [], _ => ⟨[], rfl, by simp⟩
  | x :: es, h => by
    obtain ⟨t, rfl, ht⟩ := h x (by simp)
    obtain ⟨l, rfl, hl⟩ := tbs_of (es := es) fun y hy => h y (by simp [hy])
    refine ⟨t :: l, rfl, fun v hv => ?_⟩
    rcases List.mem_cons.1 hv with rfl | hv
    · exact ht
    · exact hl v hv

theorem tbs_in {vs : List V} (h : Shp tt 8 62 vs) : ∃ l : List Tb, argV tt 62 vs = .sl 3 (tbs l) false ∧ ∀ t ∈ l, TbIn t := by
  obtain ⟨es, _, g1, rfl⟩ := h
  obtain ⟨l, rfl, hl⟩ := tbs_of fun x hx => by
    obtain ⟨_, _, ⟨n, _, rfl⟩, ⟨_, _, ⟨_, _, ⟨es, _, g2, rfl⟩, ⟨_, _, ⟨k, hk, rfl⟩, rfl, rfl⟩, rfl⟩, rfl, rfl⟩, rfl⟩ := g1 x hx
    obtain ⟨l, rfl, hl⟩ := cols_of fun x hx => by
      obtain ⟨_, _, ⟨s, _, rfl⟩, ⟨_, _, ⟨k, hk, rfl⟩, ⟨_, _, ⟨o, rfl⟩, rfl, rfl⟩, rfl⟩, rfl⟩ := g2 x hx
      exact ⟨s, k, o, rfl, i64_wf hk⟩
    exact ⟨⟨n, l, k⟩, rfl, i64_wf hk, hl⟩
  exact ⟨l, rfl, hl⟩

end Go.Proofs.YtgikkoeckdhgkaaDoorPg

/- Tables that may be, made of any (the document's function). -/
namespace Go.Proofs.YtgikkoeckdhgkaaDoorPg
open Go Go.RowKit
set_option linter.unusedSimpArgs false
set_option linter.unusedVariables false

variable {Q : V → List O → Prop}

def poolT : List (List UInt8) := [[116], [117], [118]]
def tName (i : Nat) (t : Tb) : List UInt8 := if nameOk t.n then t.n else poolT.getD i []
def folG (o : List Tb) (i : Nat) (t : Tb) : List Tb × Int := folT o 1 (tName i t) (goodL nameOk t.c t.k) (goodK nameOk t.c t.k) col0
def stepG7 (o : List Tb) (i : Nat) (t : Tb) : List Tb := if (folG o i t).2 = 0 then (folG o i t).1 else o
def goodTN (l : List Tb) : Nat → List Tb
  | 0 => []
  | i + 1 => match l[i]? with
    | some t => stepG7 (goodTN l i) i t
    | none => goodTN l i
def goodT (l : List Tb) : List Tb := goodTN l 3

theorem goodTN_stop {l : List Tb} : ∀ {n : Nat}, l.length ≤ n → goodTN l n = goodTN l l.length
  | n, h => by
    induction n with
    | zero => have : l.length = 0 := by omega
              rw [this]
    | succ n ih =>
      by_cases c : l.length = n + 1
      · rw [c]
      · rw [goodTN, List.getElem?_eq_none (by omega)]
        exact ih (by omega)

theorem goodTN_ok {l : List Tb} (hl : ∀ t ∈ l, TbIn t) : ∀ i, TbsOk nameOk mayS (goodTN l i) ∧ (goodTN l i).length ≤ i
  | 0 => ⟨⟨List.Pairwise.nil, fun t h => (by cases h)⟩, Nat.le_refl 0⟩
  | i + 1 => by
    obtain ⟨h1, h2⟩ := goodTN_ok hl i
    rw [goodTN]
    cases hg : l[i]? with
    | none => exact ⟨h1, by simp only; omega⟩
    | some t =>
      have ht := hl t (List.mem_of_getElem? hg)
      simp only
      unfold stepG7
      by_cases c : (folG (goodTN l i) i t).2 = 0
      · rw [if_pos c]
        unfold folG folT at c ⊢
        rw [if_pos rfl] at c ⊢
        generalize tName i t = n at *
        split at c
        · cases c
        · rename_i c1
          split at c
          · cases c
          · rename_i c2
            split at c
            · cases c
            · rename_i c3
              split at c
              · cases c
              · rename_i c4
                rw [if_neg c1, if_neg c2, if_neg c3, if_neg c4]
                have hn : atT (goodTN l i) n = none := by
                  cases ha : atT (goodTN l i) n with
                  | none => rfl
                  | some j => rw [ha] at c2; simp at c2
                refine ⟨insT_ok h1 ⟨by simpa using c1, by simpa using c3⟩ hn, ?_⟩
                rw [insT_len]; omega
      · rw [if_neg c]; exact ⟨h1, by omega⟩

theorem poolT_get {i : Nat} (h : i < 3) : (poolT.map fun s => [V.str s])[i]? = some [.str (poolT.getD i [])] := by
  obtain rfl | rfl | rfl : i = 0 ∨ i = 1 ∨ i = 2 := by omega
  all_goals rfl

def GtInv (l : List Tb) (f : Bool) (m : Nat) (ws : List V) (H : List O) : Prop :=
  ∃ i : Nat, ws = [.sl 3 (tbs l) f, .sl 3 (tbs (goodTN l i)) false, .sl 1 (poolT.map fun s => [.str s]) true, fI i] ∧ H = [] ∧ i ≤ 3 ∧ i ≤ l.length ∧ m = 3 - i

/-! ### the law EventTables -/
def nms (l : List (List UInt8)) : List (List V) := l.map fun s => [.str s]
theorem nms_len (l : List (List UInt8)) : (nms l).length = l.length := by simp [nms]
theorem nms_get {l : List (List UInt8)} {i : Nat} {s : List UInt8} (h : l[i]? = some s) : (nms l)[i]? = some [.str s] := by simp [nms, h]

theorem nms_app (a b : List (List UInt8)) : nms (a ++ b) = nms a ++ nms b := by simp [nms]

/-- A name behind names, whether their slice is full or not. -/
theorem app_nm {i j n : Nat} {b f : Bool} {X : List (List UInt8)} {s : List UInt8} {H : List O} {K : V → List O → Prop} (hij : Nat.beq i j = false) (hX : getO H i = .buf (nms X)) (hn : n = X.length) (hs : X.length ≤ 1000000)
    (hK : ∀ H0 : List O, H0 = (match b with | true => H | false => setO H i .dead) → copyH (H0 ++ [.buf (nms (X ++ [s]))]) fun H' => K (.ms 1 H0.length 0 (X.length + 1) false) H') :
    0 + 1 ≤ 1 ∧ aapp 1 16 (.ms 1 i 0 n b) (.ms 1 j 0 1 f) [[.str s]] H K := by
  subst hn
  refine ⟨Nat.le_refl 1, ?_⟩
  unfold aapp
  cases b with
  | false =>
    unfold sameBuf
    simp only [hij]
    unfold aappend
    simp only [show Nat.beq 1 1 = true from rfl, hX, List.drop_zero]
    refine ⟨by rw [nms_len]; rfl, ?_⟩
    have hK := hK _ rfl
    rw [show nms X ++ [[V.str s]] = nms (X ++ [s]) by rw [nms_app]; rfl]
    unfold newBuf
    rw [nms_len, List.length_append, List.length_singleton]
    exact ⟨by omega, hK⟩
  | true =>
    unfold sameBuf
    simp only
    unfold aappend
    simp only [show Nat.beq 1 1 = true from rfl, hX, List.drop_zero]
    refine ⟨by rw [nms_len]; omega, fun h => (by cases h), fun _ => ?_⟩
    have hK := hK _ rfl
    rw [List.take_of_length_le (by rw [nms_len]; exact Nat.le_refl _), show nms X ++ [[V.str s]] = nms (X ++ [s]) by rw [nms_app]; rfl]
    unfold newBuf
    rw [nms_len, List.length_append, List.length_singleton]
    exact ⟨by omega, hK⟩

end Go.Proofs.YtgikkoeckdhgkaaDoorPg

/- May an event be: its change of tables (both functions). -/
namespace Go.Proofs.YtgikkoeckdhgkaaDoorPg
open Go Go.RowKit
set_option linter.unusedSimpArgs false
set_option linter.unusedVariables false

variable {Q : V → List O → Prop}

def kOk (k : Int) : Bool := decide (1 ≤ k) && decide (k ≤ 4)
def colE (c : Col) : Bool := nameOk c.n && kOk c.k
def nilS (c : Chg) : Bool := decide (c.ks = 0) && decide (c.c.length = 0)
/-- what a change of each kind must hold -/
def chgK (c : Chg) : Bool :=
  if c.k = 1 then mayS c.c c.ks && decide (c.col = col0)
  else if c.k = 2 then nilS c && decide (c.col = col0)
  else if c.k = 3 ∨ c.k = 5 then nilS c && colE c.col
  else nilS c && (nameOk c.col.n && (decide (c.col.k = 0) && !c.col.o))
def chgE (c : Chg) : Int :=
  if c.k = 1 ∨ c.k = 2 ∨ c.k = 3 ∨ c.k = 5 ∨ c.k = 4 then (if nameOk c.t && chgK c then 0 else 1) else 5

theorem chgE_bad {c : Chg} (h : ¬ (c.k = 1 ∨ c.k = 2 ∨ c.k = 3 ∨ c.k = 5 ∨ c.k = 4)) : chgE c = 5 := by unfold chgE; rw [if_neg h]
theorem chgE_is {c : Chg} {b : Bool} (hk : c.k = 1 ∨ c.k = 2 ∨ c.k = 3 ∨ c.k = 5 ∨ c.k = 4) (h : (nameOk c.t && chgK c) = b) : chgE c = if b then 0 else 1 := by
  unfold chgE; rw [if_pos hk, h]

theorem chg_sub (k : Int) (t n : List UInt8) (kk : Int) (o : Bool) : VSub (.agg [.int .i64 k, .str t, .nils, .int .i64 0, .str n, .int .i64 kk, .bool o]) (chA ⟨k, t, [], 0, ⟨n, kk, o⟩⟩) :=
  .agg (.cons (.refl _) (.cons (.refl _) (.cons (nils_sl3 false) (VSubs.refl _))))

theorem sm1 (c : Chg) : decide (c = ⟨c.k, c.t, c.c, c.ks, col0⟩) = decide (c.col = col0) := by cases c; simp
theorem sm2 (c : Chg) : decide (c = ⟨c.k, c.t, [], 0, col0⟩) = (nilS c && decide (c.col = col0)) := by
  cases c; simp [nilS, Bool.and_comm, Bool.and_assoc, Bool.and_left_comm]
theorem sm3 (c : Chg) : decide (c = ⟨c.k, c.t, [], 0, c.col⟩) = nilS c := by
  cases c; simp [nilS, Bool.and_comm]
theorem sm4 (c : Chg) : decide (c = ⟨c.k, c.t, [], 0, ⟨c.col.n, 0, false⟩⟩) = (nilS c && (decide (c.col.k = 0) && !c.col.o)) := by
  obtain ⟨k, t, l, ks, ⟨n, kk, o⟩⟩ := c
  cases o <;> simp [nilS, Bool.and_comm, Bool.and_assoc, Bool.and_left_comm]

theorem qiE {n m : Int} {H : List O} (h : Q (fI n) H) (e : n = m) : Q (fI m) H := e ▸ h

end Go.Proofs.YtgikkoeckdhgkaaDoorPg

/- May an event be: the program's function. -/
namespace Go.Proofs.YtgikkoeckdhgkaaDoorPg
open Go Go.RowKit
set_option linter.unusedSimpArgs false
set_option linter.unusedVariables false

variable {Q : V → List O → Prop}

/-- tables that stand, short enough -/
structure TbsB (l : List Tb) : Prop where
  ok : TbsOk nameOk mayS l
  few : l.length ≤ 64

theorem TbsB.cols {l : List Tb} (h : TbsB l) : ∀ x ∈ l, x.c.length ≤ 16 := fun x hx => (may_bd (h.ok.each x hx).sch).2.2.2

theorem findT_in {l : List Tb} {n : List UInt8} {C : List Col} {K : Int} (h : findT l n = some (C, K)) : ∃ x ∈ l, x.c = C ∧ x.k = K := by
  unfold findT at h
  cases ha : atT l n with
  | none => rw [ha] at h; cases h
  | some j =>
    rw [ha] at h
    cases hj : l[j]? with
    | none => simp only [Option.bind, hj] at h; cases h
    | some x => simp only [Option.bind, hj] at h; cases h; exact ⟨x, List.mem_of_getElem? hj, rfl, rfl⟩

theorem TbsB.found {l : List Tb} (h : TbsB l) {n : List UInt8} {C : List Col} {K : Int} (hf : findT l n = some (C, K)) : mayS C K = true ∧ C.length ≤ 16 ∧ ∃ k : Nat, K = k ∧ k ≤ C.length := by
  obtain ⟨x, hx, rfl, rfl⟩ := findT_in hf
  have hm := (h.ok.each x hx).sch
  have := may_bd hm
  exact ⟨hm, this.2.2.2, x.k.toNat, by omega, by omega⟩

/-- the texts of an event -/
structure EvtT (e : Evt) : Prop where
  b : TextsOk e.b
  a : TextsOk e.a
  lb : e.b.length < 9223372036854775808
  la : e.a.length < 9223372036854775808
  lc : e.ch.c.length < 1000000

def rowFit (e : Evt) (C : List Col) (K : Int) : Bool := if e.k = 5 then keyOkL C K.toNat e.b && decide ((e.b.length : Int) = K) else fitsL C e.a
def rowBare (e : Evt) : Bool := if e.k = 5 then decide (e = ⟨e.k, 0, e.t, e.b, [], chg0⟩) else decide (e = ⟨e.k, 0, e.t, [], e.a, chg0⟩)
def rowE (e : Evt) (l : List Tb) : Int := match findT l e.t with
  | none => 7
  | some (C, K) => if rowFit e C K = false then 9 else if rowBare e = false then 1 else 0

theorem row_sub5 (k : Int) (t : List UInt8) (b : List Val) : VSub (.agg [.int .i64 k, .int .i64 0, .str t, .sl 3 (vals b) false, .nils, .int .i64 0, .str [], .nils, .int .i64 0, .str [], .int .i64 0, .bool false]) (evA ⟨k, 0, t, b, [], chg0⟩) :=
  .agg (.cons (.refl _) (.cons (.refl _) (.cons (.refl _) (.cons (.refl _) (.cons (nils_sl3 false) (.cons (.refl _) (.cons (.refl _) (.cons (nils_sl3 false) (VSubs.refl _)))))))))
theorem row_sub (k : Int) (t : List UInt8) (a : List Val) : VSub (.agg [.int .i64 k, .int .i64 0, .str t, .nils, .sl 3 (vals a) false, .int .i64 0, .str [], .nils, .int .i64 0, .str [], .int .i64 0, .bool false]) (evA ⟨k, 0, t, [], a, chg0⟩) :=
  .agg (.cons (.refl _) (.cons (.refl _) (.cons (.refl _) (.cons (nils_sl3 false) (.cons (.refl _) (.cons (.refl _) (.cons (.refl _) (.cons (nils_sl3 false) (VSubs.refl _)))))))))


/-! ### May -/
def bare6 (e : Evt) : Bool := decide (e = ⟨e.k, 0, [], [], [], e.ch⟩)
def bareN (e : Evt) : Bool := decide (e = ⟨e.k, e.n, [], [], [], chg0⟩)
def mayE (e : Evt) (l : List Tb) : Int :=
  if rowK e.k then rowE e l
  else if e.k = 6 then (if chgE e.ch ≠ 0 then chgE e.ch else if decide (e.n < 0) || !bare6 e then 1 else 0)
  else if numK e.k then (if decide (e.n < 0) || !bareN e then 1 else 0) else 5

theorem may_sub6 (k n : Int) (c : Chg) : VSub (.agg [.int .i64 k, .int .i64 n, .str [], .nils, .nils, .int .i64 c.k, .str c.t, .sl 3 (cols c.c) false, .int .i64 c.ks, .str c.col.n, .int .i64 c.col.k, .bool c.col.o]) (evA ⟨k, n, [], [], [], c⟩) :=
  .agg (.cons (.refl _) (.cons (.refl _) (.cons (.refl _) (.cons (nils_sl3 false) (.cons (nils_sl3 false) (VSubs.refl _))))))
theorem may_subN (k n : Int) : VSub (.agg [.int .i64 k, .int .i64 n, .str [], .nils, .nils, .int .i64 0, .str [], .nils, .int .i64 0, .str [], .int .i64 0, .bool false]) (evA ⟨k, n, [], [], [], chg0⟩) :=
  .agg (.cons (.refl _) (.cons (.refl _) (.cons (.refl _) (.cons (nils_sl3 false) (.cons (nils_sl3 false) (.cons (.refl _) (.cons (.refl _) (.cons (nils_sl3 false) (VSubs.refl _)))))))))

end Go.Proofs.YtgikkoeckdhgkaaDoorPg

/- A window's functions: what is in it, spoil, put, Take. -/
namespace Go.Proofs.YtgikkoeckdhgkaaDoorPg
open Go Go.RowKit
set_option linter.unusedSimpArgs false
set_option linter.unusedVariables false

variable {Q : V → List O → Prop}

/-- an open window, its tree in object p -/
def openO (w : WS) (p : Nat) : O := .cells [fI w.num, .str w.t.n, .sl 3 (cols w.t.c) false, fI w.t.k, .str w.after, .str w.fin, .bool w.last, .bool w.sp, .ptr p 0]

theorem WNew_spec {size : Int} (h : Q (.ptr 0 0) [.cells [fI (if size < 1 then 1 else size), .nilp]]) : ACall Tryd.prog 8 0 [fI size] [] Q := by
  refine by_body Tryd.func8 0 rfl (Nat.le_of_ble_eq_true rfl) ?_
  conv => whnf
  have e : (if (1 : Int) > size then (1 : Int) else size) = if size < 1 then 1 else size := by by_cases h1 : size < 1 <;> simp [h1]
  refine ⟨[0], rfl, ?_⟩
  rw [← e] at h
  exact h

theorem win_spec {w : WS} {t : Tr Rw} {n : Int} {key : List UInt8} (h : Q (.bool (inW w key)) [openO w 1, treeO t n]) : ACall Tryd.prog 70 2 [.ptr 0 0, .str key] [openO w 1, treeO t n] Q := by
  refine by_body Tryd.func70 2 rfl (Nat.le_of_ble_eq_true rfl) ?_
  conv => whnf
  unfold inW at h
  refine branch_i (fun c => ?_) (fun c => ?_) <;> try rw [c] <;> conv => whnf
  · rw [gt_eq] at c
    rw [c] at h
    cases hl : w.last <;> rw [hl] at h <;> conv => whnf
    · rw [le_eq]
      exact ⟨[0, 1], rfl, h⟩
    · exact ⟨[0, 1], rfl, h⟩
  · rw [gt_eq] at c
    rw [c] at h
    exact ⟨[0, 1], rfl, h⟩

theorem spoil_spec {w : WS} {t : Tr Rw} {n : Int} (h : Q (.tup []) [openO (spoilW w) 1, treeO .nil 0]) : ACall Tryd.prog 49 1 [.ptr 0 0] [openO w 1, treeO t n] Q := by
  refine by_body Tryd.func49 1 rfl (Nat.le_of_ble_eq_true rfl) ?_
  conv => whnf
  refine .call [] 0 ⟨rfl, rfl, rfl⟩ (TNew_spec ?_)
  conv => whnf
  exact ⟨[0, 2], rfl, h⟩

theorem VCloneF_spec {r : Rw} (hl : r.length < 1000000) (h : Q (fR r) []) : ACall Tryd.prog 38 0 [.sl 3 (vals r) false] [] Q := by
  refine ACall.ret (VClone_spec hl (.frz 0 rfl (by repeat (first | exact trivial | refine And.intro (Nat.le_of_eq (by rw [vals_len, Nat.zero_add])) ?_)) (.done [] rfl ?_)))
  show Q (.sl 3 (List.take r.length (vals r)) false) []
  rw [List.take_of_length_le (by rw [vals_len]; exact Nat.le_refl _)]
  exact h

/-- an event's texts are not beyond all bounds -/
structure EvX (e : Evt) : Prop where
  b : TextsOk e.b
  a : TextsOk e.a

/-- the row of an event that counts -/
def evRow (e : Evt) : Rw := if e.k = 5 then e.b else e.a

/-- what an event that fits does -/
def putW (w : WS) (e : Evt) : WS :=
  if inW w (kyT w.t (evRow e)) then (if e.k = 5 then { w with rows := cutR w.t.c w.t.k.toNat w.rows (kyT w.t e.b) } else { w with rows := putR w.t.c w.t.k.toNat w.rows e.a }) else w

theorem keyR_no {C : List Col} {k : Nat} {r : Rw} (h : keyOkL C k r = false) : keyR C k r = .tup [.str [], fI 9] := by unfold keyR; rw [h]; rfl
theorem keyR_yes {C : List Col} {k : Nat} {r : Rw} (h : keyOkL C k r = true) : keyR C k r = .tup [.str (kyR C k r), fI 0] := by unfold keyR kyR; rw [h]; rfl

set_option maxHeartbeats 8000000 in
theorem wput_spec {w : WS} {t : Tr Rw} {n : Int} {m : Nat} {e : Evt} (hw : WOk w t n m) (hm : m < 1000000) (he : EvX e)
    (h : ∀ t' n', (takeFit w e = true → WOk (putW w e) t' n' (m + 1)) → (takeFit w e = false → t' = t ∧ n' = n) → Q (fI (if takeFit w e then 0 else 9)) [openO w 1, treeO t' n']) :
    ACall Tryd.prog 48 2 [.ptr 0 0, evA e] [openO w 1, treeO t n] Q := by
  refine by_body Tryd.func48 2 rfl (Nat.le_of_ble_eq_true rfl) ?_
  obtain ⟨size, is, num, ⟨nm, C, K⟩, after, fin, last, sp, rows⟩ := w
  obtain ⟨k, rfl⟩ : ∃ k : Nat, K = k := ⟨K.toNat, by have := hw.may.1; simp only at this; omega⟩
  have hk1 : 1 ≤ k := by have := hw.may.1; simp only at this; omega
  have hk2 : k ≤ C.length := by have := hw.may.2.1; simp only at this; omega
  have hC : C.length ≤ 16 := hw.may.2.2
  have hht := hw.ok.ht
  have hsrt := hw.ok.srt
  have heq := hw.eq
  conv => whnf
  refine branch_i (fun c => ?_) (fun c => ?_) <;> try rw [c] <;> conv => whnf
  · have c' := of_decide_eq_true c
    have hfit : takeFit ⟨size, is, num, ⟨nm, C, k⟩, after, fin, last, sp, rows⟩ e = (keyOkL C k e.b && decide ((e.b.length : Int) = k)) := by unfold takeFit; rw [if_pos c']; rfl
    refine .pure (SKey_spec (l := C) (keys := k) (vs := e.b) (f := false) (by omega) hk2 he.b ⟨rfl, ?_⟩)
    cases hkb : keyOkL C k e.b
    · rw [keyR_no hkb]
      rw [hkb, Bool.false_and] at hfit
      conv => whnf
      have := h t n (fun hx => by rw [hfit] at hx; cases hx) (fun _ => ⟨rfl, rfl⟩)
      rw [hfit] at this
      exact ⟨[0, 1], rfl, this⟩
    · rw [keyR_yes hkb]
      rw [hkb, Bool.true_and] at hfit
      repeat (conv => whnf
              rw [c])
      conv => whnf
      rw [vals_len]
      cases hlk : decide ((e.b.length : Int) = k) <;> rw [hlk] at hfit <;> conv => whnf
      · have := h t n (fun hx => by rw [hfit] at hx; cases hx) (fun _ => ⟨rfl, rfl⟩)
        rw [hfit] at this
        exact ⟨[0, 1], rfl, this⟩
      · refine .call [0, 1] 2 ⟨rfl, rfl, rfl⟩ (win_spec (w := ⟨size, is, num, ⟨nm, C, k⟩, after, fin, last, sp, rows⟩) ?_)
        cases hin : inW ⟨size, is, num, ⟨nm, C, k⟩, after, fin, last, sp, rows⟩ (kyR C k e.b) <;> conv => whnf
        · have hpw : putW ⟨size, is, num, ⟨nm, C, k⟩, after, fin, last, sp, rows⟩ e = ⟨size, is, num, ⟨nm, C, k⟩, after, fin, last, sp, rows⟩ := by
            unfold putW evRow
            rw [if_pos c', show inW ⟨size, is, num, ⟨nm, C, k⟩, after, fin, last, sp, rows⟩ (kyT ⟨nm, C, k⟩ e.b) = false from hin]
            rfl
          have := h t n (fun _ => by rw [hpw]; exact ⟨hw.ok.mono (by omega), hw.eq, hw.may⟩) (fun hx => by rw [hfit] at hx; cases hx)
          rw [hfit] at this
          exact ⟨[0, 1], rfl, this⟩
        · rw [c]
          conv => whnf
          refine .call [1] 1 ⟨rfl, rfl, rfl⟩ (Cut_spec (by omega) ?_)
          conv => whnf
          have hpw : putW ⟨size, is, num, ⟨nm, C, k⟩, after, fin, last, sp, rows⟩ e = ⟨size, is, num, ⟨nm, C, k⟩, after, fin, last, sp, cutR C k rows (kyR C k e.b)⟩ := by
            unfold putW evRow
            rw [if_pos c', show inW ⟨size, is, num, ⟨nm, C, k⟩, after, fin, last, sp, rows⟩ (kyT ⟨nm, C, k⟩ e.b) = true from hin, if_pos rfl, if_pos c']
            rfl
          have hsr : SortedL (kvR C k rows) := by have := hsrt; rw [heq] at this; exact this
          have := h (if (fndT (kyR C k e.b) t).isNil then t else cutT (kyR C k e.b) t) (if (fndT (kyR C k e.b) t).isNil then n else IntKind.i64.wrap (n - 1))
            (fun _ => by rw [hpw]; exact ⟨(hw.ok.cut (by omega) _).mono (by omega), by rw [cut_inL hsrt, heq]; exact kv_cut _ hsr, hw.may⟩) (fun hx => by rw [hfit] at hx; cases hx)
          rw [hfit] at this
          exact ⟨[0, 1], rfl, this⟩
  · have c' := of_decide_eq_false c
    have hfit : takeFit ⟨size, is, num, ⟨nm, C, k⟩, after, fin, last, sp, rows⟩ e = fitsL C e.a := by unfold takeFit; rw [if_neg c']
    refine .pure (SKey_spec (l := C) (keys := k) (vs := e.a) (f := false) (by omega) hk2 he.a ⟨rfl, ?_⟩)
    cases hkb : keyOkL C k e.a
    · have hf0 : fitsL C e.a = false := by
        cases hx : fitsL C e.a with
        | false => rfl
        | true => rw [keyOk_of_fits hk2 hx] at hkb; cases hkb
      rw [keyR_no hkb]
      rw [hf0] at hfit
      conv => whnf
      have := h t n (fun hx => by rw [hfit] at hx; cases hx) (fun _ => ⟨rfl, rfl⟩)
      rw [hfit] at this
      exact ⟨[0, 1], rfl, this⟩
    · rw [keyR_yes hkb]
      repeat (conv => whnf
              rw [c])
      conv => whnf
      refine .pure (Fits_spec (l := C) (keys := (k : Int)) (vs := e.a) (f := false) (by omega) he.a ⟨rfl, ?_⟩)
      cases hf0 : fitsL C e.a <;> rw [hf0] at hfit <;> conv => whnf
      · have := h t n (fun hx => by rw [hfit] at hx; cases hx) (fun _ => ⟨rfl, rfl⟩)
        rw [hfit] at this
        exact ⟨[0, 1], rfl, this⟩
      · repeat (rw [c]
                conv => whnf)
        have hal := fits_len hf0
        refine .call [0, 1] 2 ⟨rfl, rfl, rfl⟩ (win_spec (w := ⟨size, is, num, ⟨nm, C, k⟩, after, fin, last, sp, rows⟩) ?_)
        cases hin : inW ⟨size, is, num, ⟨nm, C, k⟩, after, fin, last, sp, rows⟩ (kyR C k e.a) <;> conv => whnf
        · have hpw : putW ⟨size, is, num, ⟨nm, C, k⟩, after, fin, last, sp, rows⟩ e = ⟨size, is, num, ⟨nm, C, k⟩, after, fin, last, sp, rows⟩ := by
            unfold putW evRow
            rw [if_neg c', show inW ⟨size, is, num, ⟨nm, C, k⟩, after, fin, last, sp, rows⟩ (kyT ⟨nm, C, k⟩ e.a) = false from hin]
            rfl
          have := h t n (fun _ => by rw [hpw]; exact ⟨hw.ok.mono (by omega), hw.eq, hw.may⟩) (fun hx => by rw [hfit] at hx; cases hx)
          rw [hfit] at this
          exact ⟨[0, 1], rfl, this⟩
        · rw [c]
          conv => whnf
          refine ⟨[0, 1, 2, 3, 4, 5, 6, 7], by kernel_rfl, by kernel_rfl, ?_⟩
          conv => whnf
          refine .call [] 0 ⟨rfl, rfl, rfl⟩ (VCloneF_spec (r := e.a) (by omega) ?_)
          repeat (conv => whnf
                  refine ⟨rfl, ?_⟩)
          conv => whnf
          refine .call [1] 1 ⟨rfl, rfl, rfl⟩ (Put_spec (v := e.a) (by omega) ?_)
          repeat (conv => whnf
                  refine ⟨rfl, ?_⟩)
          conv => whnf
          have hpw : putW ⟨size, is, num, ⟨nm, C, k⟩, after, fin, last, sp, rows⟩ e = ⟨size, is, num, ⟨nm, C, k⟩, after, fin, last, sp, putR C k rows e.a⟩ := by
            unfold putW evRow
            rw [if_neg c', show inW ⟨size, is, num, ⟨nm, C, k⟩, after, fin, last, sp, rows⟩ (kyT ⟨nm, C, k⟩ e.a) = true from hin, if_pos rfl, if_neg c']
            rfl
          have := h (putT (kyR C k e.a) e.a t) (if (fndT (kyR C k e.a) t).isNil then IntKind.i64.wrap (n + 1) else n)
            (fun _ => by rw [hpw]; exact ⟨hw.ok.put (by omega) _ _, by rw [inL_put _ _ _ hsrt, heq]; exact kv_put _ _ _ _, hw.may⟩) (fun hx => by rw [hfit] at hx; cases hx)
          rw [hfit] at this
          exact ⟨[0, 1], rfl, this⟩

end Go.Proofs.YtgikkoeckdhgkaaDoorPg

/- A window's functions: Take. -/
namespace Go.Proofs.YtgikkoeckdhgkaaDoorPg
open Go Go.RowKit
set_option linter.unusedSimpArgs false
set_option linter.unusedVariables false

variable {Q : V → List O → Prop}

def winO (w : WS) : O := .cells [fI w.size, .ptr 1 0]
/-- an open window, in memory -/
def openH (w : WS) (t : Tr Rw) (n : Int) : List O := [winO w, openO w 2, treeO t n]

theorem putW_same (w : WS) (e : Evt) : (putW w e).size = w.size ∧ (putW w e).t = w.t ∧ openO (putW w e) 1 = openO w 1 ∧ openO (putW w e) 2 = openO w 2 := by
  unfold putW
  split
  · split <;> exact ⟨rfl, rfl, rfl, rfl⟩
  · exact ⟨rfl, rfl, rfl, rfl⟩

theorem spoil_same (w : WS) (l : List Rw) : spoilW { w with rows := l } = spoilW w := rfl

theorem WOk.len {w : WS} {t : Tr Rw} {n : Int} {m : Nat} (h : WOk w t n m) : n = (w.rows.length : Int) := by
  rw [h.ok.len, h.eq]
  unfold kvT
  rw [kvR_len]

theorem WOk.none (w : WS) (m : Nat) (h : 1 ≤ w.t.k ∧ w.t.k ≤ w.t.c.length ∧ w.t.c.length ≤ 16) : WOk (spoilW w) .nil 0 m := ⟨TOk.nil.mono (Nat.zero_le _), rfl, h⟩

theorem take_rowed {w : WS} {e : Evt} (hi : w.is = true) (hs : w.sp = false) (h3 : 3 ≤ e.k) (h5 : e.k ≤ 5) (ht : e.t = w.t.n) (hf : takeFit w e = true) (hfew : (w.rows.length : Int) ≤ w.size) :
    takeS w e = if w.size < ((putW w e).rows.length : Int) then (spoilW w, 0) else (putW w e, 0) := by
  unfold takeS
  rw [if_neg (by rw [hi, hs]; simp), if_neg (fun hh => by have := hh.1; omega), if_neg (fun hh => by rcases hh with hh | hh | hh; omega; omega; exact hh ht), if_neg (by rw [hf]; simp)]
  unfold putW evRow
  by_cases hk : e.k = 5
  · rw [if_pos hk, if_pos hk]
    cases hin : inW w (kyT w.t e.b) with
    | true =>
      simp only [if_true, if_pos hk]
      have := cut_len w.t.c w.t.k.toNat w.rows (kyT w.t e.b)
      rw [if_neg (by omega)]
    | false =>
      simp only [Bool.false_eq_true, if_false]
      rw [if_neg (by omega)]
  · rw [if_neg hk, if_neg hk]
    cases hin : inW w (kyT w.t e.a) with
    | true => simp only [if_true, if_neg hk, Bool.true_eq_false, if_false]
    | false =>
      simp only [Bool.false_eq_true, if_false, if_true]
      rw [if_neg (by omega)]

theorem take_unfit {w : WS} {e : Evt} (hi : w.is = true) (hs : w.sp = false) (h3 : 3 ≤ e.k) (h5 : e.k ≤ 5) (ht : e.t = w.t.n) (hf : takeFit w e = false) : takeS w e = (w, 9) := by
  unfold takeS
  rw [if_neg (by rw [hi, hs]; simp), if_neg (fun hh => by have := hh.1; omega), if_neg (fun hh => by rcases hh with hh | hh | hh; omega; omega; exact hh ht), if_pos hf]

theorem take_alien {w : WS} {e : Evt} (h6 : ¬ (e.k = 6 ∧ e.ch.t = w.t.n)) (ht : ¬ (3 ≤ e.k ∧ e.k ≤ 5 ∧ e.t = w.t.n)) : takeS w e = (w, 0) := by
  unfold takeS
  by_cases h0 : w.is = false ∨ w.sp = true
  · rw [if_pos h0]
  rw [if_neg h0, if_neg h6, if_pos]
  refine Decidable.by_contra fun hc => ht ⟨?_, ?_, ?_⟩
  · exact Decidable.by_contra fun h => hc (.inl (by omega))
  · exact Decidable.by_contra fun h => hc (.inr (.inl (by omega)))
  · exact Decidable.by_contra fun h => hc (.inr (.inr h))

theorem take_alter {w : WS} {e : Evt} (hi : w.is = true) (hs : w.sp = false) (h6 : e.k = 6) (ht : e.ch.t = w.t.n) : takeS w e = (spoilW w, 0) := by
  unfold takeS
  rw [if_neg (by rw [hi, hs]; simp), if_pos ⟨h6, ht⟩]

theorem kinds6 (k : Int) : (k = 3 ∨ k = 4 ∨ k = 5) ∨ k = 6 ∨ (k ≠ 3 ∧ k ≠ 4 ∧ k ≠ 5 ∧ k ≠ 6) := by omega

set_option maxHeartbeats 8000000 in
theorem WTake_spec {w : WS} {t : Tr Rw} {n : Int} {m : Nat} {e : Evt} (hg : WGood w) (hi : w.is = true) (hw : WOk w t n m) (hm : m < 1000000) (he : EvX e)
    (h : ∀ t' n', WOk (takeS w e).1 t' n' (m + 1) → Q (fI (takeS w e).2) (openH (takeS w e).1 t' n')) :
    ACall Tryd.prog 24 2 [.ptr 0 0, evA e] (openH w t n) Q := by
  refine by_body Tryd.func24 2 rfl (Nat.le_of_ble_eq_true rfl) ?_
  have hn := hw.len
  have hfew := hg.few
  have hpos := hg.pos
  have hw1 : WOk w t n (m + 1) := ⟨hw.ok.mono (by omega), hw.eq, hw.may⟩
  conv => whnf
  cases hs : w.sp <;> conv => whnf
  rotate_left
  · have hts : takeS w e = (w, 0) := by unfold takeS; rw [if_pos (.inr hs)]
    have := h t n (by rw [hts]; exact hw1)
    rw [hts] at this
    exact ⟨[0, 1, 2], rfl, this⟩
  have nsz : decide (n > w.size) = false := decide_eq_false (by omega)
  rcases kinds6 e.k with hk | hk | hk
  · have h3 : 3 ≤ e.k := by omega
    have h5 : e.k ≤ 5 := by omega
    have stay : ∀ c : Int, takeS w e = (w, c) → Q (fI c) (openH w t n) := fun c hc => by
      have := h t n (by rw [hc]; exact hw1)
      rw [hc] at this
      exact this
    rcases hk with hk | hk | hk
    focus
      rw [show decide (e.k = 3) = true from decide_eq_true hk]
      conv => whnf
    rotate_left
    focus
      rw [show decide (e.k = 3) = false from decide_eq_false (by omega)]
      conv => whnf
      rw [show decide (e.k = 4) = true from decide_eq_true hk]
      conv => whnf
    rotate_left
    focus
      rw [show decide (e.k = 3) = false from decide_eq_false (by omega)]
      conv => whnf
      rw [show decide (e.k = 4) = false from decide_eq_false (by omega)]
      conv => whnf
      rw [show decide (e.k = 5) = true from decide_eq_true hk]
      conv => whnf
    all_goals
      refine ⟨[0, 1, 2, 3, 4, 5, 6, 7], by kernel_rfl, by kernel_rfl, ?_⟩
      conv => whnf
      refine branch_i (fun ct => ?_) (fun ct => ?_) <;> try rw [ct] <;> conv => whnf
    all_goals first
      | (have ct' := of_decide_eq_true ct
         refine .call [1, 2] 2 ⟨rfl, rfl, rfl⟩ (wput_spec hw (by omega) he fun t' n' h1 h2 => ?_)
         cases hf : takeFit w e
         · obtain ⟨rfl, rfl⟩ := h2 hf
           have := stay 9 (take_unfit hi hs h3 h5 ct' hf)
           conv => whnf
           refine ⟨[0, 1, 2, 3, 5, 6, 7, 8, 4, 9], by kernel_rfl, by kernel_rfl, ?_⟩
           conv => whnf
           refine .call [2] 1 ⟨rfl, rfl, rfl⟩ (Len_spec ?_)
           repeat (conv => whnf
                   refine ⟨rfl, ?_⟩)
           conv => whnf
           rw [nsz]
           conv => whnf
           exact ⟨[0, 1, 2], rfl, this⟩
         · have h1 := h1 hf
           have hts := take_rowed hi hs h3 h5 ct' hf hfew
           have hn' := h1.len
           obtain ⟨q1, q2, q3, q4⟩ := putW_same w e
           conv => whnf
           refine ⟨[0, 1, 2, 3, 5, 6, 7, 8, 4, 9], by kernel_rfl, by kernel_rfl, ?_⟩
           conv => whnf
           refine .call [2] 1 ⟨rfl, rfl, rfl⟩ (Len_spec ?_)
           repeat (conv => whnf
                   refine ⟨rfl, ?_⟩)
           conv => whnf
           refine branch_i (fun cs => ?_) (fun cs => ?_) <;> try rw [cs] <;> conv => whnf
           · have cs' := of_decide_eq_true cs
             rw [if_pos (by omega)] at hts
             refine .call [1, 2] 1 ⟨rfl, rfl, rfl⟩ (spoil_spec (w := w) ?_)
             conv => whnf
             have := h .nil 0 (by rw [hts]; exact WOk.none w _ hw.may)
             rw [hts] at this
             exact ⟨[0, 1, 2], rfl, this⟩
           · have cs' := of_decide_eq_false cs
             rw [if_neg (by omega)] at hts
             have := h t' n' (by rw [hts]; exact h1)
             rw [hts] at this
             unfold openH winO at this
             rw [q1, q4] at this
             exact ⟨[0, 1, 2], rfl, this⟩)
      | (have ct' := of_decide_eq_false ct
         have := stay 0 (take_alien (fun hh => by have := hh.1; omega) fun hh => ct' hh.2.2)
         refine ⟨[0, 1, 2, 3, 5, 6, 7, 8, 4, 9], by kernel_rfl, by kernel_rfl, ?_⟩
         conv => whnf
         refine .call [2] 1 ⟨rfl, rfl, rfl⟩ (Len_spec ?_)
         repeat (conv => whnf
                 refine ⟨rfl, ?_⟩)
         conv => whnf
         rw [nsz]
         conv => whnf
         exact ⟨[0, 1, 2], rfl, this⟩)
      | (try dsimp [mergeO, mapO, idx, renO, renV, renL, renE, fogOf, fogE, back, forget, gather, getO, setO, Nat.beq, List.drop, List.take, frzH, frzO, frzV, frzL, frzE]); trace_state; sorry
  · rw [show decide (e.k = 3) = false from decide_eq_false (by omega)]
    conv => whnf
    rw [show decide (e.k = 4) = false from decide_eq_false (by omega)]
    conv => whnf
    rw [show decide (e.k = 5) = false from decide_eq_false (by omega)]
    conv => whnf
    rw [show decide (e.k = 6) = true from decide_eq_true hk]
    conv => whnf
    refine ⟨[0, 1, 2, 3, 4, 5, 6, 7, 8], by kernel_rfl, by kernel_rfl, ?_⟩
    conv => whnf
    refine branch_i (fun ct => ?_) (fun ct => ?_) <;> try rw [ct] <;> conv => whnf
    · have ct' := of_decide_eq_true ct
      have hts := take_alter hi hs hk ct'
      refine .call [1, 2] 1 ⟨rfl, rfl, rfl⟩ (spoil_spec (w := w) ?_)
      conv => whnf
      refine ⟨[0, 1, 2, 3, 5, 6, 7, 8, 4, 9], by kernel_rfl, by kernel_rfl, ?_⟩
      conv => whnf
      refine .call [2] 1 ⟨rfl, rfl, rfl⟩ (Len_spec ?_)
      repeat (conv => whnf
              refine ⟨rfl, ?_⟩)
      conv => whnf
      rw [show decide (0 > w.size) = false from decide_eq_false (by omega)]
      conv => whnf
      have := h .nil 0 (by rw [hts]; exact WOk.none w _ hw.may)
      rw [hts] at this
      exact ⟨[0, 1, 2], rfl, this⟩
    · have ct' := of_decide_eq_false ct
      have hts := take_alien (w := w) (e := e) (fun hh => ct' hh.2) (fun hh => by omega)
      have := h t n (by rw [hts]; exact hw1)
      rw [hts] at this
      refine ⟨[0, 1, 2, 3, 5, 6, 7, 8, 4, 9], by kernel_rfl, by kernel_rfl, ?_⟩
      conv => whnf
      refine .call [2] 1 ⟨rfl, rfl, rfl⟩ (Len_spec ?_)
      repeat (conv => whnf
              refine ⟨rfl, ?_⟩)
      conv => whnf
      rw [nsz]
      conv => whnf
      exact ⟨[0, 1, 2], rfl, this⟩
  · rw [show decide (e.k = 3) = false from decide_eq_false (by omega)]
    conv => whnf
    rw [show decide (e.k = 4) = false from decide_eq_false (by omega)]
    conv => whnf
    rw [show decide (e.k = 5) = false from decide_eq_false (by omega)]
    conv => whnf
    rw [show decide (e.k = 6) = false from decide_eq_false (by omega)]
    conv => whnf
    have hts := take_alien (w := w) (e := e) (fun hh => by omega) (fun hh => by omega)
    have := h t n (by rw [hts]; exact hw1)
    rw [hts] at this
    refine ⟨[0, 1, 2, 3, 5, 6, 7, 8, 4, 9], by kernel_rfl, by kernel_rfl, ?_⟩
    conv => whnf
    refine .call [2] 1 ⟨rfl, rfl, rfl⟩ (Len_spec ?_)
    repeat (conv => whnf
            refine ⟨rfl, ?_⟩)
    conv => whnf
    rw [nsz]
    conv => whnf
    exact ⟨[0, 1, 2], rfl, this⟩

end Go.Proofs.YtgikkoeckdhgkaaDoorPg

/- A window's functions: what is told of it. -/
namespace Go.Proofs.YtgikkoeckdhgkaaDoorPg
open Go Go.RowKit
set_option linter.unusedSimpArgs false
set_option linter.unusedVariables false

variable {Q : V → List O → Prop}

def shutH (size : Int) : List O := [.cells [fI size, .nilp]]

theorem WNumber0_spec {size : Int} (h : Q (fI (-1)) (shutH size)) : ACall Tryd.prog 15 1 [.ptr 0 0] (shutH size) Q := by
  refine by_body Tryd.func15 1 rfl (Nat.le_of_ble_eq_true rfl) ?_
  conv => whnf
  exact ⟨[0], rfl, h⟩

theorem WNumber1_spec {w : WS} {t : Tr Rw} {n : Int} (h : Q (fI w.num) (openH w t n)) : ACall Tryd.prog 15 3 [.ptr 0 0] (openH w t n) Q := by
  refine by_body Tryd.func15 3 rfl (Nat.le_of_ble_eq_true rfl) ?_
  conv => whnf
  exact ⟨[0, 1, 2], rfl, h⟩

theorem WTable0_spec {size : Int} (h : Q (.str []) (shutH size)) : ACall Tryd.prog 43 1 [.ptr 0 0] (shutH size) Q := by
  refine by_body Tryd.func43 1 rfl (Nat.le_of_ble_eq_true rfl) ?_
  conv => whnf
  exact ⟨[0], rfl, h⟩

theorem WTable1_spec {w : WS} {t : Tr Rw} {n : Int} (h : Q (.str w.t.n) (openH w t n)) : ACall Tryd.prog 43 3 [.ptr 0 0] (openH w t n) Q := by
  refine by_body Tryd.func43 3 rfl (Nat.le_of_ble_eq_true rfl) ?_
  conv => whnf
  exact ⟨[0, 1, 2], rfl, h⟩

theorem WSpoiled0_spec {size : Int} (h : Q (.bool false) (shutH size)) : ACall Tryd.prog 25 1 [.ptr 0 0] (shutH size) Q := by
  refine by_body Tryd.func25 1 rfl (Nat.le_of_ble_eq_true rfl) ?_
  conv => whnf
  exact ⟨[0], rfl, h⟩

theorem WSpoiled1_spec {w : WS} {t : Tr Rw} {n : Int} (h : Q (.bool w.sp) (openH w t n)) : ACall Tryd.prog 25 3 [.ptr 0 0] (openH w t n) Q := by
  refine by_body Tryd.func25 3 rfl (Nat.le_of_ble_eq_true rfl) ?_
  conv => whnf
  exact ⟨[0, 1, 2], rfl, h⟩

theorem WClear0_spec {size : Int} (h : Q (.tup []) (shutH size)) : ACall Tryd.prog 51 1 [.ptr 0 0] (shutH size) Q := by
  refine by_body Tryd.func51 1 rfl (Nat.le_of_ble_eq_true rfl) ?_
  conv => whnf
  exact ⟨[0], rfl, h⟩

theorem WClear1_spec {w : WS} {t : Tr Rw} {n : Int} (h : Q (.tup []) (shutH w.size ++ [openO w 2, treeO t n])) : ACall Tryd.prog 51 3 [.ptr 0 0] (openH w t n) Q := by
  refine by_body Tryd.func51 3 rfl (Nat.le_of_ble_eq_true rfl) ?_
  conv => whnf
  exact ⟨[0, 1, 2], rfl, h⟩

theorem WRows0_spec {size : Int} (h : Q (.sl 1 (rws []) false) (shutH size)) : ACall Tryd.prog 13 1 [.ptr 0 0] (shutH size) Q := by
  refine ACall.sub (by_body Tryd.func13 1 rfl (Nat.le_of_ble_eq_true rfl) ?_)
  conv => whnf
  exact ⟨[0], rfl, _, _, VSub.nils 1 false, HSub.refl _, h⟩

def outRw (c : LoopC) (es : List (List V)) : List O :=
  match es with
  | [] => [.loop c .ready [(3, .ptr 1 0)], .cells [.nils]]
  | x :: r => [.loop c .ready [(3, .ptr 1 0)], .cells [.ms 1 2 0 (x :: r).length false], .buf (x :: r)]

def RJ (c : LoopC) (pre : List (List V)) (Hs : List O) : Prop := Hs = outRw c (pre.map (List.drop 1))

theorem enc_rows {C : List Col} {K : Nat} (l : List Rw) : (encKV fR (kvR C K l)).map (List.drop 1) = rws l := by
  unfold encKV kvR rws
  rw [List.map_map, List.map_map]
  rfl

theorem from_all {t : Tr Rw} (hs : SortedL (inL t)) : fromL [] t = inL t := by
  rw [from_filter [] t hs]
  exact List.filter_eq_self.2 fun x _ => leS_nil _

set_option maxHeartbeats 8000000 in
theorem WRows1_spec {w : WS} {t : Tr Rw} {n : Int} {m : Nat} (hw : WOk w t n m) (hm : m < 1000000) (hl : ∀ r ∈ w.rows, r.length < 1000000) (h : Q (.sl 1 (rws w.rows) false) (openH w t n)) :
    ACall Tryd.prog 13 3 [.ptr 0 0] (openH w t n) Q := by
  refine ACall.sub (ACall.ret (by_body Tryd.func13 3 rfl (Nat.le_of_ble_eq_true rfl) ?_))
  conv => whnf
  refine .call [2] 1 ⟨rfl, rfl, rfl⟩ (From_spec ?_)
  conv => whnf
  have hL : encKV fR (fromL [] t) = encKV fR (kvR w.t.c w.t.k.toNat w.rows) := by rw [from_all hw.ok.srt, hw.eq]; rfl
  have hlen : (encKV fR (fromL [] t)).length < 1000000 := by
    rw [hL]
    unfold encKV
    rw [List.length_map, kvR_len]
    have := hw.ok.le
    rw [hw.eq] at this
    unfold kvT at this
    rw [kvR_len] at this
    omega
  refine ⟨[3], fun c hc => .pack [6, 3] [2, 4, 5] 2 (RJ c []) (RJ c (encKV fR (fromL [] t))) rfl rfl fun ks B hks => ?_⟩
  refine From1_spec (J := RJ c) (S := fun _ => False) (J' := RJ c (encKV fR (fromL [] t))) (yieldS_intro ?_ ?_) (fun _ hx => hx) (fun _ hx => hx.elim) ?_
  · intro x hx
    simp only [encKV, List.mem_map] at hx
    obtain ⟨kv, _, rfl⟩ := hx
    rfl
  · rintro pre x post Hs hp rfl
    have hpl : pre.length < 1000000 := by have := congrArg List.length hp; simp at this; omega
    obtain ⟨kx, r, rfl, hr⟩ : ∃ kx r, x = [.str kx, fR r] ∧ r ∈ w.rows := by
      have hx : x ∈ encKV fR (kvR w.t.c w.t.k.toNat w.rows) := by rw [← hL, ← hp]; simp
      simp only [encKV, kvR, List.map_map, List.mem_map] at hx
      obtain ⟨r, hr, rfl⟩ := hx
      exact ⟨_, r, rfl, hr⟩
    rw [hks]
    subst hc
    refine ayield_intro (cx_ok 0 0) ?_
    have hadd : ∀ c Hs, Hs = outRw c (pre.map (List.drop 1) ++ [[fR r]]) → RJ c (pre ++ [[.str kx, fR r]]) Hs := fun c Hs hh => by
      unfold RJ
      rw [List.map_append]; exact hh
    have hel : (pre.map (List.drop 1)).length < 1000000 := by rw [List.length_map]; exact hpl
    generalize hes : pre.map (List.drop 1) = es at *
    cases es with
    | nil =>
      conv => whnf
      refine ⟨[0, 1, 2, 3, 4, 5], by kernel_rfl, by kernel_rfl, ?_⟩
      conv => whnf
      refine .call [] 0 ⟨rfl, rfl, rfl⟩ (VCloneF_spec (r := r) (hl r hr) ?_)
      repeat (conv => whnf
              refine ⟨rfl, ?_⟩)
      conv => whnf
      refine ⟨Nat.le_refl _, ?_⟩
      conv => whnf
      refine ⟨(show (1 : Nat) * 24 ≤ 70368744177664 by decide), ?_⟩
      conv => whnf
      exact .done [0, 1, 3] rfl (.inl ⟨rfl, hadd _ _ rfl⟩)
    | cons y l =>
      conv => whnf
      refine ⟨[0, 1, 2, 3, 4, 5], by kernel_rfl, by kernel_rfl, ?_⟩
      conv => whnf
      refine .call [] 0 ⟨rfl, rfl, rfl⟩ (VCloneF_spec (r := r) (hl r hr) ?_)
      repeat (conv => whnf
              refine ⟨rfl, ?_⟩)
      conv => whnf
      refine ⟨Nat.le_refl _, ?_⟩
      conv => whnf
      refine ⟨rfl, ?_⟩
      conv => whnf
      refine ⟨(show (y :: (l ++ [[fR r]])).length * 24 ≤ 70368744177664 by simp only [List.length_cons, List.length_append, List.length_nil] at hel ⊢; omega), ?_⟩
      conv => whnf
      exact .done [0, 1, 4] rfl (.inl ⟨rfl, hadd _ _ rfl⟩)
  · intro B'
    refine ⟨B', _, rfl, rfl, ?_⟩
    rintro Hs hh _
    unfold RJ at hh
    rw [hL, enc_rows] at hh
    subst hh
    generalize hes : rws w.rows = es at *
    cases es with
    | nil =>
      conv => whnf
      exact ⟨[0, 1, 2], rfl, .done [0, 1, 2] rfl ⟨_, _, VSub.nils 1 false, HSub.refl _, h⟩⟩
    | cons k l =>
      conv => whnf
      refine ⟨[0, 1, 2, 7], rfl, ?_⟩
      exact .frz_ms (id := 3) (es := k :: l) (z := 1) (c := false) rfl rfl trivial (.done [0, 1, 2] rfl ⟨_, _, .refl _, HSub.refl _, h⟩)

theorem WLen0_spec {size : Int} (h : Q (fI 0) (shutH size)) : ACall Tryd.prog 26 1 [.ptr 0 0] (shutH size) Q := by
  refine by_body Tryd.func26 1 rfl (Nat.le_of_ble_eq_true rfl) ?_
  conv => whnf
  refine .call [0] 1 ⟨rfl, rfl, rfl⟩ (WRows0_spec ?_)
  conv => whnf
  exact ⟨[0], rfl, h⟩

theorem WLen1_spec {w : WS} {t : Tr Rw} {n : Int} {m : Nat} (hw : WOk w t n m) (hm : m < 1000000) (hl : ∀ r ∈ w.rows, r.length < 1000000) (h : Q (fI (w.rows.length : Nat)) (openH w t n)) :
    ACall Tryd.prog 26 3 [.ptr 0 0] (openH w t n) Q := by
  refine by_body Tryd.func26 3 rfl (Nat.le_of_ble_eq_true rfl) ?_
  conv => whnf
  refine .call [0, 1, 2] 3 ⟨rfl, rfl, rfl⟩ (WRows1_spec hw hm hl ?_)
  conv => whnf
  rw [← rws_len] at h
  exact ⟨[0, 1, 2], rfl, h⟩

theorem WShut0_spec {size num : Int} (h : Q (.tup [.sl 1 (rws []) false, .agg [.str [], .bool false, .str []], .bool false, fI 14]) (shutH size)) : ACall Tryd.prog 27 1 [.ptr 0 0, fI num] (shutH size) Q := by
  refine ACall.sub (by_body Tryd.func27 1 rfl (Nat.le_of_ble_eq_true rfl) ?_)
  conv => whnf
  exact ⟨[0], rfl, _, _, VSub.tup (.cons (VSub.nils 1 false) (VSubs.refl _)), HSub.refl _, h⟩

theorem WShutX_spec {w : WS} {t : Tr Rw} {n num : Int} (hn : w.num ≠ num) (h : Q (.tup [.sl 1 (rws []) false, .agg [.str [], .bool false, .str []], .bool false, fI 14]) (openH w t n)) : ACall Tryd.prog 27 3 [.ptr 0 0, fI num] (openH w t n) Q := by
  refine ACall.sub (by_body Tryd.func27 3 rfl (Nat.le_of_ble_eq_true rfl) ?_)
  conv => whnf
  rw [show decide (w.num = num) = false from decide_eq_false hn]
  conv => whnf
  exact ⟨[0, 1, 2], rfl, _, _, VSub.tup (.cons (VSub.nils 1 false) (VSubs.refl _)), HSub.refl _, h⟩

set_option maxHeartbeats 8000000 in
theorem WShut1_spec {w : WS} {t : Tr Rw} {n : Int} {m : Nat} (hw : WOk w t n m) (hm : m < 1000000) (hl : ∀ r ∈ w.rows, r.length < 1000000)
    (h : Q (if w.sp then .tup [.sl 1 (rws []) false, .agg [.str [], .bool false, .str []], .bool false, fI 0] else .tup [.sl 1 (rws w.rows) false, .agg [.str w.t.n, .bool w.last, .str (if w.last then [] else w.fin)], .bool true, fI 0]) (shutH w.size)) :
    ACall Tryd.prog 27 1 [.ptr 0 0, fI w.num] (openH w t n) Q := by
  refine ACall.sub (by_body Tryd.func27 1 rfl (Nat.le_of_ble_eq_true rfl) ?_)
  conv => whnf
  rw [show decide (w.num = w.num) = true from decide_eq_true rfl]
  conv => whnf
  refine .call [0, 1, 2] 3 ⟨rfl, rfl, rfl⟩ (WRows1_spec hw hm hl ?_)
  conv => whnf
  refine .call [0, 1, 2] 3 ⟨rfl, rfl, rfl⟩ (WClear1_spec ?_)
  conv => whnf
  cases hs : w.sp <;> rw [hs] at h <;> conv => whnf
  · refine ⟨[0, 1, 2, 3, 4, 5, 6, 7, 8, 9, 10, 11], by kernel_rfl, by kernel_rfl, ?_⟩
    repeat (conv => whnf
            refine ⟨rfl, ?_⟩)
    conv => whnf
    cases hl2 : w.last <;> rw [hl2] at h <;> conv => whnf
    · refine ⟨[0, 1, 2, 3, 4, 5], by kernel_rfl, by kernel_rfl, ?_⟩
      repeat (conv => whnf
              refine ⟨rfl, ?_⟩)
      conv => whnf
      exact ⟨[0], rfl, _, _, .refl _, HSub.refl _, h⟩
    · refine ⟨[0, 1, 2, 3, 4, 5], by kernel_rfl, by kernel_rfl, ?_⟩
      repeat (conv => whnf
              refine ⟨rfl, ?_⟩)
      conv => whnf
      exact ⟨[0], rfl, _, _, .refl _, HSub.refl _, h⟩
  · exact ⟨[0], rfl, _, _, VSub.tup (.cons (VSub.nils 1 false) (VSubs.refl _)), HSub.refl _, h⟩

end Go.Proofs.YtgikkoeckdhgkaaDoorPg

/- A window is opened. -/
namespace Go.Proofs.YtgikkoeckdhgkaaDoorPg
open Go Go.RowKit
set_option linter.unusedSimpArgs false
set_option linter.unusedVariables false

variable {Q : V → List O → Prop}

theorem WOpen1_spec {w : WS} {t : Tr Rw} {n num : Int} {b : Tb} {after : List UInt8} {rows : List (List V)} {f : Bool} (h : Q (fI 14) (openH w t n)) :
    ACall Tryd.prog 12 3 [.ptr 0 0, fI num, tbA b, .str after, .sl 1 rows f] (openH w t n) Q := by
  refine by_body Tryd.func12 3 rfl (Nat.le_of_ble_eq_true rfl) ?_
  conv => whnf
  exact ⟨[0, 1, 2], rfl, h⟩

theorem CloneF13_spec {l : List Col} {keys : Int} (hl : l.length < 1000000) (h : Q (sch l keys) []) : ACall Tryd.prog 33 0 [sch l keys] [] Q := by
  refine ACall.ret (Clone_spec hl (.frz 0 rfl (by repeat (first | exact trivial | refine And.intro (Nat.le_of_eq (by rw [cols_len, Nat.zero_add])) ?_)) (.done [] rfl ?_)))
  show Q (.agg [.sl 3 (List.take l.length (cols l)) false, fI keys]) []
  rw [List.take_of_length_le (by rw [cols_len]; exact Nat.le_refl _)]
  exact h

/-- the state within Open: so many rows are in -/
def opI (size num : Int) (b : Tb) (after : List UInt8) (rows : List Rw) (last : Bool) (m : Nat) (ws : List V) (H : List O) : Prop :=
  ∃ (i : Nat) (fin : List UInt8) (t : Tr Rw) (n : Int), ws = [.ptr 0 0, .ptr 1 0, .ptr 3 0, .sl 1 (rws rows) false, fI (rws rows).length, fI i] ∧
    H = [.cells [fI size, .nilp], .cells [.str b.n, .sl 3 (cols b.c) false, fI b.k], treeO t n, openO ⟨size, true, num, b, after, fin, last, false, rows⟩ 2] ∧
    TOk t n i ∧ inL t = kvT b (rows.take i) ∧ riseN b after (rows.take i) = some fin ∧ i ≤ rows.length ∧ m = rows.length - i

set_option maxHeartbeats 16000000 in
theorem WOpen0_spec {size num : Int} {b : Tb} {after : List UInt8} {rows : List Rw} (hsz : 1 ≤ size) (ht : RowsT rows) (hr : rows.length < 1000000)
    (h0 : (openS nameOk mayS (shutW size) num b after rows).2 ≠ 0 → Q (fI (openS nameOk mayS (shutW size) num b after rows).2) (shutH size))
    (h1 : ∀ t n, (openS nameOk mayS (shutW size) num b after rows).2 = 0 → WOk (openS nameOk mayS (shutW size) num b after rows).1 t n rows.length → Q (fI 0) (openH (openS nameOk mayS (shutW size) num b after rows).1 t n)) :
    ACall Tryd.prog 12 1 [.ptr 0 0, fI num, tbA b, .str after, .sl 1 (rws rows) false] (shutH size) Q := by
  refine by_body Tryd.func12 1 rfl (Nat.le_of_ble_eq_true rfl) ?_
  have hlr := rws_len rows
  have bad : openS nameOk mayS (shutW size) num b after rows = (shutW size, 1) → Q (fI 1) (shutH size) := fun hx => by
    rw [hx] at h0
    exact h0 (show (1 : Int) ≠ 0 by decide)
  have no : openOk nameOk mayS size num b rows = false → (openS nameOk mayS (shutW size) num b after rows) = (shutW size, 1) := fun hx => by
    unfold openS shutW at *
    simp only [Bool.false_eq_true, if_false]
    rw [hx]; rfl
  conv => whnf
  refine branch_i (fun c1 => ?_) (fun c1 => ?_) <;> try rw [c1] <;> conv => whnf
  · exact ⟨[0], rfl, bad (no (by unfold openOk; rw [c1]; rfl))⟩
  refine .pure (Name_spec ⟨rfl, ?_⟩)
  cases c2 : nameOk b.n <;> conv => whnf
  · exact ⟨[0], rfl, bad (no (by unfold openOk; rw [c2]; simp))⟩
  refine .pure (May_any (l := b.c) (keys := b.k) ⟨rfl, ?_⟩)
  cases c3 : mayS b.c b.k <;> conv => whnf
  · exact ⟨[0], rfl, bad (no (by unfold openOk; rw [c3]; simp))⟩
  rw [hlr]
  cases c4 : decide ((rows.length : Int) > size) <;> conv => whnf
  rotate_left
  · exact ⟨[0], rfl, bad (no (by unfold openOk; have := of_decide_eq_true c4; rw [show decide (size < (rows.length : Int)) = true from decide_eq_true (by omega)]; simp))⟩
  have hb := may_bd c3
  have hok : openOk nameOk mayS size num b rows = true := by
    unfold openOk
    rw [c1, c2, c3, show decide (size < (rows.length : Int)) = false from decide_eq_false (by have := of_decide_eq_false c4; omega)]
    rfl
  have hop : openS nameOk mayS (shutW size) num b after rows = match riseN b after rows with
      | some fin => (⟨size, true, num, b, after, fin, decide ((rows.length : Int) < size), false, rows⟩, 0)
      | none => (shutW size, 1) := by
    show (if false = true then _ else if openOk nameOk mayS size num b rows = true then _ else _) = _
    rw [if_neg (by simp), if_pos hok]
    rfl
  clear no
  obtain ⟨bn, C, K⟩ := b
  obtain ⟨k, rfl⟩ : ∃ k : Nat, K = k := ⟨K.toNat, by have := hb.1; simp only at this; omega⟩
  have hk1 : 1 ≤ k := by have := hb.1; simp only at this; omega
  have hk2 : k ≤ C.length := by have := hb.2.2.1; simp only at this; omega
  have hC : C.length ≤ 16 := hb.2.2.2
  refine .pure (CloneF13_spec (l := C) (keys := (k : Int)) (by omega) ⟨rfl, ?_⟩)
  conv => whnf
  refine ⟨List.range 15, by kernel_rfl, by kernel_rfl, ?_⟩
  conv => whnf
  refine .call [] 0 ⟨rfl, rfl, rfl⟩ (TNew_spec ?_)
  repeat (conv => whnf
          refine ⟨rfl, ?_⟩)
  conv => whnf
  rw [hlr]
  generalize hlast : decide ((rows.length : Int) < size) = last at *
  refine ⟨⟨[0, 7, 11, 64, 65, 66], opI size num ⟨bn, C, k⟩ after rows last, .at rows.length ⟨0, after, .nil, 0, by rw [hlr]; rfl, rfl, TOk.nil, rfl, rfl, by omega, rfl⟩, ?_⟩⟩
  rintro mm ws H ⟨i, fin, t, n, rfl, rfl, hT, hI, hR, hi, rfl⟩
  have hht := hT.ht
  conv => whnf
  refine branch_i (fun c5 => ?_) (fun c5 => ?_) <;> try rw [c5] <;> conv => whnf
  rotate_left
  · have c5' := of_decide_eq_false c5
    have : i = rows.length := by omega
    subst this
    rw [List.take_length] at hR hI
    rw [hR] at hop
    have := h1 t n (by rw [hop]) (by rw [hop]; exact ⟨hT, hI, ⟨hb.1, hb.2.2.1, hC⟩⟩)
    rw [hop] at this
    exact ⟨[0, 3, 2], rfl, this⟩
  have c5' := of_decide_eq_true c5
  have hlt : i < rows.length := by omega
  have hg : rows[i]? = some rows[i] := List.getElem?_eq_getElem hlt
  have htr := ht rows[i] (List.getElem_mem hlt)
  have hsn : rows.take (i + 1) = rows.take i ++ [rows[i]] := by rw [List.take_add_one, hg]; rfl
  have hspl : rows = rows.take i ++ rows[i] :: rows.drop (i + 1) := by
    conv => lhs; rw [← List.take_append_drop (i + 1) rows, hsn]
    simp
  generalize rows[i] = r at *
  have fail : (fitsL C r && Op.bytesLess fin (kyR C k r)) = false → Q (fI 1) (shutH size) := fun hx => bad (by
    rw [hop]
    have : riseN ⟨bn, C, k⟩ after rows = none := by
      rw [hspl, rise_app, hR]
      simp only [Option.bind_some, riseN]
      rw [show (fitsL C r && Op.bytesLess fin (kyT ⟨bn, C, k⟩ r)) = false from hx]
      rfl
    rw [this])
  refine ⟨_, ⟨by omega, rws_some hg⟩, ?_⟩
  conv => whnf
  refine .pure (SKey_spec (l := C) (keys := k) (vs := r) (f := false) (by omega) hk2 htr ⟨rfl, ?_⟩)
  cases hkb : keyOkL C k r
  · have hf0 : fitsL C r = false := by
      cases hx : fitsL C r with
      | false => rfl
      | true => rw [keyOk_of_fits hk2 hx] at hkb; cases hkb
    rw [keyR_no hkb]
    conv => whnf
    exact ⟨[0], rfl, fail (by rw [hf0]; rfl)⟩
  rw [keyR_yes hkb]
  conv => whnf
  refine .pure (Fits_spec (l := C) (keys := (k : Int)) (vs := r) (f := false) (by omega) htr ⟨rfl, ?_⟩)
  cases hf0 : fitsL C r <;> conv => whnf
  · exact ⟨[0], rfl, fail (by rw [hf0]; rfl)⟩
  have hrl := fits_len hf0
  rw [le_eq]
  cases hlk : Op.bytesLess fin (kyR C k r) <;> conv => whnf
  · exact ⟨[0], rfl, fail (by rw [hlk, Bool.and_false])⟩
  refine ⟨List.range 8, by kernel_rfl, by kernel_rfl, ?_⟩
  conv => whnf
  refine .call [] 0 ⟨rfl, rfl, rfl⟩ (VCloneF_spec (r := r) (by omega) ?_)
  repeat (conv => whnf
          refine ⟨rfl, ?_⟩)
  conv => whnf
  refine .call [2] 1 ⟨rfl, rfl, rfl⟩ (Put_spec (v := r) (by omega) ?_)
  repeat (conv => whnf
          refine ⟨rfl, ?_⟩)
  conv => whnf
  obtain ⟨g1, g2⟩ := rise_tree (b := ⟨bn, C, k⟩) (r := r) hR hT hI hlk (by omega)
  refine .go [0, 1, 2, 3] rfl (rows.length - (i + 1)) (by omega) ⟨i + 1, kyR C k r, _, _, ?_, rfl, g1, by rw [hsn]; exact g2, ?_, by omega, rfl⟩
  · show [V.ptr 0 0, V.ptr 1 0, V.ptr 3 0, V.sl 1 (rws rows) false, fI (rws rows).length, V.int .i64 (IntKind.i64.wrap ((i : Int) + 1))] = _
    rw [wrapE (by omega)]; rfl
  · rw [hsn, rise_app, hR]
    simp only [Option.bind_some, riseN]
    rw [show (fitsL C r && Op.bytesLess fin (kyT ⟨bn, C, k⟩ r)) = true by rw [hf0]; exact hlk]
    rfl

end Go.Proofs.YtgikkoeckdhgkaaDoorPg

/- The document's window. -/
namespace Go.Proofs.YtgikkoeckdhgkaaDoorPg
open Go Go.RowKit
set_option linter.unusedSimpArgs false
set_option linter.unusedVariables false

variable {Q : V → List O → Prop}

theorem shut_sub (size : Int) : VSub (.agg [fI size, .bool false, fI 0, .str [], .nils, fI 0, .str [], .str [], .bool false, .bool false, .nils]) (wsV (shutW size)) :=
  VSub.agg (.cons (.refl _) (.cons (.refl _) (.cons (.refl _) (.cons (.refl _) (.cons (VSub.nils 3 false) (.cons (.refl _) (.cons (.refl _) (.cons (.refl _) (.cons (.refl _) (.cons (.refl _) (.cons (VSub.nils 1 false) .nil)))))))))))

theorem RNew13_spec {size : Int} (h : Q (wsV (shutW (if size < 1 then 1 else size))) []) : ACall Tryd.prog 17 0 [fI size] [] Q := by
  refine ACall.sub (by_body Tryd.func17 0 rfl (Nat.le_of_ble_eq_true rfl) ?_)
  conv => whnf
  refine branch_i (fun c1 => ?_) (fun c1 => ?_) <;> try rw [c1] <;> conv => whnf
  · rw [if_pos (of_decide_eq_true c1)] at h
    exact ⟨[], rfl, _, _, shut_sub _, HSub.refl _, h⟩
  · rw [if_neg (of_decide_eq_false c1)] at h
    exact ⟨[], rfl, _, _, shut_sub _, HSub.refl _, h⟩

def ropI (w : WS) (num : Int) (b : Tb) (after : List UInt8) (rows : List Rw) (m : Nat) (ws : List V) (H : List O) : Prop :=
  ∃ (i : Nat) (fin : List UInt8), ws = [fI num, .str after, .sl 1 (rws rows) false, .ptr 0 0, .ptr 1 0, .ptr 2 0, .str fin, fI i] ∧
    H = [.cells [fI w.size, .bool w.is, fI w.num, .str w.t.n, .sl 3 (cols w.t.c) false, fI w.t.k, .str w.after, .str w.fin, .bool w.last, .bool w.sp, .sl 1 (rws w.rows) false], .cells [.str b.n, .sl 3 (cols b.c) false, fI b.k],
      .cells [fI 0, .bool false, fI 0, .str [], .nils, fI 0, .str [], .str [], .bool false, .bool false, .nils]] ∧
    riseN b after (rows.take i) = some fin ∧ i ≤ rows.length ∧ m = rows.length - i

set_option maxHeartbeats 16000000 in
theorem ROpen13_spec {w : WS} {num : Int} {b : Tb} {after : List UInt8} {rows : List Rw} (ht : RowsT rows) (hr : rows.length < 1000000)
    (h : Q (.tup [wsV (openS nameOk mayS w num b after rows).1, fI (openS nameOk mayS w num b after rows).2]) []) :
    ACall Tryd.prog 18 0 [wsV w, fI num, tbA b, .str after, .sl 1 (rws rows) false] [] Q := by
  refine by_body Tryd.func18 0 rfl (Nat.le_of_ble_eq_true rfl) ?_
  have hlr := rws_len rows
  conv => whnf
  cases hi : w.is <;> conv => whnf
  rotate_left
  · have : openS nameOk mayS w num b after rows = (w, 14) := by unfold openS; rw [if_pos hi]
    rw [this] at h
    unfold wsV at h
    rw [hi] at h
    exact ⟨[], rfl, h⟩
  have no : openOk nameOk mayS w.size num b rows = false → (openS nameOk mayS w num b after rows) = (w, 1) := fun hx => by
    unfold openS
    rw [if_neg (by rw [hi]; simp), hx]; rfl
  have bad : openS nameOk mayS w num b after rows = (w, 1) → Q (.tup [wsV w, fI 1]) [] := fun hx => by rw [hx] at h; exact h
  refine .pure (RName_spec ⟨rfl, ?_⟩)
  conv => whnf
  refine .pure (RMay_any (l := b.c) (keys := b.k) ⟨rfl, ?_⟩)
  conv => whnf
  unfold wsV at bad
  rw [hi] at bad
  refine branch_i (fun c1 => ?_) (fun c1 => ?_) <;> try rw [c1] <;> conv => whnf
  · exact ⟨[], rfl, bad (no (by unfold openOk; rw [c1]; rfl))⟩
  cases c2 : nameOk b.n <;> conv => whnf
  · exact ⟨[], rfl, bad (no (by unfold openOk; rw [c2]; simp))⟩
  cases c3 : mayS b.c b.k <;> conv => whnf
  · exact ⟨[], rfl, bad (no (by unfold openOk; rw [c3]; simp))⟩
  rw [hlr]
  cases c4 : decide ((rows.length : Int) > w.size) <;> conv => whnf
  rotate_left
  · exact ⟨[], rfl, bad (no (by unfold openOk; have := of_decide_eq_true c4; rw [show decide (w.size < (rows.length : Int)) = true from decide_eq_true (by omega)]; simp))⟩
  have hb := may_bd c3
  have hok : openOk nameOk mayS w.size num b rows = true := by
    unfold openOk
    rw [c1, c2, c3, show decide (w.size < (rows.length : Int)) = false from decide_eq_false (by have := of_decide_eq_false c4; omega)]
    rfl
  have hop : openS nameOk mayS w num b after rows = match riseN b after rows with
      | some fin => (⟨w.size, true, num, b, after, fin, decide ((rows.length : Int) < w.size), false, rows⟩, 0)
      | none => (w, 1) := by
    unfold openS
    rw [if_neg (by rw [hi]; simp), if_pos hok]
    rfl
  clear no
  obtain ⟨bn, C, K⟩ := b
  obtain ⟨k, rfl⟩ : ∃ k : Nat, K = k := ⟨K.toNat, by have := hb.1; simp only at this; omega⟩
  have hk1 : 1 ≤ k := by have := hb.1; simp only at this; omega
  have hk2 : k ≤ C.length := by have := hb.2.2.1; simp only at this; omega
  have hC : C.length ≤ 16 := hb.2.2.2
  refine ⟨⟨[1, 3, 4, 5, 7, 10, 14, 15], ropI w num ⟨bn, C, k⟩ after rows, .at rows.length ⟨0, after, rfl, by rw [hi], rfl, by omega, rfl⟩, ?_⟩⟩
  rintro mm ws H ⟨i, fin, rfl, rfl, hR, hi2, rfl⟩
  rw [hi]
  conv => whnf
  refine branch_i (fun c5 => ?_) (fun c5 => ?_) <;> try rw [c5] <;> conv => whnf
  rotate_left
  · have c5' := of_decide_eq_false c5
    have : i = rows.length := by omega
    subst this
    rw [List.take_length] at hR
    rw [hR] at hop
    rw [hop] at h
    rw [hlr]
    exact ⟨[], rfl, h⟩
  have c5' := of_decide_eq_true c5
  have hlt : i < rows.length := by omega
  have hg : rows[i]? = some rows[i] := List.getElem?_eq_getElem hlt
  have htr := ht rows[i] (List.getElem_mem hlt)
  have hsn : rows.take (i + 1) = rows.take i ++ [rows[i]] := by rw [List.take_add_one, hg]; rfl
  have hspl : rows = rows.take i ++ rows[i] :: rows.drop (i + 1) := by
    conv => lhs; rw [← List.take_append_drop (i + 1) rows, hsn]
    simp
  generalize rows[i] = r at *
  have fail : (fitsL C r && Op.bytesLess fin (kyR C k r)) = false → Q (.tup [.agg [fI w.size, .bool false, fI w.num, .str w.t.n, .sl 3 (cols w.t.c) false, fI w.t.k, .str w.after, .str w.fin, .bool w.last, .bool w.sp, .sl 1 (rws w.rows) false], fI 1]) [] := fun hx => bad (by
    rw [hop]
    have : riseN ⟨bn, C, k⟩ after rows = none := by
      rw [hspl, rise_app, hR]
      simp only [Option.bind_some, riseN]
      rw [show (fitsL C r && Op.bytesLess fin (kyT ⟨bn, C, k⟩ r)) = false from hx]
      rfl
    rw [this])
  refine ⟨List.range 8, by kernel_rfl, by kernel_rfl, ?_⟩
  conv => whnf
  refine ⟨_, ⟨by omega, rws_some hg⟩, ?_⟩
  conv => whnf
  refine .pure (RFits_spec (l := C) (keys := (k : Int)) (vs := r) (f := false) (by omega) htr ⟨rfl, ?_⟩)
  repeat (conv => whnf
          first | (refine ⟨rfl, ?_⟩) | (refine ⟨⟨_, ⟨by omega, rws_some hg⟩, rfl⟩, ?_⟩))
  conv => whnf
  cases hf0 : fitsL C r <;> conv => whnf
  · exact ⟨[], rfl, fail (by rw [hf0]; rfl)⟩
  refine ⟨List.range 8, by kernel_rfl, by kernel_rfl, ?_⟩
  conv => whnf
  refine ⟨_, ⟨by omega, rws_some hg⟩, ?_⟩
  conv => whnf
  refine .pure (RKey10_spec (C := C) (K := k) (r := r) (f := false) (by omega) hk2 htr ⟨rfl, ?_⟩)
  repeat (conv => whnf
          first | (refine ⟨rfl, ?_⟩) | (refine ⟨⟨_, ⟨by omega, rws_some hg⟩, rfl⟩, ?_⟩))
  conv => whnf
  rw [le_eq]
  cases hlk : Op.bytesLess fin (kyR C k r) <;> conv => whnf
  · exact ⟨[], rfl, fail (by rw [hlk, Bool.and_false])⟩
  refine .go [0, 1, 2] rfl (rows.length - (i + 1)) (by omega) ⟨i + 1, kyR C k r, ?_, by rw [hi]; rfl, ?_, by omega, rfl⟩
  · show [fI num, V.str after, V.sl 1 (rws rows) false, V.ptr 0 0, V.ptr 1 0, V.ptr 2 0, V.str (kyR C k r), V.int .i64 (IntKind.i64.wrap ((i : Int) + 1))] = _
    rw [wrapE (by omega)]; rfl
  · rw [hsn, rise_app, hR]
    simp only [Option.bind_some, riseN]
    rw [show (fitsL C r && Op.bytesLess fin (kyT ⟨bn, C, k⟩ r)) = true by rw [hf0]; exact hlk]
    rfl

end Go.Proofs.YtgikkoeckdhgkaaDoorPg

/- The laws SchemaBack and SchemaTurns. -/
namespace Go.Proofs.YtgikkoeckdhgkaaDoorPg
open Go Go.RowKit
set_option linter.unusedSimpArgs false
set_option linter.unusedVariables false

variable {Q : V → List O → Prop}

theorem goodV_text (v : Val) : (goodV v).t.length ≤ 40 := by
  have := text40_len v.t
  unfold goodV
  repeat' split
  all_goals simp only
  all_goals first | (simp only [List.length_nil]; omega) | omega

theorem rowV_text (c : Col) (v : Val) : (rowV c v).t.length ≤ 40 := by
  unfold rowV
  split
  · simp [val0]
  · exact goodV_text _

theorem row_mem {l : List Col} {vs : List Val} {v : Val} (h : v ∈ rowL l vs) : ∃ (i : Nat) (c : Col), l[i]? = some c ∧ v = rowV c (vs.getD i val0) := by
  obtain ⟨i, hi⟩ := List.mem_iff_getElem?.1 h
  have hlt := (List.getElem?_eq_some_iff.1 hi).1
  rw [rowL_len] at hlt
  have hc : l[i]? = some l[i] := List.getElem?_eq_getElem hlt
  rw [rowL_get l vs hc] at hi
  cases hi
  exact ⟨i, l[i], hc, rfl⟩

theorem row_texts (l : List Col) (vs : List Val) : ∀ v ∈ rowL l vs, v.t.length ≤ 40 := fun v hv => by
  obtain ⟨i, c, _, rfl⟩ := row_mem hv
  exact rowV_text _ _

theorem turn_texts {l : List Col} {k : Int} {c : Col} {r : List Val} (h : ∀ v ∈ r, v.t.length ≤ 40) : TextsOk (turnS l k c r) := fun v hv => by
  have h0 : val0.t.length ≤ 40 := by simp [val0]
  unfold turnS at hv
  have key : ∀ v, v ∈ r ∨ v = val0 → v.t.length < 1000000000000000000 := fun v hv => by
    rcases hv with hv | rfl
    · have := h v hv; omega
    · omega
  refine key v ?_
  repeat' split at hv
  · rcases List.mem_append.1 hv with h1 | h1
    · exact .inl h1
    · simp at h1; exact .inr h1
  · exact .inl ((List.eraseIdx_sublist _ _).subset hv)
  · rcases List.mem_or_eq_of_mem_set hv with h1 | h1
    · exact .inl h1
    · exact .inr h1
  · exact .inl hv

theorem take_erase {α : Type} {l : List α} {n i : Nat} (h : n ≤ i) : (l.eraseIdx i).take n = l.take n := by
  refine List.ext_getElem? fun j => ?_
  rw [List.getElem?_take, List.getElem?_take]
  by_cases hj : j < n
  · rw [if_pos hj, if_pos hj, List.getElem?_eraseIdx, if_pos (by omega)]
  · rw [if_neg hj, if_neg hj]

/-- What a change that can be does to a row that fits. -/
structure Turned (l : List Col) (keys : Int) (k : Int) (c : Col) (r : List Val) : Prop where
  can : CanTurn l k c r.length
  keyed : (applyS l keys k c).2.1 = keys
  fits : fitsL (applyS l keys k c).1 (turnS l k c r) = true
  same : (turnS l k c r).take keys.toNat = r.take keys.toNat
  len : keys.toNat ≤ (turnS l k c r).length
  stand : standN (applyS l keys k c).1 (turnS l k c r) keys.toNat

theorem stands_null {c : Col} (h : c.o = true) : standsV c val0 = true := by
  unfold standsV mayV val0; simp [h]

theorem turned {l : List Col} {keys k : Int} {c : Col} {r : List Val} (hs : SchOk l keys) (hr : r.length = l.length) (hf : ∀ (i : Nat) (c : Col) (v : Val), l[i]? = some c → r[i]? = some v → standsV c v = true)
    (he : (applyS l keys k c).2.2 = 0) : Turned l keys k c r := by
  have h1 := hs.lo; have h2 := hs.len
  have hfl := fnd_lt (name := c.n) (l := l) (i := 0)
  have mk : ∀ (l' : List Col), (applyS l keys k c) = (l', keys, 0) → CanTurn l k c r.length → (turnS l k c r).length = l'.length → keys ≤ l'.length → (turnS l k c r).take keys.toNat = r.take keys.toNat →
      (∀ (i : Nat) (c' : Col) (v : Val), l'[i]? = some c' → (turnS l k c r)[i]? = some v → standsV c' v = true) → Turned l keys k c r := by
    intro l' e hc hl hk hsame hst
    refine ⟨hc, by rw [e], by rw [e]; exact fits_yes hl hst, hsame, by omega, fun i c' v _ hc' hv => ?_⟩
    rw [e] at hc'
    exact hst i c' v hc' hv
  unfold applyS at he
  by_cases k3 : k = 3
  · subst k3
    rw [if_pos rfl] at he
    have e : applyS l keys 3 c = addS l keys c := by unfold applyS; rw [if_pos rfl]
    have et : turnS l 3 c r = r ++ [val0] := by unfold turnS; rw [if_pos rfl]
    have ea : addS l keys c = (l ++ [c], keys, 0) ∧ c.o = true := by
      unfold addS at he ⊢
      by_cases g1 : (nameOk c.n && kindOk c.k && c.o) = true
      rotate_left
      · rw [if_neg g1] at he; simp at he
      rw [if_pos g1] at he ⊢
      by_cases g2 : 0 ≤ fnd c.n l 0
      · rw [if_pos g2] at he; simp at he
      rw [if_neg g2] at he ⊢
      by_cases g3 : l.length = 16
      · rw [if_pos g3] at he; simp at he
      rw [if_neg g3]
      simp only [Bool.and_eq_true] at g1
      exact ⟨rfl, g1.2⟩
    refine mk (l ++ [c]) (by rw [e, ea.1]) (.inl rfl) (by rw [et]; simp [hr]) (by simp; omega) (by rw [et, List.take_append_of_le_length (by omega)]) fun i c' v hc' hv => ?_
    rw [et] at hv
    rcases Nat.lt_or_ge i l.length with hi | hi
    · rw [List.getElem?_append_left hi] at hc'
      rw [List.getElem?_append_left (by omega)] at hv
      exact hf i c' v hc' hv
    · rw [List.getElem?_append_right hi] at hc'
      rw [List.getElem?_append_right (by omega)] at hv
      have : i - l.length = 0 := by
        have := (List.getElem?_eq_some_iff.1 hc').1
        simp at this; omega
      rw [this] at hc'
      rw [show i - r.length = 0 by omega] at hv
      simp at hc' hv
      subst hc'; subst hv
      exact stands_null ea.2
  rw [if_neg k3] at he
  by_cases k4 : k = 4
  · subst k4
    rw [if_pos rfl] at he
    have e : applyS l keys 4 c = cutS l keys c := by unfold applyS; rw [if_neg (by decide), if_pos rfl]
    have et : turnS l 4 c r = r.eraseIdx (fnd c.n l 0).toNat := by unfold turnS; rw [if_neg (by decide), if_pos rfl]
    unfold cutS at he
    by_cases g1 : fnd c.n l 0 < 0
    · rw [if_pos g1] at he; simp at he
    rw [if_neg g1] at he
    by_cases g2 : fnd c.n l 0 < keys
    · rw [if_pos g2] at he; simp at he
    have ea : cutS l keys c = (l.eraseIdx (fnd c.n l 0).toNat, keys, 0) := by unfold cutS; rw [if_neg g1, if_neg g2]
    have hlt : (fnd c.n l 0).toNat < l.length := by omega
    refine mk _ (by rw [e, ea]) (.inr ⟨.inl rfl, by omega, by omega⟩) (by rw [et, List.length_eraseIdx, List.length_eraseIdx, if_pos hlt, if_pos (by omega), hr]) (by rw [List.length_eraseIdx, if_pos hlt]; omega) (by rw [et, take_erase (by omega)]) fun i c' v hc' hv => ?_
    rw [et] at hv
    rw [List.getElem?_eraseIdx] at hc' hv
    by_cases hi : i < (fnd c.n l 0).toNat
    · rw [if_pos hi] at hc' hv; exact hf i c' v hc' hv
    · rw [if_neg hi] at hc' hv; exact hf (i + 1) c' v hc' hv
  rw [if_neg k4] at he
  by_cases k5 : k = 5
  rotate_left
  · rw [if_neg k5] at he; simp at he
  subst k5
  rw [if_pos rfl] at he
  have e : applyS l keys 5 c = retS l keys c := by unfold applyS; rw [if_neg (by decide), if_neg (by decide), if_pos rfl]
  have et : turnS l 5 c r = r.set (fnd c.n l 0).toNat val0 := by unfold turnS; rw [if_neg (by decide), if_neg (by decide), if_pos rfl]
  unfold retS at he
  by_cases g1 : fnd c.n l 0 < 0
  · rw [if_pos g1] at he; simp at he
  rw [if_neg g1] at he
  by_cases g2 : fnd c.n l 0 < keys
  · rw [if_pos g2] at he; simp at he
  rw [if_neg g2] at he
  by_cases g3 : ((l[(fnd c.n l 0).toNat]?).map Col.o).getD false = false
  · rw [if_pos g3] at he; simp at he
  rw [if_neg g3] at he
  by_cases g4 : kindOk c.k = true
  rotate_left
  · rw [if_neg g4] at he; simp at he
  have ea : retS l keys c = (setKind l (fnd c.n l 0).toNat c.k, keys, 0) := by unfold retS; rw [if_neg g1, if_neg g2, if_neg g3, if_pos g4]
  have hlt : (fnd c.n l 0).toNat < l.length := by omega
  refine mk _ (by rw [e, ea]) (.inr ⟨.inr rfl, by omega, by omega⟩) (by rw [et, List.length_set, setKind_len, hr]) (by rw [setKind_len]; omega) (by rw [et, List.take_set_of_le (by omega)]) fun i c' v hc' hv => ?_
  rw [et, List.getElem?_set] at hv
  rw [setKind, List.getElem?_modify] at hc'
  generalize (fnd c.n l 0).toNat = p at *
  cases hx : l[i]? with
  | none => rw [hx] at hc'; simp at hc'
  | some d =>
    rw [hx] at hc'
    by_cases hi : p = i
    · subst hi
      rw [if_pos rfl, if_pos (by omega)] at hv
      simp at hc' hv
      subst hc'; subst hv
      rw [hx] at g3
      refine stands_null ?_
      simp at g3
      exact g3
    · rw [if_neg hi] at hv
      simp [hi] at hc'
      subst hc'
      exact hf i d v hx hv

/-- numbers that are numbers, texts that are texts -/
def ValsOk (vs : List Val) : Prop := ∀ v ∈ vs, I64 v.k

theorem kinds_ok {l : List Col} {keys : Int} (h : SchOk l keys) : ∀ c ∈ l, 1 ≤ c.k ∧ c.k ≤ 4 := fun c hc => by
  have := (h.cols c hc).2
  unfold kindOk at this
  simp at this
  exact this

theorem kinds_i64 {l : List Col} {keys : Int} (h : SchOk l keys) : ∀ c ∈ l, -9223372036854775808 ≤ c.k ∧ c.k ≤ 9223372036854775807 := fun c hc => by
  have := kinds_ok h c hc; omega

theorem row_stands {l : List Col} {keys : Int} (h : SchOk l keys) (vs : List Val) : ∀ (i : Nat) (c : Col) (v : Val), l[i]? = some c → (rowL l vs)[i]? = some v → standsV c v = true := fun i c v hc hv => by
  rw [rowL_get l vs hc] at hv
  cases hv
  exact good_stands (kinds_ok h c (List.mem_of_getElem? hc)) _

theorem add_then_cut {l : List Col} {keys : Int} {c : Col} (hs : SchOk l keys) (he : (applyS l keys 3 c).2.2 = 0) :
    applyS l keys 3 c = (l ++ [c], keys, 0) ∧ fnd c.n (l ++ [c]) 0 = l.length ∧ applyS (l ++ [c]) keys 4 c = (l, keys, 0) := by
  have h1 := hs.len
  have e : applyS l keys 3 c = addS l keys c := by unfold applyS; rw [if_pos rfl]
  rw [e] at he ⊢
  unfold addS at he ⊢
  by_cases g1 : (nameOk c.n && kindOk c.k && c.o) = true
  rotate_left
  · rw [if_neg g1] at he; simp at he
  rw [if_pos g1] at he ⊢
  by_cases g2 : 0 ≤ fnd c.n l 0
  · rw [if_pos g2] at he; simp at he
  rw [if_neg g2] at he ⊢
  by_cases g3 : l.length = 16
  · rw [if_pos g3] at he; simp at he
  rw [if_neg g3]
  have hf : fnd c.n (l ++ [c]) 0 = l.length := by
    rw [fnd_skip fun d hd => fnd_neg (i := 0) (by omega) d hd]
    simp [fnd]
  refine ⟨rfl, hf, ?_⟩
  unfold applyS cutS
  rw [if_neg (by decide), if_pos rfl, hf, if_neg (by omega), if_neg (by omega), Int.toNat_natCast]
  simp [List.eraseIdx_append_of_length_le]

theorem vals_of : ∀ {es : List (List V)}, (∀ x ∈ es, ∃ (k n : Int) (s : List UInt8), x = [.int .i64 k, .int .i64 n, .str s] ∧ I64 k ∧ I64 n ∧ s.length ≤ Globs.txt) → ∃ l : List Val, es = vals l ∧ ∀ v ∈ l, I64 v.k ∧ I64 v.n ∧ v.t.length ≤ Globs.txt
  | [], _ => ⟨[], rfl, by simp⟩
  | x :: es, h => by
    obtain ⟨k, n, s, rfl, hk⟩ := h x (by simp)
    obtain ⟨l, rfl, hl⟩ := vals_of (es := es) fun y hy => h y (by simp [hy])
    exact ⟨⟨k, n, s⟩ :: l, rfl, by simpa using ⟨hk, hl⟩⟩

theorem vals_in {vs : List V} (h : Shp tt 8 32 vs) : ∃ l : List Val, argV tt 32 vs = .sl 3 (vals l) false ∧ ∀ v ∈ l, I64 v.k ∧ I64 v.n ∧ v.t.length ≤ Globs.txt := by
  obtain ⟨es, _, g1, rfl⟩ := h
  obtain ⟨l, rfl, hl⟩ := vals_of fun x hx => by
    obtain ⟨_, _, ⟨k, hk, rfl⟩, ⟨_, _, ⟨n, hn, rfl⟩, ⟨_, _, ⟨s, hs, rfl⟩, rfl, rfl⟩, rfl⟩, rfl⟩ := g1 x hx
    exact ⟨k, n, s, rfl, i64_wf hk, i64_wf hn, hs⟩
  exact ⟨l, rfl, hl⟩

theorem col_in {vs : List V} (h : Shp tt 8 42 vs) : ∃ c : Col, argV tt 42 vs = colA c ∧ I64 c.k := by
  obtain ⟨_, _, ⟨n, _, rfl⟩, ⟨_, _, ⟨ck, hck, rfl⟩, ⟨_, _, ⟨o, rfl⟩, rfl, rfl⟩, rfl⟩, rfl⟩ := h
  exact ⟨⟨n, ck, o⟩, rfl, i64_wf hck⟩

end Go.Proofs.YtgikkoeckdhgkaaDoorPg

/- The document's window: Take, Shut; rows made of any; rows compared. -/
namespace Go.Proofs.YtgikkoeckdhgkaaDoorPg
open Go Go.RowKit
set_option linter.unusedSimpArgs false
set_option linter.unusedVariables false

variable {Q : V → List O → Prop}

theorem wsv_spoil (w : WS) : VSub (.agg [fI w.size, .bool w.is, fI w.num, .str w.t.n, .sl 3 (cols w.t.c) false, fI w.t.k, .str w.after, .str w.fin, .bool w.last, .bool true, .nils]) (wsV (spoilW w)) :=
  VSub.agg (.cons (.refl _) (.cons (.refl _) (.cons (.refl _) (.cons (.refl _) (.cons (.refl _) (.cons (.refl _) (.cons (.refl _) (.cons (.refl _) (.cons (.refl _) (.cons (.refl _) (.cons (VSub.nils 1 false) .nil)))))))))))

set_option maxHeartbeats 16000000 in
theorem RTake13_spec {w : WS} {e : Evt} (hg : WGood w) (ht : RowsT w.rows) (hn : w.rows.length < 1000000) (he : EvX e)
    (h : Q (.tup [wsV (takeS w e).1, fI (takeS w e).2]) []) :
    ACall Tryd.prog 52 0 [wsV w, evA e] [] Q := by
  refine ACall.sub (by_body Tryd.func52 0 rfl (Nat.le_of_ble_eq_true rfl) ?_)
  conv => whnf
  have stay : ∀ c : Int, takeS w e = (w, c) → Q (.tup [wsV w, fI c]) [] := fun c hc => by rw [hc] at h; exact h
  unfold wsV at stay
  cases hi : w.is <;> conv => whnf
  · have := stay 0 (by unfold takeS; rw [if_pos (.inl hi)])
    rw [hi] at this
    exact ⟨[], rfl, _, _, .refl _, HSub.refl _, this⟩
  cases hs : w.sp <;> conv => whnf
  rotate_left
  · have := stay 0 (by unfold takeS; rw [if_pos (.inr hs)])
    rw [hi, hs] at this
    exact ⟨[], rfl, _, _, .refl _, HSub.refl _, this⟩
  rw [hi, hs] at stay
  have hwm := hg.may hi
  have hgf := hg.few
  obtain ⟨size, is, num, ⟨nm, C, K⟩, after, fin, last, sp, rows⟩ := w
  simp only at hi hs
  subst hi
  subst hs
  obtain ⟨k, rfl⟩ : ∃ k : Nat, K = k := ⟨K.toNat, by have := hwm.1; simp only at this; omega⟩
  have hk1 : 1 ≤ k := by have := hwm.1; simp only at this; omega
  have hk2 : k ≤ C.length := by have := hwm.2.1; simp only at this; omega
  have hC : C.length ≤ 16 := hwm.2.2
  simp only at stay
  refine branch_i (fun c6 => ?_) (fun c6 => ?_) <;> try rw [c6] <;> conv => whnf
  · have c6' := of_decide_eq_true c6
    refine branch_i (fun c7 => ?_) (fun c7 => ?_) <;> try rw [c7] <;> conv => whnf
    · have := take_alter (w := ⟨size, true, num, ⟨nm, C, k⟩, after, fin, last, false, rows⟩) (e := e) rfl rfl c6' (of_decide_eq_true c7)
      rw [this] at h
      exact ⟨[], rfl, _, _, VSub.tup (.cons (wsv_spoil _) (VSubs.refl _)), HSub.refl _, h⟩
    · have := stay 0 (take_alien (fun hh => (of_decide_eq_false c7) hh.2) fun hh => by omega)
      rw [show decide (e.k < 3) = false from decide_eq_false (by omega)]
      conv => whnf
      rw [show decide (e.k > 5) = true from decide_eq_true (by omega)]
      conv => whnf
      exact ⟨[], rfl, _, _, .refl _, HSub.refl _, this⟩
  have c6' := of_decide_eq_false c6
  refine branch_i (fun c3 => ?_) (fun c3 => ?_) <;> try rw [c3] <;> conv => whnf
  · have := stay 0 (take_alien (fun hh => c6' hh.1) fun hh => by have := of_decide_eq_true c3; omega)
    exact ⟨[], rfl, _, _, .refl _, HSub.refl _, this⟩
  have c3' := of_decide_eq_false c3
  refine branch_i (fun c5 => ?_) (fun c5 => ?_) <;> try rw [c5] <;> conv => whnf
  · have := stay 0 (take_alien (fun hh => c6' hh.1) fun hh => by have := of_decide_eq_true c5; omega)
    exact ⟨[], rfl, _, _, .refl _, HSub.refl _, this⟩
  have c5' := of_decide_eq_false c5
  refine branch_i (fun ct => ?_) (fun ct => ?_) <;> try rw [ct] <;> conv => whnf
  · have := stay 0 (take_alien (fun hh => c6' hh.1) fun hh => by have := hh.2.2; simp [this] at ct)
    exact ⟨[], rfl, _, _, .refl _, HSub.refl _, this⟩
  have ct' : e.t = nm := by simpa using ct
  refine .pure (RFits_spec (l := C) (keys := (k : Int)) (vs := e.a) (f := false) (by omega) he.a ⟨rfl, ?_⟩)
  conv => whnf
  refine branch_i (fun ck => ?_) (fun ck => ?_) <;> try rw [ck] <;> conv => whnf
  · have ck' := of_decide_eq_true ck
    have hfit : takeFit ⟨size, true, num, ⟨nm, C, k⟩, after, fin, last, false, rows⟩ e = (keyOkL C k e.b && decide ((e.b.length : Int) = k)) := by unfold takeFit; rw [if_pos ck']; rfl
    refine .pure (RKey_spec (l := C) (keys := k) (vs := e.b) (f := false) (by omega) hk2 he.b ⟨rfl, ?_⟩)
    cases hkb : keyOkL C k e.b
    · rw [keyR_no hkb]
      rw [hkb, Bool.false_and] at hfit
      conv => whnf
      have := stay 9 (take_unfit rfl rfl (by omega) (by omega) ct' hfit)
      exact ⟨[], rfl, _, _, .refl _, HSub.refl _, this⟩
    rw [keyR_yes hkb]
    rw [hkb, Bool.true_and] at hfit
    conv => whnf
    rw [vals_len]
    cases hlk : decide ((e.b.length : Int) = k) <;> rw [hlk] at hfit <;> conv => whnf
    · have := stay 9 (take_unfit rfl rfl (by omega) (by omega) ct' hfit)
      exact ⟨[], rfl, _, _, .refl _, HSub.refl _, this⟩
    have hts := take_rowed (w := ⟨size, true, num, ⟨nm, C, k⟩, after, fin, last, false, rows⟩) rfl rfl (by omega) (by omega) ct' hfit hgf
    refine .pure (RKey10_spec (C := C) (K := k) (r := e.b) (f := false) (by omega) hk2 he.b ⟨rfl, ?_⟩)
    conv => whnf
    rw [le_eq]
    have out : inW ⟨size, true, num, ⟨nm, C, k⟩, after, fin, last, false, rows⟩ (kyR C k e.b) = false → takeS ⟨size, true, num, ⟨nm, C, k⟩, after, fin, last, false, rows⟩ e = (⟨size, true, num, ⟨nm, C, k⟩, after, fin, last, false, rows⟩, 0) := fun hx => by
      have : putW ⟨size, true, num, ⟨nm, C, k⟩, after, fin, last, false, rows⟩ e = ⟨size, true, num, ⟨nm, C, k⟩, after, fin, last, false, rows⟩ := by
        unfold putW evRow
        rw [if_pos ck', show inW ⟨size, true, num, ⟨nm, C, k⟩, after, fin, last, false, rows⟩ (kyT ⟨nm, C, k⟩ e.b) = false from hx]
        rfl
      rw [hts, this, if_neg (by simp only at hgf ⊢; omega)]
    have inn : inW ⟨size, true, num, ⟨nm, C, k⟩, after, fin, last, false, rows⟩ (kyR C k e.b) = true → putW ⟨size, true, num, ⟨nm, C, k⟩, after, fin, last, false, rows⟩ e = ⟨size, true, num, ⟨nm, C, k⟩, after, fin, last, false, cutR C k rows (kyR C k e.b)⟩ := fun hx => by
      unfold putW evRow
      rw [if_pos ck', show inW ⟨size, true, num, ⟨nm, C, k⟩, after, fin, last, false, rows⟩ (kyT ⟨nm, C, k⟩ e.b) = true from hx, if_pos rfl, if_pos ck']
      rfl
    unfold inW at out inn
    simp only at out inn
    cases ha : Op.bytesLess after (kyR C k e.b) <;> rw [ha] at out inn <;> conv => whnf
    focus
      have := stay 0 (out rfl)
      exact ⟨[], rfl, _, _, .refl _, HSub.refl _, this⟩
    cases last <;> conv => whnf
    focus
      rw [gt_eq]
      cases hf : Op.bytesLess fin (kyR C k e.b) <;> rw [hf] at out inn <;> conv => whnf
      rotate_left
      focus
        have := stay 0 (out rfl)
        exact ⟨[], rfl, _, _, .refl _, HSub.refl _, this⟩
    all_goals
      have inn := inn rfl
      rw [inn] at hts
      rw [ck]
      conv => whnf
      have hcl := cut_len C k rows (kyR C k e.b)
      rw [if_neg (by simp only at hgf ⊢; omega)] at hts
      rw [hts] at h
      refine .pure (RCut10_spec (C := C) (K := k) (l := rows) (key := kyR C k e.b) (by omega) hk2 ht (Nat.le_of_lt hn) ⟨rfl, ?_⟩)
      conv => whnf
      exact ⟨[], rfl, _, _, .refl _, HSub.refl _, h⟩
  · have ck' := of_decide_eq_false ck
    have hfit : takeFit ⟨size, true, num, ⟨nm, C, k⟩, after, fin, last, false, rows⟩ e = fitsL C e.a := by unfold takeFit; rw [if_neg ck']
    cases hf0 : fitsL C e.a <;> rw [hf0] at hfit <;> conv => whnf
    · have := stay 9 (take_unfit rfl rfl (by omega) (by omega) ct' hfit)
      exact ⟨[], rfl, _, _, .refl _, HSub.refl _, this⟩
    have hts := take_rowed (w := ⟨size, true, num, ⟨nm, C, k⟩, after, fin, last, false, rows⟩) rfl rfl (by omega) (by omega) ct' hfit hgf
    refine .pure (RKey10_spec (C := C) (K := k) (r := e.a) (f := false) (by omega) hk2 he.a ⟨rfl, ?_⟩)
    conv => whnf
    rw [le_eq]
    have out : inW ⟨size, true, num, ⟨nm, C, k⟩, after, fin, last, false, rows⟩ (kyR C k e.a) = false → takeS ⟨size, true, num, ⟨nm, C, k⟩, after, fin, last, false, rows⟩ e = (⟨size, true, num, ⟨nm, C, k⟩, after, fin, last, false, rows⟩, 0) := fun hx => by
      have : putW ⟨size, true, num, ⟨nm, C, k⟩, after, fin, last, false, rows⟩ e = ⟨size, true, num, ⟨nm, C, k⟩, after, fin, last, false, rows⟩ := by
        unfold putW evRow
        rw [if_neg ck', show inW ⟨size, true, num, ⟨nm, C, k⟩, after, fin, last, false, rows⟩ (kyT ⟨nm, C, k⟩ e.a) = false from hx]
        rfl
      rw [hts, this, if_neg (by simp only at hgf ⊢; omega)]
    have inn : inW ⟨size, true, num, ⟨nm, C, k⟩, after, fin, last, false, rows⟩ (kyR C k e.a) = true → putW ⟨size, true, num, ⟨nm, C, k⟩, after, fin, last, false, rows⟩ e = ⟨size, true, num, ⟨nm, C, k⟩, after, fin, last, false, putR C k rows e.a⟩ := fun hx => by
      unfold putW evRow
      rw [if_neg ck', show inW ⟨size, true, num, ⟨nm, C, k⟩, after, fin, last, false, rows⟩ (kyT ⟨nm, C, k⟩ e.a) = true from hx, if_pos rfl, if_neg ck']
      rfl
    unfold inW at out inn
    simp only at out inn
    cases ha : Op.bytesLess after (kyR C k e.a) <;> rw [ha] at out inn <;> conv => whnf
    focus
      have := stay 0 (out rfl)
      exact ⟨[], rfl, _, _, .refl _, HSub.refl _, this⟩
    cases last <;> conv => whnf
    focus
      rw [gt_eq]
      cases hf : Op.bytesLess fin (kyR C k e.a) <;> rw [hf] at out inn <;> conv => whnf
      rotate_left
      focus
        have := stay 0 (out rfl)
        exact ⟨[], rfl, _, _, .refl _, HSub.refl _, this⟩
    all_goals
      have inn := inn rfl
      rw [inn] at hts
      rw [ck]
      conv => whnf
      refine .pure (RPut10_spec (C := C) (K := k) (l := rows) (r := e.a) (f := false) (by omega) hk2 ht he.a (Nat.le_of_lt hn) ⟨rfl, ?_⟩)
      conv => whnf
      rw [rws_len]
      refine branch_i (fun cs => ?_) (fun cs => ?_) <;> try rw [cs] <;> conv => whnf
      focus
        have cs' := of_decide_eq_true cs
        rw [if_pos (by simp only; omega)] at hts
        rw [hts] at h
        exact ⟨[], rfl, _, _, VSub.tup (.cons (wsv_spoil _) (VSubs.refl _)), HSub.refl _, h⟩
      focus
        have cs' := of_decide_eq_false cs
        rw [if_neg (by simp only; omega)] at hts
        rw [hts] at h
        exact ⟨[], rfl, _, _, .refl _, HSub.refl _, h⟩

/-- what a shut comes to -/
def shutS (w : WS) (num : Int) : WS × V :=
  if w.is = false ∨ w.num ≠ num then (w, .tup [.sl 1 (rws []) false, .agg [.str [], .bool false, .str []], .bool false, fI 14])
  else if w.sp = true then (shutW w.size, .tup [.sl 1 (rws []) false, .agg [.str [], .bool false, .str []], .bool false, fI 0])
  else (shutW w.size, .tup [.sl 1 (rws w.rows) false, .agg [.str w.t.n, .bool w.last, .str (if w.last then [] else w.fin)], .bool true, fI 0])

def tupOn (v : V) : V → V
  | .tup l => .tup (v :: l)
  | x => x

set_option maxHeartbeats 8000000 in
theorem RShut13_spec {w : WS} {num : Int} (h : Q (tupOn (wsV (shutS w num).1) (shutS w num).2) []) : ACall Tryd.prog 53 0 [wsV w, fI num] [] Q := by
  refine ACall.sub (by_body Tryd.func53 0 rfl (Nat.le_of_ble_eq_true rfl) ?_)
  have bad : w.is = false ∨ w.num ≠ num → Q (.tup [wsV w, .sl 1 (rws []) false, .agg [.str [], .bool false, .str []], .bool false, fI 14]) [] := fun hx => by
    unfold shutS at h
    rw [if_pos hx] at h
    exact h
  unfold wsV at bad
  conv => whnf
  cases hi : w.is <;> conv => whnf
  · have := bad (.inl hi)
    rw [hi] at this
    exact ⟨[], rfl, _, _, VSub.tup (.cons (.refl _) (.cons (VSub.nils 1 false) (VSubs.refl _))), HSub.refl _, this⟩
  cases hn : decide (w.num = num) <;> conv => whnf
  · have := bad (.inr (of_decide_eq_false hn))
    rw [hi] at this
    exact ⟨[], rfl, _, _, VSub.tup (.cons (.refl _) (.cons (VSub.nils 1 false) (VSubs.refl _))), HSub.refl _, this⟩
  unfold shutS at h
  rw [if_neg (by rw [hi]; have := of_decide_eq_true hn; simp [this])] at h
  cases hs : w.sp <;> rw [hs] at h <;> conv => whnf
  · rw [if_neg (by simp)] at h
    cases hl : w.last <;> rw [hl] at h <;> conv => whnf
    · refine ⟨List.range 9, by kernel_rfl, by kernel_rfl, ?_⟩
      repeat (conv => whnf
              refine ⟨rfl, ?_⟩)
      conv => whnf
      exact ⟨[], rfl, _, _, VSub.tup (.cons (shut_sub _) (VSubs.refl _)), HSub.refl _, h⟩
    · refine ⟨List.range 9, by kernel_rfl, by kernel_rfl, ?_⟩
      repeat (conv => whnf
              refine ⟨rfl, ?_⟩)
      conv => whnf
      exact ⟨[], rfl, _, _, VSub.tup (.cons (shut_sub _) (VSubs.refl _)), HSub.refl _, h⟩
  · rw [if_pos rfl] at h
    exact ⟨[], rfl, _, _, VSub.tup (.cons (shut_sub _) (.cons (VSub.nils 1 false) (VSubs.refl _))), HSub.refl _, h⟩

theorem rows_step (b : Tb) {most : Int} {l : List Rw} {i : Nat} {r : Rw} (h : l[i]? = some r) (hm : (i : Int) < most) : rowsN b ((i + 1 : Nat) : Int) l = putR b.c b.k.toNat (rowsN b (i : Int) l) (rowL b.c r) := by
  unfold rowsN
  rw [Int.toNat_natCast, Int.toNat_natCast, List.take_add_one, h, List.foldl_append]
  rfl

theorem rowsN_all (b : Tb) {most : Int} {l : List Rw} {i : Nat} (h : (l.length ≤ i ∧ (i : Int) ≤ most) ∨ (i : Int) = most) : rowsN b (i : Int) l = rowsN b most l := by
  rcases h with ⟨h1, h2⟩ | h
  · unfold rowsN
    rw [List.take_of_length_le (by omega), List.take_of_length_le (by omega)]
  · rw [h]

/-- rows that were made so are in order, and fit -/
theorem fold_rows {b : Tb} (hb : TbK b) (hk : ∀ c ∈ b.c, 1 ≤ c.k ∧ c.k ≤ 4) : ∀ (l : List Rw) (acc : List Rw), RowsOk b acc → (∀ r ∈ acc, ∀ v ∈ r, v.t.length ≤ 40) →
    RowsOk b (l.foldl (fun acc r => putR b.c b.k.toNat acc (rowL b.c r)) acc) ∧ (l.foldl (fun acc r => putR b.c b.k.toNat acc (rowL b.c r)) acc).length ≤ acc.length + l.length ∧
      ∀ r ∈ l.foldl (fun acc r => putR b.c b.k.toNat acc (rowL b.c r)) acc, ∀ v ∈ r, v.t.length ≤ 40
  | [], acc, h, ht => ⟨h, by simp, ht⟩
  | r :: l, acc, h, ht => by
    obtain ⟨g1, g2, g3⟩ := fold_rows hb hk l (putR b.c b.k.toNat acc (rowL b.c r)) (h.put (row_fits hk r)) (fun x hx v hv => by
      rcases put_mem hx with rfl | hx
      · exact row_texts _ _ v hv
      · exact ht x hx v hv)
    refine ⟨g1, ?_, g3⟩
    have := put_len b.c b.k.toNat acc (rowL b.c r)
    rw [List.foldl_cons, List.length_cons]
    omega

theorem rowsN_ok {b : Tb} (hb : TbK b) (hk : ∀ c ∈ b.c, 1 ≤ c.k ∧ c.k ≤ 4) (l : List Rw) (most : Int) : RowsOk b (rowsN b most l) ∧ (rowsN b most l).length ≤ most.toNat ∧ ∀ r ∈ rowsN b most l, ∀ v ∈ r, v.t.length ≤ 40 := by
  obtain ⟨g1, g2, g3⟩ := fold_rows hb hk (l.take most.toNat) [] (RowsOk.nil b) (by simp)
  refine ⟨g1, ?_, g3⟩
  rw [List.length_take] at g2
  simp only [List.length_nil] at g2
  unfold rowsN
  omega

theorem texts40 {l : List Rw} (h : ∀ r ∈ l, ∀ v ∈ r, v.t.length ≤ 40) : RowsT l := fun r hr v hv => by have := h r hr v hv; omega

set_option maxHeartbeats 8000000 in
theorem RRows13_spec {b : Tb} {l : List Rw} {f : Bool} {most : Int} (hb : TbK b) (hk : ∀ c ∈ b.c, 1 ≤ c.k ∧ c.k ≤ 4) (hm : 0 ≤ most ∧ most ≤ 1000) (h : Q (.sl 1 (rws (rowsN b most l)) false) []) :
    ACall Tryd.prog 11 0 [sch b.c b.k, .sl 1 (rws l) f, fI most] [] Q := by
  refine ACall.ret (by_body Tryd.func11 0 rfl (Nat.le_of_ble_eq_true rfl) ?_)
  have hlr := rws_len l
  have hbn := hb.nat
  have hb16 := hb.few
  have hbl := hb.lo
  obtain ⟨bn, C, K⟩ := b
  obtain ⟨k, rfl⟩ : ∃ k : Nat, K = k := ⟨K.toNat, by simp only at hbl; omega⟩
  simp only [Int.toNat_natCast] at hbn hb16 hk
  conv => whnf
  refine ⟨⟨[1, 2, 3, 7, 8], fun m ws H => ∃ i : Nat, ws = [.sl 1 (rws l) f, fI most, .ptr 0 0, .sl 1 (rws (rowsN ⟨bn, C, k⟩ (i : Int) l)) false, fI i] ∧ H = [.cells [.sl 3 (cols C) false, fI k]] ∧ (i : Int) ≤ most ∧ m = most.toNat - i,
    .frz (most.toNat + 1) (.sub _ _ (.cons (.refl _) (.cons (.refl _) (.cons (.refl _) (.cons (VSub.nils 1 false) (VSubs.refl _))))) (HSub.refl _) (.go [0] rfl most.toNat (by omega) ⟨0, rfl, rfl, by omega, rfl⟩)), ?_⟩⟩
  rintro m ws H ⟨i, rfl, rfl, hi, rfl⟩
  conv => whnf
  refine branch_i (fun c1 => ?_) (fun c1 => ?_) <;> try rw [c1] <;> conv => whnf
  rotate_left
  · have c1' := of_decide_eq_false c1
    rw [rowsN_all (most := most) _ (.inl ⟨by omega, hi⟩)]
    exact ⟨[], rfl, .done [] rfl h⟩
  refine branch_i (fun c2 => ?_) (fun c2 => ?_) <;> try rw [c2] <;> conv => whnf
  rotate_left
  · have c2' := of_decide_eq_false c2
    rw [rowsN_all (most := most) _ (.inr (by omega))]
    exact ⟨[], rfl, .done [] rfl h⟩
  have c1' := of_decide_eq_true c1
  have c2' := of_decide_eq_true c2
  have hlt : i < l.length := by omega
  have hg : l[i]? = some l[i] := List.getElem?_eq_getElem hlt
  generalize l[i] = r at *
  obtain ⟨g1, g2, g3⟩ := rowsN_ok (b := ⟨bn, C, k⟩) hb hk l (i : Int)
  refine ⟨List.range 10, by kernel_rfl, by kernel_rfl, ?_⟩
  conv => whnf
  refine ⟨_, ⟨by omega, rws_some hg⟩, ?_⟩
  conv => whnf
  refine .pure (Row_spec (l := C) (keys := (k : Int)) (vs := r) (f := false) (by omega) (fun c hc => by have := hk c hc; omega) ⟨rfl, ?_⟩)
  repeat (conv => whnf
          first | (refine ⟨rfl, ?_⟩) | (refine ⟨⟨_, ⟨by omega, rws_some hg⟩, rfl⟩, ?_⟩))
  conv => whnf
  refine .pure (RPut10_spec (C := C) (K := k) (l := rowsN ⟨bn, C, k⟩ (i : Int) l) (r := rowL C r) (f := false) (by omega) hbn.2 (texts40 g3) (fun v hv => by have := row_texts C r v hv; omega) (by omega) ⟨rfl, ?_⟩)
  repeat (conv => whnf
          first | (refine ⟨rfl, ?_⟩) | (refine ⟨⟨_, ⟨by omega, rws_some hg⟩, rfl⟩, ?_⟩))
  conv => whnf
  refine .go [0] rfl (most.toNat - (i + 1)) (by omega) ⟨i + 1, ?_, rfl, by omega, rfl⟩
  show [V.sl 1 (rws l) f, fI most, V.ptr 0 0, V.sl 1 (rws (putR C k (rowsN ⟨bn, C, k⟩ (i : Int) l) (rowL C r))) false, V.int .i64 (IntKind.i64.wrap ((i : Int) + 1))] = _
  rw [wrapE (by omega), rows_step ⟨bn, C, k⟩ hg c2']
  rfl

set_option maxHeartbeats 8000000 in
theorem SameRows_spec {l : List Rw} {f f2 : Bool} (hn : l.length < 1000000) (hl : ∀ r ∈ l, r.length < 1000000) (h : Q (.bool true) []) :
    ACall Tryd.prog 14 0 [.sl 1 (rws l) f, .sl 1 (rws l) f2] [] Q := by
  refine by_body Tryd.func14 0 rfl (Nat.le_of_ble_eq_true rfl) ?_
  have hlr := rws_len l
  conv => whnf
  rw [show decide (((rws l).length : Int) = ((rws l).length : Int)) = true from decide_eq_true rfl]
  conv => whnf
  refine ⟨⟨[0, 1, 5], fun m ws H => ∃ i : Nat, ws = [.sl 1 (rws l) f, .sl 1 (rws l) f2, fI i] ∧ H = [] ∧ i ≤ l.length ∧ m = l.length - i, .at _ ⟨0, rfl, rfl, Nat.zero_le _, rfl⟩, ?_⟩⟩
  rintro m ws H ⟨i, rfl, rfl, hi, rfl⟩
  conv => whnf
  refine branch_i (fun c1 => ?_) (fun c1 => ?_) <;> try rw [c1] <;> conv => whnf
  rotate_left
  · exact ⟨[], rfl, h⟩
  have c1' := of_decide_eq_true c1
  have hlt : i < l.length := by omega
  have hg : l[i]? = some l[i] := List.getElem?_eq_getElem hlt
  have hlr2 := hl l[i] (List.getElem_mem hlt)
  generalize l[i] = r at *
  have hvl := vals_len r
  refine ⟨List.range 11, by kernel_rfl, by kernel_rfl, ?_⟩
  conv => whnf
  refine ⟨_, ⟨by omega, rws_some hg⟩, ?_⟩
  conv => whnf
  refine ⟨_, ⟨by omega, rws_some hg⟩, ?_⟩
  repeat (conv => whnf
          first | (refine ⟨rfl, ?_⟩) | (refine ⟨⟨_, ⟨by omega, rws_some hg⟩, rfl⟩, ?_⟩))
  conv => whnf
  rw [show decide (((vals r).length : Int) = ((vals r).length : Int)) = true from decide_eq_true rfl]
  conv => whnf
  refine ⟨⟨[0, 1, 5, 6], fun m ws H => ∃ j : Nat, ws = [.sl 1 (rws l) f, .sl 1 (rws l) f2, fI i, fI j] ∧ H = [] ∧ j ≤ r.length ∧ m = r.length - j, .at _ ⟨0, rfl, rfl, Nat.zero_le _, rfl⟩, ?_⟩⟩
  rintro m ws H ⟨j, rfl, rfl, hj, rfl⟩
  conv => whnf
  refine ⟨_, ⟨by omega, rws_some hg⟩, ?_⟩
  conv => whnf
  refine branch_i (fun c2 => ?_) (fun c2 => ?_) <;> try rw [c2] <;> conv => whnf
  rotate_left
  · refine .go [] rfl (l.length - (i + 1)) (by omega) ⟨i + 1, ?_, rfl, by omega, rfl⟩
    show [V.sl 1 (rws l) f, V.sl 1 (rws l) f2, V.int .i64 (IntKind.i64.wrap ((i : Int) + 1))] = _
    rw [wrapE (by omega)]; rfl
  have c2' := of_decide_eq_true c2
  have hltj : j < r.length := by omega
  have hgj : r[j]? = some r[j] := List.getElem?_eq_getElem hltj
  generalize r[j] = v at *
  refine ⟨List.range 15, by kernel_rfl, by kernel_rfl, ?_⟩
  conv => whnf
  refine ⟨_, ⟨by omega, rws_some hg⟩, ?_⟩
  conv => whnf
  refine ⟨_, ⟨by omega, vals_get hgj⟩, ?_⟩
  conv => whnf
  refine ⟨_, ⟨by omega, rws_some hg⟩, ?_⟩
  conv => whnf
  refine ⟨_, ⟨by omega, vals_get hgj⟩, ?_⟩
  repeat (conv => whnf
          first | (refine ⟨rfl, ?_⟩) | (refine ⟨⟨_, ⟨by omega, rws_some hg⟩, rfl⟩, ?_⟩) | (refine ⟨⟨_, ⟨by omega, vals_get hgj⟩, rfl⟩, ?_⟩))
  conv => whnf
  rw [val_eq, decide_eq_true (rfl : v = v)]
  conv => whnf
  refine .go [] rfl (r.length - (j + 1)) (by omega) ⟨j + 1, ?_, rfl, by omega, rfl⟩
  show [V.sl 1 (rws l) f, V.sl 1 (rws l) f2, fI i, V.int .i64 (IntKind.i64.wrap ((j : Int) + 1))] = _
  rw [wrapE (by omega)]; rfl

end Go.Proofs.YtgikkoeckdhgkaaDoorPg

/- May an event be: the document's function. -/
namespace Go.Proofs.YtgikkoeckdhgkaaDoorPg
open Go Go.RowKit
set_option linter.unusedSimpArgs false
set_option linter.unusedVariables false

variable {Q : V → List O → Prop}

theorem rowBare5 {e : Evt} (hk : e.k = 5) : rowBare e = (decide (e.ch = chg0) && (decide (e.a.length = 0) && decide (e.n = 0))) := by
  unfold rowBare; rw [if_pos hk]
  obtain ⟨k, n, t, b, a, ch⟩ := e
  simp [Bool.and_comm, Bool.and_assoc, Bool.and_left_comm]
theorem rowBare3 {e : Evt} (hk : ¬ e.k = 5) : rowBare e = (decide (e.ch = chg0) && (decide (e.b.length = 0) && decide (e.n = 0))) := by
  unfold rowBare; rw [if_neg hk]
  obtain ⟨k, n, t, b, a, ch⟩ := e
  simp [Bool.and_comm, Bool.and_assoc, Bool.and_left_comm]
theorem bare6_eq (e : Evt) : bare6 e = (decide (e.n = 0) && (decide (e.t = []) && (decide (e.b.length = 0) && decide (e.a.length = 0)))) := by
  unfold bare6
  obtain ⟨k, n, t, b, a, ch⟩ := e
  simp
theorem bareN_eq (e : Evt) : bareN e = (decide (e.t = []) && (decide (e.b.length = 0) && (decide (e.a.length = 0) && decide (e.ch = chg0)))) := by
  unfold bareN
  obtain ⟨k, n, t, b, a, ch⟩ := e
  simp

theorem chg0_sub : VSub (.agg [.int .i64 0, .str [], .nils, .int .i64 0, .str [], .int .i64 0, .bool false]) (chA chg0) :=
  .agg (.cons (.refl _) (.cons (.refl _) (.cons (nils_sl3 false) (VSubs.refl _))))

end Go.Proofs.YtgikkoeckdhgkaaDoorPg

/- An event made of any (the document's function), the law EventMay. -/
namespace Go.Proofs.YtgikkoeckdhgkaaDoorPg
open Go Go.RowKit
set_option linter.unusedSimpArgs false
set_option linter.unusedVariables false

variable {Q : V → List O → Prop}

theorem may_kinds {l : List Col} {k : Int} (h : mayS l k = true) : ∀ c ∈ l, -9223372036854775808 ≤ c.k ∧ c.k ≤ 9223372036854775807 := fun c hc => by
  obtain ⟨i, hi⟩ := List.mem_iff_getElem?.1 hc
  unfold mayS at h
  rw [Bool.and_eq_true, List.all_eq_true] at h
  have := h.2 i (List.mem_range.2 (List.getElem?_eq_some_iff.1 hi).1)
  rw [hi] at this
  simp only [mayC, kindOk, Bool.and_eq_true, decide_eq_true_eq] at this
  omega

theorem textsOk_row (l : List Col) (vs : List Val) : TextsOk (rowL l vs) := fun v hv => by have := row_texts l vs v hv; omega

theorem row_sub0 (k : Int) (t : List UInt8) : VSub (.agg [.int .i64 k, .int .i64 0, .str t, .nils, .nils, .int .i64 0, .str [], .nils, .int .i64 0, .str [], .int .i64 0, .bool false]) (evA ⟨k, 0, t, [], [], chg0⟩) :=
  .agg (.cons (.refl _) (.cons (.refl _) (.cons (.refl _) (.cons (nils_sl3 false) (.cons (nils_sl3 false) (.cons (.refl _) (.cons (.refl _) (.cons (nils_sl3 false) (VSubs.refl _)))))))))
theorem textsOk_nil : TextsOk [] := fun v hv => by cases hv
theorem evt0 (k n : Int) (t : List UInt8) : EvtT ⟨k, n, t, [], [], chg0⟩ := ⟨textsOk_nil, textsOk_nil, by show 0 < 9223372036854775808; decide, by show 0 < 9223372036854775808; decide, by show 0 < 1000000; decide⟩
theorem evt6 (k n : Int) {c : Chg} (hc : c.c.length < 1000000) : EvtT ⟨k, n, [], [], [], c⟩ := ⟨textsOk_nil, textsOk_nil, by show 0 < 9223372036854775808; decide, by show 0 < 9223372036854775808; decide, hc⟩
theorem evt3 (k n : Int) (t : List UInt8) {C : List Col} (hC : C.length ≤ 16) (vs : List Val) : EvtT ⟨k, n, t, [], rowL C vs, chg0⟩ :=
  ⟨textsOk_nil, textsOk_row C vs, by show 0 < 9223372036854775808; decide, by show (rowL C vs).length < _; rw [rowL_len]; omega, by show 0 < 1000000; decide⟩
theorem evt5 (k n : Int) (t : List UInt8) {C : List Col} (hC : C.length ≤ 16) (vs : List Val) (m : Nat) : EvtT ⟨k, n, t, (rowL C vs).take m, [], chg0⟩ :=
  ⟨fun v hv => textsOk_row C vs v (List.mem_of_mem_take hv), textsOk_nil, by show ((rowL C vs).take m).length < _; rw [List.length_take, rowL_len]; omega, by show 0 < 9223372036854775808; decide, by show 0 < 1000000; decide⟩

set_option maxHeartbeats 32000000 in
theorem REvent_spec {e : Evt} {l : List Tb} (hl : TbsB l) (he : EvtT e) (hn : I64 e.n) (h : ∀ e2, EvtT e2 → Q (evA e2) []) : ACall Tryd.prog 21 0 [evA e, .sl 3 (tbs l) false] [] Q := by
  refine ACall.ret (by_body Tryd.func21 0 rfl (Nat.le_of_ble_eq_true rfl) ?_)
  conv => whnf
  have hlv := tbs_len l
  refine .pure (EvRFind_spec (by have := hl.few; omega) ⟨rfl, ?_⟩)
  unfold findR
  rcases hf : findT l e.t with _ | ⟨C, K⟩ <;> conv => whnf
  focus
    refine branch_i (fun a1 => ?_) (fun a1 => ?_) <;> try rw [a1] <;> conv => whnf
    focus
      refine branch_i (fun a2 => ?_) (fun a2 => ?_) <;> try rw [a2] <;> conv => whnf
      focus
        refine branch_i (fun a3 => ?_) (fun a3 => ?_) <;> try rw [a3] <;> conv => whnf
        focus
          have a1' := of_decide_eq_true a1
          have hg : l[0]? = some l[0] := List.getElem?_eq_getElem (by omega)
          have hm := (hl.ok.each l[0] (List.getElem_mem (by omega))).sch
          generalize l[0] = w at *
          refine ⟨_, ⟨by omega, tbs_get hg⟩, ?_⟩
          conv => whnf
          refine ⟨_, ⟨by omega, tbs_get hg⟩, ?_⟩
          conv => whnf
          have hb := may_bd hm
          generalize w.c = C at *
          generalize w.k = K at *
          obtain ⟨k, rfl⟩ : ∃ k : Nat, K = k := ⟨K.toNat, by omega⟩
          have hk : k ≤ C.length := by omega
          have hC : C.length ≤ 16 := hb.2.2.2
    rotate_left
    iterate 3
      focus
        repeat' (refine branch_i (fun e => ?_) (fun e => ?_) <;> try rw [e] <;> conv => whnf)
        all_goals
          first
          | exact ⟨[], rfl, .sub _ _ (row_sub0 _ _) (HSub.refl _) (.done [] rfl (h _ (evt0 _ _ _)))⟩
          | exact ⟨[], rfl, .sub _ _ (may_sub6 _ _ _) (HSub.refl _) (.done [] rfl (h _ (evt6 _ _ he.lc)))⟩
          | exact ⟨[], rfl, .sub _ _ (may_subN _ _) (HSub.refl _) (.done [] rfl (h _ (evt0 _ _ _)))⟩
          | (try dsimp [mergeO, mapO, idx, renO, renV, renL, renE, fogOf, fogE, back, forget, gather, getO, setO, Nat.beq, List.drop, List.take, frzH, frzO, frzV, frzL, frzE]); trace_state; sorry
  rotate_left
  focus
    obtain ⟨hm, hC, k, rfl, hk⟩ := hl.found hf
  all_goals
    have hki := may_kinds hm
    refine branch_i (fun k3 => ?_) (fun k3 => ?_) <;> try rw [k3] <;> conv => whnf
    · refine .pure (Row_spec (l := C) (keys := (k : Int)) (vs := e.a) (by omega) hki ⟨rfl, ?_⟩)
      conv => whnf
      exact ⟨[], rfl, .sub _ _ (row_sub _ _ _) (HSub.refl _) (.done [] rfl (h _ (evt3 _ _ _ hC _)))⟩
    refine branch_i (fun k4 => ?_) (fun k4 => ?_) <;> try rw [k4] <;> conv => whnf
    · refine .pure (Row_spec (l := C) (keys := (k : Int)) (vs := e.a) (by omega) hki ⟨rfl, ?_⟩)
      conv => whnf
      exact ⟨[], rfl, .sub _ _ (row_sub _ _ _) (HSub.refl _) (.done [] rfl (h _ (evt3 _ _ _ hC _)))⟩
    refine branch_i (fun k5 => ?_) (fun k5 => ?_) <;> try rw [k5] <;> conv => whnf
    · refine ⟨[0, 1, 2, 4, 5, 3, 6, 7, 8], by kernel_rfl, by kernel_rfl, ?_⟩
      conv => whnf
      refine .pure (Row_spec (l := C) (keys := (k : Int)) (vs := e.b) (by omega) hki ⟨rfl, ?_⟩)
      have hrl : (vals (rowL C e.b)).length = C.length := by rw [vals_len, rowL_len]
      repeat (conv => whnf
              refine ⟨rfl, ?_⟩)
      conv => whnf
      refine ⟨⟨by omega, by omega⟩, ?_⟩
      conv => whnf
      rw [vals_take]
      exact ⟨[], rfl, .sub _ _ (row_sub5 _ _ _) (HSub.refl _) (.done [] rfl (h _ (evt5 _ _ _ hC _ _)))⟩
    refine branch_i (fun k6 => ?_) (fun k6 => ?_) <;> try rw [k6] <;> conv => whnf
    · exact ⟨[], rfl, .sub _ _ (may_sub6 _ _ _) (HSub.refl _) (.done [] rfl (h _ (evt6 _ _ he.lc)))⟩
    refine branch_i (fun k7 => ?_) (fun k7 => ?_) <;> try rw [k7] <;> conv => whnf
    · exact ⟨[], rfl, .sub _ _ (may_subN _ _) (HSub.refl _) (.done [] rfl (h _ (evt0 _ _ _)))⟩
    · exact ⟨[], rfl, .sub _ _ (may_subN _ _) (HSub.refl _) (.done [] rfl (h _ (evt0 _ _ _)))⟩


/-! ### the law EventMay -/
theorem good_tb {l : List Tb} (h : ∀ t ∈ l, TbIn t) : TbsB (goodT l) := by
  obtain ⟨h1, h2⟩ := goodTN_ok h 3
  exact ⟨h1, by show (goodTN l 3).length ≤ 64; omega⟩

end Go.Proofs.YtgikkoeckdhgkaaDoorPg

/- The laws of windows: the example, what a window has and what it must have. -/
namespace Go.Proofs.YtgikkoeckdhgkaaDoorPg
open Go Go.RowKit
set_option linter.unusedSimpArgs false
set_option linter.unusedVariables false

variable {Q : V → List O → Prop}

def exT : Tb := ⟨[116], [⟨[105, 100], 2, false⟩], 1⟩
def exR (n : Int) : Rw := [⟨2, n, []⟩]

theorem some13_spec (h : Q (tbA exT) []) : ACall Tryd.prog 9 0 [] [] Q := by
  refine ACall.sub (ACall.ret (by_body Tryd.func9 0 rfl (Nat.le_of_ble_eq_true rfl) ?_))
  conv => whnf
  exact ⟨[1], rfl, .frz 0 rfl (by repeat (first | exact trivial | refine And.intro (Nat.le_refl _) ?_)) (.done [] rfl ⟨_, _, VSub.agg (.cons (.refl _) (.cons (VSub.room 3 _ true) (VSubs.refl _))), HSub.refl _, h⟩)⟩

theorem row13_spec {n : Int} (h : Q (fR (exR n)) []) : ACall Tryd.prog 10 0 [fI n] [] Q := by
  refine ACall.sub (ACall.ret (by_body Tryd.func10 0 rfl (Nat.le_of_ble_eq_true rfl) ?_))
  conv => whnf
  exact ⟨[0], rfl, .frz 0 rfl (by repeat (first | exact trivial | refine And.intro (Nat.le_refl _) ?_)) (.done [] rfl ⟨_, _, VSub.room 3 _ true, HSub.refl _, h⟩)⟩

def exW : WS := ⟨2, true, 0, exT, [], keyS [⟨2, 3, []⟩], false, false, [exR 1, exR 3]⟩
theorem ex_open : openS nameOk mayS (shutW 2) 0 exT [] [exR 1, exR 3] = (exW, 0) := by kernel_rfl
def exE (n : Int) : Evt := ⟨3, 0, [116], [], exR n, chg0⟩
theorem ex_take2 : takeS exW (exE 2) = (spoilW exW, 0) := by kernel_rfl
theorem ex_take4 : takeS exW (exE 4) = (exW, 0) := by kernel_rfl

theorem ex_texts (n : Int) : TextsOk (exR n) := fun v hv => by
  simp only [exR, List.mem_singleton] at hv
  subst hv
  show 0 < 1000000000000000000
  decide

theorem ex_evt (n : Int) : EvX (exE n) := ⟨textsOk_nil, ex_texts n⟩

theorem ex_good : WGood exW := by
  have h : WGood (shutW 2) := WGood.shutOk (by decide)
  refine ⟨by decide, fun _ => by decide, ?_, ?_, by decide, ?_, fun h => absurd h (by decide), fun h => absurd h (by decide), ?_⟩
  · unfold SortedL
    decide
  · decide
  · decide
  · decide

theorem ev_sub (n : Int) : VSub (.agg [.int .i64 3, .int .i64 0, .str [116], .nils, fR (exR n), .int .i64 0, .str [], .nils, .int .i64 0, .str [], .int .i64 0, .bool false]) (evA (exE n)) :=
  .agg (.cons (.refl _) (.cons (.refl _) (.cons (.refl _) (.cons (nils_sl3 false) (.cons (.refl _) (.cons (.refl _) (.cons (.refl _) (.cons (nils_sl3 false) (VSubs.refl _)))))))))

set_option maxHeartbeats 8000000 in
theorem lives13_spec (h : Q (.bool true) []) : ACall Tryd.prog 16 0 [] [] Q := by
  refine by_body Tryd.func16 0 rfl (Nat.le_of_ble_eq_true rfl) ?_
  conv => whnf
  refine .call [] 0 ⟨rfl, rfl, rfl⟩ (WNew_spec ?_)
  conv => whnf
  refine .call [] 0 ⟨rfl, rfl, rfl⟩ (WNew_spec ?_)
  conv => whnf
  refine .pure (some13_spec ⟨rfl, ?_⟩)
  conv => whnf
  refine .pure (row13_spec ⟨rfl, ?_⟩)
  conv => whnf
  refine .pure (row13_spec ⟨rfl, ?_⟩)
  conv => whnf
  refine .frz 2 rfl rfl (by repeat (first | exact trivial | refine And.intro (Nat.le_refl _) ?_)) (.call [0] 1 ⟨rfl, rfl, rfl⟩ (ACall.args (.cons (.refl _) (.cons (.refl _) (.cons (.refl _) (.cons (.refl _) (.cons (VSub.room 1 _ true) (VSubs.refl _))))))
    (WOpen0_spec (size := 2) (num := 0) (b := exT) (after := []) (rows := [exR 1, exR 3]) (by decide) (fun r hr => by simp only [List.mem_cons, List.not_mem_nil, or_false] at hr; rcases hr with rfl | rfl <;> exact ex_texts _) (by decide) (fun hx => absurd (by rw [ex_open]) hx) fun t1 n1 _ w1 => ?_)))
  rw [ex_open] at w1 ⊢
  conv => whnf
  refine .pure (some13_spec ⟨rfl, ?_⟩)
  conv => whnf
  refine .pure (row13_spec ⟨rfl, ?_⟩)
  conv => whnf
  refine .pure (row13_spec ⟨rfl, ?_⟩)
  conv => whnf
  refine .frz 5 rfl rfl (by repeat (first | exact trivial | refine And.intro (Nat.le_refl _) ?_)) (.call [1] 1 ⟨rfl, rfl, rfl⟩ (ACall.args (.cons (.refl _) (.cons (.refl _) (.cons (.refl _) (.cons (.refl _) (.cons (VSub.room 1 _ true) (VSubs.refl _))))))
    (WOpen0_spec (size := 2) (num := 0) (b := exT) (after := []) (rows := [exR 1, exR 3]) (by decide) (fun r hr => by simp only [List.mem_cons, List.not_mem_nil, or_false] at hr; rcases hr with rfl | rfl <;> exact ex_texts _) (by decide) (fun hx => absurd (by rw [ex_open]) hx) fun t2 n2 _ w2 => ?_)))
  rw [ex_open] at w2 ⊢
  conv => whnf
  refine .pure (row13_spec ⟨rfl, ?_⟩)
  conv => whnf
  refine .call [0, 3, 4] 2 ⟨rfl, rfl, rfl⟩ (ACall.args (.cons (.refl _) (.cons (ev_sub 2) (VSubs.refl _))) (WTake_spec (w := exW) (e := exE 2) ex_good rfl w1 (by decide) (ex_evt 2) fun t3 n3 w3 => ?_))
  rw [ex_take2] at w3 ⊢
  conv => whnf
  refine .pure (row13_spec ⟨rfl, ?_⟩)
  conv => whnf
  refine .call [1, 6, 7] 2 ⟨rfl, rfl, rfl⟩ (ACall.args (.cons (.refl _) (.cons (ev_sub 4) (VSubs.refl _))) (WTake_spec (w := exW) (e := exE 4) ex_good rfl w2 (by decide) (ex_evt 4) fun t4 n4 w4 => ?_))
  rw [ex_take4] at w4 ⊢
  conv => whnf
  refine .call [0, 3, 4] 3 ⟨rfl, rfl, rfl⟩ (WSpoiled1_spec (w := spoilW exW) ?_)
  conv => whnf
  refine .call [0, 3, 4] 3 ⟨rfl, rfl, rfl⟩ (WLen1_spec (w := spoilW exW) w3 (by decide) (fun r hr => absurd hr List.not_mem_nil) ?_)
  conv => whnf
  refine .call [1, 6, 7] 3 ⟨rfl, rfl, rfl⟩ (WSpoiled1_spec (w := exW) ?_)
  conv => whnf
  refine .call [1, 6, 7] 3 ⟨rfl, rfl, rfl⟩ (WLen1_spec (w := exW) w4 (by decide) (by decide) ?_)
  conv => whnf
  exact ⟨[], rfl, h⟩

/-! ### what a window has, and what it must have -/
/-- a window in memory, and the document's -/
inductive WinH : WS → List O → Nat → Prop
  | shut {n : Int} (m : Nat) (h : 1 ≤ n) : WinH (shutW n) (shutH n) m
  | open {w : WS} {t : Tr Rw} {n : Int} {m : Nat} (hi : w.is = true) (hw : WOk w t n m) : WinH w (openH w t n) m

theorem WinH.mono {w : WS} {H : List O} {m m' : Nat} (h : WinH w H m) (hm : m ≤ m') : WinH w H m' := by
  cases h with
  | shut _ h => exact .shut _ h
  | «open» hi hw => exact .open hi ⟨hw.ok.mono hm, hw.eq, hw.may⟩

set_option maxHeartbeats 8000000 in
theorem like_shut {size : Int} (h : Q (.bool true) (shutH size)) : ACall Tryd.prog 19 1 [.ptr 0 0, wsV (shutW size)] (shutH size) Q := by
  refine by_body Tryd.func19 1 rfl (Nat.le_of_ble_eq_true rfl) ?_
  conv => whnf
  refine ⟨[0, 2, 1, 3, 4, 5, 7, 8, 9, 6, 10, 11, 12, 13, 15, 16, 17, 14, 18, 19, 20, 21, 23, 24, 22, 25, 26, 27, 28, 30, 31, 29, 32, 33, 34], by kernel_rfl, by kernel_rfl, ?_⟩
  conv => whnf
  refine .call [0] 1 ⟨rfl, rfl, rfl⟩ (WNumber0_spec ?_)
  repeat (conv => whnf
          refine ⟨rfl, ?_⟩)
  conv => whnf
  refine .call [0] 1 ⟨rfl, rfl, rfl⟩ (WTable0_spec ?_)
  repeat (conv => whnf
          refine ⟨rfl, ?_⟩)
  conv => whnf
  refine .call [0] 1 ⟨rfl, rfl, rfl⟩ (WLen0_spec ?_)
  repeat (conv => whnf
          refine ⟨rfl, ?_⟩)
  conv => whnf
  refine .call [0] 1 ⟨rfl, rfl, rfl⟩ (WSpoiled0_spec ?_)
  repeat (conv => whnf
          refine ⟨rfl, ?_⟩)
  conv => whnf
  refine .call [0] 1 ⟨rfl, rfl, rfl⟩ (WRows0_spec ?_)
  repeat (conv => whnf
          refine ⟨rfl, ?_⟩)
  conv => whnf
  refine .pure (SameRows_spec (l := []) (f := false) (f2 := false) (by decide) (fun r hr => absurd hr List.not_mem_nil) ⟨rfl, ?_⟩)
  repeat (conv => whnf
          refine ⟨rfl, ?_⟩)
  conv => whnf
  exact ⟨[0], rfl, h⟩

set_option maxHeartbeats 8000000 in
theorem like_open {w : WS} {t : Tr Rw} {n : Int} {m : Nat} (hi : w.is = true) (hw : WOk w t n m) (hm : m < 1000000) (hl : ∀ r ∈ w.rows, r.length < 1000000) (h : Q (.bool true) (openH w t n)) :
    ACall Tryd.prog 19 3 [.ptr 0 0, wsV w] (openH w t n) Q := by
  refine by_body Tryd.func19 3 rfl (Nat.le_of_ble_eq_true rfl) ?_
  have hlr := rws_len w.rows
  have hn := hw.len
  have hle := hw.ok.le
  have hrl : w.rows.length < 1000000 := by
    have := hw.ok.len
    omega
  conv => whnf
  rw [hi]
  conv => whnf
  refine ⟨[0, 2, 1, 3, 4, 5, 7, 8, 9, 6, 10, 11, 12, 13, 15, 16, 17, 14, 18, 19, 20, 21, 23, 24, 22, 25, 26, 27, 28, 30, 31, 29, 32, 33, 34], by kernel_rfl, by kernel_rfl, ?_⟩
  conv => whnf
  refine .call [0, 1, 2] 3 ⟨rfl, rfl, rfl⟩ (WNumber1_spec (w := w) ?_)
  repeat (conv => whnf
          refine ⟨rfl, ?_⟩)
  conv => whnf
  rw [show decide (w.num = w.num) = true from decide_eq_true rfl]
  conv => whnf
  refine .call [0, 1, 2] 3 ⟨rfl, rfl, rfl⟩ (WTable1_spec (w := w) ?_)
  repeat (conv => whnf
          refine ⟨rfl, ?_⟩)
  conv => whnf
  rw [show decide (w.t.n = w.t.n) = true from decide_eq_true rfl]
  conv => whnf
  refine .call [0, 1, 2] 3 ⟨rfl, rfl, rfl⟩ (WLen1_spec hw hm hl ?_)
  repeat (conv => whnf
          refine ⟨rfl, ?_⟩)
  conv => whnf
  rw [hlr, show decide ((w.rows.length : Int) = (w.rows.length : Int)) = true from decide_eq_true rfl]
  conv => whnf
  refine .call [0, 1, 2] 3 ⟨rfl, rfl, rfl⟩ (WSpoiled1_spec (w := w) ?_)
  repeat (conv => whnf
          refine ⟨rfl, ?_⟩)
  conv => whnf
  rw [show (w.sp == w.sp) = true by cases w.sp <;> rfl]
  conv => whnf
  refine .call [0, 1, 2] 3 ⟨rfl, rfl, rfl⟩ (WRows1_spec hw hm hl ?_)
  repeat (conv => whnf
          refine ⟨rfl, ?_⟩)
  conv => whnf
  refine .pure (SameRows_spec (l := w.rows) (f := false) (f2 := false) hrl hl ⟨rfl, ?_⟩)
  repeat (conv => whnf
          refine ⟨rfl, ?_⟩)
  conv => whnf
  exact ⟨[0, 1, 2], rfl, h⟩

end Go.Proofs.YtgikkoeckdhgkaaDoorPg

/- The law WindowArgs. -/
namespace Go.Proofs.YtgikkoeckdhgkaaDoorPg
open Go Go.RowKit
set_option linter.unusedSimpArgs false
set_option linter.unusedVariables false

variable {Q : V → List O → Prop}

theorem rows_of : ∀ {es : List (List V)}, (∀ x ∈ es, ∃ r : Rw, x = [fR r] ∧ ∀ v ∈ r, ValIn v) → ∃ l : List Rw, es = rws l ∧ ∀ r ∈ l, ∀ v ∈ r, ValIn v
  | [], _ => ⟨[], rfl, by simp⟩
  | x :: es, h => by
    obtain ⟨r, rfl, hr⟩ := h x (by simp)
    obtain ⟨l, rfl, hl⟩ := rows_of (es := es) fun y hy => h y (by simp [hy])
    refine ⟨r :: l, rfl, fun x hx => ?_⟩
    rcases List.mem_cons.1 hx with rfl | hx
    · exact hr
    · exact hl x hx

theorem rows_in {vs : List V} (h : Shp tt 8 35 vs) : ∃ l : List Rw, argV tt 35 vs = .sl 1 (rws l) false ∧ ∀ r ∈ l, ∀ v ∈ r, ValIn v := by
  obtain ⟨es, _, g1, rfl⟩ := h
  obtain ⟨l, rfl, hl⟩ := rows_of fun x hx => by
    obtain ⟨es, _, g2, rfl⟩ := g1 x hx
    obtain ⟨l, rfl, hl⟩ := evals_of fun x hx => by
      obtain ⟨_, _, ⟨k, hk, rfl⟩, ⟨_, _, ⟨n, hn, rfl⟩, ⟨_, _, ⟨s, hs, rfl⟩, rfl, rfl⟩, rfl⟩, rfl⟩ := g2 x hx
      exact ⟨k, n, s, rfl, i64_wf hk, i64_wf hn, hs⟩
    exact ⟨l, rfl, hl⟩
  exact ⟨l, rfl, hl⟩

theorem table_in {vs : List V} (h : Shp tt 8 29 vs) : ∃ t : Tb, argV tt 29 vs = tbA t ∧ TbIn t := by
  obtain ⟨_, _, ⟨n, _, rfl⟩, ⟨_, _, ⟨_, _, ⟨es, _, g2, rfl⟩, ⟨_, _, ⟨k, hk, rfl⟩, rfl, rfl⟩, rfl⟩, rfl, rfl⟩, rfl⟩ := h
  obtain ⟨l, rfl, hl⟩ := cols_of fun x hx => by
    obtain ⟨_, _, ⟨s, _, rfl⟩, ⟨_, _, ⟨k, hk, rfl⟩, ⟨_, _, ⟨o, rfl⟩, rfl, rfl⟩, rfl⟩, rfl⟩ := g2 x hx
    exact ⟨s, k, o, rfl, i64_wf hk⟩
  exact ⟨⟨n, l, k⟩, rfl, i64_wf hk, hl⟩

theorem cols_tk (l : List Col) (n : Nat) : List.take n (cols l) = cols (l.take n) := by simp [cols, List.map_take]

theorem bbT (b : Int) : decide (b = b) = true := decide_eq_true rfl

set_option maxHeartbeats 16000000 in
theorem WindowArgs_spec {size num : Int} {b : Tb} {after : List UInt8} {rows : List Rw} (ht : RowsT rows) :
    ACall Tryd.prog 4 0 [fI size, fI num, tbA b, .str after, .sl 1 (rws rows) false] [] (fun v _ => v = .bool true) := by
  refine by_body Tryd.func4 0 rfl (Nat.le_of_ble_eq_true rfl) ?_
  have hlr := rws_len rows
  obtain ⟨bn, C, K⟩ := b
  have hlc := cols_len C
  conv => whnf
  refine branch_i (fun c1 => ?_) (fun c1 => ?_) <;> try rw [c1] <;> conv => whnf
  focus
    have c1' := of_decide_eq_true c1
    refine ⟨by omega, ?_⟩
    rw [rws_take, show Int.toNat 6 = 6 from rfl]
    have ht' : RowsT (rows.take 6) := fun r hr => ht r (List.mem_of_mem_take hr)
    have hl6 : (rows.take 6).length ≤ 6 := by rw [List.length_take]; omega
    clear hlr c1 c1' ht
    generalize rows.take 6 = rows at *
    conv => whnf
  rotate_left
  focus
    have hl6 : rows.length ≤ 6 := by have := of_decide_eq_false c1; omega
    have ht' := ht
    clear ht c1 hlr
  all_goals
    refine branch_i (fun c2 => ?_) (fun c2 => ?_) <;> try rw [c2] <;> conv => whnf
  all_goals
    first
    | (have c2' : (6 : Int) < ((cols C).length : Int) := of_decide_eq_true c2
       refine ⟨(show (0 : Int) ≤ 6 ∧ (6 : Int) ≤ ((cols C).length : Int) by omega), ?_⟩
       rw [cols_tk]
       conv => whnf)
    | skip
  all_goals
    refine branch_i (fun c3 => ?_) (fun c3 => ?_) <;> try rw [c3] <;> conv => whnf
  all_goals
    first
    | (have c3' : (40 : Int) < (after.length : Int) := of_decide_eq_true c3
       refine ⟨(show (0 : Int) ≤ 40 ∧ (40 : Int) ≤ (after.length : Int) by omega), ?_⟩
       conv => whnf)
    | skip
  all_goals
    refine .call [] 0 ⟨rfl, rfl, rfl⟩ (WNew_spec ?_)
    conv => whnf
    refine .pure (RNew13_spec ⟨rfl, ?_⟩)
    have hsz : 1 ≤ (if size < 1 then 1 else size) := by split <;> omega
    generalize (if size < 1 then 1 else size) = sz at *
    conv => whnf
    first
    | (refine .pure (ROpen13_spec (w := shutW sz) (num := num) (b := ⟨bn, C, K⟩) (after := after) ht' (by omega) ⟨rfl, ?_⟩)
       conv => whnf
       refine .call [1] 1 ⟨rfl, rfl, rfl⟩ (WOpen0_spec (size := sz) (num := num) (b := ⟨bn, C, K⟩) (after := after) (rows := rows) hsz ht' (by omega) (fun hx => ?_) fun t n hx hw => ?_)
       · rcases open_cases nameOk mayS sz num ⟨bn, C, K⟩ (after) rows with hc | ⟨fin, g1, g2, hc⟩
         · rw [hc]
           conv => whnf
           refine .call [1] 1 ⟨rfl, rfl, rfl⟩ (like_shut ?_)
           conv => whnf
           refine .pure (lives13_spec ⟨rfl, ?_⟩)
           conv => whnf
           exact ⟨[], rfl, rfl⟩
         · exact absurd (by rw [hc]) hx
       · rcases open_cases nameOk mayS sz num ⟨bn, C, K⟩ (after) rows with hc | ⟨fin, g1, g2, hc⟩
         · rw [hc] at hx; cases hx
         · rw [hc] at hw ⊢
           have hgood := open_good hsz g1 g2 (fun hm => by have := may_bd hm; exact ⟨this.1, this.2.2.1, this.2.2.2⟩)
           conv => whnf
           refine .call [1, 4, 5] 3 ⟨rfl, rfl, rfl⟩ (like_open rfl hw (by omega) (fun r hr => by have := hgood.txt r hr; omega) ?_)
           conv => whnf
           refine .pure (lives13_spec ⟨rfl, ?_⟩)
           conv => whnf
           exact ⟨[], rfl, rfl⟩)
    | (refine .pure (ROpen13_spec (w := shutW sz) (num := num) (b := ⟨bn, C.take 6, K⟩) (after := after) ht' (by omega) ⟨rfl, ?_⟩)
       conv => whnf
       refine .call [1] 1 ⟨rfl, rfl, rfl⟩ (WOpen0_spec (size := sz) (num := num) (b := ⟨bn, C.take 6, K⟩) (after := after) (rows := rows) hsz ht' (by omega) (fun hx => ?_) fun t n hx hw => ?_)
       · rcases open_cases nameOk mayS sz num ⟨bn, C.take 6, K⟩ (after) rows with hc | ⟨fin, g1, g2, hc⟩
         · rw [hc]
           conv => whnf
           refine .call [1] 1 ⟨rfl, rfl, rfl⟩ (like_shut ?_)
           conv => whnf
           refine .pure (lives13_spec ⟨rfl, ?_⟩)
           conv => whnf
           exact ⟨[], rfl, rfl⟩
         · exact absurd (by rw [hc]) hx
       · rcases open_cases nameOk mayS sz num ⟨bn, C.take 6, K⟩ (after) rows with hc | ⟨fin, g1, g2, hc⟩
         · rw [hc] at hx; cases hx
         · rw [hc] at hw ⊢
           have hgood := open_good hsz g1 g2 (fun hm => by have := may_bd hm; exact ⟨this.1, this.2.2.1, this.2.2.2⟩)
           conv => whnf
           refine .call [1, 4, 5] 3 ⟨rfl, rfl, rfl⟩ (like_open rfl hw (by omega) (fun r hr => by have := hgood.txt r hr; omega) ?_)
           conv => whnf
           refine .pure (lives13_spec ⟨rfl, ?_⟩)
           conv => whnf
           exact ⟨[], rfl, rfl⟩)
    | (refine .pure (ROpen13_spec (w := shutW sz) (num := num) (b := ⟨bn, C, K⟩) (after := after.take 40) ht' (by omega) ⟨rfl, ?_⟩)
       conv => whnf
       refine .call [1] 1 ⟨rfl, rfl, rfl⟩ (WOpen0_spec (size := sz) (num := num) (b := ⟨bn, C, K⟩) (after := after.take 40) (rows := rows) hsz ht' (by omega) (fun hx => ?_) fun t n hx hw => ?_)
       · rcases open_cases nameOk mayS sz num ⟨bn, C, K⟩ (after.take 40) rows with hc | ⟨fin, g1, g2, hc⟩
         · rw [hc]
           conv => whnf
           refine .call [1] 1 ⟨rfl, rfl, rfl⟩ (like_shut ?_)
           conv => whnf
           refine .pure (lives13_spec ⟨rfl, ?_⟩)
           conv => whnf
           exact ⟨[], rfl, rfl⟩
         · exact absurd (by rw [hc]) hx
       · rcases open_cases nameOk mayS sz num ⟨bn, C, K⟩ (after.take 40) rows with hc | ⟨fin, g1, g2, hc⟩
         · rw [hc] at hx; cases hx
         · rw [hc] at hw ⊢
           have hgood := open_good hsz g1 g2 (fun hm => by have := may_bd hm; exact ⟨this.1, this.2.2.1, this.2.2.2⟩)
           conv => whnf
           refine .call [1, 4, 5] 3 ⟨rfl, rfl, rfl⟩ (like_open rfl hw (by omega) (fun r hr => by have := hgood.txt r hr; omega) ?_)
           conv => whnf
           refine .pure (lives13_spec ⟨rfl, ?_⟩)
           conv => whnf
           exact ⟨[], rfl, rfl⟩)
    | (refine .pure (ROpen13_spec (w := shutW sz) (num := num) (b := ⟨bn, C.take 6, K⟩) (after := after.take 40) ht' (by omega) ⟨rfl, ?_⟩)
       conv => whnf
       refine .call [1] 1 ⟨rfl, rfl, rfl⟩ (WOpen0_spec (size := sz) (num := num) (b := ⟨bn, C.take 6, K⟩) (after := after.take 40) (rows := rows) hsz ht' (by omega) (fun hx => ?_) fun t n hx hw => ?_)
       · rcases open_cases nameOk mayS sz num ⟨bn, C.take 6, K⟩ (after.take 40) rows with hc | ⟨fin, g1, g2, hc⟩
         · rw [hc]
           conv => whnf
           refine .call [1] 1 ⟨rfl, rfl, rfl⟩ (like_shut ?_)
           conv => whnf
           refine .pure (lives13_spec ⟨rfl, ?_⟩)
           conv => whnf
           exact ⟨[], rfl, rfl⟩
         · exact absurd (by rw [hc]) hx
       · rcases open_cases nameOk mayS sz num ⟨bn, C.take 6, K⟩ (after.take 40) rows with hc | ⟨fin, g1, g2, hc⟩
         · rw [hc] at hx; cases hx
         · rw [hc] at hw ⊢
           have hgood := open_good hsz g1 g2 (fun hm => by have := may_bd hm; exact ⟨this.1, this.2.2.1, this.2.2.2⟩)
           conv => whnf
           refine .call [1, 4, 5] 3 ⟨rfl, rfl, rfl⟩ (like_open rfl hw (by omega) (fun r hr => by have := hgood.txt r hr; omega) ?_)
           conv => whnf
           refine .pure (lives13_spec ⟨rfl, ?_⟩)
           conv => whnf
           exact ⟨[], rfl, rfl⟩)
    | (try dsimp [mergeO, mapO, idx, renO, renV, renL, renE, fogOf, fogE, back, forget, gather, getO, setO, Nat.beq, List.drop, List.take, frzH, frzO, frzV, frzL, frzE]); trace_state; sorry

end Go.Proofs.YtgikkoeckdhgkaaDoorPg

/- The law WindowSpoils. -/
namespace Go.Proofs.YtgikkoeckdhgkaaDoorPg
open Go Go.RowKit
set_option linter.unusedSimpArgs false
set_option linter.unusedVariables false

variable {Q : V → List O → Prop}

def evs (l : List Evt) : List (List V) := l.map evC
theorem evs_len (l : List Evt) : (evs l).length = l.length := by simp [evs]
theorem evs_get {l : List Evt} {i : Nat} {e : Evt} (h : l[i]? = some e) : (evs l)[i]? = some (evC e) := by simp [evs, h]

theorem evs_of : ∀ {es : List (List V)}, (∀ x ∈ es, ∃ e : Evt, x = evC e ∧ EvtIn e) → ∃ l : List Evt, es = evs l ∧ ∀ e ∈ l, EvtIn e
  | [], _ => ⟨[], rfl, by simp⟩
  | x :: es, h => by
    obtain ⟨e, rfl, he⟩ := h x (by simp)
    obtain ⟨l, rfl, hl⟩ := evs_of (es := es) fun y hy => h y (by simp [hy])
    refine ⟨e :: l, rfl, fun v hv => ?_⟩
    rcases List.mem_cons.1 hv with rfl | hv
    · exact he
    · exact hl v hv

theorem ev_cells {vs : List V} (h : Shp tt 8 60 vs) : ∃ e : Evt, vs = evC e ∧ EvtIn e := by
  obtain ⟨_, _, ⟨k, hk, rfl⟩, ⟨_, _, ⟨n, hn, rfl⟩, ⟨_, _, ⟨t, _, rfl⟩, ⟨_, _, ⟨eb, heb, gb, rfl⟩, ⟨_, _, ⟨ea, hea, ga, rfl⟩, ⟨_, _, hch, rfl, rfl⟩, rfl⟩, rfl⟩, rfl⟩, rfl⟩, rfl⟩ := h
  obtain ⟨_, _, ⟨ck, hck, rfl⟩, ⟨_, _, ⟨ct, _, rfl⟩, ⟨_, _, ⟨_, _, ⟨es, _, g1, rfl⟩, ⟨_, _, ⟨ks, hks, rfl⟩, rfl, rfl⟩, rfl⟩, ⟨_, _, ⟨_, _, ⟨cn, _, rfl⟩, ⟨_, _, ⟨cck, hcck, rfl⟩, ⟨_, _, ⟨o, rfl⟩, rfl, rfl⟩, rfl⟩, rfl⟩, rfl, rfl⟩, rfl⟩, rfl⟩, rfl⟩ := hch
  obtain ⟨l, rfl, hl⟩ := cols_of fun x hx => by
    obtain ⟨_, _, ⟨s, _, rfl⟩, ⟨_, _, ⟨k, hk, rfl⟩, ⟨_, _, ⟨o, rfl⟩, rfl, rfl⟩, rfl⟩, rfl⟩ := g1 x hx
    exact ⟨s, k, o, rfl, i64_wf hk⟩
  obtain ⟨lb, rfl, hlb⟩ := evals_of fun x hx => by
    obtain ⟨_, _, ⟨k, hk, rfl⟩, ⟨_, _, ⟨n, hn, rfl⟩, ⟨_, _, ⟨s, hs, rfl⟩, rfl, rfl⟩, rfl⟩, rfl⟩ := gb x hx
    exact ⟨k, n, s, rfl, i64_wf hk, i64_wf hn, hs⟩
  obtain ⟨la, rfl, hla⟩ := evals_of fun x hx => by
    obtain ⟨_, _, ⟨k, hk, rfl⟩, ⟨_, _, ⟨n, hn, rfl⟩, ⟨_, _, ⟨s, hs, rfl⟩, rfl, rfl⟩, rfl⟩, rfl⟩ := ga x hx
    exact ⟨k, n, s, rfl, i64_wf hk, i64_wf hn, hs⟩
  refine ⟨⟨k, n, t, lb, la, ⟨ck, ct, l, ks, ⟨cn, cck, o⟩⟩⟩, rfl, ⟨⟨?_, ?_⟩, i64_wf hk, i64_wf hn, hlb, hla, ⟨i64_wf hck, i64_wf hks, i64_wf hcck, hl⟩⟩⟩
  · rw [vals_len] at heb; exact Nat.le_trans heb (by decide)
  · rw [vals_len] at hea; exact Nat.le_trans hea (by decide)

theorem evs_in {vs : List V} (h : Shp tt 8 55 vs) : ∃ l : List Evt, argV tt 55 vs = .sl 12 (evs l) false ∧ ∀ e ∈ l, EvtIn e := by
  obtain ⟨es, _, g1, rfl⟩ := h
  obtain ⟨l, rfl, hl⟩ := evs_of fun x hx => ev_cells (g1 x hx)
  exact ⟨l, rfl, hl⟩

theorem lists_in {vs : List V} (h : Shp tt 8 31 vs) : ∃ l : List Rw, argV tt 31 vs = .sl 1 (rws l) false ∧ ∀ r ∈ l, ∀ v ∈ r, ValIn v := by
  obtain ⟨es, _, g1, rfl⟩ := h
  obtain ⟨l, rfl, hl⟩ := rows_of fun x hx => by
    obtain ⟨es, _, g2, rfl⟩ := g1 x hx
    obtain ⟨l, rfl, hl⟩ := evals_of fun x hx => by
      obtain ⟨_, _, ⟨k, hk, rfl⟩, ⟨_, _, ⟨n, hn, rfl⟩, ⟨_, _, ⟨s, hs, rfl⟩, rfl, rfl⟩, rfl⟩, rfl⟩ := g2 x hx
      exact ⟨k, n, s, rfl, i64_wf hk, i64_wf hn, hs⟩
    exact ⟨l, rfl, hl⟩
  exact ⟨l, rfl, hl⟩

theorem evx_in {e : Evt} (h : EvtIn e) : EvX e := ⟨fun v hv => Nat.lt_of_le_of_lt (h.vb v hv).t (by decide), fun v hv => Nat.lt_of_le_of_lt (h.va v hv).t (by decide)⟩

/-- the table of a schema that was made to be one -/
def gT (l : List Col) (keys : Int) : Tb := ⟨[116], goodL nameOk l keys, goodK nameOk l keys⟩

theorem gT_ok {l : List Col} {keys : Int} (hl : ∀ c ∈ l, I64 c.k) (hk : I64 keys) : mayS (gT l keys).c (gT l keys).k = true ∧ TbK (gT l keys) ∧ ∀ c ∈ (gT l keys).c, 1 ≤ c.k ∧ c.k ≤ 4 := by
  have hm := good_may hl hk
  have hb := may_bd hm
  refine ⟨hm, ⟨hb.1, hb.2.2.1, hb.2.2.2⟩, fun c hc => ?_⟩
  have := ((good_names hl keys).2 c hc).2
  unfold kindOk at this
  rw [Bool.and_eq_true, decide_eq_true_eq, decide_eq_true_eq] at this
  exact this

theorem open_rows {b : Tb} {rows : List Rw} {size num : Int} (hb : TbK b) (hm : mayS b.c b.k = true) (hn : nameOk b.n = true) (hr : RowsOk b rows) (hs : (rows.length : Int) ≤ size) (h0 : 0 ≤ num) :
    openS nameOk mayS (shutW size) num b [] rows = (⟨size, true, num, b, [], lastK b [] rows, decide ((rows.length : Int) < size), false, rows⟩, 0) ∧ openOk nameOk mayS size num b rows = true := by
  have ho : openOk nameOk mayS size num b rows = true := by
    unfold openOk
    rw [hm, hn, show decide (num < 0) = false from decide_eq_false (by omega), show decide (size < (rows.length : Int)) = false from decide_eq_false (by omega)]
    rfl
  have hrise := rise_some (t := b) (after := []) hr.srt fun r h => ⟨hr.fit r h, hr.pos hb r h⟩
  rcases open_cases nameOk mayS size num b [] rows with hc | ⟨fin, g1, g2, hc⟩
  · exfalso
    have e : openS nameOk mayS (shutW size) num b [] rows = ((⟨size, true, num, b, [], lastK b [] rows, decide ((rows.length : Int) < size), false, rows⟩ : WS), (0 : Int)) := by
      show (if false = true then _ else if openOk nameOk mayS size num b rows = true then _ else _) = _
      rw [if_neg (by simp), if_pos ho, hrise]
      rfl
    rw [e] at hc
    have := congrArg Prod.snd hc
    simp at this
  · rw [hrise] at g1
    cases g1
    exact ⟨hc, ho⟩

def alterE (c : Chg) (t : List UInt8) : Evt := ⟨6, 0, [], [], [], { c with t := t }⟩

theorem alter_sub (c : Chg) (t : List UInt8) : VSub (.agg [.int .i64 6, .int .i64 0, .str [], .nils, .nils, .int .i64 c.k, .str t, .sl 3 (cols c.c) false, .int .i64 c.ks, .str c.col.n, .int .i64 c.col.k, .bool c.col.o]) (evA (alterE c t)) :=
  .agg (.cons (.refl _) (.cons (.refl _) (.cons (.refl _) (.cons (nils_sl3 false) (.cons (nils_sl3 false) (VSubs.refl _))))))

theorem alter_x (c : Chg) (t : List UInt8) : EvX (alterE c t) := ⟨textsOk_nil, textsOk_nil⟩

theorem WShutN_spec {w : WS} {t : Tr Rw} {n num : Int} {m : Nat} (hn : w.num = num) (hw : WOk w t n m) (hm : m < 1000000) (hl : ∀ r ∈ w.rows, r.length < 1000000)
    (h : Q (if w.sp then .tup [.sl 1 (rws []) false, .agg [.str [], .bool false, .str []], .bool false, fI 0] else .tup [.sl 1 (rws w.rows) false, .agg [.str w.t.n, .bool w.last, .str (if w.last then [] else w.fin)], .bool true, fI 0]) (shutH w.size)) :
    ACall Tryd.prog 27 1 [.ptr 0 0, fI num] (openH w t n) Q := by
  subst hn
  exact WShut1_spec hw hm hl h

set_option maxHeartbeats 16000000 in
theorem WindowSpoils_spec {l : List Col} {keys : Int} {R : List Rw} {c : Chg} {E : List Evt} (hl : ∀ c ∈ l, I64 c.k) (hk : I64 keys) (hE : ∀ e ∈ E, EvX e) :
    ACall Tryd.prog 7 0 [sch l keys, .sl 1 (rws R) false, chA c, .sl 12 (evs E) false] [] (fun v _ => v = .bool true) := by
  refine by_body Tryd.func7 0 rfl (Nat.le_of_ble_eq_true rfl) ?_
  have hle := evs_len E
  conv => whnf
  refine .pure (RGood_spec (l := l) (keys := keys) hk ⟨rfl, ?_⟩)
  conv => whnf
  obtain ⟨hm, hb, hkinds⟩ := gT_ok hl hk
  obtain ⟨hok, hlen, htx⟩ := rowsN_ok hb hkinds R 5
  refine .pure (RRows13_spec (b := gT l keys) (l := R) (f := false) (most := 5) hb hkinds (by decide) ⟨rfl, ?_⟩)
  generalize rowsN (gT l keys) 5 R = rows at *
  have hrl := rws_len rows
  conv => whnf
  refine .call [] 0 ⟨rfl, rfl, rfl⟩ (WNew_spec ?_)
  conv => whnf
  obtain ⟨hop, hoo⟩ := open_rows (size := 9) (num := 1) hb hm (show nameOk [116] = true by decide) hok (by omega) (by decide)
  refine .call [3] 1 ⟨rfl, rfl, rfl⟩ (WOpen0_spec (size := 9) (num := 1) (b := gT l keys) (after := []) (rows := rows) (by decide) (texts40 htx) (by omega) (fun hx => absurd (by rw [hop]) hx) fun t n _ hw => ?_)
  rw [hop] at hw ⊢
  have hgood : WGood ⟨9, true, 1, gT l keys, [], lastK (gT l keys) [] rows, decide ((rows.length : Int) < 9), false, rows⟩ :=
    open_good (by decide) (rise_some hok.srt fun r h => ⟨hok.fit r h, hok.pos hb r h⟩) hoo (fun hm => by have := may_bd hm; exact ⟨this.1, this.2.2.1, this.2.2.2⟩)
  generalize hwe : (⟨9, true, 1, gT l keys, [], lastK (gT l keys) [] rows, decide ((rows.length : Int) < 9), false, rows⟩ : WS) = w at *
  have wis : w.is = true := by rw [← hwe]
  have wsp : w.sp = false := by rw [← hwe]
  have wn : w.num = 1 := by rw [← hwe]
  have wt : w.t.n = [116] := by rw [← hwe]; rfl
  have wr : w.rows = rows := by rw [← hwe]
  have wrl : ∀ r ∈ w.rows, r.length < 1000000 := fun r hr => by have := hgood.txt r hr; omega
  conv => whnf
  refine .call [3, 4, 5] 2 ⟨rfl, rfl, rfl⟩ (ACall.args (.cons (.refl _) (.cons (alter_sub c [117]) (VSubs.refl _))) (WTake_spec (w := w) (e := alterE c [117]) hgood wis hw (by omega) (alter_x c _) fun t1 n1 w1 => ?_))
  have hts1 : takeS w (alterE c [117]) = (w, 0) := take_alien (fun hh => by rw [wt] at hh; exact absurd hh.2 (by show ¬ ([117] : List UInt8) = [116]; decide)) (fun hh => absurd hh.2.1 (by show ¬ (6 : Int) ≤ 5; decide))
  rw [hts1] at w1 ⊢
  conv => whnf
  refine .call [3, 4, 5] 3 ⟨rfl, rfl, rfl⟩ (WSpoiled1_spec (w := w) ?_)
  rw [wsp]
  conv => whnf
  refine .call [3, 4, 5] 3 ⟨rfl, rfl, rfl⟩ (WLen1_spec w1 (by omega) wrl ?_)
  rw [wr]
  conv => whnf
  rw [hrl, bbT]
  conv => whnf
  refine .call [3, 4, 5] 2 ⟨rfl, rfl, rfl⟩ (ACall.args (.cons (.refl _) (.cons (alter_sub c [116]) (VSubs.refl _))) (WTake_spec (w := w) (e := alterE c [116]) hgood wis w1 (by omega) (alter_x c _) fun t2 n2 w2 => ?_))
  have hts2 : takeS w (alterE c [116]) = (spoilW w, 0) := take_alter wis wsp rfl (by rw [wt]; rfl)
  rw [hts2] at w2 ⊢
  have hgood2 := spoil_good hgood wis
  conv => whnf
  refine ⟨⟨[3, 11, 12, 13], fun m ws H => ∃ (i : Nat) (t : Tr Rw) (n : Int), ws = [.sl 12 (evs E) false, .ptr 0 0, fI 0, fI i] ∧ H = openH (spoilW w) t n ∧ WOk (spoilW w) t n (rows.length + 2 + i) ∧ i ≤ 5 ∧ m = 5 - i,
    .frz 6 (.go [3, 4, 5] rfl 5 (by omega) ⟨0, t2, n2, rfl, rfl, ⟨w2.ok.mono (by omega), w2.eq, w2.may⟩, by omega, rfl⟩), ?_⟩⟩
  clear w2 t2 n2
  rintro m ws H ⟨i, t2, n2, rfl, rfl, w2, hi, rfl⟩
  conv => whnf
  refine branch_i (fun c1 => ?_) (fun c1 => ?_) <;> try rw [c1] <;> conv => whnf
  focus
    refine branch_i (fun c2 => ?_) (fun c2 => ?_) <;> try rw [c2] <;> conv => whnf
    focus
      have c1' := of_decide_eq_true c1
      have c2' := of_decide_eq_true c2
      have hlt : i < E.length := by omega
      have hg : E[i]? = some E[i] := List.getElem?_eq_getElem hlt
      have hex := hE E[i] (List.getElem_mem hlt)
      generalize E[i] = e at *
      refine ⟨_, ⟨by omega, evs_get hg⟩, ?_⟩
      conv => whnf
      refine .call [0, 1, 2] 2 ⟨rfl, rfl, rfl⟩ (WTake_spec (w := spoilW w) (e := e) hgood2 wis w2 (by omega) hex fun t3 n3 w3 => ?_)
      have hts3 : takeS (spoilW w) e = (spoilW w, 0) := by unfold takeS; rw [if_pos (.inr rfl)]
      rw [hts3] at w3 ⊢
      conv => whnf
      refine .go [0, 1, 2] rfl (5 - (i + 1)) (by omega) ⟨i + 1, t3, n3, ?_, rfl, ⟨w3.ok.mono (by omega), w3.eq, w3.may⟩, by omega, rfl⟩
      show [V.sl 12 (evs E) false, V.ptr 0 0, fI 0, V.int .i64 (IntKind.i64.wrap ((i : Int) + 1))] = _
      rw [wrapE (by omega)]; rfl
  all_goals
    refine .call [0, 1, 2] 3 ⟨rfl, rfl, rfl⟩ (WSpoiled1_spec (w := spoilW w) ?_)
    conv => whnf
    refine .call [0, 1, 2] 3 ⟨rfl, rfl, rfl⟩ (WLen1_spec w2 (by omega) (fun r hr => absurd hr List.not_mem_nil) ?_)
    conv => whnf
    refine .call [0, 1, 2] 3 ⟨rfl, rfl, rfl⟩ (WNumber1_spec (w := spoilW w) ?_)
    rw [show (spoilW w).num = 1 from wn]
    conv => whnf
    refine .call [0, 1, 2] 1 ⟨rfl, rfl, rfl⟩ (WShutN_spec (w := spoilW w) (num := 1) wn w2 (by omega) (fun r hr => absurd hr List.not_mem_nil) ?_)
    conv => whnf
    refine .call [0] 1 ⟨rfl, rfl, rfl⟩ (WNumber0_spec ?_)
    conv => whnf
    refine .pure (lives13_spec ⟨rfl, ?_⟩)
    conv => whnf
    exact ⟨[], rfl, rfl⟩

end Go.Proofs.YtgikkoeckdhgkaaDoorPg
