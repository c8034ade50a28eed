/- Own texts, laid together: Pg06DValid, Pg06DValG, Pg06DKeyP, Pg06DEv9, Pg06DEv10, Pg06DValF, Pg06DEv11, Pg06DEv15. -/
import Derived.Test.YtokifgdmddnpoaaDoorPgM18
import Derived.Test.YtokifgdmddnpoaaDoorPgM15
import Derived.Shelf.Unicode.ValidAny
import Derived.Test.YtokifgdmddnpoaaDoorPgM20
import Derived.Test.YtokifgdmddnpoaaDoorPgM13
import Derived.Test.YtokifgdmddnpoaaDoorPgM19
/- utf8.ValidString: the shelf's contract. -/
namespace Go.Proofs.YtokifgdmddnpoaaDoorPg
open Go Go.RowKit
set_option linter.unusedSimpArgs false
set_option linter.unusedVariables false

variable {Q : V → List O → Prop}

theorem ValidString_spec {s : List UInt8} (hs : s.length ≤ 9223372036854775807) (h : Q (.bool (u8 s)) []) : ACall Tryd.prog 113 0 [.str s] [] Q := by
  refine acall_below (r := .bool (u8 s)) (fun I ρ w us hst ha => ?_) h
  obtain ⟨u, us', e1, hu, ht⟩ := ha.cons_inv
  have e2 : us' = [] := List.eq_nil_of_length_eq_zero ht.1.symm
  obtain ⟨b, hb, rfl⟩ := vr_str hu
  subst e2
  have eu : us = #[.string b] := by
    apply Array.ext'
    simpa using e1
  subst eu
  refine ⟨.bool (u8 s), fun _ _ => .bool _ _, ?_⟩
  have hsz : b.size ≤ 9223372036854775807 := by
    have : b.size = s.length := by rw [← hb]; rfl
    omega
  have := Any.utf8_ValidString Tryd.laysValid b w hsz (tabs_of hst)
  rw [hb, valid_u8] at this
  exact this

end Go.Proofs.YtokifgdmddnpoaaDoorPg

/- Values and rows: the program's own functions. -/
namespace Go.Proofs.YtokifgdmddnpoaaDoorPg
open Go Go.RowKit
set_option linter.unusedSimpArgs false
set_option linter.unusedVariables false

variable {Q : V → List O → Prop}

theorem vals_take (vs : List Val) (n : Nat) : List.take n (vals vs) = vals (vs.take n) := by simp [vals, List.map_take]

theorem qb {b b' : Bool} {H : List O} (h : Q (.bool b) H) (e : b = b') : Q (.bool b') H := e ▸ h

set_option maxHeartbeats 4000000 in
theorem VMay_spec {v : Val} (ht : v.t.length < 1000000000000000000) (h : Q (.bool (mayV v)) []) : ACall Tryd.prog 106 0 [valA v] [] Q := by
  refine by_body Tryd.func106 0 rfl (Nat.le_of_ble_eq_true rfl) ?_
  conv => whnf
  refine branch_i (fun c1 => ?_) (fun c1 => ?_) <;> try rw [c1] <;> conv => whnf
  all_goals
    have hc := c1
    refine branch_i (fun k0 => ?_) (fun k0 => ?_) <;> try rw [k0] <;> conv => whnf
    focus
      refine ⟨[], rfl, qb h ?_⟩
      unfold mayV
      rw [if_pos (of_decide_eq_true k0), k0]
      simp
    have k0' := of_decide_eq_false k0
    refine branch_i (fun k1 => ?_) (fun k1 => ?_) <;> try rw [k1] <;> conv => whnf
    focus
      have e : mayV v = (decide (v.t = []) && (decide (v.n = 0) || decide (v.n = 1))) := by unfold mayV; rw [if_neg k0', if_pos (of_decide_eq_true k1)]
      rw [e] at h
      refine branch_i (fun d1 => ?_) (fun d1 => ?_) <;> rw [d1] at h <;> try rw [d1] <;> conv => whnf
      focus exact ⟨[], rfl, qb h (by simp)⟩
      refine branch_i (fun d2 => ?_) (fun d2 => ?_) <;> rw [d2] at h <;> try rw [d2] <;> conv => whnf
      · exact ⟨[], rfl, qb h (by simp)⟩
      · exact ⟨[], rfl, qb h (by simp)⟩
    have k1' := of_decide_eq_false k1
    refine branch_i (fun k2 => ?_) (fun k2 => ?_) <;> try rw [k2] <;> conv => whnf
    focus
      have e : mayV v = decide (v.t = []) := by unfold mayV; rw [if_neg k0', if_neg k1', if_pos (of_decide_eq_true k2)]
      rw [e] at h
      exact ⟨[], rfl, h⟩
    have k2' := of_decide_eq_false k2
    refine branch_i (fun k3 => ?_) (fun k3 => ?_) <;> try rw [k3] <;> conv => whnf
    focus
      have e : mayV v = (u8 v.t && decide (v.n = 0) && decide ((v.t.length : Int) ≤ 4096)) := by unfold mayV; rw [if_neg k0', if_neg k1', if_neg k2', if_pos (of_decide_eq_true k3)]
      rw [e, hc] at h
      first
        | exact ⟨[], rfl, qb h (by simp)⟩
        | (refine branch_i (fun d1 => ?_) (fun d1 => ?_) <;> rw [d1] at h <;> try rw [d1] <;> conv => whnf
           · refine .pure (ValidString_spec (by omega) ⟨rfl, ?_⟩)
             conv => whnf
             exact ⟨[], rfl, qb h (by simp)⟩
           · exact ⟨[], rfl, qb h (by simp)⟩)
    have k3' := of_decide_eq_false k3
    refine branch_i (fun k4 => ?_) (fun k4 => ?_) <;> try rw [k4] <;> conv => whnf
    · have e : mayV v = (decide (v.n = 0) && decide ((v.t.length : Int) ≤ 4096)) := by unfold mayV; rw [if_neg k0', if_neg k1', if_neg k2', if_neg k3', if_pos (of_decide_eq_true k4)]
      rw [e, hc] at h
      exact ⟨[], rfl, qb h (by simp)⟩
    · have e : mayV v = false := by unfold mayV; rw [if_neg k0', if_neg k1', if_neg k2', if_neg k3', if_neg (of_decide_eq_false k4)]
      rw [e] at h
      exact ⟨[], rfl, h⟩

theorem fits_spec {c : Col} {v : Val} (ht : v.t.length < 1000000000000000000) (h : Q (.bool (standsV c v)) []) : ACall Tryd.prog 105 0 [colA c, valA v] [] Q := by
  refine by_body Tryd.func105 0 rfl (Nat.le_of_ble_eq_true rfl) ?_
  conv => whnf
  unfold standsV at h
  refine .pure (VMay_spec ht ⟨rfl, ?_⟩)
  conv => whnf
  cases c1 : mayV v <;> rw [c1] at h <;> conv => whnf
  focus exact ⟨[], rfl, h⟩
  refine branch_i (fun c2 => ?_) (fun c2 => ?_) <;> rw [c2] at h <;> try rw [c2] <;> conv => whnf
  focus exact ⟨[], rfl, h⟩
  refine branch_i (fun c3 => ?_) (fun c3 => ?_) <;> rw [c3] at h <;> try rw [c3] <;> conv => whnf
  all_goals exact ⟨[], rfl, h⟩

theorem begins_spec {l : List Col} {keys : Int} {vs : List Val} {f : Bool} {n : Nat} (hl : l.length ≤ 1000) (hn : n ≤ l.length) (ht : TextsOk vs) (h : Q (.bool (keyOkL l n vs)) []) :
    ACall Tryd.prog 88 0 [sch l keys, .sl 3 (vals vs) f, fI n] [] Q := by
  have hlc := cols_len l
  have hlv := vals_len vs
  refine by_body Tryd.func88 0 rfl (Nat.le_of_ble_eq_true rfl) ?_
  conv => whnf
  refine branch_i (fun c1 => ?_) (fun c1 => ?_) <;> try rw [c1] <;> conv => whnf
  focus
    have c1' := of_decide_eq_true c1
    have e : keyOkL l n vs = false := by unfold keyOkL; rw [decide_eq_false (by omega), Bool.false_and]
    rw [e] at h
    exact ⟨[], rfl, h⟩
  have c1' := of_decide_eq_false c1
  refine ⟨⟨[1, 3, 12, 13], fun m ws H => ∃ i : Nat, ws = [.sl 3 (vals vs) f, .ptr 0 0, fI n, fI i] ∧ H = [.cells [.sl 3 (cols l) false, fI keys]] ∧ standN l vs i ∧ i ≤ n ∧ m = n - i,
    .at n ⟨0, rfl, rfl, fun i c v hi => by omega, Nat.zero_le _, rfl⟩, ?_⟩⟩
  rintro m ws H ⟨i, rfl, rfl, hs, hi, rfl⟩
  conv => whnf
  refine branch_i (fun c2 => ?_) (fun c2 => ?_) <;> try rw [c2] <;> conv => whnf
  focus
    have c2' := of_decide_eq_true c2
    have hi1 : i < l.length := by omega
    have hi2 : i < vs.length := by omega
    have g1 : l[i]? = some l[i] := List.getElem?_eq_getElem hi1
    have g2 : vs[i]? = some vs[i] := List.getElem?_eq_getElem hi2
    have htt := ht vs[i] (List.getElem_mem hi2)
    generalize l[i] = c at *
    generalize vs[i] = v at *
    refine ⟨List.range 11, by kernel_rfl, by kernel_rfl, ?_⟩
    conv => whnf
    refine ⟨_, ⟨by omega, cols_get g1⟩, ?_⟩
    conv => whnf
    refine ⟨_, ⟨by omega, vals_get g2⟩, ?_⟩
    conv => whnf
    refine .pure (fits_spec (c := c) (v := v) htt ⟨rfl, ?_⟩)
    conv => whnf
    cases e : standsV c v
    · conv => whnf
      rw [keyOk_no (by omega) g1 g2 e] at h
      exact ⟨[], rfl, h⟩
    · conv => whnf
      refine .go [0] rfl (n - (i + 1)) (by omega) ⟨i + 1, ?_, rfl, fun j c' v' hj hc' hv' => ?_, by omega, rfl⟩
      · show [V.sl 3 (vals vs) f, V.ptr 0 0, fI n, V.int .i64 (IntKind.i64.wrap ((i : Int) + 1))] = _
        rw [wrapI (by omega)]; rfl
      · rcases Nat.lt_or_ge j i with h1 | h1
        · exact hs j c' v' h1 hc' hv'
        · have : j = i := by omega
          subst this
          rw [g1] at hc'; rw [g2] at hv'; cases hc'; cases hv'; exact e
  have c2' := of_decide_eq_false c2
  have hie : i = n := by omega
  subst hie
  rw [keyOk_yes (by omega) hs] at h
  exact ⟨[], rfl, h⟩

theorem Fits_spec {l : List Col} {keys : Int} {vs : List Val} {f : Bool} (hl : l.length ≤ 1000) (ht : TextsOk vs) (h : Q (.bool (fitsL l vs)) []) :
    ACall Tryd.prog 67 0 [sch l keys, .sl 3 (vals vs) f] [] Q := by
  have hlc := cols_len l
  have hlv := vals_len vs
  refine by_body Tryd.func67 0 rfl (Nat.le_of_ble_eq_true rfl) ?_
  conv => whnf
  by_cases e : vs.length = l.length
  rotate_left
  focus
    rw [show decide (((vals vs).length : Int) = ((cols l).length : Int)) = false by simp only [hlv, hlc, decide_eq_false_iff_not]; omega]
    conv => whnf
    have e2 : fitsL l vs = false := by unfold fitsL; rw [decide_eq_false e, Bool.false_and]
    rw [e2] at h
    exact ⟨[], rfl, h⟩
  rw [show decide (((vals vs).length : Int) = ((cols l).length : Int)) = true by simp only [hlv, hlc, decide_eq_true_eq]; omega]
  conv => whnf
  rw [hlv]
  refine .pure (begins_spec hl (by omega) ht ⟨rfl, ?_⟩)
  conv => whnf
  refine ⟨[], rfl, qb h ?_⟩
  unfold fitsL keyOkL
  rw [decide_eq_true e, decide_eq_true (Nat.le_refl _)]

end Go.Proofs.YtokifgdmddnpoaaDoorPg

/- Keys of values: the program's functions. -/
namespace Go.Proofs.YtokifgdmddnpoaaDoorPg
open Go Go.RowKit
set_option linter.unusedSimpArgs false
set_option linter.unusedVariables false

variable {Q : V → List O → Prop}

set_option maxHeartbeats 8000000 in
set_option maxRecDepth 10000 in
theorem key_spec {v : Val} {P : List UInt8} (hP : P.length ≤ 9000000) (hvt : v.t.length ≤ 4096) (h : Q (.ms 1 0 0 (bs (P ++ keyV v)).length false) [.buf (bs (P ++ keyV v))]) :
    ACall Tryd.prog 107 0 [.ms 1 0 0 (bs P).length false, valA v] [.buf (bs P)] Q := by
  refine by_body Tryd.func107 0 rfl (Nat.le_of_ble_eq_true rfl) ?_
  conv => whnf
  refine ⟨Nat.le_refl _, ?_⟩
  conv => whnf
  refine ⟨rfl, ?_⟩
  conv => whnf
  refine ⟨Nat.le_trans (Nat.mul_le_mul_right _ (by rw [List.length_append, List.length_take, List.drop_zero]; exact Nat.add_le_add (show _ ≤ 9000000 by simp only [bs_len, List.length_append, List.length_cons, List.length_nil, List.length_take, List.length_drop]; omega) (Nat.le_trans (Nat.min_le_left _ _) (by decide)))) (show (9000000 + 2) * 1 ≤ 70368744177664 by omega), ?_⟩
  conv => whnf
  by_cases k1 : v.k = 1
  focus
    have hk : keyV v = [b8 v.k, b8 v.n] := by unfold keyV keyT; rw [if_pos k1]
    rw [hk] at h
    rw [show decide (v.k = 1) = true by simp [k1]]
    conv => whnf
    refine ⟨Nat.le_refl _, ?_⟩
    conv => whnf
    refine ⟨rfl, ?_⟩
    conv => whnf
    refine ⟨Nat.le_trans (Nat.mul_le_mul_right _ (by rw [List.length_append, List.length_take, List.drop_zero]; exact Nat.add_le_add (show _ ≤ 9000001 by simp only [bs_len, List.length_append, List.length_cons, List.length_nil, List.length_take, List.length_drop]; omega) (Nat.le_trans (Nat.min_le_left _ _) (by decide)))) (show (9000001 + 2) * 1 ≤ 70368744177664 by omega), ?_⟩
    conv => whnf
    refine ⟨[5], rfl, ?_⟩
    have e : bs (P ++ [b8 v.k, b8 v.n]) = bs P ++ [[V.int .u8 (IntKind.u8.wrap v.k)]] ++ [[V.int .u8 (IntKind.u8.wrap v.n)]] := by simp [bs, b8_wrap]
    rw [e] at h
    exact h
  rw [show decide (v.k = 1) = false by simp [k1]]
  conv => whnf
  by_cases k2 : v.k = 2
  focus
    have hk : keyV v = b8 v.k :: beB (keyM v.n) 8 := by unfold keyV keyT; rw [if_neg k1, if_pos k2]
    rw [hk] at h
    rw [show decide (v.k = 2) = true by simp [k2]]
    conv => whnf
    refine ⟨⟨[0, 3, 25], fun m ws H => ∃ (j : Nat), ws = [.ms 1 1 0 (bs (P ++ b8 v.k :: beB (keyM v.n) j)).length false, .ptr 0 0, fI j] ∧
      H = [.cells (valC v), .buf (bs (P ++ b8 v.k :: beB (keyM v.n) j))] ∧ j ≤ 8 ∧ m = 8 - j, .frz 9 (.go [1, 3] rfl 8 (by omega) ⟨0, ?_, ?_, by omega, rfl⟩), ?_⟩⟩
    · show [V.ms 1 1 0 (bs P ++ [[V.int .u8 (IntKind.u8.wrap v.k)]]).length false, V.ptr 0 0, fI 0] = _
      simp [bs, beB]
    · show [O.cells (valC v), O.buf (bs P ++ [[V.int .u8 (IntKind.u8.wrap v.k)]])] = _
      simp [bs, beB, b8_wrap]
    rintro m ws H ⟨j, rfl, rfl, hj, rfl⟩
    conv => whnf
    have hbl := beB_len (keyM v.n) j
    refine branch_i (fun d1 => ?_) (fun d1 => ?_) <;> try rw [d1] <;> conv => whnf
    rotate_left
    focus
      have d1' := of_decide_eq_false d1
      have hj8 : j = 8 := by omega
      subst hj8
      exact ⟨[1], rfl, h⟩
    have d1' := of_decide_eq_true d1
    refine ⟨(by rw [IntKind.wrap_i64, IntKind.wrap_i64]; omega), ?_⟩
    conv => whnf
    refine ⟨Nat.le_refl _, ?_⟩
    conv => whnf
    refine ⟨rfl, ?_⟩
    conv => whnf
    refine ⟨Nat.le_trans (Nat.mul_le_mul_right _ (by rw [List.length_append, List.length_take, List.drop_zero]; exact Nat.add_le_add (show _ ≤ 9000009 by simp only [bs_len, List.length_append, List.length_cons, List.length_nil, List.length_take, List.length_drop]; omega) (Nat.le_trans (Nat.min_le_left _ _) (by decide)))) (show (9000009 + 2) * 1 ≤ 70368744177664 by omega), ?_⟩
    conv => whnf
    have hby := byte_eq v.n j (by omega)
    refine .go [0, 3] rfl (8 - (j + 1)) (by omega) ⟨j + 1, ?_, ?_, by omega, rfl⟩
    · show [V.ms 1 1 0 (bs (P ++ b8 v.k :: beB (keyM v.n) j) ++ [[V.int .u8 (IntKind.u8.wrap _)]]).length false, V.ptr 0 0, V.int .i64 (IntKind.i64.wrap ((j : Int) + 1))] = _
      rw [wrapI (n := (j : Int) + 1) (by omega)]; simp [bs, beB]
    · show [O.cells (valC v), O.buf (bs (P ++ b8 v.k :: beB (keyM v.n) j) ++ [[V.int .u8 (IntKind.u8.wrap _)]])] = _
      rw [b8_wrap, xor_keyB, hby]
      simp [bs, beB]
  rw [show decide (v.k = 2) = false by simp [k2]]
  conv => whnf
  by_cases k34 : v.k = 3 ∨ v.k = 4
  rotate_left
  focus
    have hk : keyV v = [b8 v.k] := by unfold keyV keyT; rw [if_neg k1, if_neg k2, if_neg k34]
    rw [hk] at h
    rw [show decide (v.k = 3) = false by simp; omega]
    conv => whnf
    rw [show decide (v.k = 4) = false by simp; omega]
    conv => whnf
    refine ⟨[3], rfl, ?_⟩
    have e : bs (P ++ [b8 v.k]) = bs P ++ [[V.int .u8 (IntKind.u8.wrap v.k)]] := by simp [bs, b8_wrap]
    rw [e] at h
    exact h
  have hk : keyV v = b8 v.k :: (escL v.t ++ [0, 1]) := by unfold keyV keyT; rw [if_neg k1, if_neg k2, if_pos k34]
  rw [hk] at h
  by_cases k3 : v.k = 3
  focus
    rw [show decide (v.k = 3) = true by simp [k3]]
    conv => whnf
  rotate_left
  focus
    rw [show decide (v.k = 3) = false by simp [k3]]
    conv => whnf
    rw [show decide (v.k = 4) = true by simp; omega]
    conv => whnf
  all_goals
    refine ⟨⟨[0, 3, 46, 47], fun m ws H => ∃ (j : Nat), ws = [.ms 1 1 0 (bs (P ++ b8 v.k :: escL (v.t.take j))).length false, .ptr 0 0, fI v.t.length, fI j] ∧
      H = [.cells (valC v), .buf (bs (P ++ b8 v.k :: escL (v.t.take j)))] ∧ j ≤ v.t.length ∧ m = v.t.length - j, .frz (v.t.length + 1) (.go [1, 3] rfl v.t.length (by omega) ⟨0, ?_, ?_, by omega, rfl⟩), ?_⟩⟩
    · show [V.ms 1 1 0 (bs P ++ [[V.int .u8 (IntKind.u8.wrap v.k)]]).length false, V.ptr 0 0, fI v.t.length, fI 0] = _
      simp [bs, escL]
    · show [O.cells (valC v), O.buf (bs P ++ [[V.int .u8 (IntKind.u8.wrap v.k)]])] = _
      simp [bs, escL, b8_wrap]
    rintro m ws H ⟨j, rfl, rfl, hj, rfl⟩
    conv => whnf
    have hel := escL_len (v.t.take j)
    rw [List.length_take] at hel
    refine branch_i (fun d1 => ?_) (fun d1 => ?_) <;> try rw [d1] <;> conv => whnf
    focus
      have d1' := of_decide_eq_true d1
      have hjl : j < v.t.length := by omega
      have hgb : v.t[j]? = some v.t[j] := List.getElem?_eq_getElem hjl
      generalize v.t[j] = b at *
      have hes := escL_snoc hgb
      refine ⟨b, ⟨by omega, hgb⟩, ?_⟩
      conv => whnf
      refine ⟨Nat.le_refl _, ?_⟩
      conv => whnf
      refine ⟨rfl, ?_⟩
      conv => whnf
      refine ⟨Nat.le_trans (Nat.mul_le_mul_right _ (by rw [List.length_append, List.length_take, List.drop_zero]; exact Nat.add_le_add (show _ ≤ 9010000 by simp only [bs_len, List.length_append, List.length_cons, List.length_nil, List.length_take, List.length_drop]; omega) (Nat.le_trans (Nat.min_le_left _ _) (by decide)))) (show (9010000 + 2) * 1 ≤ 70368744177664 by omega), ?_⟩
      conv => whnf
      refine ⟨b, ⟨by omega, hgb⟩, ?_⟩
      conv => whnf
      by_cases hb : b = 0
      · subst hb
        conv => whnf
        refine ⟨Nat.le_refl _, ?_⟩
        conv => whnf
        refine ⟨rfl, ?_⟩
        conv => whnf
        refine ⟨Nat.le_trans (Nat.mul_le_mul_right _ (by rw [List.length_append, List.length_take, List.drop_zero]; exact Nat.add_le_add (show _ ≤ 9010001 by simp only [bs_len, List.length_append, List.length_cons, List.length_nil, List.length_take, List.length_drop]; omega) (Nat.le_trans (Nat.min_le_left _ _) (by decide)))) (show (9010001 + 2) * 1 ≤ 70368744177664 by omega), ?_⟩
        conv => whnf
        have he : escB 0 = [0, 255] := rfl
        rw [he] at hes
        refine .go [0, 5] rfl (v.t.length - (j + 1)) (by omega) ⟨j + 1, ?_, ?_, by omega, rfl⟩
        · show [V.ms 1 1 0 (bs (P ++ b8 v.k :: escL (v.t.take j)) ++ [[V.int .u8 ((0 : UInt8).toNat : Int)]] ++ [[V.int .u8 255]]).length false, V.ptr 0 0, fI v.t.length, V.int .i64 (IntKind.i64.wrap ((j : Int) + 1))] = _
          rw [wrapI (n := (j : Int) + 1) (by omega), hes]; simp [bs]
        · show [O.cells (valC v), O.buf (bs (P ++ b8 v.k :: escL (v.t.take j)) ++ [[V.int .u8 ((0 : UInt8).toNat : Int)]] ++ [[V.int .u8 255]])] = _
          rw [hes]; simp [bs]
      · have hb' : ¬ (b.toNat : Int) = 0 := fun e => hb (by
          have : b.toNat = 0 := by omega
          exact UInt8.toNat_inj.1 (by rw [this]; rfl))
        rw [show decide ((b.toNat : Int) = 0) = false by simp only [hb', decide_false]]
        conv => whnf
        have he : escB b = [b] := by unfold escB; rw [if_neg hb]
        rw [he] at hes
        refine .go [0, 3] rfl (v.t.length - (j + 1)) (by omega) ⟨j + 1, ?_, ?_, by omega, rfl⟩
        · show [V.ms 1 1 0 (bs (P ++ b8 v.k :: escL (v.t.take j)) ++ [[V.int .u8 (b.toNat : Int)]]).length false, V.ptr 0 0, fI v.t.length, V.int .i64 (IntKind.i64.wrap ((j : Int) + 1))] = _
          rw [wrapI (n := (j : Int) + 1) (by omega), hes]; simp [bs]
        · show [O.cells (valC v), O.buf (bs (P ++ b8 v.k :: escL (v.t.take j)) ++ [[V.int .u8 (b.toNat : Int)]])] = _
          rw [hes]; simp [bs]
    have d1' := of_decide_eq_false d1
    have hjt : j = v.t.length := by omega
    subst hjt
    rw [List.take_length] at hel ⊢
    refine ⟨Nat.le_refl _, ?_⟩
    conv => whnf
    refine ⟨rfl, ?_⟩
    conv => whnf
    refine ⟨Nat.le_trans (Nat.mul_le_mul_right _ (by rw [List.length_append, List.length_take, List.drop_zero]; exact Nat.add_le_add (show _ ≤ 9010000 by simp only [bs_len, List.length_append, List.length_cons, List.length_nil, List.length_take, List.length_drop]; omega) (Nat.le_trans (Nat.min_le_left _ _) (by decide)))) (show (9010000 + 2) * 1 ≤ 70368744177664 by omega), ?_⟩
    conv => whnf
    refine ⟨[3], rfl, ?_⟩
    have e : bs (P ++ b8 v.k :: (escL v.t ++ [0, 1])) = bs (P ++ b8 v.k :: escL v.t) ++ [[V.int .u8 0], [V.int .u8 1]] := by simp [bs]
    rw [e] at h
    exact h

set_option maxHeartbeats 8000000 in
set_option maxRecDepth 10000 in
theorem Key_spec {l : List Val} {f : Bool} (hl : l.length ≤ 1000) (ht : TextsOk l) (h : Q (if l.all mayV then .tup [.str (keyS l), fI 0] else .tup [.str [], fI 1]) []) : ACall Tryd.prog 89 0 [.sl 3 (vals l) f] [] Q := by
  have hlv := vals_len l
  refine by_body Tryd.func89 0 rfl (Nat.le_of_ble_eq_true rfl) ?_
  conv => whnf
  refine ⟨⟨[4, 7, 8, 9], fun m ws H => ∃ i : Nat, ws = [.ms 1 0 0 (bs (keyS (l.take i))).length false, .sl 3 (vals l) f, fI l.length, fI i] ∧ H = [.buf (bs (keyS (l.take i)))] ∧ i ≤ l.length ∧ (∀ v ∈ l.take i, mayV v = true) ∧ m = l.length - i,
    .frz (l.length + 1) (.adopt (.sub _ _ (.cons (ms0_row 1 0) (VSubs.refl _)) (HSub.refl _) (.go [0] rfl l.length (by omega) ⟨0, ?_, rfl, by omega, by simp, rfl⟩))), ?_⟩⟩
  · show [V.ms 1 0 0 0 false, V.sl 3 (vals l) f, fI (vals l).length, fI 0] = _
    rw [hlv]; simp [keyS, bs]
  rintro m ws H ⟨i, rfl, rfl, hi, hm, rfl⟩
  conv => whnf
  refine branch_i (fun c1 => ?_) (fun c1 => ?_) <;> try rw [c1] <;> conv => whnf
  rotate_left
  focus
    have c1' := of_decide_eq_false c1
    have hie : l.take i = l := List.take_of_length_le (by omega)
    rw [hie] at hm ⊢
    rw [if_pos (List.all_eq_true.2 hm)] at h
    refine ⟨(by omega : 0 + (bs (keyS l)).length ≤ (bs (keyS l)).length), keyS l, ?_, ?_⟩
    · show bytesOfEs (List.take (bs (keyS l)).length (List.drop 0 (bs (keyS l)))) = _
      rw [List.drop_zero, List.take_length]; exact bytesOfEs_bs _
    conv => whnf
    exact ⟨[], rfl, h⟩
  have c1' := of_decide_eq_true c1
  have hlt : i < l.length := by omega
  have hg : l[i]? = some l[i] := List.getElem?_eq_getElem hlt
  have hvt := ht l[i] (List.getElem_mem hlt)
  have hmem : l[i] ∈ l := List.getElem_mem hlt
  generalize l[i] = v at *
  have hsn := keyS_snoc hg
  have hP : (keyS (l.take i)).length ≤ 9000000 := Nat.le_trans (keyS_len fun w hw => may_text (hm w hw)) (by rw [List.length_take]; omega)
  have htk : l.take (i + 1) = l.take i ++ [v] := by rw [List.take_add_one, hg]; rfl
  refine ⟨_, ⟨by omega, vals_get hg⟩, ?_⟩
  conv => whnf
  refine .pure (VMay_spec hvt ⟨rfl, ?_⟩)
  conv => whnf
  cases hmv : mayV v
  · conv => whnf
    rw [if_neg (by rw [List.all_eq_true]; intro hx; have := hx v hmem; rw [hmv] at this; cases this)] at h
    exact ⟨[], rfl, h⟩
  conv => whnf
  refine .call [0] 0 ⟨rfl, rfl, rfl⟩ (key_spec hP (may_text hmv) ?_)
  rw [← hsn]
  conv => whnf
  refine .go [0] rfl (l.length - (i + 1)) (by omega) ⟨i + 1, ?_, rfl, by omega, ?_, rfl⟩
  · show [V.ms 1 0 0 (bs (keyS (l.take (i + 1)))).length false, V.sl 3 (vals l) f, fI l.length, V.int .i64 (IntKind.i64.wrap ((i : Int) + 1))] = _
    rw [wrapI (by omega)]; rfl
  · rw [htk]
    intro w hw
    rcases List.mem_append.1 hw with h1 | h1
    · exact hm w h1
    · simp at h1; subst h1; exact hmv

theorem keyOk_may {l : List Col} {keys : Nat} {vs : List Val} (hk : keys ≤ l.length) (h : keyOkL l keys vs = true) : keys ≤ vs.length ∧ (vs.take keys).all mayV = true := by
  unfold keyOkL at h
  rw [Bool.and_eq_true, decide_eq_true_eq, List.all_eq_true] at h
  refine ⟨h.1, List.all_eq_true.2 fun v hv => ?_⟩
  obtain ⟨i, hi⟩ := List.mem_iff_getElem?.1 hv
  have hlt := (List.getElem?_eq_some_iff.1 hi).1
  rw [List.length_take] at hlt
  rw [List.getElem?_take_of_lt (by omega)] at hi
  have := h.2 i (List.mem_range.2 (by omega))
  rw [stAt_some (List.getElem?_eq_getElem (show i < l.length by omega)) hi] at this
  unfold standsV at this
  rw [Bool.and_eq_true] at this
  exact this.1

set_option maxHeartbeats 4000000 in
theorem SKey_spec {l : List Col} {keys : Nat} {vs : List Val} {f : Bool} (hl : l.length ≤ 1000) (hk : keys ≤ l.length) (ht : TextsOk vs) (h : Q (keyR l keys vs) []) :
    ACall Tryd.prog 68 0 [sch l keys, .sl 3 (vals vs) f] [] Q := by
  have hlv := vals_len vs
  refine by_body Tryd.func68 0 rfl (Nat.le_of_ble_eq_true rfl) ?_
  conv => whnf
  unfold keyR at h
  refine .pure (begins_spec hl hk ht ⟨rfl, ?_⟩)
  conv => whnf
  cases e : keyOkL l keys vs <;> rw [e] at h <;> conv => whnf
  focus exact ⟨[], rfl, h⟩
  obtain ⟨e1, e2⟩ := keyOk_may hk e
  refine ⟨⟨by omega, by omega⟩, ?_⟩
  conv => whnf
  rw [show List.take (keys : Int).toNat (vals vs) = vals (vs.take keys) from vals_take vs keys]
  refine .pure (Key_spec (by rw [List.length_take]; omega) (fun v hv => ht v (List.mem_of_mem_take hv)) ⟨rfl, ?_⟩)
  rw [e2]
  conv => whnf
  exact ⟨[], rfl, h⟩

end Go.Proofs.YtokifgdmddnpoaaDoorPg

/- May an event be: the program's function. -/
namespace Go.Proofs.YtokifgdmddnpoaaDoorPg
open Go Go.RowKit
set_option linter.unusedSimpArgs false
set_option linter.unusedVariables false

variable {Q : V → List O → Prop}

/-- tables that stand, short enough -/
structure TbsB (l : List Tb) : Prop where
  ok : TbsOk nameOk mayS l
  few : l.length ≤ 64

theorem TbsB.cols {l : List Tb} (h : TbsB l) : ∀ x ∈ l, x.c.length ≤ 16 := fun x hx => (may_bd (h.ok.each x hx).sch).2.2.2

theorem findT_in {l : List Tb} {n : List UInt8} {C : List Col} {K : Int} (h : findT l n = some (C, K)) : ∃ x ∈ l, x.c = C ∧ x.k = K := by
  unfold findT at h
  cases ha : atT l n with
  | none => rw [ha] at h; cases h
  | some j =>
    rw [ha] at h
    cases hj : l[j]? with
    | none => simp only [Option.bind, hj] at h; cases h
    | some x => simp only [Option.bind, hj] at h; cases h; exact ⟨x, List.mem_of_getElem? hj, rfl, rfl⟩

theorem TbsB.found {l : List Tb} (h : TbsB l) {n : List UInt8} {C : List Col} {K : Int} (hf : findT l n = some (C, K)) : mayS C K = true ∧ C.length ≤ 16 ∧ ∃ k : Nat, K = k ∧ k ≤ C.length := by
  obtain ⟨x, hx, rfl, rfl⟩ := findT_in hf
  have hm := (h.ok.each x hx).sch
  have := may_bd hm
  exact ⟨hm, this.2.2.2, x.k.toNat, by omega, by omega⟩

/-- the texts of an event -/
structure EvtT (e : Evt) : Prop where
  b : TextsOk e.b
  a : TextsOk e.a
  lb : e.b.length < 9223372036854775808
  la : e.a.length < 9223372036854775808
  lc : e.ch.c.length < 1000000

def rowFit (e : Evt) (C : List Col) (K : Int) : Bool := if e.k = 5 then keyOkL C K.toNat e.b && decide ((e.b.length : Int) = K) else fitsL C e.a
def rowBare (e : Evt) : Bool := if e.k = 5 then decide (e = ⟨e.k, 0, e.t, e.b, [], chg0⟩) else decide (e = ⟨e.k, 0, e.t, [], e.a, chg0⟩)
def rowE (e : Evt) (l : List Tb) : Int := match findT l e.t with
  | none => 7
  | some (C, K) => if rowFit e C K = false then 9 else if rowBare e = false then 1 else 0

theorem row_sub5 (k : Int) (t : List UInt8) (b : List Val) : VSub (.agg [.int .i64 k, .int .i64 0, .str t, .sl 3 (vals b) false, .nils, .int .i64 0, .str [], .nils, .int .i64 0, .str [], .int .i64 0, .bool false]) (evA ⟨k, 0, t, b, [], chg0⟩) :=
  .agg (.cons (.refl _) (.cons (.refl _) (.cons (.refl _) (.cons (.refl _) (.cons (nils_sl3 false) (.cons (.refl _) (.cons (.refl _) (.cons (nils_sl3 false) (VSubs.refl _)))))))))
theorem row_sub (k : Int) (t : List UInt8) (a : List Val) : VSub (.agg [.int .i64 k, .int .i64 0, .str t, .nils, .sl 3 (vals a) false, .int .i64 0, .str [], .nils, .int .i64 0, .str [], .int .i64 0, .bool false]) (evA ⟨k, 0, t, [], a, chg0⟩) :=
  .agg (.cons (.refl _) (.cons (.refl _) (.cons (.refl _) (.cons (nils_sl3 false) (.cons (.refl _) (.cons (.refl _) (.cons (.refl _) (.cons (nils_sl3 false) (VSubs.refl _)))))))))

set_option maxHeartbeats 16000000 in
theorem EvRow_spec {e : Evt} {l : List Tb} (hl : TbsB l) (he : EvtT e) (h : Q (fI (rowE e l)) []) : ACall Tryd.prog 37 0 [evA e, .sl 3 (tbs l) false] [] Q := by
  refine by_body Tryd.func37 0 rfl (Nat.le_of_ble_eq_true rfl) ?_
  conv => whnf
  have hc := hl.cols
  refine .pure (EvFind_spec (by have := hl.few; omega) hl.ok.sorted (fun x hx => by have := hc x hx; omega) ⟨rfl, ?_⟩)
  unfold rowE at h
  unfold findR
  cases hf : findT l e.t with
  | none =>
    rw [hf] at h
    conv => whnf
    change Q (fI 7) [] at h
    refine branch_i (fun k5 => ?_) (fun k5 => ?_) <;> try rw [k5] <;> conv => whnf
    · refine .pure (SKey_spec (l := []) (keys := 0) (vs := e.b) (by decide) (by decide) he.b ⟨rfl, ?_⟩)
      unfold keyR
      rw [show keyOkL [] 0 e.b = true by unfold keyOkL; simp]
      conv => whnf
      exact ⟨[], rfl, h⟩
    · exact ⟨[], rfl, h⟩
  | some o =>
    obtain ⟨C, K⟩ := o
    rw [hf] at h
    obtain ⟨hm, hC, k, rfl, hk⟩ := hl.found hf
    change Q (fI (if rowFit e C k = false then 9 else if rowBare e = false then 1 else 0)) [] at h
    conv => whnf
    refine .pure (Fits_spec (l := C) (keys := (k : Int)) (vs := e.a) (by omega) he.a ⟨rfl, ?_⟩)
    conv => whnf
    refine branch_i (fun k5 => ?_) (fun k5 => ?_) <;> try rw [k5] <;> conv => whnf
    · have k5' : e.k = 5 := of_decide_eq_true k5
      have hF : rowFit e C k = (keyOkL C k e.b && decide ((e.b.length : Int) = (k : Int))) := by unfold rowFit; rw [if_pos k5']; rfl
      have hB : rowBare e = decide (e = ⟨e.k, 0, e.t, e.b, [], chg0⟩) := by unfold rowBare; rw [if_pos k5']
      refine .pure (SKey_spec (l := C) (keys := k) (vs := e.b) (by omega) hk he.b ⟨rfl, ?_⟩)
      unfold keyR
      cases hko : keyOkL C k e.b <;> rw [hko] at hF <;> conv => whnf
      · rw [hF] at h
        exact ⟨[], rfl, h⟩
      rw [show (((vals e.b).length : Nat) : Int) = (e.b.length : Int) by rw [vals_len]]
      cases k6 : decide ((e.b.length : Int) = (k : Int)) <;> rw [k6] at hF <;> conv => whnf
      · rw [hF] at h
        exact ⟨[], rfl, h⟩
      rw [hF, if_neg (by simp)] at h
      refine .pure (ACall.args (.cons (.refl _) (.cons (row_sub5 _ _ _) (VSubs.refl _))) (EvSame_spec (a := e) (b := ⟨e.k, 0, e.t, e.b, [], chg0⟩) he.lb he.la he.lc ⟨rfl, ?_⟩))
      rw [← hB]
      cases hb : rowBare e <;> rw [hb] at h <;> conv => whnf
      · exact ⟨[], rfl, h⟩
      · exact ⟨[], rfl, h⟩
    · have k5' : ¬ e.k = 5 := of_decide_eq_false k5
      have hF : rowFit e C k = fitsL C e.a := by unfold rowFit; rw [if_neg k5']
      have hB : rowBare e = decide (e = ⟨e.k, 0, e.t, [], e.a, chg0⟩) := by unfold rowBare; rw [if_neg k5']
      rw [hF] at h
      cases hfi : fitsL C e.a <;> rw [hfi] at h <;> conv => whnf
      · exact ⟨[], rfl, h⟩
      rw [if_neg (by simp)] at h
      refine .pure (ACall.args (.cons (.refl _) (.cons (row_sub _ _ _) (VSubs.refl _))) (EvSame_spec (a := e) (b := ⟨e.k, 0, e.t, [], e.a, chg0⟩) he.lb he.la he.lc ⟨rfl, ?_⟩))
      rw [← hB]
      cases hb : rowBare e <;> rw [hb] at h <;> conv => whnf
      · exact ⟨[], rfl, h⟩
      · exact ⟨[], rfl, h⟩


/-! ### May -/
def bare6 (e : Evt) : Bool := decide (e = ⟨e.k, 0, [], [], [], e.ch⟩)
def bareN (e : Evt) : Bool := decide (e = ⟨e.k, e.n, [], [], [], chg0⟩)
def mayE (e : Evt) (l : List Tb) : Int :=
  if rowK e.k then rowE e l
  else if e.k = 6 then (if chgE e.ch ≠ 0 then chgE e.ch else if decide (e.n < 0) || !bare6 e then 1 else 0)
  else if numK e.k then (if decide (e.n < 0) || !bareN e then 1 else 0) else 5

theorem may_sub6 (k n : Int) (c : Chg) : VSub (.agg [.int .i64 k, .int .i64 n, .str [], .nils, .nils, .int .i64 c.k, .str c.t, .sl 3 (cols c.c) false, .int .i64 c.ks, .str c.col.n, .int .i64 c.col.k, .bool c.col.o]) (evA ⟨k, n, [], [], [], c⟩) :=
  .agg (.cons (.refl _) (.cons (.refl _) (.cons (.refl _) (.cons (nils_sl3 false) (.cons (nils_sl3 false) (VSubs.refl _))))))
theorem may_subN (k n : Int) : VSub (.agg [.int .i64 k, .int .i64 n, .str [], .nils, .nils, .int .i64 0, .str [], .nils, .int .i64 0, .str [], .int .i64 0, .bool false]) (evA ⟨k, n, [], [], [], chg0⟩) :=
  .agg (.cons (.refl _) (.cons (.refl _) (.cons (.refl _) (.cons (nils_sl3 false) (.cons (nils_sl3 false) (.cons (.refl _) (.cons (.refl _) (.cons (nils_sl3 false) (VSubs.refl _)))))))))

set_option maxHeartbeats 16000000 in
theorem EvMay_spec {e : Evt} {l : List Tb} (hl : TbsB l) (he : EvtT e) (h : Q (fI (mayE e l)) []) : ACall Tryd.prog 19 0 [evA e, .sl 3 (tbs l) false] [] Q := by
  refine by_body Tryd.func19 0 rfl (Nat.le_of_ble_eq_true rfl) ?_
  conv => whnf
  unfold mayE at h
  refine .pure (rowed_spec ⟨rfl, ?_⟩)
  conv => whnf
  cases hr : rowK e.k <;> rw [hr] at h <;> conv => whnf
  rotate_left
  · refine .pure (EvRow_spec hl he ⟨rfl, ?_⟩)
    conv => whnf
    exact ⟨[], rfl, h⟩
  rw [if_neg (by simp)] at h
  refine branch_i (fun k6 => ?_) (fun k6 => ?_) <;> try rw [k6] <;> conv => whnf
  · rw [if_pos (of_decide_eq_true k6)] at h
    refine .pure (EvChange_spec (c := e.ch) he.lc ⟨rfl, ?_⟩)
    conv => whnf
    refine branch_i (fun k0 => ?_) (fun k0 => ?_) <;> try rw [k0] <;> conv => whnf
    · rw [if_pos (by simpa using k0)] at h
      exact ⟨[], rfl, h⟩
    · rw [if_neg (by simpa using k0)] at h
      refine ⟨List.range 6, by kernel_rfl, by kernel_rfl, ?_⟩
      repeat (conv => whnf
              refine ⟨rfl, ?_⟩)
      conv => whnf
      refine branch_i (fun kn => ?_) (fun kn => ?_) <;> rw [kn] at h <;> try rw [kn] <;> conv => whnf
      · exact ⟨[], rfl, h⟩
      refine .pure (ACall.args (.cons (.refl _) (.cons (may_sub6 _ _ _) (VSubs.refl _))) (EvSame_spec (a := e) (b := ⟨e.k, 0, [], [], [], e.ch⟩) he.lb he.la he.lc ⟨rfl, ?_⟩))
      change Q (fI (if (false || !decide (e = ⟨e.k, 0, [], [], [], e.ch⟩)) = true then 1 else 0)) [] at h
      cases hb : decide (e = ⟨e.k, 0, [], [], [], e.ch⟩) <;> rw [hb] at h <;> conv => whnf
      · exact ⟨[], rfl, h⟩
      · exact ⟨[], rfl, h⟩
  · rw [if_neg (of_decide_eq_false k6)] at h
    refine .pure (numbered_spec ⟨rfl, ?_⟩)
    conv => whnf
    cases hn : numK e.k <;> rw [hn] at h <;> conv => whnf
    · exact ⟨[], rfl, h⟩
    rw [if_pos rfl] at h
    refine branch_i (fun kn => ?_) (fun kn => ?_) <;> rw [kn] at h <;> try rw [kn] <;> conv => whnf
    · exact ⟨[], rfl, h⟩
    refine .pure (ACall.args (.cons (.refl _) (.cons (may_subN _ _) (VSubs.refl _))) (EvSame_spec (a := e) (b := ⟨e.k, e.n, [], [], [], chg0⟩) he.lb he.la he.lc ⟨rfl, ?_⟩))
    change Q (fI (if (false || !decide (e = ⟨e.k, e.n, [], [], [], chg0⟩)) = true then 1 else 0)) [] at h
    cases hb : decide (e = ⟨e.k, e.n, [], [], [], chg0⟩) <;> rw [hb] at h <;> conv => whnf
    · exact ⟨[], rfl, h⟩
    · exact ⟨[], rfl, h⟩

end Go.Proofs.YtokifgdmddnpoaaDoorPg

/- May an event be: the document's function. -/
namespace Go.Proofs.YtokifgdmddnpoaaDoorPg
open Go Go.RowKit
set_option linter.unusedSimpArgs false
set_option linter.unusedVariables false

variable {Q : V → List O → Prop}

theorem rowBare5 {e : Evt} (hk : e.k = 5) : rowBare e = (decide (e.ch = chg0) && (decide (e.a.length = 0) && decide (e.n = 0))) := by
  unfold rowBare; rw [if_pos hk]
  obtain ⟨k, n, t, b, a, ch⟩ := e
  simp [Bool.and_comm, Bool.and_assoc, Bool.and_left_comm]
theorem rowBare3 {e : Evt} (hk : ¬ e.k = 5) : rowBare e = (decide (e.ch = chg0) && (decide (e.b.length = 0) && decide (e.n = 0))) := by
  unfold rowBare; rw [if_neg hk]
  obtain ⟨k, n, t, b, a, ch⟩ := e
  simp [Bool.and_comm, Bool.and_assoc, Bool.and_left_comm]
theorem bare6_eq (e : Evt) : bare6 e = (decide (e.n = 0) && (decide (e.t = []) && (decide (e.b.length = 0) && decide (e.a.length = 0)))) := by
  unfold bare6
  obtain ⟨k, n, t, b, a, ch⟩ := e
  simp
theorem bareN_eq (e : Evt) : bareN e = (decide (e.t = []) && (decide (e.b.length = 0) && (decide (e.a.length = 0) && decide (e.ch = chg0)))) := by
  unfold bareN
  obtain ⟨k, n, t, b, a, ch⟩ := e
  simp

theorem chg0_sub : VSub (.agg [.int .i64 0, .str [], .nils, .int .i64 0, .str [], .int .i64 0, .bool false]) (chA chg0) :=
  .agg (.cons (.refl _) (.cons (.refl _) (.cons (nils_sl3 false) (VSubs.refl _))))

set_option maxHeartbeats 32000000 in
theorem EvRMay_spec {e : Evt} {l : List Tb} (hl : TbsB l) (he : EvtT e) (h : Q (fI (mayE e l)) []) : ACall Tryd.prog 20 0 [evA e, .sl 3 (tbs l) false] [] Q := by
  refine by_body Tryd.func20 0 rfl (Nat.le_of_ble_eq_true rfl) ?_
  conv => whnf
  refine .pure (ACall.args (.cons (.refl _) (.cons chg0_sub (VSubs.refl _))) (Rchange_spec (a := e.ch) (b := chg0) he.lc ⟨rfl, ?_⟩))
  conv => whnf
  have hlb := vals_len e.b
  have hla := vals_len e.a
  refine branch_i (fun k3 => ?_) (fun k3 => ?_) <;> try rw [k3] <;> conv => whnf
  rotate_left
  focus
    refine branch_i (fun k4 => ?_) (fun k4 => ?_) <;> try rw [k4] <;> conv => whnf
  rotate_left
  focus
    refine branch_i (fun k5 => ?_) (fun k5 => ?_) <;> try rw [k5] <;> conv => whnf
  rotate_left
  · have kr : rowK e.k = false := by unfold rowK; rw [k3, k4, k5]; rfl
    unfold mayE at h
    rw [kr, if_neg (by simp)] at h
    refine branch_i (fun k6 => ?_) (fun k6 => ?_) <;> try rw [k6] <;> conv => whnf
    · rw [if_pos (of_decide_eq_true k6), bare6_eq] at h
      refine .pure (Raltered_spec (c := e.ch) ⟨rfl, ?_⟩)
      conv => whnf
      refine branch_i (fun k0 => ?_) (fun k0 => ?_) <;> try rw [k0] <;> conv => whnf
      · rw [if_pos (by simpa using k0)] at h
        exact ⟨[], rfl, h⟩
      · rw [if_neg (by simpa using k0)] at h
        rw [← hlb, ← hla] at h
        repeat' (refine branch_i (fun e => ?_) (fun e => ?_) <;> try rw [e] <;> conv => whnf)
        all_goals
          refine ⟨[], rfl, qiE h ?_⟩
          simp_all [List.length_pos_iff]
    · rw [if_neg (of_decide_eq_false k6), bareN_eq] at h
      unfold numK at h
      rw [← hlb, ← hla] at h
      repeat' (refine branch_i (fun e => ?_) (fun e => ?_) <;> try rw [e] <;> conv => whnf)
      all_goals
        refine ⟨[], rfl, qiE h ?_⟩
        simp_all [List.length_pos_iff]
  all_goals
    have kr : rowK e.k = true := by unfold rowK; simp_all
    unfold mayE rowE at h
    rw [if_pos kr] at h
    refine .pure (EvRFind_spec (by have := hl.few; omega) ⟨rfl, ?_⟩)
    unfold findR
    cases hf : findT l e.t with
    | none =>
      rw [hf] at h
      change Q (fI 7) [] at h
      conv => whnf
      exact ⟨[], rfl, h⟩
    | some o =>
      obtain ⟨C, K⟩ := o
      rw [hf] at h
      obtain ⟨hm, hC, k, rfl, hk⟩ := hl.found hf
      change Q (fI (if rowFit e C k = false then 9 else if rowBare e = false then 1 else 0)) [] at h
      conv => whnf
      refine .pure (RFits_spec (l := C) (keys := (k : Int)) (vs := e.a) (by omega) he.a ⟨rfl, ?_⟩)
      conv => whnf
      refine branch_i (fun j5 => ?_) (fun j5 => ?_) <;> try rw [j5] <;> conv => whnf
      · have k5' : e.k = 5 := of_decide_eq_true j5
        have hF : rowFit e C k = (keyOkL C k e.b && decide ((e.b.length : Int) = (k : Int))) := by unfold rowFit; rw [if_pos k5']; rfl
        rw [hF, rowBare5 k5', ← hla, ← hlb] at h
        refine .pure (RKey_spec (l := C) (keys := k) (vs := e.b) (by omega) hk he.b ⟨rfl, ?_⟩)
        unfold keyR
        cases hko : keyOkL C k e.b <;> rw [hko] at h <;> conv => whnf
        · exact ⟨[], rfl, h⟩
        repeat' (refine branch_i (fun e => ?_) (fun e => ?_) <;> try rw [e] <;> conv => whnf)
        all_goals
          refine ⟨[], rfl, qiE h ?_⟩
          simp_all [List.length_pos_iff]
      · have k5' : ¬ e.k = 5 := of_decide_eq_false j5
        have hF : rowFit e C k = fitsL C e.a := by unfold rowFit; rw [if_neg k5']
        rw [hF, rowBare3 k5', ← hlb] at h
        cases hfi : fitsL C e.a <;> rw [hfi] at h <;> conv => whnf
        · exact ⟨[], rfl, h⟩
        repeat' (refine branch_i (fun e => ?_) (fun e => ?_) <;> try rw [e] <;> conv => whnf)
        all_goals
          refine ⟨[], rfl, qiE h ?_⟩
          simp_all [List.length_pos_iff]

end Go.Proofs.YtokifgdmddnpoaaDoorPg

/- The laws SchemaBack and SchemaTurns. -/
namespace Go.Proofs.YtokifgdmddnpoaaDoorPg
open Go Go.RowKit
set_option linter.unusedSimpArgs false
set_option linter.unusedVariables false

variable {Q : V → List O → Prop}

theorem goodV_text (v : Val) : (goodV v).t.length ≤ 40 := by
  have := text40_len v.t
  unfold goodV
  repeat' split
  all_goals simp only
  all_goals first | (simp only [List.length_nil]; omega) | omega

theorem rowV_text (c : Col) (v : Val) : (rowV c v).t.length ≤ 40 := by
  unfold rowV
  split
  · simp [val0]
  · exact goodV_text _

theorem row_mem {l : List Col} {vs : List Val} {v : Val} (h : v ∈ rowL l vs) : ∃ (i : Nat) (c : Col), l[i]? = some c ∧ v = rowV c (vs.getD i val0) := by
  obtain ⟨i, hi⟩ := List.mem_iff_getElem?.1 h
  have hlt := (List.getElem?_eq_some_iff.1 hi).1
  rw [rowL_len] at hlt
  have hc : l[i]? = some l[i] := List.getElem?_eq_getElem hlt
  rw [rowL_get l vs hc] at hi
  cases hi
  exact ⟨i, l[i], hc, rfl⟩

theorem row_texts (l : List Col) (vs : List Val) : ∀ v ∈ rowL l vs, v.t.length ≤ 40 := fun v hv => by
  obtain ⟨i, c, _, rfl⟩ := row_mem hv
  exact rowV_text _ _

theorem turn_texts {l : List Col} {k : Int} {c : Col} {r : List Val} (h : ∀ v ∈ r, v.t.length ≤ 40) : TextsOk (turnS l k c r) := fun v hv => by
  have h0 : val0.t.length ≤ 40 := by simp [val0]
  unfold turnS at hv
  have key : ∀ v, v ∈ r ∨ v = val0 → v.t.length < 1000000000000000000 := fun v hv => by
    rcases hv with hv | rfl
    · have := h v hv; omega
    · omega
  refine key v ?_
  repeat' split at hv
  · rcases List.mem_append.1 hv with h1 | h1
    · exact .inl h1
    · simp at h1; exact .inr h1
  · exact .inl ((List.eraseIdx_sublist _ _).subset hv)
  · rcases List.mem_or_eq_of_mem_set hv with h1 | h1
    · exact .inl h1
    · exact .inr h1
  · exact .inl hv

theorem take_erase {α : Type} {l : List α} {n i : Nat} (h : n ≤ i) : (l.eraseIdx i).take n = l.take n := by
  refine List.ext_getElem? fun j => ?_
  rw [List.getElem?_take, List.getElem?_take]
  by_cases hj : j < n
  · rw [if_pos hj, if_pos hj, List.getElem?_eraseIdx, if_pos (by omega)]
  · rw [if_neg hj, if_neg hj]

/-- What a change that can be does to a row that fits. -/
structure Turned (l : List Col) (keys : Int) (k : Int) (c : Col) (r : List Val) : Prop where
  can : CanTurn l k c r.length
  keyed : (applyS l keys k c).2.1 = keys
  fits : fitsL (applyS l keys k c).1 (turnS l k c r) = true
  same : (turnS l k c r).take keys.toNat = r.take keys.toNat
  len : keys.toNat ≤ (turnS l k c r).length
  stand : standN (applyS l keys k c).1 (turnS l k c r) keys.toNat

theorem stands_null {c : Col} (h : c.o = true) : standsV c val0 = true := by
  unfold standsV mayV val0; simp [h]

theorem turned {l : List Col} {keys k : Int} {c : Col} {r : List Val} (hs : SchOk l keys) (hr : r.length = l.length) (hf : ∀ (i : Nat) (c : Col) (v : Val), l[i]? = some c → r[i]? = some v → standsV c v = true)
    (he : (applyS l keys k c).2.2 = 0) : Turned l keys k c r := by
  have h1 := hs.lo; have h2 := hs.len
  have hfl := fnd_lt (name := c.n) (l := l) (i := 0)
  have mk : ∀ (l' : List Col), (applyS l keys k c) = (l', keys, 0) → CanTurn l k c r.length → (turnS l k c r).length = l'.length → keys ≤ l'.length → (turnS l k c r).take keys.toNat = r.take keys.toNat →
      (∀ (i : Nat) (c' : Col) (v : Val), l'[i]? = some c' → (turnS l k c r)[i]? = some v → standsV c' v = true) → Turned l keys k c r := by
    intro l' e hc hl hk hsame hst
    refine ⟨hc, by rw [e], by rw [e]; exact fits_yes hl hst, hsame, by omega, fun i c' v _ hc' hv => ?_⟩
    rw [e] at hc'
    exact hst i c' v hc' hv
  unfold applyS at he
  by_cases k3 : k = 3
  · subst k3
    rw [if_pos rfl] at he
    have e : applyS l keys 3 c = addS l keys c := by unfold applyS; rw [if_pos rfl]
    have et : turnS l 3 c r = r ++ [val0] := by unfold turnS; rw [if_pos rfl]
    have ea : addS l keys c = (l ++ [c], keys, 0) ∧ c.o = true := by
      unfold addS at he ⊢
      by_cases g1 : (nameOk c.n && kindOk c.k && c.o) = true
      rotate_left
      · rw [if_neg g1] at he; simp at he
      rw [if_pos g1] at he ⊢
      by_cases g2 : 0 ≤ fnd c.n l 0
      · rw [if_pos g2] at he; simp at he
      rw [if_neg g2] at he ⊢
      by_cases g3 : l.length = 16
      · rw [if_pos g3] at he; simp at he
      rw [if_neg g3]
      simp only [Bool.and_eq_true] at g1
      exact ⟨rfl, g1.2⟩
    refine mk (l ++ [c]) (by rw [e, ea.1]) (.inl rfl) (by rw [et]; simp [hr]) (by simp; omega) (by rw [et, List.take_append_of_le_length (by omega)]) fun i c' v hc' hv => ?_
    rw [et] at hv
    rcases Nat.lt_or_ge i l.length with hi | hi
    · rw [List.getElem?_append_left hi] at hc'
      rw [List.getElem?_append_left (by omega)] at hv
      exact hf i c' v hc' hv
    · rw [List.getElem?_append_right hi] at hc'
      rw [List.getElem?_append_right (by omega)] at hv
      have : i - l.length = 0 := by
        have := (List.getElem?_eq_some_iff.1 hc').1
        simp at this; omega
      rw [this] at hc'
      rw [show i - r.length = 0 by omega] at hv
      simp at hc' hv
      subst hc'; subst hv
      exact stands_null ea.2
  rw [if_neg k3] at he
  by_cases k4 : k = 4
  · subst k4
    rw [if_pos rfl] at he
    have e : applyS l keys 4 c = cutS l keys c := by unfold applyS; rw [if_neg (by decide), if_pos rfl]
    have et : turnS l 4 c r = r.eraseIdx (fnd c.n l 0).toNat := by unfold turnS; rw [if_neg (by decide), if_pos rfl]
    unfold cutS at he
    by_cases g1 : fnd c.n l 0 < 0
    · rw [if_pos g1] at he; simp at he
    rw [if_neg g1] at he
    by_cases g2 : fnd c.n l 0 < keys
    · rw [if_pos g2] at he; simp at he
    have ea : cutS l keys c = (l.eraseIdx (fnd c.n l 0).toNat, keys, 0) := by unfold cutS; rw [if_neg g1, if_neg g2]
    have hlt : (fnd c.n l 0).toNat < l.length := by omega
    refine mk _ (by rw [e, ea]) (.inr ⟨.inl rfl, by omega, by omega⟩) (by rw [et, List.length_eraseIdx, List.length_eraseIdx, if_pos hlt, if_pos (by omega), hr]) (by rw [List.length_eraseIdx, if_pos hlt]; omega) (by rw [et, take_erase (by omega)]) fun i c' v hc' hv => ?_
    rw [et] at hv
    rw [List.getElem?_eraseIdx] at hc' hv
    by_cases hi : i < (fnd c.n l 0).toNat
    · rw [if_pos hi] at hc' hv; exact hf i c' v hc' hv
    · rw [if_neg hi] at hc' hv; exact hf (i + 1) c' v hc' hv
  rw [if_neg k4] at he
  by_cases k5 : k = 5
  rotate_left
  · rw [if_neg k5] at he; simp at he
  subst k5
  rw [if_pos rfl] at he
  have e : applyS l keys 5 c = retS l keys c := by unfold applyS; rw [if_neg (by decide), if_neg (by decide), if_pos rfl]
  have et : turnS l 5 c r = r.set (fnd c.n l 0).toNat val0 := by unfold turnS; rw [if_neg (by decide), if_neg (by decide), if_pos rfl]
  unfold retS at he
  by_cases g1 : fnd c.n l 0 < 0
  · rw [if_pos g1] at he; simp at he
  rw [if_neg g1] at he
  by_cases g2 : fnd c.n l 0 < keys
  · rw [if_pos g2] at he; simp at he
  rw [if_neg g2] at he
  by_cases g3 : ((l[(fnd c.n l 0).toNat]?).map Col.o).getD false = false
  · rw [if_pos g3] at he; simp at he
  rw [if_neg g3] at he
  by_cases g4 : kindOk c.k = true
  rotate_left
  · rw [if_neg g4] at he; simp at he
  have ea : retS l keys c = (setKind l (fnd c.n l 0).toNat c.k, keys, 0) := by unfold retS; rw [if_neg g1, if_neg g2, if_neg g3, if_pos g4]
  have hlt : (fnd c.n l 0).toNat < l.length := by omega
  refine mk _ (by rw [e, ea]) (.inr ⟨.inr rfl, by omega, by omega⟩) (by rw [et, List.length_set, setKind_len, hr]) (by rw [setKind_len]; omega) (by rw [et, List.take_set_of_le (by omega)]) fun i c' v hc' hv => ?_
  rw [et, List.getElem?_set] at hv
  rw [setKind, List.getElem?_modify] at hc'
  generalize (fnd c.n l 0).toNat = p at *
  cases hx : l[i]? with
  | none => rw [hx] at hc'; simp at hc'
  | some d =>
    rw [hx] at hc'
    by_cases hi : p = i
    · subst hi
      rw [if_pos rfl, if_pos (by omega)] at hv
      simp at hc' hv
      subst hc'; subst hv
      rw [hx] at g3
      refine stands_null ?_
      simp at g3
      exact g3
    · rw [if_neg hi] at hv
      simp [hi] at hc'
      subst hc'
      exact hf i d v hx hv

/-- numbers that are numbers, texts that are texts -/
def ValsOk (vs : List Val) : Prop := ∀ v ∈ vs, I64 v.k

theorem kinds_ok {l : List Col} {keys : Int} (h : SchOk l keys) : ∀ c ∈ l, 1 ≤ c.k ∧ c.k ≤ 4 := fun c hc => by
  have := (h.cols c hc).2
  unfold kindOk at this
  simp at this
  exact this

theorem kinds_i64 {l : List Col} {keys : Int} (h : SchOk l keys) : ∀ c ∈ l, -9223372036854775808 ≤ c.k ∧ c.k ≤ 9223372036854775807 := fun c hc => by
  have := kinds_ok h c hc; omega

theorem row_stands {l : List Col} {keys : Int} (h : SchOk l keys) (vs : List Val) : ∀ (i : Nat) (c : Col) (v : Val), l[i]? = some c → (rowL l vs)[i]? = some v → standsV c v = true := fun i c v hc hv => by
  rw [rowL_get l vs hc] at hv
  cases hv
  exact good_stands (kinds_ok h c (List.mem_of_getElem? hc)) _

theorem add_then_cut {l : List Col} {keys : Int} {c : Col} (hs : SchOk l keys) (he : (applyS l keys 3 c).2.2 = 0) :
    applyS l keys 3 c = (l ++ [c], keys, 0) ∧ fnd c.n (l ++ [c]) 0 = l.length ∧ applyS (l ++ [c]) keys 4 c = (l, keys, 0) := by
  have h1 := hs.len
  have e : applyS l keys 3 c = addS l keys c := by unfold applyS; rw [if_pos rfl]
  rw [e] at he ⊢
  unfold addS at he ⊢
  by_cases g1 : (nameOk c.n && kindOk c.k && c.o) = true
  rotate_left
  · rw [if_neg g1] at he; simp at he
  rw [if_pos g1] at he ⊢
  by_cases g2 : 0 ≤ fnd c.n l 0
  · rw [if_pos g2] at he; simp at he
  rw [if_neg g2] at he ⊢
  by_cases g3 : l.length = 16
  · rw [if_pos g3] at he; simp at he
  rw [if_neg g3]
  have hf : fnd c.n (l ++ [c]) 0 = l.length := by
    rw [fnd_skip fun d hd => fnd_neg (i := 0) (by omega) d hd]
    simp [fnd]
  refine ⟨rfl, hf, ?_⟩
  unfold applyS cutS
  rw [if_neg (by decide), if_pos rfl, hf, if_neg (by omega), if_neg (by omega), Int.toNat_natCast]
  simp [List.eraseIdx_append_of_length_le]

theorem vals_of : ∀ {es : List (List V)}, (∀ x ∈ es, ∃ (k n : Int) (s : List UInt8), x = [.int .i64 k, .int .i64 n, .str s] ∧ I64 k ∧ I64 n ∧ s.length ≤ Globs.txt) → ∃ l : List Val, es = vals l ∧ ∀ v ∈ l, I64 v.k ∧ I64 v.n ∧ v.t.length ≤ Globs.txt
  | [], _ => ⟨[], rfl, by simp⟩
  | x :: es, h => by
    obtain ⟨k, n, s, rfl, hk⟩ := h x (by simp)
    obtain ⟨l, rfl, hl⟩ := vals_of (es := es) fun y hy => h y (by simp [hy])
    exact ⟨⟨k, n, s⟩ :: l, rfl, by simpa using ⟨hk, hl⟩⟩

theorem vals_in {vs : List V} (h : Shp tt 8 37 vs) : ∃ l : List Val, argV tt 37 vs = .sl 3 (vals l) false ∧ ∀ v ∈ l, I64 v.k ∧ I64 v.n ∧ v.t.length ≤ Globs.txt := by
  obtain ⟨es, _, g1, rfl⟩ := h
  obtain ⟨l, rfl, hl⟩ := vals_of fun x hx => by
    obtain ⟨_, _, ⟨k, hk, rfl⟩, ⟨_, _, ⟨n, hn, rfl⟩, ⟨_, _, ⟨s, hs, rfl⟩, rfl, rfl⟩, rfl⟩, rfl⟩ := g1 x hx
    exact ⟨k, n, s, rfl, i64_wf hk, i64_wf hn, hs⟩
  exact ⟨l, rfl, hl⟩

theorem col_in {vs : List V} (h : Shp tt 8 40 vs) : ∃ c : Col, argV tt 40 vs = colA c ∧ I64 c.k := by
  obtain ⟨_, _, ⟨n, _, rfl⟩, ⟨_, _, ⟨ck, hck, rfl⟩, ⟨_, _, ⟨o, rfl⟩, rfl, rfl⟩, rfl⟩, rfl⟩ := h
  exact ⟨⟨n, ck, o⟩, rfl, i64_wf hck⟩

end Go.Proofs.YtokifgdmddnpoaaDoorPg

/- An event made of any (the document's function), the law EventMay. -/
namespace Go.Proofs.YtokifgdmddnpoaaDoorPg
open Go Go.RowKit
set_option linter.unusedSimpArgs false
set_option linter.unusedVariables false

variable {Q : V → List O → Prop}

theorem may_kinds {l : List Col} {k : Int} (h : mayS l k = true) : ∀ c ∈ l, -9223372036854775808 ≤ c.k ∧ c.k ≤ 9223372036854775807 := fun c hc => by
  obtain ⟨i, hi⟩ := List.mem_iff_getElem?.1 hc
  unfold mayS at h
  rw [Bool.and_eq_true, List.all_eq_true] at h
  have := h.2 i (List.mem_range.2 (List.getElem?_eq_some_iff.1 hi).1)
  rw [hi] at this
  simp only [mayC, kindOk, Bool.and_eq_true, decide_eq_true_eq] at this
  omega

theorem textsOk_row (l : List Col) (vs : List Val) : TextsOk (rowL l vs) := fun v hv => by have := row_texts l vs v hv; omega

theorem row_sub0 (k : Int) (t : List UInt8) : VSub (.agg [.int .i64 k, .int .i64 0, .str t, .nils, .nils, .int .i64 0, .str [], .nils, .int .i64 0, .str [], .int .i64 0, .bool false]) (evA ⟨k, 0, t, [], [], chg0⟩) :=
  .agg (.cons (.refl _) (.cons (.refl _) (.cons (.refl _) (.cons (nils_sl3 false) (.cons (nils_sl3 false) (.cons (.refl _) (.cons (.refl _) (.cons (nils_sl3 false) (VSubs.refl _)))))))))
theorem textsOk_nil : TextsOk [] := fun v hv => by cases hv
theorem evt0 (k n : Int) (t : List UInt8) : EvtT ⟨k, n, t, [], [], chg0⟩ := ⟨textsOk_nil, textsOk_nil, by show 0 < 9223372036854775808; decide, by show 0 < 9223372036854775808; decide, by show 0 < 1000000; decide⟩
theorem evt6 (k n : Int) {c : Chg} (hc : c.c.length < 1000000) : EvtT ⟨k, n, [], [], [], c⟩ := ⟨textsOk_nil, textsOk_nil, by show 0 < 9223372036854775808; decide, by show 0 < 9223372036854775808; decide, hc⟩
theorem evt3 (k n : Int) (t : List UInt8) {C : List Col} (hC : C.length ≤ 16) (vs : List Val) : EvtT ⟨k, n, t, [], rowL C vs, chg0⟩ :=
  ⟨textsOk_nil, textsOk_row C vs, by show 0 < 9223372036854775808; decide, by show (rowL C vs).length < _; rw [rowL_len]; omega, by show 0 < 1000000; decide⟩
theorem evt5 (k n : Int) (t : List UInt8) {C : List Col} (hC : C.length ≤ 16) (vs : List Val) (m : Nat) : EvtT ⟨k, n, t, (rowL C vs).take m, [], chg0⟩ :=
  ⟨fun v hv => textsOk_row C vs v (List.mem_of_mem_take hv), textsOk_nil, by show ((rowL C vs).take m).length < _; rw [List.length_take, rowL_len]; omega, by show 0 < 9223372036854775808; decide, by show 0 < 1000000; decide⟩

set_option maxHeartbeats 32000000 in
theorem REvent_spec {e : Evt} {l : List Tb} (hl : TbsB l) (he : EvtT e) (hn : I64 e.n) (h : ∀ e2, EvtT e2 → Q (evA e2) []) : ACall Tryd.prog 18 0 [evA e, .sl 3 (tbs l) false] [] Q := by
  refine ACall.ret (by_body Tryd.func18 0 rfl (Nat.le_of_ble_eq_true rfl) ?_)
  conv => whnf
  have hlv := tbs_len l
  refine .pure (EvRFind_spec (by have := hl.few; omega) ⟨rfl, ?_⟩)
  unfold findR
  rcases hf : findT l e.t with _ | ⟨C, K⟩ <;> conv => whnf
  focus
    refine branch_i (fun a1 => ?_) (fun a1 => ?_) <;> try rw [a1] <;> conv => whnf
    focus
      refine branch_i (fun a2 => ?_) (fun a2 => ?_) <;> try rw [a2] <;> conv => whnf
      focus
        refine branch_i (fun a3 => ?_) (fun a3 => ?_) <;> try rw [a3] <;> conv => whnf
        focus
          have a1' := of_decide_eq_true a1
          have hg : l[0]? = some l[0] := List.getElem?_eq_getElem (by omega)
          have hm := (hl.ok.each l[0] (List.getElem_mem (by omega))).sch
          generalize l[0] = w at *
          refine ⟨_, ⟨by omega, tbs_get hg⟩, ?_⟩
          conv => whnf
          refine ⟨_, ⟨by omega, tbs_get hg⟩, ?_⟩
          conv => whnf
          have hb := may_bd hm
          generalize w.c = C at *
          generalize w.k = K at *
          obtain ⟨k, rfl⟩ : ∃ k : Nat, K = k := ⟨K.toNat, by omega⟩
          have hk : k ≤ C.length := by omega
          have hC : C.length ≤ 16 := hb.2.2.2
    rotate_left
    iterate 3
      focus
        repeat' (refine branch_i (fun e => ?_) (fun e => ?_) <;> try rw [e] <;> conv => whnf)
        all_goals
          first
          | exact ⟨[], rfl, .sub _ _ (row_sub0 _ _) (HSub.refl _) (.done [] rfl (h _ (evt0 _ _ _)))⟩
          | exact ⟨[], rfl, .sub _ _ (may_sub6 _ _ _) (HSub.refl _) (.done [] rfl (h _ (evt6 _ _ he.lc)))⟩
          | exact ⟨[], rfl, .sub _ _ (may_subN _ _) (HSub.refl _) (.done [] rfl (h _ (evt0 _ _ _)))⟩
          | (try dsimp [mergeO, mapO, idx, renO, renV, renL, renE, fogOf, fogE, back, forget, gather, getO, setO, Nat.beq, List.drop, List.take, frzH, frzO, frzV, frzL, frzE]); trace_state; sorry
  rotate_left
  focus
    obtain ⟨hm, hC, k, rfl, hk⟩ := hl.found hf
  all_goals
    have hki := may_kinds hm
    refine branch_i (fun k3 => ?_) (fun k3 => ?_) <;> try rw [k3] <;> conv => whnf
    · refine .pure (Row_spec (l := C) (keys := (k : Int)) (vs := e.a) (by omega) hki ⟨rfl, ?_⟩)
      conv => whnf
      exact ⟨[], rfl, .sub _ _ (row_sub _ _ _) (HSub.refl _) (.done [] rfl (h _ (evt3 _ _ _ hC _)))⟩
    refine branch_i (fun k4 => ?_) (fun k4 => ?_) <;> try rw [k4] <;> conv => whnf
    · refine .pure (Row_spec (l := C) (keys := (k : Int)) (vs := e.a) (by omega) hki ⟨rfl, ?_⟩)
      conv => whnf
      exact ⟨[], rfl, .sub _ _ (row_sub _ _ _) (HSub.refl _) (.done [] rfl (h _ (evt3 _ _ _ hC _)))⟩
    refine branch_i (fun k5 => ?_) (fun k5 => ?_) <;> try rw [k5] <;> conv => whnf
    · refine ⟨[0, 1, 2, 4, 5, 3, 6, 7, 8], by kernel_rfl, by kernel_rfl, ?_⟩
      conv => whnf
      refine .pure (Row_spec (l := C) (keys := (k : Int)) (vs := e.b) (by omega) hki ⟨rfl, ?_⟩)
      have hrl : (vals (rowL C e.b)).length = C.length := by rw [vals_len, rowL_len]
      repeat (conv => whnf
              refine ⟨rfl, ?_⟩)
      conv => whnf
      refine ⟨⟨by omega, by omega⟩, ?_⟩
      conv => whnf
      rw [vals_take]
      exact ⟨[], rfl, .sub _ _ (row_sub5 _ _ _) (HSub.refl _) (.done [] rfl (h _ (evt5 _ _ _ hC _ _)))⟩
    refine branch_i (fun k6 => ?_) (fun k6 => ?_) <;> try rw [k6] <;> conv => whnf
    · exact ⟨[], rfl, .sub _ _ (may_sub6 _ _ _) (HSub.refl _) (.done [] rfl (h _ (evt6 _ _ he.lc)))⟩
    refine branch_i (fun k7 => ?_) (fun k7 => ?_) <;> try rw [k7] <;> conv => whnf
    · exact ⟨[], rfl, .sub _ _ (may_subN _ _) (HSub.refl _) (.done [] rfl (h _ (evt0 _ _ _)))⟩
    · exact ⟨[], rfl, .sub _ _ (may_subN _ _) (HSub.refl _) (.done [] rfl (h _ (evt0 _ _ _)))⟩


/-! ### the law EventMay -/
theorem good_tb {l : List Tb} (h : ∀ t ∈ l, TbIn t) : TbsB (goodT l) := by
  obtain ⟨h1, h2⟩ := goodTN_ok h 3
  exact ⟨h1, by show (goodTN l 3).length ≤ 64; omega⟩

set_option maxHeartbeats 16000000 in
theorem EventMay_spec {l : List Tb} {e : Evt} (hl : ∀ t ∈ l, TbIn t) (he : EvtIn e) (hb : TextsOk e.b) (ha : TextsOk e.a) : ACall Tryd.prog 4 0 [.sl 3 (tbs l) false, evA e] [] (fun v _ => v = .bool true) := by
  refine by_body Tryd.func4 0 rfl (Nat.le_of_ble_eq_true rfl) ?_
  conv => whnf
  refine .pure (RGoodT_spec hl ⟨rfl, ?_⟩)
  have hg := good_tb hl
  generalize goodT l = g at *
  conv => whnf
  refine .pure (EvCut_spec (c := e.ch) ⟨rfl, ?_⟩)
  conv => whnf
  have h1 := he.b
  have h2 := he.a
  have hc := cutL_len e.ch.c
  have hE : EvtT { e with ch := cutCh e.ch } := ⟨hb, ha, by show e.b.length < _; omega, by show e.a.length < _; omega, by show (cutL e.ch.c).length < _; omega⟩
  refine .pure (REvent_spec (e := { e with ch := cutCh e.ch }) hg hE he.n (fun e2 h2 => ⟨rfl, ?_⟩))
  conv => whnf
  refine ⟨[0, 1, 3, 4, 2, 5, 6, 7, 8, 9, 11, 12, 10, 13, 14, 15, 16, 17, 18, 19], by kernel_rfl, by kernel_rfl, ?_⟩
  conv => whnf
  refine .pure (EvMay_spec (e := { e with ch := cutCh e.ch }) hg hE ⟨rfl, ?_⟩)
  repeat (conv => whnf
          refine ⟨rfl, ?_⟩)
  conv => whnf
  refine .pure (EvRMay_spec (e := { e with ch := cutCh e.ch }) hg hE ⟨rfl, ?_⟩)
  generalize mayE { e with ch := cutCh e.ch } g = m1 at *
  repeat (conv => whnf
          refine ⟨rfl, ?_⟩)
  conv => whnf
  rw [decide_eq_true (rfl : m1 = m1)]
  conv => whnf
  refine .pure (EvMay_spec (e := e2) hg h2 ⟨rfl, ?_⟩)
  repeat (conv => whnf
          refine ⟨rfl, ?_⟩)
  conv => whnf
  refine .pure (EvRMay_spec (e := e2) hg h2 ⟨rfl, ?_⟩)
  generalize mayE e2 g = m2 at *
  repeat (conv => whnf
          refine ⟨rfl, ?_⟩)
  conv => whnf
  rw [decide_eq_true (rfl : m2 = m2)]
  conv => whnf
  refine .pure (lives06_spec ⟨rfl, ?_⟩)
  repeat (conv => whnf
          refine ⟨rfl, ?_⟩)
  conv => whnf
  exact ⟨[], rfl, rfl⟩

end Go.Proofs.YtokifgdmddnpoaaDoorPg

/- The law EventDrops. -/
namespace Go.Proofs.YtokifgdmddnpoaaDoorPg
open Go Go.RowKit
set_option linter.unusedSimpArgs false
set_option linter.unusedVariables false

variable {Q : V → List O → Prop}

theorem RSameT_self {l : List Tb} {f f2 : Bool} (hl : l.length ≤ 64) (hc : ∀ x ∈ l, x.c.length < 1000000) (h : Q (.bool true) []) : ACall Tryd.prog 26 0 [.sl 3 (tbs l) f, .sl 3 (tbs l) f2] [] Q := by
  refine by_body Tryd.func26 0 rfl (Nat.le_of_ble_eq_true rfl) ?_
  conv => whnf
  have hlv := tbs_len l
  rw [decide_eq_true (rfl : (((tbs l).length : Nat) : Int) = (((tbs l).length : Nat) : Int))]
  conv => whnf
  refine ⟨⟨[0, 1, 5], fun m ws H => ∃ i : Nat, ws = [.sl 3 (tbs l) f, .sl 3 (tbs l) f2, fI i] ∧ H = [] ∧ i ≤ l.length ∧ m = l.length - i, .at l.length ⟨0, rfl, rfl, Nat.zero_le _, rfl⟩, ?_⟩⟩
  rintro m ws H ⟨i, rfl, rfl, hi, rfl⟩
  conv => whnf
  refine branch_i (fun c1 => ?_) (fun c1 => ?_) <;> try rw [c1] <;> conv => whnf
  rotate_left
  focus
    exact ⟨[], rfl, h⟩
  have c1' := of_decide_eq_true c1
  have hlt : i < l.length := by omega
  have hg : l[i]? = some l[i] := List.getElem?_eq_getElem hlt
  have hcw := hc l[i] (List.getElem_mem hlt)
  generalize l[i] = w at *
  refine ⟨List.range 12, by kernel_rfl, by kernel_rfl, ?_⟩
  conv => whnf
  refine ⟨_, ⟨by omega, tbs_get hg⟩, ?_⟩
  conv => whnf
  refine ⟨_, ⟨by omega, tbs_get hg⟩, ?_⟩
  conv => whnf
  refine .pure (RSame_spec (l := w.c) (k := w.k) (l2 := w.c) (k2 := w.k) hcw ⟨rfl, ?_⟩)
  rw [show sameS w.c w.k w.c w.k = true by simp [sameS]]
  repeat (conv => whnf
          first | (refine ⟨rfl, ?_⟩) | (refine ⟨⟨_, ⟨by omega, tbs_get hg⟩, rfl⟩, ?_⟩))
  conv => whnf
  refine ⟨List.range 15, by kernel_rfl, by kernel_rfl, ?_⟩
  conv => whnf
  refine ⟨_, ⟨by omega, tbs_get hg⟩, ?_⟩
  conv => whnf
  refine ⟨_, ⟨by omega, tbs_get hg⟩, ?_⟩
  conv => whnf
  rw [decide_eq_true (rfl : w.n = w.n)]
  repeat (conv => whnf
          first | (refine ⟨rfl, ?_⟩) | (refine ⟨⟨_, ⟨by omega, tbs_get hg⟩, rfl⟩, ?_⟩))
  conv => whnf
  refine .go [] rfl (l.length - (i + 1)) (by omega) ⟨i + 1, ?_, rfl, by omega, rfl⟩
  show [V.sl 3 (tbs l) f, .sl 3 (tbs l) f2, V.int .i64 (IntKind.i64.wrap ((i : Int) + 1))] = _
  rw [wrapE (by omega)]; rfl

theorem atT_ins (l : List Tb) (t : Tb) : atT (insT l t) t.n = some (posT l t.n) := by
  unfold atT
  rw [ins_nws]
  exact at_ins (l := nws l) (w := nw t)
theorem get_insT (l : List Tb) (t : Tb) : (insT l t)[posT l t.n]? = some t := by
  have hp := posT_le l t.n
  unfold insT
  rw [List.getElem?_append_right (by rw [List.length_take]; omega), List.length_take, Nat.min_eq_left hp, Nat.sub_self]
  rfl
theorem erase_insT (l : List Tb) (t : Tb) : (insT l t).eraseIdx (posT l t.n) = l := by
  have hp := posT_le l t.n
  unfold insT
  have hlen : (l.take (posT l t.n)).length = posT l t.n := by rw [List.length_take]; omega
  rw [List.eraseIdx_append_of_length_le (by omega), hlen, Nat.sub_self, List.eraseIdx_cons_zero, List.take_append_drop]

set_option maxHeartbeats 16000000 in
theorem EventDrops_spec {l : List Tb} {N : List UInt8} {C : List Col} {K : Int} (hl : ∀ t ∈ l, TbIn t) (hC : ∀ c ∈ C, I64 c.k) (hK : I64 K) : ACall Tryd.prog 7 0 [.sl 3 (tbs l) false, .str N, sch C K] [] (fun v _ => v = .bool true) := by
  refine by_body Tryd.func7 0 rfl (Nat.le_of_ble_eq_true rfl) ?_
  conv => whnf
  refine .pure (RGoodT_spec hl ⟨rfl, ?_⟩)
  have hg := good_tb hl
  obtain ⟨_, hg3⟩ := goodTN_ok hl 3
  change (goodT l).length ≤ 3 at hg3
  generalize goodT l = g at *
  conv => whnf
  refine ⟨[0, 1, 3, 2, 4, 5, 6, 7, 8, 9, 10, 11], by kernel_rfl, by kernel_rfl, ?_⟩
  conv => whnf
  refine .pure (EvName_spec ⟨rfl, ?_⟩)
  repeat (conv => whnf
          refine ⟨rfl, ?_⟩)
  conv => whnf
  refine .pure (RGood_spec hK ⟨rfl, ?_⟩)
  repeat (conv => whnf
          refine ⟨rfl, ?_⟩)
  conv => whnf
  have hm := good_may hC hK
  generalize hGC : goodL nameOk C K = G at *
  generalize hGK : goodK nameOk C K = GK at *
  generalize hMM : List.take 40 N = M at *
  have hb := may_bd hm
  have hgc : ∀ x ∈ g, x.c.length < 1000000 := fun x hx => by have := hg.cols x hx; omega
  refine .pure (Follow1_spec (l := g) (c := ⟨1, M, G, GK, col0⟩) hg.few hg.ok.sorted rfl hgc ⟨rfl, ?_⟩)
  have hfin : ∀ e : Int, (e = 6 ∨ e = 8) → (decide (e = 6) || decide (e = 8)) = true := fun e he => by rcases he with rfl | rfl <;> rfl
  cases hn : nameOk M with
  | false =>
    rw [show creE g M G GK = ([], 6) by unfold creE; rw [if_pos hn]]
    unfold folR
    repeat (conv => whnf
            refine ⟨rfl, ?_⟩)
    conv => whnf
    refine .pure (lives06_spec ⟨rfl, ?_⟩)
    conv => whnf
    exact ⟨[], rfl, rfl⟩
  | true =>
  cases ha : (atT g M).isSome with
  | true =>
    rw [show creE g M G GK = ([], 8) by unfold creE; rw [if_neg (by simp [hn]), if_pos ha]]
    unfold folR
    repeat (conv => whnf
            refine ⟨rfl, ?_⟩)
    conv => whnf
    refine .pure (lives06_spec ⟨rfl, ?_⟩)
    conv => whnf
    exact ⟨[], rfl, rfl⟩
  | false =>
    rw [show creE g M G GK = (insT g ⟨M, G, GK⟩, 0) by unfold creE; rw [if_neg (by simp [hn]), if_neg (by simp [ha]), if_neg (by simp [hm]), if_neg (by omega)]]
    unfold folR
    repeat (conv => whnf
            refine ⟨rfl, ?_⟩)
    conv => whnf
    have hnone : atT g M = none := by
      cases hx : atT g M with
      | none => rfl
      | some j => rw [hx] at ha; cases ha
    have hT : TbsOk nameOk mayS (insT g ⟨M, G, GK⟩) := insT_ok hg.ok ⟨hn, hm⟩ hnone
    have hTl : (insT g ⟨M, G, GK⟩).length ≤ 64 := by rw [insT_len]; omega
    have hTc : ∀ x ∈ insT g ⟨M, G, GK⟩, x.c.length < 1000000 := fun x hx => by have := (may_bd (hT.each x hx).sch).2.2.2; omega
    have hat : atT (insT g ⟨M, G, GK⟩) M = some (posT g M) := atT_ins g ⟨M, G, GK⟩
    have her : (insT g ⟨M, G, GK⟩).eraseIdx (posT g M) = g := erase_insT g ⟨M, G, GK⟩
    have hfd : findT (insT g ⟨M, G, GK⟩) M = some (G, GK) := find_some hat (get_insT g ⟨M, G, GK⟩)
    generalize insT g ⟨M, G, GK⟩ = T at *
    refine .pure (EvName_spec ⟨rfl, ?_⟩)
    rw [hMM]
    conv => whnf
    refine .pure (ACall.args (.cons (.refl _) (.cons (chg_sub 2 M [] 0 false) (VSubs.refl _))) (Follow2_spec (l := T) (c := ⟨2, M, [], 0, col0⟩) hTl hT.sorted rfl hTc ⟨rfl, ?_⟩))
    rw [show atT T (⟨2, M, [], 0, col0⟩ : Chg).t = some (posT g M) from hat]
    show putE _ _ (folR (T.eraseIdx (posT g M), 0)) _ _
    rw [her]
    unfold folR
    conv => whnf
    refine .pure (EvName_spec ⟨rfl, ?_⟩)
    rw [hMM]
    conv => whnf
    refine .pure (EvFind_spec (l := T) (Nat.lt_of_le_of_lt hTl (by decide)) hT.sorted hTc ⟨rfl, ?_⟩)
    rw [hfd]
    unfold findR
    conv => whnf
    refine ⟨List.range 20, by kernel_rfl, by kernel_rfl, ?_⟩
    conv => whnf
    refine .pure (RSameT_self (l := g) hg.few hgc ⟨rfl, ?_⟩)
    repeat (conv => whnf
            refine ⟨rfl, ?_⟩)
    conv => whnf
    refine .pure (RGood_spec hK ⟨rfl, ?_⟩)
    rw [hGC, hGK]
    repeat (conv => whnf
            refine ⟨rfl, ?_⟩)
    conv => whnf
    refine .pure (RSame_spec (l := G) (k := GK) (l2 := G) (k2 := GK) (by omega) ⟨rfl, ?_⟩)
    rw [show sameS G GK G GK = true by simp [sameS]]
    repeat (conv => whnf
            refine ⟨rfl, ?_⟩)
    conv => whnf
    refine .pure (lives06_spec ⟨rfl, ?_⟩)
    repeat (conv => whnf
            refine ⟨rfl, ?_⟩)
    conv => whnf
    exact ⟨[], rfl, rfl⟩

end Go.Proofs.YtokifgdmddnpoaaDoorPg
