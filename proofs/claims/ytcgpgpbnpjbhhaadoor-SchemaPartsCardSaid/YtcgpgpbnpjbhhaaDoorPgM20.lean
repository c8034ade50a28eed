/- Own texts, laid together: Pg04DTxt, Pg04DKeyP, Pg04DKeyQ, Pg04DValF, Pg04DKeyS, Pg04DKeyT. -/
import Derived.Test.YtcgpgpbnpjbhhaaDoorPgM19
import Derived.Test.YtcgpgpbnpjbhhaaDoorPgM18
import Derived.Test.YtcgpgpbnpjbhhaaDoorPgM13
import Derived.Deep.RegionWith
import Derived.OwnWalk
import Derived.Test.YtcgpgpbnpjbhhaaDoorPgM17
/- value.text: what it returns. -/
namespace Go.Proofs.YtcgpgpbnpjbhhaaDoorPg
open Go Go.RowKit Go.Shelf
set_option linter.unusedSimpArgs false
set_option linter.unusedVariables false

theorem drop_two {l : List UInt8} {i : Nat} (h : i + 1 < l.length) : l.drop i = l[i] :: l[i + 1] :: l.drop (i + 2) := by
  rw [List.drop_eq_getElem_cons (by omega), List.drop_eq_getElem_cons h]

set_option maxHeartbeats 4000000 in
set_option maxRecDepth 1000000 in
theorem text_walk (s : ByteArray) (w : World) (hs : s.size ≤ 1000000000) : Calls Tryd.prog 43 #[.string s] w fun e w' => (∃ a b : ByteArray, e = .returned (.tuple #[.string a, .string b, .bool (tx [] s.data.toList).2.2]) ∧ a.data.toList = (tx [] s.data.toList).1 ∧ b.data.toList = (tx [] s.data.toList).2.1) ∧ Below w.heap.size w w' := by
  obtain ⟨R, hR⟩ : ∃ R, R = tx [] s.data.toList := ⟨_, rfl⟩
  rw [← hR]
  go_enter Tryd.func43, Tryd.ntmps43
  go_wp2
  go_loopw [6] (fun vi wr => ∃ (i : Nat) (acc : List UInt8), vi = .int .i64 i ∧ i ≤ s.size ∧ acc.length ≤ i ∧ Lib.IsBuilder 83 5 w.heap.size w.heap.size (Lib.byteCells acc) wr ∧ Below w.heap.size w wr ∧ tx acc (s.data.toList.drop i) = R) (fun vi _ => s.size - (intOf vi).toNat)
  case atStart =>
    exact ⟨0, [], rfl, by omega, by simp, Lib.fresh_isBuilder _ _ w, (Below.refl _ w).alloc (Nat.le_refl _) _, hR.symm⟩
  case round =>
    obtain ⟨i, acc, rfl, hi, hal, hI, hbw, hacc⟩ := hrel
    have hsz := hbw.size
    by_cases h1 : i + 1 < s.size
    · have h0 : i < s.size := by omega
      have hd : s.data.toList.drop i = s[i] :: s[i + 1] :: s.data.toList.drop (i + 2) := by
        have := drop_two (l := s.data.toList) (i := i) (by simpa using h1)
        simp only [Array.getElem_toList] at this
        exact this
      have hd2 : s.data.toList.drop (i + 1) = s[i + 1] :: s.data.toList.drop (i + 2) := by
        have := List.drop_eq_getElem_cons (l := s.data.toList) (i := i + 1) (by simpa using h1)
        simp only [Array.getElem_toList] at this
        exact this
      have hI' : Lib.IsBuilder 83 5 w.heap.size w.heap.size (Lib.byteCells acc) wr.drew := hI
      rw [hd] at hacc
      unfold tx at hacc
      by_cases hc : s[i] = 0
      · have hci : (s[i].toNat != 0) = false := by rw [hc]; rfl
        rw [if_pos hc] at hacc
        by_cases hd1 : s[i + 1] = 1
        · have hdi : ((s[i + 1].toNat : Int) == 1) = true := by rw [hd1]; rfl
          rw [if_pos hd1] at hacc
          go_wp2
          have j0 : IntKind.i64.wrap ((i : Int) + 2) = (i : Int) + 2 := by rw [IntKind.wrap_i64]; omega
          have j1 : (0 : Int) ≤ (i : Int) + 2 := by omega
          have j2 : (i : Int) + 2 ≤ (s.size : Int) := by omega
          go_region_with (go_at_call 50; refine (String_any w.heap.size w.heap.size acc wr.drew hI' hsz).mono ?_; rintro e W1 ⟨rfl, b1⟩)
          all_goals
            go_wp2
            go_ret3
            rw [← hacc]
            refine ⟨⟨⟨acc.toArray⟩, s.extract (i + 2) s.size, ?_, by simp, ?_⟩, hbw.trans ((Below.drew (Below.refl _ _)).trans b1)⟩
            · rfl
            · simp [ByteArray.data_extract, List.extract]
              exact List.take_of_length_le (by simp)
        · have hdi : ((s[i + 1].toNat : Int) == 1) = false := by
            simp only [beq_eq_false_iff_ne, ne_eq]
            intro e
            exact hd1 (UInt8.toNat_inj.1 (by have : s[i + 1].toNat = 1 := by omega
                                             rw [this]; rfl))
          rw [if_neg hd1] at hacc
          by_cases hd2' : s[i + 1] = 255
          · have hdj : ((s[i + 1].toNat : Int) == 255) = true := by rw [hd2']; rfl
            rw [if_pos hd2'] at hacc
            go_wp2_with (go_at_call 49; refine (WriteByte_any w.heap.size w.heap.size _ _ _ hI (by rw [Lib.byteCells_length]; omega) hsz).mono ?_)
            rintro e W1 ⟨rfl, h2, b1⟩
            go_wp2
            go_roundw
            case rel =>
              refine ⟨i + 2, acc ++ [0], ?_, by omega, by simp; omega, .inr ?_, hbw.trans b1, hacc⟩
              · congr 1
              · rw [Lib.byteCells_append]; exact h2
            case measure => simp [intOf]; omega
          · have hdj : ((s[i + 1].toNat : Int) == 255) = false := by
              simp only [beq_eq_false_iff_ne, ne_eq]
              intro e
              exact hd2' (UInt8.toNat_inj.1 (by have : s[i + 1].toNat = 255 := by omega
                                                rw [this]; rfl))
            rw [if_neg hd2'] at hacc
            go_wp2
            go_ret3
            rw [← hacc]
            exact ⟨⟨⟨#[]⟩, ⟨#[]⟩, rfl, rfl, rfl⟩, hbw⟩
      · have hci : (s[i].toNat != 0) = true := by
          simp only [bne_iff_ne, ne_eq]
          intro e
          exact hc (UInt8.toNat_inj.1 e)
        rw [if_neg hc] at hacc
        go_wp2_with (go_at_call 49; refine (WriteByte_any w.heap.size w.heap.size _ _ _ hI (by rw [Lib.byteCells_length]; omega) hsz).mono ?_)
        rintro e W1 ⟨rfl, h2, b1⟩
        go_wp2
        go_roundw
        case rel =>
          refine ⟨i + 1, acc ++ [s[i]], rfl, by omega, by simp; omega, .inr ?_, hbw.trans b1, ?_⟩
          · rw [Lib.byteCells_append]; exact h2
          · rw [hd2]; exact hacc
        case measure => simp [intOf]; omega
    · go_wp2
      go_ret3
      rw [tx_short (by simp; omega)] at hacc
      rw [← hacc]
      exact ⟨⟨⟨#[]⟩, ⟨#[]⟩, rfl, rfl, rfl⟩, hbw⟩

theorem text_spec {Q : V → List O → Prop} {s : List UInt8} (hs : s.length ≤ 1000000000) (h : Q (.tup [.str (tx [] s).1, .str (tx [] s).2.1, .bool (tx [] s).2.2]) []) : ACall Tryd.prog 43 0 [.str s] [] Q := by
  refine acall_below (r := .tup [.str (tx [] s).1, .str (tx [] s).2.1, .bool (tx [] s).2.2]) (fun I ρ w us hst ha => ?_) h
  obtain ⟨u, us', e1, hu, ht⟩ := ha.cons_inv
  have e2 : us' = [] := List.eq_nil_of_length_eq_zero ht.1.symm
  obtain ⟨b, hb, rfl⟩ := vr_str hu
  subst e2
  have eu : us = #[.string b] := by
    apply Array.ext'
    simpa using e1
  subst eu
  refine ⟨.tuple #[.string ⟨(tx [] s).1.toArray⟩, .string ⟨(tx [] s).2.1.toArray⟩, .bool (tx [] s).2.2], fun I ρ => .tup _ _ _ rfl ?_, ?_⟩
  · intro i x y hx hy
    exact (VRels.cons (vr_str' ⟨(tx [] s).1.toArray⟩ (l := (tx [] s).1) (by simp)) (VRels.cons (vr_str' ⟨(tx [] s).2.1.toArray⟩ (l := (tx [] s).2.1) (by simp)) (VRels.cons (.bool _ (tx [] s).2.2) (VRels.nil I ρ)))).2 i x y hx (by rw [← hy]; simp)
  · have := text_walk b w (by have : b.size = s.length := by rw [← hb]; rfl
                              omega)
    rw [hb] at this
    refine this.mono ?_
    rintro e w' ⟨⟨x, y, rfl, hx, hy⟩, hbw⟩
    refine ⟨?_, hbw⟩
    rw [← hx, ← hy]

end Go.Proofs.YtcgpgpbnpjbhhaaDoorPg

/- Keys of values: the program's functions. -/
namespace Go.Proofs.YtcgpgpbnpjbhhaaDoorPg
open Go Go.RowKit
set_option linter.unusedSimpArgs false
set_option linter.unusedVariables false

variable {Q : V → List O → Prop}

set_option maxHeartbeats 8000000 in
set_option maxRecDepth 10000 in
theorem key_spec {v : Val} {P : List UInt8} (hP : P.length ≤ 9000000) (hvt : v.t.length ≤ 4096) (h : Q (.ms 1 0 0 (bs (P ++ keyV v)).length false) [.buf (bs (P ++ keyV v))]) :
    ACall Tryd.prog 35 0 [.ms 1 0 0 (bs P).length false, valA v] [.buf (bs P)] Q := by
  refine by_body Tryd.func35 0 rfl (Nat.le_of_ble_eq_true rfl) ?_
  conv => whnf
  refine ⟨Nat.le_refl _, ?_⟩
  conv => whnf
  refine ⟨rfl, ?_⟩
  conv => whnf
  refine ⟨Nat.le_trans (Nat.mul_le_mul_right _ (by rw [List.length_append, List.length_take, List.drop_zero]; exact Nat.add_le_add (show _ ≤ 9000000 by simp only [bs_len, List.length_append, List.length_cons, List.length_nil, List.length_take, List.length_drop]; omega) (Nat.le_trans (Nat.min_le_left _ _) (by decide)))) (show (9000000 + 2) * 1 ≤ 70368744177664 by omega), ?_⟩
  conv => whnf
  by_cases k1 : v.k = 1
  focus
    have hk : keyV v = [b8 v.k, b8 v.n] := by unfold keyV keyT; rw [if_pos k1]
    rw [hk] at h
    rw [show decide (v.k = 1) = true by simp [k1]]
    conv => whnf
    refine ⟨Nat.le_refl _, ?_⟩
    conv => whnf
    refine ⟨rfl, ?_⟩
    conv => whnf
    refine ⟨Nat.le_trans (Nat.mul_le_mul_right _ (by rw [List.length_append, List.length_take, List.drop_zero]; exact Nat.add_le_add (show _ ≤ 9000001 by simp only [bs_len, List.length_append, List.length_cons, List.length_nil, List.length_take, List.length_drop]; omega) (Nat.le_trans (Nat.min_le_left _ _) (by decide)))) (show (9000001 + 2) * 1 ≤ 70368744177664 by omega), ?_⟩
    conv => whnf
    refine ⟨[5], rfl, ?_⟩
    have e : bs (P ++ [b8 v.k, b8 v.n]) = bs P ++ [[V.int .u8 (IntKind.u8.wrap v.k)]] ++ [[V.int .u8 (IntKind.u8.wrap v.n)]] := by simp [bs, b8_wrap]
    rw [e] at h
    exact h
  rw [show decide (v.k = 1) = false by simp [k1]]
  conv => whnf
  by_cases k2 : v.k = 2
  focus
    have hk : keyV v = b8 v.k :: beB (keyM v.n) 8 := by unfold keyV keyT; rw [if_neg k1, if_pos k2]
    rw [hk] at h
    rw [show decide (v.k = 2) = true by simp [k2]]
    conv => whnf
    refine ⟨⟨[0, 3, 25], fun m ws H => ∃ (j : Nat), ws = [.ms 1 1 0 (bs (P ++ b8 v.k :: beB (keyM v.n) j)).length false, .ptr 0 0, fI j] ∧
      H = [.cells (valC v), .buf (bs (P ++ b8 v.k :: beB (keyM v.n) j))] ∧ j ≤ 8 ∧ m = 8 - j, .frz 9 (.go [1, 3] rfl 8 (by omega) ⟨0, ?_, ?_, by omega, rfl⟩), ?_⟩⟩
    · show [V.ms 1 1 0 (bs P ++ [[V.int .u8 (IntKind.u8.wrap v.k)]]).length false, V.ptr 0 0, fI 0] = _
      simp [bs, beB]
    · show [O.cells (valC v), O.buf (bs P ++ [[V.int .u8 (IntKind.u8.wrap v.k)]])] = _
      simp [bs, beB, b8_wrap]
    rintro m ws H ⟨j, rfl, rfl, hj, rfl⟩
    conv => whnf
    have hbl := beB_len (keyM v.n) j
    refine branch_i (fun d1 => ?_) (fun d1 => ?_) <;> try rw [d1] <;> conv => whnf
    rotate_left
    focus
      have d1' := of_decide_eq_false d1
      have hj8 : j = 8 := by omega
      subst hj8
      exact ⟨[1], rfl, h⟩
    have d1' := of_decide_eq_true d1
    refine ⟨(by rw [IntKind.wrap_i64, IntKind.wrap_i64]; omega), ?_⟩
    conv => whnf
    refine ⟨Nat.le_refl _, ?_⟩
    conv => whnf
    refine ⟨rfl, ?_⟩
    conv => whnf
    refine ⟨Nat.le_trans (Nat.mul_le_mul_right _ (by rw [List.length_append, List.length_take, List.drop_zero]; exact Nat.add_le_add (show _ ≤ 9000009 by simp only [bs_len, List.length_append, List.length_cons, List.length_nil, List.length_take, List.length_drop]; omega) (Nat.le_trans (Nat.min_le_left _ _) (by decide)))) (show (9000009 + 2) * 1 ≤ 70368744177664 by omega), ?_⟩
    conv => whnf
    have hby := byte_eq v.n j (by omega)
    refine .go [0, 3] rfl (8 - (j + 1)) (by omega) ⟨j + 1, ?_, ?_, by omega, rfl⟩
    · show [V.ms 1 1 0 (bs (P ++ b8 v.k :: beB (keyM v.n) j) ++ [[V.int .u8 (IntKind.u8.wrap _)]]).length false, V.ptr 0 0, V.int .i64 (IntKind.i64.wrap ((j : Int) + 1))] = _
      rw [wrapI (n := (j : Int) + 1) (by omega)]; simp [bs, beB]
    · show [O.cells (valC v), O.buf (bs (P ++ b8 v.k :: beB (keyM v.n) j) ++ [[V.int .u8 (IntKind.u8.wrap _)]])] = _
      rw [b8_wrap, xor_keyB, hby]
      simp [bs, beB]
  rw [show decide (v.k = 2) = false by simp [k2]]
  conv => whnf
  by_cases k34 : v.k = 3 ∨ v.k = 4
  rotate_left
  focus
    have hk : keyV v = [b8 v.k] := by unfold keyV keyT; rw [if_neg k1, if_neg k2, if_neg k34]
    rw [hk] at h
    rw [show decide (v.k = 3) = false by simp; omega]
    conv => whnf
    rw [show decide (v.k = 4) = false by simp; omega]
    conv => whnf
    refine ⟨[3], rfl, ?_⟩
    have e : bs (P ++ [b8 v.k]) = bs P ++ [[V.int .u8 (IntKind.u8.wrap v.k)]] := by simp [bs, b8_wrap]
    rw [e] at h
    exact h
  have hk : keyV v = b8 v.k :: (escL v.t ++ [0, 1]) := by unfold keyV keyT; rw [if_neg k1, if_neg k2, if_pos k34]
  rw [hk] at h
  by_cases k3 : v.k = 3
  focus
    rw [show decide (v.k = 3) = true by simp [k3]]
    conv => whnf
  rotate_left
  focus
    rw [show decide (v.k = 3) = false by simp [k3]]
    conv => whnf
    rw [show decide (v.k = 4) = true by simp; omega]
    conv => whnf
  all_goals
    refine ⟨⟨[0, 3, 46, 47], fun m ws H => ∃ (j : Nat), ws = [.ms 1 1 0 (bs (P ++ b8 v.k :: escL (v.t.take j))).length false, .ptr 0 0, fI v.t.length, fI j] ∧
      H = [.cells (valC v), .buf (bs (P ++ b8 v.k :: escL (v.t.take j)))] ∧ j ≤ v.t.length ∧ m = v.t.length - j, .frz (v.t.length + 1) (.go [1, 3] rfl v.t.length (by omega) ⟨0, ?_, ?_, by omega, rfl⟩), ?_⟩⟩
    · show [V.ms 1 1 0 (bs P ++ [[V.int .u8 (IntKind.u8.wrap v.k)]]).length false, V.ptr 0 0, fI v.t.length, fI 0] = _
      simp [bs, escL]
    · show [O.cells (valC v), O.buf (bs P ++ [[V.int .u8 (IntKind.u8.wrap v.k)]])] = _
      simp [bs, escL, b8_wrap]
    rintro m ws H ⟨j, rfl, rfl, hj, rfl⟩
    conv => whnf
    have hel := escL_len (v.t.take j)
    rw [List.length_take] at hel
    refine branch_i (fun d1 => ?_) (fun d1 => ?_) <;> try rw [d1] <;> conv => whnf
    focus
      have d1' := of_decide_eq_true d1
      have hjl : j < v.t.length := by omega
      have hgb : v.t[j]? = some v.t[j] := List.getElem?_eq_getElem hjl
      generalize v.t[j] = b at *
      have hes := escL_snoc hgb
      refine ⟨b, ⟨by omega, hgb⟩, ?_⟩
      conv => whnf
      refine ⟨Nat.le_refl _, ?_⟩
      conv => whnf
      refine ⟨rfl, ?_⟩
      conv => whnf
      refine ⟨Nat.le_trans (Nat.mul_le_mul_right _ (by rw [List.length_append, List.length_take, List.drop_zero]; exact Nat.add_le_add (show _ ≤ 9010000 by simp only [bs_len, List.length_append, List.length_cons, List.length_nil, List.length_take, List.length_drop]; omega) (Nat.le_trans (Nat.min_le_left _ _) (by decide)))) (show (9010000 + 2) * 1 ≤ 70368744177664 by omega), ?_⟩
      conv => whnf
      refine ⟨b, ⟨by omega, hgb⟩, ?_⟩
      conv => whnf
      by_cases hb : b = 0
      · subst hb
        conv => whnf
        refine ⟨Nat.le_refl _, ?_⟩
        conv => whnf
        refine ⟨rfl, ?_⟩
        conv => whnf
        refine ⟨Nat.le_trans (Nat.mul_le_mul_right _ (by rw [List.length_append, List.length_take, List.drop_zero]; exact Nat.add_le_add (show _ ≤ 9010001 by simp only [bs_len, List.length_append, List.length_cons, List.length_nil, List.length_take, List.length_drop]; omega) (Nat.le_trans (Nat.min_le_left _ _) (by decide)))) (show (9010001 + 2) * 1 ≤ 70368744177664 by omega), ?_⟩
        conv => whnf
        have he : escB 0 = [0, 255] := rfl
        rw [he] at hes
        refine .go [0, 5] rfl (v.t.length - (j + 1)) (by omega) ⟨j + 1, ?_, ?_, by omega, rfl⟩
        · show [V.ms 1 1 0 (bs (P ++ b8 v.k :: escL (v.t.take j)) ++ [[V.int .u8 ((0 : UInt8).toNat : Int)]] ++ [[V.int .u8 255]]).length false, V.ptr 0 0, fI v.t.length, V.int .i64 (IntKind.i64.wrap ((j : Int) + 1))] = _
          rw [wrapI (n := (j : Int) + 1) (by omega), hes]; simp [bs]
        · show [O.cells (valC v), O.buf (bs (P ++ b8 v.k :: escL (v.t.take j)) ++ [[V.int .u8 ((0 : UInt8).toNat : Int)]] ++ [[V.int .u8 255]])] = _
          rw [hes]; simp [bs]
      · have hb' : ¬ (b.toNat : Int) = 0 := fun e => hb (by
          have : b.toNat = 0 := by omega
          exact UInt8.toNat_inj.1 (by rw [this]; rfl))
        rw [show decide ((b.toNat : Int) = 0) = false by simp only [hb', decide_false]]
        conv => whnf
        have he : escB b = [b] := by unfold escB; rw [if_neg hb]
        rw [he] at hes
        refine .go [0, 3] rfl (v.t.length - (j + 1)) (by omega) ⟨j + 1, ?_, ?_, by omega, rfl⟩
        · show [V.ms 1 1 0 (bs (P ++ b8 v.k :: escL (v.t.take j)) ++ [[V.int .u8 (b.toNat : Int)]]).length false, V.ptr 0 0, fI v.t.length, V.int .i64 (IntKind.i64.wrap ((j : Int) + 1))] = _
          rw [wrapI (n := (j : Int) + 1) (by omega), hes]; simp [bs]
        · show [O.cells (valC v), O.buf (bs (P ++ b8 v.k :: escL (v.t.take j)) ++ [[V.int .u8 (b.toNat : Int)]])] = _
          rw [hes]; simp [bs]
    have d1' := of_decide_eq_false d1
    have hjt : j = v.t.length := by omega
    subst hjt
    rw [List.take_length] at hel ⊢
    refine ⟨Nat.le_refl _, ?_⟩
    conv => whnf
    refine ⟨rfl, ?_⟩
    conv => whnf
    refine ⟨Nat.le_trans (Nat.mul_le_mul_right _ (by rw [List.length_append, List.length_take, List.drop_zero]; exact Nat.add_le_add (show _ ≤ 9010000 by simp only [bs_len, List.length_append, List.length_cons, List.length_nil, List.length_take, List.length_drop]; omega) (Nat.le_trans (Nat.min_le_left _ _) (by decide)))) (show (9010000 + 2) * 1 ≤ 70368744177664 by omega), ?_⟩
    conv => whnf
    refine ⟨[3], rfl, ?_⟩
    have e : bs (P ++ b8 v.k :: (escL v.t ++ [0, 1])) = bs (P ++ b8 v.k :: escL v.t) ++ [[V.int .u8 0], [V.int .u8 1]] := by simp [bs]
    rw [e] at h
    exact h

set_option maxHeartbeats 8000000 in
set_option maxRecDepth 10000 in
theorem Key_spec {l : List Val} {f : Bool} (hl : l.length ≤ 1000) (ht : TextsOk l) (h : Q (if l.all mayV then .tup [.str (keyS l), fI 0] else .tup [.str [], fI 1]) []) : ACall Tryd.prog 25 0 [.sl 3 (vals l) f] [] Q := by
  have hlv := vals_len l
  refine by_body Tryd.func25 0 rfl (Nat.le_of_ble_eq_true rfl) ?_
  conv => whnf
  refine ⟨⟨[4, 7, 8, 9], fun m ws H => ∃ i : Nat, ws = [.ms 1 0 0 (bs (keyS (l.take i))).length false, .sl 3 (vals l) f, fI l.length, fI i] ∧ H = [.buf (bs (keyS (l.take i)))] ∧ i ≤ l.length ∧ (∀ v ∈ l.take i, mayV v = true) ∧ m = l.length - i,
    .frz (l.length + 1) (.adopt (.sub _ _ (.cons (ms0_row 1 0) (VSubs.refl _)) (HSub.refl _) (.go [0] rfl l.length (by omega) ⟨0, ?_, rfl, by omega, by simp, rfl⟩))), ?_⟩⟩
  · show [V.ms 1 0 0 0 false, V.sl 3 (vals l) f, fI (vals l).length, fI 0] = _
    rw [hlv]; simp [keyS, bs]
  rintro m ws H ⟨i, rfl, rfl, hi, hm, rfl⟩
  conv => whnf
  refine branch_i (fun c1 => ?_) (fun c1 => ?_) <;> try rw [c1] <;> conv => whnf
  rotate_left
  focus
    have c1' := of_decide_eq_false c1
    have hie : l.take i = l := List.take_of_length_le (by omega)
    rw [hie] at hm ⊢
    rw [if_pos (List.all_eq_true.2 hm)] at h
    refine ⟨(by omega : 0 + (bs (keyS l)).length ≤ (bs (keyS l)).length), keyS l, ?_, ?_⟩
    · show bytesOfEs (List.take (bs (keyS l)).length (List.drop 0 (bs (keyS l)))) = _
      rw [List.drop_zero, List.take_length]; exact bytesOfEs_bs _
    conv => whnf
    exact ⟨[], rfl, h⟩
  have c1' := of_decide_eq_true c1
  have hlt : i < l.length := by omega
  have hg : l[i]? = some l[i] := List.getElem?_eq_getElem hlt
  have hvt := ht l[i] (List.getElem_mem hlt)
  have hmem : l[i] ∈ l := List.getElem_mem hlt
  generalize l[i] = v at *
  have hsn := keyS_snoc hg
  have hP : (keyS (l.take i)).length ≤ 9000000 := Nat.le_trans (keyS_len fun w hw => may_text (hm w hw)) (by rw [List.length_take]; omega)
  have htk : l.take (i + 1) = l.take i ++ [v] := by rw [List.take_add_one, hg]; rfl
  refine ⟨_, ⟨by omega, vals_get hg⟩, ?_⟩
  conv => whnf
  refine .pure (VMay_spec hvt ⟨rfl, ?_⟩)
  conv => whnf
  cases hmv : mayV v
  · conv => whnf
    rw [if_neg (by rw [List.all_eq_true]; intro hx; have := hx v hmem; rw [hmv] at this; cases this)] at h
    exact ⟨[], rfl, h⟩
  conv => whnf
  refine .call [0] 0 ⟨rfl, rfl, rfl⟩ (key_spec hP (may_text hmv) ?_)
  rw [← hsn]
  conv => whnf
  refine .go [0] rfl (l.length - (i + 1)) (by omega) ⟨i + 1, ?_, rfl, by omega, ?_, rfl⟩
  · show [V.ms 1 0 0 (bs (keyS (l.take (i + 1)))).length false, V.sl 3 (vals l) f, fI l.length, V.int .i64 (IntKind.i64.wrap ((i : Int) + 1))] = _
    rw [wrapI (by omega)]; rfl
  · rw [htk]
    intro w hw
    rcases List.mem_append.1 hw with h1 | h1
    · exact hm w h1
    · simp at h1; subst h1; exact hmv

theorem keyOk_may {l : List Col} {keys : Nat} {vs : List Val} (hk : keys ≤ l.length) (h : keyOkL l keys vs = true) : keys ≤ vs.length ∧ (vs.take keys).all mayV = true := by
  unfold keyOkL at h
  rw [Bool.and_eq_true, decide_eq_true_eq, List.all_eq_true] at h
  refine ⟨h.1, List.all_eq_true.2 fun v hv => ?_⟩
  obtain ⟨i, hi⟩ := List.mem_iff_getElem?.1 hv
  have hlt := (List.getElem?_eq_some_iff.1 hi).1
  rw [List.length_take] at hlt
  rw [List.getElem?_take_of_lt (by omega)] at hi
  have := h.2 i (List.mem_range.2 (by omega))
  rw [stAt_some (List.getElem?_eq_getElem (show i < l.length by omega)) hi] at this
  unfold standsV at this
  rw [Bool.and_eq_true] at this
  exact this.1

set_option maxHeartbeats 4000000 in
theorem SKey_spec {l : List Col} {keys : Nat} {vs : List Val} {f : Bool} (hl : l.length ≤ 1000) (hk : keys ≤ l.length) (ht : TextsOk vs) (h : Q (keyR l keys vs) []) :
    ACall Tryd.prog 15 0 [sch l keys, .sl 3 (vals vs) f] [] Q := by
  have hlv := vals_len vs
  refine by_body Tryd.func15 0 rfl (Nat.le_of_ble_eq_true rfl) ?_
  conv => whnf
  unfold keyR at h
  refine .pure (begins_spec hl hk ht ⟨rfl, ?_⟩)
  conv => whnf
  cases e : keyOkL l keys vs <;> rw [e] at h <;> conv => whnf
  focus exact ⟨[], rfl, h⟩
  obtain ⟨e1, e2⟩ := keyOk_may hk e
  refine ⟨⟨by omega, by omega⟩, ?_⟩
  conv => whnf
  rw [show List.take (keys : Int).toNat (vals vs) = vals (vs.take keys) from vals_take vs keys]
  refine .pure (Key_spec (by rw [List.length_take]; omega) (fun v hv => ht v (List.mem_of_mem_take hv)) ⟨rfl, ?_⟩)
  rw [e2]
  conv => whnf
  exact ⟨[], rfl, h⟩

end Go.Proofs.YtcgpgpbnpjbhhaaDoorPg

/- Keys of values, read: the program's functions. -/
namespace Go.Proofs.YtcgpgpbnpjbhhaaDoorPg
open Go Go.RowKit
set_option linter.unusedSimpArgs false
set_option linter.unusedVariables false

variable {Q : V → List O → Prop}

set_option maxHeartbeats 8000000 in
set_option maxRecDepth 10000 in
theorem one_spec {c : UInt8} {r : List UInt8} (hs : r.length ≤ 100000000) (h : Q (.tup [valA (oneT (c :: r)).1, .str (oneT (c :: r)).2.1, .bool (oneT (c :: r)).2.2]) []) : ACall Tryd.prog 33 0 [.str (c :: r)] [] Q := by
  refine by_body Tryd.func33 0 rfl (Nat.le_of_ble_eq_true rfl) ?_
  conv => whnf
  refine ⟨List.range 9, by kernel_rfl, by kernel_rfl, ?_⟩
  conv => whnf
  refine ⟨c, ⟨by omega, rfl⟩, ?_⟩
  conv => whnf
  refine ⟨⟨by decide, by rw [List.length_cons]; omega⟩, ?_⟩
  conv => whnf
  repeat (refine ⟨rfl, ?_⟩)
  conv => whnf
  have hc := c.toNat_lt
  have hw : IntKind.i64.wrap (c.toNat : Int) = c.toNat := wrapI (by omega)
  rw [hw]
  simp only [oneT] at h
  unfold oneP at h
  by_cases k1 : (c.toNat : Int) = 1
  focus
    rw [if_pos k1] at h
    rw [show decide ((c.toNat : Int) = 1) = true by simp [k1]]
    conv => whnf
    cases r with
    | nil =>
      conv => whnf
      refine ⟨List.range 10, by kernel_rfl, by kernel_rfl, ?_⟩
      conv => whnf
      refine ⟨[], rfl, ?_⟩
      show Q (.tup [.agg [.int .i64 c.toNat, .int .i64 0, .str []], .str [], .bool false]) []
      rw [k1]
      exact h
    | cons d r =>
      conv => whnf
      refine ⟨List.range 8, by kernel_rfl, by kernel_rfl, ?_⟩
      conv => whnf
      refine ⟨d, ⟨by omega, rfl⟩, ?_⟩
      conv => whnf
      refine ⟨⟨by decide, by show (1 : Int) ≤ ((d :: r).length : Int); rw [List.length_cons]; omega⟩, ?_⟩
      conv => whnf
      repeat (refine ⟨rfl, ?_⟩)
      conv => whnf
      have hd := d.toNat_lt
      have hwd : IntKind.i64.wrap (d.toNat : Int) = d.toNat := wrapI (by omega)
      rw [hwd]
      refine ⟨List.range 10, by kernel_rfl, by kernel_rfl, ?_⟩
      conv => whnf
      refine .pure (VMay_spec (v := ⟨c.toNat, d.toNat, []⟩) (by simp) ⟨rfl, ?_⟩)
      conv => whnf
      repeat (refine ⟨rfl, ?_⟩)
      conv => whnf
      refine ⟨[], rfl, ?_⟩
      show Q (.tup [.agg [.int .i64 c.toNat, .int .i64 d.toNat, .str []], .str r, .bool (mayV ⟨c.toNat, d.toNat, []⟩)]) []
      rw [k1]
      exact h
  rw [if_neg k1] at h
  rw [show decide ((c.toNat : Int) = 1) = false by simp [k1]]
  conv => whnf
  by_cases k2 : (c.toNat : Int) = 2
  focus
    rw [if_pos k2] at h
    rw [show decide ((c.toNat : Int) = 2) = true by simp [k2]]
    conv => whnf
    refine branch_i (fun c1 => ?_) (fun c1 => ?_) <;> try rw [c1] <;> conv => whnf
    rotate_left
    focus
      have c1' := of_decide_eq_false c1
      have c8 : ¬ 8 ≤ r.length := fun e => c1' (by show (8 : Int) ≤ (r.length : Int); omega)
      rw [if_neg c8] at h
      refine ⟨List.range 10, by kernel_rfl, by kernel_rfl, ?_⟩
      conv => whnf
      refine ⟨[], rfl, ?_⟩
      show Q (.tup [.agg [.int .i64 c.toNat, .int .i64 0, .str []], .str r, .bool false]) []
      rw [k2]
      exact h
    have c8 : 8 ≤ r.length := by have : (8 : Int) ≤ (r.length : Int) := of_decide_eq_true c1
                                 omega
    rw [if_pos c8] at h
    refine ⟨⟨[0, 2, 5, 6, 7, 34], fun m ws H => ∃ (j : Nat), ws = [.str r, .ptr 0 0, .ptr 1 0, .bool true, .int .u64 (deB (r.take j)), fI j] ∧
      H = [.cells [fI 0, fI 0, .str []], .cells [.int .i64 c.toNat, fI 0, .str []]] ∧ j ≤ 8 ∧ m = 8 - j, .frz 9 (.go [0, 1] rfl 8 (by omega) ⟨0, rfl, rfl, by omega, rfl⟩), ?_⟩⟩
    rintro m ws H ⟨j, rfl, rfl, hj, rfl⟩
    conv => whnf
    refine branch_i (fun d1 => ?_) (fun d1 => ?_) <;> try rw [d1] <;> conv => whnf
    rotate_left
    focus
      have d1' := of_decide_eq_false d1
      have hj8 : j = 8 := by omega
      subst hj8
      refine ⟨List.range 8, by kernel_rfl, by kernel_rfl, ?_⟩
      conv => whnf
      refine ⟨⟨by omega, by omega⟩, ?_⟩
      conv => whnf
      repeat (refine ⟨rfl, ?_⟩)
      conv => whnf
      obtain ⟨hb0, hb1⟩ := deB_bd r 8 c8
      have e256 : (256 : Int) ^ 8 = 18446744073709551616 := by decide
      rw [xor_back hb0 (by omega)]
      refine ⟨List.range 10, by kernel_rfl, by kernel_rfl, ?_⟩
      conv => whnf
      refine .pure (VMay_spec (v := ⟨c.toNat, deB (r.take 8) - 9223372036854775808, []⟩) (by simp) ⟨rfl, ?_⟩)
      conv => whnf
      repeat (refine ⟨rfl, ?_⟩)
      conv => whnf
      refine ⟨[], rfl, ?_⟩
      show Q (.tup [.agg [.int .i64 c.toNat, .int .i64 (deB (r.take 8) - 9223372036854775808), .str []], .str (r.drop 8), .bool (mayV ⟨c.toNat, deB (r.take 8) - 9223372036854775808, []⟩)]) []
      rw [k2]
      exact h
    have d1' := of_decide_eq_true d1
    have hlt : j < r.length := by omega
    have hg : r[j]? = some r[j] := List.getElem?_eq_getElem hlt
    generalize r[j] = b at *
    refine ⟨by decide, ?_⟩
    conv => whnf
    refine ⟨b, ⟨by omega, hg⟩, ?_⟩
    conv => whnf
    obtain ⟨hb0, hb1⟩ := deB_bd r j (by omega)
    have hp := pow_le8 (j := j) (by omega)
    refine .go [0, 1] rfl (8 - (j + 1)) (by omega) ⟨j + 1, ?_, rfl, by omega, rfl⟩
    show [V.str r, V.ptr 0 0, V.ptr 1 0, V.bool true, V.int .u64 _, V.int .i64 (IntKind.i64.wrap ((j : Int) + 1))] = _
    rw [or_step hb0 (by omega), wrapI (n := (j : Int) + 1) (by omega), deB_take hg]; rfl
  rw [if_neg k2] at h
  rw [show decide ((c.toNat : Int) = 2) = false by simp [k2]]
  conv => whnf
  by_cases k34 : (c.toNat : Int) = 3 ∨ (c.toNat : Int) = 4
  rotate_left
  focus
    rw [if_neg k34] at h
    rw [show decide ((c.toNat : Int) = 3) = false by simp; omega]
    conv => whnf
    rw [show decide ((c.toNat : Int) = 4) = false by simp; omega]
    conv => whnf
    refine ⟨List.range 10, by kernel_rfl, by kernel_rfl, ?_⟩
    conv => whnf
    refine .pure (VMay_spec (v := ⟨c.toNat, 0, []⟩) (by simp) ⟨rfl, ?_⟩)
    conv => whnf
    repeat (refine ⟨rfl, ?_⟩)
    conv => whnf
    exact ⟨[], rfl, h⟩
  rw [if_pos k34] at h
  by_cases k3 : (c.toNat : Int) = 3
  focus
    rw [show decide ((c.toNat : Int) = 3) = true by simp [k3]]
    conv => whnf
  rotate_left
  focus
    rw [show decide ((c.toNat : Int) = 3) = false by simp [k3]]
    conv => whnf
    rw [show decide ((c.toNat : Int) = 4) = true by simp; omega]
    conv => whnf
  all_goals
    refine .pure (text_spec (by show r.length ≤ _; omega) ⟨rfl, ?_⟩)
    conv => whnf
    have hl := (tx_len r.length [] r (Nat.le_refl _)).1
    simp only [List.length_nil] at hl
    refine ⟨List.range 10, by kernel_rfl, by kernel_rfl, ?_⟩
    conv => whnf
    cases e : (tx [] r).2.2
    · rw [show (tx [] (List.drop (Int.toNat 1) (c :: r))).2.2 = false from e]
      rw [e] at h
      conv => whnf
      exact ⟨[], rfl, h⟩
    rw [show (tx [] (List.drop (Int.toNat 1) (c :: r))).2.2 = true from e]
    rw [e] at h
    conv => whnf
    refine .pure (VMay_spec (v := ⟨c.toNat, 0, (tx [] r).1⟩) (by show (tx [] r).1.length < _; omega) ⟨rfl, ?_⟩)
    conv => whnf
    repeat (refine ⟨rfl, ?_⟩)
    conv => whnf
    exact ⟨[], rfl, h⟩

theorem oneT_eta (s : List UInt8) : oneT s = ((oneT s).1, (oneT s).2.1, (oneT s).2.2) := rfl

def valsR : Option (List Val) → V
  | some l => .tup [.sl 3 (vals l) false, fI 0]
  | none => .tup [.nils, fI 2]

set_option maxHeartbeats 8000000 in
set_option maxRecDepth 10000 in
theorem Values_spec {s : List UInt8} (hs : s.length ≤ 10000000) (h : Q (valsR (valuesL s)) []) : ACall Tryd.prog 24 0 [.str s] [] Q := by
  refine ACall.ret (by_body Tryd.func24 0 rfl (Nat.le_of_ble_eq_true rfl) ?_)
  conv => whnf
  unfold valuesL at h
  generalize hR : valuesF (s.length + 1) [] s = R at h
  refine ⟨⟨[0, 4], fun m ws H => ∃ (out : List Val) (q : List UInt8) (f : Nat), ws = [.str q, .ms 3 0 0 (vals out).length false] ∧ H = [.buf (vals out)] ∧ q.length < f ∧ q.length + out.length ≤ s.length ∧ valuesF f out q = R ∧ m = f,
    .frz (s.length + 2) (.adopt (.sub _ _ (.cons (VSub.refl _) (.cons (ms0_row 3 0) (VSubs.refl _))) (HSub.refl _) (.go [0] rfl (s.length + 1) (by omega) ⟨[], s, s.length + 1, rfl, rfl, by omega, by simp, hR, rfl⟩))), ?_⟩⟩
  rintro m ws H ⟨out, q, f, rfl, rfl, hf, hl, hq, rfl⟩
  conv => whnf
  obtain ⟨g, rfl⟩ : ∃ g, m = g + 1 := ⟨m - 1, by omega⟩
  unfold valuesF at hq
  have hlo := vals_len out
  cases q with
  | nil =>
    rw [if_pos rfl] at hq
    conv => whnf
    subst hq
    refine ⟨[0], rfl, .frz 0 rfl (by repeat (first | exact trivial | refine And.intro (Nat.le_of_eq (Nat.zero_add _)) ?_)) (.done [] rfl ?_)⟩
    show Q (.tup [.sl 3 (List.take (vals out).length (vals out)) false, fI 0]) []
    rw [List.take_length]; exact h
  | cons c r =>
    rw [if_neg (List.cons_ne_nil c r)] at hq
    simp only [List.length_cons] at hl hf
    have hol := oneT_len (List.cons_ne_nil c r)
    simp only [List.length_cons] at hol
    conv => whnf
    refine .pure (one_spec (by omega) ⟨rfl, ?_⟩)
    rw [oneT_eta (c :: r)] at hq ⊢
    generalize (oneT (c :: r)).1 = v at *
    generalize (oneT (c :: r)).2.1 = q at *
    generalize (oneT (c :: r)).2.2 = ok at *
    conv => whnf
    cases ok
    · rw [if_neg (by simp)] at hq
      subst hq
      conv => whnf
      exact ⟨[], rfl, .done [] rfl h⟩
    rw [if_pos rfl] at hq
    conv => whnf
    refine ⟨Nat.le_refl _, ?_⟩
    conv => whnf
    refine ⟨rfl, ?_⟩
    conv => whnf
    refine ⟨Nat.le_trans (Nat.mul_le_mul_right _ (by rw [List.length_append, List.length_take, List.drop_zero, hlo]; exact Nat.add_le_add (Nat.le_refl out.length) (Nat.min_le_left _ _))) (show (out.length + 1) * 32 ≤ 70368744177664 by omega), ?_⟩
    conv => whnf
    have hsn : vals (out ++ [v]) = vals out ++ [valC v] := by simp [vals]
    refine .go [3] rfl g (by omega) ⟨out ++ [v], q, g, ?_, ?_, by omega, by rw [List.length_append, List.length_singleton]; omega, hq, rfl⟩
    · show [V.str q, V.ms 3 0 0 (vals out ++ [valC v]).length false] = _
      rw [hsn]
    · show [O.buf (vals out ++ [valC v])] = _
      rw [hsn]

def partR (l : List Col) (keys : Nat) (s : List UInt8) : V := match valuesL s with
  | some vs => if vs.length = keys ∧ keyOkL l keys vs = true then .tup [.sl 3 (vals vs) false, fI 0] else .tup [.nils, fI 2]
  | none => .tup [.nils, fI 2]

theorem valuesF_txt : ∀ (f : Nat) (acc : List Val) (s : List UInt8) (l : List Val) (n : Nat), valuesF f acc s = some l → s.length ≤ n → (∀ v ∈ acc, v.t.length ≤ n) → ∀ v ∈ l, v.t.length ≤ n
  | 0, _, _, _, _, h, _, _ => by simp [valuesF] at h
  | f + 1, acc, s, l, n, h, hs, ha => by
    unfold valuesF at h
    split at h
    · cases h; exact ha
    · rename_i hne
      split at h
      · have ho := oneT_len hne
        refine valuesF_txt f _ _ l n h (by omega) fun v hv => ?_
        rcases List.mem_append.1 hv with h1 | h1
        · exact ha v h1
        · simp at h1; subst h1; omega
      · cases h

set_option maxHeartbeats 8000000 in
theorem Part_spec {l : List Col} {keys : Nat} {s : List UInt8} (hl : l.length ≤ 1000) (hk : keys ≤ l.length) (hs : s.length ≤ 10000000) (h : Q (partR l keys s) []) : ACall Tryd.prog 13 0 [sch l keys, .str s] [] Q := by
  refine by_body Tryd.func13 0 rfl (Nat.le_of_ble_eq_true rfl) ?_
  conv => whnf
  refine .pure (Values_spec hs ⟨rfl, ?_⟩)
  unfold partR at h
  have htx := valuesF_txt (s.length + 1) [] s
  cases hv : valuesL s with
  | none =>
    rw [hv] at h
    conv => whnf
    exact ⟨[], rfl, h⟩
  | some vs =>
    have ht : TextsOk vs := fun v hm => Nat.lt_of_le_of_lt (htx vs 10000000 hv hs (by simp) v hm) (by decide)
    have hvl := vals_len vs
    rw [hv] at h
    conv => whnf
    by_cases e : vs.length = keys
    rotate_left
    focus
      rw [show decide (((vals vs).length : Int) = (keys : Int)) = false by simp only [hvl, decide_eq_false_iff_not]; omega]
      conv => whnf
      rw [show (match some vs with | some vs => if vs.length = keys ∧ keyOkL l keys vs = true then V.tup [.sl 3 (vals vs) false, fI 0] else V.tup [.nils, fI 2] | none => V.tup [.nils, fI 2]) = V.tup [.nils, fI 2] from if_neg (fun x => e x.1)] at h
      exact ⟨[], rfl, h⟩
    rw [show decide (((vals vs).length : Int) = (keys : Int)) = true by simp only [hvl, decide_eq_true_eq]; omega]
    conv => whnf
    refine .pure (begins_spec hl hk ht ⟨rfl, ?_⟩)
    conv => whnf
    cases e2 : keyOkL l keys vs
    · conv => whnf
      simp only [e, e2, Bool.false_eq_true, and_false, if_false] at h
      exact ⟨[], rfl, h⟩
    · conv => whnf
      simp only [e, e2, and_self, if_true] at h
      exact ⟨[], rfl, h⟩

end Go.Proofs.YtcgpgpbnpjbhhaaDoorPg

/- The laws SchemaBack and SchemaTurns. -/
namespace Go.Proofs.YtcgpgpbnpjbhhaaDoorPg
open Go Go.RowKit
set_option linter.unusedSimpArgs false
set_option linter.unusedVariables false

variable {Q : V → List O → Prop}

theorem goodV_text (v : Val) : (goodV v).t.length ≤ 40 := by
  have := text40_len v.t
  unfold goodV
  repeat' split
  all_goals simp only
  all_goals first | (simp only [List.length_nil]; omega) | omega

theorem rowV_text (c : Col) (v : Val) : (rowV c v).t.length ≤ 40 := by
  unfold rowV
  split
  · simp [val0]
  · exact goodV_text _

theorem row_mem {l : List Col} {vs : List Val} {v : Val} (h : v ∈ rowL l vs) : ∃ (i : Nat) (c : Col), l[i]? = some c ∧ v = rowV c (vs.getD i val0) := by
  obtain ⟨i, hi⟩ := List.mem_iff_getElem?.1 h
  have hlt := (List.getElem?_eq_some_iff.1 hi).1
  rw [rowL_len] at hlt
  have hc : l[i]? = some l[i] := List.getElem?_eq_getElem hlt
  rw [rowL_get l vs hc] at hi
  cases hi
  exact ⟨i, l[i], hc, rfl⟩

theorem row_texts (l : List Col) (vs : List Val) : ∀ v ∈ rowL l vs, v.t.length ≤ 40 := fun v hv => by
  obtain ⟨i, c, _, rfl⟩ := row_mem hv
  exact rowV_text _ _

theorem turn_texts {l : List Col} {k : Int} {c : Col} {r : List Val} (h : ∀ v ∈ r, v.t.length ≤ 40) : TextsOk (turnS l k c r) := fun v hv => by
  have h0 : val0.t.length ≤ 40 := by simp [val0]
  unfold turnS at hv
  have key : ∀ v, v ∈ r ∨ v = val0 → v.t.length < 1000000000000000000 := fun v hv => by
    rcases hv with hv | rfl
    · have := h v hv; omega
    · omega
  refine key v ?_
  repeat' split at hv
  · rcases List.mem_append.1 hv with h1 | h1
    · exact .inl h1
    · simp at h1; exact .inr h1
  · exact .inl ((List.eraseIdx_sublist _ _).subset hv)
  · rcases List.mem_or_eq_of_mem_set hv with h1 | h1
    · exact .inl h1
    · exact .inr h1
  · exact .inl hv

theorem take_erase {α : Type} {l : List α} {n i : Nat} (h : n ≤ i) : (l.eraseIdx i).take n = l.take n := by
  refine List.ext_getElem? fun j => ?_
  rw [List.getElem?_take, List.getElem?_take]
  by_cases hj : j < n
  · rw [if_pos hj, if_pos hj, List.getElem?_eraseIdx, if_pos (by omega)]
  · rw [if_neg hj, if_neg hj]

/-- What a change that can be does to a row that fits. -/
structure Turned (l : List Col) (keys : Int) (k : Int) (c : Col) (r : List Val) : Prop where
  can : CanTurn l k c r.length
  keyed : (applyS l keys k c).2.1 = keys
  fits : fitsL (applyS l keys k c).1 (turnS l k c r) = true
  same : (turnS l k c r).take keys.toNat = r.take keys.toNat
  len : keys.toNat ≤ (turnS l k c r).length
  stand : standN (applyS l keys k c).1 (turnS l k c r) keys.toNat

theorem stands_null {c : Col} (h : c.o = true) : standsV c val0 = true := by
  unfold standsV mayV val0; simp [h]

theorem turned {l : List Col} {keys k : Int} {c : Col} {r : List Val} (hs : SchOk l keys) (hr : r.length = l.length) (hf : ∀ (i : Nat) (c : Col) (v : Val), l[i]? = some c → r[i]? = some v → standsV c v = true)
    (he : (applyS l keys k c).2.2 = 0) : Turned l keys k c r := by
  have h1 := hs.lo; have h2 := hs.len
  have hfl := fnd_lt (name := c.n) (l := l) (i := 0)
  have mk : ∀ (l' : List Col), (applyS l keys k c) = (l', keys, 0) → CanTurn l k c r.length → (turnS l k c r).length = l'.length → keys ≤ l'.length → (turnS l k c r).take keys.toNat = r.take keys.toNat →
      (∀ (i : Nat) (c' : Col) (v : Val), l'[i]? = some c' → (turnS l k c r)[i]? = some v → standsV c' v = true) → Turned l keys k c r := by
    intro l' e hc hl hk hsame hst
    refine ⟨hc, by rw [e], by rw [e]; exact fits_yes hl hst, hsame, by omega, fun i c' v _ hc' hv => ?_⟩
    rw [e] at hc'
    exact hst i c' v hc' hv
  unfold applyS at he
  by_cases k3 : k = 3
  · subst k3
    rw [if_pos rfl] at he
    have e : applyS l keys 3 c = addS l keys c := by unfold applyS; rw [if_pos rfl]
    have et : turnS l 3 c r = r ++ [val0] := by unfold turnS; rw [if_pos rfl]
    have ea : addS l keys c = (l ++ [c], keys, 0) ∧ c.o = true := by
      unfold addS at he ⊢
      by_cases g1 : (nameOk c.n && kindOk c.k && c.o) = true
      rotate_left
      · rw [if_neg g1] at he; simp at he
      rw [if_pos g1] at he ⊢
      by_cases g2 : 0 ≤ fnd c.n l 0
      · rw [if_pos g2] at he; simp at he
      rw [if_neg g2] at he ⊢
      by_cases g3 : l.length = 16
      · rw [if_pos g3] at he; simp at he
      rw [if_neg g3]
      simp only [Bool.and_eq_true] at g1
      exact ⟨rfl, g1.2⟩
    refine mk (l ++ [c]) (by rw [e, ea.1]) (.inl rfl) (by rw [et]; simp [hr]) (by simp; omega) (by rw [et, List.take_append_of_le_length (by omega)]) fun i c' v hc' hv => ?_
    rw [et] at hv
    rcases Nat.lt_or_ge i l.length with hi | hi
    · rw [List.getElem?_append_left hi] at hc'
      rw [List.getElem?_append_left (by omega)] at hv
      exact hf i c' v hc' hv
    · rw [List.getElem?_append_right hi] at hc'
      rw [List.getElem?_append_right (by omega)] at hv
      have : i - l.length = 0 := by
        have := (List.getElem?_eq_some_iff.1 hc').1
        simp at this; omega
      rw [this] at hc'
      rw [show i - r.length = 0 by omega] at hv
      simp at hc' hv
      subst hc'; subst hv
      exact stands_null ea.2
  rw [if_neg k3] at he
  by_cases k4 : k = 4
  · subst k4
    rw [if_pos rfl] at he
    have e : applyS l keys 4 c = cutS l keys c := by unfold applyS; rw [if_neg (by decide), if_pos rfl]
    have et : turnS l 4 c r = r.eraseIdx (fnd c.n l 0).toNat := by unfold turnS; rw [if_neg (by decide), if_pos rfl]
    unfold cutS at he
    by_cases g1 : fnd c.n l 0 < 0
    · rw [if_pos g1] at he; simp at he
    rw [if_neg g1] at he
    by_cases g2 : fnd c.n l 0 < keys
    · rw [if_pos g2] at he; simp at he
    have ea : cutS l keys c = (l.eraseIdx (fnd c.n l 0).toNat, keys, 0) := by unfold cutS; rw [if_neg g1, if_neg g2]
    have hlt : (fnd c.n l 0).toNat < l.length := by omega
    refine mk _ (by rw [e, ea]) (.inr ⟨.inl rfl, by omega, by omega⟩) (by rw [et, List.length_eraseIdx, List.length_eraseIdx, if_pos hlt, if_pos (by omega), hr]) (by rw [List.length_eraseIdx, if_pos hlt]; omega) (by rw [et, take_erase (by omega)]) fun i c' v hc' hv => ?_
    rw [et] at hv
    rw [List.getElem?_eraseIdx] at hc' hv
    by_cases hi : i < (fnd c.n l 0).toNat
    · rw [if_pos hi] at hc' hv; exact hf i c' v hc' hv
    · rw [if_neg hi] at hc' hv; exact hf (i + 1) c' v hc' hv
  rw [if_neg k4] at he
  by_cases k5 : k = 5
  rotate_left
  · rw [if_neg k5] at he; simp at he
  subst k5
  rw [if_pos rfl] at he
  have e : applyS l keys 5 c = retS l keys c := by unfold applyS; rw [if_neg (by decide), if_neg (by decide), if_pos rfl]
  have et : turnS l 5 c r = r.set (fnd c.n l 0).toNat val0 := by unfold turnS; rw [if_neg (by decide), if_neg (by decide), if_pos rfl]
  unfold retS at he
  by_cases g1 : fnd c.n l 0 < 0
  · rw [if_pos g1] at he; simp at he
  rw [if_neg g1] at he
  by_cases g2 : fnd c.n l 0 < keys
  · rw [if_pos g2] at he; simp at he
  rw [if_neg g2] at he
  by_cases g3 : ((l[(fnd c.n l 0).toNat]?).map Col.o).getD false = false
  · rw [if_pos g3] at he; simp at he
  rw [if_neg g3] at he
  by_cases g4 : kindOk c.k = true
  rotate_left
  · rw [if_neg g4] at he; simp at he
  have ea : retS l keys c = (setKind l (fnd c.n l 0).toNat c.k, keys, 0) := by unfold retS; rw [if_neg g1, if_neg g2, if_neg g3, if_pos g4]
  have hlt : (fnd c.n l 0).toNat < l.length := by omega
  refine mk _ (by rw [e, ea]) (.inr ⟨.inr rfl, by omega, by omega⟩) (by rw [et, List.length_set, setKind_len, hr]) (by rw [setKind_len]; omega) (by rw [et, List.take_set_of_le (by omega)]) fun i c' v hc' hv => ?_
  rw [et, List.getElem?_set] at hv
  rw [setKind, List.getElem?_modify] at hc'
  generalize (fnd c.n l 0).toNat = p at *
  cases hx : l[i]? with
  | none => rw [hx] at hc'; simp at hc'
  | some d =>
    rw [hx] at hc'
    by_cases hi : p = i
    · subst hi
      rw [if_pos rfl, if_pos (by omega)] at hv
      simp at hc' hv
      subst hc'; subst hv
      rw [hx] at g3
      refine stands_null ?_
      simp at g3
      exact g3
    · rw [if_neg hi] at hv
      simp [hi] at hc'
      subst hc'
      exact hf i d v hx hv

/-- numbers that are numbers, texts that are texts -/
def ValsOk (vs : List Val) : Prop := ∀ v ∈ vs, I64 v.k

theorem kinds_ok {l : List Col} {keys : Int} (h : SchOk l keys) : ∀ c ∈ l, 1 ≤ c.k ∧ c.k ≤ 4 := fun c hc => by
  have := (h.cols c hc).2
  unfold kindOk at this
  simp at this
  exact this

theorem kinds_i64 {l : List Col} {keys : Int} (h : SchOk l keys) : ∀ c ∈ l, -9223372036854775808 ≤ c.k ∧ c.k ≤ 9223372036854775807 := fun c hc => by
  have := kinds_ok h c hc; omega

theorem row_stands {l : List Col} {keys : Int} (h : SchOk l keys) (vs : List Val) : ∀ (i : Nat) (c : Col) (v : Val), l[i]? = some c → (rowL l vs)[i]? = some v → standsV c v = true := fun i c v hc hv => by
  rw [rowL_get l vs hc] at hv
  cases hv
  exact good_stands (kinds_ok h c (List.mem_of_getElem? hc)) _

theorem add_then_cut {l : List Col} {keys : Int} {c : Col} (hs : SchOk l keys) (he : (applyS l keys 3 c).2.2 = 0) :
    applyS l keys 3 c = (l ++ [c], keys, 0) ∧ fnd c.n (l ++ [c]) 0 = l.length ∧ applyS (l ++ [c]) keys 4 c = (l, keys, 0) := by
  have h1 := hs.len
  have e : applyS l keys 3 c = addS l keys c := by unfold applyS; rw [if_pos rfl]
  rw [e] at he ⊢
  unfold addS at he ⊢
  by_cases g1 : (nameOk c.n && kindOk c.k && c.o) = true
  rotate_left
  · rw [if_neg g1] at he; simp at he
  rw [if_pos g1] at he ⊢
  by_cases g2 : 0 ≤ fnd c.n l 0
  · rw [if_pos g2] at he; simp at he
  rw [if_neg g2] at he ⊢
  by_cases g3 : l.length = 16
  · rw [if_pos g3] at he; simp at he
  rw [if_neg g3]
  have hf : fnd c.n (l ++ [c]) 0 = l.length := by
    rw [fnd_skip fun d hd => fnd_neg (i := 0) (by omega) d hd]
    simp [fnd]
  refine ⟨rfl, hf, ?_⟩
  unfold applyS cutS
  rw [if_neg (by decide), if_pos rfl, hf, if_neg (by omega), if_neg (by omega), Int.toNat_natCast]
  simp [List.eraseIdx_append_of_length_le]

theorem vals_of : ∀ {es : List (List V)}, (∀ x ∈ es, ∃ (k n : Int) (s : List UInt8), x = [.int .i64 k, .int .i64 n, .str s] ∧ I64 k ∧ I64 n ∧ s.length ≤ Globs.txt) → ∃ l : List Val, es = vals l ∧ ∀ v ∈ l, I64 v.k ∧ I64 v.n ∧ v.t.length ≤ Globs.txt
  | [], _ => ⟨[], rfl, by simp⟩
  | x :: es, h => by
    obtain ⟨k, n, s, rfl, hk⟩ := h x (by simp)
    obtain ⟨l, rfl, hl⟩ := vals_of (es := es) fun y hy => h y (by simp [hy])
    exact ⟨⟨k, n, s⟩ :: l, rfl, by simpa using ⟨hk, hl⟩⟩

theorem vals_in {vs : List V} (h : Shp tt 8 25 vs) : ∃ l : List Val, argV tt 25 vs = .sl 3 (vals l) false ∧ ∀ v ∈ l, I64 v.k ∧ I64 v.n ∧ v.t.length ≤ Globs.txt := by
  obtain ⟨es, _, g1, rfl⟩ := h
  obtain ⟨l, rfl, hl⟩ := vals_of fun x hx => by
    obtain ⟨_, _, ⟨k, hk, rfl⟩, ⟨_, _, ⟨n, hn, rfl⟩, ⟨_, _, ⟨s, hs, rfl⟩, rfl, rfl⟩, rfl⟩, rfl⟩ := g1 x hx
    exact ⟨k, n, s, rfl, i64_wf hk, i64_wf hn, hs⟩
  exact ⟨l, rfl, hl⟩

theorem col_in {vs : List V} (h : Shp tt 8 43 vs) : ∃ c : Col, argV tt 43 vs = colA c ∧ I64 c.k := by
  obtain ⟨_, _, ⟨n, _, rfl⟩, ⟨_, _, ⟨ck, hck, rfl⟩, ⟨_, _, ⟨o, rfl⟩, rfl, rfl⟩, rfl⟩, rfl⟩ := h
  exact ⟨⟨n, ck, o⟩, rfl, i64_wf hck⟩

end Go.Proofs.YtcgpgpbnpjbhhaaDoorPg

/- The law SchemaKeys. -/
namespace Go.Proofs.YtcgpgpbnpjbhhaaDoorPg
open Go Go.RowKit
set_option linter.unusedSimpArgs false
set_option linter.unusedVariables false

variable {Q : V → List O → Prop}

theorem goodK5_bd {k : Int} (h : I64 k) : 0 ≤ goodK5 k ∧ goodK5 k ≤ 4 := by
  obtain ⟨h1, h2⟩ := h
  have hn : 0 ≤ natI k := by
    unfold natI
    split
    · rw [wrapI (n := k + 1) (by omega), wrapI (by omega)]; omega
    · omega
  unfold goodK5
  rw [Int.tmod_eq_emod_of_nonneg hn]
  omega

theorem goodV_n {v : Val} (h : I64V v.n) : I64V (goodV v).n := by
  unfold goodV
  repeat' split
  all_goals first | exact h | (unfold I64V; simp only; omega)

theorem goodV_may {v : Val} (h : I64 v.k) : mayV (goodV v) = true := by
  have hk := goodK5_bd h
  have ht : (text40 v.t).length ≤ 40 := by
    unfold text40; split
    · rw [List.length_take]; omega
    · omega
  unfold goodV
  by_cases c1 : goodK5 v.k = 1
  · rw [if_pos c1, c1]; unfold mayV
    rw [if_neg (by simp only; omega), if_pos (by simp only)]
    simp only
    split <;> simp
  rw [if_neg c1]
  by_cases c2 : goodK5 v.k = 2
  · rw [if_pos c2, c2]; unfold mayV
    rw [if_neg (by simp only; omega), if_neg (by simp only; omega), if_pos (by simp only)]
    simp
  rw [if_neg c2]
  by_cases c3 : goodK5 v.k = 3
  · rw [if_pos c3, c3]; unfold mayV
    rw [if_neg (by simp only; omega), if_neg (by simp only; omega), if_neg (by simp only; omega), if_pos (by simp only)]
    simp only
    split
    · rename_i hu
      simp [hu]; omega
    · simp [u8_nil]
  rw [if_neg c3]
  by_cases c4 : goodK5 v.k = 4
  · rw [if_pos c4, c4]; unfold mayV
    rw [if_neg (by simp only; omega), if_neg (by simp only; omega), if_neg (by simp only; omega), if_neg (by simp only; omega), if_pos (by simp only)]
    simp; omega
  rw [if_neg c4]
  have c0 : goodK5 v.k = 0 := by omega
  rw [c0]; rfl

theorem row_n {l : List Col} {vs : List Val} (h : ∀ v ∈ vs, I64V v.n) : ∀ v ∈ rowL l vs, I64V v.n := fun v hv => by
  obtain ⟨i, c, _, rfl⟩ := row_mem hv
  have h0 : I64V (vs.getD i val0).n := by
    rcases Nat.lt_or_ge i vs.length with h1 | h1
    · have e : vs.getD i val0 = vs[i] := by simp [List.getD, List.getElem?_eq_getElem h1]
      rw [e]
      exact h _ (List.getElem_mem h1)
    · simp [List.getD, List.getElem?_eq_none h1, val0, I64V]
  unfold rowV
  split
  · simp [val0, I64V]
  · exact goodV_n h0

theorem keyR_tup (l : List Col) (n : Nat) (vs : List Val) : ∃ ks er, keyR l n vs = .tup [.str ks, fI er] := by
  unfold keyR; split <;> exact ⟨_, _, rfl⟩

theorem part_key {l : List Col} {n : Nat} {vs : List Val} (hk : keyOkL l n vs = true) (hn : n = vs.length) (hl : n ≤ l.length) (hv : ∀ v ∈ vs, I64V v.n) : partR l n (keyS vs) = .tup [.sl 3 (vals vs) false, fI 0] := by
  obtain ⟨e1, e2⟩ := keyOk_may hl hk
  rw [hn, List.take_length, List.all_eq_true] at e2
  unfold partR valuesL
  rw [valuesF_key vs _ [] (fun v hm => ⟨e2 v hm, hv v hm⟩) (by omega), List.nil_append]
  simp only [hn, true_and]
  rw [← hn, hk]; rfl

set_option maxHeartbeats 8000000 in
theorem SchemaKeys_spec {l : List Col} {keys : Int} {vs : List Val} (hl : ∀ c ∈ l, I64 c.k) (hk : I64 keys) (ht : TextsOk vs) (hn : ∀ v ∈ vs, I64V v.n) : ACall Tryd.prog 5 0 [sch l keys, .sl 3 (vals vs) false] [] (fun v _ => v = .bool true) := by
  refine by_body Tryd.func5 0 rfl (Nat.le_of_ble_eq_true rfl) ?_
  conv => whnf
  have g0 := good_ok hl hk
  have g1 := good_len6 l keys
  have g2 := g0.lo
  refine .pure (RGood_spec hk ⟨rfl, ?_⟩)
  conv => whnf
  generalize goodL nameOk l keys = g at *
  obtain ⟨kn, hkn⟩ : ∃ n : Nat, goodK nameOk l keys = n := ⟨(goodK nameOk l keys).toNat, by omega⟩
  rw [hkn] at g0 g2 ⊢
  have hkl : kn ≤ g.length := by have := g0.len; omega
  have hk4 : kn ≤ 4 := by have := g0.hi; omega
  have hvl := vals_len vs
  have dt : ∀ x : List UInt8, decide (x = x) = true := fun x => decide_eq_true rfl
  have di : ∀ x : Int, decide (x = x) = true := fun x => decide_eq_true rfl
  have dv : ∀ x : List Val, decide (x = x) = true := fun x => decide_eq_true rfl
  refine branch_i (fun c1 => ?_) (fun c1 => ?_) <;> try rw [c1] <;> conv => whnf
  focus
    refine ⟨⟨by decide, by have := of_decide_eq_true c1; omega⟩, ?_⟩
    conv => whnf
    rw [show List.take (20 : Int).toNat (vals vs) = vals (vs.take 20) from vals_take vs 20]
    have ht' : TextsOk (vs.take 20) := fun v hv => ht v (List.mem_of_mem_take hv)
    have hn' : ∀ v ∈ vs.take 20, I64V v.n := fun v hv => hn v (List.mem_of_mem_take hv)
    clear ht hn hvl c1
    generalize vs.take 20 = vs at *
  all_goals
    obtain ⟨ks, er, hkr⟩ := keyR_tup g kn vs
    refine .pure (SKey_spec (by omega) hkl (by assumption) ⟨rfl, ?_⟩)
    rw [hkr]
    conv => whnf
    refine .pure (RKey_spec (by omega) hkl (by assumption) ⟨rfl, ?_⟩)
    rw [hkr]
    conv => whnf
    rw [dt]
    conv => whnf
    rw [di]
    conv => whnf
    refine .pure (Row_spec (by omega) (kinds_i64 g0) ⟨rfl, ?_⟩)
    conv => whnf
    have hrow := rowL_len g vs
    have hrn := row_n (l := g) (vs := vs) (by assumption)
    have htx := row_texts g vs
    have hst := row_stands g0 vs
    generalize rowL g vs = row at *
    have htr : TextsOk row := fun v hv => by have := htx v hv; omega
    have hok := keyOk_yes (l := g) (vs := row) (keys := kn) (by omega) fun i c v _ hc hv => hst i c v hc hv
    have ek1 : keyR g kn row = .tup [.str (keyS (row.take kn)), fI 0] := by unfold keyR; rw [if_pos hok]
    have hok2 : keyOkL g kn (row.take kn) = true := keyOk_yes (by rw [List.length_take]; omega) fun i c v hi hc hv => by
      rw [List.getElem?_take_of_lt hi] at hv
      exact hst i c v hc hv
    have hpt := part_key hok2 (by rw [List.length_take]; omega) hkl fun v hv => hrn v (List.mem_of_mem_take hv)
    have hlen : (keyS (row.take kn)).length ≤ 9000 * (row.take kn).length := keyS_len fun v hv => by have := htx v (List.mem_of_mem_take hv); omega
    rw [List.length_take] at hlen
    refine .pure (SKey_spec (by omega) hkl htr ⟨rfl, ?_⟩)
    rw [ek1]
    conv => whnf
    refine .pure (Part_spec (by omega) hkl (by omega) ⟨rfl, ?_⟩)
    rw [hpt]
    conv => whnf
    have hvr := vals_len row
    refine ⟨⟨by omega, by omega⟩, ?_⟩
    conv => whnf
    rw [show List.take (kn : Int).toNat (vals row) = vals (row.take kn) from vals_take row kn]
    refine .pure (VSame_spec (by rw [List.length_take]; omega) ⟨rfl, ?_⟩)
    rw [dv]
    conv => whnf
    refine .pure (lives_spec ⟨rfl, ?_⟩)
    conv => whnf
    exact ⟨[], rfl, rfl⟩

end Go.Proofs.YtcgpgpbnpjbhhaaDoorPg

/- The law SchemaParts. -/
namespace Go.Proofs.YtcgpgpbnpjbhhaaDoorPg
open Go Go.RowKit
set_option linter.unusedSimpArgs false
set_option linter.unusedVariables false

variable {Q : V → List O → Prop}

def goodsL (l : List Val) (n : Nat) : List Val := (l.take n).map goodV

theorem goodsL_snoc {l : List Val} {i : Nat} {v : Val} (h : l[i]? = some v) : goodsL l (i + 1) = goodsL l i ++ [goodV v] := by
  unfold goodsL; rw [List.take_add_one, h]; simp

set_option maxHeartbeats 4000000 in
theorem Goods_spec {l : List Val} {n : Nat} {f : Bool} (hn : n ≤ 1000) (hl : ∀ v ∈ l, I64 v.k) (h : Q (.sl 3 (vals (goodsL l n)) false) []) : ACall Tryd.prog 11 0 [.sl 3 (vals l) f, fI n] [] Q := by
  refine ACall.ret (by_body Tryd.func11 0 rfl (Nat.le_of_ble_eq_true rfl) ?_)
  conv => whnf
  have hlv := vals_len l
  refine ⟨⟨[0, 1, 5, 6], fun m ws H => ∃ i : Nat, ws = [.sl 3 (vals l) f, fI n, .ms 3 0 0 (vals (goodsL l i)).length false, fI i] ∧ H = [.buf (vals (goodsL l i))] ∧ i ≤ n ∧ i ≤ l.length ∧ m = n - i,
    .frz (n + 1) (.adopt (.sub _ _ (.cons (VSub.refl _) (.cons (VSub.refl _) (.cons (ms0_row 3 0) (VSubs.refl _)))) (HSub.refl _) (.go [0] rfl n (by omega) ⟨0, rfl, rfl, by omega, by omega, rfl⟩))), ?_⟩⟩
  rintro m ws H ⟨i, rfl, rfl, hi, hi2, rfl⟩
  conv => whnf
  have fin : ∀ e : goodsL l i = goodsL l n, Q (.sl 3 (List.take (vals (goodsL l i)).length (vals (goodsL l i))) false) [] := fun e => by
    rw [List.take_length, e]; exact h
  refine branch_i (fun c1 => ?_) (fun c1 => ?_) <;> try rw [c1] <;> conv => whnf
  rotate_left
  focus
    have c1' := of_decide_eq_false c1
    refine ⟨[0], rfl, .frz 0 rfl (by repeat (first | exact trivial | refine And.intro (Nat.le_of_eq (Nat.zero_add _)) ?_)) (.done [] rfl ?_)⟩
    exact fin (by unfold goodsL; rw [List.take_of_length_le (by omega), List.take_of_length_le (by omega)])
  have c1' := of_decide_eq_true c1
  refine branch_i (fun c2 => ?_) (fun c2 => ?_) <;> try rw [c2] <;> conv => whnf
  rotate_left
  focus
    have c2' := of_decide_eq_false c2
    have : i = n := by omega
    subst this
    refine ⟨[0], rfl, .frz 0 rfl (by repeat (first | exact trivial | refine And.intro (Nat.le_of_eq (Nat.zero_add _)) ?_)) (.done [] rfl ?_)⟩
    exact fin rfl
  have c2' := of_decide_eq_true c2
  have hlt : i < l.length := by omega
  have hg : l[i]? = some l[i] := List.getElem?_eq_getElem hlt
  have hk := hl l[i] (List.getElem_mem hlt)
  generalize l[i] = v at *
  have hsn := goodsL_snoc hg
  have hvs : vals (goodsL l (i + 1)) = vals (goodsL l i) ++ [valC (goodV v)] := by rw [hsn]; simp [vals]
  have hgl : (vals (goodsL l i)).length ≤ i := by rw [vals_len]; unfold goodsL; rw [List.length_map, List.length_take]; omega
  refine ⟨_, ⟨by omega, vals_get hg⟩, ?_⟩
  conv => whnf
  refine .pure (VGood_spec (v := v) hk ⟨rfl, ?_⟩)
  conv => whnf
  refine ⟨Nat.le_refl _, ?_⟩
  conv => whnf
  refine ⟨rfl, ?_⟩
  conv => whnf
  refine ⟨Nat.le_trans (Nat.mul_le_mul_right _ (by rw [List.length_append, List.length_take, List.drop_zero]; exact Nat.add_le_add (show _ ≤ 1000 by omega) (Nat.le_trans (Nat.min_le_left _ _) (by decide)))) (show (1000 + 2) * 32 ≤ 70368744177664 by omega), ?_⟩
  conv => whnf
  refine .go [2] rfl (n - (i + 1)) (by omega) ⟨i + 1, ?_, ?_, by omega, by omega, rfl⟩
  · show [V.sl 3 (vals l) f, fI n, V.ms 3 0 0 (vals (goodsL l i) ++ [valC (goodV v)]).length false, V.int .i64 (IntKind.i64.wrap ((i : Int) + 1))] = _
    rw [hvs, wrapI (by omega)]; rfl
  · show [O.buf (vals (goodsL l i) ++ [valC (goodV v)])] = _
    rw [hvs]

theorem part_cases (l : List Col) (n : Nat) {s : List UInt8} (hs : s.length ≤ 10000000) : partR l n s = .tup [.nils, fI 2] ∨ ∃ vs, partR l n s = .tup [.sl 3 (vals vs) false, fI 0] ∧ vs.length = n ∧ keyOkL l n vs = true ∧ keyS vs = s ∧ TextsOk vs := by
  unfold partR
  cases h : valuesL s with
  | none => exact .inl rfl
  | some vs =>
    simp only
    by_cases c : vs.length = n ∧ keyOkL l n vs = true
    · rw [if_pos c]
      refine .inr ⟨vs, rfl, c.1, c.2, ?_, fun v hv => Nat.lt_of_le_of_lt (valuesF_txt _ [] s vs 10000000 h hs (by simp) v hv) (by decide)⟩
      have := (valuesF_back _ _ _ _ h).1
      rw [this]; simp [keyS]
    · rw [if_neg c]; exact .inl rfl

theorem part_goods {l : List Col} {n : Nat} {vs : List Val} (hv : ∀ v ∈ vs, mayV v = true ∧ I64V v.n) : partR l n (keyS vs) = if vs.length = n ∧ keyOkL l n vs = true then .tup [.sl 3 (vals vs) false, fI 0] else .tup [.nils, fI 2] := by
  unfold partR valuesL
  rw [valuesF_key vs _ [] hv (by omega), List.nil_append]

set_option maxHeartbeats 8000000 in
theorem SchemaParts_spec {l : List Col} {keys : Int} {key : List UInt8} {vs : List Val} (hl : ∀ c ∈ l, I64 c.k) (hk : I64 keys) (hn : ∀ v ∈ vs, I64 v.k ∧ I64V v.n) : ACall Tryd.prog 4 0 [sch l keys, .str key, .sl 3 (vals vs) false] [] (fun v _ => v = .bool true) := by
  refine by_body Tryd.func4 0 rfl (Nat.le_of_ble_eq_true rfl) ?_
  conv => whnf
  have g0 := good_ok hl hk
  have g1 := good_len6 l keys
  have g2 := g0.lo
  refine .pure (RGood_spec hk ⟨rfl, ?_⟩)
  conv => whnf
  generalize goodL nameOk l keys = g at *
  obtain ⟨kn, hkn⟩ : ∃ n : Nat, goodK nameOk l keys = n := ⟨(goodK nameOk l keys).toNat, by omega⟩
  rw [hkn] at g0 g2 ⊢
  have hkl : kn ≤ g.length := by have := g0.len; omega
  have hk4 : kn ≤ 4 := by have := g0.hi; omega
  have dt : ∀ x : List UInt8, decide (x = x) = true := fun x => decide_eq_true rfl
  have di : ∀ x : Int, decide (x = x) = true := fun x => decide_eq_true rfl
  refine branch_i (fun c1 => ?_) (fun c1 => ?_) <;> try rw [c1] <;> conv => whnf
  focus
    refine ⟨⟨by decide, by have := of_decide_eq_true c1; omega⟩, ?_⟩
    conv => whnf
    have hkey : (key.take (60 : Int).toNat).length ≤ 60 := by rw [List.length_take]; exact Nat.min_le_left _ _
    clear c1
    generalize key.take (60 : Int).toNat = key at *
  rotate_left
  focus
    have hkey : key.length ≤ 60 := by have := of_decide_eq_false c1; omega
    clear c1
  all_goals
    refine .pure (Goods_spec (n := 4) (by decide) (fun v hv => (hn v hv).1) ⟨rfl, ?_⟩)
    have hgs : ∀ v ∈ goodsL vs 4, mayV v = true ∧ I64V v.n := fun v hv => by
      unfold goodsL at hv
      obtain ⟨w, hw, rfl⟩ := List.mem_map.1 hv
      have := hn w (List.mem_of_mem_take hw)
      exact ⟨goodV_may this.1, goodV_n this.2⟩
    have hg4 : (goodsL vs 4).length ≤ 4 := by unfold goodsL; rw [List.length_map, List.length_take]; exact Nat.min_le_left _ _
    generalize goodsL vs 4 = gs at *
    have hgl := vals_len gs
    have hgt : ∀ v ∈ gs, v.t.length ≤ 4096 := fun v hv => may_text (hgs v hv).1
    have hkl2 := keyS_len hgt
    conv => whnf
    refine .pure (VKey_spec (by omega) hgt ⟨rfl, ?_⟩)
    have hpg := part_goods (l := g) (n := kn) hgs
    generalize hk2 : keyS gs = k2 at *
    conv => whnf
    refine ⟨⟨[7, 8, 9, 10], fun m ws H => ∃ i : Nat, ws = [.ptr 0 0, .sl 3 (vals gs) false, .ms 1 1 0 2 true, fI i] ∧ H = [.cells [.sl 3 (cols g) false, fI kn], .buf [[.str key], [.str k2]]] ∧ i ≤ 2 ∧ m = 2 - i,
      .frz 3 (.go [1, 2] rfl 2 (by omega) ⟨0, rfl, rfl, by omega, rfl⟩), ?_⟩⟩
    rintro m ws H ⟨i, rfl, rfl, hi, rfl⟩
    conv => whnf
    refine branch_i (fun c1 => ?_) (fun c1 => ?_) <;> try rw [c1] <;> conv => whnf
    focus
      have c1' := of_decide_eq_true c1
      obtain ⟨s, hsg, hsl⟩ : ∃ s : List UInt8, [[V.str key], [V.str k2]][i]? = some [.str s] ∧ s.length ≤ 10000000 := by
        obtain rfl | rfl : i = 0 ∨ i = 1 := by omega
        · exact ⟨key, rfl, by omega⟩
        · exact ⟨k2, rfl, by omega⟩
      have hpc := part_cases g kn hsl
      clear hpg hk2 hkl2
      refine ⟨List.range 11, by kernel_rfl, by kernel_rfl, ?_⟩
      conv => whnf
      refine ⟨⟨by omega, by omega⟩, ?_⟩
      conv => whnf
      refine ⟨_, hsg, ?_⟩
      conv => whnf
      refine .pure (Part_spec (by omega) hkl hsl ⟨rfl, ?_⟩)
      rcases hpc with hpc | ⟨ps, hpc, p1, p2, p3, p4⟩ <;> rw [hpc] <;> conv => whnf
      · repeat (refine ⟨rfl, ?_⟩)
        refine .go [0, 1] rfl (2 - (i + 1)) (by omega) ⟨i + 1, ?_, rfl, by omega, rfl⟩
        show [V.ptr 0 0, V.sl 3 (vals gs) false, V.ms 1 1 0 2 true, V.int .i64 (IntKind.i64.wrap ((i : Int) + 1))] = _
        rw [wrapI (by omega)]; rfl
      · repeat (refine ⟨rfl, ?_⟩)
        have hkp : keyR g kn ps = .tup [.str s, fI 0] := by
          unfold keyR
          rw [if_pos p2, List.take_of_length_le (by omega), p3]
        have hpl := vals_len ps
        refine .pure (RKey_spec (by omega) hkl p4 ⟨rfl, ?_⟩)
        rw [hkp]
        conv => whnf
        rw [show decide (((vals ps).length : Int) = (kn : Int)) = true by simp only [hpl, decide_eq_true_eq]; omega]
        conv => whnf
        refine ⟨⟨by omega, by omega⟩, ?_⟩
        conv => whnf
        refine ⟨_, hsg, ?_⟩
        conv => whnf
        rw [dt]
        conv => whnf
        refine .go [0, 1] rfl (2 - (i + 1)) (by omega) ⟨i + 1, ?_, rfl, by omega, rfl⟩
        show [V.ptr 0 0, V.sl 3 (vals gs) false, V.ms 1 1 0 2 true, V.int .i64 (IntKind.i64.wrap ((i : Int) + 1))] = _
        rw [wrapI (by omega)]; rfl
    have c1' := of_decide_eq_false c1
    refine .pure (RKey_spec (by omega) hkl (fun v hv => by have := hgt v hv; omega) ⟨rfl, ?_⟩)
    unfold keyR
    have hk2l : k2.length ≤ 10000000 := by omega
    cases e : keyOkL g kn gs
    · rw [e, if_neg (by simp)] at hpg
      rw [if_neg (by simp)]
      conv => whnf
      refine ⟨List.range 10, by kernel_rfl, by kernel_rfl, ?_⟩
      conv => whnf
      refine ⟨⟨by decide, by decide⟩, ?_⟩
      conv => whnf
      refine ⟨_, rfl, ?_⟩
      conv => whnf
      refine .pure (Part_spec (by omega) hkl hk2l ⟨rfl, ?_⟩)
      rw [hpg]
      conv => whnf
      repeat (refine ⟨rfl, ?_⟩)
      refine .pure (lives_spec ⟨rfl, ?_⟩)
      conv => whnf
      exact ⟨[], rfl, rfl⟩
    · rw [e] at hpg
      rw [if_pos rfl]
      conv => whnf
      refine ⟨List.range 10, by kernel_rfl, by kernel_rfl, ?_⟩
      conv => whnf
      refine ⟨⟨by decide, by decide⟩, ?_⟩
      conv => whnf
      refine ⟨_, rfl, ?_⟩
      conv => whnf
      refine .pure (Part_spec (by omega) hkl hk2l ⟨rfl, ?_⟩)
      rw [hpg]
      by_cases e2 : gs.length = kn
      · rw [if_pos ⟨e2, rfl⟩]
        conv => whnf
        repeat (refine ⟨rfl, ?_⟩)
        rw [show decide (((vals gs).length : Int) = (kn : Int)) = true by simp only [hgl, decide_eq_true_eq]; omega]
        conv => whnf
        refine .pure (lives_spec ⟨rfl, ?_⟩)
        conv => whnf
        exact ⟨[], rfl, rfl⟩
      · rw [if_neg (fun x => e2 x.1)]
        conv => whnf
        repeat (refine ⟨rfl, ?_⟩)
        rw [show decide (((vals gs).length : Int) = (kn : Int)) = false by simp only [hgl, decide_eq_false_iff_not]; omega]
        conv => whnf
        refine .pure (lives_spec ⟨rfl, ?_⟩)
        conv => whnf
        exact ⟨[], rfl, rfl⟩

end Go.Proofs.YtcgpgpbnpjbhhaaDoorPg
