/- Own texts, laid together: Pg07ZDValid, Pg07ZDValG, Pg07ZDKeyP, Pg07ZDEv9, Pg07ZDEv10, Pg07ZDValF, Pg07ZDEv11, Pg07ZDIm3, Pg07ZDCrB, Pg07ZDCrC, Pg07ZDIm4, Pg07ZDIm5, Pg07ZDIm6, Pg07ZDIm7, Pg07ZDIm8, Pg07ZDIm9, Pg07ZDIm10. -/
import Derived.Test.YtcdkklgeepkopaaGreatDoorPgM18
import Derived.Test.YtcdkklgeepkopaaGreatDoorPgM14
import Derived.Shelf.Unicode.ValidAny
import Derived.Test.YtcdkklgeepkopaaGreatDoorPgM19
import Derived.Test.YtcdkklgeepkopaaGreatDoorPgM13
set_option linter.unusedSimpArgs false
set_option linter.unusedVariables false
namespace Go.Proofs.YtcdkklgeepkopaaGreatDoorPg
open Go Go.RowKit
variable {Q : V -> List O -> Prop}
theorem ValidString_spec {s : List UInt8} (hs : s.length <= 9223372036854775807) (h : Q (.bool (u8 s)) []) : ACall Tryz.prog 172 0 [.str s] [] Q := by
 refine acall_below (r := .bool (u8 s)) (fun I ρ w us hst ha => ?_) h
 obtain ⟨u, us', e1, hu, ht⟩ := ha.cons_inv;have e2 : us' = [] := List.eq_nil_of_length_eq_zero ht.1.symm;obtain ⟨b, hb, rfl⟩ := vr_str hu;subst e2;have eu : us = #[.string b] := by
  apply Array.ext';simpa using e1
 subst eu;refine ⟨.bool (u8 s), fun _ _ => .bool _ _, ?_⟩
 have hsz : b.size <= 9223372036854775807 := by
  have : b.size = s.length := by rw [<- hb]; rfl
  omega
 have := Any.utf8_ValidString Tryz.laysValid b w hsz (tabs_of hst);rw [hb, valid_u8] at this;exact this
end Go.Proofs.YtcdkklgeepkopaaGreatDoorPg
namespace Go.Proofs.YtcdkklgeepkopaaGreatDoorPg
open Go Go.RowKit
variable {Q : V -> List O -> Prop}
theorem vals_take (vs : List Val) (n : Nat) : List.take n (vals vs) = vals (vs.take n) := by simp [vals, List.map_take]
theorem qb {b b' : Bool} {H : List O} (h : Q (.bool b) H) (e : b = b') : Q (.bool b') H := e ▸ h
set_option maxHeartbeats 4000000 in
theorem VMay_spec {v : Val} (ht : v.t.length < 1000000000000000000) (h : Q (.bool (mayV v)) []) : ACall Tryz.prog 163 0 [valA v] [] Q := by
 refine by_body Tryz.func163 0 rfl (nbZ rfl) ?_
 conv => whnf
 refine branch_i (fun c1 => ?_) (fun c1 => ?_) <;> try rw [c1] <;> conv => whnf
 all_goals
  have hc := c1;refine branch_i (fun k0 => ?_) (fun k0 => ?_) <;> try rw [k0] <;> conv => whnf
  focus
   refine ⟨[], rfl, qb h ?_⟩;unfold mayV;rw [if_pos (dtZ k0), k0];simp
  have k0' := dfZ k0;refine branch_i (fun k1 => ?_) (fun k1 => ?_) <;> try rw [k1] <;> conv => whnf
  focus
   have e : mayV v = (decide (v.t = []) && (decide (v.n = 0) || decide (v.n = 1))) := by unfold mayV; rw [if_neg k0', if_pos (dtZ k1)]
   rw [e] at h;refine branch_i (fun d1 => ?_) (fun d1 => ?_) <;> rw [d1] at h <;> try rw [d1] <;> conv => whnf
   focus exact ⟨[], rfl, qb h (by simp)⟩
   refine branch_i (fun d2 => ?_) (fun d2 => ?_) <;> rw [d2] at h <;> try rw [d2] <;> conv => whnf
   . exact ⟨[], rfl, qb h (by simp)⟩
   . exact ⟨[], rfl, qb h (by simp)⟩
  have k1' := dfZ k1;refine branch_i (fun k2 => ?_) (fun k2 => ?_) <;> try rw [k2] <;> conv => whnf
  focus
   have e : mayV v = decide (v.t = []) := by unfold mayV; rw [if_neg k0', if_neg k1', if_pos (dtZ k2)]
   rw [e] at h;exact ⟨[], rfl, h⟩
  have k2' := dfZ k2;refine branch_i (fun k3 => ?_) (fun k3 => ?_) <;> try rw [k3] <;> conv => whnf
  focus
   have e : mayV v = (u8 v.t && decide (v.n = 0) && decide ((v.t.length : Int) <= 4096)) := by unfold mayV; rw [if_neg k0', if_neg k1', if_neg k2', if_pos (dtZ k3)]
   rw [e, hc] at h
   first
    | exact ⟨[], rfl, qb h (by simp)⟩
    | (refine branch_i (fun d1 => ?_) (fun d1 => ?_) <;> rw [d1] at h <;> try rw [d1] <;> conv => whnf
       . refine .pure (ValidString_spec (by omega) ⟨rfl, ?_⟩)
         conv => whnf
         exact ⟨[], rfl, qb h (by simp)⟩
       . exact ⟨[], rfl, qb h (by simp)⟩)
  have k3' := dfZ k3;refine branch_i (fun k4 => ?_) (fun k4 => ?_) <;> try rw [k4] <;> conv => whnf
  . have e : mayV v = (decide (v.n = 0) && decide ((v.t.length : Int) <= 4096)) := by unfold mayV; rw [if_neg k0', if_neg k1', if_neg k2', if_neg k3', if_pos (dtZ k4)]
    rw [e, hc] at h;exact ⟨[], rfl, qb h (by simp)⟩
  . have e : mayV v = false := by unfold mayV; rw [if_neg k0', if_neg k1', if_neg k2', if_neg k3', if_neg (dfZ k4)]
    rw [e] at h;exact ⟨[], rfl, h⟩
theorem fits_spec {c : Col} {v : Val} (ht : v.t.length < 1000000000000000000) (h : Q (.bool (standsV c v)) []) : ACall Tryz.prog 162 0 [colA c, valA v] [] Q := by
 refine by_body Tryz.func162 0 rfl (nbZ rfl) ?_
 conv => whnf
 unfold standsV at h;refine .pure (VMay_spec ht ⟨rfl, ?_⟩)
 conv => whnf
 cases c1 : mayV v <;> rw [c1] at h <;> conv => whnf
 focus exact ⟨[], rfl, h⟩
 refine branch_i (fun c2 => ?_) (fun c2 => ?_) <;> rw [c2] at h <;> try rw [c2] <;> conv => whnf
 focus exact ⟨[], rfl, h⟩
 refine branch_i (fun c3 => ?_) (fun c3 => ?_) <;> rw [c3] at h <;> try rw [c3] <;> conv => whnf
 all_goals exact ⟨[], rfl, h⟩
theorem begins_spec {l : List Col} {keys : Int} {vs : List Val} {f : Bool} {n : Nat} (hl : l.length <= 1000) (hn : n <= l.length) (ht : TextsOk vs) (h : Q (.bool (keyOkL l n vs)) []) :
 ACall Tryz.prog 148 0 [sch l keys, .sl 3 (vals vs) f, fI n] [] Q := by
 have hlc := cols_len l;have hlv := vals_len vs;refine by_body Tryz.func148 0 rfl (nbZ rfl) ?_
 conv => whnf
 refine branch_i (fun c1 => ?_) (fun c1 => ?_) <;> try rw [c1] <;> conv => whnf
 focus
  have c1' := dtZ c1;have e : keyOkL l n vs = false := by unfold keyOkL; rw [decide_eq_false (by omega), Bool.false_and]
  rw [e] at h;exact ⟨[], rfl, h⟩
 have c1' := dfZ c1;refine ⟨⟨[1, 3, 12, 13], fun m ws H => ∃ i : Nat, ws = [.sl 3 (vals vs) f, .ptr 0 0, fI n, fI i] /\ H = [.cells [.sl 3 (cols l) false, fI keys]] /\ standN l vs i /\ i <= n /\ m = n - i,
  .at n ⟨0, rfl, rfl, fun i c v hi => by omega, Nat.zero_le _, rfl⟩, ?_⟩⟩
 rintro m ws H ⟨i, rfl, rfl, hs, hi, rfl⟩
 conv => whnf
 refine branch_i (fun c2 => ?_) (fun c2 => ?_) <;> try rw [c2] <;> conv => whnf
 focus
  have c2' := dtZ c2;have hi1 : i < l.length := by omega
  have hi2 : i < vs.length := by omega
  have g1 : l[i]? = some l[i] := lgZ hi1;have g2 : vs[i]? = some vs[i] := lgZ hi2;have htt := ht vs[i] (List.getElem_mem hi2);generalize l[i] = c at *;generalize vs[i] = v at *;refine ⟨List.range 11, by kernel_rfl, by kernel_rfl, ?_⟩
  conv => whnf
  refine ⟨_, ⟨by omega, cols_get g1⟩, ?_⟩
  conv => whnf
  refine ⟨_, ⟨by omega, vals_get g2⟩, ?_⟩
  conv => whnf
  refine .pure (fits_spec (c := c) (v := v) htt ⟨rfl, ?_⟩)
  conv => whnf
  cases e : standsV c v
  . conv => whnf
    rw [keyOk_no (by omega) g1 g2 e] at h
    exact ⟨[], rfl, h⟩
  . conv => whnf
    refine .go [0] rfl (n - (i + 1)) (by omega) ⟨i + 1, ?_, rfl, fun j c' v' hj hc' hv' => ?_, by omega, rfl⟩
    . show [V.sl 3 (vals vs) f, V.ptr 0 0, fI n, V.int .i64 (IntKind.i64.wrap ((i : Int) + 1))] = _
      rw [wrapI (by omega)]; rfl
    . rcases Nat.lt_or_ge j i with h1 | h1
      . exact hs j c' v' h1 hc' hv'
      . have : j = i := by omega
        subst this;rw [g1] at hc'; rw [g2] at hv'; cases hc'; cases hv'; exact e
 have c2' := dfZ c2;have hie : i = n := by omega
 subst hie;rw [keyOk_yes (by omega) hs] at h
 exact ⟨[], rfl, h⟩
theorem Fits_spec {l : List Col} {keys : Int} {vs : List Val} {f : Bool} (hl : l.length <= 1000) (ht : TextsOk vs) (h : Q (.bool (fitsL l vs)) []) :
 ACall Tryz.prog 134 0 [sch l keys, .sl 3 (vals vs) f] [] Q := by
 have hlc := cols_len l;have hlv := vals_len vs;refine by_body Tryz.func134 0 rfl (nbZ rfl) ?_
 conv => whnf
 by_cases e : vs.length = l.length
 rotate_left
 focus
  rw [show decide (((vals vs).length : Int) = ((cols l).length : Int)) = false by simp only [hlv, hlc, decide_eq_false_iff_not]; omega]
  conv => whnf
  have e2 : fitsL l vs = false := by unfold fitsL; rw [decide_eq_false e, Bool.false_and]
  rw [e2] at h;exact ⟨[], rfl, h⟩
 rw [show decide (((vals vs).length : Int) = ((cols l).length : Int)) = true by simp only [hlv, hlc, decide_eq_true_eq]; omega]
 conv => whnf
 rw [hlv];refine .pure (begins_spec hl (by omega) ht ⟨rfl, ?_⟩)
 conv => whnf
 refine ⟨[], rfl, qb h ?_⟩;unfold fitsL keyOkL;rw [decide_eq_true e, decide_eq_true (Nat.le_refl _)]
end Go.Proofs.YtcdkklgeepkopaaGreatDoorPg
namespace Go.Proofs.YtcdkklgeepkopaaGreatDoorPg
open Go Go.RowKit
variable {Q : V -> List O -> Prop}
set_option maxHeartbeats 8000000 in
set_option maxRecDepth 10000 in
theorem key_spec {v : Val} {P : List UInt8} (hP : P.length <= 9000000) (hvt : v.t.length <= 4096) (h : Q (.ms 1 0 0 (bs (P ++ keyV v)).length false) [.buf (bs (P ++ keyV v))]) :
 ACall Tryz.prog 164 0 [.ms 1 0 0 (bs P).length false, valA v] [.buf (bs P)] Q := by
 refine by_body Tryz.func164 0 rfl (nbZ rfl) ?_
 conv => whnf
 refine ⟨Nat.le_refl _, ?_⟩
 conv => whnf
 refine ⟨rfl, ?_⟩
 conv => whnf
 refine ⟨Nat.le_trans (Nat.mul_le_mul_right _ (by rw [laZ, List.length_take, List.drop_zero]; exact Nat.add_le_add (show _ <= 9000000 by simp only [bs_len, laZ, List.length_cons, List.length_nil, List.length_take, List.length_drop]; omega) (Nat.le_trans (Nat.min_le_left _ _) (by decide)))) (show (9000000 + 2) * 1 <= 70368744177664 by omega), ?_⟩
 conv => whnf
 by_cases k1 : v.k = 1
 focus
  have hk : keyV v = [b8 v.k, b8 v.n] := by unfold keyV keyT; rw [if_pos k1]
  rw [hk] at h;rw [show decide (v.k = 1) = true by simp [k1]]
  conv => whnf
  refine ⟨Nat.le_refl _, ?_⟩
  conv => whnf
  refine ⟨rfl, ?_⟩
  conv => whnf
  refine ⟨Nat.le_trans (Nat.mul_le_mul_right _ (by rw [laZ, List.length_take, List.drop_zero]; exact Nat.add_le_add (show _ <= 9000001 by simp only [bs_len, laZ, List.length_cons, List.length_nil, List.length_take, List.length_drop]; omega) (Nat.le_trans (Nat.min_le_left _ _) (by decide)))) (show (9000001 + 2) * 1 <= 70368744177664 by omega), ?_⟩
  conv => whnf
  refine ⟨[5], rfl, ?_⟩;have e : bs (P ++ [b8 v.k, b8 v.n]) = bs P ++ [[V.int .u8 (IntKind.u8.wrap v.k)]] ++ [[V.int .u8 (IntKind.u8.wrap v.n)]] := by simp [bs, b8_wrap]
  rw [e] at h;exact h
 rw [show decide (v.k = 1) = false by simp [k1]]
 conv => whnf
 by_cases k2 : v.k = 2
 focus
  have hk : keyV v = b8 v.k :: beB (keyM v.n) 8 := by unfold keyV keyT; rw [if_neg k1, if_pos k2]
  rw [hk] at h;rw [show decide (v.k = 2) = true by simp [k2]]
  conv => whnf
  refine ⟨⟨[0, 3, 25], fun m ws H => ∃ (j : Nat), ws = [.ms 1 1 0 (bs (P ++ b8 v.k :: beB (keyM v.n) j)).length false, .ptr 0 0, fI j] /\
   H = [.cells (valC v), .buf (bs (P ++ b8 v.k :: beB (keyM v.n) j))] /\ j <= 8 /\ m = 8 - j, .frz 9 (.go [1, 3] rfl 8 (by omega) ⟨0, ?_, ?_, by omega, rfl⟩), ?_⟩⟩
  . show [V.ms 1 1 0 (bs P ++ [[V.int .u8 (IntKind.u8.wrap v.k)]]).length false, V.ptr 0 0, fI 0] = _
    simp [bs, beB]
  . show [O.cells (valC v), O.buf (bs P ++ [[V.int .u8 (IntKind.u8.wrap v.k)]])] = _
    simp [bs, beB, b8_wrap]
  rintro m ws H ⟨j, rfl, rfl, hj, rfl⟩
  conv => whnf
  have hbl := beB_len (keyM v.n) j;refine branch_i (fun d1 => ?_) (fun d1 => ?_) <;> try rw [d1] <;> conv => whnf
  rotate_left
  focus
   have d1' := dfZ d1;have hj8 : j = 8 := by omega
   subst hj8;exact ⟨[1], rfl, h⟩
  have d1' := dtZ d1;refine ⟨(by rw [IntKind.wrap_i64, IntKind.wrap_i64]; omega), ?_⟩
  conv => whnf
  refine ⟨Nat.le_refl _, ?_⟩
  conv => whnf
  refine ⟨rfl, ?_⟩
  conv => whnf
  refine ⟨Nat.le_trans (Nat.mul_le_mul_right _ (by rw [laZ, List.length_take, List.drop_zero]; exact Nat.add_le_add (show _ <= 9000009 by simp only [bs_len, laZ, List.length_cons, List.length_nil, List.length_take, List.length_drop]; omega) (Nat.le_trans (Nat.min_le_left _ _) (by decide)))) (show (9000009 + 2) * 1 <= 70368744177664 by omega), ?_⟩
  conv => whnf
  have hby := byte_eq v.n j (by omega)
  refine .go [0, 3] rfl (8 - (j + 1)) (by omega) ⟨j + 1, ?_, ?_, by omega, rfl⟩
  . show [V.ms 1 1 0 (bs (P ++ b8 v.k :: beB (keyM v.n) j) ++ [[V.int .u8 (IntKind.u8.wrap _)]]).length false, V.ptr 0 0, V.int .i64 (IntKind.i64.wrap ((j : Int) + 1))] = _
    rw [wrapI (n := (j : Int) + 1) (by omega)]; simp [bs, beB]
  . show [O.cells (valC v), O.buf (bs (P ++ b8 v.k :: beB (keyM v.n) j) ++ [[V.int .u8 (IntKind.u8.wrap _)]])] = _
    rw [b8_wrap, xor_keyB, hby];simp [bs, beB]
 rw [show decide (v.k = 2) = false by simp [k2]]
 conv => whnf
 by_cases k34 : v.k = 3 \/ v.k = 4
 rotate_left
 focus
  have hk : keyV v = [b8 v.k] := by unfold keyV keyT; rw [if_neg k1, if_neg k2, if_neg k34]
  rw [hk] at h;rw [show decide (v.k = 3) = false by simp; omega]
  conv => whnf
  rw [show decide (v.k = 4) = false by simp; omega]
  conv => whnf
  refine ⟨[3], rfl, ?_⟩;have e : bs (P ++ [b8 v.k]) = bs P ++ [[V.int .u8 (IntKind.u8.wrap v.k)]] := by simp [bs, b8_wrap]
  rw [e] at h;exact h
 have hk : keyV v = b8 v.k :: (escL v.t ++ [0, 1]) := by unfold keyV keyT; rw [if_neg k1, if_neg k2, if_pos k34]
 rw [hk] at h;by_cases k3 : v.k = 3
 focus
  rw [show decide (v.k = 3) = true by simp [k3]]
  conv => whnf
 rotate_left
 focus
  rw [show decide (v.k = 3) = false by simp [k3]]
  conv => whnf
  rw [show decide (v.k = 4) = true by simp; omega]
  conv => whnf
 all_goals
  refine ⟨⟨[0, 3, 46, 47], fun m ws H => ∃ (j : Nat), ws = [.ms 1 1 0 (bs (P ++ b8 v.k :: escL (v.t.take j))).length false, .ptr 0 0, fI v.t.length, fI j] /\
   H = [.cells (valC v), .buf (bs (P ++ b8 v.k :: escL (v.t.take j)))] /\ j <= v.t.length /\ m = v.t.length - j, .frz (v.t.length + 1) (.go [1, 3] rfl v.t.length (by omega) ⟨0, ?_, ?_, by omega, rfl⟩), ?_⟩⟩
  . show [V.ms 1 1 0 (bs P ++ [[V.int .u8 (IntKind.u8.wrap v.k)]]).length false, V.ptr 0 0, fI v.t.length, fI 0] = _
    simp [bs, escL]
  . show [O.cells (valC v), O.buf (bs P ++ [[V.int .u8 (IntKind.u8.wrap v.k)]])] = _
    simp [bs, escL, b8_wrap]
  rintro m ws H ⟨j, rfl, rfl, hj, rfl⟩
  conv => whnf
  have hel := escL_len (v.t.take j);rw [List.length_take] at hel;refine branch_i (fun d1 => ?_) (fun d1 => ?_) <;> try rw [d1] <;> conv => whnf
  focus
   have d1' := dtZ d1;have hjl : j < v.t.length := by omega
   have hgb : v.t[j]? = some v.t[j] := lgZ hjl;generalize v.t[j] = b at *;have hes := escL_snoc hgb;refine ⟨b, ⟨by omega, hgb⟩, ?_⟩
   conv => whnf
   refine ⟨Nat.le_refl _, ?_⟩
   conv => whnf
   refine ⟨rfl, ?_⟩
   conv => whnf
   refine ⟨Nat.le_trans (Nat.mul_le_mul_right _ (by rw [laZ, List.length_take, List.drop_zero]; exact Nat.add_le_add (show _ <= 9010000 by simp only [bs_len, laZ, List.length_cons, List.length_nil, List.length_take, List.length_drop]; omega) (Nat.le_trans (Nat.min_le_left _ _) (by decide)))) (show (9010000 + 2) * 1 <= 70368744177664 by omega), ?_⟩
   conv => whnf
   refine ⟨b, ⟨by omega, hgb⟩, ?_⟩
   conv => whnf
   by_cases hb : b = 0
   . subst hb
     conv => whnf
     refine ⟨Nat.le_refl _, ?_⟩
     conv => whnf
     refine ⟨rfl, ?_⟩
     conv => whnf
     refine ⟨Nat.le_trans (Nat.mul_le_mul_right _ (by rw [laZ, List.length_take, List.drop_zero]; exact Nat.add_le_add (show _ <= 9010001 by simp only [bs_len, laZ, List.length_cons, List.length_nil, List.length_take, List.length_drop]; omega) (Nat.le_trans (Nat.min_le_left _ _) (by decide)))) (show (9010001 + 2) * 1 <= 70368744177664 by omega), ?_⟩
     conv => whnf
     have he : escB 0 = [0, 255] := rfl;rw [he] at hes;refine .go [0, 5] rfl (v.t.length - (j + 1)) (by omega) ⟨j + 1, ?_, ?_, by omega, rfl⟩
     . show [V.ms 1 1 0 (bs (P ++ b8 v.k :: escL (v.t.take j)) ++ [[V.int .u8 ((0 : UInt8).toNat : Int)]] ++ [[V.int .u8 255]]).length false, V.ptr 0 0, fI v.t.length, V.int .i64 (IntKind.i64.wrap ((j : Int) + 1))] = _
       rw [wrapI (n := (j : Int) + 1) (by omega), hes]; simp [bs]
     . show [O.cells (valC v), O.buf (bs (P ++ b8 v.k :: escL (v.t.take j)) ++ [[V.int .u8 ((0 : UInt8).toNat : Int)]] ++ [[V.int .u8 255]])] = _
       rw [hes]; simp [bs]
   . have hb' : ¬ (b.toNat : Int) = 0 := fun e => hb (by
      have : b.toNat = 0 := by omega
      exact UInt8.toNat_inj.1 (by rw [this]; rfl))
     rw [show decide ((b.toNat : Int) = 0) = false by simp only [hb', decide_false]]
     conv => whnf
     have he : escB b = [b] := by unfold escB; rw [if_neg hb]
     rw [he] at hes;refine .go [0, 3] rfl (v.t.length - (j + 1)) (by omega) ⟨j + 1, ?_, ?_, by omega, rfl⟩
     . show [V.ms 1 1 0 (bs (P ++ b8 v.k :: escL (v.t.take j)) ++ [[V.int .u8 (b.toNat : Int)]]).length false, V.ptr 0 0, fI v.t.length, V.int .i64 (IntKind.i64.wrap ((j : Int) + 1))] = _
       rw [wrapI (n := (j : Int) + 1) (by omega), hes]; simp [bs]
     . show [O.cells (valC v), O.buf (bs (P ++ b8 v.k :: escL (v.t.take j)) ++ [[V.int .u8 (b.toNat : Int)]])] = _
       rw [hes]; simp [bs]
  have d1' := dfZ d1;have hjt : j = v.t.length := by omega
  subst hjt;rw [List.take_length] at hel ⊢;refine ⟨Nat.le_refl _, ?_⟩
  conv => whnf
  refine ⟨rfl, ?_⟩
  conv => whnf
  refine ⟨Nat.le_trans (Nat.mul_le_mul_right _ (by rw [laZ, List.length_take, List.drop_zero]; exact Nat.add_le_add (show _ <= 9010000 by simp only [bs_len, laZ, List.length_cons, List.length_nil, List.length_take, List.length_drop]; omega) (Nat.le_trans (Nat.min_le_left _ _) (by decide)))) (show (9010000 + 2) * 1 <= 70368744177664 by omega), ?_⟩
  conv => whnf
  refine ⟨[3], rfl, ?_⟩;have e : bs (P ++ b8 v.k :: (escL v.t ++ [0, 1])) = bs (P ++ b8 v.k :: escL v.t) ++ [[V.int .u8 0], [V.int .u8 1]] := by simp [bs]
  rw [e] at h;exact h
set_option maxHeartbeats 8000000 in
set_option maxRecDepth 10000 in
theorem Key_spec {l : List Val} {f : Bool} (hl : l.length <= 1000) (ht : TextsOk l) (h : Q (if l.all mayV then .tup [.str (keyS l), fI 0] else .tup [.str [], fI 1]) []) : ACall Tryz.prog 149 0 [.sl 3 (vals l) f] [] Q := by
 have hlv := vals_len l;refine by_body Tryz.func149 0 rfl (nbZ rfl) ?_
 conv => whnf
 refine ⟨⟨[4, 7, 8, 9], fun m ws H => ∃ i : Nat, ws = [.ms 1 0 0 (bs (keyS (l.take i))).length false, .sl 3 (vals l) f, fI l.length, fI i] /\ H = [.buf (bs (keyS (l.take i)))] /\ i <= l.length /\ (∀ v ∈ l.take i, mayV v = true) /\ m = l.length - i,
  .frz (l.length + 1) (.adopt (.sub _ _ (.cons (ms0_row 1 0) (VSubs.refl _)) (HSub.refl _) (.go [0] rfl l.length (by omega) ⟨0, ?_, rfl, by omega, by simp, rfl⟩))), ?_⟩⟩
 . show [V.ms 1 0 0 0 false, V.sl 3 (vals l) f, fI (vals l).length, fI 0] = _
   rw [hlv]; simp [keyS, bs]
 rintro m ws H ⟨i, rfl, rfl, hi, hm, rfl⟩
 conv => whnf
 refine branch_i (fun c1 => ?_) (fun c1 => ?_) <;> try rw [c1] <;> conv => whnf
 rotate_left
 focus
  have c1' := dfZ c1;have hie : l.take i = l := List.take_of_length_le (by omega)
  rw [hie] at hm ⊢;rw [if_pos (List.all_eq_true.2 hm)] at h;refine ⟨(by omega : 0 + (bs (keyS l)).length <= (bs (keyS l)).length), keyS l, ?_, ?_⟩
  . show bytesOfEs (List.take (bs (keyS l)).length (List.drop 0 (bs (keyS l)))) = _
    rw [List.drop_zero, List.take_length]; exact bytesOfEs_bs _
  conv => whnf
  exact ⟨[], rfl, h⟩
 have c1' := dtZ c1;have hlt : i < l.length := by omega
 have hg : l[i]? = some l[i] := lgZ hlt;have hvt := ht l[i] (List.getElem_mem hlt);have hmem : l[i] ∈ l := List.getElem_mem hlt;generalize l[i] = v at *;have hsn := keyS_snoc hg;have hP : (keyS (l.take i)).length <= 9000000 := Nat.le_trans (keyS_len fun w hw => may_text (hm w hw)) (by rw [List.length_take]; omega)
 have htk : l.take (i + 1) = l.take i ++ [v] := by rw [List.take_add_one, hg]; rfl
 refine ⟨_, ⟨by omega, vals_get hg⟩, ?_⟩
 conv => whnf
 refine .pure (VMay_spec hvt ⟨rfl, ?_⟩)
 conv => whnf
 cases hmv : mayV v
 . conv => whnf
   rw [if_neg (by rw [List.all_eq_true]; intro hx; have := hx v hmem; rw [hmv] at this; cases this)] at h
   exact ⟨[], rfl, h⟩
 conv => whnf
 refine .call [0] 0 ⟨rfl, rfl, rfl⟩ (key_spec hP (may_text hmv) ?_);rw [<- hsn]
 conv => whnf
 refine .go [0] rfl (l.length - (i + 1)) (by omega) ⟨i + 1, ?_, rfl, by omega, ?_, rfl⟩
 . show [V.ms 1 0 0 (bs (keyS (l.take (i + 1)))).length false, V.sl 3 (vals l) f, fI l.length, V.int .i64 (IntKind.i64.wrap ((i : Int) + 1))] = _
   rw [wrapI (by omega)]; rfl
 . rw [htk];intro w hw;rcases List.mem_append.1 hw with h1 | h1
   . exact hm w h1
   . simp at h1; subst h1; exact hmv
theorem keyOk_may {l : List Col} {keys : Nat} {vs : List Val} (hk : keys <= l.length) (h : keyOkL l keys vs = true) : keys <= vs.length /\ (vs.take keys).all mayV = true := by
 unfold keyOkL at h;rw [Bool.and_eq_true, decide_eq_true_eq, List.all_eq_true] at h;refine ⟨h.1, List.all_eq_true.2 fun v hv => ?_⟩
 obtain ⟨i, hi⟩ := List.mem_iff_getElem?.1 hv;have hlt := (liZ.1 hi).1;rw [List.length_take] at hlt;rw [List.getElem?_take_of_lt (by omega)] at hi
 have := h.2 i (List.mem_range.2 (by omega))
 rw [stAt_some (lgZ (show i < l.length by omega)) hi] at this
 unfold standsV at this;rw [Bool.and_eq_true] at this;exact this.1
set_option maxHeartbeats 4000000 in
theorem SKey_spec {l : List Col} {keys : Nat} {vs : List Val} {f : Bool} (hl : l.length <= 1000) (hk : keys <= l.length) (ht : TextsOk vs) (h : Q (keyR l keys vs) []) :
 ACall Tryz.prog 135 0 [sch l keys, .sl 3 (vals vs) f] [] Q := by
 have hlv := vals_len vs;refine by_body Tryz.func135 0 rfl (nbZ rfl) ?_
 conv => whnf
 unfold keyR at h;refine .pure (begins_spec hl hk ht ⟨rfl, ?_⟩)
 conv => whnf
 cases e : keyOkL l keys vs <;> rw [e] at h <;> conv => whnf
 focus exact ⟨[], rfl, h⟩
 obtain ⟨e1, e2⟩ := keyOk_may hk e;refine ⟨⟨by omega, by omega⟩, ?_⟩
 conv => whnf
 rw [show List.take (keys : Int).toNat (vals vs) = vals (vs.take keys) from vals_take vs keys]
 refine .pure (Key_spec (by rw [List.length_take]; omega) (fun v hv => ht v (List.mem_of_mem_take hv)) ⟨rfl, ?_⟩)
 rw [e2]
 conv => whnf
 exact ⟨[], rfl, h⟩
end Go.Proofs.YtcdkklgeepkopaaGreatDoorPg
namespace Go.Proofs.YtcdkklgeepkopaaGreatDoorPg
open Go Go.RowKit
variable {Q : V -> List O -> Prop}
structure TbsB (l : List Tb) : Prop where
 ok : TbsOk nameOk mayS l
 few : l.length <= 64
theorem TbsB.cols {l : List Tb} (h : TbsB l) : ∀ x ∈ l, x.c.length <= 16 := fun x hx => (may_bd (h.ok.each x hx).sch).2.2.2
theorem findT_in {l : List Tb} {n : List UInt8} {C : List Col} {K : Int} (h : findT l n = some (C, K)) : ∃ x ∈ l, x.c = C /\ x.k = K := by
 unfold findT at h;cases ha : atT l n with
 | none => rw [ha] at h; cases h
 | some j =>
  rw [ha] at h;cases hj : l[j]? with
  | none => simp only [Option.bind, hj] at h; cases h
  | some x => simp only [Option.bind, hj] at h; cases h; exact ⟨x, List.mem_of_getElem? hj, rfl, rfl⟩
theorem TbsB.found {l : List Tb} (h : TbsB l) {n : List UInt8} {C : List Col} {K : Int} (hf : findT l n = some (C, K)) : mayS C K = true /\ C.length <= 16 /\ ∃ k : Nat, K = k /\ k <= C.length := by
 obtain ⟨x, hx, rfl, rfl⟩ := findT_in hf;have hm := (h.ok.each x hx).sch;have := may_bd hm;exact ⟨hm, this.2.2.2, x.k.toNat, by omega, by omega⟩
structure EvtT (e : Evt) : Prop where
 b : TextsOk e.b
 a : TextsOk e.a
 lb : e.b.length < 9223372036854775808
 la : e.a.length < 9223372036854775808
 lc : e.ch.c.length < 9223372036854775808
def rowFit (e : Evt) (C : List Col) (K : Int) : Bool := if e.k = 5 then keyOkL C K.toNat e.b && decide ((e.b.length : Int) = K) else fitsL C e.a
def rowBare (e : Evt) : Bool := if e.k = 5 then decide (e = ⟨e.k, 0, e.t, e.b, [], chg0⟩) else decide (e = ⟨e.k, 0, e.t, [], e.a, chg0⟩)
def rowE (e : Evt) (l : List Tb) : Int := match findT l e.t with
 | none => 7
 | some (C, K) => if rowFit e C K = false then 9 else if rowBare e = false then 1 else 0
theorem row_sub5 (k : Int) (t : List UInt8) (b : List Val) : VSub (.agg [.int .i64 k, .int .i64 0, .str t, .sl 3 (vals b) false, .nils, .int .i64 0, .str [], .nils, .int .i64 0, .str [], .int .i64 0, .bool false]) (evA ⟨k, 0, t, b, [], chg0⟩) :=
 .agg (.cons (.refl _) (.cons (.refl _) (.cons (.refl _) (.cons (.refl _) (.cons (nils_sl3 false) (.cons (.refl _) (.cons (.refl _) (.cons (nils_sl3 false) (VSubs.refl _)))))))))
theorem row_sub (k : Int) (t : List UInt8) (a : List Val) : VSub (.agg [.int .i64 k, .int .i64 0, .str t, .nils, .sl 3 (vals a) false, .int .i64 0, .str [], .nils, .int .i64 0, .str [], .int .i64 0, .bool false]) (evA ⟨k, 0, t, [], a, chg0⟩) :=
 .agg (.cons (.refl _) (.cons (.refl _) (.cons (.refl _) (.cons (nils_sl3 false) (.cons (.refl _) (.cons (.refl _) (.cons (.refl _) (.cons (nils_sl3 false) (VSubs.refl _)))))))))
set_option maxHeartbeats 16000000 in
theorem EvRow_spec {e : Evt} {l : List Tb} (hl : TbsB l) (he : EvtT e) (h : Q (fI (rowE e l)) []) : ACall Tryz.prog 104 0 [evA e, .sl 3 (tbs l) false] [] Q := by
 refine by_body Tryz.func104 0 rfl (nbZ rfl) ?_
 conv => whnf
 have hc := hl.cols;refine .pure (EvFind_spec (by have := hl.few; omega) hl.ok.sorted (fun x hx => by have := hc x hx; omega) ⟨rfl, ?_⟩)
 unfold rowE at h;unfold findR;cases hf : findT l e.t with
 | none =>
  rw [hf] at h
  conv => whnf
  change Q (fI 7) [] at h
  refine branch_i (fun k5 => ?_) (fun k5 => ?_) <;> try rw [k5] <;> conv => whnf
  . refine .pure (SKey_spec (l := []) (keys := 0) (vs := e.b) (by decide) (by decide) he.b ⟨rfl, ?_⟩)
    unfold keyR;rw [show keyOkL [] 0 e.b = true by unfold keyOkL; simp]
    conv => whnf
    exact ⟨[], rfl, h⟩
  . exact ⟨[], rfl, h⟩
 | some o =>
  obtain ⟨C, K⟩ := o;rw [hf] at h;obtain ⟨hm, hC, k, rfl, hk⟩ := hl.found hf
  change Q (fI (if rowFit e C k = false then 9 else if rowBare e = false then 1 else 0)) [] at h
  conv => whnf
  refine .pure (Fits_spec (l := C) (keys := (k : Int)) (vs := e.a) (by omega) he.a ⟨rfl, ?_⟩)
  conv => whnf
  refine branch_i (fun k5 => ?_) (fun k5 => ?_) <;> try rw [k5] <;> conv => whnf
  . have k5' : e.k = 5 := dtZ k5;have hF : rowFit e C k = (keyOkL C k e.b && decide ((e.b.length : Int) = (k : Int))) := by unfold rowFit; rw [if_pos k5']; rfl
    have hB : rowBare e = decide (e = ⟨e.k, 0, e.t, e.b, [], chg0⟩) := by unfold rowBare; rw [if_pos k5']
    refine .pure (SKey_spec (l := C) (keys := k) (vs := e.b) (by omega) hk he.b ⟨rfl, ?_⟩)
    unfold keyR;cases hko : keyOkL C k e.b <;> rw [hko] at hF <;> conv => whnf
    . rw [hF] at h;exact ⟨[], rfl, h⟩
    rw [show (((vals e.b).length : Nat) : Int) = (e.b.length : Int) by rw [vals_len]]
    cases k6 : decide ((e.b.length : Int) = (k : Int)) <;> rw [k6] at hF <;> conv => whnf
    . rw [hF] at h;exact ⟨[], rfl, h⟩
    rw [hF, if_neg (by simp)] at h
    refine .pure (ACall.args (.cons (.refl _) (.cons (row_sub5 _ _ _) (VSubs.refl _))) (EvSame_spec (a := e) (b := ⟨e.k, 0, e.t, e.b, [], chg0⟩) he.lb he.la he.lc ⟨rfl, ?_⟩));rw [<- hB];cases hb : rowBare e <;> rw [hb] at h <;> conv => whnf
    . exact ⟨[], rfl, h⟩
    . exact ⟨[], rfl, h⟩
  . have k5' : ¬ e.k = 5 := dfZ k5;have hF : rowFit e C k = fitsL C e.a := by unfold rowFit; rw [if_neg k5']
    have hB : rowBare e = decide (e = ⟨e.k, 0, e.t, [], e.a, chg0⟩) := by unfold rowBare; rw [if_neg k5']
    rw [hF] at h;cases hfi : fitsL C e.a <;> rw [hfi] at h <;> conv => whnf
    . exact ⟨[], rfl, h⟩
    rw [if_neg (by simp)] at h
    refine .pure (ACall.args (.cons (.refl _) (.cons (row_sub _ _ _) (VSubs.refl _))) (EvSame_spec (a := e) (b := ⟨e.k, 0, e.t, [], e.a, chg0⟩) he.lb he.la he.lc ⟨rfl, ?_⟩));rw [<- hB];cases hb : rowBare e <;> rw [hb] at h <;> conv => whnf
    . exact ⟨[], rfl, h⟩
    . exact ⟨[], rfl, h⟩
def bare6 (e : Evt) : Bool := decide (e = ⟨e.k, 0, [], [], [], e.ch⟩)
def bareN (e : Evt) : Bool := decide (e = ⟨e.k, e.n, [], [], [], chg0⟩)
def mayE (e : Evt) (l : List Tb) : Int :=
 if rowK e.k then rowE e l
 else if e.k = 6 then (if chgE e.ch ≠ 0 then chgE e.ch else if decide (e.n < 0) || !bare6 e then 1 else 0)
 else if numK e.k then (if decide (e.n < 0) || !bareN e then 1 else 0) else 5
theorem may_sub6 (k n : Int) (c : Chg) : VSub (.agg [.int .i64 k, .int .i64 n, .str [], .nils, .nils, .int .i64 c.k, .str c.t, .sl 3 (cols c.c) false, .int .i64 c.ks, .str c.col.n, .int .i64 c.col.k, .bool c.col.o]) (evA ⟨k, n, [], [], [], c⟩) :=
 .agg (.cons (.refl _) (.cons (.refl _) (.cons (.refl _) (.cons (nils_sl3 false) (.cons (nils_sl3 false) (VSubs.refl _))))))
theorem may_subN (k n : Int) : VSub (.agg [.int .i64 k, .int .i64 n, .str [], .nils, .nils, .int .i64 0, .str [], .nils, .int .i64 0, .str [], .int .i64 0, .bool false]) (evA ⟨k, n, [], [], [], chg0⟩) :=
 .agg (.cons (.refl _) (.cons (.refl _) (.cons (.refl _) (.cons (nils_sl3 false) (.cons (nils_sl3 false) (.cons (.refl _) (.cons (.refl _) (.cons (nils_sl3 false) (VSubs.refl _)))))))))
set_option maxHeartbeats 16000000 in
theorem EvMay_spec {e : Evt} {l : List Tb} (hl : TbsB l) (he : EvtT e) (h : Q (fI (mayE e l)) []) : ACall Tryz.prog 73 0 [evA e, .sl 3 (tbs l) false] [] Q := by
 refine by_body Tryz.func73 0 rfl (nbZ rfl) ?_
 conv => whnf
 unfold mayE at h;refine .pure (rowed_spec ⟨rfl, ?_⟩)
 conv => whnf
 cases hr : rowK e.k <;> rw [hr] at h <;> conv => whnf
 rotate_left
 . refine .pure (EvRow_spec hl he ⟨rfl, ?_⟩)
   conv => whnf
   exact ⟨[], rfl, h⟩
 rw [if_neg (by simp)] at h
 refine branch_i (fun k6 => ?_) (fun k6 => ?_) <;> try rw [k6] <;> conv => whnf
 . rw [if_pos (dtZ k6)] at h;refine .pure (EvChange_spec (c := e.ch) he.lc ⟨rfl, ?_⟩)
   conv => whnf
   refine branch_i (fun k0 => ?_) (fun k0 => ?_) <;> try rw [k0] <;> conv => whnf
   . rw [if_pos (by simpa using k0)] at h
     exact ⟨[], rfl, h⟩
   . rw [if_neg (by simpa using k0)] at h
     refine ⟨List.range 6, by kernel_rfl, by kernel_rfl, ?_⟩
     repeat (conv => whnf
             refine ⟨rfl, ?_⟩)
     conv => whnf
     refine branch_i (fun kn => ?_) (fun kn => ?_) <;> rw [kn] at h <;> try rw [kn] <;> conv => whnf
     . exact ⟨[], rfl, h⟩
     refine .pure (ACall.args (.cons (.refl _) (.cons (may_sub6 _ _ _) (VSubs.refl _))) (EvSame_spec (a := e) (b := ⟨e.k, 0, [], [], [], e.ch⟩) he.lb he.la he.lc ⟨rfl, ?_⟩))
     change Q (fI (if (false || !decide (e = ⟨e.k, 0, [], [], [], e.ch⟩)) = true then 1 else 0)) [] at h
     cases hb : decide (e = ⟨e.k, 0, [], [], [], e.ch⟩) <;> rw [hb] at h <;> conv => whnf
     . exact ⟨[], rfl, h⟩
     . exact ⟨[], rfl, h⟩
 . rw [if_neg (dfZ k6)] at h;refine .pure (numbered_spec ⟨rfl, ?_⟩)
   conv => whnf
   cases hn : numK e.k <;> rw [hn] at h <;> conv => whnf
   . exact ⟨[], rfl, h⟩
   rw [if_pos rfl] at h;refine branch_i (fun kn => ?_) (fun kn => ?_) <;> rw [kn] at h <;> try rw [kn] <;> conv => whnf
   . exact ⟨[], rfl, h⟩
   refine .pure (ACall.args (.cons (.refl _) (.cons (may_subN _ _) (VSubs.refl _))) (EvSame_spec (a := e) (b := ⟨e.k, e.n, [], [], [], chg0⟩) he.lb he.la he.lc ⟨rfl, ?_⟩))
   change Q (fI (if (false || !decide (e = ⟨e.k, e.n, [], [], [], chg0⟩)) = true then 1 else 0)) [] at h
   cases hb : decide (e = ⟨e.k, e.n, [], [], [], chg0⟩) <;> rw [hb] at h <;> conv => whnf
   . exact ⟨[], rfl, h⟩
   . exact ⟨[], rfl, h⟩
end Go.Proofs.YtcdkklgeepkopaaGreatDoorPg
namespace Go.Proofs.YtcdkklgeepkopaaGreatDoorPg
open Go Go.RowKit
variable {Q : V -> List O -> Prop}
theorem rowBare5 {e : Evt} (hk : e.k = 5) : rowBare e = (decide (e.ch = chg0) && (decide (e.a.length = 0) && decide (e.n = 0))) := by
 unfold rowBare; rw [if_pos hk];obtain ⟨k, n, t, b, a, ch⟩ := e;simp [Bool.and_comm, Bool.and_assoc, Bool.and_left_comm]
theorem rowBare3 {e : Evt} (hk : ¬ e.k = 5) : rowBare e = (decide (e.ch = chg0) && (decide (e.b.length = 0) && decide (e.n = 0))) := by
 unfold rowBare; rw [if_neg hk];obtain ⟨k, n, t, b, a, ch⟩ := e;simp [Bool.and_comm, Bool.and_assoc, Bool.and_left_comm]
theorem bare6_eq (e : Evt) : bare6 e = (decide (e.n = 0) && (decide (e.t = []) && (decide (e.b.length = 0) && decide (e.a.length = 0)))) := by
 unfold bare6;obtain ⟨k, n, t, b, a, ch⟩ := e;simp
theorem bareN_eq (e : Evt) : bareN e = (decide (e.t = []) && (decide (e.b.length = 0) && (decide (e.a.length = 0) && decide (e.ch = chg0)))) := by
 unfold bareN;obtain ⟨k, n, t, b, a, ch⟩ := e;simp
theorem chg0_sub : VSub (.agg [.int .i64 0, .str [], .nils, .int .i64 0, .str [], .int .i64 0, .bool false]) (chA chg0) :=
 .agg (.cons (.refl _) (.cons (.refl _) (.cons (nils_sl3 false) (VSubs.refl _))))
set_option maxHeartbeats 32000000 in
theorem EvRMay_spec {e : Evt} {l : List Tb} (hl : TbsB l) (he : EvtT e) (h : Q (fI (mayE e l)) []) : ACall Tryz.prog 40 0 [evA e, .sl 3 (tbs l) false] [] Q := by
 refine by_body Tryz.func40 0 rfl (nbZ rfl) ?_
 conv => whnf
 refine .pure (ACall.args (.cons (.refl _) (.cons chg0_sub (VSubs.refl _))) (Rchange_spec (a := e.ch) (b := chg0) he.lc ⟨rfl, ?_⟩))
 conv => whnf
 have hlb := vals_len e.b;have hla := vals_len e.a;refine branch_i (fun k3 => ?_) (fun k3 => ?_) <;> try rw [k3] <;> conv => whnf
 rotate_left
 focus
  refine branch_i (fun k4 => ?_) (fun k4 => ?_) <;> try rw [k4] <;> conv => whnf
 rotate_left
 focus
  refine branch_i (fun k5 => ?_) (fun k5 => ?_) <;> try rw [k5] <;> conv => whnf
 rotate_left
 . have kr : rowK e.k = false := by unfold rowK; rw [k3, k4, k5]; rfl
   unfold mayE at h;rw [kr, if_neg (by simp)] at h
   refine branch_i (fun k6 => ?_) (fun k6 => ?_) <;> try rw [k6] <;> conv => whnf
   . rw [if_pos (dtZ k6), bare6_eq] at h;refine .pure (Raltered_spec (c := e.ch) ⟨rfl, ?_⟩)
     conv => whnf
     refine branch_i (fun k0 => ?_) (fun k0 => ?_) <;> try rw [k0] <;> conv => whnf
     . rw [if_pos (by simpa using k0)] at h
       exact ⟨[], rfl, h⟩
     . rw [if_neg (by simpa using k0)] at h
       rw [<- hlb, <- hla] at h
       repeat' (refine branch_i (fun e => ?_) (fun e => ?_) <;> try rw [e] <;> conv => whnf)
       all_goals
        refine ⟨[], rfl, qiE h ?_⟩
        simp_all [List.length_pos_iff]
   . rw [if_neg (dfZ k6), bareN_eq] at h;unfold numK at h;rw [<- hlb, <- hla] at h
     repeat' (refine branch_i (fun e => ?_) (fun e => ?_) <;> try rw [e] <;> conv => whnf)
     all_goals
      refine ⟨[], rfl, qiE h ?_⟩
      simp_all [List.length_pos_iff]
 all_goals
  have kr : rowK e.k = true := by unfold rowK; simp_all
  unfold mayE rowE at h;rw [if_pos kr] at h;refine .pure (EvRFind_spec (by have := hl.few; omega) ⟨rfl, ?_⟩)
  unfold findR;cases hf : findT l e.t with
  | none =>
   rw [hf] at h
   change Q (fI 7) [] at h
   conv => whnf
   exact ⟨[], rfl, h⟩
  | some o =>
   obtain ⟨C, K⟩ := o;rw [hf] at h;obtain ⟨hm, hC, k, rfl, hk⟩ := hl.found hf
   change Q (fI (if rowFit e C k = false then 9 else if rowBare e = false then 1 else 0)) [] at h
   conv => whnf
   refine .pure (RFits_spec (l := C) (keys := (k : Int)) (vs := e.a) (by omega) he.a ⟨rfl, ?_⟩)
   conv => whnf
   refine branch_i (fun j5 => ?_) (fun j5 => ?_) <;> try rw [j5] <;> conv => whnf
   . have k5' : e.k = 5 := dtZ j5;have hF : rowFit e C k = (keyOkL C k e.b && decide ((e.b.length : Int) = (k : Int))) := by unfold rowFit; rw [if_pos k5']; rfl
     rw [hF, rowBare5 k5', <- hla, <- hlb] at h;refine .pure (RKey_spec (l := C) (keys := k) (vs := e.b) (by omega) hk he.b ⟨rfl, ?_⟩)
     unfold keyR;cases hko : keyOkL C k e.b <;> rw [hko] at h <;> conv => whnf
     . exact ⟨[], rfl, h⟩
     repeat' (refine branch_i (fun e => ?_) (fun e => ?_) <;> try rw [e] <;> conv => whnf)
     all_goals
      refine ⟨[], rfl, qiE h ?_⟩
      simp_all [List.length_pos_iff]
   . have k5' : ¬ e.k = 5 := dfZ j5;have hF : rowFit e C k = fitsL C e.a := by unfold rowFit; rw [if_neg k5']
     rw [hF, rowBare3 k5', <- hlb] at h;cases hfi : fitsL C e.a <;> rw [hfi] at h <;> conv => whnf
     . exact ⟨[], rfl, h⟩
     repeat' (refine branch_i (fun e => ?_) (fun e => ?_) <;> try rw [e] <;> conv => whnf)
     all_goals
      refine ⟨[], rfl, qiE h ?_⟩
      simp_all [List.length_pos_iff]
end Go.Proofs.YtcdkklgeepkopaaGreatDoorPg
namespace Go.Proofs.YtcdkklgeepkopaaGreatDoorPg
open Go Go.RowKit
variable {Q : V -> List O -> Prop}
theorem goodV_text (v : Val) : (goodV v).t.length <= 40 := by
 have := text40_len v.t;unfold goodV
 repeat' split
 all_goals simp only
 all_goals first | (simp only [List.length_nil]; omega) | omega
theorem rowV_text (c : Col) (v : Val) : (rowV c v).t.length <= 40 := by
 unfold rowV;split
 . simp [val0]
 . exact goodV_text _
theorem row_mem {l : List Col} {vs : List Val} {v : Val} (h : v ∈ rowL l vs) : ∃ (i : Nat) (c : Col), l[i]? = some c /\ v = rowV c (vs.getD i val0) := by
 obtain ⟨i, hi⟩ := List.mem_iff_getElem?.1 h;have hlt := (liZ.1 hi).1;rw [rowL_len] at hlt;have hc : l[i]? = some l[i] := lgZ hlt;rw [rowL_get l vs hc] at hi;cases hi;exact ⟨i, l[i], hc, rfl⟩
theorem row_texts (l : List Col) (vs : List Val) : ∀ v ∈ rowL l vs, v.t.length <= 40 := fun v hv => by
 obtain ⟨i, c, _, rfl⟩ := row_mem hv;exact rowV_text _ _
theorem kinds_ok {l : List Col} {keys : Int} (h : SchOk l keys) : ∀ c ∈ l, 1 <= c.k /\ c.k <= 4 := fun c hc => by
 have := (h.cols c hc).2;unfold kindOk at this;simp at this;exact this
end Go.Proofs.YtcdkklgeepkopaaGreatDoorPg
namespace Go.Proofs.YtcdkklgeepkopaaGreatDoorPg
open Go Go.RowKit
variable {Q : V -> List O -> Prop}
theorem may_kinds {l : List Col} {k : Int} (h : mayS l k = true) : ∀ c ∈ l, -9223372036854775808 <= c.k /\ c.k <= 9223372036854775807 := fun c hc => by
 obtain ⟨i, hi⟩ := List.mem_iff_getElem?.1 hc;unfold mayS at h;rw [Bool.and_eq_true, List.all_eq_true] at h;have := h.2 i (List.mem_range.2 (liZ.1 hi).1);rw [hi] at this;simp only [mayC, kindOk, Bool.and_eq_true, decide_eq_true_eq] at this;omega
theorem textsOk_row (l : List Col) (vs : List Val) : TextsOk (rowL l vs) := fun v hv => by have := row_texts l vs v hv; omega
theorem row_sub0 (k : Int) (t : List UInt8) : VSub (.agg [.int .i64 k, .int .i64 0, .str t, .nils, .nils, .int .i64 0, .str [], .nils, .int .i64 0, .str [], .int .i64 0, .bool false]) (evA ⟨k, 0, t, [], [], chg0⟩) :=
 .agg (.cons (.refl _) (.cons (.refl _) (.cons (.refl _) (.cons (nils_sl3 false) (.cons (nils_sl3 false) (.cons (.refl _) (.cons (.refl _) (.cons (nils_sl3 false) (VSubs.refl _)))))))))
theorem textsOk_nil : TextsOk [] := fun v hv => by cases hv
theorem evt0 (k n : Int) (t : List UInt8) : EvtT ⟨k, n, t, [], [], chg0⟩ := ⟨textsOk_nil, textsOk_nil, by show 0 < 9223372036854775808; decide, by show 0 < 9223372036854775808; decide, by show 0 < 9223372036854775808; decide⟩
theorem evt6 (k n : Int) {c : Chg} (hc : c.c.length < 9223372036854775808) : EvtT ⟨k, n, [], [], [], c⟩ := ⟨textsOk_nil, textsOk_nil, by show 0 < 9223372036854775808; decide, by show 0 < 9223372036854775808; decide, hc⟩
theorem evt3 (k n : Int) (t : List UInt8) {C : List Col} (hC : C.length <= 16) (vs : List Val) : EvtT ⟨k, n, t, [], rowL C vs, chg0⟩ :=
 ⟨textsOk_nil, textsOk_row C vs, by show 0 < 9223372036854775808; decide, by show (rowL C vs).length < _; rw [rowL_len]; omega, by show 0 < 9223372036854775808; decide⟩
theorem evt5 (k n : Int) (t : List UInt8) {C : List Col} (hC : C.length <= 16) (vs : List Val) (m : Nat) : EvtT ⟨k, n, t, (rowL C vs).take m, [], chg0⟩ :=
 ⟨fun v hv => textsOk_row C vs v (List.mem_of_mem_take hv), textsOk_nil, by show ((rowL C vs).take m).length < _; rw [List.length_take, rowL_len]; omega, by show 0 < 9223372036854775808; decide, by show 0 < 9223372036854775808; decide⟩
end Go.Proofs.YtcdkklgeepkopaaGreatDoorPg
namespace Go.Proofs.YtcdkklgeepkopaaGreatDoorPg
open Go Go.RowKit
variable {Q : V -> List O -> Prop}
theorem WriteI_spec {l : List UInt8} {f : Bool} {C : List Col} {K : Int} {r : List Val} (hl0 : l ≠ []) (hr0 : r ≠ []) (hr : RwB r) (hl : l.length <= 1000000) (h : Q (.ms 1 0 0 (l ++ rowW r).length false) [.buf (bs (l ++ rowW r))]) :
 ACall Tryz.prog 94 0 [.sl 1 (bs l) f, sch C K, .sl 3 (vals r) false] [] Q := by
 refine by_body Tryz.func94 0 rfl (nbZ rfl) ?_
 conv => whnf
 refine .call [] 0 ⟨rfl, rfl, rfl⟩ (put_img hl0 hr0 hr hl ?_)
 conv => whnf
 exact ⟨[1], rfl, h⟩
theorem WriteKeyI_spec {l : List UInt8} {f : Bool} {C : List Col} {k : Nat} {r : List Val} (hk : r.length = k) (hl0 : l ≠ []) (hr0 : r ≠ []) (hr : RwB r) (hl : l.length <= 1000000) (h : Q (.ms 1 0 0 (l ++ rowW r).length false) [.buf (bs (l ++ rowW r))]) :
 ACall Tryz.prog 91 0 [.sl 1 (bs l) f, sch C k, .sl 3 (vals r) false] [] Q := by
 refine by_body Tryz.func91 0 rfl (nbZ rfl) ?_;have hlv := vals_len r
 conv => whnf
 refine ⟨⟨by omega, by omega⟩, ?_⟩
 rw [show List.take (k : Int).toNat (vals r) = vals r by rw [Int.toNat_natCast, List.take_of_length_le (by omega)]]
 conv => whnf
 refine .call [] 0 ⟨rfl, rfl, rfl⟩ (put_img hl0 hr0 hr hl ?_)
 conv => whnf
 exact ⟨[1], rfl, h⟩
theorem app_b2 {i j n : Nat} {k : Int} {x : UInt8} {c : Int} {f : Bool} {X : List UInt8} {H : List O} {K : V -> List O -> Prop} (hij : Nat.beq i j = false) (hX : getO H i = .buf (bs X)) (hn : n = X.length) (hc : c = (x.toNat : Int)) (hs : X.length <= 1000000000)
 (hK : copyH (setO H i .dead ++ [.buf (bs (X ++ [b8 k, x]))]) fun H' => K (.ms 1 (setO H i .dead).length 0 (X ++ [b8 k, x]).length false) H') :
 0 + 2 <= 2 /\ aapp 1 1 (.ms 1 i 0 n false) (.ms 1 j 0 2 f) [[.int .u8 (IntKind.u8.wrap k)], [.int .u8 c]] H K := by
 subst hn;subst hc;refine ⟨Nat.le_refl 2, ?_⟩;unfold aapp sameBuf;simp only [hij];unfold aappend;simp only [show Nat.beq 1 1 = true from rfl, hX, List.drop_zero]
 refine ⟨by rw [bs_len]; rfl, ?_⟩
 rw [show bs X ++ [[V.int .u8 (IntKind.u8.wrap k)], [V.int .u8 (x.toNat : Int)]] = bs (X ++ [b8 k, x]) by rw [bs_app, b8_wrap]; rfl]
 unfold newBuf;rw [bs_len];exact ⟨by rw [laZ]; simp only [List.length_cons, List.length_nil]; omega, hK⟩
set_option maxHeartbeats 4000000 in
theorem putColumn_spec {l : List UInt8} {f : Bool} {c : Col} (hc : c.n.length <= 4096) (hl : l.length <= 100000000) (h : Q (.ms 1 0 0 (l ++ colW c).length false) [.buf (bs (l ++ colW c))]) :
 ACall Tryz.prog 123 0 [.sl 1 (bs l) f, .agg [.str c.n, .int .i64 c.k, .bool c.o]] [] Q := by
 refine by_body Tryz.func123 0 rfl (nbZ rfl) ?_;have htl := txtW_len c.n
 conv => whnf
 cases ho : c.o <;> conv => whnf
 focus
  have e : l ++ colW c = l ++ txtW c.n ++ [b8 c.k, 0] := by unfold colW; rw [ho, List.append_assoc]; rfl
  rw [e] at h;refine ⟨[0, 1, 2, 4, 5, 6, 7, 3, 8, 9, 10], by kernel_rfl, by kernel_rfl, ?_⟩
  conv => whnf
  refine .call [] 0 ⟨rfl, rfl, rfl⟩ (WText_spec (l := l) (f := f) (s := c.n) (by omega) (by omega) ?_)
  repeat (conv => whnf
          refine ⟨rfl, ?_⟩)
  conv => whnf
  refine app_b2 (X := l ++ txtW c.n) (k := c.k) (x := 0) rfl rfl rfl rfl (by rw [laZ]; omega) ?_
  repeat (conv => whnf
          refine ⟨rfl, ?_⟩)
  conv => whnf
  exact ⟨[3], rfl, h⟩
 focus
  have e : l ++ colW c = l ++ txtW c.n ++ [b8 c.k, 1] := by unfold colW; rw [ho, List.append_assoc]; rfl
  rw [e] at h;refine ⟨[0, 1, 2, 4, 5, 6, 7, 3, 8, 9, 10], by kernel_rfl, by kernel_rfl, ?_⟩
  conv => whnf
  refine .call [] 0 ⟨rfl, rfl, rfl⟩ (WText_spec (l := l) (f := f) (s := c.n) (by omega) (by omega) ?_)
  repeat (conv => whnf
          refine ⟨rfl, ?_⟩)
  conv => whnf
  refine app_b2 (X := l ++ txtW c.n) (k := c.k) (x := 1) rfl rfl rfl rfl (by rw [laZ]; omega) ?_
  repeat (conv => whnf
          refine ⟨rfl, ?_⟩)
  conv => whnf
  exact ⟨[3], rfl, h⟩
theorem app_sl1 {X : List UInt8} (hX : X ≠ []) {j : Nat} {k : Int} {f : Bool} {H : List O} {K : V -> List O -> Prop} (hs : X.length <= 1000000000)
 (hK : copyH (H ++ [.buf (bs (X ++ [b8 k]))]) fun H' => K (.ms 1 H.length 0 (X ++ [b8 k]).length false) H') :
 0 + 1 <= 1 /\ aapp 1 1 (.sl 1 (bs X) true) (.ms 1 j 0 1 f) [[.int .u8 (IntKind.u8.wrap k)]] H K := by
 refine ⟨Nat.le_refl 1, ?_⟩;cases X with
 | nil => exact absurd rfl hX
 | cons x r =>
  have e : bs (x :: r) ++ [[V.int .u8 (IntKind.u8.wrap k)]] = bs (x :: r ++ [b8 k]) := by rw [b8_wrap, bs_app]; rfl
  have ne : bs (x :: r) ≠ [] := fun e => nomatch e
  unfold aapp sameBuf aappend;simp only [show Nat.beq 1 1 = true from rfl]
  rw [e];unfold newBuf;rw [bs_len];exact ⟨(fun e => nomatch e), fun _ => ⟨by rw [laZ, List.length_singleton]; omega, hK⟩⟩
theorem ACall.eatA {P : Program} {f : FuncId} {z : Nat} {es : List (List V)} {full : Bool} {vs : List V} {len : Nat} {Q : V -> List O -> Prop} (hlen : len = es.length) (hm : msL 0 vs = []) (hf : (frzL 0 (.buf es) vs).map (renV (idx [])) = vs)
 (h : ACall P f 0 (.sl z es full :: vs) [] fun r H' => Q (renV (outH 0 1) r) (weave 0 H' [.dead])) : ACall P f 1 (.ms z 0 0 len full :: vs) [.buf es] Q := by
 subst hlen;refine ACall.stay 1 rfl (ACall.frzIn 0 rfl ?_ (ACall.selIn [] rfl ?_))
 . show msLe es.length (msL 0 (.ms z 0 0 es.length full :: vs) ++ ([] ++ ([] ++ [])))
   simp only [msL, msV, Nat.beq_refl, hm, List.append_nil, msLe];exact ⟨by omega, trivial⟩
 . have e : (frzL 0 (getO [O.buf es] 0) (.ms z 0 0 es.length full :: vs)).map (renV (idx [])) = .sl z es full :: vs := by
    show (frzV 0 (.buf es) (.ms z 0 0 es.length full) :: frzL 0 (.buf es) vs).map (renV (idx [])) = _
    rw [frz_ms_eq, List.map_cons, hf]; rfl
   rw [e]; exact h
set_option maxHeartbeats 8000000 in
theorem putChange_spec {l : List UInt8} {c : Chg} (hl0 : l ≠ []) (hc : ChB c) (hl : l.length <= 1000) (h : Q (.ms 1 0 0 (l ++ chgW c).length false) [.buf (bs (l ++ chgW c))]) :
 ACall Tryz.prog 90 0 [.sl 1 (bs l) true, chA c] [] Q := by
 refine by_body Tryz.func90 0 rfl (nbZ rfl) ?_;have hll := bs_len l;have htl := txtW_len c.t;have hct := hc.t
 conv => whnf
 refine ⟨[0, 1, 2, 3, 6, 7, 4, 5, 8, 9], by kernel_rfl, by kernel_rfl, ?_⟩
 conv => whnf
 repeat (refine ⟨rfl, ?_⟩
         conv => whnf)
 refine app_sl1 (X := l) (k := c.k) hl0 (by omega) ?_
 repeat (conv => whnf
         refine ⟨rfl, ?_⟩)
 conv => whnf
 refine .call [2] 1 ⟨rfl, rfl, rfl⟩ (ACall.eat (bs_len _).symm rfl (WText_spec (l := l ++ [b8 c.k]) (f := false) (s := c.t) (by omega) (by rw [laZ, List.length_singleton]; omega) ?_))
 repeat (conv => whnf
         refine ⟨rfl, ?_⟩)
 conv => whnf
 have hX1 : (l ++ [b8 c.k] ++ txtW c.t).length <= 10000 := by rw [laZ, laZ, List.length_singleton]; omega
 obtain ⟨X1, eX1⟩ : ∃ X1, X1 = l ++ [b8 c.k] ++ txtW c.t := ⟨_, rfl⟩;rw [<- eX1] at hX1 ⊢;have hR : ∀ w, chgW c = b8 c.k :: (txtW c.t ++ w) -> X1 ++ w = l ++ chgW c := fun w e => by rw [e, eX1]; simp
 refine branch_i (fun k1 => ?_) (fun k1 => ?_) <;> try rw [k1] <;> conv => whnf
 focus
  have k1' := dtZ k1;have hcl := cols_len c.c;have hfew := hc.few;refine app_b2 (X := X1) (k := c.ks) (x := b8 c.c.length) rfl rfl rfl (by rw [<- b8_wrap, <- hcl]) (by omega) ?_
  conv => whnf
  rw [hcl];obtain ⟨X2, eX2⟩ : ∃ X2, X2 = X1 ++ [b8 c.ks, b8 c.c.length] := ⟨_, rfl⟩;have hX2 : X2.length <= 10002 := by rw [eX2, laZ]; simp only [List.length_cons, List.length_nil]; omega
  rw [<- eX2];refine ⟨⟨[0, 34, 35, 36], fun mm ws H => ∃ (i : Nat) (X : List UInt8), ws = [.ms 1 0 0 X.length false, .sl 3 (cols c.c) false, fI c.c.length, fI i] /\ H = [.buf (bs X)] /\ X = X2 ++ (c.c.take i).flatMap colW /\ i <= c.c.length /\ mm = c.c.length - i,
   .frz (c.c.length + 1) (.go [5] rfl c.c.length (by omega) ⟨0, X2, rfl, rfl, by simp, by omega, rfl⟩), ?_⟩⟩
  rintro mm ws H ⟨i, X, rfl, rfl, hX, hi, rfl⟩
  conv => whnf
  refine branch_i (fun c1 => ?_) (fun c1 => ?_) <;> try rw [c1] <;> conv => whnf
  rotate_left
  focus
   have c1' := dfZ c1;have hie : i = c.c.length := by omega
   subst hie;rw [List.take_length] at hX;have e : X = l ++ chgW c := by
    rw [hX, eX2, List.append_assoc];exact hR _ (by unfold chgW; rw [if_pos k1']; rfl)
   subst e;exact ⟨[0], rfl, h⟩
  have c1' := dtZ c1;have hlt : i < c.c.length := by omega
  have hg : c.c[i]? = some c.c[i] := lgZ hlt;have hxm := List.getElem_mem hlt;have hsn := colsW_snoc hg;have hvw := cols_w (l := c.c.take i) (fun v hv => hc.names v (List.mem_of_mem_take hv))
  rw [List.length_take] at hvw;have hXl : X.length <= 1000000 := by
   rw [hX, laZ];have : min i c.c.length <= 64 := by omega
   omega
  have hxn := hc.names _ hxm;generalize c.c[i] = x at *;refine ⟨_, ⟨by omega, cols_get hg⟩, ?_⟩
  conv => whnf
  refine .call [0] 1 ⟨rfl, rfl, rfl⟩ (ACall.eatA (bs_len X).symm rfl rfl (putColumn_spec (l := X) (f := false) (c := x) hxn (by omega) ?_))
  conv => whnf
  refine .go [2] rfl (c.c.length - (i + 1)) (by omega) ⟨i + 1, X ++ colW x, ?_, rfl, by rw [hsn, hX, List.append_assoc], by omega, rfl⟩
  show [V.ms 1 0 0 (X ++ colW x).length false, .sl 3 (cols c.c) false, fI c.c.length, V.int .i64 (IntKind.i64.wrap ((i : Int) + 1))] = _
  rw [wrapL (by omega)]; rfl
 have k1' := dfZ k1;refine branch_i (fun k3 => ?_) (fun k3 => ?_) <;> try rw [k3] <;> conv => whnf
 focus
  have k3' := dtZ k3;refine .call [3] 1 ⟨rfl, rfl, rfl⟩ (ACall.eatA (bs_len X1).symm rfl rfl (putColumn_spec (l := X1) (f := false) (c := c.col) hc.col (by omega) ?_))
  conv => whnf
  rw [hR (colW c.col) (by unfold chgW; rw [if_neg k1', if_pos (.inl k3')])]
  exact ⟨[4], rfl, h⟩
 have k3' := dfZ k3;refine branch_i (fun k5 => ?_) (fun k5 => ?_) <;> try rw [k5] <;> conv => whnf
 focus
  have k5' := dtZ k5;refine .call [3] 1 ⟨rfl, rfl, rfl⟩ (ACall.eatA (bs_len X1).symm rfl rfl (putColumn_spec (l := X1) (f := false) (c := c.col) hc.col (by omega) ?_))
  conv => whnf
  rw [hR (colW c.col) (by unfold chgW; rw [if_neg k1', if_pos (.inr k5')])]
  exact ⟨[4], rfl, h⟩
 have k5' := dfZ k5;refine branch_i (fun k4 => ?_) (fun k4 => ?_) <;> try rw [k4] <;> conv => whnf
 focus
  have k4' := dtZ k4;refine .call [3] 1 ⟨rfl, rfl, rfl⟩ (ACall.eat (bs_len X1).symm rfl (WText_spec (l := X1) (f := false) (s := c.col.n) (by have := hc.col; omega) (by omega) ?_))
  conv => whnf
  rw [hR (txtW c.col.n) (by unfold chgW; rw [if_neg k1', if_neg (by omega), if_pos k4'])]
  exact ⟨[4], rfl, h⟩
 have k4' := dfZ k4;have e := hR [] (by unfold chgW; rw [if_neg k1', if_neg (by omega), if_neg k4'])
 rw [List.append_nil] at e;rw [e];exact ⟨[3], rfl, h⟩
end Go.Proofs.YtcdkklgeepkopaaGreatDoorPg
namespace Go.Proofs.YtcdkklgeepkopaaGreatDoorPg
open Go Go.RowKit
variable {Q : V -> List O -> Prop}
def tabL (i : Nat) : List V := (List.range i).map (fun j => V.int .u32 (stpN 8 j : Nat)) ++ List.replicate (256 - i) (.int .u32 0)
theorem tabL_len {i : Nat} (h : i <= 256) : (tabL i).length = 256 := by unfold tabL; rw [laZ, List.length_map, List.length_range, List.length_replicate]; omega
theorem tabL_set {i : Nat} (h : i < 256) : (tabL i).take i ++ [V.int .u32 (stpN 8 i : Nat)] ++ (tabL i).drop (i + 1) = tabL (i + 1) := by
 unfold tabL;have hl : ((List.range i).map (fun j => V.int .u32 (stpN 8 j : Nat))).length = i := by rw [List.length_map, List.length_range]
 rw [List.take_append_of_le_length (by omega), List.take_of_length_le (by omega), List.drop_append, List.drop_of_length_le (by omega), hl, List.nil_append, List.drop_replicate, List.range_succ, List.map_append, show 256 - i - (i + 1 - i) = 256 - (i + 1) by omega]
 rfl
theorem tabL_get {j : Nat} (h : j < 256) : (tabL 256)[j]? = some (V.int .u32 (stpN 8 j : Nat)) := by
 unfold tabL;rw [show List.replicate (256 - 256) (V.int .u32 0) = [] from rfl, List.append_nil, List.getElem?_map, List.getElem?_range h]; rfl
theorem tabL_pure (i : Nat) : (tabL i).all pureV = true := by
 unfold tabL;simp [List.all_eq_true, pureV]
theorem renL_pure {f : Nat -> Option Nat} {l : List V} (h : l.all pureV = true) : renL f l = l := by rw [renL_map, map_pure h]
theorem copyL_of {l l' : List V} {K : List V -> Prop} (e : l = l') (h : K l') : copyL l K := by subst e; exact (copyL_iff _ _).2 h
theorem tab_gather {A B : List V} (hA : A.all pureV = true) (hB : B.all pureV = true) : gather (idx [0, 1]) [.cells A, .cells B] [0, 1] = [.cells A, .cells B] := by
 show [O.cells (renL (idx [0, 1]) A), O.cells (renL (idx [0, 1]) B)] = _
 rw [renL_pure hA, renL_pure hB]
set_option maxRecDepth 20000 in
set_option maxHeartbeats 4000000 in
theorem table_spec (h : Q (.agg (tabL 256)) []) : ACall Tryz.prog 122 0 [] [] Q := by
 refine by_body Tryz.func122 0 rfl (nbZ rfl) ?_
 conv => whnf
 refine ⟨⟨[0, 1, 4], fun mm ws H => ∃ i : Nat, ws = [.ptr 0 0, .ptr 1 0, fI i] /\ H = [.cells (tabL 0), .cells (tabL i)] /\ i <= 256 /\ mm = 256 - i, .at 256 ⟨0, rfl, rfl, by omega, rfl⟩, ?_⟩⟩
 rintro mm ws H ⟨i, rfl, rfl, hi, rfl⟩;generalize hZ : tabL 0 = Z at *;have hZp : Z.all pureV = true := by rw [<- hZ]; exact tabL_pure 0
 have hZl : Z.length = 256 := by rw [<- hZ]; exact tabL_len (by omega)
 have hTl := tabL_len hi
 conv => whnf
 refine branch_i (fun c1 => ?_) (fun c1 => ?_) <;> try rw [c1] <;> conv => whnf
 focus
  have c1' := dtZ c1;have hlt : i < 256 := by omega
  refine ⟨⟨[0, 1, 4, 2, 3, 9], fun mm ws H => ∃ k : Nat, ws = [.ptr 0 0, .ptr 1 0, fI i, fI i, .int .u32 (stpN k i : Nat), fI k] /\ H = [.cells Z, .cells (tabL i)] /\ k <= 8 /\ mm = 8 - k, .at 8 ⟨0, ?_, rfl, by omega, rfl⟩, ?_⟩⟩
  . show [V.ptr 0 0, V.ptr 1 0, fI i, fI i, V.int .u32 (IntKind.u32.wrap (i : Int)), fI 0] = _
    rw [wrap_u32, show (i : Int) % 4294967296 = (i : Int) by omega]; rfl
  rintro mm ws H ⟨k, rfl, rfl, hk, rfl⟩;have hs := stpN_lt k (show i < 2 ^ 32 by omega)
  conv => whnf
  refine branch_i (fun c2 => ?_) (fun c2 => ?_) <;> try rw [c2] <;> conv => whnf
  focus
   have c2' := dtZ c2;refine ⟨by decide, ?_⟩
   conv => whnf
   refine .go [0, 1] rfl (8 - (k + 1)) (by omega) ⟨k + 1, ?_, tab_gather hZp (tabL_pure i), by omega, rfl⟩
   rw [stpN_s, <- stp_code hs];show [V.ptr 0 0, V.ptr 1 0, fI i, fI i, _, V.int .i64 (IntKind.i64.wrap ((k : Int) + 1))] = _
   rw [wrapL (by omega)]; rfl
  have c2' := dfZ c2;have : k = 8 := by omega
  subst this;refine ⟨⟨by omega, by omega⟩, ?_⟩
  conv => whnf
  split
  rotate_left
  focus
   rename_i hf;have hf' : Nat.ble (i * 1 + 0 + 1) (tabL i).length = false := hf;rw [Nat.ble_eq_true_of_le (by omega)] at hf'; cases hf'
  refine copyL_of (l' := tabL (i + 1)) (show List.take (i * 1 + 0) (tabL i) ++ [V.int .u32 (stpN 8 i : Nat)] ++ List.drop (i * 1 + 0 + 1) (tabL i) = _ by rw [Nat.mul_one, Nat.add_zero]; exact tabL_set hlt) ?_
  conv => whnf
  refine .go [0, 1] rfl (256 - (i + 1)) (by omega) ⟨i + 1, ?_, ?_, by omega, rfl⟩
  . show [V.ptr 0 0, V.ptr 1 0, V.int .i64 (IntKind.i64.wrap ((i : Int) + 1))] = _
    rw [wrapL (by omega)]; rfl
  . exact tab_gather hZp (tabL_pure _)
 have c1' := dfZ c1;have : i = 256 := by omega
 subst this;have hTp := tabL_pure 256;generalize tabL 256 = T at *;have e1 : ∀ l : List V, l.length = 256 -> List.take 256 (List.drop 0 l) = l := fun l h => by rw [List.drop_zero, <- h, List.take_length]
 split
 rotate_left
 focus
  rename_i hf;have hf' : Nat.ble (0 + 256) T.length = false := hf;rw [Nat.ble_eq_true_of_le (by omega)] at hf'; cases hf'
 refine copyL_of (l' := T) (show List.take 256 (List.drop 0 T) = T by rw [List.drop_zero, <- hTl, List.take_length]) ?_
 conv => whnf
 split
 rotate_left
 focus
  rename_i hf;have hf' : Nat.beq T.length 256 = false := hf;rw [hTl] at hf'; exact absurd hf' (by decide)
 conv => whnf
 split
 rotate_left
 focus
  rename_i hf;have hf' : Nat.ble (0 + T.length) Z.length = false := hf;rw [Nat.ble_eq_true_of_le (by omega)] at hf'; cases hf'
 refine copyL_of (l' := T) (show List.take 0 Z ++ T ++ List.drop (0 + T.length) Z = T by rw [List.take_zero, List.nil_append, List.drop_of_length_le (by omega), List.append_nil]) ?_
 conv => whnf
 split
 rotate_left
 focus
  rename_i hf;have hf' : Nat.ble (0 + 256) T.length = false := hf;rw [Nat.ble_eq_true_of_le (by omega)] at hf'; cases hf'
 refine copyL_of (l' := T) (show List.take 256 (List.drop 0 T) = T by rw [List.drop_zero, <- hTl, List.take_length]) ?_
 conv => whnf
 refine ⟨[], rfl, ?_⟩;show Q (.agg (renL _ T)) []
 rw [renL_pure hTp];exact h
theorem bs_at {l : List UInt8} {i : Nat} {x : UInt8} (h : l[i]? = some x) : (bs l)[i]? = some [.int .u8 x.toNat] := by simp [bs, h]
theorem byte_of (c : Nat) : IntKind.u8.wrap (c : Int) = ((c % 256 : Nat) : Int) := by rw [wrap_u8]; omega
set_option maxRecDepth 20000 in
set_option maxHeartbeats 4000000 in
theorem More_spec {l : List UInt8} {f : Bool} (hl : l.length <= 1000000000) (h : Q (fI (crcS l : Nat)) []) : ACall Tryz.prog 87 0 [fI 0, .sl 1 (bs l) f] [] Q := by
 refine by_body Tryz.func87 0 rfl (nbZ rfl) ?_
 conv => whnf
 refine .pure (table_spec ⟨rfl, ?_⟩);have hTl := tabL_len (Nat.le_refl 256);have hTp := tabL_pure 256;have hTg : ∀ j, j < 256 -> (tabL 256)[j]? = some (V.int .u32 (stpN 8 j : Nat)) := fun j h => tabL_get h
 generalize tabL 256 = T at *
 conv => whnf
 split
 rotate_left
 focus
  rename_i hf;have hf' : Nat.beq T.length 256 = false := hf;rw [hTl] at hf'; exact absurd hf' (by decide)
 conv => whnf
 split
 rotate_left
 focus
  rename_i hf;have hf' : Nat.ble (0 + T.length) (List.replicate 256 (V.int .u32 0)).length = false := hf;rw [List.length_replicate, Nat.ble_eq_true_of_le (by omega)] at hf'; cases hf'
 refine copyL_of (l' := T) (show List.take 0 (List.replicate 256 (V.int .u32 0)) ++ T ++ List.drop (0 + T.length) (List.replicate 256 (V.int .u32 0)) = T by rw [List.take_zero, List.nil_append, List.drop_of_length_le (by rw [List.length_replicate]; omega), List.append_nil]) ?_
 rename_i hq1 _ hq2;clear hq1 hq2;have hlb := bs_len l
 conv => whnf
 refine ⟨⟨[5, 6, 13, 14, 15], fun mm ws H => ∃ i : Nat, ws = [.int .u32 (run 4294967295 (l.take i) : Nat), .ptr 0 0, .sl 1 (bs l) f, fI (bs l).length, fI i] /\ H = [.cells T] /\ i <= l.length /\ mm = l.length - i, .at l.length ⟨0, rfl, rfl, by omega, rfl⟩, ?_⟩⟩
 rintro mm ws H ⟨i, rfl, rfl, hi, rfl⟩;have hrl : run 4294967295 (l.take i) < 2 ^ 32 := run_lt _ (by decide)
 conv => whnf
 refine branch_i (fun c1 => ?_) (fun c1 => ?_) <;> try rw [c1] <;> conv => whnf
 focus
  have c1' := dtZ c1;have hlt : i < l.length := by omega
  have hg : l[i]? = some l[i] := lgZ hlt;have hsn : l.take (i + 1) = l.take i ++ [l[i]] := by rw [List.take_add_one, hg]; rfl
  generalize l[i] = x at *;refine ⟨_, ⟨by omega, bs_at hg⟩, ?_⟩
  conv => whnf
  refine ⟨by decide, ?_⟩
  conv => whnf
  generalize hc : run 4294967295 (l.take i) = c at *;have e8 : IntKind.u8.wrap ↑(BitVec.ofInt IntKind.u8.bits (IntKind.u8.wrap (c : Int)) ^^^ BitVec.ofInt IntKind.u8.bits (x.toNat : Int)).toNat = ((c % 256 ^^^ x.toNat : Nat) : Int) := by
   rw [byte_of c, xor8 (Nat.mod_lt _ (by decide)) x.toNat_lt]
  have hm : c % 256 ^^^ x.toNat < 256 := Nat.xor_lt_two_pow (n := 8) (Nat.mod_lt _ (by decide)) x.toNat_lt
  have hstep := tab_step c x;rw [e8];have hTm := hTg _ hm;have hslt := stpN_lt 8 (show c % 256 ^^^ x.toNat < 2 ^ 32 by omega)
  generalize c % 256 ^^^ x.toNat = m at *;refine ⟨⟨by omega, by omega⟩, ?_⟩
  conv => whnf
  split
  rotate_left
  focus
   rename_i hf;have hf' : T[m * 1]? = none := hf;rw [Nat.mul_one, hTm] at hf'; cases hf'
  rename_i v hv;have hv' : T[m * 1]? = some v := hv;rw [Nat.mul_one, hTm] at hv';cases hv'
  conv => whnf
  refine .go [0] rfl (l.length - (i + 1)) (by omega) ⟨i + 1, ?_, ?_, by omega, rfl⟩
  . show [V.int .u32 _, V.ptr 0 0, .sl 1 (bs l) f, fI (bs l).length, V.int .i64 (IntKind.i64.wrap ((i : Int) + 1))] = _
    have e1 : IntKind.i64.wrap ((i : Int) + 1) = ((i + 1 : Nat) : Int) := by rw [wrapL (by omega)]; rfl
    have e2 : Int.fdiv (c : Int) (2 ^ min (8 : Int).toNat IntKind.u32.bits) = ((c / 256 : Nat) : Int) := shr_u32 c (k := 8) (by decide)
    rw [e1, e2, xor32 (by omega) hslt, <- hstep, hsn, run_snoc, hc]
  . show [O.cells (renL _ T)] = _
    rw [renL_pure hTp]
 have c1' := dfZ c1;have : i = l.length := by omega
 subst this;rw [List.take_length] at *;have e : IntKind.i64.wrap (IntKind.u32.wrap ↑(BitVec.ofInt IntKind.u32.bits (if IntKind.u32.signed then -1 else IntKind.u32.max) ^^^ BitVec.ofInt IntKind.u32.bits (run 4294967295 l : Nat)).toNat) = ((crcS l : Nat) : Int) := by
  rw [show (if IntKind.u32.signed then -1 else IntKind.u32.max : Int) = ((4294967295 : Nat) : Int) from rfl, xor32 (by decide) hrl, Nat.xor_comm]
  have := crcS_lt l;exact wrapN (by unfold crcS at this; omega)
 refine ⟨[], rfl, ?_⟩;show Q (.int .i64 _) []
 rw [e];exact h
theorem CrSum_spec {l : List UInt8} {f : Bool} (hl : l.length <= 1000000000) (h : Q (fI (crcS l : Nat)) []) : ACall Tryz.prog 56 0 [.sl 1 (bs l) f] [] Q := by
 refine by_body Tryz.func56 0 rfl (nbZ rfl) ?_
 conv => whnf
 refine .pure (More_spec hl ⟨rfl, ?_⟩)
 conv => whnf
 exact ⟨[], rfl, h⟩
theorem b8_le4 {s i : Nat} (hs : s < 2 ^ 32) (hi : i < 4) : b8 (Int.fdiv (s : Int) (2 ^ min (IntKind.i64.wrap (8 * (i : Int))).toNat IntKind.i64.bits)) = (le4 s).getD i 0 := by
 have h1 := le4_code hs hi;rw [b8_wrap] at h1;exact UInt8.toNat_inj.1 (by omega)
set_option maxHeartbeats 4000000 in
theorem CrPut_spec {b own : List UInt8} {f g : Bool} (hb : b.length <= 900000000) (ho : own.length <= 900000000) (hs : b.length + own.length <= 999999990) (h : Q (.ms 1 0 0 (b ++ crcP own).length false) [.buf (bs (b ++ crcP own))]) :
 ACall Tryz.prog 29 0 [.sl 1 (bs b) f, .sl 1 (bs own) g] [] Q := by
 refine by_body Tryz.func29 0 rfl (nbZ rfl) ?_
 conv => whnf
 refine .call [0] 1 ⟨rfl, rfl, rfl⟩ (ACall.eat rfl rfl (Concat2_spec (a := b) (c := own) (f := f) (g := g) hb ho (by omega) ?_))
 conv => whnf
 refine .pure (CrSum_spec (l := own) (by omega) ⟨rfl, ?_⟩)
 have hcs := crcS_lt own;unfold crcP at h;generalize crcS own = s at *;have hcl := le4_len s
 conv => whnf
 refine ⟨⟨[5, 6, 14], fun mm ws H => ∃ (i : Nat) (X : List UInt8), ws = [.ms 1 0 0 X.length false, fI s, fI i] /\ H = [.buf (bs X)] /\ X = b ++ own ++ (le4 s).take i /\ i <= 4 /\ mm = 4 - i,
  .frz 5 (.go [1] rfl 4 (by omega) ⟨0, b ++ own, rfl, rfl, by simp, by omega, rfl⟩), ?_⟩⟩
 rintro mm ws H ⟨i, X, rfl, rfl, hX, hi, rfl⟩;have hXl : X.length = b.length + own.length + i := by rw [hX, laZ, laZ, List.length_take, hcl]; omega
 conv => whnf
 refine branch_i (fun c1 => ?_) (fun c1 => ?_) <;> try rw [c1] <;> conv => whnf
 rotate_left
 focus
  have c1' := dfZ c1;have hie : i = 4 := by omega
  subst hie;rw [List.take_of_length_le (by omega), List.append_assoc] at hX
  subst hX;exact ⟨[0], rfl, h⟩
 have c1' := dtZ c1;have hlt : i < 4 := by omega
 refine ⟨by rw [wrapL (by omega)]; omega, ?_⟩
 conv => whnf
 refine app_b1 (X := X) rfl rfl rfl (by omega) ?_
 have hb8 := b8_le4 (i := i) hcs hlt;rw [hb8];have hsn : X ++ [(le4 s).getD i 0] = b ++ own ++ (le4 s).take (i + 1) := by
  rw [hX, List.take_add_one, List.getD, lgZ (by omega), List.append_assoc (b ++ own)]; rfl
 generalize X ++ [(le4 s).getD i 0] = Y at *
 conv => whnf
 refine .go [2] rfl (4 - (i + 1)) (by omega) ⟨i + 1, Y, ?_, rfl, hsn, by omega, rfl⟩
 show [V.ms 1 0 0 Y.length false, fI s, V.int .i64 (IntKind.i64.wrap ((i : Int) + 1))] = _
 rw [wrapL (by omega)]; rfl
end Go.Proofs.YtcdkklgeepkopaaGreatDoorPg
namespace Go.Proofs.YtcdkklgeepkopaaGreatDoorPg
open Go Go.RowKit
variable {Q : V -> List O -> Prop}
theorem BClone_spec {l : List UInt8} {f : Bool} (hl : l.length <= 1000000000) (h : Q (.sl 1 (bs l) false) []) : ACall Tryz.prog 63 0 [.sl 1 (bs l) f] [] Q := by
 have hlk := bs_len l;refine ACall.ret (by_body Tryz.func63 0 rfl (nbZ rfl) ?_);cases l with
 | nil =>
  conv => whnf
  refine ⟨?_, ?_⟩
  . conv => whnf
    exact ⟨[], rfl, .sub _ _ (VSub.nils 1 false) (HSub.refl _) (.done [] rfl h)⟩
  . conv => whnf
    refine ⟨by decide, fun _ => ?_, fun e => absurd rfl e⟩
    conv => whnf
    exact ⟨[0], rfl, .sub _ _ (VSub.msRoom 1 0 0) (HSub.refl _) (.frz 0 rfl ⟨by decide, trivial⟩ (.done [] rfl h))⟩
 | cons c r =>
  conv => whnf
  refine ⟨by decide, fun e => by simp [bs] at e, fun _ => ?_⟩
  conv => whnf
  refine ⟨(show (bs (c :: r)).length * 1 <= 70368744177664 by rw [hlk]; omega), ?_⟩
  conv => whnf
  refine ⟨[1], rfl, .frz 0 rfl (by repeat (first | exact trivial | refine And.intro (by rw [Nat.zero_add]; exact Nat.le_refl _) ?_)) (.done [] rfl ?_)⟩
  show Q (.sl 1 (List.take (bs (c :: r)).length (List.drop 0 (bs (c :: r)))) false) []
  rw [List.drop_zero, List.take_length]; exact h
def tkL (b : List UInt8) : List UInt8 × Int := if b.length < 4 then ([], 4) else if crcP (b.take (b.length - 4)) = b then (b.take (b.length - 4), 0) else ([], 3)
set_option maxHeartbeats 4000000 in
theorem CrTake_spec {b : List UInt8} {f : Bool} (hb : b.length <= 900000000) (h : Q (.tup [.sl 1 (bs (tkL b).1) false, fI (tkL b).2]) []) : ACall Tryz.prog 37 0 [.sl 1 (bs b) f] [] Q := by
 refine ACall.ret (by_body Tryz.func37 0 rfl (nbZ rfl) ?_);have hlb := bs_len b;unfold tkL at h
 conv => whnf
 rw [hlb, wrapL (n := (b.length : Int) - 4) (by omega)]
 refine branch_i (fun c1 => ?_) (fun c1 => ?_) <;> try rw [c1] <;> conv => whnf
 . have c1' := dtZ c1;rw [if_pos (by omega)] at h
   exact ⟨[], rfl, .sub _ _ (.tup (.cons (VSub.nils 1 false) (VSubs.refl _))) (HSub.refl _) (.done [] rfl h)⟩
 have c1' := dfZ c1;rw [if_neg (by omega)] at h
 refine ⟨⟨by omega, by omega⟩, ?_⟩
 rw [bs_take, show ((b.length : Int) - 4).toNat = b.length - 4 by omega]
 have hnl : (b.take (b.length - 4)).length <= 900000000 := by rw [List.length_take]; omega
 generalize b.take (b.length - 4) = own at *
 conv => whnf
 refine .pure (BClone_spec (l := own) (by omega) ⟨rfl, ?_⟩)
 conv => whnf
 refine ⟨[0, 3, 4, 1, 2, 5], by kernel_rfl, by kernel_rfl, ?_⟩
 conv => whnf
 refine ⟨_, bytesOfEs_bs _, ?_⟩
 conv => whnf
 refine .call [] 0 ⟨rfl, rfl, rfl⟩ (ACall.args (.cons (VSub.nils 1 false) (VSubs.refl _)) (CrPut_spec (b := []) (own := own) (by simp) (by omega) (by simp; omega) ?_))
 have hcl := crcP_len own;rw [List.nil_append];generalize crcP own = W at *;have hlW := bs_len W
 repeat (conv => whnf
         refine ⟨rfl, ?_⟩)
 conv => whnf
 refine ⟨⟨_, bytesOfEs_bs _, rfl⟩, ?_⟩
 conv => whnf
 refine ⟨by omega, W, ?_, ?_⟩
 . rw [List.drop_zero, <- hlW, List.take_length]; exact bytesOfEs_bs _
 conv => whnf
 by_cases hW : W = b
 . rw [if_pos hW] at h;rw [decide_eq_true hW]
   conv => whnf
   exact ⟨[], rfl, .done [] rfl h⟩
 . rw [if_neg hW] at h;rw [decide_eq_false hW]
   conv => whnf
   exact ⟨[], rfl, .sub _ _ (.tup (.cons (VSub.nils 1 false) (VSubs.refl _))) (HSub.refl _) (.done [] rfl h)⟩
theorem RMore_spec {l : List UInt8} {f : Bool} (hl : l.length <= 1000000000) (h : Q (fI (crcS l : Nat)) []) : ACall Tryz.prog 88 0 [fI 0, .sl 1 (bs l) f] [] Q := by
 refine by_body Tryz.func88 0 rfl (nbZ rfl) ?_;have hlb := bs_len l
 conv => whnf
 refine ⟨⟨[1, 5, 6], fun mm ws H => ∃ i : Nat, ws = [.sl 1 (bs l) f, .int .u32 (run 4294967295 (l.take i) : Nat), fI i] /\ H = [] /\ i <= l.length /\ mm = l.length - i, .at l.length ⟨0, rfl, rfl, by omega, rfl⟩, ?_⟩⟩
 rintro mm ws H ⟨i, rfl, rfl, hi, rfl⟩;have hrl : run 4294967295 (l.take i) < 2 ^ 32 := run_lt _ (by decide)
 conv => whnf
 refine branch_i (fun c1 => ?_) (fun c1 => ?_) <;> try rw [c1] <;> conv => whnf
 focus
  have c1' := dtZ c1;have hlt : i < l.length := by omega
  have hg : l[i]? = some l[i] := lgZ hlt;have hsn : l.take (i + 1) = l.take i ++ [l[i]] := by rw [List.take_add_one, hg]; rfl
  generalize l[i] = x at *;refine ⟨_, ⟨by omega, bs_at hg⟩, ?_⟩
  conv => whnf
  generalize hc : run 4294967295 (l.take i) = c at *;have hx8 := x.toNat_lt;have hcx : c ^^^ x.toNat < 2 ^ 32 := Nat.xor_lt_two_pow hrl (by omega)
  refine ⟨⟨[1, 5, 6, 7], fun mm ws H => ∃ k : Nat, ws = [.sl 1 (bs l) f, .int .u32 (stpN k (c ^^^ x.toNat) : Nat), fI i, fI k] /\ H = [] /\ k <= 8 /\ mm = 8 - k, .at 8 ⟨0, ?_, rfl, by omega, rfl⟩, ?_⟩⟩
  . show [V.sl 1 (bs l) f, V.int .u32 (IntKind.u32.wrap ↑(BitVec.ofInt IntKind.u32.bits (c : Int) ^^^ BitVec.ofInt IntKind.u32.bits (IntKind.u32.wrap (x.toNat : Int))).toNat), fI i, fI 0] = _
    rw [wrap_u32 (x.toNat : Int), show (x.toNat : Int) % 4294967296 = (x.toNat : Int) by omega, xor32 hrl (by omega)]; rfl
  rintro mm ws H ⟨k, rfl, rfl, hk, rfl⟩;have hs := stpN_lt k hcx
  conv => whnf
  refine branch_i (fun c2 => ?_) (fun c2 => ?_) <;> try rw [c2] <;> conv => whnf
  rotate_left
  focus
   have c2' := dfZ c2;have : k = 8 := by omega
   subst this;refine .go [] rfl (l.length - (i + 1)) (by omega) ⟨i + 1, ?_, rfl, by omega, rfl⟩
   show [V.sl 1 (bs l) f, .int .u32 (stpN 8 (c ^^^ x.toNat) : Nat), V.int .i64 (IntKind.i64.wrap ((i : Int) + 1))] = _
   rw [wrapL (by omega), hsn, run_snoc, hc]; rfl
  have c2' := dtZ c2;have hst : stpN (k + 1) (c ^^^ x.toNat) = stp (stpN k (c ^^^ x.toNat)) := stpN_s _ _;generalize stpN k (c ^^^ x.toNat) = d at *;refine ⟨by decide, ?_⟩
  conv => whnf
  refine ⟨by decide, ?_⟩
  conv => whnf
  have e1 : IntKind.u32.wrap (Int.tdiv (d : Int) 2) = ((d / 2 : Nat) : Int) := by rw [show Int.tdiv (d : Int) 2 = ((d / 2 : Nat) : Int) from rfl, wrap_u32]; omega
  have e2 : Int.tmod (d : Int) 2 = ((d % 2 : Nat) : Int) := rfl;have e3 : IntKind.i64.wrap ((k : Int) + 1) = ((k + 1 : Nat) : Int) := by rw [wrapL (by omega)]; rfl
  rw [e1, e2];refine branch_i (fun c3 => ?_) (fun c3 => ?_) <;> try rw [c3] <;> conv => whnf
  . have c3' := dtZ c3;refine .go [] rfl (8 - (k + 1)) (by omega) ⟨k + 1, ?_, rfl, by omega, rfl⟩
    show [V.sl 1 (bs l) f, .int .u32 (IntKind.u32.wrap ↑(BitVec.ofInt IntKind.u32.bits ((d / 2 : Nat) : Int) ^^^ BitVec.ofInt IntKind.u32.bits ((3988292384 : Nat) : Int)).toNat), fI i, V.int .i64 (IntKind.i64.wrap ((k : Int) + 1))] = _
    rw [xor32 (by omega) (by decide), e3, hst]
    unfold stp;rw [if_pos (by omega)]
  . have c3' := dfZ c3;refine .go [] rfl (8 - (k + 1)) (by omega) ⟨k + 1, ?_, rfl, by omega, rfl⟩
    show [V.sl 1 (bs l) f, .int .u32 ((d / 2 : Nat) : Int), fI i, V.int .i64 (IntKind.i64.wrap ((k : Int) + 1))] = _
    rw [e3, hst];unfold stp;rw [if_neg (by omega), Nat.xor_zero]
 have c1' := dfZ c1;have : i = l.length := by omega
 subst this;rw [List.take_length] at *;have e : IntKind.i64.wrap (IntKind.u32.wrap ↑(BitVec.ofInt IntKind.u32.bits (run 4294967295 l : Nat) ^^^ BitVec.ofInt IntKind.u32.bits ((4294967295 : Nat) : Int)).toNat) = ((crcS l : Nat) : Int) := by
  rw [xor32 hrl (by decide)]
  have := crcS_lt l;exact wrapN (by unfold crcS at this; omega)
 refine ⟨[], rfl, ?_⟩;show Q (.int .i64 (IntKind.i64.wrap (IntKind.u32.wrap ↑(BitVec.ofInt IntKind.u32.bits (run 4294967295 l : Nat) ^^^ BitVec.ofInt IntKind.u32.bits ((4294967295 : Nat) : Int)).toNat))) []
 rw [e];exact h
theorem RCrSum_spec {l : List UInt8} {f : Bool} (hl : l.length <= 1000000000) (h : Q (fI (crcS l : Nat)) []) : ACall Tryz.prog 59 0 [.sl 1 (bs l) f] [] Q := by
 refine by_body Tryz.func59 0 rfl (nbZ rfl) ?_
 conv => whnf
 refine .pure (RMore_spec hl ⟨rfl, ?_⟩)
 conv => whnf
 exact ⟨[], rfl, h⟩
set_option maxHeartbeats 4000000 in
theorem RCrPut_spec {b own : List UInt8} {f g : Bool} (hb : b.length <= 900000000) (ho : own.length <= 900000000) (hs : b.length + own.length <= 999999990) (h : Q (.ms 1 0 0 (b ++ crcP own).length false) [.buf (bs (b ++ crcP own))]) :
 ACall Tryz.prog 31 0 [.sl 1 (bs b) f, .sl 1 (bs own) g] [] Q := by
 refine by_body Tryz.func31 0 rfl (nbZ rfl) ?_;have hlb := bs_len b;have hlo := bs_len own
 conv => whnf
 refine ⟨(show (bs b).length * 1 <= 70368744177664 by omega), ?_⟩
 conv => whnf
 refine ⟨by rw [Nat.add_zero], ?_⟩
 refine ⟨(show (bs b ++ bs own).length * 1 <= 70368744177664 by rw [laZ]; omega), ?_⟩
 conv => whnf
 refine .pure (RCrSum_spec (l := own) (by omega) ⟨rfl, ?_⟩)
 have hcs := crcS_lt own;unfold crcP at h;generalize crcS own = s at *;have e0 : IntKind.u8.wrap (Int.tmod (s : Int) 256) = (((UInt8.ofNat s).toNat : Nat) : Int) := by rw [show Int.tmod (s : Int) 256 = ((s % 256 : Nat) : Int) from rfl, wrap_u8, UInt8.toNat_ofNat']; omega
 have e1 : IntKind.u8.wrap (Int.tmod (IntKind.i64.wrap (Int.tdiv (s : Int) 256)) 256) = (((UInt8.ofNat (s / 256)).toNat : Nat) : Int) := by
  rw [show Int.tdiv (s : Int) 256 = ((s / 256 : Nat) : Int) from rfl, wrapN (by omega), show Int.tmod ((s / 256 : Nat) : Int) 256 = ((s / 256 % 256 : Nat) : Int) from rfl, wrap_u8, UInt8.toNat_ofNat']; omega
 have e2 : IntKind.u8.wrap (Int.tmod (IntKind.i64.wrap (Int.tdiv (s : Int) 65536)) 256) = (((UInt8.ofNat (s / 65536)).toNat : Nat) : Int) := by
  rw [show Int.tdiv (s : Int) 65536 = ((s / 65536 : Nat) : Int) from rfl, wrapN (by omega), show Int.tmod ((s / 65536 : Nat) : Int) 256 = ((s / 65536 % 256 : Nat) : Int) from rfl, wrap_u8, UInt8.toNat_ofNat']; omega
 have e3 : IntKind.u8.wrap (IntKind.i64.wrap (Int.tdiv (s : Int) 16777216)) = (((UInt8.ofNat (s / 16777216)).toNat : Nat) : Int) := by
  rw [show Int.tdiv (s : Int) 16777216 = ((s / 16777216 : Nat) : Int) from rfl, wrapN (by omega), wrap_u8, UInt8.toNat_ofNat']; omega
 conv => whnf
 repeat (refine ⟨by decide, ?_⟩
         conv => whnf)
 rw [e0, e1, e2, e3];refine app_bs (i := 1) (j := 2) (X := b ++ own) (Y := le4 s) rfl (congrArg O.buf (bs_app b own).symm) rfl (by rw [laZ, laZ, List.drop_zero]; omega) rfl (by rw [laZ, le4_len]; omega) ?_
 rw [<- List.append_assoc] at h;generalize b ++ own ++ le4 s = Y at *
 conv => whnf
 exact ⟨[3], rfl, h⟩
set_option maxHeartbeats 4000000 in
theorem RCrTake_spec {b : List UInt8} {f : Bool} (hb : b.length <= 900000000) (h : Q (.tup [.sl 1 (bs (tkL b).1) false, fI (tkL b).2]) []) : ACall Tryz.prog 76 0 [.sl 1 (bs b) f] [] Q := by
 refine ACall.ret (by_body Tryz.func76 0 rfl (nbZ rfl) ?_);have hlb := bs_len b;unfold tkL at h
 conv => whnf
 rw [hlb, wrapL (n := (b.length : Int) - 4) (by omega)]
 refine branch_i (fun c1 => ?_) (fun c1 => ?_) <;> try rw [c1] <;> conv => whnf
 . have c1' := dtZ c1;rw [if_pos (by omega)] at h
   exact ⟨[], rfl, .sub _ _ (.tup (.cons (VSub.nils 1 false) (VSubs.refl _))) (HSub.refl _) (.done [] rfl h)⟩
 have c1' := dfZ c1;rw [if_neg (by omega)] at h
 have hnl : (b.take (b.length - 4)).length <= 900000000 := by rw [List.length_take]; omega
 have e4 : ((b.length : Int) - 4).toNat = b.length - 4 := by omega
 refine ⟨[0, 1, 2, 5, 6, 3, 4, 7], by kernel_rfl, by kernel_rfl, ?_⟩
 conv => whnf
 refine ⟨⟨by omega, by omega⟩, ?_⟩
 conv => whnf
 refine ⟨_, bytesOfEs_bs _, ?_⟩
 conv => whnf
 rw [bs_take, e4];refine .call [] 0 ⟨rfl, rfl, rfl⟩ (ACall.args (.cons (VSub.nils 1 false) (VSubs.refl _)) (RCrPut_spec (b := []) (own := b.take (b.length - 4)) (by simp) (by omega) (by simp; omega) ?_))
 have hcl := crcP_len (b.take (b.length - 4));rw [List.nil_append];generalize crcP (b.take (b.length - 4)) = W at *;have hlW := bs_len W
 repeat (conv => whnf
         refine ⟨rfl, ?_⟩)
 conv => whnf
 refine ⟨⟨_, bytesOfEs_bs _, rfl⟩, ?_⟩
 conv => whnf
 refine ⟨by omega, W, ?_, ?_⟩
 . rw [List.drop_zero, <- hlW, List.take_length]; exact bytesOfEs_bs _
 conv => whnf
 by_cases hW : W = b
 . rw [if_pos hW] at h;rw [decide_eq_true hW]
   conv => whnf
   refine ⟨⟨by omega, by omega⟩, ?_⟩
   conv => whnf
   rw [bs_take, e4];exact ⟨[], rfl, .done [] rfl h⟩
 . rw [if_neg hW] at h;rw [decide_eq_false hW]
   conv => whnf
   exact ⟨[], rfl, .sub _ _ (.tup (.cons (VSub.nils 1 false) (VSubs.refl _))) (HSub.refl _) (.done [] rfl h)⟩
end Go.Proofs.YtcdkklgeepkopaaGreatDoorPg
namespace Go.Proofs.YtcdkklgeepkopaaGreatDoorPg
open Go Go.RowKit
variable {Q : V -> List O -> Prop}
inductive ChgI : Chg -> Prop
 | cre (t : List UInt8) (c : List Col) (ks : Int) : nameOk t = true -> mayS c ks = true -> ChgI ⟨1, t, c, ks, col0⟩
 | drop (t : List UInt8) : nameOk t = true -> ChgI ⟨2, t, [], 0, col0⟩
 | add (k : Int) (t : List UInt8) (col : Col) : nameOk t = true -> (k = 3 \/ k = 5) -> colE col = true -> ChgI ⟨k, t, [], 0, col⟩
 | cut (t n : List UInt8) : nameOk t = true -> nameOk n = true -> ChgI ⟨4, t, [], 0, ⟨n, 0, false⟩⟩
inductive MayI (l : List Tb) : Evt -> Prop
 | ins (k : Int) (t : List UInt8) (a : List Val) (C : List Col) (K : Int) : (k = 3 \/ k = 4) -> findT l t = some (C, K) -> fitsL C a = true -> MayI l ⟨k, 0, t, [], a, chg0⟩
 | del (t : List UInt8) (b : List Val) (C : List Col) (K : Int) : findT l t = some (C, K) -> keyOkL C K.toNat b = true -> (b.length : Int) = K -> MayI l ⟨5, 0, t, b, [], chg0⟩
 | alt (c : Chg) : ChgI c -> MayI l ⟨6, 0, [], [], [], c⟩
 | num (k n : Int) : numK k = true -> 0 <= n -> MayI l ⟨k, n, [], [], [], chg0⟩
theorem nilS_is {c : Chg} (h : nilS c = true) : c.ks = 0 /\ c.c = [] := by
 unfold nilS at h;simp only [Bool.and_eq_true, decide_eq_true_eq] at h;exact ⟨h.1, List.length_eq_zero_iff.1 h.2⟩
theorem chgE_inv {c : Chg} (h : chgE c = 0) : ChgI c := by
 unfold chgE at h;split at h
 rotate_left
 . omega
 rename_i hk;split at h
 rotate_left
 . omega
 rename_i hb;rw [Bool.and_eq_true] at hb;obtain ⟨hn, hb⟩ := hb;unfold chgK at hb;obtain ⟨k, t, cc, ks, col⟩ := c;simp only at *;split at hb
 . rename_i h1; subst h1;rw [Bool.and_eq_true, decide_eq_true_eq] at hb;obtain ⟨h1, rfl⟩ := hb;exact .cre _ _ _ hn h1
 split at hb
 . rename_i h1; subst h1;rw [Bool.and_eq_true, decide_eq_true_eq] at hb;obtain ⟨h1, rfl⟩ := hb;obtain ⟨h2, h3⟩ := nilS_is h1;simp only at h2 h3;subst h2 h3;exact .drop _ hn
 split at hb
 . rename_i h1;rw [Bool.and_eq_true] at hb;obtain ⟨h2, h3⟩ := nilS_is hb.1;simp only at h2 h3;subst h2 h3;exact .add _ _ _ hn h1 hb.2
 . rw [Bool.and_eq_true] at hb;obtain ⟨h2, h3⟩ := nilS_is hb.1;simp only at h2 h3;subst h2 h3;have h4 : k = 4 := by omega
   subst h4;obtain ⟨n, kk, o⟩ := col;simp only [Bool.and_eq_true, decide_eq_true_eq, Bool.not_eq_true'] at hb;obtain ⟨_, hb1, rfl, rfl⟩ := hb;exact .cut _ _ hn hb1
theorem ChgI.e {c : Chg} (h : ChgI c) : chgE c = 0 := by
 cases h with
 | cre t cc ks h1 h2 =>
  rw [chgE_is (b := true) (.inl rfl) (by rw [h1]; unfold chgK; simp [h2])]; rfl
 | drop t h1 =>
  rw [chgE_is (b := true) (.inr (.inl rfl)) (by rw [h1]; rfl)]; rfl
 | add k t col h1 hk h2 =>
  have h3 : chgK ⟨k, t, [], 0, col⟩ = true := by
   unfold chgK;simp only;rw [if_neg (by omega), if_neg (by omega), if_pos hk, h2]; rfl
  rw [chgE_is (b := true) (by rcases hk with rfl | rfl <;> simp) (by rw [h1, h3]; rfl)]; rfl
 | cut t n h1 h2 =>
  have h3 : chgK ⟨4, t, [], 0, ⟨n, 0, false⟩⟩ = true := by
   unfold chgK;simp only;rw [if_neg (by omega), if_neg (by omega), if_neg (by omega), h2]; rfl
  rw [chgE_is (b := true) (by simp) (by rw [h1, h3]; rfl)]; rfl
theorem rowK_is {k : Int} (h : rowK k = true) : k = 3 \/ k = 4 \/ k = 5 := by
 unfold rowK at h; simpa using h
theorem rowK_not {k : Int} (h : rowK k = false) : ¬ (k = 3 \/ k = 4 \/ k = 5) := by
 unfold rowK at h; simpa using h
theorem numK_is {k : Int} (h : numK k = true) : k = 1 \/ k = 2 \/ k = 7 \/ k = 8 \/ k = 9 \/ k = 10 := by
 unfold numK at h; simpa using h
theorem mayE_inv {e : Evt} {l : List Tb} (h : mayE e l = 0) : MayI l e := by
 unfold mayE at h;split at h
 . rename_i hr;have hk := rowK_is hr;unfold rowE at h;split at h
   . omega
   . rename_i C K hf;split at h
     . omega
     rename_i h1;split at h
     . omega
     rename_i h2;rw [Bool.not_eq_false] at h1 h2;unfold rowFit at h1;unfold rowBare at h2;split at h1
     . rename_i h5;rw [if_pos h5] at h2;rw [Bool.and_eq_true, decide_eq_true_eq] at h1;rw [decide_eq_true_eq] at h2;rw [h5] at h2;rw [h2];exact .del _ _ C K hf h1.1 h1.2
     . rename_i h5;rw [if_neg h5] at h2;rw [decide_eq_true_eq] at h2;rw [h2];exact .ins _ _ _ C K (by omega) hf h1
 split at h
 . rename_i h6;split at h
   . omega
   rename_i h0;split at h
   . omega
   rename_i hb;rw [Bool.or_eq_true, not_or] at hb;have hb2 := hb.2;unfold bare6 at hb2;rw [Bool.not_eq_true', decide_eq_false_iff_not, Decidable.not_not] at hb2;rw [h6] at hb2;rw [hb2];exact .alt _ (chgE_inv (by omega))
 split at h
 . rename_i hn;split at h
   . omega
   rename_i hb;rw [Bool.or_eq_true, not_or, decide_eq_true_eq] at hb;have hb2 := hb.2;unfold bareN at hb2;rw [Bool.not_eq_true', decide_eq_false_iff_not, Decidable.not_not] at hb2;rw [hb2];exact .num _ _ hn (by omega)
 . omega
theorem MayI.e {e : Evt} {l : List Tb} (h : MayI l e) : mayE e l = 0 := by
 cases h with
 | ins k t a C K hk hf hfit =>
  unfold mayE;have hr : rowK k = true := by rcases hk with rfl | rfl <;> rfl
  simp only [hr, if_true];unfold rowE;simp only [hf];have h1 : rowFit ⟨k, 0, t, [], a, chg0⟩ C K = true := by unfold rowFit; simp only; rw [if_neg (by omega)]; exact hfit
  have h2 : rowBare ⟨k, 0, t, [], a, chg0⟩ = true := by unfold rowBare; rw [if_neg (by show ¬ k = 5; omega)]; exact decide_eq_true rfl
  rw [h1, h2]; rfl
 | del t b C K hf hfit hl =>
  unfold mayE;simp only [show rowK 5 = true from rfl, if_true]
  unfold rowE;simp only [hf];have h1 : rowFit ⟨5, 0, t, b, [], chg0⟩ C K = true := by unfold rowFit; simp only [if_true]; rw [hfit, decide_eq_true hl]; rfl
  have h2 : rowBare ⟨5, 0, t, b, [], chg0⟩ = true := by unfold rowBare; rw [if_pos rfl]; exact decide_eq_true rfl
  rw [h1, h2]; rfl
 | alt c hc =>
  unfold mayE;simp only [show rowK 6 = false from rfl, if_true]
  rw [hc.e];have h2 : bare6 ⟨6, 0, [], [], [], c⟩ = true := by unfold bare6; exact decide_eq_true rfl
  rw [h2]; rfl
 | num k n hk hn =>
  have hk' := numK_is hk;unfold mayE;have hr : rowK k = false := by rcases hk' with rfl | rfl | rfl | rfl | rfl | rfl <;> rfl
  have h2 : bareN ⟨k, n, [], [], [], chg0⟩ = true := by unfold bareN; exact decide_eq_true rfl
  have h3 : decide (n < 0) = false := decide_eq_false (by omega)
  simp only [hr, hk, h2, h3];rw [if_neg (by decide), if_neg (by omega)]; rfl
theorem name_short {n : List UInt8} (h : nameOk n = true) : n.length <= 32 := by
 unfold nameOk at h;simp only [Bool.and_eq_true, decide_eq_true_eq] at h;exact h.2.1
theorem may_each {l : List Col} {k : Int} (h : mayS l k = true) : ∀ c ∈ l, nameOk c.n = true /\ 1 <= c.k /\ c.k <= 4 := fun c hc => by
 obtain ⟨i, hi⟩ := List.mem_iff_getElem?.1 hc;unfold mayS at h;rw [Bool.and_eq_true, List.all_eq_true] at h;have := h.2 i (List.mem_range.2 (liZ.1 hi).1);rw [hi] at this;simp only [mayC, kindOk, Bool.and_eq_true, decide_eq_true_eq] at this;exact ⟨this.1, by omega, by omega⟩
theorem ChgI.b {c : Chg} (h : ChgI c) : ChB c := by
 cases h with
 | cre t cc ks h1 h2 =>
  have := name_short h1;have hb := may_bd h2;exact ⟨by simp only; omega, by simp only; omega, fun x hx => by have := name_short (may_each h2 x hx).1; omega, by simp [col0]⟩
 | drop t h1 =>
  have := name_short h1;exact ⟨by simp only; omega, by simp, fun x hx => absurd hx List.not_mem_nil, by simp [col0]⟩
 | add k t col h1 hk h2 =>
  have := name_short h1;unfold colE at h2;rw [Bool.and_eq_true] at h2;have := name_short h2.1;exact ⟨by simp only; omega, by simp, fun x hx => absurd hx List.not_mem_nil, by simp only; omega⟩
 | cut t n h1 h2 =>
  have := name_short h1;have := name_short h2;exact ⟨by simp only; omega, by simp, fun x hx => absurd hx List.not_mem_nil, by simp only; omega⟩
theorem mayV_short {v : Val} (h : mayV v = true) : v.t.length <= 4096 := by
 unfold mayV at h;split at h
 . simp only [Bool.and_eq_true, decide_eq_true_eq] at h; rw [h.2]; simp
 split at h
 . simp only [Bool.and_eq_true, decide_eq_true_eq] at h; rw [h.1]; simp
 split at h
 . simp only [decide_eq_true_eq] at h; rw [h]; simp
 split at h
 . simp only [Bool.and_eq_true, decide_eq_true_eq] at h; omega
 split at h
 . simp only [Bool.and_eq_true, decide_eq_true_eq] at h; omega
 . cases h
theorem fits_may {l : List Col} {vs : List Val} (h : fitsL l vs = true) : ∀ v ∈ vs, mayV v = true := fun v hv => by
 unfold fitsL at h;rw [Bool.and_eq_true, decide_eq_true_eq, List.all_eq_true] at h;obtain ⟨i, hi⟩ := List.mem_iff_getElem?.1 hv;have hlt := (liZ.1 hi).1;have := h.2 i (List.mem_range.2 hlt);rw [stAt_some (lgZ (show i < l.length by omega)) hi] at this
 unfold standsV at this;rw [Bool.and_eq_true] at this;exact this.1
theorem fits_len' {l : List Col} {vs : List Val} (h : fitsL l vs = true) : vs.length = l.length := by
 unfold fitsL at h;rw [Bool.and_eq_true, decide_eq_true_eq] at h;exact h.1
structure EvtN (e : Evt) : Prop where
 n : I64 e.n
 b : ∀ v ∈ e.b, I64 v.n
 a : ∀ v ∈ e.a, I64 v.n
theorem findT_name {l : List Tb} {n : List UInt8} {C : List Col} {K : Int} (hl : TbsB l) (h : findT l n = some (C, K)) : nameOk n = true := by
 unfold findT at h;cases ha : atT l n with
 | none => rw [ha] at h; cases h
 | some j =>
  obtain ⟨t, ht, rfl, _⟩ := atT_get ha;exact (hl.ok.each t (List.mem_of_getElem? ht)).name
theorem RwB.of_fits {l : List Col} {vs : List Val} (hl : l.length <= 16) (h : fitsL l vs = true) (hn : ∀ v ∈ vs, I64 v.n) : RwB vs :=
 ⟨by have := fits_len' h; omega, hn, fun v hv => mayV_short (fits_may h v hv)⟩
theorem RwB.of_key {l : List Col} {k : Nat} {vs : List Val} (hl : l.length <= 16) (hk : k <= l.length) (hv : vs.length = k) (h : keyOkL l k vs = true) (hn : ∀ v ∈ vs, I64 v.n) : RwB vs := by
 have := (keyOk_may hk h).2;rw [<- hv, List.take_length, List.all_eq_true] at this;exact ⟨by omega, hn, fun v hv => mayV_short (this v hv)⟩
theorem ev_row {e : Evt} {l : List Tb} (hl : TbsB l) (hn : EvtN e) (h : mayE e l = 0) (hr : rowK e.k = true) :
 e.t.length <= 32 /\ ∃ (C : List Col) (k : Nat), findT l e.t = some (C, (k : Int)) /\ (e.k = 5 -> e.b.length = k /\ e.b ≠ [] /\ RwB e.b) /\ (¬ e.k = 5 -> e.a ≠ [] /\ RwB e.a) := by
 have hi := mayE_inv h;obtain ⟨en, eb, ea⟩ := hn;cases hi with
 | ins k t a C K hk hf hfit =>
  obtain ⟨hm, hC, kk, rfl, hkk⟩ := hl.found hf;have := may_bd hm;have hlen := fits_len' hfit;refine ⟨name_short (findT_name hl hf), C, kk, hf, fun e => ?_, fun _ => ⟨fun e => ?_, .of_fits hC hfit ea⟩⟩
  . simp only at e; omega
  . simp only at e; rw [e] at hlen; simp at hlen; omega
 | del t b C K hf hfit hlen =>
  obtain ⟨hm, hC, kk, rfl, hkk⟩ := hl.found hf;have := may_bd hm;refine ⟨name_short (findT_name hl hf), C, kk, hf, fun e => ⟨Int.ofNat_inj.1 hlen, fun e => ?_, .of_key hC hkk (Int.ofNat_inj.1 hlen) hfit eb⟩, fun e => absurd rfl e⟩
  simp only at e; rw [e] at hlen; simp at hlen; omega
 | alt c hc => exact absurd hr (by simp only [show rowK 6 = false from rfl]; decide)
 | num k n hk hn =>
  have := numK_is hk;have := rowK_is hr;simp only at this;omega
theorem wr_err (e : Int) : VSub (.tup [.nils, fI e]) (.tup [.sl 1 (bs []) false, fI e]) := .tup (.cons (fun I ρ u h => by cases h; exact .slnil _ _ _ _) (VSubs.refl _))
theorem eat_one {P : Program} {f : FuncId} {k : Int} {full : Bool} {vs : List V} (hm : msL 0 vs = []) (hf : (frzL 0 (.buf (bs [b8 k])) vs).map (renV (idx [])) = vs)
 (h : ACall P f 0 (.sl 1 (bs [b8 k]) full :: vs) [] fun r H' => Q (renV (outH 0 1) r) (weave 0 H' [.dead])) : ACall P f 1 (.ms 1 0 0 1 full :: vs) [.buf [[.int .u8 (IntKind.u8.wrap k)]]] Q := by
 rw [b8_wrap];exact ACall.eatA (es := bs [b8 k]) rfl hm hf h
theorem wr_ret {n : Nat} {X W : List UInt8} {E : Int} (hx : X = W) (hn : n = X.length) (h : Q (.tup [.sl 1 (bs W) false, fI E]) []) : ARet 0 Q (.tup [.ms 1 0 0 n false, fI E]) [.buf (bs X)] := by
 subst hx hn;have hle := bs_len X;refine .frz 0 rfl (by repeat (first | exact trivial | refine And.intro (by rw [hle, Nat.zero_add]; exact Nat.le_refl _) ?_)) (.done [] rfl ?_)
 show Q (.tup [.sl 1 (List.take X.length (List.drop 0 (bs X))) false, fI E]) []
 rw [List.drop_zero, <- hle, List.take_length];exact h
set_option maxHeartbeats 16000000 in
theorem EvWrite_spec {e : Evt} {l : List Tb} (hl : TbsB l) (he : EvtT e) (hn : EvtN e)
 (h : Q (.tup [.sl 1 (bs (if mayE e l = 0 then evW e else [])) false, fI (mayE e l)]) []) : ACall Tryz.prog 64 0 [evA e, .sl 3 (tbs l) false] [] Q := by
 refine ACall.ret (by_body Tryz.func64 0 rfl (nbZ rfl) ?_)
 conv => whnf
 refine .pure (EvMay_spec hl he ⟨rfl, ?_⟩)
 conv => whnf
 refine branch_i (fun c1 => ?_) (fun c1 => ?_) <;> try rw [c1] <;> conv => whnf
 focus
  have c1' : ¬ mayE e l = 0 := by simpa using c1
  rw [if_neg c1'] at h;exact ⟨[], rfl, .sub _ _ (wr_err _) (HSub.refl _) (.done [] rfl h)⟩
 have c1' : mayE e l = 0 := by simpa using c1
 rw [if_pos c1', c1'] at h;have hi := mayE_inv c1';have hc := hl.cols;refine .pure (EvFind_spec (by have := hl.few; omega) hl.ok.sorted (fun x hx => by have := hc x hx; omega) ⟨rfl, ?_⟩)
 unfold findR;have hrow := ev_row hl hn c1';rcases hf : findT l e.t with _ | ⟨C, K⟩ <;> conv => whnf
 all_goals
  refine branch_i (fun k6 => ?_) (fun k6 => ?_) <;> try rw [k6] <;> conv => whnf
  focus
   have k6' := dtZ k6;have hcb : ChB e.ch := by
    cases hi with
    | ins k t a C K hk hf hfit => simp only at k6'; omega
    | del t b C K hf hfit hlen => simp only at k6'; omega
    | alt c hc => exact hc.b
    | num k n hk hn => have := numK_is hk; simp only at k6'; omega
   refine .call [1] 1 ⟨rfl, rfl, rfl⟩ (eat_one rfl rfl (putChange_spec (l := [b8 e.k]) (c := e.ch) (by simp) hcb (by simp) ?_))
   conv => whnf
   exact ⟨[3], rfl, wr_ret (X := b8 e.k :: chgW e.ch) (by unfold evW; rw [if_pos k6']) rfl h⟩
  have k6' := dfZ k6;refine branch_i (fun k5 => ?_) (fun k5 => ?_) <;> try rw [k5] <;> conv => whnf
  focus
   have k5' := dtZ k5;obtain ⟨ht, C', k, hf', h5, _⟩ := hrow (by rw [k5']; rfl)
   rw [hf] at hf';first
   | cases hf'; done
   | cases hf'
     obtain ⟨hlb, hb0, hbb⟩ := h5 k5';refine ⟨[0, 1, 2, 4, 5, 6, 3, 7, 8, 9], by kernel_rfl, by kernel_rfl, ?_⟩
     conv => whnf
     repeat (refine ⟨rfl, ?_⟩
             conv => whnf)
     refine .call [1] 1 ⟨rfl, rfl, rfl⟩ (eat_one rfl rfl (WText_spec (l := [b8 e.k]) (f := true) (s := e.t) (by omega) (by simp) ?_))
     repeat (conv => whnf
             refine ⟨rfl, ?_⟩)
     conv => whnf
     have htl := txtW_len e.t;refine .call [3] 1 ⟨rfl, rfl, rfl⟩ (ACall.eatA (bs_len _).symm rfl rfl (WriteKeyI_spec (l := [b8 e.k] ++ txtW e.t) (f := false) (C := C) (k := k) (r := e.b) hlb (by simp) hb0 hbb (by rw [laZ, List.length_singleton]; omega) ?_))
     repeat (conv => whnf
             refine ⟨rfl, ?_⟩)
     conv => whnf
     exact ⟨[4], rfl, wr_ret (X := [b8 e.k] ++ txtW e.t ++ rowW e.b) (by unfold evW; rw [if_neg k6', if_pos k5', List.append_assoc]; rfl) rfl h⟩
  have k5' := dfZ k5;refine .pure (rowed_spec ⟨rfl, ?_⟩)
  conv => whnf
  cases hr : rowK e.k <;> conv => whnf
  focus
   have hr' := rowK_not hr;have hnn : 0 <= e.n := by
    cases hi with
    | ins k t a C K hk hf hfit => exact Int.le_refl 0
    | del t b C K hf hfit hlen => exact Int.le_refl 0
    | alt c hc => exact Int.le_refl 0
    | num k n hk hn' => exact hn'
   refine .call [1] 1 ⟨rfl, rfl, rfl⟩ (eat_one rfl rfl (WNumber_spec (l := [b8 e.k]) (f := true) (n := e.n) hnn hn.n.2 (by simp) ?_))
   conv => whnf
   exact ⟨[3], rfl, wr_ret (X := [b8 e.k] ++ numW e.n) (by unfold evW; rw [if_neg k6', if_neg k5', if_neg (by omega)]; rfl) rfl h⟩
  focus
   obtain ⟨ht, C', k, hf', _, h3⟩ := hrow hr;rw [hf] at hf';first
   | cases hf'; done
   | cases hf'
     obtain ⟨hb0, hbb⟩ := h3 k5';have hr' := rowK_is hr;refine ⟨[0, 1, 2, 4, 5, 6, 3, 7, 8, 9], by kernel_rfl, by kernel_rfl, ?_⟩
     conv => whnf
     repeat (refine ⟨rfl, ?_⟩
             conv => whnf)
     refine .call [1] 1 ⟨rfl, rfl, rfl⟩ (eat_one rfl rfl (WText_spec (l := [b8 e.k]) (f := true) (s := e.t) (by omega) (by simp) ?_))
     repeat (conv => whnf
             refine ⟨rfl, ?_⟩)
     conv => whnf
     have htl := txtW_len e.t;refine .call [3] 1 ⟨rfl, rfl, rfl⟩ (ACall.eatA (bs_len _).symm rfl rfl (WriteI_spec (l := [b8 e.k] ++ txtW e.t) (f := false) (C := C) (K := k) (r := e.a) (by simp) hb0 hbb (by rw [laZ, List.length_singleton]; omega) ?_))
     repeat (conv => whnf
             refine ⟨rfl, ?_⟩)
     conv => whnf
     exact ⟨[4], rfl, wr_ret (X := [b8 e.k] ++ txtW e.t ++ rowW e.a) (by unfold evW; rw [if_neg k6', if_neg k5', if_pos (by omega), List.append_assoc]; rfl) rfl h⟩
end Go.Proofs.YtcdkklgeepkopaaGreatDoorPg
namespace Go.Proofs.YtcdkklgeepkopaaGreatDoorPg
open Go Go.RowKit
variable {Q : V -> List O -> Prop}
theorem nulW_snoc {r : List Val} {j : Nat} (h : j < (r.length + 7) / 8) : (nulW r).take (j + 1) = (nulW r).take j ++ [UInt8.ofNat (nulS r j 8)] := by
 rw [List.take_add_one];congr 1
 unfold nulW;rw [List.getElem?_map, List.getElem?_range h]; rfl
theorem pow_t {t : Nat} (h : t <= 8) : 2 ^ t <= 256 := Nat.pow_le_pow_right (by decide) h
set_option maxHeartbeats 16000000 in
theorem R5Write_spec {r : List Val} (hr0 : r ≠ []) (hr : RwB r) (h : Q (.ms 1 0 0 (rowW r).length false) [.buf (bs (rowW r))]) :
 ACall Tryz.prog 53 0 [.sl 3 (vals r) false] [] Q := by
 refine by_body Tryz.func53 0 rfl (nbZ rfl) ?_;have hlv := vals_len r;have hfew := hr.few;have hrp : 0 < r.length := List.length_pos_iff.2 hr0
 conv => whnf
 rw [hlv];obtain ⟨nb, hnb⟩ : ∃ nb, nb = (r.length + 7) / 8 := ⟨_, rfl⟩;refine ⟨⟨[0, 3, 4, 5], fun mm ws H => ∃ j : Nat, ws = [.sl 3 (vals r) false, .ms 1 0 0 j false, fI r.length, fI (8 * j : Nat)] /\ H = [.buf (bs ((nulW r).take j))] /\ j <= nb /\ mm = nb - j,
  .frz (nb + 1) (.adopt (.sub _ _ (.cons (VSub.refl _) (.cons (VSub.ms0 1 0 0 false) (VSubs.refl _))) (HSub.refl _) (.go [0] rfl nb (by omega) ⟨0, rfl, rfl, by omega, rfl⟩))), ?_⟩⟩
 rintro mm ws H ⟨j, rfl, rfl, hj, rfl⟩
 conv => whnf
 refine branch_i (fun c1 => ?_) (fun c1 => ?_) <;> try rw [c1] <;> conv => whnf
 focus
  have c1' := dtZ c1;have hjn : j < nb := by omega
  refine ⟨⟨[0, 3, 4, 5, 6, 7, 8], fun mm ws H => ∃ t : Nat, ws = [.sl 3 (vals r) false, .ms 1 0 0 j false, fI r.length, fI (8 * j : Nat), fI (nulS r j t), fI (2 ^ t : Nat), fI (8 * j + t : Nat)] /\ H = [.buf (bs ((nulW r).take j))] /\ t <= 8 /\ 8 * j + t <= r.length /\ mm = 8 - t,
   .at 8 ⟨0, rfl, rfl, by omega, by omega, rfl⟩, ?_⟩⟩
  rintro mm ws H ⟨t, rfl, rfl, ht, htn, rfl⟩;have hlt := nulS_lt r j t;have hpt := pow_t ht
  conv => whnf
  have e8 : IntKind.i64.wrap (((8 * j : Nat) : Int) + 8) = ((8 * (j + 1) : Nat) : Int) := by rw [wrapL (by omega)]; omega
  have fin : 8 * j + t = r.length \/ t = 8 -> b8 ((nulS r j t : Nat) : Int) = UInt8.ofNat (nulS r j 8) := fun hx => by
   have : nulS r j 8 = nulS r j t := by
    rcases hx with hx | hx
    . exact nulS_end r j t 8 (by omega) ht
    . rw [hx]
   rw [this];unfold b8;congr 1
   omega
  have hsn := nulW_snoc (r := r) (j := j) (by omega)
  have htl : ((nulW r).take j).length = j := by rw [List.length_take, nulW_len]; omega
  have htl2 : ((nulW r).take (j + 1)).length = j + 1 := by rw [List.length_take, nulW_len]; omega
  refine branch_i (fun c2 => ?_) (fun c2 => ?_) <;> try rw [c2] <;> conv => whnf
  rotate_left
  focus
   have c2' := dfZ c2;refine app_b1 (X := (nulW r).take j) (k := ((nulS r j t : Nat) : Int)) rfl rfl htl.symm (by omega) ?_
   rw [fin (by omega), <- hsn, htl2]
   conv => whnf
   refine .go [2] rfl (nb - (j + 1)) (by omega) ⟨j + 1, ?_, rfl, by omega, rfl⟩
   show [V.sl 3 (vals r) false, .ms 1 0 0 (j + 1) false, fI r.length, .int .i64 (IntKind.i64.wrap (((8 * j : Nat) : Int) + 8))] = _
   rw [e8]
  have c2' := dtZ c2;refine branch_i (fun c3 => ?_) (fun c3 => ?_) <;> try rw [c3] <;> conv => whnf
  rotate_left
  focus
   have c3' := dfZ c3;rw [e8] at c3';refine app_b1 (X := (nulW r).take j) (k := ((nulS r j t : Nat) : Int)) rfl rfl htl.symm (by omega) ?_
   rw [fin (by omega), <- hsn, htl2]
   conv => whnf
   refine .go [2] rfl (nb - (j + 1)) (by omega) ⟨j + 1, ?_, rfl, by omega, rfl⟩
   show [V.sl 3 (vals r) false, .ms 1 0 0 (j + 1) false, fI r.length, .int .i64 (IntKind.i64.wrap (((8 * j : Nat) : Int) + 8))] = _
   rw [e8]
  have c3' := dtZ c3;rw [e8] at c3';have htt : t < 8 := by omega
  have hg : r[8 * j + t]? = some r[8 * j + t] := lgZ (by omega)
  have hst : nulS r j (t + 1) = nulS r j t + (if r[8 * j + t].k = 0 then 2 ^ t else 0) := by
   show nulS r j t + (if ((r[8 * j + t]?).map Val.k) = some 0 then 2 ^ t else 0) = _
   rw [hg]; simp
  have hp2 : 2 ^ (t + 1) = 2 * 2 ^ t := by rw [Nat.pow_succ, Nat.mul_comm]
  have hp7 : 2 ^ t <= 128 := Nat.pow_le_pow_right (n := 2) (by decide) (show t <= 7 by omega)
  generalize r[8 * j + t] = v at *
  have nx : ∀ x : Int, x = (nulS r j (t + 1) : Nat) -> [V.sl 3 (vals r) false, .ms 1 0 0 j false, fI r.length, fI (8 * j : Nat), .int .i64 x, .int .i64 (IntKind.i64.wrap (2 * ((2 ^ t : Nat) : Int))), .int .i64 (IntKind.i64.wrap (((8 * j + t : Nat) : Int) + 1))] =
   [V.sl 3 (vals r) false, .ms 1 0 0 j false, fI r.length, fI (8 * j : Nat), fI (nulS r j (t + 1)), fI (2 ^ (t + 1) : Nat), fI (8 * j + (t + 1) : Nat)] := fun x hx => by
   rw [wrapL (by omega), wrapL (by omega), hx, hp2, <- Nat.add_assoc]; rfl
  refine ⟨_, ⟨by omega, vals_get hg⟩, ?_⟩
  conv => whnf
  refine branch_i (fun c4 => ?_) (fun c4 => ?_) <;> try rw [c4] <;> conv => whnf
  focus
   have c4' := dtZ c4;refine .go [0] rfl (8 - (t + 1)) (by omega) ⟨t + 1, nx _ ?_, rfl, by omega, by omega, rfl⟩
   show IntKind.i64.wrap (((nulS r j t : Nat) : Int) + ((2 ^ t : Nat) : Int)) = _
   rw [hst, if_pos c4', wrapL (by omega)]; omega
  focus
   have c4' := dfZ c4;refine .go [0] rfl (8 - (t + 1)) (by omega) ⟨t + 1, nx _ ?_, rfl, by omega, by omega, rfl⟩
   rw [hst, if_neg c4']; rfl
 have c1' := dfZ c1;have hje : j = nb := by omega
 subst hje;rw [List.take_of_length_le (by rw [nulW_len]; omega)]
 have hwl : j = (nulW r).length := by rw [nulW_len]; exact hnb
 rw [hwl];refine ⟨⟨[0, 3, 4, 9], fun mm ws H => ∃ (i : Nat) (X : List UInt8), ws = [.sl 3 (vals r) false, .ms 1 0 0 X.length false, fI r.length, fI i] /\ H = [.buf (bs X)] /\ X = nulW r ++ (r.take i).flatMap valW /\ i <= r.length /\ mm = r.length - i,
  .at r.length ⟨0, nulW r, rfl, rfl, by simp, by omega, rfl⟩, ?_⟩⟩
 rintro mm ws H ⟨i, X, rfl, rfl, hX, hi, rfl⟩
 conv => whnf
 refine branch_i (fun c1 => ?_) (fun c1 => ?_) <;> try rw [c1] <;> conv => whnf
 rotate_left
 focus
  have c1' := dfZ c1;have hie : i = r.length := by omega
  subst hie;rw [List.take_length] at hX;have hXr : X = rowW r := hX;subst hXr;exact ⟨[0], rfl, h⟩
 have c1' := dtZ c1;have hlt : i < r.length := by omega
 have hg : r[i]? = some r[i] := lgZ hlt;have hvm := List.getElem_mem hlt;have hsn := valsW_snoc hg;have hvw := vals_w (r := r.take i) (fun v hv => hr.t v (List.mem_of_mem_take hv))
 rw [List.length_take] at hvw;have hXl : X.length <= 2000000 := by
  rw [hX, laZ];have : min i r.length <= 64 := by omega
  omega
 have hn := hr.n _ hvm;have htx := hr.t _ hvm;generalize r[i] = v at *;have nx : ∀ Y : List UInt8, [V.sl 3 (vals r) false, .ms 1 0 0 Y.length false, fI r.length, V.int .i64 (IntKind.i64.wrap ((i : Int) + 1))] = [V.sl 3 (vals r) false, .ms 1 0 0 Y.length false, fI r.length, fI ((i + 1 : Nat) : Int)] := fun Y => by
  rw [wrapL (by omega)]; rfl
 have hXn : ∀ w, valW v = w -> X ++ w = nulW r ++ (r.take (i + 1)).flatMap valW := fun w hw => by rw [hsn, hX, hw, List.append_assoc]
 refine ⟨_, ⟨by omega, vals_get hg⟩, ?_⟩
 conv => whnf
 refine branch_i (fun k1 => ?_) (fun k1 => ?_) <;> try rw [k1] <;> conv => whnf
 focus
  have k1' := dtZ k1;refine app_b1 (X := X) (k := v.n) rfl rfl rfl (by omega) ?_
  conv => whnf
  exact .go [3] rfl (r.length - (i + 1)) (by omega) ⟨i + 1, X ++ [b8 v.n], nx _, rfl, hXn _ (by unfold valW; rw [if_pos k1']), by omega, rfl⟩
 have k1' := dfZ k1;refine branch_i (fun k2 => ?_) (fun k2 => ?_) <;> try rw [k2] <;> conv => whnf
 focus
  have k2' := dtZ k2;have hsl := sgW_len v.n;refine .call [] 0 ⟨rfl, rfl, rfl⟩ (RWSigned_spec (n := v.n) hn ?_)
  conv => whnf
  refine app_bs (X := X) (Y := sgW v.n) rfl rfl rfl rfl rfl (by omega) ?_
  conv => whnf
  exact .go [3] rfl (r.length - (i + 1)) (by omega) ⟨i + 1, X ++ sgW v.n, nx _, rfl, hXn _ (by unfold valW; rw [if_neg k1', if_pos k2']), by omega, rfl⟩
 have k2' := dfZ k2;have tail : v.k = 3 \/ v.k = 4 -> valW v = txtW v.t := fun hk => by unfold valW; rw [if_neg k1', if_neg k2', if_pos hk]
 have htl := txtW_len v.t;refine branch_i (fun k3 => ?_) (fun k3 => ?_) <;> try rw [k3] <;> conv => whnf
 focus
  have k3' := dtZ k3;refine .call [] 0 ⟨rfl, rfl, rfl⟩ (RWText_spec (s := v.t) (by omega) ?_)
  conv => whnf
  refine app_bs (X := X) (Y := txtW v.t) rfl rfl rfl rfl rfl (by omega) ?_
  conv => whnf
  exact .go [3] rfl (r.length - (i + 1)) (by omega) ⟨i + 1, X ++ txtW v.t, nx _, rfl, hXn _ (tail (.inl k3')), by omega, rfl⟩
 have k3' := dfZ k3;refine branch_i (fun k4 => ?_) (fun k4 => ?_) <;> try rw [k4] <;> conv => whnf
 focus
  have k4' := dtZ k4;refine .call [] 0 ⟨rfl, rfl, rfl⟩ (RWText_spec (s := v.t) (by omega) ?_)
  conv => whnf
  refine app_bs (X := X) (Y := txtW v.t) rfl rfl rfl rfl rfl (by omega) ?_
  conv => whnf
  exact .go [3] rfl (r.length - (i + 1)) (by omega) ⟨i + 1, X ++ txtW v.t, nx _, rfl, hXn _ (tail (.inr k4')), by omega, rfl⟩
 have k4' := dfZ k4;refine .go [0] rfl (r.length - (i + 1)) (by omega) ⟨i + 1, X, nx _, rfl, ?_, by omega, rfl⟩
 have := hXn [] (by unfold valW; rw [if_neg k1', if_neg k2', if_neg (by omega)])
 rw [List.append_nil] at this;exact this
set_option maxHeartbeats 4000000 in
theorem Rcolumn_spec {c : Col} (hc : c.n.length <= 4096) (h : Q (.ms 1 0 0 (colW c).length false) [.buf (bs (colW c))]) :
 ACall Tryz.prog 54 0 [.agg [.str c.n, .int .i64 c.k, .bool c.o]] [] Q := by
 refine by_body Tryz.func54 0 rfl (nbZ rfl) ?_;have htl := txtW_len c.n
 conv => whnf
 cases ho : c.o <;> conv => whnf
 focus
  have e : colW c = txtW c.n ++ [b8 c.k, 0] := by unfold colW; rw [ho]; rfl
  rw [e] at h;refine ⟨[0, 1, 3, 4, 5, 6, 2, 7, 8, 9], by kernel_rfl, by kernel_rfl, ?_⟩
  repeat (conv => whnf
          refine ⟨rfl, ?_⟩)
  conv => whnf
  refine .call [] 0 ⟨rfl, rfl, rfl⟩ (RWText_spec (s := c.n) (by omega) ?_)
  repeat (conv => whnf
          refine ⟨rfl, ?_⟩)
  conv => whnf
  refine app_b2 (X := txtW c.n) (k := c.k) (x := 0) rfl rfl rfl rfl (by omega) ?_
  repeat (conv => whnf
          refine ⟨rfl, ?_⟩)
  conv => whnf
  exact ⟨[3], rfl, h⟩
 focus
  have e : colW c = txtW c.n ++ [b8 c.k, 1] := by unfold colW; rw [ho]; rfl
  rw [e] at h;refine ⟨[0, 1, 3, 4, 5, 6, 2, 7, 8, 9], by kernel_rfl, by kernel_rfl, ?_⟩
  repeat (conv => whnf
          refine ⟨rfl, ?_⟩)
  conv => whnf
  refine .call [] 0 ⟨rfl, rfl, rfl⟩ (RWText_spec (s := c.n) (by omega) ?_)
  repeat (conv => whnf
          refine ⟨rfl, ?_⟩)
  conv => whnf
  refine app_b2 (X := txtW c.n) (k := c.k) (x := 1) rfl rfl rfl rfl (by omega) ?_
  repeat (conv => whnf
          refine ⟨rfl, ?_⟩)
  conv => whnf
  exact ⟨[3], rfl, h⟩
theorem bs_take_all (Y : List UInt8) : List.take Y.length (List.drop 0 (bs Y)) = bs Y := by rw [List.drop_zero, <- bs_len Y, List.take_length]
theorem app_1bs {i j m : Nat} {k : Int} {f : Bool} {Y : List UInt8} {H : List O} {K : V -> List O -> Prop} (hij : Nat.beq i j = false) (hX : getO H i = .buf [[.int .u8 (IntKind.u8.wrap k)]]) (hY : getO H j = .buf (bs Y)) (hm : m = Y.length) (hY0 : Y ≠ []) (hs : Y.length <= 70368744177)
 (hK : copyH (H ++ [.buf (bs (b8 k :: Y))]) fun H' => K (.ms 1 H.length 0 (b8 k :: Y).length false) H') :
 0 + m <= (bs Y).length /\ aapp 1 1 (.ms 1 i 0 1 true) (.ms 1 j 0 m f) (List.take m (List.drop 0 (bs Y))) H K := by
 subst hm;refine ⟨by rw [bs_len]; omega, ?_⟩
 rw [bs_take_all];unfold aapp sameBuf;unfold aappend;simp only [show Nat.beq 1 1 = true from rfl, hX]
 have e : List.take 1 (List.drop 0 [[V.int .u8 (IntKind.u8.wrap k)]]) ++ bs Y = bs (b8 k :: Y) := by
  rw [b8_wrap]; rfl
 have hne : bs Y ≠ [] := fun e => hY0 (List.length_eq_zero_iff.1 (by rw [<- bs_len, e]; rfl))
 rw [e];refine ⟨Nat.le_refl _, fun e => absurd e hne, fun _ => ?_⟩
 unfold newBuf;rw [bs_len];exact ⟨by rw [List.length_cons]; omega, hK⟩
theorem app_11 {i j : Nat} {k c : Int} {f : Bool} {H : List O} {K : V -> List O -> Prop} (hX : getO H i = .buf [[.int .u8 (IntKind.u8.wrap k)]])
 (hK : copyH (H ++ [.buf (bs [b8 k, b8 c])]) fun H' => K (.ms 1 H.length 0 2 false) H') :
 0 + 1 <= 1 /\ aapp 1 1 (.ms 1 i 0 1 true) (.ms 1 j 0 1 f) [[.int .u8 (IntKind.u8.wrap c)]] H K := by
 refine ⟨Nat.le_refl 1, ?_⟩;unfold aapp sameBuf;unfold aappend;simp only [show Nat.beq 1 1 = true from rfl, hX]
 have e : List.take 1 (List.drop 0 [[V.int .u8 (IntKind.u8.wrap k)]]) ++ [[V.int .u8 (IntKind.u8.wrap c)]] = bs [b8 k, b8 c] := by
  rw [b8_wrap, b8_wrap]; rfl
 rw [e];refine ⟨Nat.le_refl _, (fun e => nomatch e), fun _ => ?_⟩
 unfold newBuf;exact ⟨by simp [bs], hK⟩
theorem txtW_ne (s : List UInt8) : txtW s ≠ [] := fun e => by
 have h1 : 0 < (digW s.length).length := digWF_pos 9 s.length;have := congrArg List.length e;unfold txtW at this;rw [laZ, List.length_nil] at this;omega
theorem numW_ne (n : Int) : numW n ≠ [] := fun e => by
 have h1 : 0 < (numW n).length := digWF_pos 9 n.toNat;rw [e] at h1; simp at h1
theorem rowW_len {r : List Val} (h : RwB r) : (rowW r).length <= 300000 := by
 have := vals_w (r := r) h.t;have := nulW_len r;have := h.few;unfold rowW;rw [laZ]; omega
theorem wr_ret1 {n : Nat} {X W : List UInt8} (hx : X = W) (hn : n = X.length) (h : Q (.sl 1 (bs W) false) []) : ARet 0 Q (.ms 1 0 0 n false) [.buf (bs X)] := by
 subst hx hn;have hle := bs_len X;refine .frz 0 rfl (by repeat (first | exact trivial | refine And.intro (by rw [hle, Nat.zero_add]; exact Nat.le_refl _) ?_)) (.done [] rfl ?_)
 show Q (.sl 1 (List.take X.length (List.drop 0 (bs X))) false) []
 rw [List.drop_zero, <- hle, List.take_length];exact h
set_option maxHeartbeats 16000000 in
theorem R6Write_spec {e : Evt} {l : List Tb} (hl : TbsB l) (hn : EvtN e) (hm : mayE e l = 0) (h : Q (.sl 1 (bs (evW e)) false) []) :
 ACall Tryz.prog 28 0 [evA e, .sl 3 (tbs l) false] [] Q := by
 refine ACall.ret (by_body Tryz.func28 0 rfl (nbZ rfl) ?_);have hi := mayE_inv hm;have hrow := ev_row hl hn hm
 conv => whnf
 refine branch_i (fun c1 => ?_) (fun c1 => ?_) <;> try rw [c1] <;> conv => whnf
 focus
  have c1' := dtZ c1;refine branch_i (fun c2 => ?_) (fun c2 => ?_) <;> try rw [c2] <;> conv => whnf
  focus
   have c2' := dtZ c2;obtain ⟨ht, C, k, hf, h5, h3⟩ := hrow (by unfold rowK; simp; omega)
   have htl := txtW_len e.t;have htp := txtW_ne e.t;refine .call [] 0 ⟨rfl, rfl, rfl⟩ (RWText_spec (s := e.t) (by omega) ?_)
   conv => whnf
   refine app_1bs (k := e.k) (Y := txtW e.t) rfl rfl rfl rfl htp (by omega) ?_
   conv => whnf
   refine branch_i (fun c3 => ?_) (fun c3 => ?_) <;> try rw [c3] <;> conv => whnf
   focus
    have k5 := dtZ c3;obtain ⟨_, hb0, hbb⟩ := h5 k5;refine .call [] 0 ⟨rfl, rfl, rfl⟩ (R5Write_spec (r := e.b) hb0 hbb ?_)
    conv => whnf
    have hrl := rowW_len hbb;refine app_bs (X := b8 e.k :: txtW e.t) (Y := rowW e.b) rfl rfl rfl rfl rfl (by rw [List.length_cons]; omega) ?_
    conv => whnf
    exact ⟨[5], rfl, wr_ret1 (X := b8 e.k :: txtW e.t ++ rowW e.b) (by unfold evW; rw [if_neg (by omega), if_pos k5]; rfl) rfl h⟩
   focus
    have k5 := dfZ c3;obtain ⟨hb0, hbb⟩ := h3 k5;refine .call [] 0 ⟨rfl, rfl, rfl⟩ (R5Write_spec (r := e.a) hb0 hbb ?_)
    conv => whnf
    have hrl := rowW_len hbb;refine app_bs (X := b8 e.k :: txtW e.t) (Y := rowW e.a) rfl rfl rfl rfl rfl (by rw [List.length_cons]; omega) ?_
    conv => whnf
    exact ⟨[5], rfl, wr_ret1 (X := b8 e.k :: txtW e.t ++ rowW e.a) (by unfold evW; rw [if_neg (by omega), if_neg k5, if_pos (by omega)]; rfl) rfl h⟩
 all_goals
  have hnr : ¬ (3 <= e.k /\ e.k <= 5) := by
   first
   | (have := dfZ c1; omega)
   | (have := dfZ c2; omega)
  refine branch_i (fun c6 => ?_) (fun c6 => ?_) <;> try rw [c6] <;> conv => whnf
  focus
   have k6 : ¬ e.k = 6 := by simpa using c6
   have hnn : 0 <= e.n := by
    cases hi with
    | ins k t a C K hk hf hfit => exact Int.le_refl 0
    | del t b C K hf hfit hlen => exact Int.le_refl 0
    | alt c hc => exact Int.le_refl 0
    | num k n hk hn' => exact hn'
   have hnl := numW_len e.n;refine .call [] 0 ⟨rfl, rfl, rfl⟩ (RWNumber_spec (n := e.n) hnn hn.n.2 ?_)
   conv => whnf
   refine app_1bs (k := e.k) (Y := numW e.n) rfl rfl rfl rfl (numW_ne _) (by omega) ?_
   conv => whnf
   exact ⟨[3], rfl, wr_ret1 (X := b8 e.k :: numW e.n) (by unfold evW; rw [if_neg k6, if_neg (by omega), if_neg (by omega)]) rfl h⟩
  have k6 : e.k = 6 := by simpa using c6
  have hcb : ChB e.ch := by
   cases hi with
   | ins k t a C K hk hf hfit => simp only at k6; omega
   | del t b C K hf hfit hlen => simp only at k6; omega
   | alt c hc => exact hc.b
   | num k n hk hn => have := numK_is hk; simp only at k6; omega
  have he : evW e = b8 e.k :: chgW e.ch := by unfold evW; rw [if_pos k6]
  rw [he] at h;generalize e.ch = c at *;refine app_11 (k := e.k) (c := c.k) rfl ?_
  conv => whnf
  have htl := txtW_len c.t;have hct := hcb.t;refine .call [] 0 ⟨rfl, rfl, rfl⟩ (RWText_spec (s := c.t) (by omega) ?_)
  conv => whnf
  refine app_bs (X := [b8 e.k, b8 c.k]) (Y := txtW c.t) rfl rfl rfl rfl rfl (by simp only [List.length_cons, List.length_nil]; omega) ?_
  obtain ⟨X1, eX1⟩ : ∃ X1, X1 = [b8 e.k, b8 c.k] ++ txtW c.t := ⟨_, rfl⟩;have hX1 : X1.length <= 10000 := by rw [eX1, laZ]; simp only [List.length_cons, List.length_nil]; omega
  rw [<- eX1]
  conv => whnf
  have hR : ∀ w, chgW c = b8 c.k :: (txtW c.t ++ w) -> X1 ++ w = b8 e.k :: chgW c := fun w e' => by rw [e', eX1]; rfl
  refine branch_i (fun k1 => ?_) (fun k1 => ?_) <;> try rw [k1] <;> conv => whnf
  focus
   have k1' := dtZ k1;have hcl := cols_len c.c;have hfew := hcb.few;refine app_b2 (X := X1) (k := c.ks) (x := b8 c.c.length) rfl rfl rfl (by rw [<- b8_wrap, <- hcl]) (by omega) ?_
   conv => whnf
   obtain ⟨X2, eX2⟩ : ∃ X2, X2 = X1 ++ [b8 c.ks, b8 c.c.length] := ⟨_, rfl⟩;have hX2 : X2.length <= 10002 := by rw [eX2, laZ]; simp only [List.length_cons, List.length_nil]; omega
   rw [<- eX2];refine ⟨⟨[5, 7, 8], fun mm ws H => ∃ (i : Nat) (X : List UInt8), ws = [.ms 1 0 0 X.length false, .ptr 1 0, fI i] /\ H = [.buf (bs X), .cells (chC c)] /\ X = X2 ++ (c.c.take i).flatMap colW /\ i <= c.c.length /\ mm = c.c.length - i,
    .frz (c.c.length + 1) (.go [8, 2] rfl c.c.length (by omega) ⟨0, X2, rfl, rfl, by simp, by omega, rfl⟩), ?_⟩⟩
   rintro mm ws H ⟨i, X, rfl, rfl, hX, hi, rfl⟩
   conv => whnf
   rw [hcl];refine branch_i (fun c1 => ?_) (fun c1 => ?_) <;> try rw [c1] <;> conv => whnf
   rotate_left
   focus
    have c1' := dfZ c1;have hie : i = c.c.length := by omega
    subst hie;rw [List.take_length] at hX;have e' : X = b8 e.k :: chgW c := by
     rw [hX, eX2, List.append_assoc];exact hR _ (by unfold chgW; rw [if_pos k1']; rfl)
    exact ⟨[0], rfl, wr_ret1 (X := X) e' rfl h⟩
   have c1' := dtZ c1;have hlt : i < c.c.length := by omega
   have hg : c.c[i]? = some c.c[i] := lgZ hlt;have hxm := List.getElem_mem hlt;have hsn := colsW_snoc hg;have hvw := cols_w (l := c.c.take i) (fun v hv => hcb.names v (List.mem_of_mem_take hv))
   rw [List.length_take] at hvw;have hXl : X.length <= 1000000 := by
    rw [hX, laZ];have : min i c.c.length <= 64 := by omega
    omega
   have hxn := hcb.names _ hxm;generalize c.c[i] = x at *;refine ⟨_, ⟨by omega, cols_get hg⟩, ?_⟩
   conv => whnf
   refine .call [] 0 ⟨rfl, rfl, rfl⟩ (Rcolumn_spec (c := x) hxn ?_)
   conv => whnf
   have hcw := colW_len hxn;refine app_bs (X := X) (Y := colW x) rfl rfl rfl rfl rfl (by omega) ?_
   conv => whnf
   refine .go [3, 1] rfl (c.c.length - (i + 1)) (by omega) ⟨i + 1, X ++ colW x, ?_, rfl, by rw [hsn, hX, List.append_assoc], by omega, rfl⟩
   show [V.ms 1 0 0 (X ++ colW x).length false, .ptr 1 0, V.int .i64 (IntKind.i64.wrap ((i : Int) + 1))] = _
   rw [wrapL (by omega)]; rfl
  have k1' := dfZ k1;have hcw := colW_len hcb.col;refine branch_i (fun k3 => ?_) (fun k3 => ?_) <;> try rw [k3] <;> conv => whnf
  focus
   have k3' := dtZ k3;refine .call [] 0 ⟨rfl, rfl, rfl⟩ (Rcolumn_spec (c := c.col) hcb.col ?_)
   conv => whnf
   refine app_bs (X := X1) (Y := colW c.col) rfl rfl rfl rfl rfl (by omega) ?_
   conv => whnf
   exact ⟨[8], rfl, wr_ret1 (X := X1 ++ colW c.col) (hR _ (by unfold chgW; rw [if_neg k1', if_pos (.inl k3')])) rfl h⟩
  have k3' := dfZ k3;refine branch_i (fun k5 => ?_) (fun k5 => ?_) <;> try rw [k5] <;> conv => whnf
  focus
   have k5' := dtZ k5;refine .call [] 0 ⟨rfl, rfl, rfl⟩ (Rcolumn_spec (c := c.col) hcb.col ?_)
   conv => whnf
   refine app_bs (X := X1) (Y := colW c.col) rfl rfl rfl rfl rfl (by omega) ?_
   conv => whnf
   exact ⟨[8], rfl, wr_ret1 (X := X1 ++ colW c.col) (hR _ (by unfold chgW; rw [if_neg k1', if_pos (.inr k5')])) rfl h⟩
  have k5' := dfZ k5;refine branch_i (fun k4 => ?_) (fun k4 => ?_) <;> try rw [k4] <;> conv => whnf
  focus
   have k4' := dtZ k4;have hcc := hcb.col;have htl2 := txtW_len c.col.n;refine .call [] 0 ⟨rfl, rfl, rfl⟩ (RWText_spec (s := c.col.n) (by omega) ?_)
   conv => whnf
   refine app_bs (X := X1) (Y := txtW c.col.n) rfl rfl rfl rfl rfl (by omega) ?_
   conv => whnf
   exact ⟨[8], rfl, wr_ret1 (X := X1 ++ txtW c.col.n) (hR _ (by unfold chgW; rw [if_neg k1', if_neg (by omega), if_pos k4'])) rfl h⟩
  have k4' := dfZ k4;have e' := hR [] (by unfold chgW; rw [if_neg k1', if_neg (by omega), if_neg k4'])
  rw [List.append_nil] at e';exact ⟨[6], rfl, wr_ret1 (X := X1) e' rfl h⟩
end Go.Proofs.YtcdkklgeepkopaaGreatDoorPg
namespace Go.Proofs.YtcdkklgeepkopaaGreatDoorPg
open Go Go.RowKit
variable {Q : V -> List O -> Prop}
theorem sg_un {d : Int} (hn : 0 <= d) (hb : d < 18446744073709551616) :
 IntKind.i64.wrap ↑(BitVec.ofInt IntKind.i64.bits (IntKind.i64.wrap (d.fdiv (2 ^ min (1 : Int).toNat IntKind.u64.bits))) ^^^ BitVec.ofInt IntKind.i64.bits (IntKind.i64.wrap (0 - IntKind.i64.wrap (IntKind.u64.wrap ↑(BitVec.ofInt IntKind.u64.bits d &&& 1#IntKind.u64.bits).toNat)))).toNat = unS d := by
 have e1 : d.fdiv (2 ^ min (1 : Int).toNat IntKind.u64.bits) = d / 2 := by
  show d.fdiv 2 = _
  exact Int.fdiv_eq_ediv_of_nonneg _ (by decide)
 have e2 : (BitVec.ofInt IntKind.u64.bits d &&& 1#IntKind.u64.bits).toNat = (d % 2).toNat := by
  rw [BitVec.toNat_and, BitVec.toNat_ofInt];show ((d % (18446744073709551616 : Int)).toNat) &&& 1 = _
  rw [Nat.and_one_is_mod];omega
 rw [e1, e2, wrapL (n := d / 2) (by omega), wrap_u64, wrapL (n := ((d % 2).toNat : Int) % 18446744073709551616) (by omega)]
 unfold unS;split
 . rename_i h0;rw [show (0 : Int) - ((d % 2).toNat : Int) % 18446744073709551616 = 0 by omega, show IntKind.i64.wrap 0 = 0 from rfl]
   rw [show BitVec.ofInt IntKind.i64.bits 0 = 0#IntKind.i64.bits from rfl, BitVec.xor_zero, BitVec.toNat_ofInt]
   show IntKind.i64.wrap ((((d / 2) % (18446744073709551616 : Int)).toNat : Nat) : Int) = _
   rw [wrapL (by omega)]; omega
 . rename_i h0;rw [show (0 : Int) - ((d % 2).toNat : Int) % 18446744073709551616 = -1 by omega, show IntKind.i64.wrap (-1) = -1 from rfl]
   rw [show BitVec.ofInt IntKind.i64.bits (-1) = BitVec.allOnes IntKind.i64.bits from rfl, BitVec.xor_allOnes, BitVec.toNat_not, BitVec.toNat_ofInt]
   show IntKind.i64.wrap (((18446744073709551616 - 1 - ((d / 2) % (18446744073709551616 : Int)).toNat : Nat) : Int)) = _
   rw [IntKind.wrap_i64]; omega
theorem Signed_spec {s : List UInt8} {f : Bool} {e : Int} (h : Q (.int .i64 (rSgn s e).1) [rdO (rSgn s e).2.1 f (rSgn s e).2.2]) : ACall Tryz.prog 160 1 [.ptr 0 0] [rdO s f e] Q := by
 refine by_body Tryz.func160 1 rfl (nbZ rfl) ?_
 conv => whnf
 unfold rSgn at h;by_cases he : e = 0
 . subst he;rw [if_pos rfl] at h;refine .call [0] 1 ⟨rfl, rfl, rfl⟩ (digits_spec (fun h0 => ?_) (fun h1 => ?_))
   . have hn := digL_nonneg s;have hb := digL_bd h0;unfold sgnL at h;rw [if_pos h0] at h;generalize (digL s).1 = d at *
     conv => whnf
     refine ⟨by omega, ?_⟩
     conv => whnf
     refine ⟨[0], rfl, ?_⟩;show Q (.int .i64 (IntKind.i64.wrap ↑(BitVec.ofInt IntKind.i64.bits (IntKind.i64.wrap (d.fdiv (2 ^ min (1 : Int).toNat IntKind.u64.bits))) ^^^ BitVec.ofInt IntKind.i64.bits (IntKind.i64.wrap (0 - IntKind.i64.wrap (IntKind.u64.wrap ↑(BitVec.ofInt IntKind.u64.bits d &&& 1#IntKind.u64.bits).toNat)))).toNat)) [rdO (digL s).2.1 f 0]
     rw [sg_un hn hb];exact h
   . unfold sgnL at h;rw [if_neg h1] at h
     conv => whnf
     refine ⟨by omega, ?_⟩
     conv => whnf
     exact ⟨[0], rfl, h⟩
 . rw [if_neg he] at h;refine .call [0] 1 ⟨rfl, rfl, rfl⟩ (digits_e he ?_)
   conv => whnf
   refine ⟨by omega, ?_⟩
   conv => whnf
   exact ⟨[0], rfl, h⟩
theorem RSigned_spec {s : List UInt8} {f : Bool} {e : Int} (h : Q (.int .i64 (rSgn s e).1) [rdO (rSgn s e).2.1 f (rSgn s e).2.2]) : ACall Tryz.prog 143 1 [.ptr 0 0] [rdO s f e] Q := by
 refine by_body Tryz.func143 1 rfl (nbZ rfl) ?_
 conv => whnf
 have hl := bs_len s;unfold rSgn at h;by_cases he : e = 0
 rotate_left
 focus
  rw [if_neg he] at h;rw [show decide (e = 0) = false from decide_eq_false he]
  conv => whnf
  exact ⟨[0], rfl, h⟩
 subst he;rw [if_pos rfl] at h
 conv => whnf
 refine .pure (Rtake_spec (fun k h0 hk hd hk10 => ⟨rfl, ?_⟩) (fun h1 => ⟨rfl, ?_⟩))
 . conv => whnf
   have hn := digL_nonneg s;have hb := digL_bd h0;unfold sgnL at h;rw [if_pos h0] at h;refine ⟨⟨by omega, by omega⟩, ?_⟩
   conv => whnf
   refine ⟨by decide, ?_⟩
   rw [hd, <- bs_drop_rd] at h;have hm : (digL s).1.tmod 2 = (digL s).1 % 2 := Int.tmod_eq_emod_of_nonneg hn;have hdv : (digL s).1.tdiv 2 = (digL s).1 / 2 := Int.tdiv_eq_ediv_of_nonneg hn;unfold unS at h;generalize (digL s).1 = d at *;rw [hm]
   conv => whnf
   refine branch_i (fun c1 => ?_) (fun c1 => ?_) <;> try rw [c1] <;> conv => whnf
   . have c1' := dtZ c1;rw [if_pos c1'] at h;refine ⟨by decide, ?_⟩
     rw [hdv]
     conv => whnf
     rw [show IntKind.i64.wrap (IntKind.u64.wrap (d / 2)) = d / 2 by rw [wrap_u64, wrapL (by omega)]; omega]
     exact ⟨[0], rfl, h⟩
   . have c1' := dfZ c1;rw [if_neg c1'] at h;refine ⟨by decide, ?_⟩
     rw [hdv]
     conv => whnf
     rw [show IntKind.i64.wrap (IntKind.i64.wrap (0 - IntKind.i64.wrap (IntKind.u64.wrap (d / 2))) - 1) = -(d / 2) - 1 by rw [wrap_u64, wrapL (n := d / 2 % 18446744073709551616) (by omega), wrapL (n := 0 - d / 2 % 18446744073709551616) (by omega), wrapL (by omega)]; omega]
     exact ⟨[0], rfl, h⟩
 . conv => whnf
   unfold sgnL at h;rw [if_neg h1] at h;rw [show decide ((digL s).2.2 = 0) = false from decide_eq_false h1]
   conv => whnf
   exact ⟨[0], rfl, h⟩
def bls (l : List Bool) : List (List V) := l.map fun b => [.bool b]
theorem bls_len (l : List Bool) : (bls l).length = l.length := by simp [bls]
theorem bls_get {l : List Bool} {i : Nat} {b : Bool} (h : l[i]? = some b) : (bls l)[i]? = some [.bool b] := by simp [bls, h]
def nulL (B : List Nat) (n : Nat) : List Bool := (List.range n).map (nulAt B)
def nulP (B : List Nat) (n i : Nat) : List Bool := (List.range n).map fun k => decide (k < i) && nulAt B k
theorem nulP_zero (B : List Nat) (n : Nat) : nulP B n 0 = List.replicate n false := by
 unfold nulP;refine List.ext_getElem? fun j => ?_
 rw [List.getElem?_map, List.getElem?_replicate];by_cases h : j < n
 . rw [List.getElem?_range h, if_pos h]; simp
 . rw [List.getElem?_eq_none (by simp; omega), if_neg h]; rfl
theorem nulP_all (B : List Nat) (n : Nat) : nulP B n n = nulL B n := by
 unfold nulP nulL;refine List.map_congr_left fun k hk => ?_
 rw [decide_eq_true (List.mem_range.1 hk)]; rfl
theorem nulP_set (B : List Nat) {n i : Nat} (h : i < n) : nulP B n (i + 1) = (nulP B n i).set i (nulAt B i) := by
 unfold nulP;refine List.ext_getElem? fun j => ?_
 rw [List.getElem?_set];by_cases e : i = j
 . subst e;rw [if_pos rfl, List.getElem?_map, List.getElem?_range h, if_pos (by simpa using h)]
   simp
 . rw [if_neg e, List.getElem?_map, List.getElem?_map];by_cases hj : j < n
   . rw [List.getElem?_range hj];simp only [Option.map_some, Option.some.injEq];congr 1
     exact decide_eq_decide.2 (by omega)
   . rw [List.getElem?_eq_none (by simp; omega)]; rfl
theorem nulP_len (B : List Nat) (n i : Nat) : (nulP B n i).length = n := by simp [nulP]
theorem bls_set (l : List Bool) (i : Nat) (b : Bool) : (bls l).set i [.bool b] = bls (l.set i b) := by unfold bls; rw [List.map_set]
theorem rBs_getD {k j q : Nat} (s : List UInt8) (e : Int) (h : j <= k) (hq : q < j) : (rBs j s e).1.getD q 0 = (rBs k s e).1.getD q 0 := by
 rw [<- rBs_take k j s e h, List.getD_eq_getElem?_getD, List.getD_eq_getElem?_getD, List.getElem?_take_of_lt hq]
theorem rBs_last (j : Nat) (s : List UInt8) (e : Int) : (rBs (j + 1) s e).1.getD j 0 = (rByt (rBs j s e).2.1 (rBs j s e).2.2).1.toNat := by
 simp only [rBs];rw [List.getD_eq_getElem?_getD, List.getElem?_append_right (by rw [rBs_len]; exact Nat.le_refl _), rBs_len]
 simp
theorem and1 (x : Nat) (h : x < 256) : IntKind.i64.wrap ↑(BitVec.ofInt IntKind.i64.bits (x : Int) &&& BitVec.ofInt IntKind.i64.bits 1).toNat = ((x % 2 : Nat) : Int) := by
 rw [BitVec.toNat_and, BitVec.toNat_ofInt];show IntKind.i64.wrap ((((((x : Int) % (18446744073709551616 : Int)).toNat) &&& 1 : Nat)) : Int) = _
 rw [Nat.and_one_is_mod, wrapL (by omega)]
 omega
theorem shr1 (x : Nat) : Int.fdiv (x : Int) (2 ^ min (1 : Int).toNat IntKind.i64.bits) = ((x / 2 : Nat) : Int) := by
 show Int.fdiv (x : Int) 2 = _
 rw [Int.fdiv_eq_ediv_of_nonneg _ (by decide)]; omega
theorem bits_ret {n : Nat} {X : List Bool} {s : List UInt8} {f : Bool} {e : Int} (hn : n = X.length) (h : Q (.tup [.sl 1 (bls X) false, .bool true]) [rdO s f e]) : ARet 1 Q (.tup [.ms 1 1 0 n false, .bool true]) [rdO s f e, .buf (bls X)] := by
 subst hn;have hle := bls_len X;refine .frz 1 rfl (by repeat (first | exact trivial | refine And.intro (by rw [hle, Nat.zero_add]; exact Nat.le_refl _) ?_)) (.done [0] rfl ?_)
 show Q (.tup [.sl 1 (List.take X.length (List.drop 0 (bls X))) false, .bool true]) [rdO s f e]
 rw [List.drop_zero, <- hle, List.take_length];exact h
set_option maxHeartbeats 16000000 in
theorem bits_spec {s : List UInt8} {f : Bool} {e : Int} {n : Nat} (hn : 0 < n) (hn2 : n <= 1000)
 (h1 : padOk (rBs ((n + 7) / 8) s e).1 n = true -> Q (.tup [.sl 1 (bls (nulL (rBs ((n + 7) / 8) s e).1 n)) false, .bool true]) [rdO (rBs ((n + 7) / 8) s e).2.1 f (rBs ((n + 7) / 8) s e).2.2])
 (h0 : padOk (rBs ((n + 7) / 8) s e).1 n = false -> Q (.tup [.nils, .bool false]) [rdO (rBs ((n + 7) / 8) s e).2.1 f (rBs ((n + 7) / 8) s e).2.2]) :
 ACall Tryz.prog 161 1 [.ptr 0 0, fI n] [rdO s f e] Q := by
 refine ACall.ret (by_body Tryz.func161 1 rfl (nbZ rfl) ?_)
 conv => whnf
 refine ⟨⟨(show (0 : Int) <= (n : Int) by omega), Int.le_refl _, (show ((n : Int)).toNat * 1 <= 70368744177664 by omega)⟩, ?_⟩
 conv => whnf
 obtain ⟨B, hB⟩ : ∃ B, B = (rBs ((n + 7) / 8) s e).1 := ⟨_, rfl⟩;rw [<- hB] at h1 h0;have hB256 : ∀ q, B.getD q 0 < 256 := fun q => by
  rw [List.getD_eq_getElem?_getD];cases hq : B[q]? with
  | none => simp
  | some x => simp only [Option.getD_some]; rw [hB] at hq; exact rBs_lt _ _ _ x (List.mem_of_getElem? hq)
 refine ⟨⟨[0, 1, 6, 7, 13, 14], fun mm ws H => ∃ (i x : Nat), ws = [.ptr 0 0, fI n, .ms 1 1 0 n false, fI x, fI n, fI i] /\ H = [rdO (rBs ((i + 7) / 8) s e).2.1 f (rBs ((i + 7) / 8) s e).2.2, .buf (bls (nulP B n i))] /\ i <= n /\ (i = n -> padOk B n = true) /\ (i % 8 ≠ 0 -> x = B.getD (i / 8) 0 / 2 ^ (i % 8)) /\ mm = n - i, .at n ⟨0, 0, ?_, ?_, by omega, by omega, by omega, rfl⟩, ?_⟩⟩
 focus
  rfl
 focus
  rw [nulP_zero];show [rdO s f e, O.buf (List.replicate n [V.bool false])] = _
  unfold bls;rw [List.map_replicate]; rfl
 rintro mm ws H ⟨i, x, rfl, rfl, hi, hpad, hx, rfl⟩
 conv => whnf
 refine branch_i (fun c1 => ?_) (fun c1 => ?_) <;> try rw [c1] <;> conv => whnf
 rotate_left
 focus
  have c1' := dfZ c1;have hie : i = n := by omega
  subst hie;rw [nulP_all];exact ⟨[0, 1], rfl, bits_ret (by simp [nulL]) (h1 (hpad rfl))⟩
 have c1' := dtZ c1;have hin : i < n := by omega
 refine ⟨by decide, ?_⟩
 have hm : (i : Int).tmod 8 = ((i % 8 : Nat) : Int) := by rw [Int.tmod_eq_emod_of_nonneg (by omega)]; omega
 rw [hm]
 conv => whnf
 have hj8 : (i + 1 + 7) / 8 = i / 8 + 1 := by omega
 have hy : B.getD (i / 8) 0 = (rBs (i / 8 + 1) s e).1.getD (i / 8) 0 := by rw [hB]; exact (rBs_getD s e (by omega) (by omega)).symm
 have hlen := bls_len (nulP B n i);rw [nulP_len] at hlen;have hw1 : IntKind.i64.wrap ((n : Int) - 1) = ((n - 1 : Nat) : Int) := by rw [wrapL (by omega)]; omega
 refine branch_i (fun c2 => ?_) (fun c2 => ?_) <;> try rw [c2] <;> conv => whnf
 focus
  have c2' : i % 8 = 0 := by have := dtZ c2; omega
  have hj : (i + 7) / 8 = i / 8 := by omega
  rw [hj];have hs1 : (rBs (i / 8 + 1) s e).2.1 = (rByt (rBs (i / 8) s e).2.1 (rBs (i / 8) s e).2.2).2.1 := rfl;have hs2 : (rBs (i / 8 + 1) s e).2.2 = (rByt (rBs (i / 8) s e).2.1 (rBs (i / 8) s e).2.2).2.2 := rfl;have hl := rBs_last (i / 8) s e;have hbd := rByt_bd (rBs (i / 8) s e).2.1 (rBs (i / 8) s e).2.2;refine .call [0] 1 ⟨rfl, rfl, rfl⟩ (Byte_spec ?_);generalize (rByt (rBs (i / 8) s e).2.1 (rBs (i / 8) s e).2.2).1 = y0 at *;generalize (rByt (rBs (i / 8) s e).2.1 (rBs (i / 8) s e).2.2).2.1 = s2 at *;generalize (rByt (rBs (i / 8) s e).2.1 (rBs (i / 8) s e).2.2).2.2 = e2 at *;obtain ⟨y, rfl⟩ : ∃ y : Nat, y0 = y := ⟨y0.toNat, by omega⟩
  have hxy : y = B.getD (i / 8) 0 / 2 ^ (i % 8) := by rw [hy, hl, c2']; simp
  conv => whnf
 rotate_left
 focus
  have c2' : ¬ i % 8 = 0 := by have := dfZ c2; omega
  have hj : (i + 7) / 8 = i / 8 + 1 := by omega
  rw [hj];have hxy := hx c2';obtain ⟨s2, hs1⟩ : ∃ z, (rBs (i / 8 + 1) s e).2.1 = z := ⟨_, rfl⟩;obtain ⟨e2, hs2⟩ : ∃ z, (rBs (i / 8 + 1) s e).2.2 = z := ⟨_, rfl⟩;rw [hs1, hs2];generalize x = y at *
  conv => whnf
 all_goals
  have hb := hB256 (i / 8);have hy256 : y < 256 := by rw [hxy]; exact Nat.lt_of_le_of_lt (Nat.div_le_self _ _) hb
  have hdec : decide (IntKind.i64.wrap ↑(BitVec.ofInt IntKind.i64.bits (y : Int) &&& BitVec.ofInt IntKind.i64.bits 1).toNat = 1) = nulAt B i := by
   rw [and1 y hy256];unfold nulAt;rw [<- hxy];exact decide_eq_decide.2 (by omega)
  rw [hdec];refine ⟨⟨by omega, by omega⟩, ?_⟩
  conv => whnf
  have hil : i < (nulP B n i).length := by rw [nulP_len]; exact hin
  have hg : (nulP B n i)[i]? = some (nulP B n i)[i] := lgZ hil;refine ⟨_, bls_get hg, ?_⟩
  conv => whnf
  refine ⟨by omega, ?_⟩
  rw [shr1]
  conv => whnf
  rw [hw1];have hyd : y / 2 = B.getD (i / 8) 0 / 2 ^ (i % 8 + 1) := by rw [hxy, Nat.div_div_eq_div_mul, Nat.pow_succ]
  have hHn : [rdO s2 f e2, O.buf ((bls (nulP B n i)).set i [.bool (nulAt B i)])] = [rdO (rBs ((i + 1 + 7) / 8) s e).2.1 f (rBs ((i + 1 + 7) / 8) s e).2.2, .buf (bls (nulP B n (i + 1)))] := by
   rw [hj8, hs1, hs2, bls_set, <- nulP_set B hin]
  have hpd : i = n - 1 -> padOk B n = decide (y / 2 = 0) := fun hl => by
   unfold padOk;rw [<- hl, <- hyd]
  refine branch_i (fun c3 => ?_) (fun c3 => ?_) <;> try rw [c3] <;> conv => whnf
  focus
   have c3' : i = n - 1 := by have := dtZ c3; omega
   refine branch_i (fun c4 => ?_) (fun c4 => ?_) <;> try rw [c4] <;> conv => whnf
   focus
    have c4' : ¬ y / 2 = 0 := by have : ¬ ((y / 2 : Nat) : Int) = 0 := by simpa using c4
                                 omega
    have hb1 := hs1;rw [show i / 8 + 1 = (n + 7) / 8 by omega] at hs1 hs2
    rw [hs1, hs2] at h0;exact ⟨[0], rfl, .done [0] rfl (h0 (by rw [hpd c3']; exact decide_eq_false c4'))⟩
   focus
    have c4' : y / 2 = 0 := by have : ((y / 2 : Nat) : Int) = 0 := by simpa using c4
                               omega
    refine .go [0, 1] rfl (n - (i + 1)) (by omega) ⟨i + 1, y / 2, ?_, hHn, by omega, fun _ => by rw [hpd c3']; exact decide_eq_true c4', fun h8 => ?_, rfl⟩
    . show [V.ptr 0 0, fI n, .ms 1 1 0 n false, fI (y / 2 : Nat), fI n, .int .i64 (IntKind.i64.wrap ((i : Int) + 1))] = _
      rw [wrapL (by omega)]; rfl
    . rw [hyd, show (i + 1) / 8 = i / 8 by omega, show (i + 1) % 8 = i % 8 + 1 by omega]
  focus
   have c3' : ¬ i = n - 1 := by have := dfZ c3; omega
   refine .go [0, 1] rfl (n - (i + 1)) (by omega) ⟨i + 1, y / 2, ?_, hHn, by omega, fun h => by omega, fun h8 => ?_, rfl⟩
   . show [V.ptr 0 0, fI n, .ms 1 1 0 n false, fI (y / 2 : Nat), fI n, .int .i64 (IntKind.i64.wrap ((i : Int) + 1))] = _
     rw [wrapL (by omega)]; rfl
   . rw [hyd, show (i + 1) / 8 = i / 8 by omega, show (i + 1) % 8 = i % 8 + 1 by omega]
end Go.Proofs.YtcdkklgeepkopaaGreatDoorPg
namespace Go.Proofs.YtcdkklgeepkopaaGreatDoorPg
open Go Go.RowKit
variable {Q : V -> List O -> Prop}
theorem app_v {i j n : Nat} {f : Bool} {X : List Val} {w : Val} {H : List O} {K : V -> List O -> Prop} (hij : Nat.beq i j = false) (hX : getO H i = .buf (vals X)) (hn : n = X.length) (hs : X.length <= 1000000)
 (hK : copyH (setO H i .dead ++ [.buf (vals (X ++ [w]))]) fun H' => K (.ms 3 (setO H i .dead).length 0 (X ++ [w]).length false) H') :
 0 + 1 <= 1 /\ aapp 3 32 (.ms 3 i 0 n false) (.ms 3 j 0 1 f) [valC w] H K := by
 subst hn;refine ⟨Nat.le_refl 1, ?_⟩;have hlk := vals_len X;unfold aapp sameBuf;simp only [hij];unfold aappend;simp only [show Nat.beq 3 3 = true from rfl, hX, List.drop_zero]
 refine ⟨by rw [hlk]; rfl, ?_⟩
 rw [show vals X ++ [valC w] = vals (X ++ [w]) by simp [vals]]
 unfold newBuf;rw [vals_len];exact ⟨by rw [laZ, List.length_singleton]; omega, hK⟩
theorem Fits_eq {l : List Col} {keys : Int} {vs : List Val} {X : List (List V)} {f : Bool} (hX : X = vals vs) (hl : l.length <= 1000) (ht : TextsOk vs) (h : Q (.bool (fitsL l vs)) []) :
 ACall Tryz.prog 134 0 [sch l keys, .sl 3 X f] [] Q := by subst hX; exact Fits_spec hl ht h
set_option maxRecDepth 8000 in
set_option maxHeartbeats 16000000 in
theorem take_img {s : List UInt8} {f : Bool} {e : Int} {C : List Col} (h0 : C ≠ []) (hC : C.length <= 16) (hk : ∀ c ∈ C, 1 <= c.k /\ c.k <= 4) (hs : s.length <= 1000000000)
 (h1 : ∀ vs, rRow C s e = some vs -> Q (.tup [.sl 3 (vals vs) false, .bool true]) [rdO (rRowS C s e).1 f (rRowS C s e).2])
 (hn : rRow C s e = none -> ∀ s' e', Q (.tup [.nils, .bool false]) [rdO s' f e']) :
 ACall Tryz.prog 146 1 [.ptr 0 0, .sl 3 (cols C) false] [rdO s f e] Q := by
 refine ACall.ret (by_body Tryz.func146 1 rfl (nbZ rfl) ?_);have hcl := cols_len C;have hcp := List.length_pos_iff.2 h0
 conv => whnf
 rw [hcl];unfold rRow at h1 hn;refine .call [0] 1 ⟨rfl, rfl, rfl⟩ (bits_spec (n := C.length) hcp (by omega) (fun hp => ?_) (fun hp => ?_))
 rotate_left
 focus
  conv => whnf
  rw [if_neg (by rw [hp]; decide)] at hn
  exact ⟨[0], rfl, .done [0] rfl (hn rfl _ _)⟩
 rw [if_pos hp] at h1 hn;obtain ⟨N, hN⟩ : ∃ N, N = nulAt (rBs ((C.length + 7) / 8) s e).1 := ⟨_, rfl⟩;have hs1 := rBs_suf ((C.length + 7) / 8) s e;unfold rRowS at h1;unfold nulL;rw [<- hN] at h1 hn ⊢;generalize (rBs ((C.length + 7) / 8) s e).2.1 = s1 at *;generalize (rBs ((C.length + 7) / 8) s e).2.2 = e1 at *
 conv => whnf
 refine ⟨⟨[0, 1, 6, 7, 9, 29, 30, 31], fun mm ws H => ∃ (i : Nat), ws = [.ptr 0 0, .sl 3 (cols C) false, .map 1, .sl 1 (bls ((List.range C.length).map N)) false, .ms 3 2 0 i false, .sl 3 (cols C) false, fI C.length, fI i] /\
  H = [rdO (rVls C N i s1 e1).2.1 f (rVls C N i s1 e1).2.2, .map [(.int .i64 1, .fn (.func 70) [.ptr 0 0] []), (.int .i64 2, .fn (.func 160) [.ptr 0 0] [])] 2, .buf (vals (rVls C N i s1 e1).1)] /\ i <= C.length /\ mm = C.length - i,
  .frz (C.length + 1) (.adopt (.sub _ _ (.cons (.refl _) (.cons (.refl _) (.cons (.refl _) (.cons (.refl _) (.cons (ms0_row 3 2) (VSubs.refl _)))))) (HSub.refl _) (.go [0, 1, 2] rfl C.length (by omega) ⟨0, ?_, rfl, by omega, rfl⟩))), ?_⟩⟩
 focus
  rw [hcl]; rfl
 rintro mm ws H ⟨i, rfl, rfl, hi, rfl⟩;have hvl := vals_len (rVls C N i s1 e1).1;rw [rVls_len] at hvl
 conv => whnf
 refine branch_i (fun c1 => ?_) (fun c1 => ?_) <;> try rw [c1] <;> conv => whnf
 rotate_left
 focus
  have c1' := dfZ c1;have hie : i = C.length := by omega
  subst hie;refine .call [0] 1 ⟨rfl, rfl, rfl⟩ (Errno_spec ?_);have hvs := rVls_suf C N C.length s1 e1;generalize (rVls C N C.length s1 e1).1 = vs at *;generalize (rVls C N C.length s1 e1).2.1 = s2 at *;generalize (rVls C N C.length s1 e1).2.2 = e2 at *
  conv => whnf
  refine branch_i (fun c2 => ?_) (fun c2 => ?_) <;> try rw [c2] <;> conv => whnf
  focus
   have c2' : ¬ e2 = 0 := by simpa using c2
   exact ⟨[0], rfl, .done [0] rfl (hn (if_neg (fun h => c2' h.1)) _ _)⟩
  have c2' : e2 = 0 := by simpa using c2
  subst c2';refine .frz 2 rfl rfl (by repeat (first | exact trivial | refine And.intro (by rw [hvl, Nat.zero_add]; exact Nat.le_refl _) ?_)) ?_
  have htk : List.take C.length (List.drop 0 (vals vs)) = vals vs := by rw [List.drop_zero, <- hvl, List.take_length]
  refine .pure (Fits_eq (l := C) (keys := 0) (vs := vs) (X := List.take C.length (List.drop 0 (vals vs))) (f := false) htk (by omega) (fun v hv => by have := (hvs.2 v hv).1; omega) ⟨rfl, ?_⟩)
  cases hf : fitsL C vs <;> conv => whnf
  focus
   exact ⟨[0], rfl, .done [0] rfl (hn (if_neg (fun h => by rw [hf] at h; cases h.2)) _ _)⟩
  focus
   refine ⟨[0], rfl, .done [0] rfl ?_⟩;show Q (.tup [.sl 3 (List.take C.length (List.drop 0 (vals vs))) false, .bool true]) [rdO s2 f 0]
   rw [htk];exact h1 vs (if_pos ⟨rfl, hf⟩)
 have c1' := dtZ c1;have hlt : i < C.length := by omega
 have hg : C[i]? = some C[i] := lgZ hlt;have hck := hk _ (List.getElem_mem hlt);have hka := kAt_get hg;generalize C[i] = c at *;have hNg : ((List.range C.length).map N)[i]? = some (N i) := by rw [List.getElem?_map, List.getElem?_range hlt]; rfl
 have hvs : rVls C N (i + 1) s1 e1 = ((rVls C N i s1 e1).1 ++ [(rVal (kAt C i) (N i) (rVls C N i s1 e1).2.1 (rVls C N i s1 e1).2.2).1], (rVal (kAt C i) (N i) (rVls C N i s1 e1).2.1 (rVls C N i s1 e1).2.2).2) := rfl;rw [hka] at hvs;have hln := rVls_len C N i s1 e1;generalize (rVls C N i s1 e1).1 = X at *;generalize (rVls C N i s1 e1).2.1 = s2 at *;generalize (rVls C N i s1 e1).2.2 = e2 at *
 have fin : ∀ (v : Val) (s3 : List UInt8) (e3 : Int), rVal c.k (N i) s2 e2 = (v, s3, e3) ->
  [rdO s3 f e3, .map [(.int .i64 1, .fn (.func 70) [.ptr 0 0] []), (.int .i64 2, .fn (.func 160) [.ptr 0 0] [])] 2, .buf (vals (X ++ [v]))] =
  [rdO (rVls C N (i + 1) s1 e1).2.1 f (rVls C N (i + 1) s1 e1).2.2, .map [(.int .i64 1, .fn (.func 70) [.ptr 0 0] []), (.int .i64 2, .fn (.func 160) [.ptr 0 0] [])] 2, .buf (vals (rVls C N (i + 1) s1 e1).1)] := fun v s3 e3 h => by
  rw [hvs, h]
 have nx : ∀ j : Nat, j = i + 1 -> [V.ptr 0 0, .sl 3 (cols C) false, .map 1, .sl 1 (bls ((List.range C.length).map N)) false, .ms 3 2 0 j false, .sl 3 (cols C) false, fI C.length, .int .i64 (IntKind.i64.wrap ((i : Int) + 1))] =
  [V.ptr 0 0, .sl 3 (cols C) false, .map 1, .sl 1 (bls ((List.range C.length).map N)) false, .ms 3 2 0 (i + 1) false, .sl 3 (cols C) false, fI C.length, fI (i + 1 : Nat)] := fun j h => by
  rw [h, wrapL (by omega)]; rfl
 refine ⟨_, ⟨by omega, cols_get hg⟩, ?_⟩
 conv => whnf
 refine branch_i (fun k1 => ?_) (fun k1 => ?_) <;> try rw [k1] <;> conv => whnf
 focus
  have k1' := dtZ k1;refine ⟨_, ⟨by omega, bls_get hNg⟩, ?_⟩
  conv => whnf
  cases hNi : N i <;> conv => whnf
  focus
   refine ⟨List.range 6, by kernel_rfl, by kernel_rfl, ?_⟩
   conv => whnf
   refine .call [0] 1 ⟨rfl, rfl, rfl⟩ (Byte_spec ?_)
   repeat (conv => whnf
           refine ⟨rfl, ?_⟩)
   conv => whnf
   refine app_v (X := X) (w := ⟨c.k, (rByt s2 e2).1, []⟩) rfl rfl hln.symm (by omega) ?_
   conv => whnf
   exact .go [0, 1, 6] rfl (C.length - (i + 1)) (by omega) ⟨i + 1, nx _ (by rw [laZ, hln]; rfl), fin _ _ _ (by rw [hNi]; unfold rVal; rw [if_neg (by decide), if_pos k1']), by omega, rfl⟩
  focus
   refine ⟨_, ⟨by omega, bls_get hNg⟩, ?_⟩
   conv => whnf
   rw [hNi]
   conv => whnf
   refine app_v (X := X) (w := ⟨0, 0, []⟩) rfl rfl hln.symm (by omega) ?_
   conv => whnf
   exact .go [0, 1, 6] rfl (C.length - (i + 1)) (by omega) ⟨i + 1, nx _ (by rw [laZ, hln]; rfl), fin _ _ _ (by rw [hNi]; rfl), by omega, rfl⟩
 have k1' := dfZ k1;refine branch_i (fun k2 => ?_) (fun k2 => ?_) <;> try rw [k2] <;> conv => whnf
 focus
  have k2' := dtZ k2;refine ⟨_, ⟨by omega, bls_get hNg⟩, ?_⟩
  conv => whnf
  cases hNi : N i <;> conv => whnf
  focus
   refine ⟨List.range 6, by kernel_rfl, by kernel_rfl, ?_⟩
   conv => whnf
   refine .call [0] 1 ⟨rfl, rfl, rfl⟩ (Signed_spec ?_)
   repeat (conv => whnf
           refine ⟨rfl, ?_⟩)
   conv => whnf
   refine app_v (X := X) (w := ⟨c.k, (rSgn s2 e2).1, []⟩) rfl rfl hln.symm (by omega) ?_
   conv => whnf
   exact .go [0, 1, 6] rfl (C.length - (i + 1)) (by omega) ⟨i + 1, nx _ (by rw [laZ, hln]; rfl), fin _ _ _ (by rw [hNi]; unfold rVal; rw [if_neg (by decide), if_neg k1', if_pos k2']), by omega, rfl⟩
  focus
   refine ⟨_, ⟨by omega, bls_get hNg⟩, ?_⟩
   conv => whnf
   rw [hNi]
   conv => whnf
   refine app_v (X := X) (w := ⟨0, 0, []⟩) rfl rfl hln.symm (by omega) ?_
   conv => whnf
   exact .go [0, 1, 6] rfl (C.length - (i + 1)) (by omega) ⟨i + 1, nx _ (by rw [laZ, hln]; rfl), fin _ _ _ (by rw [hNi]; rfl), by omega, rfl⟩
 have k2' := dfZ k2;refine ⟨.nilf, ⟨_, _, rfl, rfl, rfl⟩, ?_⟩
 conv => whnf
 refine ⟨_, ⟨by omega, bls_get hNg⟩, ?_⟩
 conv => whnf
 cases hNi : N i <;> conv => whnf
 focus
  refine ⟨_, ⟨by omega, bls_get hNg⟩, ?_⟩
  conv => whnf
  rw [hNi]
  conv => whnf
  refine ⟨List.range 6, by kernel_rfl, by kernel_rfl, ?_⟩
  conv => whnf
  refine .call [0] 1 ⟨rfl, rfl, rfl⟩ (Text_spec ?_)
  repeat (conv => whnf
          refine ⟨rfl, ?_⟩)
  conv => whnf
  refine app_v (X := X) (w := ⟨c.k, 0, (rTxt 4096 s2 e2).1⟩) rfl rfl hln.symm (by omega) ?_
  conv => whnf
  exact .go [0, 1, 6] rfl (C.length - (i + 1)) (by omega) ⟨i + 1, nx _ (by rw [laZ, hln]; rfl), fin _ _ _ (by rw [hNi]; unfold rVal; rw [if_neg (by decide), if_neg k1', if_neg k2']), by omega, rfl⟩
 focus
  refine ⟨_, ⟨by omega, bls_get hNg⟩, ?_⟩
  conv => whnf
  rw [hNi]
  conv => whnf
  refine app_v (X := X) (w := ⟨0, 0, []⟩) rfl rfl hln.symm (by omega) ?_
  conv => whnf
  exact .go [0, 1, 6] rfl (C.length - (i + 1)) (by omega) ⟨i + 1, nx _ (by rw [laZ, hln]; rfl), fin _ _ _ (by rw [hNi]; rfl), by omega, rfl⟩
theorem ReadI_spec {s : List UInt8} {f : Bool} {e : Int} {C : List Col} {K : Int} (h0 : C ≠ []) (hC : C.length <= 16) (hk : ∀ c ∈ C, 1 <= c.k /\ c.k <= 4) (hs : s.length <= 1000000000)
 (h1 : ∀ vs, rRow C s e = some vs -> Q (.tup [.sl 3 (vals vs) false, .bool true]) [rdO (rRowS C s e).1 f (rRowS C s e).2])
 (hn : rRow C s e = none -> ∀ s' e', Q (.tup [.nils, .bool false]) [rdO s' f e']) :
 ACall Tryz.prog 128 1 [.ptr 0 0, sch C K] [rdO s f e] Q := by
 refine by_body Tryz.func128 1 rfl (nbZ rfl) ?_
 conv => whnf
 refine .call [0] 1 ⟨rfl, rfl, rfl⟩ (take_img h0 hC hk hs (fun vs hv => ?_) (fun hv s' e' => ?_))
 . conv => whnf
   exact ⟨[0], rfl, h1 vs hv⟩
 . conv => whnf
   exact ⟨[0], rfl, hn hv s' e'⟩
theorem ReadKeyI_spec {s : List UInt8} {f : Bool} {e : Int} {C : List Col} {k : Nat} (hk1 : 1 <= k) (hkC : k <= C.length) (hC : C.length <= 16) (hk : ∀ c ∈ C, 1 <= c.k /\ c.k <= 4) (hs : s.length <= 1000000000)
 (h1 : ∀ vs, rRow (C.take k) s e = some vs -> Q (.tup [.sl 3 (vals vs) false, .bool true]) [rdO (rRowS (C.take k) s e).1 f (rRowS (C.take k) s e).2])
 (hn : rRow (C.take k) s e = none -> ∀ s' e', Q (.tup [.nils, .bool false]) [rdO s' f e']) :
 ACall Tryz.prog 129 1 [.ptr 0 0, sch C k] [rdO s f e] Q := by
 refine by_body Tryz.func129 1 rfl (nbZ rfl) ?_;have hcl := cols_len C;have hne : C.take k ≠ [] := fun e => by
  have := congrArg List.length e;rw [List.length_take, List.length_nil] at this;omega
 conv => whnf
 refine ⟨⟨by omega, by omega⟩, ?_⟩
 rw [show List.take (k : Int).toNat (cols C) = cols (C.take k) by rw [Int.toNat_natCast]; unfold cols; rw [List.map_take]]
 conv => whnf
 refine .call [0] 1 ⟨rfl, rfl, rfl⟩ (take_img (C := C.take k) hne (by rw [List.length_take]; omega) (fun c hc => hk c (List.mem_of_mem_take hc)) hs (fun vs hv => ?_) (fun hv s' e' => ?_))
 . conv => whnf
   exact ⟨[0], rfl, h1 vs hv⟩
 . conv => whnf
   exact ⟨[0], rfl, hn hv s' e'⟩
end Go.Proofs.YtcdkklgeepkopaaGreatDoorPg
namespace Go.Proofs.YtcdkklgeepkopaaGreatDoorPg
open Go Go.RowKit
structure RC where
 n : List UInt8
 k : Int
 o : Int
 s : List UInt8
 e : Int
def rC (most : Int) (s : List UInt8) (e : Int) : RC :=
 ⟨(rTxt most s e).1, (rByt (rTxt most s e).2.1 (rTxt most s e).2.2).1, (rByt (rByt (rTxt most s e).2.1 (rTxt most s e).2.2).2.1 (rByt (rTxt most s e).2.1 (rTxt most s e).2.2).2.2).1,
   (rByt (rByt (rTxt most s e).2.1 (rTxt most s e).2.2).2.1 (rByt (rTxt most s e).2.1 (rTxt most s e).2.2).2.2).2.1, (rByt (rByt (rTxt most s e).2.1 (rTxt most s e).2.2).2.1 (rByt (rTxt most s e).2.1 (rTxt most s e).2.2).2.2).2.2⟩
def RC.c (r : RC) : Col := ⟨r.n, r.k, decide (r.o = 1)⟩
def RC.g (r : RC) : Col := ⟨r.n, r.k, !decide (r.o = 0)⟩
theorem rC_ok {most : Int} {s : List UInt8} {e : Int} (h : (rC most s e).e = 0) (ho : (rC most s e).o <= 1) :
 e = 0 /\ s = colW (rC most s e).c ++ (rC most s e).s := by
 unfold rC at h ho ⊢;unfold RC.c;simp only at h ho ⊢;rcases hx : rTxt most s e with ⟨t, s1, e1⟩
 rw [hx] at h ho;simp only at h ho ⊢;rcases hy : rByt s1 e1 with ⟨k, s2, e2⟩
 rw [hy] at h ho;simp only at h ho ⊢;rcases hz : rByt s2 e2 with ⟨o, s3, e3⟩
 rw [hz] at h ho;simp only at h ho ⊢;subst h;obtain ⟨rfl, bo, rfl, rfl⟩ := rByt_ok hz;obtain ⟨rfl, bk, rfl, rfl⟩ := rByt_ok hy;obtain ⟨rfl, _, rfl⟩ := rTxt_ok hx;refine ⟨rfl, ?_⟩;unfold colW;simp only [b8_toNat];have hb : bo.toNat = 0 \/ bo.toNat = 1 := by omega
 rcases hb with hb | hb
 . have : bo = 0 := UInt8.toNat_inj.1 hb;subst this;simp
 . have : bo = 1 := UInt8.toNat_inj.1 hb;subst this;simp
theorem rC_W {most : Int} {c : Col} (hm : (c.n.length : Int) <= most) (hl : c.n.length <= 1000000) (hk : 0 <= c.k /\ c.k < 256) (r : List UInt8) :
 rC most (colW c ++ r) 0 = ⟨c.n, c.k, if c.o then 1 else 0, r, 0⟩ := by
 unfold rC colW;rw [List.append_assoc, rTxt_W hm (by omega)]
 simp only [List.cons_append, List.nil_append, rByt_W];rw [b8_nat hk];cases c.o <;> rfl
theorem RC.c_eq {c : Col} {r : List UInt8} : (RC.c ⟨c.n, c.k, if c.o then 1 else 0, r, 0⟩) = c := by
 obtain ⟨n, k, o⟩ := c;cases o <;> rfl
theorem RC.g_eq {c : Col} {r : List UInt8} : (RC.g ⟨c.n, c.k, if c.o then 1 else 0, r, 0⟩) = c := by
 obtain ⟨n, k, o⟩ := c;cases o <;> rfl
def pCols : Nat -> List Col -> List UInt8 -> Int -> Option (List Col × List UInt8 × Int)
 | 0, acc, s, e => some (acc, s, e)
 | m + 1, acc, s, e => if 1 < (rC 32 s e).o \/ (rC 32 s e).e ≠ 0 then none else pCols m (acc ++ [(rC 32 s e).c]) (rC 32 s e).s (rC 32 s e).e
def gColz : Nat -> List Col -> List UInt8 -> Int -> List Col
 | 0, acc, _, _ => acc
 | m + 1, acc, s, e => if e = 0 then gColz m (acc ++ [(rC 4096 s e).g]) (rC 4096 s e).s (rC 4096 s e).e else acc
theorem pCols_ok : ∀ (m : Nat) (acc : List Col) (s : List UInt8) (e : Int) (cs : List Col) (r : List UInt8) (e' : Int), pCols m acc s e = some (cs, r, e') -> e' = 0 -> e = 0 /\ ∃ l : List Col, l.length = m /\ cs = acc ++ l /\ s = l.flatMap colW ++ r := by
 intro m;induction m with
 | zero => intro acc s e cs r e' h h0; simp only [pCols, Option.some.injEq, Prod.mk.injEq] at h; obtain ⟨rfl, rfl, rfl⟩ := h; exact ⟨h0, [], rfl, by simp, by simp⟩
 | succ m ih =>
  intro acc s e cs r e' h h0;simp only [pCols] at h;split at h
  . cases h
  rename_i hc;rw [not_or] at hc;obtain ⟨_, l, hl, rfl, hs⟩ := ih _ _ _ _ _ _ h h0;obtain ⟨he, hs2⟩ := rC_ok (most := 32) (s := s) (e := e) (by omega) (by omega)
  exact ⟨he, (rC 32 s e).c :: l, by simp [hl], by simp, by rw [List.flatMap_cons, List.append_assoc, <- hs]; exact hs2⟩
theorem pCols_W : ∀ (l : List Col) (acc : List Col) (r : List UInt8), (∀ c ∈ l, c.n.length <= 32 /\ 0 <= c.k /\ c.k < 256) -> pCols l.length acc (l.flatMap colW ++ r) 0 = some (acc ++ l, r, 0)
 | [], acc, r, _ => by simp [pCols]
 | c :: l, acc, r, h => by
  have hc := h c (by simp)
  simp only [List.length_cons, pCols];rw [List.flatMap_cons, List.append_assoc, rC_W (by omega) (by omega) hc.2]
  simp only [RC.c_eq];rw [if_neg (by cases c.o <;> simp), pCols_W l (acc ++ [c]) r (fun x hx => h x (by simp [hx]))]
  simp
theorem gColz_W : ∀ (l : List Col) (acc : List Col) (r : List UInt8), (∀ c ∈ l, c.n.length <= 32 /\ 0 <= c.k /\ c.k < 256) -> gColz l.length acc (l.flatMap colW ++ r) 0 = acc ++ l
 | [], acc, r, _ => by simp [gColz]
 | c :: l, acc, r, h => by
  have hc := h c (by simp)
  simp only [List.length_cons, gColz, if_true];rw [List.flatMap_cons, List.append_assoc, rC_W (by omega) (by omega) hc.2]
  simp only [RC.g_eq];rw [gColz_W l (acc ++ [c]) r (fun x hx => h x (by simp [hx]))]
  simp
def sB (s : List UInt8) (e : Int) : List UInt8 × Int := (rByt s e).2
def sT (m : Int) (s : List UInt8) (e : Int) : List UInt8 × Int := (rTxt m s e).2
def pTail (k : Int) (t : List UInt8) (s : List UInt8) (e : Int) : Option (Chg × List UInt8 × Int) :=
 if k = 1 then
  match pCols (rByt (sB s e).1 (sB s e).2).1.toNat [] (sB (sB s e).1 (sB s e).2).1 (sB (sB s e).1 (sB s e).2).2 with
  | some (cs, st) => some (⟨k, t, cs, (rByt s e).1, col0⟩, st)
  | none => none
 else if k = 3 \/ k = 5 then (if (rC 32 s e).o <= 1 then some (⟨k, t, [], 0, (rC 32 s e).c⟩, (rC 32 s e).s, (rC 32 s e).e) else none)
 else if k = 4 then some (⟨k, t, [], 0, ⟨(rTxt 32 s e).1, 0, false⟩⟩, sT 32 s e)
 else some (⟨k, t, [], 0, col0⟩, s, e)
def pChg (s : List UInt8) (e : Int) : Option (Chg × List UInt8 × Int) :=
 pTail (rByt s e).1 (rTxt 32 (sB s e).1 (sB s e).2).1 (sT 32 (sB s e).1 (sB s e).2).1 (sT 32 (sB s e).1 (sB s e).2).2
def gTail (m : Int) (k : Int) (t : List UInt8) (s : List UInt8) (e : Int) : Chg :=
 if k = 1 then ⟨k, t, gColz (rByt (sB s e).1 (sB s e).2).1.toNat [] (sB (sB s e).1 (sB s e).2).1 (sB (sB s e).1 (sB s e).2).2, (rByt s e).1, col0⟩
 else if k = 3 \/ k = 5 then ⟨k, t, [], 0, (rC 4096 s e).g⟩
 else if k = 4 then ⟨k, t, [], 0, ⟨(rTxt m s e).1, 0, false⟩⟩
 else ⟨k, t, [], 0, col0⟩
def gChg (m : Int) (s : List UInt8) (e : Int) : Chg :=
 gTail m (rByt s e).1 (rTxt m (sB s e).1 (sB s e).2).1 (sT m (sB s e).1 (sB s e).2).1 (sT m (sB s e).1 (sB s e).2).2
def pRow (l : List Tb) (s : List UInt8) (e : Int) : Option (List UInt8 × List Val × List UInt8 × Int) :=
 match findT l (rTxt s.length s e).1 with
 | none => none
 | some (C, _) => match rRow C (sT s.length s e).1 (sT s.length s e).2 with
  | none => none
  | some vs => some ((rTxt s.length s e).1, vs, rRowS C (sT s.length s e).1 (sT s.length s e).2)
def pKey (l : List Tb) (s : List UInt8) (e : Int) : Option (List UInt8 × List Val × List UInt8 × Int) :=
 match findT l (rTxt s.length s e).1 with
 | none => none
 | some (C, K) => match rRow (C.take K.toNat) (sT s.length s e).1 (sT s.length s e).2 with
  | none => none
  | some vs => some ((rTxt s.length s e).1, vs, rRowS (C.take K.toNat) (sT s.length s e).1 (sT s.length s e).2)
def pEv (k : Int) (l : List Tb) (s : List UInt8) (e : Int) : Option (Evt × List UInt8 × Int) :=
 if k = 3 \/ k = 4 then (match pRow l s e with | some (t, vs, st) => some (⟨k, 0, t, [], vs, chg0⟩, st) | none => none)
 else if k = 5 then (match pKey l s e with | some (t, vs, st) => some (⟨k, 0, t, vs, [], chg0⟩, st) | none => none)
 else if k = 6 then (match pChg s e with | some (c, st) => some (⟨k, 0, [], [], [], c⟩, st) | none => none)
 else if numK k then some (⟨k, (rNum s e).1, [], [], [], chg0⟩, (rNum s e).2)
 else none
def pMiss (k : Int) (l : List Tb) (s : List UInt8) (e : Int) : Bool := rowK k && ((findT l (rTxt s.length s e).1).isNone && decide ((sT s.length s e).2 = 0))
def prd (b : List UInt8) (l : List Tb) : Option Evt := match pEv (rByt b 0).1 l (sB b 0).1 (sB b 0).2 with
 | some (ev, s, e) => if endE s e = 0 then some ev else none
 | none => none
def gEv (m : Int) (k : Int) (l : List Tb) (s : List UInt8) (e : Int) : Evt × Bool :=
 if k = 3 \/ k = 4 \/ k = 5 then
  match findT l (rTxt m s e).1 with
  | none => (⟨k, 0, (rTxt m s e).1, [], [], chg0⟩, decide ((sT m s e).2 = 0))
  | some (C, K) => if k = 5 then (⟨k, 0, (rTxt m s e).1, (rRow (C.take K.toNat) (sT m s e).1 (sT m s e).2).getD [], [], chg0⟩, false)
   else (⟨k, 0, (rTxt m s e).1, [], (rRow C (sT m s e).1 (sT m s e).2).getD [], chg0⟩, false)
 else if k = 6 then (⟨k, 0, [], [], [], gChg m s e⟩, false)
 else (⟨k, (rNum s e).1, [], [], [], chg0⟩, false)
def gss (b : List UInt8) (l : List Tb) : Evt × Bool := gEv b.length (rByt b 0).1 l (sB b 0).1 (sB b 0).2
theorem sB_ok {s : List UInt8} {e : Int} (h : (sB s e).2 = 0) : e = 0 /\ s = b8 (rByt s e).1 :: (sB s e).1 /\ 0 <= (rByt s e).1 /\ (rByt s e).1 < 256 := by
 unfold sB at h ⊢;rcases hq : rByt s e with ⟨x, q, y⟩
 rw [hq] at h;simp only at h ⊢;subst h;obtain ⟨rfl, b, rfl, rfl⟩ := rByt_ok hq;have := b.toNat_lt;exact ⟨rfl, by rw [b8_toNat], by omega, by omega⟩
theorem sT_ok {m : Int} {s : List UInt8} {e : Int} (h : (sT m s e).2 = 0) : e = 0 /\ s = txtW (rTxt m s e).1 ++ (sT m s e).1 := by
 unfold sT at h ⊢;rcases hq : rTxt m s e with ⟨x, q, y⟩
 rw [hq] at h;simp only at h ⊢;subst h;obtain ⟨rfl, _, rfl⟩ := rTxt_ok hq;exact ⟨rfl, rfl⟩
theorem pTail_ok {k : Int} {t s : List UInt8} {e : Int} {c : Chg} {r : List UInt8} {e' : Int} (h : pTail k t s e = some (c, r, e')) (h0 : e' = 0) (hc : ChgI c) :
 e = 0 /\ c.k = k /\ c.t = t /\ b8 c.k :: (txtW c.t ++ s) = chgW c ++ r := by
 unfold pTail at h;split at h
 . rename_i h1;split at h
   . rename_i cs st hp;cases h;obtain ⟨hz, l, hl, hcs, hs⟩ := pCols_ok _ _ _ _ _ _ _ hp h0;rw [List.nil_append] at hcs;subst hcs;obtain ⟨hz2, hs2, hb2⟩ := sB_ok hz;obtain ⟨hz3, hs3, hb3⟩ := sB_ok hz2;refine ⟨hz3, rfl, rfl, ?_⟩;have e2 : (rByt (sB s e).1 (sB s e).2).1 = (cs.length : Int) := by rw [hl]; omega
     rw [e2] at hs2;unfold chgW;simp only;rw [if_pos h1]
     conv => lhs; rw [hs3, hs2, hs]
     simp
   . cases h
 split at h
 . rename_i h1 h35;split at h
   . rename_i ho;cases h;obtain ⟨hz, hs⟩ := rC_ok (most := 32) h0 ho;refine ⟨hz, rfl, rfl, ?_⟩;unfold chgW;simp only;rw [if_neg h1, if_pos h35]
     conv => lhs; rw [hs]
     simp
   . cases h
 split at h
 . rename_i h1 h35 h4;simp only [Option.some.injEq, Prod.mk.injEq] at h;obtain ⟨rfl, hst⟩ := h;have hr1 : (sT 32 s e).1 = r := by rw [hst]
   obtain ⟨hz, hs⟩ := sT_ok (m := 32) (s := s) (e := e) (by rw [hst]; exact h0)
   rw [hr1] at hs;refine ⟨hz, rfl, rfl, ?_⟩;unfold chgW;simp only;rw [if_neg h1, if_neg h35, if_pos h4]
   conv => lhs; rw [hs]
   simp
 . rename_i h1 h35 h4;cases h;refine ⟨h0, rfl, rfl, ?_⟩;unfold chgW;simp only;rw [if_neg h1, if_neg h35, if_neg h4];simp
theorem pEv_ok {k : Int} {l : List Tb} {s r : List UInt8} {e e' : Int} {ev : Evt} (hl : TbsB l) (h : pEv k l s e = some (ev, r, e')) (h0 : e' = 0) (hm : MayI l ev) :
 e = 0 /\ ev.k = k /\ b8 k :: s = evW ev ++ r := by
 unfold pEv at h;split at h
 . rename_i hk;split at h
   . rename_i t vs st hp;cases h;unfold pRow at hp;split at hp
     . cases hp
     rename_i C K hf;split at hp
     . cases hp
     rename_i vs' hr;simp only [Option.some.injEq, Prod.mk.injEq] at hp;obtain ⟨rfl, rfl, hst⟩ := hp;have hr1 : (rRowS C (sT s.length s e).1 (sT s.length s e).2).1 = r := by rw [hst]
     obtain ⟨hmS, hC, kk, rfl, hkk⟩ := hl.found hf;have hbd := may_bd hmS;obtain ⟨hz, hs, hz2, hfit⟩ := rRow_ok (fun c hc => (may_each hmS c hc).2) (fun e => by rw [e] at hkk; simp at hkk; omega) hr
     rw [hr1] at hs;obtain ⟨hz3, hs3⟩ := sT_ok hz;refine ⟨hz3, rfl, ?_⟩;unfold evW;simp only;rw [if_neg (by omega), if_neg (by omega), if_pos hk]
     conv => lhs; rw [hs3, hs]
     simp
   . cases h
 split at h
 . rename_i hk h5;split at h
   . rename_i t vs st hp;cases h;unfold pKey at hp;split at hp
     . cases hp
     rename_i C K hf;split at hp
     . cases hp
     rename_i vs' hr;simp only [Option.some.injEq, Prod.mk.injEq] at hp;obtain ⟨rfl, rfl, hst⟩ := hp;have hr1 : (rRowS (C.take K.toNat) (sT s.length s e).1 (sT s.length s e).2).1 = r := by rw [hst]
     obtain ⟨hmS, hC, kk, rfl, hkk⟩ := hl.found hf;have hbd := may_bd hmS;obtain ⟨hz, hs, hz2, hfit⟩ := rRow_ok (fun c hc => (may_each hmS c (List.mem_of_mem_take hc)).2) (fun e => by have := congrArg List.length e; rw [List.length_take, List.length_nil] at this; omega) hr
     rw [hr1] at hs;obtain ⟨hz3, hs3⟩ := sT_ok hz;refine ⟨hz3, rfl, ?_⟩;unfold evW;simp only;rw [if_neg (by omega), if_pos h5]
     conv => lhs; rw [hs3, hs]
     simp
   . cases h
 split at h
 . rename_i hk h5 h6;split at h
   . rename_i c st hp;cases h;have hci : ChgI c := by
      have h := hm.e;unfold mayE at h;simp only at h;rw [if_neg (by rw [h6]; decide), if_pos h6] at h
      split at h
      . omega
      . rename_i hz; exact chgE_inv (by omega)
     unfold pChg at hp;obtain ⟨hz, hk1, ht1, hw⟩ := pTail_ok hp h0 hci;obtain ⟨hz2, hs2⟩ := sT_ok hz;obtain ⟨hz3, hs3, hb3⟩ := sB_ok hz2;refine ⟨hz3, rfl, ?_⟩;unfold evW;simp only;rw [if_pos h6, List.cons_append, <- hw, hk1, ht1]
     conv => lhs; rw [hs3, hs2]
   . cases h
 split at h
 . rename_i hk h5 h6 hn;simp only [Option.some.injEq, Prod.mk.injEq] at h;obtain ⟨rfl, hst⟩ := h;rcases hq : rNum s e with ⟨x, q, y⟩
   rw [hq] at hst;simp only [Prod.mk.injEq] at hst;obtain ⟨rfl, rfl⟩ := hst;subst h0;obtain ⟨rfl, _, _, rfl⟩ := rNum_ok hq;refine ⟨rfl, rfl, ?_⟩;unfold evW;simp only;rw [if_neg h6, if_neg h5, if_neg hk];simp
 . cases h
theorem prd_ok {b : List UInt8} {l : List Tb} {ev : Evt} (hl : TbsB l) (h : prd b l = some ev) (hm : MayI l ev) : evW ev = b := by
 unfold prd at h;split at h
 . rename_i ev' s e hp;split at h
   . rename_i he;cases h;unfold endE at he;have h0 : e = 0 /\ s = [] := by
      split at he
      . omega
      . rename_i hx;refine ⟨he, ?_⟩;exact Classical.byContradiction fun hs => hx ⟨he, hs⟩
     obtain ⟨hz, hk, hw⟩ := pEv_ok hl hp h0.1 hm;obtain ⟨_, hs, _⟩ := sB_ok hz;rw [hs, hw, h0.2, List.append_nil]
   . cases h
 . cases h
end Go.Proofs.YtcdkklgeepkopaaGreatDoorPg
namespace Go.Proofs.YtcdkklgeepkopaaGreatDoorPg
open Go Go.RowKit
theorem rB_W {k : Int} (hk : 0 <= k /\ k < 256) (s : List UInt8) : rByt (b8 k :: s) 0 = (k, s, 0) := by
 rw [rByt_W, b8_nat hk]
theorem sB_W {k : Int} (hk : 0 <= k /\ k < 256) (s : List UInt8) : sB (b8 k :: s) 0 = (s, 0) := by unfold sB; rw [rB_W hk]
theorem sT_W {m : Int} {t : List UInt8} (hm : (t.length : Int) <= m) (hl : t.length <= 1000000) (s : List UInt8) : sT m (txtW t ++ s) 0 = (s, 0) := by unfold sT; rw [rTxt_W hm (by omega)]
theorem key_fits {C : List Col} {k : Nat} {b : List Val} (hk : k <= C.length) (h : keyOkL C k b = true) (hb : b.length = k) : fitsL (C.take k) b = true := by
 refine fits_yes (by rw [List.length_take]; omega) fun i c v hc hv => ?_
 have hi : i < k := by have := (liZ.1 hv).1; omega
 rw [List.getElem?_take_of_lt hi] at hc;unfold keyOkL at h;rw [Bool.and_eq_true, List.all_eq_true] at h;have := h.2 i (List.mem_range.2 hi);rw [stAt_some hc hv] at this;exact this
theorem txtW_long (t s : List UInt8) : t.length <= (txtW t ++ s).length := by
 unfold txtW;rw [laZ, laZ]; omega
theorem pTail_W {c : Chg} (h : ChgI c) (s : List UInt8) (hs : chgW c = b8 c.k :: (txtW c.t ++ s)) : pTail c.k c.t s 0 = some (c, [], 0) := by
 cases h with
 | cre t cc ks h1 h2 =>
  have hb := may_bd h2;unfold chgW at hs;simp only [if_true] at hs;have hs' : s = b8 ks :: b8 cc.length :: (cc.flatMap colW ++ []) := by
   rw [List.append_nil];exact (List.append_cancel_left (List.cons.inj hs).2).symm
  unfold pTail;simp only [if_true];rw [hs', rB_W (by omega), sB_W (by omega)]
  simp only;rw [rB_W (by omega), sB_W (by omega)]
  simp only [Int.toNat_natCast];rw [pCols_W cc [] [] (fun c hc => by have := may_each h2 c hc; exact ⟨name_short this.1, by omega, by omega⟩)]
  rfl
 | drop t h1 =>
  unfold chgW at hs;simp only at hs;have hs' : s = [] := (List.append_cancel_left (List.cons.inj hs).2).symm;subst hs';unfold pTail;rfl
 | add k t col h1 hk h2 =>
  unfold colE kOk at h2;simp only [Bool.and_eq_true, decide_eq_true_eq] at h2;have hn := name_short h2.1;unfold chgW at hs;simp only at hs;rw [if_neg (by omega), if_pos hk] at hs
  have hs' : s = colW col ++ [] := by rw [List.append_nil]; exact (List.append_cancel_left (List.cons.inj hs).2).symm
  unfold pTail;simp only;rw [if_neg (by omega), if_pos hk, hs', rC_W (by omega) (by omega) (by omega)]
  simp only [RC.c_eq];rw [if_pos (by cases col.o <;> simp)]
 | cut t n h1 h2 =>
  have hn := name_short h2;unfold chgW at hs;simp only at hs;rw [if_neg (by omega), if_neg (by omega), if_pos trivial] at hs
  have hs' : s = txtW n ++ [] := by rw [List.append_nil]; exact (List.append_cancel_left (List.cons.inj hs).2).symm
  unfold pTail;simp only;rw [if_neg (by omega), if_neg (by omega), if_pos trivial, hs', rTxt_W (by omega) (by omega), sT_W (by omega) (by omega)]
theorem gTail_W {c : Chg} (h : ChgI c) (s : List UInt8) (m : Int) (hm : (s.length : Int) <= m) (hs : chgW c = b8 c.k :: (txtW c.t ++ s)) : gTail m c.k c.t s 0 = c := by
 cases h with
 | cre t cc ks h1 h2 =>
  have hb := may_bd h2;unfold chgW at hs;simp only [if_true] at hs;have hs' : s = b8 ks :: b8 cc.length :: (cc.flatMap colW ++ []) := by
   rw [List.append_nil];exact (List.append_cancel_left (List.cons.inj hs).2).symm
  unfold gTail;simp only [if_true];rw [hs', rB_W (by omega), sB_W (by omega)]
  simp only;rw [rB_W (by omega), sB_W (by omega)]
  simp only [Int.toNat_natCast];rw [gColz_W cc [] [] (fun c hc => by have := may_each h2 c hc; exact ⟨name_short this.1, by omega, by omega⟩)]
  rfl
 | drop t h1 =>
  unfold gTail;rfl
 | add k t col h1 hk h2 =>
  unfold colE kOk at h2;simp only [Bool.and_eq_true, decide_eq_true_eq] at h2;have hn := name_short h2.1;unfold chgW at hs;simp only at hs;rw [if_neg (by omega), if_pos hk] at hs
  have hs' : s = colW col ++ [] := by rw [List.append_nil]; exact (List.append_cancel_left (List.cons.inj hs).2).symm
  unfold gTail;simp only;rw [if_neg (by omega), if_pos hk, hs', rC_W (by omega) (by omega) (by omega)]
  simp only [RC.g_eq]
 | cut t n h1 h2 =>
  have hn := name_short h2;unfold chgW at hs;simp only at hs;rw [if_neg (by omega), if_neg (by omega), if_pos trivial] at hs
  have hs' : s = txtW n ++ [] := by rw [List.append_nil]; exact (List.append_cancel_left (List.cons.inj hs).2).symm
  have hnl := txtW_long n [];rw [<- hs'] at hnl;unfold gTail;simp only;rw [if_neg (by omega), if_neg (by omega), if_pos trivial, hs', rTxt_W (by omega) (by omega)]
theorem ChgI.w {c : Chg} (h : ChgI c) : (0 <= c.k /\ c.k < 256) /\ c.t.length <= 32 /\ ∃ s, chgW c = b8 c.k :: (txtW c.t ++ s) := by
 refine ⟨?_, ?_, ⟨_, rfl⟩⟩
 . cases h with
   | cre t cc ks h1 h2 => exact ⟨by simp, by simp⟩
   | drop t h1 => exact ⟨by simp, by simp⟩
   | add k t col h1 hk h2 => exact ⟨by simp only; omega, by simp only; omega⟩
   | cut t n h1 h2 => exact ⟨by simp, by simp⟩
 . cases h with
   | cre t cc ks h1 h2 => exact name_short h1
   | drop t h1 => exact name_short h1
   | add k t col h1 hk h2 => exact name_short h1
   | cut t n h1 h2 => exact name_short h1
theorem pChg_W {c : Chg} (h : ChgI c) : pChg (chgW c) 0 = some (c, [], 0) := by
 obtain ⟨hk, ht, s, hs⟩ := h.w;unfold pChg;rw [hs, rB_W hk, sB_W hk];simp only;rw [rTxt_W (by omega) (by omega), sT_W (by omega) (by omega)]
 exact pTail_W h s hs
theorem gChg_W {c : Chg} (h : ChgI c) (m : Int) (hm : ((chgW c).length : Int) <= m) : gChg m (chgW c) 0 = c := by
 obtain ⟨hk, ht, s, hs⟩ := h.w;have hl : s.length <= (chgW c).length /\ c.t.length <= (chgW c).length := by
  have := txtW_long c.t s;rw [hs, List.length_cons];refine ⟨?_, by omega⟩
  rw [laZ]; omega
 unfold gChg;rw [hs, rB_W hk, sB_W hk];simp only;rw [rTxt_W (by omega) (by omega), sT_W (by omega) (by omega)]
 exact gTail_W h s m (by omega) hs
theorem endE_nil : endE [] 0 = 0 := by unfold endE; simp
theorem prd_W {ev : Evt} {l : List Tb} (hl : TbsB l) (h : MayI l ev) (hn : EvtN ev) : prd (evW ev) l = some ev := by
 obtain ⟨en, eb, ea⟩ := hn;unfold prd;cases h with
 | ins k t a C K hk hf hfit =>
  obtain ⟨hm, hC, kk, rfl, hkk⟩ := hl.found hf;have hbd := may_bd hm;have hlen := fits_len' hfit;have ht := name_short (findT_name hl hf);have hw : evW ⟨k, 0, t, [], a, chg0⟩ = b8 k :: (txtW t ++ rowW a) := by unfold evW; simp only; rw [if_neg (by omega), if_neg (by omega), if_pos hk]
  have hr := rRow_W hfit (fun e => by rw [e] at hlen; simp at hlen; omega) ea []
  rw [List.append_nil] at hr;have htl := txtW_long t (rowW a);have hp : pEv k l (txtW t ++ rowW a) 0 = some (⟨k, 0, t, [], a, chg0⟩, [], 0) := by
   unfold pEv;rw [if_pos hk];unfold pRow;rw [rTxt_W (by omega) (by omega), sT_W (by omega) (by omega)]
   simp only [hf, hr.1, hr.2]
  rw [hw, rB_W (by omega), sB_W (by omega), hp]
  simp only [endE_nil, if_true]
 | del t b C K hf hfit hlen =>
  obtain ⟨hm, hC, kk, rfl, hkk⟩ := hl.found hf;have hbd := may_bd hm;have hlen' : b.length = kk := Int.ofNat_inj.1 hlen;have ht := name_short (findT_name hl hf);have hw : evW ⟨5, 0, t, b, [], chg0⟩ = b8 5 :: (txtW t ++ rowW b) := rfl;have hr := rRow_W (key_fits (k := kk) hkk hfit hlen') (fun e => by rw [e] at hlen'; simp at hlen'; omega) eb []
  rw [List.append_nil] at hr;have htl := txtW_long t (rowW b);have hp : pEv 5 l (txtW t ++ rowW b) 0 = some (⟨5, 0, t, b, [], chg0⟩, [], 0) := by
   unfold pEv;rw [if_neg (by omega), if_pos rfl]
   unfold pKey;rw [rTxt_W (by omega) (by omega), sT_W (by omega) (by omega)]
   simp only [hf, Int.toNat_natCast, hr.1, hr.2]
  rw [hw, rB_W (by omega), sB_W (by omega), hp]
  simp only [endE_nil, if_true]
 | alt c hc =>
  have hw : evW ⟨6, 0, [], [], [], c⟩ = b8 6 :: chgW c := rfl;have hp : pEv 6 l (chgW c) 0 = some (⟨6, 0, [], [], [], c⟩, [], 0) := by
   unfold pEv;rw [if_neg (by omega), if_neg (by omega), if_pos rfl, pChg_W hc]
  rw [hw, rB_W (by omega), sB_W (by omega), hp]
  simp only [endE_nil, if_true]
 | num k n hk h0 =>
  have hk' := numK_is hk;have hw : evW ⟨k, n, [], [], [], chg0⟩ = b8 k :: (numW n ++ []) := by unfold evW; simp only; rw [if_neg (by omega), if_neg (by omega), if_neg (by omega), List.append_nil]
  have hp : pEv k l (numW n ++ []) 0 = some (⟨k, n, [], [], [], chg0⟩, [], 0) := by
   unfold pEv;rw [if_neg (by omega), if_neg (by omega), if_neg (by omega), if_pos hk, rNum_W h0 en.2]
  rw [hw, rB_W (by omega), sB_W (by omega), hp]
  simp only [endE_nil, if_true]
theorem gEv_ins {m k : Int} {l : List Tb} {s s2 t : List UInt8} {e e2 : Int} {C : List Col} {K : Int} (hk : k = 3 \/ k = 4) (h : rTxt m s e = (t, s2, e2)) (hf : findT l t = some (C, K)) :
 gEv m k l s e = (⟨k, 0, t, [], (rRow C s2 e2).getD [], chg0⟩, false) := by
 unfold gEv sT;rw [if_pos (by omega)]
 simp only [h, hf];rw [if_neg (by omega)]
theorem gEv_del {m : Int} {l : List Tb} {s s2 t : List UInt8} {e e2 : Int} {C : List Col} {K : Int} (h : rTxt m s e = (t, s2, e2)) (hf : findT l t = some (C, K)) :
 gEv m 5 l s e = (⟨5, 0, t, (rRow (C.take K.toNat) s2 e2).getD [], [], chg0⟩, false) := by
 unfold gEv sT;rw [if_pos (by omega)]
 simp only [h, hf];rw [if_pos trivial]
theorem gss_W {ev : Evt} {l : List Tb} (hl : TbsB l) (h : MayI l ev) (hn : EvtN ev) : gss (evW ev) l = (ev, false) := by
 obtain ⟨en, eb, ea⟩ := hn;unfold gss;cases h with
 | ins k t a C K hk hf hfit =>
  obtain ⟨hm, hC, kk, rfl, hkk⟩ := hl.found hf;have hbd := may_bd hm;have hlen := fits_len' hfit;have ht := name_short (findT_name hl hf);have hw : evW ⟨k, 0, t, [], a, chg0⟩ = b8 k :: (txtW t ++ rowW a) := by unfold evW; simp only; rw [if_neg (by omega), if_neg (by omega), if_pos hk]
  have hr := rRow_W hfit (fun e => by rw [e] at hlen; simp at hlen; omega) ea []
  rw [List.append_nil] at hr;have htl := txtW_long t (rowW a);rw [hw, rB_W (by omega), sB_W (by omega)]
  simp only [List.length_cons];rw [gEv_ins hk (rTxt_W (by omega) (by omega) _) hf, hr.1]; rfl
 | del t b C K hf hfit hlen =>
  obtain ⟨hm, hC, kk, rfl, hkk⟩ := hl.found hf;have hbd := may_bd hm;have hlen' : b.length = kk := Int.ofNat_inj.1 hlen;have ht := name_short (findT_name hl hf);have hw : evW ⟨5, 0, t, b, [], chg0⟩ = b8 5 :: (txtW t ++ rowW b) := rfl;have hr := rRow_W (key_fits (k := kk) hkk hfit hlen') (fun e => by rw [e] at hlen'; simp at hlen'; omega) eb []
  rw [List.append_nil] at hr;have htl := txtW_long t (rowW b);rw [hw, rB_W (by omega), sB_W (by omega)]
  simp only [List.length_cons];rw [gEv_del (rTxt_W (by omega) (by omega) _) hf, Int.toNat_natCast, hr.1]; rfl
 | alt c hc =>
  have hw : evW ⟨6, 0, [], [], [], c⟩ = b8 6 :: chgW c := rfl;rw [hw, rB_W (by omega), sB_W (by omega)]
  unfold gEv;simp only [List.length_cons];rw [if_neg (by omega), if_pos trivial, gChg_W hc _ (by omega)]
 | num k n hk h0 =>
  have hk' := numK_is hk;have hw : evW ⟨k, n, [], [], [], chg0⟩ = b8 k :: (numW n ++ []) := by unfold evW; simp only; rw [if_neg (by omega), if_neg (by omega), if_neg (by omega), List.append_nil]
  rw [hw, rB_W (by omega), sB_W (by omega)]
  unfold gEv;simp only;rw [if_neg (by omega), if_neg (by omega), rNum_W h0 en.2]
theorem rTxt_any {m m' : Int} {s : List UInt8} {e : Int} (h : (rTxt m s e).2.2 = 0) (hs : s.length <= 1000000000) (hm : (s.length : Int) <= m') : rTxt m' s e = rTxt m s e := by
 rcases hq : rTxt m s e with ⟨t, r, y⟩
 rw [hq] at h;simp only at h;subst h;obtain ⟨rfl, _, rfl⟩ := rTxt_ok hq;have := txtW_long t r;rw [rTxt_W (by omega) (by omega)]
theorem rTxt_bad {m : Int} {s : List UInt8} {e : Int} (h : (rTxt m s e).2.2 ≠ 0) : (rTxt m s e).1 = [] := by
 unfold rTxt at h ⊢;split
 . rename_i h0; rw [if_pos h0] at h; exact (txtL_err h).1
 . rfl
theorem find_nil {l : List Tb} (hl : TbsB l) : findT l [] = none := by
 cases h : findT l [] with
 | none => rfl
 | some x => exact absurd (findT_name hl (show findT l [] = some (x.1, x.2) from h)) (by decide)
theorem miss_eq {l : List Tb} (hl : TbsB l) {k m : Int} {s : List UInt8} {e : Int} (hs : s.length <= 1000000000) (hm : (s.length : Int) <= m) : (gEv m k l s e).2 = pMiss k l s e := by
 unfold gEv pMiss;split
 rotate_left
 . rename_i hk;have : rowK k = false := by unfold rowK; simp; omega
   rw [this];split <;> rfl
 rename_i hk;have : rowK k = true := by unfold rowK; simp; omega
 rw [this, Bool.true_and];unfold sT;by_cases h0 : (rTxt s.length s e).2.2 = 0
 . have e1 := rTxt_any (m' := m) h0 hs hm;rw [e1, h0];cases hf : findT l (rTxt s.length s e).1 with
   | none => rfl
   | some x => obtain ⟨C, K⟩ := x
               simp only;split <;> rfl
 . have h1 : ¬ (rTxt m s e).2.2 = 0 := fun h1 => h0 (by rw [rTxt_any (m' := s.length) h1 hs (by omega)]; exact h1)
   rw [rTxt_bad h0, rTxt_bad h1, find_nil hl];simp only;rw [decide_eq_false h0, decide_eq_false h1]; rfl
end Go.Proofs.YtcdkklgeepkopaaGreatDoorPg
namespace Go.Proofs.YtcdkklgeepkopaaGreatDoorPg
open Go Go.RowKit
variable {Q : V -> List O -> Prop}
def rdrO (p : Nat) (l : List Tb) (x : Int) : O := .cells [.ptr p 0, .sl 3 (tbs l) false, fI x]
set_option maxHeartbeats 4000000 in
theorem ECol_spec {l : List Tb} {x : Int} {s : List UInt8} {f : Bool} {e : Int} (h : Q (.tup [colA (rC 32 s e).c, .bool (decide ((rC 32 s e).o <= 1))]) [rdrO 1 l x, rdO (rC 32 s e).s f (rC 32 s e).e]) :
 ACall Tryz.prog 132 2 [.ptr 0 0] [rdrO 1 l x, rdO s f e] Q := by
 refine by_body Tryz.func132 2 rfl (nbZ rfl) ?_
 conv => whnf
 refine ⟨[0, 1, 2, 3, 5, 6, 7, 8, 4, 9, 10, 11, 12], by kernel_rfl, by kernel_rfl, ?_⟩
 conv => whnf
 refine .call [1] 1 ⟨rfl, rfl, rfl⟩ (Text_spec ?_);unfold rC RC.c colA at h;simp only at h;generalize (rTxt 32 s e).1 = t1 at *;generalize (rTxt 32 s e).2.1 = s1 at *;generalize (rTxt 32 s e).2.2 = e1 at *
 repeat (conv => whnf
         refine ⟨rfl, ?_⟩)
 conv => whnf
 refine .call [1] 1 ⟨rfl, rfl, rfl⟩ (Byte_spec ?_);generalize (rByt s1 e1).1 = k1 at *;generalize (rByt s1 e1).2.1 = s2 at *;generalize (rByt s1 e1).2.2 = e2 at *
 repeat (conv => whnf
         refine ⟨rfl, ?_⟩)
 conv => whnf
 refine .call [1] 1 ⟨rfl, rfl, rfl⟩ (Byte_spec ?_);generalize (rByt s2 e2).1 = o1 at *;generalize (rByt s2 e2).2.1 = s3 at *;generalize (rByt s2 e2).2.2 = e3 at *
 conv => whnf
 exact ⟨[0, 1], rfl, h⟩
theorem app_c {i j n : Nat} {f : Bool} {X : List Col} {w : Col} {H : List O} {K : V -> List O -> Prop} (hij : Nat.beq i j = false) (hX : getO H i = .buf (cols X)) (hn : n = X.length) (hs : X.length <= 1000000)
 (hK : copyH (setO H i .dead ++ [.buf (cols (X ++ [w]))]) fun H' => K (.ms 3 (setO H i .dead).length 0 (X ++ [w]).length false) H') :
 0 + 1 <= 1 /\ aapp 3 32 (.ms 3 i 0 n false) (.ms 3 j 0 1 f) [[.str w.n, .int .i64 w.k, .bool w.o]] H K := by
 subst hn;refine ⟨Nat.le_refl 1, ?_⟩;have hlk := cols_len X;unfold aapp sameBuf;simp only [hij];unfold aappend;simp only [show Nat.beq 3 3 = true from rfl, hX, List.drop_zero]
 refine ⟨by rw [hlk]; rfl, ?_⟩
 rw [show cols X ++ [[V.str w.n, .int .i64 w.k, .bool w.o]] = cols (X ++ [w]) by rw [cols_app]; rfl]
 unfold newBuf;rw [cols_len];exact ⟨by rw [laZ, List.length_singleton]; omega, hK⟩
set_option maxHeartbeats 8000000 in
theorem ESch_spec {l : List Tb} {x : Int} {s : List UInt8} {f : Bool} {e : Int}
 (h1 : ∀ cs s' e', pCols (rByt (sB s e).1 (sB s e).2).1.toNat [] (sB (sB s e).1 (sB s e).2).1 (sB (sB s e).1 (sB s e).2).2 = some (cs, s', e') -> Q (.tup [sch cs (rByt s e).1, .bool true]) [rdrO 1 l x, rdO s' f e'])
 (h0 : pCols (rByt (sB s e).1 (sB s e).2).1.toNat [] (sB (sB s e).1 (sB s e).2).1 (sB (sB s e).1 (sB s e).2).2 = none -> ∀ s' e', Q (.tup [sch [] 0, .bool false]) [rdrO 1 l x, rdO s' f e']) :
 ACall Tryz.prog 131 2 [.ptr 0 0] [rdrO 1 l x, rdO s f e] Q := by
 refine ACall.ret (by_body Tryz.func131 2 rfl (nbZ rfl) ?_)
 conv => whnf
 refine .call [1] 1 ⟨rfl, rfl, rfl⟩ (Byte_spec ?_);unfold sB at h1 h0;generalize (rByt s e).1 = k1 at *;generalize (rByt s e).2.1 = s1 at *;generalize (rByt s e).2.2 = e1 at *
 conv => whnf
 refine .call [1] 1 ⟨rfl, rfl, rfl⟩ (Byte_spec ?_);have hbd := rByt_bd s1 e1;generalize (rByt s1 e1).1 = n0 at *;generalize (rByt s1 e1).2.1 = s2 at *;generalize (rByt s1 e1).2.2 = e2 at *;obtain ⟨n, rfl⟩ : ∃ n : Nat, n0 = n := ⟨n0.toNat, by omega⟩
 rw [Int.toNat_natCast] at h1 h0
 conv => whnf
 refine ⟨⟨[0, 2, 4, 17, 18], fun mm ws H => ∃ (i : Nat) (acc : List Col) (s' : List UInt8) (e' : Int), ws = [.ptr 0 0, .ptr 2 0, .ptr 3 0, fI n, fI i] /\
  H = [rdrO 1 l x, rdO s' f e', .cells [.nils, fI 0], .cells [.ms 3 4 0 acc.length false, .int .i64 k1], .buf (cols acc)] /\ acc.length = i /\ i <= n /\ pCols (n - i) acc s' e' = pCols n [] s2 e2 /\ mm = n - i,
  .frz (n + 1) (.adopt (.sub _ _ (VSubs.refl _) (.cons (.refl _) (.cons (.refl _) (.cons (.refl _) (.cons (.cells (.cons (VSub.ms0 3 4 0 false) (VSubs.refl _))) (HSub.refl _))))) (.go [0, 1, 2, 3, 4] rfl n (by omega) ⟨0, [], s2, e2, rfl, rfl, rfl, by omega, rfl, rfl⟩))), ?_⟩⟩
 rintro mm ws H ⟨i, acc, s', e', rfl, rfl, hacc, hi, hp, rfl⟩;have hcl := cols_len acc
 conv => whnf
 refine branch_i (fun c1 => ?_) (fun c1 => ?_) <;> try rw [c1] <;> conv => whnf
 rotate_left
 focus
  have c1' := dfZ c1;have hie : i = n := by omega
  rw [hie, Nat.sub_self] at hp;refine ⟨[0, 1, 4], rfl, .frz 2 rfl (by repeat (first | exact trivial | refine And.intro (by rw [hcl, Nat.zero_add]; exact Nat.le_refl _) ?_)) (.done [0, 1] rfl ?_)⟩
  show Q (.tup [.agg [.sl 3 (List.take acc.length (List.drop 0 (cols acc))) false, .int .i64 k1], .bool true]) [rdrO 1 l x, rdO s' f e']
  rw [List.drop_zero, <- hcl, List.take_length];exact h1 acc s' e' hp.symm
 have c1' := dtZ c1;have hni : n - i = (n - (i + 1)) + 1 := by omega
 rw [hni] at hp;simp only [pCols] at hp;refine .call [0, 1] 2 ⟨rfl, rfl, rfl⟩ (ECol_spec ?_);generalize rC 32 s' e' = rc at *
 conv => whnf
 refine branch_i (fun c2 => ?_) (fun c2 => ?_) <;> try rw [c2] <;> conv => whnf
 focus
  have c2' : ¬ rc.o <= 1 := by simpa using c2
  rw [if_pos (.inl (by omega))] at hp
  exact ⟨[0, 1], rfl, .sub _ _ (.tup (.cons (.agg (.cons (nils_sl3 false) (VSubs.refl _))) (VSubs.refl _))) (HSub.refl _) (.done [0, 1] rfl (h0 hp.symm _ _))⟩
 have c2' : rc.o <= 1 := by simpa using c2
 refine .call [1] 1 ⟨rfl, rfl, rfl⟩ (Errno_spec ?_)
 conv => whnf
 refine branch_i (fun c3 => ?_) (fun c3 => ?_) <;> try rw [c3] <;> conv => whnf
 focus
  have c3' : ¬ rc.e = 0 := by simpa using c3
  rw [if_pos (.inr c3')] at hp;exact ⟨[0, 1], rfl, .sub _ _ (.tup (.cons (.agg (.cons (nils_sl3 false) (VSubs.refl _))) (VSubs.refl _))) (HSub.refl _) (.done [0, 1] rfl (h0 hp.symm _ _))⟩
 have c3' : rc.e = 0 := by simpa using c3
 rw [if_neg (by omega)] at hp
 have hn255 := hbd.2;refine app_c (X := acc) (w := rc.c) rfl rfl rfl (by omega) ?_
 conv => whnf
 refine .go [0, 1, 2, 3, 7] rfl (n - (i + 1)) (by omega) ⟨i + 1, acc ++ [rc.c], rc.s, rc.e, ?_, rfl, by rw [laZ, hacc]; rfl, by omega, hp, rfl⟩
 show [V.ptr 0 0, .ptr 2 0, .ptr 3 0, fI n, .int .i64 (IntKind.i64.wrap ((i : Int) + 1))] = _
 rw [wrapL (by omega)]; rfl
theorem ev_subC {v1 v2 v3 v4 v5 v6 v7 : V} {l : List V} : VSubs (v1 :: v2 :: v3 :: v4 :: v5 :: v6 :: v7 :: .nils :: l) (v1 :: v2 :: v3 :: v4 :: v5 :: v6 :: v7 :: .sl 3 (cols []) false :: l) :=
 .cons (.refl _) (.cons (.refl _) (.cons (.refl _) (.cons (.refl _) (.cons (.refl _) (.cons (.refl _) (.cons (.refl _) (.cons (nils_sl3 false) (VSubs.refl _))))))))
theorem ev_subA {v1 v2 v3 v4 : V} {l : List V} : VSubs (v1 :: v2 :: v3 :: v4 :: .nils :: l) (v1 :: v2 :: v3 :: v4 :: .sl 3 (vals []) false :: l) :=
 .cons (.refl _) (.cons (.refl _) (.cons (.refl _) (.cons (.refl _) (.cons (nils_sl3 false) (VSubs.refl _)))))
theorem ev_subB {v1 v2 v3 : V} {l : List V} : VSubs (v1 :: v2 :: v3 :: .nils :: l) (v1 :: v2 :: v3 :: .sl 3 (vals []) false :: l) :=
 .cons (.refl _) (.cons (.refl _) (.cons (.refl _) (.cons (nils_sl3 false) (VSubs.refl _))))
set_option maxHeartbeats 16000000 in
theorem EChg_spec {l : List Tb} {x : Int} {s : List UInt8} {f : Bool} {e : Int} {e0 : Evt}
 (h1 : ∀ c s' e', pChg s e = some (c, s', e') -> Q (.bool true) [rdrO 2 l x, .cells (evC { e0 with ch := c }), rdO s' f e'])
 (h0 : pChg s e = none -> ∀ c s' e', Q (.bool false) [rdrO 2 l x, .cells (evC { e0 with ch := c }), rdO s' f e']) :
 ACall Tryz.prog 101 3 [.ptr 0 0, .ptr 1 0] [rdrO 2 l x, .cells (evC e0), rdO s f e] Q := by
 refine ACall.ret (by_body Tryz.func101 3 rfl (nbZ rfl) ?_)
 conv => whnf
 refine ⟨[0, 1, 2, 3, 5, 6, 7, 8, 4, 9, 10, 11, 12], by kernel_rfl, by kernel_rfl, ?_⟩
 conv => whnf
 refine .call [2] 1 ⟨rfl, rfl, rfl⟩ (Byte_spec ?_);unfold pChg sB sT at h1 h0;generalize (rByt s e).1 = k1 at *;generalize (rByt s e).2.1 = s1 at *;generalize (rByt s e).2.2 = e1 at *
 repeat (conv => whnf
         refine ⟨rfl, ?_⟩)
 conv => whnf
 refine .call [2] 1 ⟨rfl, rfl, rfl⟩ (Text_spec ?_);generalize (rTxt 32 s1 e1).1 = t1 at *;generalize (rTxt 32 s1 e1).2.1 = s2 at *;generalize (rTxt 32 s1 e1).2.2 = e2 at *
 repeat (conv => whnf
         refine ⟨rfl, ?_⟩)
 conv => whnf
 unfold pTail at h1 h0;refine branch_i (fun c1 => ?_) (fun c1 => ?_) <;> try rw [c1] <;> conv => whnf
 focus
  have c1' := dtZ c1;rw [if_pos c1'] at h1 h0;refine .call [0, 2] 2 ⟨rfl, rfl, rfl⟩ (ESch_spec (fun cs s' e' hp => ?_) (fun hp s' e' => ?_))
  . rw [hp] at h1
    conv => whnf
    exact ⟨[0, 1, 2], rfl, .done [0, 1, 2] rfl (h1 _ _ _ rfl)⟩
  . rw [hp] at h0
    conv => whnf
    exact ⟨[0, 1, 2], rfl, .done [0, 1, 2] rfl (h0 rfl ⟨k1, t1, [], 0, col0⟩ _ _)⟩
 have c1' := dfZ c1;rw [if_neg c1'] at h1 h0;refine branch_i (fun c3 => ?_) (fun c3 => ?_) <;> try rw [c3] <;> conv => whnf
 focus
  have c3' := dtZ c3;refine .call [0, 2] 2 ⟨rfl, rfl, rfl⟩ (ECol_spec ?_);rw [if_pos (.inl c3')] at h1 h0;generalize rC 32 s2 e2 = rc at *;unfold colA;cases ho : decide (rc.o <= 1) <;> conv => whnf
  . rw [if_neg (dfZ ho)] at h0;exact ⟨[0, 1, 2], rfl, .sub _ _ (VSub.refl _) (.cons (.refl _) (.cons (.cells ev_subC) (HSub.refl _))) (.done [0, 1, 2] rfl (h0 rfl ⟨k1, t1, [], 0, rc.c⟩ _ _))⟩
  . rw [if_pos (dtZ ho)] at h1;exact ⟨[0, 1, 2], rfl, .sub _ _ (VSub.refl _) (.cons (.refl _) (.cons (.cells ev_subC) (HSub.refl _))) (.done [0, 1, 2] rfl (h1 _ _ _ rfl))⟩
 have c3' := dfZ c3;refine branch_i (fun c5 => ?_) (fun c5 => ?_) <;> try rw [c5] <;> conv => whnf
 focus
  have c5' := dtZ c5;refine .call [0, 2] 2 ⟨rfl, rfl, rfl⟩ (ECol_spec ?_);rw [if_pos (.inr c5')] at h1 h0;generalize rC 32 s2 e2 = rc at *;unfold colA;cases ho : decide (rc.o <= 1) <;> conv => whnf
  . rw [if_neg (dfZ ho)] at h0;exact ⟨[0, 1, 2], rfl, .sub _ _ (VSub.refl _) (.cons (.refl _) (.cons (.cells ev_subC) (HSub.refl _))) (.done [0, 1, 2] rfl (h0 rfl ⟨k1, t1, [], 0, rc.c⟩ _ _))⟩
  . rw [if_pos (dtZ ho)] at h1;exact ⟨[0, 1, 2], rfl, .sub _ _ (VSub.refl _) (.cons (.refl _) (.cons (.cells ev_subC) (HSub.refl _))) (.done [0, 1, 2] rfl (h1 _ _ _ rfl))⟩
 have c5' := dfZ c5;rw [if_neg (by omega)] at h1 h0
 refine branch_i (fun c4 => ?_) (fun c4 => ?_) <;> try rw [c4] <;> conv => whnf
 focus
  have c4' := dtZ c4;rw [if_pos c4'] at h1 h0;unfold sT at h1 h0;have hq := h1 _ _ _ rfl;clear h1 h0;refine .call [2] 1 ⟨rfl, rfl, rfl⟩ (Text_spec ?_);generalize (rTxt 32 s2 e2).1 = t2 at *;generalize (rTxt 32 s2 e2).2.1 = s3 at *;generalize (rTxt 32 s2 e2).2.2 = e3 at *
  conv => whnf
  exact ⟨[0, 1, 2], rfl, .sub _ _ (VSub.refl _) (.cons (.refl _) (.cons (.cells ev_subC) (HSub.refl _))) (.done [0, 1, 2] rfl hq)⟩
 have c4' := dfZ c4;rw [if_neg c4'] at h1 h0;exact ⟨[0, 1, 2], rfl, .sub _ _ (VSub.refl _) (.cons (.refl _) (.cons (.cells ev_subC) (HSub.refl _))) (.done [0, 1, 2] rfl (h1 _ _ _ rfl))⟩
theorem ENum_spec {l : List Tb} {x : Int} {s : List UInt8} {f : Bool} {e : Int} {e0 : Evt}
 (h : Q (.bool true) [rdrO 2 l x, .cells (evC { e0 with n := (rNum s e).1 }), rdO (rNum s e).2.1 f (rNum s e).2.2]) :
 ACall Tryz.prog 103 3 [.ptr 0 0, .ptr 1 0] [rdrO 2 l x, .cells (evC e0), rdO s f e] Q := by
 refine by_body Tryz.func103 3 rfl (nbZ rfl) ?_
 conv => whnf
 refine .call [2] 1 ⟨rfl, rfl, rfl⟩ (Number_spec ?_);generalize (rNum s e).1 = n1 at *;generalize (rNum s e).2.1 = s1 at *;generalize (rNum s e).2.2 = e1 at *
 conv => whnf
 exact ⟨[0, 1, 2], rfl, h⟩
set_option maxHeartbeats 8000000 in
theorem ETab_spec {l : List Tb} {s : List UInt8} {f : Bool} {e : Int} {e0 : Evt} (hl : TbsB l)
 (h : Q (findR (findT l (rTxt s.length s e).1)) [rdrO 2 l (if (findT l (rTxt s.length s e).1).isNone && decide ((sT s.length s e).2 = 0) then 7 else 0), .cells (evC { e0 with t := (rTxt s.length s e).1 }), rdO (sT s.length s e).1 f (sT s.length s e).2]) :
 ACall Tryz.prog 127 3 [.ptr 0 0, .ptr 1 0] [rdrO 2 l 0, .cells (evC e0), rdO s f e] Q := by
 refine by_body Tryz.func127 3 rfl (nbZ rfl) ?_
 conv => whnf
 refine ⟨[0, 1, 2, 3, 4, 5, 6, 7, 8, 9, 10, 11, 12, 13], by kernel_rfl, by kernel_rfl, ?_⟩
 conv => whnf
 refine .call [2] 1 ⟨rfl, rfl, rfl⟩ (Left_spec ?_)
 repeat (conv => whnf
         refine ⟨rfl, ?_⟩)
 conv => whnf
 refine .call [2] 1 ⟨rfl, rfl, rfl⟩ (Text_spec ?_);unfold sT at h;generalize (rTxt s.length s e).1 = t1 at *;generalize (rTxt s.length s e).2.1 = s1 at *;generalize (rTxt s.length s e).2.2 = e1 at *
 repeat (conv => whnf
         refine ⟨rfl, ?_⟩)
 conv => whnf
 refine ⟨[0, 1, 2, 3, 4, 5, 6, 7, 8, 9, 10, 11, 12, 13, 14], by kernel_rfl, by kernel_rfl, ?_⟩
 conv => whnf
 have hc := hl.cols;refine .pure (EvFind_spec (by have := hl.few; omega) hl.ok.sorted (fun x hx => by have := hc x hx; omega) ⟨rfl, ?_⟩)
 unfold findR at h ⊢;cases hf : findT l t1 with
 | none =>
  rw [hf] at h
  repeat (conv => whnf
          refine ⟨rfl, ?_⟩)
  conv => whnf
  refine .call [2] 1 ⟨rfl, rfl, rfl⟩ (Errno_spec ?_)
  conv => whnf
  cases c1 : decide (e1 = 0) <;> rw [c1] at h <;> conv => whnf
  . exact ⟨[0, 1, 2], rfl, h⟩
  . exact ⟨[0, 1, 2], rfl, h⟩
 | some w =>
  obtain ⟨C, K⟩ := w;rw [hf] at h
  repeat (conv => whnf
          refine ⟨rfl, ?_⟩)
  conv => whnf
  refine .call [2] 1 ⟨rfl, rfl, rfl⟩ (Errno_spec ?_)
  conv => whnf
  cases c1 : decide (e1 = 0) <;> rw [c1] at h <;> conv => whnf
  . exact ⟨[0, 1, 2], rfl, h⟩
  . exact ⟨[0, 1, 2], rfl, h⟩
set_option maxHeartbeats 8000000 in
theorem ERow_spec {l : List Tb} {s : List UInt8} {f : Bool} {e : Int} {e0 : Evt} (hl : TbsB l) (hs : s.length <= 1000000000)
 (h1 : ∀ t vs s' e', pRow l s e = some (t, vs, s', e') -> Q (.bool true) [rdrO 2 l 0, .cells (evC { e0 with t := t, a := vs }), rdO s' f e'])
 (h0 : pRow l s e = none -> ∀ ev s' e', Q (.bool false) [rdrO 2 l (if (findT l (rTxt s.length s e).1).isNone && decide ((sT s.length s e).2 = 0) then 7 else 0), .cells (evC ev), rdO s' f e']) :
 ACall Tryz.prog 99 3 [.ptr 0 0, .ptr 1 0] [rdrO 2 l 0, .cells (evC e0), rdO s f e] Q := by
 refine ACall.ret (by_body Tryz.func99 3 rfl (nbZ rfl) ?_)
 conv => whnf
 refine .call [0, 1, 2] 3 ⟨rfl, rfl, rfl⟩ (ETab_spec hl ?_);unfold pRow at h1 h0;have hsl := (rTxt_len s.length s e).1;have hsl2 : (sT s.length s e).1.length <= s.length := hsl;generalize (sT s.length s e).1 = s1 at *;generalize (sT s.length s e).2 = e1 at *;generalize (rTxt s.length s e).1 = t1 at *;unfold findR;cases hf : findT l t1 with
 | none =>
  rw [hf] at h1 h0
  conv => whnf
  exact ⟨[0, 1, 2], rfl, .done [0, 1, 2] rfl (h0 rfl { e0 with t := t1 } s1 e1)⟩
 | some w =>
  obtain ⟨C, K⟩ := w;rw [hf] at h1 h0;simp only [Option.isNone_some, Bool.false_and] at h1 h0;obtain ⟨hm, hC, k, rfl, hk⟩ := hl.found hf;have hb := may_bd hm
  conv => whnf
  refine ⟨List.range 14, by kernel_rfl, by kernel_rfl, ?_⟩
  conv => whnf
  refine .call [2] 1 ⟨rfl, rfl, rfl⟩ (ReadI_spec (C := C) (fun e => by rw [e] at hk; simp at hk; omega) hC (fun c hc => (may_each hm c hc).2) (by omega) (fun vs hr => ?_) (fun hr s' e' => ?_))
  . rw [hr] at h1
    repeat (conv => whnf
            refine ⟨rfl, ?_⟩)
    conv => whnf
    exact ⟨[0, 1, 2], rfl, .done [0, 1, 2] rfl (h1 _ _ _ _ rfl)⟩
  . rw [hr] at h0
    repeat (conv => whnf
            refine ⟨rfl, ?_⟩)
    conv => whnf
    exact ⟨[0, 1, 2], rfl, .sub _ _ (VSub.refl _) (.cons (.refl _) (.cons (.cells ev_subA) (HSub.refl _))) (.done [0, 1, 2] rfl (h0 rfl { e0 with t := t1, a := [] } s' e'))⟩
set_option maxHeartbeats 8000000 in
theorem EKey_spec {l : List Tb} {s : List UInt8} {f : Bool} {e : Int} {e0 : Evt} (hl : TbsB l) (hs : s.length <= 1000000000)
 (h1 : ∀ t vs s' e', pKey l s e = some (t, vs, s', e') -> Q (.bool true) [rdrO 2 l 0, .cells (evC { e0 with t := t, b := vs }), rdO s' f e'])
 (h0 : pKey l s e = none -> ∀ ev s' e', Q (.bool false) [rdrO 2 l (if (findT l (rTxt s.length s e).1).isNone && decide ((sT s.length s e).2 = 0) then 7 else 0), .cells (evC ev), rdO s' f e']) :
 ACall Tryz.prog 100 3 [.ptr 0 0, .ptr 1 0] [rdrO 2 l 0, .cells (evC e0), rdO s f e] Q := by
 refine ACall.ret (by_body Tryz.func100 3 rfl (nbZ rfl) ?_)
 conv => whnf
 refine .call [0, 1, 2] 3 ⟨rfl, rfl, rfl⟩ (ETab_spec hl ?_);unfold pKey at h1 h0;have hsl := (rTxt_len s.length s e).1;have hsl2 : (sT s.length s e).1.length <= s.length := hsl;generalize (sT s.length s e).1 = s1 at *;generalize (sT s.length s e).2 = e1 at *;generalize (rTxt s.length s e).1 = t1 at *;unfold findR;cases hf : findT l t1 with
 | none =>
  rw [hf] at h1 h0
  conv => whnf
  exact ⟨[0, 1, 2], rfl, .done [0, 1, 2] rfl (h0 rfl { e0 with t := t1 } s1 e1)⟩
 | some w =>
  obtain ⟨C, K⟩ := w;rw [hf] at h1 h0;simp only [Option.isNone_some, Bool.false_and] at h1 h0;obtain ⟨hm, hC, k, rfl, hk⟩ := hl.found hf;have hb := may_bd hm
  conv => whnf
  refine ⟨List.range 14, by kernel_rfl, by kernel_rfl, ?_⟩
  conv => whnf
  rw [Int.toNat_natCast] at h1 h0;refine .call [2] 1 ⟨rfl, rfl, rfl⟩ (ReadKeyI_spec (C := C) (k := k) (by omega) hk hC (fun c hc => (may_each hm c hc).2) (by omega) (fun vs hr => ?_) (fun hr s' e' => ?_))
  . rw [hr] at h1
    repeat (conv => whnf
            refine ⟨rfl, ?_⟩)
    conv => whnf
    exact ⟨[0, 1, 2], rfl, .done [0, 1, 2] rfl (h1 _ _ _ _ rfl)⟩
  . rw [hr] at h0
    repeat (conv => whnf
            refine ⟨rfl, ?_⟩)
    conv => whnf
    exact ⟨[0, 1, 2], rfl, .sub _ _ (VSub.refl _) (.cons (.refl _) (.cons (.cells ev_subB) (HSub.refl _))) (.done [0, 1, 2] rfl (h0 rfl { e0 with t := t1, b := [] } s' e'))⟩
end Go.Proofs.YtcdkklgeepkopaaGreatDoorPg
