/- Own texts, laid together: Pg11DCh17, Pg11DCh18. -/
import Derived.Test.YtocjhaahifpnbaaDoorPgM21
/- Points: read out of bytes, by the document. -/
namespace Go.Proofs.YtocjhaahifpnbaaDoorPg
open Go Go.RowKit
set_option linter.unusedSimpArgs false
set_option linter.unusedVariables false

variable {Q : V → List O → Prop}

def rrInv (b : List UInt8) (f : Bool) (a m c : Int) (n : Nat) (W : List Wk × List UInt8 × Int) (k : Nat) (ws : List V) (H : List O) : Prop :=
  ∃ (i : Nat) (acc : List Wk) (s : List UInt8) (e : Int), ws = [.sl 1 (bs b) f, .ptr 0 0, .ptr 1 0, .ptr 2 0, fI n, fI i] ∧ H = [.cells [fI 0, fI 0, fI 0, .nils], rdO s f e, .cells [fI a, fI m, fI c, .ms 3 3 0 acc.length false], .buf (wks acc)] ∧
    worksR b.length (n - i) acc s e = W ∧ RdI b acc s e ∧ i ≤ n ∧ k = n - i

theorem worksR_e {B : Int} {n : Nat} {acc : List Wk} {s : List UInt8} {e : Int} (h : e ≠ 0) : worksR B n acc s e = (acc, s, e) := by
  cases n with
  | zero => rfl
  | succ n => unfold worksR; rw [if_neg h]

set_option maxRecDepth 8000 in
set_option maxHeartbeats 16000000 in
theorem RPRead_spec {b : List UInt8} {f : Bool} (hb : b.length ≤ 900) (h : ∀ r, r = readR mayP b → Q (rdR r) []) : ACall Tryd.prog 28 0 [.sl 1 (bs b) f] [] Q := by
  refine ACall.ret (by_body Tryd.func28 0 rfl (Nat.le_of_ble_eq_true rfl) ?_)
  conv => whnf
  have hbl := bs_len b
  refine .call [1] 1 ⟨rfl, rfl, rfl⟩ (RNumber_spec (s := b) (e := 0) ?_)
  conv => whnf
  refine .call [1] 1 ⟨rfl, rfl, rfl⟩ (RNumber_spec ?_)
  conv => whnf
  refine .call [1] 1 ⟨rfl, rfl, rfl⟩ (RNumber_spec ?_)
  conv => whnf
  refine .call [1] 1 ⟨rfl, rfl, rfl⟩ (RNumber_spec ?_)
  conv => whnf
  have h1e : rNum b 0 = hd1 b := rfl
  rw [h1e]
  have h2e : rNum (hd1 b).2.1 (hd1 b).2.2 = hd2 b := rfl
  rw [h2e]
  have h3e : rNum (hd2 b).2.1 (hd2 b).2.2 = hd3 b := rfl
  rw [h3e]
  have h4e : rNum (hd3 b).2.1 (hd3 b).2.2 = hd4 b := rfl
  rw [h4e]
  unfold readR at h
  have hnn : 0 ≤ (hd4 b).1 := rNum_nonneg _ _
  have hnl : (hd4 b).1 ≤ 9223372036854775807 := rNum_le _ _
  have hr1 : (hd1 b).2.1.length ≤ b.length := rNum_len _ _
  have hr2 : (hd2 b).2.1.length ≤ (hd1 b).2.1.length := rNum_len _ _
  have hr3 : (hd3 b).2.1.length ≤ (hd2 b).2.1.length := rNum_len _ _
  have hr4 : (hd4 b).2.1.length ≤ (hd3 b).2.1.length := rNum_len _ _
  have ia : 0 ≤ (hd1 b).1 ∧ I64V (hd1 b).1 := ⟨rNum_nonneg _ _, by have : 0 ≤ (hd1 b).1 := rNum_nonneg _ _; omega, rNum_le _ _⟩
  have im : 0 ≤ (hd2 b).1 ∧ I64V (hd2 b).1 := ⟨rNum_nonneg _ _, by have : 0 ≤ (hd2 b).1 := rNum_nonneg _ _; omega, rNum_le _ _⟩
  have ic : 0 ≤ (hd3 b).1 ∧ I64V (hd3 b).1 := ⟨rNum_nonneg _ _, by have : 0 ≤ (hd3 b).1 := rNum_nonneg _ _; omega, rNum_le _ _⟩
  clear h1e h2e h3e h4e
  generalize (hd1 b).1 = a at *
  generalize (hd2 b).1 = m at *
  generalize (hd3 b).1 = c at *
  generalize hs4 : hd4 b = N4 at *
  obtain ⟨n4, s4, e4⟩ := N4
  simp only at h hnn hnl hr4 ⊢
  obtain ⟨n4, rfl⟩ : ∃ k : Nat, n4 = (k : Int) := ⟨n4.toNat, by omega⟩
  rw [Int.toNat_natCast] at h
  generalize hW : worksR b.length n4 [] s4 e4 = W at *
  refine ⟨⟨[0, 2, 4, 5, 6, 7], rrInv b f a m c n4 W, .frz (n4 + 1) (.adopt (.sub _ _ (VSubs.refl _) (.cons (.refl _) (.cons (.refl _) (.cons (.cells (.cons (VSub.refl _) (.cons (VSub.refl _) (.cons (VSub.refl _) (.cons (VSub.ms0 3 3 0 false) (VSubs.refl _)))))) (HSub.refl _)))) (.go [0, 1, 2, 3] rfl n4 (by omega) ⟨0, [], s4, e4, rfl, rfl, hW, ⟨by simp, by omega, ?_⟩, by omega, rfl⟩))), ?_⟩⟩
  · simp only [List.length_nil]; split <;> omega
  rintro k ws H ⟨i, acc, s, e, rfl, rfl, hw, hI, hn, rfl⟩
  obtain ⟨hsm, hac⟩ := hI.small hb
  have hlk := wks_len acc
  -- the end of it
  have fin : (i = n4 ∨ e ≠ 0) → W = (acc, s, e) := fun hne => by
    rw [← hw]
    rcases hne with rfl | hne
    · rw [Nat.sub_self]; rfl
    · exact worksR_e hne
  have hcase : (i < n4 ∧ e = 0) ∨ (i = n4 ∨ e ≠ 0) := by
    rcases Nat.lt_or_ge i n4 with h0 | h0
    · by_cases he : e = 0
      · exact .inl ⟨h0, he⟩
      · exact .inr (.inr he)
    · exact .inr (.inl (by omega))
  rcases hcase with ⟨h0, rfl⟩ | hend
  · conv => whnf
    rw [show decide ((i : Int) < (n4 : Int)) = true from decide_eq_true (by omega)]
    conv => whnf
    refine .call [1] 1 ⟨rfl, rfl, rfl⟩ (RText_spec ?_)
    conv => whnf
    refine .call [1] 1 ⟨rfl, rfl, rfl⟩ (RByte_spec ?_)
    conv => whnf
    refine .call [1] 1 ⟨rfl, rfl, rfl⟩ (RText_spec ?_)
    conv => whnf
    obtain ⟨j, hj⟩ : ∃ j, n4 - i = j + 1 := ⟨n4 - i - 1, by omega⟩
    rw [hj, worksR, if_pos rfl] at hw
    have hnext := hI.next (B := b.length)
    rw [bs_len]
    have hwk : workR (b.length : Int) s 0 = (⟨(rTxt (b.length : Int) s 0).1, decide ((rByt (rTxt (b.length : Int) s 0).2.1 (rTxt (b.length : Int) s 0).2.2).1 = 1), (rTxt (b.length : Int) (rByt (rTxt (b.length : Int) s 0).2.1 (rTxt (b.length : Int) s 0).2.2).2.1 (rByt (rTxt (b.length : Int) s 0).2.1 (rTxt (b.length : Int) s 0).2.2).2.2).1⟩,
      (rByt (rTxt (b.length : Int) s 0).2.1 (rTxt (b.length : Int) s 0).2.2).1,
      (rTxt (b.length : Int) (rByt (rTxt (b.length : Int) s 0).2.1 (rTxt (b.length : Int) s 0).2.2).2.1 (rByt (rTxt (b.length : Int) s 0).2.1 (rTxt (b.length : Int) s 0).2.2).2.2).2.1,
      (rTxt (b.length : Int) (rByt (rTxt (b.length : Int) s 0).2.1 (rTxt (b.length : Int) s 0).2.2).2.1 (rByt (rTxt (b.length : Int) s 0).2.1 (rTxt (b.length : Int) s 0).2.2).2.2).2.2) := rfl
    rw [hwk] at hw hnext
    clear hwk
    generalize rTxt (b.length : Int) s 0 = T1 at *
    obtain ⟨x1, s1, e1⟩ := T1
    simp only at hw hnext ⊢
    generalize rByt s1 e1 = T2 at *
    obtain ⟨x2, s2, e2⟩ := T2
    simp only at hw hnext ⊢
    generalize rTxt (b.length : Int) s2 e2 = T3 at *
    obtain ⟨x3, s3, e3⟩ := T3
    simp only at hw hnext ⊢
    refine app_wk (X := acc) (w := ⟨x1, decide (x2 = 1), x3⟩) rfl rfl rfl (by omega) ?_
    conv => whnf
    have hj1 : IntKind.i64.wrap ((i : Int) + 1) = ((i + 1 : Nat) : Int) := by rw [wrapL (by omega)]; omega
    rw [hj1]
    refine .go [0, 1, 2, 6] rfl (n4 - (i + 1)) (by omega) ⟨i + 1, acc ++ [⟨x1, decide (x2 = 1), x3⟩], s3, e3, rfl, rfl, by rw [show n4 - (i + 1) = j by omega]; exact hw, hnext, by omega, rfl⟩
  · have hW2 := fin hend
    rw [hW2] at h
    simp only at h
    rcases hend with rfl | he
    rotate_left
    focus
      conv => whnf
      refine branch_i (fun c1 => ?_) (fun c1 => ?_) <;> try rw [c1] <;> conv => whnf
      focus rw [show decide (e = 0) = false from decide_eq_false he]
    rotate_right
    focus
      conv => whnf
      rw [show decide ((i : Int) < (i : Int)) = false from decide_eq_false (by omega)]
    all_goals
      conv => whnf
      have hfit : wks acc = List.take acc.length (List.drop 0 (wks acc)) := by rw [List.drop_zero, ← hlk, List.take_length]
      refine .frz 3 rfl rfl (by repeat (first | exact trivial | refine And.intro (by rw [hlk, Nat.zero_add]; exact Nat.le_refl _) ?_)) (.pure ?_)
      refine (show ACall _ _ 0 [.agg [fI a, fI m, fI c, .sl 3 (List.take acc.length (List.drop 0 (wks acc))) false]] [] _ from ?_)
      rw [← hfit]
      refine RMayP_spec (a := a) (b := m) (c := c) (by omega) (fun w hw => (hsm w hw).2) ⟨rfl, ?_⟩
      cases hmay : mayP a m c acc <;> conv => whnf
      · refine ⟨[0, 1, 2, 3, 6, 7, 4, 5, 8, 9], by kernel_rfl, by kernel_rfl, ?_⟩
        conv => whnf
        refine ⟨[], rfl, .sub _ _ nil_pt (HSub.refl _) (.done [] rfl (h none ?_))⟩
        rw [if_neg (fun x => by have := x.1; rw [hmay] at this; cases this)]
      · refine ⟨[0, 1, 2, 3, 6, 7, 4, 5, 8, 9], by kernel_rfl, by kernel_rfl, ?_⟩
        conv => whnf
        refine ⟨_, bytesOfEs_bs _, ?_⟩
        conv => whnf
        refine .pure ?_
        refine (show ACall _ _ 0 [.agg [fI a, fI m, fI c, .sl 3 (List.take acc.length (List.drop 0 (wks acc))) false]] [] _ from ?_)
        rw [← hfit]
        refine RPWrite_spec ia im ic (by omega) hsm ⟨rfl, ?_⟩
        repeat (conv => whnf
                first | (refine ⟨rfl, ?_⟩) | (refine ⟨⟨_, bytesOfEs_bs _, rfl⟩, ?_⟩))
        conv => whnf
        refine ⟨_, bytesOfEs_bs _, ?_⟩
        conv => whnf
        by_cases heq : ptW a m c acc = b
        · rw [show decide (ptW a m c acc = b) = true from decide_eq_true heq]
          conv => whnf
          refine ⟨[], rfl, .done [] rfl ?_⟩
          have := h (some (a, m, c, acc)) (by rw [if_pos ⟨hmay, heq⟩])
          show Q (.tup [.agg [fI a, fI m, fI c, .sl 3 (List.take acc.length (List.drop 0 (wks acc))) false], fI 0]) []
          rw [← hfit]; exact this
        · rw [show decide (ptW a m c acc = b) = false from decide_eq_false heq]
          conv => whnf
          refine ⟨[], rfl, .sub _ _ nil_pt (HSub.refl _) (.done [] rfl (h none ?_))⟩
          rw [if_neg (fun x => heq x.2)]

end Go.Proofs.YtocjhaahifpnbaaDoorPg

/- Points: the same? The laws ChunkReads and ChunkPoints. -/
namespace Go.Proofs.YtocjhaahifpnbaaDoorPg
open Go Go.RowKit
set_option linter.unusedSimpArgs false
set_option linter.unusedVariables false

variable {Q : V → List O → Prop}

def swInv (la lb : List Wk) (f g : Bool) (k : Nat) (ws : List V) (H : List O) : Prop :=
  ∃ i : Nat, ws = [.sl 3 (wks la) f, .sl 3 (wks lb) g, fI i] ∧ H = [] ∧ i ≤ la.length ∧ la.take i = lb.take i ∧ k = la.length - i

theorem take_step {la lb : List Wk} {i : Nat} {v w : Wk} (h : la.take i = lb.take i) (hv : la[i]? = some v) (hw : lb[i]? = some w) (e : v = w) : la.take (i + 1) = lb.take (i + 1) := by
  rw [List.take_add_one, List.take_add_one, h, hv, hw, e]

theorem same_end {la lb : List Wk} (hl : la.length = lb.length) (h : la.take la.length = lb.take la.length) : la = lb := by
  rw [List.take_length, hl, List.take_length] at h; exact h

theorem wk_eq' (v w : Wk) : (decide (v.t = w.t) && ((v.d == w.d) && (decide (v.k = w.k) && true))) = decide (v = w) := wk_eq v w

set_option maxHeartbeats 8000000 in
theorem RSameWorks_spec {la lb : List Wk} {f g : Bool} (hl : la.length ≤ 1000000) (h : Q (.bool (decide (la = lb))) []) : ACall Tryd.prog 34 0 [.sl 3 (wks la) f, .sl 3 (wks lb) g] [] Q := by
  refine by_body Tryd.func34 0 rfl (Nat.le_of_ble_eq_true rfl) ?_
  conv => whnf
  rw [wks_len, wks_len]
  by_cases hn : (la.length : Int) = (lb.length : Int)
  rotate_left
  focus
    rw [show decide ((la.length : Int) = (lb.length : Int)) = false from decide_eq_false hn]
    conv => whnf
    rw [decide_eq_false (fun e => hn (by rw [e]))] at h
    exact ⟨[], rfl, h⟩
  rw [show decide ((la.length : Int) = (lb.length : Int)) = true from decide_eq_true hn]
  conv => whnf
  have hnn : la.length = lb.length := by omega
  refine ⟨⟨[0, 1, 5], swInv la lb f g, .at la.length ⟨0, rfl, rfl, Nat.zero_le _, rfl, rfl⟩, ?_⟩⟩
  rintro m ws H ⟨i, rfl, rfl, hi, hs, rfl⟩
  conv => whnf
  rw [wks_len]
  refine branch_i (fun c => ?_) (fun c => ?_) <;> try rw [c] <;> conv => whnf
  rotate_left
  focus
    have c' := of_decide_eq_false c
    have : i = la.length := by omega
    subst this
    rw [decide_eq_true (same_end hnn hs)] at h
    exact ⟨[], rfl, h⟩
  have c' := of_decide_eq_true c
  have hv : la[i]? = some la[i] := List.getElem?_eq_getElem (by omega)
  have hw : lb[i]? = some lb[i] := List.getElem?_eq_getElem (by omega)
  generalize la[i] = v at *
  generalize lb[i] = w at *
  refine ⟨List.range 9, by kernel_rfl, by kernel_rfl, ?_⟩
  conv => whnf
  refine ⟨_, ⟨by omega, wks_get hv⟩, ?_⟩
  conv => whnf
  refine ⟨_, ⟨by omega, wks_get hw⟩, ?_⟩
  conv => whnf
  rw [wk_eq']
  by_cases e : v = w
  · rw [decide_eq_true e]
    conv => whnf
    refine .go [] rfl (la.length - (i + 1)) (by omega) ⟨i + 1, ?_, rfl, by omega, take_step hs hv hw e, rfl⟩
    show [V.sl 3 (wks la) f, V.sl 3 (wks lb) g, V.int .i64 (IntKind.i64.wrap ((i : Int) + 1))] = _
    rw [wrapL (by omega)]; rfl
  · rw [decide_eq_false e]
    conv => whnf
    rw [decide_eq_false (fun x => e (by rw [x, hw] at hv; exact (Option.some.inj hv).symm))] at h
    exact ⟨[], rfl, h⟩

set_option maxHeartbeats 8000000 in
theorem SEqual_spec {la lb : List Wk} {f g : Bool} (hl : la.length ≤ 1000000) (h : Q (.bool (decide (la = lb))) []) : ACall Tryd.prog 58 0 [.sl 3 (wks la) f, .sl 3 (wks lb) g] [] Q := by
  refine by_body Tryd.func58 0 rfl (Nat.le_of_ble_eq_true rfl) ?_
  conv => whnf
  rw [wks_len, wks_len]
  by_cases hn : (la.length : Int) = (lb.length : Int)
  rotate_left
  focus
    rw [show decide ((la.length : Int) = (lb.length : Int)) = false from decide_eq_false hn]
    conv => whnf
    rw [decide_eq_false (fun e => hn (by rw [e]))] at h
    exact ⟨[], rfl, h⟩
  rw [show decide ((la.length : Int) = (lb.length : Int)) = true from decide_eq_true hn]
  conv => whnf
  have hnn : la.length = lb.length := by omega
  rw [wks_len]
  refine ⟨⟨[0, 1, 12, 13], fun m ws H => ∃ i : Nat, ws = [.sl 3 (wks la) f, .sl 3 (wks lb) g, fI la.length, fI i] ∧ H = [] ∧ i ≤ la.length ∧ la.take i = lb.take i ∧ m = la.length - i, .at la.length ⟨0, rfl, rfl, Nat.zero_le _, rfl, rfl⟩, ?_⟩⟩
  rintro m ws H ⟨i, rfl, rfl, hi, hs, rfl⟩
  conv => whnf
  refine branch_i (fun c => ?_) (fun c => ?_) <;> try rw [c] <;> conv => whnf
  rotate_left
  focus
    have c' := of_decide_eq_false c
    have : i = la.length := by omega
    subst this
    rw [decide_eq_true (same_end hnn hs)] at h
    exact ⟨[], rfl, h⟩
  have c' := of_decide_eq_true c
  have hv : la[i]? = some la[i] := List.getElem?_eq_getElem (by omega)
  have hw : lb[i]? = some lb[i] := List.getElem?_eq_getElem (by omega)
  generalize la[i] = v at *
  generalize lb[i] = w at *
  refine ⟨List.range 9, by kernel_rfl, by kernel_rfl, ?_⟩
  conv => whnf
  refine ⟨_, ⟨by omega, wks_get hv⟩, ?_⟩
  conv => whnf
  refine ⟨_, ⟨by omega, wks_get hw⟩, ?_⟩
  conv => whnf
  rw [wk_eq']
  by_cases e : v = w
  · rw [decide_eq_true e]
    conv => whnf
    refine .go [] rfl (la.length - (i + 1)) (by omega) ⟨i + 1, ?_, rfl, by omega, take_step hs hv hw e, rfl⟩
    show [V.sl 3 (wks la) f, V.sl 3 (wks lb) g, fI la.length, V.int .i64 (IntKind.i64.wrap ((i : Int) + 1))] = _
    rw [wrapL (by omega)]; rfl
  · rw [decide_eq_false e]
    conv => whnf
    rw [decide_eq_false (fun x => e (by rw [x, hw] at hv; exact (Option.some.inj hv).symm))] at h
    exact ⟨[], rfl, h⟩

theorem dI (x : Int) : decide (x = x) = true := decide_eq_true rfl

/-- a point and itself -/
theorem RSame_self {a m c : Int} {l : List Wk} (hl : l.length ≤ 1000000) (h : Q (.bool true) []) : ACall Tryd.prog 29 0 [pt a m c l, pt a m c l] [] Q := by
  refine by_body Tryd.func29 0 rfl (Nat.le_of_ble_eq_true rfl) ?_
  conv => whnf
  refine .pure (RSameWorks_spec hl ⟨rfl, ?_⟩)
  rw [decide_eq_true rfl]
  conv => whnf
  rw [dI]
  conv => whnf
  rw [dI]
  conv => whnf
  rw [dI]
  conv => whnf
  exact ⟨[], rfl, h⟩

theorem PSame_self {a m c : Int} {l : List Wk} (hl : l.length ≤ 1000000) (h : Q (.bool true) []) : ACall Tryd.prog 32 0 [pt a m c l, pt a m c l] [] Q := by
  refine by_body Tryd.func32 0 rfl (Nat.le_of_ble_eq_true rfl) ?_
  conv => whnf
  rw [dI]
  conv => whnf
  rw [dI]
  conv => whnf
  rw [dI]
  conv => whnf
  refine .pure (SEqual_spec hl ⟨rfl, ?_⟩)
  rw [decide_eq_true rfl]
  conv => whnf
  exact ⟨[], rfl, h⟩

theorem mayP_pos : ∀ a m c l, mayP a m c l = true → 0 ≤ a ∧ 0 ≤ m ∧ 0 ≤ c := fun a m c l h => by
  unfold mayP at h
  simp only [Bool.and_eq_true, decide_eq_true_eq] at h
  exact ⟨h.1, h.2.1, h.2.2.1⟩

theorem readP_len {b : List UInt8} {a m c : Int} {l : List Wk} (h : readP mayP b = some (a, m, c, l)) : l.length ≤ b.length := by
  obtain ⟨h1, _⟩ := readP_back h
  have := wksW_cnt l
  rw [h1]
  unfold ptW
  simp only [List.length_append]; omega

set_option maxHeartbeats 8000000 in
theorem ChunkReads_spec {b : List UInt8} : ACall Tryd.prog 6 0 [.sl 1 (bs b) false] [] (fun v _ => v = .bool true) := by
  refine by_body Tryd.func6 0 rfl (Nat.le_of_ble_eq_true rfl) ?_
  conv => whnf
  rw [bs_len]
  have tail : ∀ b : List UInt8, b.length ≤ 100 → ∃ r, (r = readP mayP b ∧ r = readR mayP b) ∧ ((∃ a m c l, r = some (a, m, c, l) ∧ l.length ≤ 100) ∨ r = none) := fun b hb => by
    refine ⟨readP mayP b, ⟨rfl, read_eq mayP_pos (by omega)⟩, ?_⟩
    cases hr : readP mayP b with
    | none => exact .inr rfl
    | some x =>
      obtain ⟨a, m, c, l⟩ := x
      exact .inl ⟨a, m, c, l, rfl, by have := readP_len hr; omega⟩
  refine branch_i (fun c => ?_) (fun c => ?_) <;> try rw [c] <;> conv => whnf
  · have c' := of_decide_eq_true c
    refine ⟨⟨by omega, by rw [bs_len]; omega⟩, ?_⟩
    conv => whnf
    rw [bs_take]
    have hB : (List.take (100 : Int).toNat b).length ≤ 100 := by rw [List.length_take]; exact Nat.min_le_left _ _
    generalize List.take (100 : Int).toNat b = B at *
    obtain ⟨r, ⟨hp, hr⟩, hc⟩ := tail _ hB
    refine .pure (PRead_spec (by omega) fun r1 h1 => ⟨rfl, ?_⟩)
    rw [h1, ← hp]
    clear h1 hp
    rcases hc with ⟨a, m, c, l, rfl, hl⟩ | rfl
    · conv => whnf
      refine .pure (RPRead_spec (by omega) fun r2 h2 => ⟨rfl, ?_⟩)
      rw [h2, ← hr]
      conv => whnf
      refine .pure (RSame_self (by omega) ⟨rfl, ?_⟩)
      conv => whnf
      refine .pure (lives11_spec ⟨rfl, ?_⟩)
      conv => whnf
      exact ⟨[], rfl, rfl⟩
    · conv => whnf
      refine .pure (RPRead_spec (by omega) fun r2 h2 => ⟨rfl, ?_⟩)
      rw [h2, ← hr]
      conv => whnf
      refine .pure (RSame_self (l := []) (by simp) ⟨rfl, ?_⟩)
      conv => whnf
      refine .pure (lives11_spec ⟨rfl, ?_⟩)
      conv => whnf
      exact ⟨[], rfl, rfl⟩
  · have c' := of_decide_eq_false c
    have hB : b.length ≤ 100 := by omega
    obtain ⟨r, ⟨hp, hr⟩, hc⟩ := tail _ hB
    refine .pure (PRead_spec (by omega) fun r1 h1 => ⟨rfl, ?_⟩)
    rw [h1, ← hp]
    clear h1 hp
    rcases hc with ⟨a, m, c, l, rfl, hl⟩ | rfl
    · conv => whnf
      refine .pure (RPRead_spec (by omega) fun r2 h2 => ⟨rfl, ?_⟩)
      rw [h2, ← hr]
      conv => whnf
      refine .pure (RSame_self (by omega) ⟨rfl, ?_⟩)
      conv => whnf
      refine .pure (lives11_spec ⟨rfl, ?_⟩)
      conv => whnf
      exact ⟨[], rfl, rfl⟩
    · conv => whnf
      refine .pure (RPRead_spec (by omega) fun r2 h2 => ⟨rfl, ?_⟩)
      rw [h2, ← hr]
      conv => whnf
      refine .pure (RSame_self (l := []) (by simp) ⟨rfl, ?_⟩)
      conv => whnf
      refine .pure (lives11_spec ⟨rfl, ?_⟩)
      conv => whnf
      exact ⟨[], rfl, rfl⟩

theorem wksW_leB {B : Nat} : ∀ {l : List Wk}, (∀ w ∈ l, w.t.length ≤ B ∧ w.k.length ≤ B) → (wksW l).length ≤ (2 * B + 21) * l.length
  | [], _ => by simp [wksW]
  | w :: l, h => by
    have hw := h w (by simp)
    have h1 := txtW_len w.t
    have h3 := txtW_len w.k
    have h2 := wksW_leB (B := B) (l := l) fun x hx => h x (by simp [hx])
    have e : wksW (w :: l) = wkW w ++ wksW l := by simp [wksW]
    have hwk : (wkW w).length ≤ 2 * B + 21 := by
      unfold wkW
      simp only [List.length_append, List.length_cons]; omega
    rw [e, List.length_append, List.length_cons, Nat.mul_add, Nat.mul_one]
    omega

set_option maxRecDepth 8000 in
set_option maxHeartbeats 16000000 in
theorem ChunkPoints_spec {a b c : Int} {l : List Wk} (ha : I64V a) (hb : I64V b) (hc : I64V c) : ACall Tryd.prog 7 0 [pt a b c l] [] (fun v _ => v = .bool true) := by
  refine by_body Tryd.func7 0 rfl (Nat.le_of_ble_eq_true rfl) ?_
  conv => whnf
  refine .pure (few_spec ⟨rfl, ?_⟩)
  conv => whnf
  have ht : ∀ w ∈ fewL l, w.t.length ≤ 40 := fun w hw => (few_t w hw).1
  have hts : SmallW (fewL l) := fun w hw => by have := few_t w hw; constructor <;> omega
  obtain ⟨hok, hg4⟩ := goodW_ok (nm := nameOk) ht
  have hsh := few_short l
  have hfl : (fewL l).length ≤ 6 := fewN_len l 6
  have hmay : mayP (natI a) (natI b) (natI c) (goodW nameOk (fewL l)) = true := by
    unfold mayP
    rw [decide_eq_true (natI_ge ha), decide_eq_true (natI_ge hb), decide_eq_true (natI_ge hc), ok_right hok]; rfl
  have hgt : ∀ w ∈ goodW nameOk (fewL l), w.t.length ≤ 40 ∧ w.k.length ≤ 40 := fun w hw => ⟨(hok.each w hw).tab, (hok.each w hw).short⟩
  generalize hge : goodW nameOk (fewL l) = g at *
  have hgs : SmallW g := fun w hw => by have := hgt w hw; constructor <;> omega
  have natI_bd : ∀ {x : Int}, I64V x → I64V (natI x) := fun {x} h => by
    obtain ⟨h1, h2⟩ := h
    unfold natI
    split
    · rw [wrapI (n := x + 1) (by omega), wrapI (by omega)]; unfold I64V; omega
    · exact ⟨h1, h2⟩
  have hwl := wksW_leB hgt
  have hpl : (ptW (natI a) (natI b) (natI c) g).length ≤ 900 := by
    have h1 := numW_len (natI a)
    have h2 := numW_len (natI b)
    have h3 := numW_len (natI c)
    have h4 := numW_len (g.length : Int)
    unfold ptW
    simp only [List.length_append]; omega
  have hread : readP mayP (ptW (natI a) (natI b) (natI c) g) = some (natI a, natI b, natI c, g) := readP_W ⟨natI_ge ha, (natI_bd ha).2⟩ ⟨natI_ge hb, (natI_bd hb).2⟩ ⟨natI_ge hc, (natI_bd hc).2⟩ (by omega) hmay
  refine .pure (RMayP_spec (a := a) (b := b) (c := c) (by omega) hsh ⟨rfl, ?_⟩)
  conv => whnf
  refine .pure (PWrite_spec ha hb hc (by omega) hts (fun h1 => ⟨rfl, ?_⟩) (fun h0 => ⟨rfl, ?_⟩))
  rotate_left
  focus rw [h0]
  rotate_left
  focus rw [h1]
  all_goals
    conv => whnf
    refine .pure (RPoint_spec (a := a) (b := b) (c := c) ht ⟨rfl, ?_⟩)
    rw [hge]
    conv => whnf
    refine .pure (PWrite_spec (natI_bd ha) (natI_bd hb) (natI_bd hc) (by omega) hgs (fun h2 => ⟨rfl, ?_⟩) (fun h2 => by rw [hmay] at h2; cases h2))
    conv => whnf
    refine .pure (PRead_spec hpl fun r hr => ⟨rfl, ?_⟩)
    rw [hr, hread]
    conv => whnf
    refine ⟨List.range 28, by kernel_rfl, by kernel_rfl, ?_⟩
    conv => whnf
    refine ⟨_, bytesOfEs_bs _, ?_⟩
    conv => whnf
    refine .pure (RPWrite_spec ⟨natI_ge ha, natI_bd ha⟩ ⟨natI_ge hb, natI_bd hb⟩ ⟨natI_ge hc, natI_bd hc⟩ (by omega) hgs ⟨rfl, ?_⟩)
    repeat (conv => whnf
            first | (refine ⟨rfl, ?_⟩) | (refine ⟨⟨_, bytesOfEs_bs _, rfl⟩, ?_⟩))
    conv => whnf
    refine ⟨_, bytesOfEs_bs _, ?_⟩
    conv => whnf
    rw [show ∀ x : List UInt8, decide (x = x) = true from fun x => decide_eq_true rfl]
    conv => whnf
    refine .pure (PSame_self (by omega) ⟨rfl, ?_⟩)
    repeat (conv => whnf
            first | (refine ⟨rfl, ?_⟩) | (refine ⟨⟨_, bytesOfEs_bs _, rfl⟩, ?_⟩))
    conv => whnf
    refine .pure (RSame_self (by omega) ⟨rfl, ?_⟩)
    repeat (conv => whnf
            first | (refine ⟨rfl, ?_⟩) | (refine ⟨⟨_, bytesOfEs_bs _, rfl⟩, ?_⟩))
    conv => whnf
    refine .pure (lives11_spec ⟨rfl, ?_⟩)
    repeat (conv => whnf
            first | (refine ⟨rfl, ?_⟩) | (refine ⟨⟨_, bytesOfEs_bs _, rfl⟩, ?_⟩))
    conv => whnf
    exact ⟨[], rfl, rfl⟩

theorem u8_wf {k : Int} (h : (Lit.int .u8 k).wf = true) : 0 ≤ k ∧ k ≤ 255 := by
  have h' : (decide (IntKind.u8.min ≤ k) && decide (k ≤ IntKind.u8.max)) = true := h
  rw [Bool.and_eq_true] at h'
  exact ⟨of_decide_eq_true h'.1, of_decide_eq_true h'.2⟩

theorem bs_of : ∀ {es : List (List V)}, (∀ x ∈ es, ∃ n : Int, x = [.int .u8 n] ∧ 0 ≤ n ∧ n ≤ 255) → ∃ b : List UInt8, es = bs b
  | [], _ => ⟨[], rfl⟩
  | x :: es, h => by
    obtain ⟨n, rfl, h0, h1⟩ := h x (by simp)
    obtain ⟨b, rfl⟩ := bs_of (es := es) fun y hy => h y (by simp [hy])
    refine ⟨UInt8.ofNat n.toNat :: b, ?_⟩
    have : ((UInt8.ofNat n.toNat).toNat : Int) = n := by rw [ofNat_lt (by omega)]; omega
    show _ = [V.int .u8 ((UInt8.ofNat n.toNat).toNat : Int)] :: bs b
    rw [this]

theorem bytes_in {vs : List V} (h : Shp tt 8 43 vs) : ∃ b : List UInt8, argV tt 43 vs = .sl 1 (bs b) false := by
  obtain ⟨es, _, g1, rfl⟩ := h
  obtain ⟨b, rfl⟩ := bs_of fun x hx => by
    obtain ⟨n, hn, rfl⟩ := g1 x hx
    exact ⟨n, rfl, u8_wf hn⟩
  exact ⟨b, rfl⟩

end Go.Proofs.YtocjhaahifpnbaaDoorPg
