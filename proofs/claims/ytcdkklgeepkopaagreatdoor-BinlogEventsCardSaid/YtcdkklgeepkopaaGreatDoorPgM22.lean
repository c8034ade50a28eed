/- Own texts, laid together: Pg07ZDBlI, Pg07ZDBlJ, Pg07ZDBlK. -/
import Derived.Test.YtcdkklgeepkopaaGreatDoorPgM21
import Derived.Test.YtcdkklgeepkopaaGreatDoorPgM20
import Derived.Test.YtcdkklgeepkopaaGreatDoorPgM15
import Derived.Test.YtcdkklgeepkopaaGreatDoorPgM19
set_option linter.unusedSimpArgs false
set_option linter.unusedVariables false
namespace Go.Proofs.YtcdkklgeepkopaaGreatDoorPg
open Go Go.RowKit
variable {Q : V -> List O -> Prop}
def simE (l : List Tb) (e e2 : Evt) : Prop := mayE e l = 0 -> mayE e2 l = 0 /\ e2.k = e.k /\ e2.n = e.n /\ e2.ch = e.ch
theorem sim_none {l : List Tb} {e e2 : Evt} (hf : findT l e.t = none) (hk : e.k = 3 \/ e.k = 4 \/ e.k = 5) : simE l e e2 := fun hm => by
 have hI := mayE_inv hm;cases hI with
 | ins k t a C K hk2 hf2 hfit => rw [hf2] at hf; cases hf
 | del t b C K hf2 hk2 hlen => rw [hf2] at hf; cases hf
 | alt c hc => simp only at hk; omega
 | num k n hk2 hn => have := numK_is hk2; simp only at hk; omega
theorem sim3 {l : List Tb} {e : Evt} {C : List Col} {K : Int} (hC : ∀ c ∈ C, 1 <= c.k /\ c.k <= 4) (hf : findT l e.t = some (C, K)) (hk : e.k = 3 \/ e.k = 4) : simE l e ⟨e.k, 0, e.t, [], rowL C e.a, chg0⟩ := fun hm => by
 have hI := mayE_inv hm;refine ⟨(MayI.ins e.k e.t (rowL C e.a) C K hk hf (row_fits hC e.a)).e, rfl, ?_⟩;cases hI with
 | ins k t a C K hk2 hf2 hfit => exact ⟨rfl, rfl⟩
 | del t b C K hf2 hk2 hlen => simp only at hk; omega
 | alt c hc => simp only at hk; omega
 | num k n hk2 hn => have := numK_is hk2; simp only at hk; omega
theorem key_take {C : List Col} {k : Nat} {vs : List Val} (h : fitsL C vs = true) (hk : k <= C.length) : keyOkL C k (vs.take k) = true := by
 have hl := fits_len' h;unfold fitsL at h;rw [Bool.and_eq_true, List.all_eq_true] at h;unfold keyOkL;rw [Bool.and_eq_true, List.all_eq_true, decide_eq_true_eq, List.length_take];refine ⟨by omega, fun i hi => ?_⟩
 have hik := List.mem_range.1 hi;have := h.2 i (List.mem_range.2 (by omega))
 unfold stAt at this ⊢;rw [List.getElem?_take, if_pos hik]; exact this
theorem sim5 {l : List Tb} {e : Evt} {C : List Col} {k : Nat} (hC : ∀ c ∈ C, 1 <= c.k /\ c.k <= 4) (hf : findT l e.t = some (C, (k : Int))) (hkC : k <= C.length) (hk : e.k = 5) : simE l e ⟨e.k, 0, e.t, (rowL C e.b).take k, [], chg0⟩ := fun hm => by
 have hI := mayE_inv hm;have hfit := row_fits hC e.b;have h1 := (MayI.del e.t ((rowL C e.b).take k) C (k : Int) hf (by rw [Int.toNat_natCast]; exact key_take hfit hkC) (by rw [List.length_take, rowL_len]; omega)).e
 rw [hk];refine ⟨h1, rfl, ?_⟩;cases hI with
 | ins k t a C K hk2 hf2 hfit => simp only at hk; omega
 | del t b C K hf2 hk2 hlen => exact ⟨rfl, rfl⟩
 | alt c hc => simp only at hk; omega
 | num k n hk2 hn => have := numK_is hk2; simp only at hk; omega
theorem sim6 {l : List Tb} {e : Evt} (hk : e.k = 6) : simE l e ⟨e.k, 0, [], [], [], e.ch⟩ := fun hm => by
 have hI := mayE_inv hm;cases hI with
 | ins k t a C K hk2 hf2 hfit => simp only at hk; omega
 | del t b C K hf2 hk2 hlen => simp only at hk; omega
 | alt c hc => exact ⟨hm, rfl, rfl, rfl⟩
 | num k n hk2 hn => have := numK_is hk2; simp only at hk; omega
theorem simN {l : List Tb} {e : Evt} {m : Int} (hk : ¬ (e.k = 3 \/ e.k = 4 \/ e.k = 5 \/ e.k = 6)) (hm : e.n < 0 \/ m = e.n) : simE l e ⟨e.k, m, [], [], [], chg0⟩ := fun hme => by
 have hI := mayE_inv hme;cases hI with
 | ins k t a C K hk2 hf2 hfit => simp only at hk; omega
 | del t b C K hf2 hk2 hlen => simp at hk
 | alt c hc => simp at hk
 | num k n hk2 hn =>
  simp only at hm;have : m = n := by omega
  subst this;exact ⟨hme, rfl, rfl, rfl⟩
set_option maxHeartbeats 32000000 in
theorem REventS_spec {e : Evt} {l : List Tb} (hl : TbsB l) (he : EvtT e) (hn : EvtN e) (h : ∀ e2, EvtT e2 -> EvtN e2 -> simE l e e2 -> Q (evA e2) []) : ACall Tryz.prog 39 0 [evA e, .sl 3 (tbs l) false] [] Q := by
 refine ACall.ret (by_body Tryz.func39 0 rfl (Nat.le_of_ble_eq_true rfl) ?_)
 conv => whnf
 have hlv := tbs_len l;refine .pure (EvRFind_spec (by have := hl.few; omega) ⟨rfl, ?_⟩)
 unfold findR;rcases hf : findT l e.t with _ | ⟨C, K⟩ <;> conv => whnf
 focus
  refine branch_i (fun a1 => ?_) (fun a1 => ?_) <;> try rw [a1] <;> conv => whnf
  focus
   refine branch_i (fun a2 => ?_) (fun a2 => ?_) <;> try rw [a2] <;> conv => whnf
   focus
    refine branch_i (fun a3 => ?_) (fun a3 => ?_) <;> try rw [a3] <;> conv => whnf
    focus
     have a1' := of_decide_eq_true a1;have hg : l[0]? = some l[0] := List.getElem?_eq_getElem (by omega)
     have hm := (hl.ok.each l[0] (List.getElem_mem (by omega))).sch
     generalize l[0] = w at *;refine ⟨_, ⟨by omega, tbs_get hg⟩, ?_⟩
     conv => whnf
     refine ⟨_, ⟨by omega, tbs_get hg⟩, ?_⟩
     conv => whnf
     have hb := may_bd hm;have hrk : e.k = 3 \/ e.k = 4 \/ e.k = 5 := by have a2' := of_decide_eq_true a2; have a3' := of_decide_eq_true a3; omega
     have s3 : ∀ C : List Col, e.k = 3 \/ e.k = 4 -> simE l e ⟨e.k, 0, w.n, [], rowL C e.a, chg0⟩ := fun C _ => sim_none hf hrk
     have s5 : ∀ (C : List Col) (k : Nat), e.k = 5 -> simE l e ⟨e.k, 0, w.n, (rowL C e.b).take k, [], chg0⟩ := fun C k _ => sim_none hf hrk
     generalize w.c = C at *;generalize w.k = K at *;obtain ⟨k, rfl⟩ : ∃ k : Nat, K = k := ⟨K.toNat, by omega⟩
     have hk : k <= C.length := by omega
     have hC : C.length <= 16 := hb.2.2.2;have s3 := s3 C;have s5 := s5 C k
  rotate_left
  iterate 3
   focus
    refine branch_i (fun k3 => ?_) (fun k3 => ?_) <;> try rw [k3] <;> conv => whnf
    . exact ⟨[], rfl, .sub _ _ (row_sub0 _ _) (HSub.refl _) (.done [] rfl (h _ (evt0 _ _ _) (evn0 _ _ _ i64_0) (sim_none hf (.inl (of_decide_eq_true k3)))))⟩
    refine branch_i (fun k4 => ?_) (fun k4 => ?_) <;> try rw [k4] <;> conv => whnf
    . exact ⟨[], rfl, .sub _ _ (row_sub0 _ _) (HSub.refl _) (.done [] rfl (h _ (evt0 _ _ _) (evn0 _ _ _ i64_0) (sim_none hf (.inr (.inl (of_decide_eq_true k4))))))⟩
    refine branch_i (fun k5 => ?_) (fun k5 => ?_) <;> try rw [k5] <;> conv => whnf
    . exact ⟨[], rfl, .sub _ _ (row_sub0 _ _) (HSub.refl _) (.done [] rfl (h _ (evt0 _ _ _) (evn0 _ _ _ i64_0) (sim_none hf (.inr (.inr (of_decide_eq_true k5))))))⟩
    refine branch_i (fun k6 => ?_) (fun k6 => ?_) <;> try rw [k6] <;> conv => whnf
    . exact ⟨[], rfl, .sub _ _ (may_sub6 _ _ _) (HSub.refl _) (.done [] rfl (h _ (evt6 _ _ he.lc) (evn6 _ _ _ i64_0) (sim6 (of_decide_eq_true k6))))⟩
    have hkk : ¬ (e.k = 3 \/ e.k = 4 \/ e.k = 5 \/ e.k = 6) := by
     have k3' := of_decide_eq_false k3; have k4' := of_decide_eq_false k4; have k5' := of_decide_eq_false k5; have k6' := of_decide_eq_false k6; omega
    refine branch_i (fun k7 => ?_) (fun k7 => ?_) <;> try rw [k7] <;> conv => whnf
    . exact ⟨[], rfl, .sub _ _ (may_subN _ _) (HSub.refl _) (.done [] rfl (h _ (evt0 _ _ _) (evn0 _ _ _ (i64_wrap _)) (simN hkk (.inl (of_decide_eq_true k7)))))⟩
    . exact ⟨[], rfl, .sub _ _ (may_subN _ _) (HSub.refl _) (.done [] rfl (h _ (evt0 _ _ _) (evn0 _ _ _ hn.n) (simN hkk (.inr rfl))))⟩
 rotate_left
 focus
  obtain ⟨hm, hC, k, rfl, hk⟩ := hl.found hf;have hko := kinds_ok (may_ok hm);have s3 : e.k = 3 \/ e.k = 4 -> simE l e ⟨e.k, 0, e.t, [], rowL C e.a, chg0⟩ := fun hx => sim3 hko hf hx
  have s5 : e.k = 5 -> simE l e ⟨e.k, 0, e.t, (rowL C e.b).take k, [], chg0⟩ := fun hx => sim5 hko hf hk hx
 all_goals
  have hki := may_kinds hm;refine branch_i (fun k3 => ?_) (fun k3 => ?_) <;> try rw [k3] <;> conv => whnf
  . refine .pure (Row_spec (l := C) (keys := (k : Int)) (vs := e.a) (by omega) hki ⟨rfl, ?_⟩)
    conv => whnf
    exact ⟨[], rfl, .sub _ _ (row_sub _ _ _) (HSub.refl _) (.done [] rfl (h _ (evt3 _ _ _ hC _) (evn3 _ _ _ _ hn.a) (s3 (.inl (of_decide_eq_true k3)))))⟩
  refine branch_i (fun k4 => ?_) (fun k4 => ?_) <;> try rw [k4] <;> conv => whnf
  . refine .pure (Row_spec (l := C) (keys := (k : Int)) (vs := e.a) (by omega) hki ⟨rfl, ?_⟩)
    conv => whnf
    exact ⟨[], rfl, .sub _ _ (row_sub _ _ _) (HSub.refl _) (.done [] rfl (h _ (evt3 _ _ _ hC _) (evn3 _ _ _ _ hn.a) (s3 (.inr (of_decide_eq_true k4)))))⟩
  refine branch_i (fun k5 => ?_) (fun k5 => ?_) <;> try rw [k5] <;> conv => whnf
  . refine ⟨[0, 1, 2, 4, 5, 3, 6, 7, 8], by kernel_rfl, by kernel_rfl, ?_⟩
    conv => whnf
    refine .pure (Row_spec (l := C) (keys := (k : Int)) (vs := e.b) (by omega) hki ⟨rfl, ?_⟩)
    have hrl : (vals (rowL C e.b)).length = C.length := by rw [vals_len, rowL_len]
    repeat (conv => whnf
            refine ⟨rfl, ?_⟩)
    conv => whnf
    refine ⟨⟨by omega, by omega⟩, ?_⟩
    conv => whnf
    rw [vals_take];exact ⟨[], rfl, .sub _ _ (row_sub5 _ _ _) (HSub.refl _) (.done [] rfl (h _ (evt5 _ _ _ hC _ _) (evn5 _ _ _ _ _ hn.b) (s5 (of_decide_eq_true k5))))⟩
  refine branch_i (fun k6 => ?_) (fun k6 => ?_) <;> try rw [k6] <;> conv => whnf
  . exact ⟨[], rfl, .sub _ _ (may_sub6 _ _ _) (HSub.refl _) (.done [] rfl (h _ (evt6 _ _ he.lc) (evn6 _ _ _ i64_0) (sim6 (of_decide_eq_true k6))))⟩
  have hkk : ¬ (e.k = 3 \/ e.k = 4 \/ e.k = 5 \/ e.k = 6) := by
   have k3' := of_decide_eq_false k3; have k4' := of_decide_eq_false k4; have k5' := of_decide_eq_false k5; have k6' := of_decide_eq_false k6; omega
  refine branch_i (fun k7 => ?_) (fun k7 => ?_) <;> try rw [k7] <;> conv => whnf
  . exact ⟨[], rfl, .sub _ _ (may_subN _ _) (HSub.refl _) (.done [] rfl (h _ (evt0 _ _ _) (evn0 _ _ _ (i64_wrap _)) (simN hkk (.inl (of_decide_eq_true k7)))))⟩
  . exact ⟨[], rfl, .sub _ _ (may_subN _ _) (HSub.refl _) (.done [] rfl (h _ (evt0 _ _ _) (evn0 _ _ _ hn.n) (simN hkk (.inr rfl))))⟩
end Go.Proofs.YtcdkklgeepkopaaGreatDoorPg
namespace Go.Proofs.YtcdkklgeepkopaaGreatDoorPg
open Go Go.RowKit
variable {Q : V -> List O -> Prop}
theorem noU_i (n : Int) : NoU (.int .i64 n) := .int _ _ (by decide)
theorem noU_vals (l : List Val) : NoU (.sl 3 (vals l) false) := .sl _ _ _ fun e he c hc => by
 obtain ⟨v, _, rfl⟩ := List.mem_map.1 he;simp only [valC, colC, List.mem_cons, List.not_mem_nil, or_false] at hc;rcases hc with rfl | rfl | rfl
 . exact noU_i _
 . exact noU_i _
 . exact .str _
theorem noU_cols (l : List Col) : NoU (.sl 3 (cols l) false) := .sl _ _ _ fun e he c hc => by
 obtain ⟨v, _, rfl⟩ := List.mem_map.1 he;simp only [valC, colC, List.mem_cons, List.not_mem_nil, or_false] at hc;rcases hc with rfl | rfl | rfl
 . exact .str _
 . exact noU_i _
 . exact .bool _
theorem noU_tbs (l : List Tb) : NoU (.sl 3 (tbs l) false) := .sl _ _ _ fun e he c hc => by
 obtain ⟨v, _, rfl⟩ := List.mem_map.1 he;simp only [tbC, List.mem_cons, List.not_mem_nil, or_false] at hc;rcases hc with rfl | rfl | rfl
 . exact .str _
 . exact noU_cols _
 . exact noU_i _
theorem noU_ev (e : Evt) : NoU (evA e) := .agg _ fun c hc => by
 simp only [List.mem_cons, List.not_mem_nil, or_false] at hc;rcases hc with rfl | rfl | rfl | rfl | rfl | rfl | rfl | rfl | rfl | rfl | rfl | rfl
 . exact noU_i _
 . exact noU_i _
 . exact .str _
 . exact noU_vals _
 . exact noU_vals _
 . exact noU_i _
 . exact .str _
 . exact noU_cols _
 . exact noU_i _
 . exact .str _
 . exact noU_i _
 . exact .bool _
theorem noU_st (r : Evt × Sc × Int) : NoU (stR r) := .tup _ fun c hc => by
 simp only [List.mem_cons, List.not_mem_nil, or_false] at hc;rcases hc with rfl | rfl | rfl
 . exact noU_ev _
 . refine .agg _ fun c hc => ?_
   simp only [List.mem_cons, List.not_mem_nil, or_false] at hc;rcases hc with rfl | rfl | rfl | rfl
   . exact noU_i _
   . exact noU_tbs _
   . exact noU_tbs _
   . exact noU_i _
 . exact noU_i _
theorem R7StepM_spec {b : List UInt8} {n : Nat} {f : Bool} {s : Sc} (hn : n = b.length) (hb : b.length <= 900000000) (hs : ScOk s) (h : Q (stR (stepS b s)) [.buf (bs b)]) :
 ACall Tryz.prog 19 1 [.ms 1 0 0 n f, scA s] [.buf (bs b)] Q := by
 refine ACall.borrow (by rw [bs_len]; exact hn) (fun r hr => ?_) (fun v hv => ?_) (R7Step_spec hb hs ⟨rfl, noU_st _, h⟩)
 . obtain ⟨x, _, rfl⟩ := List.mem_map.1 hr;exact ⟨_, rfl⟩
 . simp only [List.mem_singleton] at hv;subst hv;exact ClosedV.agg rfl
structure LogOk (b : List UInt8) (es : List Evt) (s : Sc) : Prop where
 len : 7 <= b.length
 st : b.take 7 = start
 run : Run b sc0 es s
 pos : s.a = (b.length : Int)
 sz : b.length <= 7 + 1000020 * es.length
 few : es.length <= 40
theorem LogOk.nil : LogOk start [] sc0 := ⟨by rw [start_len]; omega, by rw [<- start_len, List.take_length], .nil _, by rw [start_len]; rfl, by rw [start_len]; omega, by simp⟩
theorem LogOk.le {b : List UInt8} {es : List Evt} {s : Sc} (h : LogOk b es s) : b.length <= 50000000 := by have := h.sz; have := h.few; omega
theorem LogOk.snoc {b : List UInt8} {es : List Evt} {s : Sc} {w : List UInt8} (h : LogOk b es s) (hw : w.length <= 1000000) (he : es.length < 40) (h0 : (stepS (b ++ frm w) s).2.2 = 0) :
 LogOk (b ++ frm w) (es ++ [(stepS (b ++ frm w) s).1]) (stepS (b ++ frm w) s).2.1 := by
 have hfl := frm_len w;have hnl := numW_len' (w.length : Int);have hsz := h.sz;have hle := h.le;refine ⟨by rw [List.length_append]; have := h.len; omega, by rw [List.take_append_of_le_length h.len]; exact h.st, (h.run.more _ (by omega)).snoc h0, ?_, by rw [List.length_append, List.length_append, List.length_singleton]; omega, by rw [List.length_append, List.length_singleton]; omega⟩
 obtain ⟨x, n, g1, g2, g3, g4, g5⟩ := stepS_ok h0;have hn : nxtL (b ++ frm w) s.a = (w, ((b ++ frm w).length : Int), 0) := by
  rw [h.pos, nxtL_frm (x := w) (r := []) (by omega) (by rw [List.drop_left, List.append_nil])]
  simp
 rw [hn] at g1;cases g1;rw [g5];exact (takeX_ok (h.run.ok sc0_ok).1 g3 g4).2
set_option maxHeartbeats 16000000 in
theorem R7Log_spec {l : List Evt} {f : Bool} (hl : ∀ e ∈ l, EvtT e /\ EvtN e) (hll : l.length <= 9223372036854775807) (R : Nat -> List UInt8 -> List Evt -> Sc -> Prop) (h0 : R 0 start [] sc0)
 (hstep : ∀ i e b es s e', l[i]? = some e -> i < 40 -> R i b es s -> LogOk b es s -> EvtT e' -> EvtN e' -> simE s.h e e' ->
  (mayE e' s.h ≠ 0 -> R (i + 1) b es s) /\ (mayE e' s.h = 0 -> (stepS (b ++ frm (evW e')) s).2.2 ≠ 0 -> R (i + 1) b es s) /\
  (mayE e' s.h = 0 -> (stepS (b ++ frm (evW e')) s).2.2 = 0 -> R (i + 1) (b ++ frm (evW e')) (es ++ [(stepS (b ++ frm (evW e')) s).1]) (stepS (b ++ frm (evW e')) s).2.1))
 (h : ∀ b es s, LogOk b es s -> R (min l.length 40) b es s -> Q (.ms 1 0 0 b.length false) [.buf (bs b)]) : ACall Tryz.prog 15 0 [.sl 12 (evs l) f] [] Q := by
 refine by_body Tryz.func15 0 rfl (Nat.le_of_ble_eq_true rfl) ?_;have hel := evs_len l
 conv => whnf
 refine .call [] 0 ⟨rfl, rfl, rfl⟩ (R7New_spec ?_);have hnil := LogOk.nil;have hst7 := start_len;generalize start = st at *
 conv => whnf
 refine ⟨⟨[0, 3, 4, 5], fun mm ws H => ∃ (i : Nat) (b : List UInt8) (es : List Evt) (s : Sc), ws = [.sl 12 (evs l) f, .ms 1 0 0 b.length false, .ptr 1 0, fI i] /\ H = [.buf (bs b), .cells [fI s.a, .sl 3 (tbs s.l) false, .sl 3 (tbs s.h) false, fI s.x]] /\
  LogOk b es s /\ R i b es s /\ es.length <= i /\ i <= min l.length 40 /\ mm = l.length - i, ?_, ?_⟩⟩
 . refine .frz (l.length + 1) (.sub _ [.buf (bs st), .cells [fI 7, .sl 3 (tbs []) false, .sl 3 (tbs []) false, fI (-1)]] (VSubs.refl _) ?_ (.go [0, 1] rfl l.length (by omega) ⟨0, st, [], sc0, rfl, rfl, hnil, h0, by simp, by omega, rfl⟩))
   rw [hst7];exact .cons (.refl _) (.cons (.cells (.cons (.refl _) (.cons (nils_sl3 false) (.cons (nils_sl3 false) (VSubs.refl _))))) (HSub.refl _))
 rintro mm ws H ⟨i, b, es, s, rfl, rfl, hok, hR, hei, hi, rfl⟩;have hle := hok.le
 conv => whnf
 have fin : i = min l.length 40 -> ∃ sel, selOk sel 2 0 = true /\ Q (renV (idx sel) (.ms 1 0 0 b.length false)) (gather (idx sel) [.buf (bs b), .cells [fI s.a, .sl 3 (tbs s.l) false, .sl 3 (tbs s.h) false, fI s.x]] sel) := fun e => ⟨[0], rfl, h b es s hok (e ▸ hR)⟩
 refine branch_i (fun c1 => ?_) (fun c1 => ?_) <;> try rw [c1] <;> conv => whnf
 rotate_left
 focus
  have c1' := of_decide_eq_false c1;exact fin (by omega)
 have c1' := of_decide_eq_true c1;refine branch_i (fun c2 => ?_) (fun c2 => ?_) <;> try rw [c2] <;> conv => whnf
 rotate_left
 focus
  have c2' := of_decide_eq_false c2;exact fin (by omega)
 have c2' := of_decide_eq_true c2;have hil : i < l.length := by omega
 have hg : l[i]? = some l[i] := List.getElem?_eq_getElem hil;have hme := hl l[i] (List.getElem_mem hil);generalize l[i] = e at *;have hsok := (hok.run.ok sc0_ok).1;refine ⟨List.range 9, by kernel_rfl, by kernel_rfl, ?_⟩
 conv => whnf
 refine ⟨_, ⟨by omega, evs_get hg⟩, ?_⟩
 conv => whnf
 refine .pure (REventS_spec (e := e) (l := s.h) hsok.h hme.1 hme.2 fun e' he1 he2 he3 => ⟨rfl, ?_⟩)
 obtain ⟨r1, r2, r3⟩ := hstep i e b es s e' hg (by omega) hR hok he1 he2 he3
 repeat (conv => whnf
         refine ⟨rfl, ?_⟩)
 conv => whnf
 refine .pure (EvRMay_spec (e := e') (l := s.h) hsok.h he1 ⟨rfl, ?_⟩);have hwl := fun hm : mayE e' s.h = 0 => evW_len hsok.h (mayE_inv hm) he2
 have hwr := fun (hm : mayE e' s.h = 0) {Q : V -> List O -> Prop} (h : Q (.sl 1 (bs (evW e')) false) []) => R6Write_spec (Q := Q) hsok.h he2 hm h
 have nxt : IntKind.i64.wrap ((i : Int) + 1) = ((i + 1 : Nat) : Int) := by rw [wrapL (by omega)]; rfl
 generalize mayE e' s.h = me at *
 conv => whnf
 refine branch_i (fun c3 => ?_) (fun c3 => ?_) <;> try rw [c3] <;> conv => whnf
 . have c3' : me ≠ 0 := by simpa using c3
   refine .go [0, 1] rfl (l.length - (i + 1)) (by omega) ⟨i + 1, b, es, s, ?_, rfl, hok, r1 c3', by omega, by omega, rfl⟩
   show [V.sl 12 (evs l) f, V.ms 1 0 0 b.length false, V.ptr 1 0, V.int .i64 (IntKind.i64.wrap ((i : Int) + 1))] = _
   rw [nxt]
 have c3' : me = 0 := by simpa using c3
 have r2 := r2 c3';have r3 := r3 c3';have hwl := hwl c3';have hsn := hok.snoc hwl (by omega)
 refine app_nilms (X := b) (j := 0) rfl (by omega) ?_
 conv => whnf
 refine .pure (hwr c3' ⟨rfl, ?_⟩);generalize evW e' = w at *;have hfl := frm_len w;have hnl := numW_len' (w.length : Int)
 conv => whnf
 refine .call [] 0 ⟨rfl, rfl, rfl⟩ (R7Frame_spec (body := w) (by omega) ?_)
 generalize frm w = F at *
 conv => whnf
 refine app_bs (i := 3) (j := 4) (X := b) (Y := F) rfl rfl rfl rfl rfl (by omega) ?_
 have hBl : (b ++ F).length = b.length + F.length := List.length_append;generalize b ++ F = B at *
 conv => whnf
 refine .call [5] 1 ⟨rfl, rfl, rfl⟩ (R7StepM_spec (b := B) (s := s) rfl (by omega) hsok ?_)
 generalize stepS B s = R1 at *;obtain ⟨ev, s', g⟩ := R1;simp only at r2 r3 hsn
 conv => whnf
 refine branch_i (fun c4 => ?_) (fun c4 => ?_) <;> try rw [c4] <;> conv => whnf
 . have c4' : g = 0 := of_decide_eq_true c4;refine .go [5, 1] rfl (l.length - (i + 1)) (by omega) ⟨i + 1, B, es ++ [ev], s', ?_, rfl, hsn c4', r3 c4', by rw [List.length_append, List.length_singleton]; omega, by omega, rfl⟩
   show [V.sl 12 (evs l) f, V.ms 1 0 0 B.length false, V.ptr 1 0, V.int .i64 (IntKind.i64.wrap ((i : Int) + 1))] = _
   rw [nxt]
 . have c4' : g ≠ 0 := of_decide_eq_false c4;refine .go [0, 1] rfl (l.length - (i + 1)) (by omega) ⟨i + 1, b, es, s, ?_, rfl, hok, r2 c4', by omega, by omega, rfl⟩
   show [V.sl 12 (evs l) f, V.ms 1 0 0 b.length false, V.ptr 1 0, V.int .i64 (IntKind.i64.wrap ((i : Int) + 1))] = _
   rw [nxt]
end Go.Proofs.YtcdkklgeepkopaaGreatDoorPg
namespace Go.Proofs.YtcdkklgeepkopaaGreatDoorPg
open Go Go.RowKit
variable {Q : V -> List O -> Prop}
theorem evs_of : ∀ {es : List (List V)}, (∀ x ∈ es, ∃ e : Evt, x = evC e /\ EvtT e /\ EvtN e) -> ∃ l : List Evt, es = evs l /\ ∀ e ∈ l, EvtT e /\ EvtN e
 | [], _ => ⟨[], rfl, by simp⟩
 | x :: es, h => by
  obtain ⟨e, rfl, he⟩ := h x (by simp)
  obtain ⟨l, rfl, hl⟩ := evs_of (es := es) fun y hy => h y (by simp [hy])
  refine ⟨e :: l, rfl, fun v hv => ?_⟩
  rcases List.mem_cons.1 hv with rfl | hv
  . exact he
  . exact hl v hv
theorem texts_in {l : List Val} (h : ∀ v ∈ l, ValIn v) : TextsOk l := fun v hv => Nat.lt_of_le_of_lt (h v hv).t (by decide)
theorem ev_cells {vs : List V} (h : Shp tt 8 49 vs) : ∃ e : Evt, vs = evC e /\ EvtT e /\ EvtN e := by
 obtain ⟨_, _, ⟨k, hk, rfl⟩, ⟨_, _, ⟨n, hn, rfl⟩, ⟨_, _, ⟨t, _, rfl⟩, ⟨_, _, ⟨eb, heb, gb, rfl⟩, ⟨_, _, ⟨ea, hea, ga, rfl⟩, ⟨_, _, hch, rfl, rfl⟩, rfl⟩, rfl⟩, rfl⟩, rfl⟩, rfl⟩ := h;obtain ⟨_, _, ⟨ck, hck, rfl⟩, ⟨_, _, ⟨ct, _, rfl⟩, ⟨_, _, ⟨_, _, ⟨es, hes, g1, rfl⟩, ⟨_, _, ⟨ks, hks, rfl⟩, rfl, rfl⟩, rfl⟩, ⟨_, _, ⟨_, _, ⟨cn, _, rfl⟩, ⟨_, _, ⟨cck, hcck, rfl⟩, ⟨_, _, ⟨o, rfl⟩, rfl, rfl⟩, rfl⟩, rfl⟩, rfl, rfl⟩, rfl⟩, rfl⟩, rfl⟩ := hch;obtain ⟨l, rfl, hl⟩ := cols_of fun x hx => by
  obtain ⟨_, _, ⟨s, _, rfl⟩, ⟨_, _, ⟨k, hk, rfl⟩, ⟨_, _, ⟨o, rfl⟩, rfl, rfl⟩, rfl⟩, rfl⟩ := g1 x hx;exact ⟨s, k, o, rfl, i64_wf hk⟩
 obtain ⟨lb, rfl, hlb⟩ := evals_of fun x hx => by
  obtain ⟨_, _, ⟨k, hk, rfl⟩, ⟨_, _, ⟨n, hn, rfl⟩, ⟨_, _, ⟨s, hs, rfl⟩, rfl, rfl⟩, rfl⟩, rfl⟩ := gb x hx;exact ⟨k, n, s, rfl, i64_wf hk, i64_wf hn, hs⟩
 obtain ⟨la, rfl, hla⟩ := evals_of fun x hx => by
  obtain ⟨_, _, ⟨k, hk, rfl⟩, ⟨_, _, ⟨n, hn, rfl⟩, ⟨_, _, ⟨s, hs, rfl⟩, rfl, rfl⟩, rfl⟩, rfl⟩ := ga x hx;exact ⟨k, n, s, rfl, i64_wf hk, i64_wf hn, hs⟩
 rw [vals_len] at heb hea;rw [cols_len] at hes;have hmx : maxLen < 9223372036854775808 := by decide
 exact ⟨⟨k, n, t, lb, la, ⟨ck, ct, l, ks, ⟨cn, cck, o⟩⟩⟩, rfl, ⟨texts_in hlb, texts_in hla, Nat.lt_of_le_of_lt heb hmx, Nat.lt_of_le_of_lt hea hmx, Nat.lt_of_le_of_lt hes hmx⟩, ⟨i64_wf hn, fun v hv => (hlb v hv).n, fun v hv => (hla v hv).n⟩⟩
theorem evs_in {vs : List V} (h : Shp tt 8 31 vs) : ∃ l : List Evt, argV tt 31 vs = .sl 12 (evs l) false /\ l.length <= 9223372036854775807 /\ ∀ e ∈ l, EvtT e /\ EvtN e := by
 obtain ⟨es, hes, g1, rfl⟩ := h;obtain ⟨l, rfl, hl⟩ := evs_of fun x hx => ev_cells (g1 x hx)
 rw [evs_len] at hes;exact ⟨l, rfl, hes, hl⟩
theorem run_T {b : List UInt8} {s s2 : Sc} {es : List Evt} (hb : b.length <= 900000000) (h : Run b s es s2) (hs : ScOk s) : ∀ e ∈ es, EvtT e := by
 induction h with
 | nil s => exact fun e h => by cases h
 | cons h t ih =>
  have h2 := (stepS_inv hs h).1;obtain ⟨w, n, g1, g2, g3, g4, g5⟩ := stepS_ok h;intro e he;rcases List.mem_cons.1 he with rfl | he
  . rw [g5];obtain ⟨k1, r, k2, k3, k4, k5⟩ := nxtL_ok g1;refine prdR_T hs.h ?_;have := congrArg List.length k2;rw [List.length_drop, List.length_append] at this;have hf := frm_len w;omega
  . exact ih h2 e he
theorem evS_T : EvtT evS := ⟨textsOk_nil, textsOk_nil, by decide, by decide, by decide⟩
theorem evsL_T {b : List UInt8} (hb : b.length <= 900000000) : (evsL b).1.length <= 900000002 /\ ∀ e ∈ (evsL b).1, EvtT e := by
 unfold evsL;split
 . exact ⟨by simp, fun e h => by cases h⟩
 . rename_i hc;rw [not_or] at hc;obtain ⟨w1, w2, w3⟩ := wayE_run (b := b) (b.length + 1) sc0_ok (by show (b.length : Int) - 7 < _; omega) (by decide) (by show (7 : Int) <= _; omega)
   have hle := w1.le sc0_ok (by show (7 : Int) <= _; omega)
   have hl := (w1.ok sc0_ok).2;have hl : (7 : Int) + _ <= _ := hl;refine ⟨by simp only [List.length_cons]; omega, fun e he => ?_⟩
   rcases List.mem_cons.1 he with rfl | he
   . exact evS_T
   . exact run_T hb w1 sc0_ok e he
set_option maxHeartbeats 4000000 in
theorem R7Same_spec {l : List Evt} {f g : Bool} (hl : l.length <= 1000000000) (ht : ∀ e ∈ l, EvtT e) (h : Q (.bool true) []) : ACall Tryz.prog 27 0 [.sl 12 (evs l) f, .sl 12 (evs l) g] [] Q := by
 refine by_body Tryz.func27 0 rfl (Nat.le_of_ble_eq_true rfl) ?_;have hel := evs_len l
 conv => whnf
 rw [decide_eq_true (rfl : (((evs l).length : Int)) = ((evs l).length : Int))]
 conv => whnf
 refine ⟨⟨[0, 1, 5], fun mm ws H => ∃ i : Nat, ws = [.sl 12 (evs l) f, .sl 12 (evs l) g, fI i] /\ H = [] /\ i <= l.length /\ mm = l.length - i, .at l.length ⟨0, rfl, rfl, by omega, rfl⟩, ?_⟩⟩
 rintro mm ws H ⟨i, rfl, rfl, hi, rfl⟩
 conv => whnf
 refine branch_i (fun c1 => ?_) (fun c1 => ?_) <;> try rw [c1] <;> conv => whnf
 rotate_left
 . exact ⟨[], rfl, h⟩
 have c1' := of_decide_eq_true c1;have hil : i < l.length := by omega
 have hg : l[i]? = some l[i] := List.getElem?_eq_getElem hil;have hT := ht l[i] (List.getElem_mem hil);generalize l[i] = e at *;refine ⟨List.range 10, by kernel_rfl, by kernel_rfl, ?_⟩
 conv => whnf
 refine ⟨_, ⟨by omega, evs_get hg⟩, ?_⟩
 conv => whnf
 refine ⟨_, ⟨by omega, evs_get hg⟩, ?_⟩
 conv => whnf
 refine .pure (EvRSame_spec (a := e) (b := e) hT.lb hT.la hT.lc ⟨rfl, ?_⟩);rw [decide_eq_true (rfl : e = e)]
 repeat (conv => whnf
         refine ⟨rfl, ?_⟩)
 conv => whnf
 refine .go [] rfl (l.length - (i + 1)) (by omega) ⟨i + 1, ?_, rfl, by omega, rfl⟩
 show [V.sl 12 (evs l) f, V.sl 12 (evs l) g, V.int .i64 (IntKind.i64.wrap ((i : Int) + 1))] = _
 rw [wrapL (by omega)]; rfl
set_option maxHeartbeats 8000000 in
theorem BinlogEvents_spec {l : List Evt} {more : List UInt8} {cut : Int} {f1 f2 : Bool} (hl : ∀ e ∈ l, EvtT e /\ EvtN e) (hll : l.length <= 9223372036854775807) (hc : I64 cut) : ACall Tryz.prog 5 0 [.sl 12 (evs l) f1, .sl 1 (bs more) f2, fI cut] [] (fun v _ => v = .bool true) := by
 refine by_body Tryz.func5 0 rfl (Nat.le_of_ble_eq_true rfl) ?_
 conv => whnf
 refine .pure (few07_spec (b := more) (m := 100) fun g1 => ⟨rfl, ?_⟩)
 have hm := List.length_take_le 100 more;generalize more.take 100 = more at *
 conv => whnf
 refine .call [] 0 ⟨rfl, rfl, rfl⟩ (R7Log_spec hl hll (fun _ _ _ _ => True) trivial (fun _ _ _ _ _ _ _ _ _ _ _ _ _ => ⟨fun _ => trivial, fun _ _ => trivial, fun _ _ => trivial⟩) fun b es s hok _ => ?_)
 have hle := hok.le;have hlb := bs_len b
 conv => whnf
 refine branch_i (fun c4 => ?_) (fun c4 => ?_) <;> try rw [c4] <;> conv => whnf
 all_goals
  obtain ⟨A, hA⟩ := abs_i hc
  first
   | (have c4' := of_decide_eq_true c4
      have hA' : IntKind.i64.wrap (0 - IntKind.i64.wrap (cut + 1)) = (A : Int) := hA.resolve_right (fun h => h c4')
      rw [hA'];clear hA hA' c4 c4')
   | (have c4' := of_decide_eq_false c4
      clear hA;obtain ⟨A, rfl⟩ : ∃ A : Nat, cut = A := ⟨cut.toNat, by omega⟩
      clear c4 c4')
  refine app_nilms (X := b) (j := 0) rfl (by omega) ?_
  conv => whnf
  refine .pure (few07_spec (b := more) (m := 40) fun g2 => ⟨rfl, ?_⟩)
  have hm2 := List.length_take_le 40 more;generalize more.take 40 = m2 at *;have hlm2 := bs_len m2
  conv => whnf
  refine ⟨by omega, (show (List.drop 0 (bs b) ++ bs m2).length * 1 <= 70368744177664 by rw [List.drop_zero, List.length_append]; omega), ?_⟩
  refine copyH_of (congrArg (fun z => [O.buf (bs b), O.dead, O.buf z]) (show List.drop 0 (bs b) ++ bs m2 = bs (b ++ m2) by rw [List.drop_zero, bs_app])) ?_
  conv => whnf
  have e1 : IntKind.i64.wrap ((b.length : Int) + 1) = ((b.length + 1 : Nat) : Int) := by rw [wrapL (by omega)]; omega
  rw [e1];refine ⟨by omega, ?_⟩
  have e2 : Int.tmod (A : Int) ((b.length + 1 : Nat) : Int) = ((A % (b.length + 1) : Nat) : Int) := rfl;have hjl : A % (b.length + 1) <= b.length := by have := Nat.mod_lt A (show 0 < b.length + 1 by omega); omega
  rw [e2];generalize A % (b.length + 1) = j at *
  conv => whnf
  have e3 : IntKind.i64.wrap ((b.length : Int) - (j : Int)) = ((b.length - j : Nat) : Int) := by rw [wrapL (by omega)]; omega
  rw [e3];have hk : b.length - j <= b.length := by omega
  generalize b.length - j = k at *;refine ⟨⟨by omega, by omega⟩, ?_⟩
  conv => whnf
  refine ⟨⟨rfl, by repeat (first | exact trivial | refine And.intro (by omega) ?_)⟩, ?_⟩
  conv => whnf
  have hB : (bs (b ++ m2)).length = b.length + m2.length := by rw [bs_len, List.length_append]
  have hD : (List.drop 0 (bs b) ++ bs m2).length = b.length + m2.length := by rw [List.drop_zero, List.length_append]; omega
  refine ⟨⟨rfl, by repeat (first | exact trivial | refine And.intro (by omega) ?_)⟩, ?_⟩
  conv => whnf
  have hT : ∀ (z : List UInt8) (n : Nat), List.take n (List.drop 0 (bs z)) = bs (z.take n) := fun z n => by rw [List.drop_zero]; exact List.map_take.symm
  have hrows : ∀ i < 4, ∃ x f, ([[.sl 1 (bs b) false], [.sl 1 (bs (b ++ m2)) false], [.sl 1 (bs (b.take k)) false], [.sl 1 (bs more) g1]] : List (List V))[i]? = some [.sl 1 (bs x) f] /\ x.length <= 900000000 := fun i hi => by
   have h2 : (b ++ m2).length = b.length + m2.length := List.length_append;have h3 := List.length_take_le k b
   match i, hi with
   | 0, _ => exact ⟨_, _, rfl, by omega⟩
   | 1, _ => exact ⟨_, _, rfl, by omega⟩
   | 2, _ => exact ⟨_, _, rfl, by omega⟩
   | 3, _ => exact ⟨_, _, rfl, by omega⟩
  have hR : ([[.sl 1 (List.take b.length (List.drop 0 (bs b))) false], [.sl 1 (List.take (List.drop 0 (bs b) ++ bs m2).length (List.drop 0 (bs (b ++ m2)))) false], [.sl 1 (List.take (k : Int).toNat (List.drop 0 (bs b))) false], [.sl 1 (bs more) g1]] : List (List V)) = [[.sl 1 (bs b) false], [.sl 1 (bs (b ++ m2)) false], [.sl 1 (bs (b.take k)) false], [.sl 1 (bs more) g1]] := by
   rw [hT, hT, hT, hD, List.take_of_length_le (Nat.le_refl _), List.take_of_length_le (by rw [List.length_append]; omega), Int.toNat_natCast]
  have hlen : ([[.sl 1 (bs b) false], [.sl 1 (bs (b ++ m2)) false], [.sl 1 (bs (b.take k)) false], [.sl 1 (bs more) g1]] : List (List V)).length = 4 := rfl;generalize ([[.sl 1 (bs b) false], [.sl 1 (bs (b ++ m2)) false], [.sl 1 (bs (b.take k)) false], [.sl 1 (bs more) g1]] : List (List V)) = rows at *;refine ⟨⟨[9, 10], fun mm ws H => ∃ i : Nat, ws = [.sl 1 rows true, fI i] /\ H = [] /\ i <= 4 /\ mm = 4 - i, .frz 5 (.frz 3 rfl (by repeat (first | exact trivial | refine And.intro (by first | omega | exact Nat.le_refl 4) ?_)) (.sub [.sl 1 rows true, fI 0] _ (.cons (VSub.eq (congrArg (fun z => V.sl 1 z true) hR)) (VSubs.refl _)) (HSub.refl _) (.go [] rfl 4 (by omega) ⟨0, rfl, rfl, by omega, rfl⟩))), ?_⟩⟩
  rintro mm ws H ⟨i, rfl, rfl, hi, rfl⟩
  conv => whnf
  refine branch_i (fun c1 => ?_) (fun c1 => ?_) <;> try rw [c1] <;> conv => whnf
  rotate_left
  . refine .pure (lives07_spec ⟨rfl, ?_⟩)
    conv => whnf
    exact ⟨[], rfl, rfl⟩
  have c1' := of_decide_eq_true c1;obtain ⟨x, fx, hx, hxl⟩ := hrows i (by omega)
  refine ⟨_, ⟨by omega, hx⟩, ?_⟩
  conv => whnf
  refine .pure (BlEvents_spec (b := x) hxl ⟨rfl, ?_⟩);have hEl := evsL_T hxl;have hE := hEl.1;have hET := hEl.2;have h7 := fun {Q : V -> List O -> Prop} h => R7Events_spec (b := x) (f := fx) (Q := Q) hxl h
  generalize evsL x = R at *;obtain ⟨L, at7, er⟩ := R;have hE : L.length <= 900000002 := hE
  conv => whnf
  refine ⟨_, ⟨by omega, hx⟩, ?_⟩
  conv => whnf
  refine .pure (h7 ⟨rfl, ?_⟩)
  conv => whnf
  refine .pure (R7Same_spec (l := L) (by omega) hET ⟨rfl, ?_⟩)
  conv => whnf
  rw [decide_eq_true (rfl : at7 = at7)]
  conv => whnf
  rw [decide_eq_true (rfl : er = er)]
  conv => whnf
  refine .go [] rfl (4 - (i + 1)) (by omega) ⟨i + 1, ?_, rfl, by omega, rfl⟩
  show [V.sl 1 rows true, V.int .i64 (IntKind.i64.wrap ((i : Int) + 1))] = _
  rw [wrapL (by omega)]; rfl
end Go.Proofs.YtcdkklgeepkopaaGreatDoorPg
