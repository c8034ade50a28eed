/- Own texts, laid together: Pg07ZDBlI, Pg07ZDBlJ, Pg07ZDBlK, Pg07ZDEv15, Pg07ZDBlL, Pg07ZDBlM, Pg07ZDBlN. -/
import Derived.Test.YtcdkklgeepkopaaGreatDoorPgM21
import Derived.Test.YtcdkklgeepkopaaGreatDoorPgM20
import Derived.Test.YtcdkklgeepkopaaGreatDoorPgM15
import Derived.Test.YtcdkklgeepkopaaGreatDoorPgM19
set_option linter.unusedSimpArgs false
set_option linter.unusedVariables false
namespace Go.Proofs.YtcdkklgeepkopaaGreatDoorPg
open Go Go.RowKit
variable {Q : V -> List O -> Prop}
def simE0 (l : List Tb) (e e2 : Evt) : Prop := mayE e l = 0 -> mayE e2 l = 0 /\ e2.k = e.k /\ e2.n = e.n /\ e2.ch = e.ch
theorem sim_none {l : List Tb} {e e2 : Evt} (hf : findT l e.t = none) (hk : e.k = 3 \/ e.k = 4 \/ e.k = 5) : simE0 l e e2 := fun hm => by
 have hI := mayE_inv hm;cases hI with
 | ins k t a C K hk2 hf2 hfit => rw [hf2] at hf; cases hf
 | del t b C K hf2 hk2 hlen => rw [hf2] at hf; cases hf
 | alt c hc => simp only at hk; omega
 | num k n hk2 hn => have := numK_is hk2; simp only at hk; omega
theorem sim3 {l : List Tb} {e : Evt} {C : List Col} {K : Int} (hC : ∀ c ∈ C, 1 <= c.k /\ c.k <= 4) (hf : findT l e.t = some (C, K)) (hk : e.k = 3 \/ e.k = 4) : simE0 l e ⟨e.k, 0, e.t, [], rowL C e.a, chg0⟩ := fun hm => by
 have hI := mayE_inv hm;refine ⟨(MayI.ins e.k e.t (rowL C e.a) C K hk hf (row_fits hC e.a)).e, rfl, ?_⟩;cases hI with
 | ins k t a C K hk2 hf2 hfit => exact ⟨rfl, rfl⟩
 | del t b C K hf2 hk2 hlen => simp only at hk; omega
 | alt c hc => simp only at hk; omega
 | num k n hk2 hn => have := numK_is hk2; simp only at hk; omega
theorem key_take {C : List Col} {k : Nat} {vs : List Val} (h : fitsL C vs = true) (hk : k <= C.length) : keyOkL C k (vs.take k) = true := by
 have hl := fits_len' h;unfold fitsL at h;rw [Bool.and_eq_true, List.all_eq_true] at h;unfold keyOkL;rw [Bool.and_eq_true, List.all_eq_true, decide_eq_true_eq, List.length_take];refine ⟨by omega, fun i hi => ?_⟩
 have hik := List.mem_range.1 hi;have := h.2 i (List.mem_range.2 (by omega))
 unfold stAt at this ⊢;rw [List.getElem?_take, if_pos hik]; exact this
theorem sim5 {l : List Tb} {e : Evt} {C : List Col} {k : Nat} (hC : ∀ c ∈ C, 1 <= c.k /\ c.k <= 4) (hf : findT l e.t = some (C, (k : Int))) (hkC : k <= C.length) (hk : e.k = 5) : simE0 l e ⟨e.k, 0, e.t, (rowL C e.b).take k, [], chg0⟩ := fun hm => by
 have hI := mayE_inv hm;have hfit := row_fits hC e.b;have h1 := (MayI.del e.t ((rowL C e.b).take k) C (k : Int) hf (by rw [Int.toNat_natCast]; exact key_take hfit hkC) (by rw [List.length_take, rowL_len]; omega)).e
 rw [hk];refine ⟨h1, rfl, ?_⟩;cases hI with
 | ins k t a C K hk2 hf2 hfit => simp only at hk; omega
 | del t b C K hf2 hk2 hlen => exact ⟨rfl, rfl⟩
 | alt c hc => simp only at hk; omega
 | num k n hk2 hn => have := numK_is hk2; simp only at hk; omega
theorem sim6 {l : List Tb} {e : Evt} (hk : e.k = 6) : simE0 l e ⟨e.k, 0, [], [], [], e.ch⟩ := fun hm => by
 have hI := mayE_inv hm;cases hI with
 | ins k t a C K hk2 hf2 hfit => simp only at hk; omega
 | del t b C K hf2 hk2 hlen => simp only at hk; omega
 | alt c hc => exact ⟨hm, rfl, rfl, rfl⟩
 | num k n hk2 hn => have := numK_is hk2; simp only at hk; omega
theorem simN {l : List Tb} {e : Evt} {m : Int} (hk : ¬ (e.k = 3 \/ e.k = 4 \/ e.k = 5 \/ e.k = 6)) (hm : e.n < 0 \/ m = e.n) : simE0 l e ⟨e.k, m, [], [], [], chg0⟩ := fun hme => by
 have hI := mayE_inv hme;cases hI with
 | ins k t a C K hk2 hf2 hfit => simp only at hk; omega
 | del t b C K hf2 hk2 hlen => simp at hk
 | alt c hc => simp at hk
 | num k n hk2 hn =>
  simp only at hm;have : m = n := by omega
  subst this;exact ⟨hme, rfl, rfl, rfl⟩
def simE (l : List Tb) (e e2 : Evt) : Prop := e2.k = e.k /\ simE0 l e e2
set_option maxHeartbeats 32000000 in
theorem REventS_spec {e : Evt} {l : List Tb} (hl : TbsB l) (he : EvtT e) (hn : EvtN e) (h : ∀ e2, EvtT e2 -> EvtN e2 -> simE l e e2 -> Q (evA e2) []) : ACall Tryz.prog 39 0 [evA e, .sl 3 (tbs l) false] [] Q := by
 refine ACall.ret (by_body Tryz.func39 0 rfl (Nat.le_of_ble_eq_true rfl) ?_);have h : ∀ e2, EvtT e2 -> EvtN e2 -> simE0 l e e2 -> (hk : e2.k = e.k := by rfl) -> Q (evA e2) [] := fun e2 h1 h2 h3 h4 => h e2 h1 h2 ⟨h4, h3⟩
 conv => whnf
 have hlv := tbs_len l;refine .pure (EvRFind_spec (by have := hl.few; omega) ⟨rfl, ?_⟩)
 unfold findR;rcases hf : findT l e.t with _ | ⟨C, K⟩ <;> conv => whnf
 focus
  refine branch_i (fun a1 => ?_) (fun a1 => ?_) <;> try rw [a1] <;> conv => whnf
  focus
   refine branch_i (fun a2 => ?_) (fun a2 => ?_) <;> try rw [a2] <;> conv => whnf
   focus
    refine branch_i (fun a3 => ?_) (fun a3 => ?_) <;> try rw [a3] <;> conv => whnf
    focus
     have a1' := of_decide_eq_true a1;have hg : l[0]? = some l[0] := List.getElem?_eq_getElem (by omega)
     have hm := (hl.ok.each l[0] (List.getElem_mem (by omega))).sch
     generalize l[0] = w at *;refine ⟨_, ⟨by omega, tbs_get hg⟩, ?_⟩
     conv => whnf
     refine ⟨_, ⟨by omega, tbs_get hg⟩, ?_⟩
     conv => whnf
     have hb := may_bd hm;have hrk : e.k = 3 \/ e.k = 4 \/ e.k = 5 := by have a2' := of_decide_eq_true a2; have a3' := of_decide_eq_true a3; omega
     have s3 : ∀ C : List Col, e.k = 3 \/ e.k = 4 -> simE0 l e ⟨e.k, 0, w.n, [], rowL C e.a, chg0⟩ := fun C _ => sim_none hf hrk
     have s5 : ∀ (C : List Col) (k : Nat), e.k = 5 -> simE0 l e ⟨e.k, 0, w.n, (rowL C e.b).take k, [], chg0⟩ := fun C k _ => sim_none hf hrk
     generalize w.c = C at *;generalize w.k = K at *;obtain ⟨k, rfl⟩ : ∃ k : Nat, K = k := ⟨K.toNat, by omega⟩
     have hk : k <= C.length := by omega
     have hC : C.length <= 16 := hb.2.2.2;have s3 := s3 C;have s5 := s5 C k
  rotate_left
  iterate 3
   focus
    refine branch_i (fun k3 => ?_) (fun k3 => ?_) <;> try rw [k3] <;> conv => whnf
    . exact ⟨[], rfl, .sub _ _ (row_sub0 _ _) (HSub.refl _) (.done [] rfl (h _ (evt0 _ _ _) (evn0 _ _ _ i64_0) (sim_none hf (.inl (of_decide_eq_true k3)))))⟩
    refine branch_i (fun k4 => ?_) (fun k4 => ?_) <;> try rw [k4] <;> conv => whnf
    . exact ⟨[], rfl, .sub _ _ (row_sub0 _ _) (HSub.refl _) (.done [] rfl (h _ (evt0 _ _ _) (evn0 _ _ _ i64_0) (sim_none hf (.inr (.inl (of_decide_eq_true k4))))))⟩
    refine branch_i (fun k5 => ?_) (fun k5 => ?_) <;> try rw [k5] <;> conv => whnf
    . exact ⟨[], rfl, .sub _ _ (row_sub0 _ _) (HSub.refl _) (.done [] rfl (h _ (evt0 _ _ _) (evn0 _ _ _ i64_0) (sim_none hf (.inr (.inr (of_decide_eq_true k5))))))⟩
    refine branch_i (fun k6 => ?_) (fun k6 => ?_) <;> try rw [k6] <;> conv => whnf
    . exact ⟨[], rfl, .sub _ _ (may_sub6 _ _ _) (HSub.refl _) (.done [] rfl (h _ (evt6 _ _ he.lc) (evn6 _ _ _ i64_0) (sim6 (of_decide_eq_true k6))))⟩
    have hkk : ¬ (e.k = 3 \/ e.k = 4 \/ e.k = 5 \/ e.k = 6) := by
     have k3' := of_decide_eq_false k3; have k4' := of_decide_eq_false k4; have k5' := of_decide_eq_false k5; have k6' := of_decide_eq_false k6; omega
    refine branch_i (fun k7 => ?_) (fun k7 => ?_) <;> try rw [k7] <;> conv => whnf
    . exact ⟨[], rfl, .sub _ _ (may_subN _ _) (HSub.refl _) (.done [] rfl (h _ (evt0 _ _ _) (evn0 _ _ _ (i64_wrap _)) (simN hkk (.inl (of_decide_eq_true k7)))))⟩
    . exact ⟨[], rfl, .sub _ _ (may_subN _ _) (HSub.refl _) (.done [] rfl (h _ (evt0 _ _ _) (evn0 _ _ _ hn.n) (simN hkk (.inr rfl))))⟩
 rotate_left
 focus
  obtain ⟨hm, hC, k, rfl, hk⟩ := hl.found hf;have hko := kinds_ok (may_ok hm);have s3 : e.k = 3 \/ e.k = 4 -> simE0 l e ⟨e.k, 0, e.t, [], rowL C e.a, chg0⟩ := fun hx => sim3 hko hf hx
  have s5 : e.k = 5 -> simE0 l e ⟨e.k, 0, e.t, (rowL C e.b).take k, [], chg0⟩ := fun hx => sim5 hko hf hk hx
 all_goals
  have hki := may_kinds hm;refine branch_i (fun k3 => ?_) (fun k3 => ?_) <;> try rw [k3] <;> conv => whnf
  . refine .pure (Row_spec (l := C) (keys := (k : Int)) (vs := e.a) (by omega) hki ⟨rfl, ?_⟩)
    conv => whnf
    exact ⟨[], rfl, .sub _ _ (row_sub _ _ _) (HSub.refl _) (.done [] rfl (h _ (evt3 _ _ _ hC _) (evn3 _ _ _ _ hn.a) (s3 (.inl (of_decide_eq_true k3)))))⟩
  refine branch_i (fun k4 => ?_) (fun k4 => ?_) <;> try rw [k4] <;> conv => whnf
  . refine .pure (Row_spec (l := C) (keys := (k : Int)) (vs := e.a) (by omega) hki ⟨rfl, ?_⟩)
    conv => whnf
    exact ⟨[], rfl, .sub _ _ (row_sub _ _ _) (HSub.refl _) (.done [] rfl (h _ (evt3 _ _ _ hC _) (evn3 _ _ _ _ hn.a) (s3 (.inr (of_decide_eq_true k4)))))⟩
  refine branch_i (fun k5 => ?_) (fun k5 => ?_) <;> try rw [k5] <;> conv => whnf
  . refine ⟨[0, 1, 2, 4, 5, 3, 6, 7, 8], by kernel_rfl, by kernel_rfl, ?_⟩
    conv => whnf
    refine .pure (Row_spec (l := C) (keys := (k : Int)) (vs := e.b) (by omega) hki ⟨rfl, ?_⟩)
    have hrl : (vals (rowL C e.b)).length = C.length := by rw [vals_len, rowL_len]
    repeat (conv => whnf
            refine ⟨rfl, ?_⟩)
    conv => whnf
    refine ⟨⟨by omega, by omega⟩, ?_⟩
    conv => whnf
    rw [vals_take];exact ⟨[], rfl, .sub _ _ (row_sub5 _ _ _) (HSub.refl _) (.done [] rfl (h _ (evt5 _ _ _ hC _ _) (evn5 _ _ _ _ _ hn.b) (s5 (of_decide_eq_true k5))))⟩
  refine branch_i (fun k6 => ?_) (fun k6 => ?_) <;> try rw [k6] <;> conv => whnf
  . exact ⟨[], rfl, .sub _ _ (may_sub6 _ _ _) (HSub.refl _) (.done [] rfl (h _ (evt6 _ _ he.lc) (evn6 _ _ _ i64_0) (sim6 (of_decide_eq_true k6))))⟩
  have hkk : ¬ (e.k = 3 \/ e.k = 4 \/ e.k = 5 \/ e.k = 6) := by
   have k3' := of_decide_eq_false k3; have k4' := of_decide_eq_false k4; have k5' := of_decide_eq_false k5; have k6' := of_decide_eq_false k6; omega
  refine branch_i (fun k7 => ?_) (fun k7 => ?_) <;> try rw [k7] <;> conv => whnf
  . exact ⟨[], rfl, .sub _ _ (may_subN _ _) (HSub.refl _) (.done [] rfl (h _ (evt0 _ _ _) (evn0 _ _ _ (i64_wrap _)) (simN hkk (.inl (of_decide_eq_true k7)))))⟩
  . exact ⟨[], rfl, .sub _ _ (may_subN _ _) (HSub.refl _) (.done [] rfl (h _ (evt0 _ _ _) (evn0 _ _ _ hn.n) (simN hkk (.inr rfl))))⟩
end Go.Proofs.YtcdkklgeepkopaaGreatDoorPg
namespace Go.Proofs.YtcdkklgeepkopaaGreatDoorPg
open Go Go.RowKit
variable {Q : V -> List O -> Prop}
theorem noU_i (n : Int) : NoU (.int .i64 n) := .int _ _ (by decide)
theorem noU_vals (l : List Val) : NoU (.sl 3 (vals l) false) := .sl _ _ _ fun e he c hc => by
 obtain ⟨v, _, rfl⟩ := List.mem_map.1 he;simp only [valC, colC, List.mem_cons, List.not_mem_nil, or_false] at hc;rcases hc with rfl | rfl | rfl
 . exact noU_i _
 . exact noU_i _
 . exact .str _
theorem noU_cols (l : List Col) : NoU (.sl 3 (cols l) false) := .sl _ _ _ fun e he c hc => by
 obtain ⟨v, _, rfl⟩ := List.mem_map.1 he;simp only [valC, colC, List.mem_cons, List.not_mem_nil, or_false] at hc;rcases hc with rfl | rfl | rfl
 . exact .str _
 . exact noU_i _
 . exact .bool _
theorem noU_tbs (l : List Tb) : NoU (.sl 3 (tbs l) false) := .sl _ _ _ fun e he c hc => by
 obtain ⟨v, _, rfl⟩ := List.mem_map.1 he;simp only [tbC, List.mem_cons, List.not_mem_nil, or_false] at hc;rcases hc with rfl | rfl | rfl
 . exact .str _
 . exact noU_cols _
 . exact noU_i _
theorem noU_ev (e : Evt) : NoU (evA e) := .agg _ fun c hc => by
 simp only [List.mem_cons, List.not_mem_nil, or_false] at hc;rcases hc with rfl | rfl | rfl | rfl | rfl | rfl | rfl | rfl | rfl | rfl | rfl | rfl
 . exact noU_i _
 . exact noU_i _
 . exact .str _
 . exact noU_vals _
 . exact noU_vals _
 . exact noU_i _
 . exact .str _
 . exact noU_cols _
 . exact noU_i _
 . exact .str _
 . exact noU_i _
 . exact .bool _
theorem noU_st (r : Evt × Sc × Int) : NoU (stR r) := .tup _ fun c hc => by
 simp only [List.mem_cons, List.not_mem_nil, or_false] at hc;rcases hc with rfl | rfl | rfl
 . exact noU_ev _
 . refine .agg _ fun c hc => ?_
   simp only [List.mem_cons, List.not_mem_nil, or_false] at hc;rcases hc with rfl | rfl | rfl | rfl
   . exact noU_i _
   . exact noU_tbs _
   . exact noU_tbs _
   . exact noU_i _
 . exact noU_i _
theorem R7StepM_spec {b : List UInt8} {n : Nat} {f : Bool} {s : Sc} (hn : n = b.length) (hb : b.length <= 900000000) (hs : ScOk s) (h : Q (stR (stepS b s)) [.buf (bs b)]) :
 ACall Tryz.prog 19 1 [.ms 1 0 0 n f, scA s] [.buf (bs b)] Q := by
 refine ACall.borrow (by rw [bs_len]; exact hn) (fun r hr => ?_) (fun v hv => ?_) (R7Step_spec hb hs ⟨rfl, noU_st _, h⟩)
 . obtain ⟨x, _, rfl⟩ := List.mem_map.1 hr;exact ⟨_, rfl⟩
 . simp only [List.mem_singleton] at hv;subst hv;exact ClosedV.agg rfl
structure LogOk (b : List UInt8) (es : List Evt) (s : Sc) : Prop where
 len : 7 <= b.length
 st : b.take 7 = start
 run : Run b sc0 es s
 pos : s.a = (b.length : Int)
 sz : b.length <= 7 + 1000020 * es.length
 few : es.length <= 40
theorem LogOk.nil : LogOk start [] sc0 := ⟨by rw [start_len]; omega, by rw [<- start_len, List.take_length], .nil _, by rw [start_len]; rfl, by rw [start_len]; omega, by simp⟩
theorem LogOk.le {b : List UInt8} {es : List Evt} {s : Sc} (h : LogOk b es s) : b.length <= 50000000 := by have := h.sz; have := h.few; omega
theorem LogOk.snoc {b : List UInt8} {es : List Evt} {s : Sc} {w : List UInt8} (h : LogOk b es s) (hw : w.length <= 1000000) (he : es.length < 40) (h0 : (stepS (b ++ frm w) s).2.2 = 0) :
 LogOk (b ++ frm w) (es ++ [(stepS (b ++ frm w) s).1]) (stepS (b ++ frm w) s).2.1 := by
 have hfl := frm_len w;have hnl := numW_len' (w.length : Int);have hsz := h.sz;have hle := h.le;refine ⟨by rw [List.length_append]; have := h.len; omega, by rw [List.take_append_of_le_length h.len]; exact h.st, (h.run.more _ (by omega)).snoc h0, ?_, by rw [List.length_append, List.length_append, List.length_singleton]; omega, by rw [List.length_append, List.length_singleton]; omega⟩
 obtain ⟨x, n, g1, g2, g3, g4, g5⟩ := stepS_ok h0;have hn : nxtL (b ++ frm w) s.a = (w, ((b ++ frm w).length : Int), 0) := by
  rw [h.pos, nxtL_frm (x := w) (r := []) (by omega) (by rw [List.drop_left, List.append_nil])]
  simp
 rw [hn] at g1;cases g1;rw [g5];exact (takeX_ok (h.run.ok sc0_ok).1 g3 g4).2
set_option maxHeartbeats 16000000 in
theorem R7Log_spec {l : List Evt} {f : Bool} (hl : ∀ e ∈ l, EvtT e /\ EvtN e) (hll : l.length <= 9223372036854775807) (R : Nat -> List UInt8 -> List Evt -> Sc -> Prop) (h0 : R 0 start [] sc0)
 (hstep : ∀ i e b es s e', l[i]? = some e -> i < 40 -> R i b es s -> LogOk b es s -> EvtT e' -> EvtN e' -> simE s.h e e' ->
  (mayE e' s.h ≠ 0 -> R (i + 1) b es s) /\ (mayE e' s.h = 0 -> (stepS (b ++ frm (evW e')) s).2.2 ≠ 0 -> R (i + 1) b es s) /\
  (mayE e' s.h = 0 -> (stepS (b ++ frm (evW e')) s).2.2 = 0 -> R (i + 1) (b ++ frm (evW e')) (es ++ [(stepS (b ++ frm (evW e')) s).1]) (stepS (b ++ frm (evW e')) s).2.1))
 (h : ∀ b es s, LogOk b es s -> R (min l.length 40) b es s -> Q (.ms 1 0 0 b.length false) [.buf (bs b)]) : ACall Tryz.prog 15 0 [.sl 12 (evs l) f] [] Q := by
 refine by_body Tryz.func15 0 rfl (Nat.le_of_ble_eq_true rfl) ?_;have hel := evs_len l
 conv => whnf
 refine .call [] 0 ⟨rfl, rfl, rfl⟩ (R7New_spec ?_);have hnil := LogOk.nil;have hst7 := start_len;generalize start = st at *
 conv => whnf
 refine ⟨⟨[0, 3, 4, 5], fun mm ws H => ∃ (i : Nat) (b : List UInt8) (es : List Evt) (s : Sc), ws = [.sl 12 (evs l) f, .ms 1 0 0 b.length false, .ptr 1 0, fI i] /\ H = [.buf (bs b), .cells [fI s.a, .sl 3 (tbs s.l) false, .sl 3 (tbs s.h) false, fI s.x]] /\
  LogOk b es s /\ R i b es s /\ es.length <= i /\ i <= min l.length 40 /\ mm = l.length - i, ?_, ?_⟩⟩
 . refine .frz (l.length + 1) (.sub _ [.buf (bs st), .cells [fI 7, .sl 3 (tbs []) false, .sl 3 (tbs []) false, fI (-1)]] (VSubs.refl _) ?_ (.go [0, 1] rfl l.length (by omega) ⟨0, st, [], sc0, rfl, rfl, hnil, h0, by simp, by omega, rfl⟩))
   rw [hst7];exact .cons (.refl _) (.cons (.cells (.cons (.refl _) (.cons (nils_sl3 false) (.cons (nils_sl3 false) (VSubs.refl _))))) (HSub.refl _))
 rintro mm ws H ⟨i, b, es, s, rfl, rfl, hok, hR, hei, hi, rfl⟩;have hle := hok.le
 conv => whnf
 have fin : i = min l.length 40 -> ∃ sel, selOk sel 2 0 = true /\ Q (renV (idx sel) (.ms 1 0 0 b.length false)) (gather (idx sel) [.buf (bs b), .cells [fI s.a, .sl 3 (tbs s.l) false, .sl 3 (tbs s.h) false, fI s.x]] sel) := fun e => ⟨[0], rfl, h b es s hok (e ▸ hR)⟩
 refine branch_i (fun c1 => ?_) (fun c1 => ?_) <;> try rw [c1] <;> conv => whnf
 rotate_left
 focus
  have c1' := of_decide_eq_false c1;exact fin (by omega)
 have c1' := of_decide_eq_true c1;refine branch_i (fun c2 => ?_) (fun c2 => ?_) <;> try rw [c2] <;> conv => whnf
 rotate_left
 focus
  have c2' := of_decide_eq_false c2;exact fin (by omega)
 have c2' := of_decide_eq_true c2;have hil : i < l.length := by omega
 have hg : l[i]? = some l[i] := List.getElem?_eq_getElem hil;have hme := hl l[i] (List.getElem_mem hil);generalize l[i] = e at *;have hsok := (hok.run.ok sc0_ok).1;refine ⟨List.range 9, by kernel_rfl, by kernel_rfl, ?_⟩
 conv => whnf
 refine ⟨_, ⟨by omega, evs_get hg⟩, ?_⟩
 conv => whnf
 refine .pure (REventS_spec (e := e) (l := s.h) hsok.h hme.1 hme.2 fun e' he1 he2 he3 => ⟨rfl, ?_⟩)
 obtain ⟨r1, r2, r3⟩ := hstep i e b es s e' hg (by omega) hR hok he1 he2 he3
 repeat (conv => whnf
         refine ⟨rfl, ?_⟩)
 conv => whnf
 refine .pure (EvRMay_spec (e := e') (l := s.h) hsok.h he1 ⟨rfl, ?_⟩);have hwl := fun hm : mayE e' s.h = 0 => evW_len hsok.h (mayE_inv hm) he2
 have hwr := fun (hm : mayE e' s.h = 0) {Q : V -> List O -> Prop} (h : Q (.sl 1 (bs (evW e')) false) []) => R6Write_spec (Q := Q) hsok.h he2 hm h
 have nxt : IntKind.i64.wrap ((i : Int) + 1) = ((i + 1 : Nat) : Int) := by rw [wrapL (by omega)]; rfl
 generalize mayE e' s.h = me at *
 conv => whnf
 refine branch_i (fun c3 => ?_) (fun c3 => ?_) <;> try rw [c3] <;> conv => whnf
 . have c3' : me ≠ 0 := by simpa using c3
   refine .go [0, 1] rfl (l.length - (i + 1)) (by omega) ⟨i + 1, b, es, s, ?_, rfl, hok, r1 c3', by omega, by omega, rfl⟩
   show [V.sl 12 (evs l) f, V.ms 1 0 0 b.length false, V.ptr 1 0, V.int .i64 (IntKind.i64.wrap ((i : Int) + 1))] = _
   rw [nxt]
 have c3' : me = 0 := by simpa using c3
 have r2 := r2 c3';have r3 := r3 c3';have hwl := hwl c3';have hsn := hok.snoc hwl (by omega)
 refine app_nilms (X := b) (j := 0) rfl (by omega) ?_
 conv => whnf
 refine .pure (hwr c3' ⟨rfl, ?_⟩);generalize evW e' = w at *;have hfl := frm_len w;have hnl := numW_len' (w.length : Int)
 conv => whnf
 refine .call [] 0 ⟨rfl, rfl, rfl⟩ (R7Frame_spec (body := w) (by omega) ?_)
 generalize frm w = F at *
 conv => whnf
 refine app_bs (i := 3) (j := 4) (X := b) (Y := F) rfl rfl rfl rfl rfl (by omega) ?_
 have hBl : (b ++ F).length = b.length + F.length := List.length_append;generalize b ++ F = B at *
 conv => whnf
 refine .call [5] 1 ⟨rfl, rfl, rfl⟩ (R7StepM_spec (b := B) (s := s) rfl (by omega) hsok ?_)
 generalize stepS B s = R1 at *;obtain ⟨ev, s', g⟩ := R1;simp only at r2 r3 hsn
 conv => whnf
 refine branch_i (fun c4 => ?_) (fun c4 => ?_) <;> try rw [c4] <;> conv => whnf
 . have c4' : g = 0 := of_decide_eq_true c4;refine .go [5, 1] rfl (l.length - (i + 1)) (by omega) ⟨i + 1, B, es ++ [ev], s', ?_, rfl, hsn c4', r3 c4', by rw [List.length_append, List.length_singleton]; omega, by omega, rfl⟩
   show [V.sl 12 (evs l) f, V.ms 1 0 0 B.length false, V.ptr 1 0, V.int .i64 (IntKind.i64.wrap ((i : Int) + 1))] = _
   rw [nxt]
 . have c4' : g ≠ 0 := of_decide_eq_false c4;refine .go [0, 1] rfl (l.length - (i + 1)) (by omega) ⟨i + 1, b, es, s, ?_, rfl, hok, r2 c4', by omega, by omega, rfl⟩
   show [V.sl 12 (evs l) f, V.ms 1 0 0 b.length false, V.ptr 1 0, V.int .i64 (IntKind.i64.wrap ((i : Int) + 1))] = _
   rw [nxt]
end Go.Proofs.YtcdkklgeepkopaaGreatDoorPg
namespace Go.Proofs.YtcdkklgeepkopaaGreatDoorPg
open Go Go.RowKit
variable {Q : V -> List O -> Prop}
theorem evs_of : ∀ {es : List (List V)}, (∀ x ∈ es, ∃ e : Evt, x = evC e /\ EvtT e /\ EvtN e) -> ∃ l : List Evt, es = evs l /\ ∀ e ∈ l, EvtT e /\ EvtN e
 | [], _ => ⟨[], rfl, by simp⟩
 | x :: es, h => by
  obtain ⟨e, rfl, he⟩ := h x (by simp)
  obtain ⟨l, rfl, hl⟩ := evs_of (es := es) fun y hy => h y (by simp [hy])
  refine ⟨e :: l, rfl, fun v hv => ?_⟩
  rcases List.mem_cons.1 hv with rfl | hv
  . exact he
  . exact hl v hv
theorem texts_in {l : List Val} (h : ∀ v ∈ l, ValIn v) : TextsOk l := fun v hv => Nat.lt_of_le_of_lt (h v hv).t (by decide)
theorem ev_cells {vs : List V} (h : Shp tt 8 49 vs) : ∃ e : Evt, vs = evC e /\ EvtT e /\ EvtN e := by
 obtain ⟨_, _, ⟨k, hk, rfl⟩, ⟨_, _, ⟨n, hn, rfl⟩, ⟨_, _, ⟨t, _, rfl⟩, ⟨_, _, ⟨eb, heb, gb, rfl⟩, ⟨_, _, ⟨ea, hea, ga, rfl⟩, ⟨_, _, hch, rfl, rfl⟩, rfl⟩, rfl⟩, rfl⟩, rfl⟩, rfl⟩ := h;obtain ⟨_, _, ⟨ck, hck, rfl⟩, ⟨_, _, ⟨ct, _, rfl⟩, ⟨_, _, ⟨_, _, ⟨es, hes, g1, rfl⟩, ⟨_, _, ⟨ks, hks, rfl⟩, rfl, rfl⟩, rfl⟩, ⟨_, _, ⟨_, _, ⟨cn, _, rfl⟩, ⟨_, _, ⟨cck, hcck, rfl⟩, ⟨_, _, ⟨o, rfl⟩, rfl, rfl⟩, rfl⟩, rfl⟩, rfl, rfl⟩, rfl⟩, rfl⟩, rfl⟩ := hch;obtain ⟨l, rfl, hl⟩ := cols_of fun x hx => by
  obtain ⟨_, _, ⟨s, _, rfl⟩, ⟨_, _, ⟨k, hk, rfl⟩, ⟨_, _, ⟨o, rfl⟩, rfl, rfl⟩, rfl⟩, rfl⟩ := g1 x hx;exact ⟨s, k, o, rfl, i64_wf hk⟩
 obtain ⟨lb, rfl, hlb⟩ := evals_of fun x hx => by
  obtain ⟨_, _, ⟨k, hk, rfl⟩, ⟨_, _, ⟨n, hn, rfl⟩, ⟨_, _, ⟨s, hs, rfl⟩, rfl, rfl⟩, rfl⟩, rfl⟩ := gb x hx;exact ⟨k, n, s, rfl, i64_wf hk, i64_wf hn, hs⟩
 obtain ⟨la, rfl, hla⟩ := evals_of fun x hx => by
  obtain ⟨_, _, ⟨k, hk, rfl⟩, ⟨_, _, ⟨n, hn, rfl⟩, ⟨_, _, ⟨s, hs, rfl⟩, rfl, rfl⟩, rfl⟩, rfl⟩ := ga x hx;exact ⟨k, n, s, rfl, i64_wf hk, i64_wf hn, hs⟩
 rw [vals_len] at heb hea;rw [cols_len] at hes;have hmx : maxLen < 9223372036854775808 := by decide
 exact ⟨⟨k, n, t, lb, la, ⟨ck, ct, l, ks, ⟨cn, cck, o⟩⟩⟩, rfl, ⟨texts_in hlb, texts_in hla, Nat.lt_of_le_of_lt heb hmx, Nat.lt_of_le_of_lt hea hmx, Nat.lt_of_le_of_lt hes hmx⟩, ⟨i64_wf hn, fun v hv => (hlb v hv).n, fun v hv => (hla v hv).n⟩⟩
theorem evs_in {vs : List V} (h : Shp tt 8 31 vs) : ∃ l : List Evt, argV tt 31 vs = .sl 12 (evs l) false /\ l.length <= 9223372036854775807 /\ ∀ e ∈ l, EvtT e /\ EvtN e := by
 obtain ⟨es, hes, g1, rfl⟩ := h;obtain ⟨l, rfl, hl⟩ := evs_of fun x hx => ev_cells (g1 x hx)
 rw [evs_len] at hes;exact ⟨l, rfl, hes, hl⟩
theorem run_T {b : List UInt8} {s s2 : Sc} {es : List Evt} (hb : b.length <= 900000000) (h : Run b s es s2) (hs : ScOk s) : ∀ e ∈ es, EvtT e := by
 induction h with
 | nil s => exact fun e h => by cases h
 | cons h t ih =>
  have h2 := (stepS_inv hs h).1;obtain ⟨w, n, g1, g2, g3, g4, g5⟩ := stepS_ok h;intro e he;rcases List.mem_cons.1 he with rfl | he
  . rw [g5];obtain ⟨k1, r, k2, k3, k4, k5⟩ := nxtL_ok g1;refine prdR_T hs.h ?_;have := congrArg List.length k2;rw [List.length_drop, List.length_append] at this;have hf := frm_len w;omega
  . exact ih h2 e he
theorem evS_T : EvtT evS := ⟨textsOk_nil, textsOk_nil, by decide, by decide, by decide⟩
set_option maxHeartbeats 4000000 in
theorem R7Same_spec {l : List Evt} {f g : Bool} (hl : l.length <= 1000000000) (ht : ∀ e ∈ l, EvtT e) (h : Q (.bool true) []) : ACall Tryz.prog 27 0 [.sl 12 (evs l) f, .sl 12 (evs l) g] [] Q := by
 refine by_body Tryz.func27 0 rfl (Nat.le_of_ble_eq_true rfl) ?_;have hel := evs_len l
 conv => whnf
 rw [decide_eq_true (rfl : (((evs l).length : Int)) = ((evs l).length : Int))]
 conv => whnf
 refine ⟨⟨[0, 1, 5], fun mm ws H => ∃ i : Nat, ws = [.sl 12 (evs l) f, .sl 12 (evs l) g, fI i] /\ H = [] /\ i <= l.length /\ mm = l.length - i, .at l.length ⟨0, rfl, rfl, by omega, rfl⟩, ?_⟩⟩
 rintro mm ws H ⟨i, rfl, rfl, hi, rfl⟩
 conv => whnf
 refine branch_i (fun c1 => ?_) (fun c1 => ?_) <;> try rw [c1] <;> conv => whnf
 rotate_left
 . exact ⟨[], rfl, h⟩
 have c1' := of_decide_eq_true c1;have hil : i < l.length := by omega
 have hg : l[i]? = some l[i] := List.getElem?_eq_getElem hil;have hT := ht l[i] (List.getElem_mem hil);generalize l[i] = e at *;refine ⟨List.range 10, by kernel_rfl, by kernel_rfl, ?_⟩
 conv => whnf
 refine ⟨_, ⟨by omega, evs_get hg⟩, ?_⟩
 conv => whnf
 refine ⟨_, ⟨by omega, evs_get hg⟩, ?_⟩
 conv => whnf
 refine .pure (EvRSame_spec (a := e) (b := e) hT.lb hT.la hT.lc ⟨rfl, ?_⟩);rw [decide_eq_true (rfl : e = e)]
 repeat (conv => whnf
         refine ⟨rfl, ?_⟩)
 conv => whnf
 refine .go [] rfl (l.length - (i + 1)) (by omega) ⟨i + 1, ?_, rfl, by omega, rfl⟩
 show [V.sl 12 (evs l) f, V.sl 12 (evs l) g, V.int .i64 (IntKind.i64.wrap ((i : Int) + 1))] = _
 rw [wrapL (by omega)]; rfl
end Go.Proofs.YtcdkklgeepkopaaGreatDoorPg
namespace Go.Proofs.YtcdkklgeepkopaaGreatDoorPg
open Go Go.RowKit
variable {Q : V -> List O -> Prop}
end Go.Proofs.YtcdkklgeepkopaaGreatDoorPg
namespace Go.Proofs.YtcdkklgeepkopaaGreatDoorPg
open Go Go.RowKit
variable {Q : V -> List O -> Prop}
theorem abs_w {n : Int} (h : I64 n) (hn : n < 0) : ∃ A : Nat, IntKind.i64.wrap (0 - IntKind.i64.wrap (n + 1)) = (A : Int) := by
 obtain ⟨A, hA⟩ := abs_i h;exact ⟨A, hA.resolve_right fun h => h hn⟩
end Go.Proofs.YtcdkklgeepkopaaGreatDoorPg
namespace Go.Proofs.YtcdkklgeepkopaaGreatDoorPg
open Go Go.RowKit
variable {Q : V -> List O -> Prop}
end Go.Proofs.YtcdkklgeepkopaaGreatDoorPg
namespace Go.Proofs.YtcdkklgeepkopaaGreatDoorPg
open Go Go.RowKit
variable {Q : V -> List O -> Prop}
theorem prdR_W {e : Evt} {l : List Tb} (hl : TbsB l) (hm : mayE e l = 0) (hn : EvtN e) : prdR (evW e) l = (e, 0) := by
 unfold prdR;rw [prd_W hl (mayE_inv hm) hn];simp only [hm, if_true]
theorem step_frm {b : List UInt8} {s : Sc} {e : Evt} (hs : ScOk s) (ha : s.a = (b.length : Int)) (hm : mayE e s.h = 0) (hn : EvtN e) :
 stepS (b ++ frm (evW e)) s = if mayX s.x e = false then (evtZ, s, 14) else if (takeX s e ((b ++ frm (evW e)).length : Nat)).2 ≠ 0 then (evtZ, s, (takeX s e ((b ++ frm (evW e)).length : Nat)).2) else (e, (takeX s e ((b ++ frm (evW e)).length : Nat)).1, 0) := by
 have hwl := evW_len hs.h (mayE_inv hm) hn;have hnx : nxtL (b ++ frm (evW e)) s.a = (evW e, ((b ++ frm (evW e)).length : Int), 0) := by
  rw [ha, nxtL_frm (x := evW e) (r := []) (by omega) (by rw [List.drop_left, List.append_nil])]
  simp
 unfold stepS;rw [hnx];simp only [ne_eq, not_true_eq_false, if_false];unfold stepE;rw [prdR_W hs.h hm hn];simp only [ne_eq, not_true_eq_false, if_false]
theorem step_end {b : List UInt8} {s : Sc} (ha : s.a = (b.length : Int)) : (stepS b s).2.2 = 7 := by
 have hn : nxtL b s.a = ([], s.a, 7) := by unfold nxtL; rw [if_neg (by omega), if_pos ha]
 unfold stepS;rw [hn]; rfl
theorem log_evs {b : List UInt8} {es : List Evt} {s : Sc} (h : LogOk b es s) : evsL b = (evS :: es, (b.length : Int), if 0 <= s.x then 4 else 7) := by
 rw [evs_way (b := b) (pre := es) (s := s) (by rw [not_or]; exact ⟨by have := h.len; omega, by simpa using h.st⟩) h.run (by rw [step_end h.pos]; decide), step_end h.pos, h.pos]
 by_cases hx : 0 <= s.x
 . rw [if_pos hx, if_pos ⟨rfl, rfl, hx⟩]
 . rw [if_neg hx, if_neg (fun hh => hx hh.2.2)]
def mkE (k n : Int) : Evt := ⟨k, n, [], [], [], chg0⟩
theorem mkE_may {k n : Int} {l : List Tb} (hk : numK k = true) (hn : 0 <= n) : mayE (mkE k n) l = 0 := (MayI.num k n hk hn).e
theorem mkE_n {k n : Int} (h : I64 n) : EvtN (mkE k n) := evn0 _ _ _ h
theorem mkE_W {k n : Int} (hk : numK k = true) (hn : 0 <= n) (h : I64 n) : (evW (mkE k n)).length <= 1000000 := evW_len tbsB_nil (mayE_inv (mkE_may hk hn)) (mkE_n h)
theorem log_mark {b : List UInt8} {es : List Evt} {s : Sc} {k n : Int} (hr : Run b sc0 es s) (hs : ScOk s) (ha : s.a = (b.length : Int)) (hb : b.length <= 800000000) (hx : s.x < 0) (hk : k = 9 \/ k = 10) (hn : 0 <= n) (h64 : I64 n) :
 Run (b ++ frm (evW (mkE k n))) sc0 (es ++ [mkE k n]) ⟨((b ++ frm (evW (mkE k n))).length : Nat), s.l, s.h, s.x⟩ := by
 have hst := step_frm (b := b) (e := mkE k n) hs ha (mkE_may (by rcases hk with rfl | rfl <;> rfl) hn) (mkE_n h64)
 have hmx : mayX s.x (mkE k n) = true := by
  unfold mayX mkE;rw [if_pos (by simp only; omega)]
  exact decide_eq_true hx
 have htk : takeX s (mkE k n) ((b ++ frm (evW (mkE k n))).length : Nat) = (⟨((b ++ frm (evW (mkE k n))).length : Nat), s.l, s.h, s.x⟩, 0) := by
  unfold takeX mkE;simp only;rw [if_neg (by omega), if_neg (by omega), if_neg (by omega), if_neg (by omega)]
 rw [hmx, htk] at hst;simp only [Bool.true_eq_false, if_false, ne_eq, not_true_eq_false] at hst;have h2 := (hr.more (frm (evW (mkE k n))) (by omega)).snoc (by rw [hst])
 rw [hst] at h2;exact h2
theorem marks_evs {b : List UInt8} {es : List Evt} {s : Sc} {n : Int} (h : LogOk b es s) (hx : s.x < 0) (hn : 0 <= n) (h64 : I64 n) :
 evsL (b ++ frm (evW (mkE 9 n)) ++ frm (evW (mkE 10 n))) = (evS :: (es ++ [mkE 9 n] ++ [mkE 10 n]), ((b ++ frm (evW (mkE 9 n)) ++ frm (evW (mkE 10 n))).length : Int), 7) := by
 have hle := h.le;have hsok := (h.run.ok sc0_ok).1;have l1 := mkE_W (k := 9) rfl hn h64;have f1 := frm_len (evW (mkE 9 n));have n1 := numW_len' ((evW (mkE 9 n)).length : Int);have r1 := log_mark h.run hsok h.pos (by omega) hx (.inl rfl) hn h64
 have r2 := log_mark r1 ⟨hsok.l, hsok.h, hsok.c⟩ rfl (by rw [List.length_append]; omega) hx (.inr rfl) hn h64
 have h7 := h.len;generalize frm (evW (mkE 9 n)) = F1 at *;generalize frm (evW (mkE 10 n)) = F2 at *;simp only at r2;have hend := step_end (b := b ++ F1 ++ F2) (s := ⟨((b ++ F1 ++ F2).length : Nat), s.l, s.h, s.x⟩) rfl;rw [evs_way (pre := es ++ [mkE 9 n] ++ [mkE 10 n]) (by
  rw [not_or];refine ⟨by rw [List.length_append, List.length_append]; omega, ?_⟩
  rw [List.append_assoc, List.take_append_of_le_length h7, h.st]; simp) r2 (by rw [hend]; decide), hend, if_neg (fun hh => by have := hh.2.2; simp only at this; omega)]
set_option maxHeartbeats 16000000 in
theorem BinlogMarks_spec {l : List Evt} {n : Int} {f1 : Bool} (hl : ∀ e ∈ l, EvtT e /\ EvtN e) (hll : l.length <= 9223372036854775807) (hn : I64 n) : ACall Tryz.prog 9 0 [.sl 12 (evs l) f1, fI n] [] (fun v _ => v = .bool true) := by
 refine by_body Tryz.func9 0 rfl (Nat.le_of_ble_eq_true rfl) ?_
 conv => whnf
 refine .call [] 0 ⟨rfl, rfl, rfl⟩ (R7Log_spec hl hll (fun _ _ _ _ => True) trivial (fun _ _ _ _ _ _ _ _ _ _ _ _ _ => ⟨fun _ => trivial, fun _ _ => trivial, fun _ _ => trivial⟩) fun b es s hok _ => ?_)
 have hle := hok.le;have hlb := bs_len b
 conv => whnf
 have hTb : List.take b.length (List.drop 0 (bs b)) = bs b := by rw [List.drop_zero, <- hlb, List.take_length]
 refine ACalls.frz 0 rfl rfl (by repeat (first | exact trivial | refine And.intro (by omega) ?_)) ?_
 refine ACalls.sub [.sl 1 (bs b) false] _ rfl (.cons (VSub.eq (congrArg (fun z => V.sl 1 z false) hTb)) (VSubs.refl _)) (HSub.refl _) ?_
 refine .pure (R7Events_spec (b := b) (by omega) ⟨rfl, ?_⟩)
 rw [log_evs hok];by_cases hx : 0 <= s.x
 focus
  rw [if_pos hx]
  conv => whnf
  refine .pure (lives07_spec ⟨rfl, ?_⟩)
  conv => whnf
  exact ⟨[], rfl, rfl⟩
 rw [if_neg hx]
 conv => whnf
 refine branch_i (fun c4 => ?_) (fun c4 => ?_) <;> try rw [c4] <;> conv => whnf
 focus
  obtain ⟨A, hA⟩ := abs_w hn (of_decide_eq_true c4);rw [hA];have hA64 : I64 (A : Int) := by rw [<- hA]; exact i64_wrap _
 rotate_left
 focus
  obtain ⟨A, rfl⟩ : ∃ A : Nat, n = A := ⟨n.toNat, by have := of_decide_eq_false c4; omega⟩
  have hA64 := hn
 all_goals
  have hA0 : (0 : Int) <= (A : Int) := by omega
  refine .pure (ACall.args (.cons (may_subN 9 A) (.cons (nils_sl3 false) (VSubs.refl _))) (R6Write_spec (e := mkE 9 A) (l := []) tbsB_nil (mkE_n hA64) (mkE_may rfl hA0) ⟨rfl, ?_⟩))
  conv => whnf
  refine .pure (ACall.args (.cons (may_subN 10 A) (.cons (nils_sl3 false) (VSubs.refl _))) (R6Write_spec (e := mkE 10 A) (l := []) tbsB_nil (mkE_n hA64) (mkE_may rfl hA0) ⟨rfl, ?_⟩));have hev := marks_evs hok (by omega) hA0 hA64
  have w1 := mkE_W (k := 9) rfl hA0 hA64;have w2 := mkE_W (k := 10) rfl hA0 hA64;have fl1 := frm_len (evW (mkE 9 A));have fl2 := frm_len (evW (mkE 10 A));generalize evW (mkE 9 A) = W1 at *;generalize evW (mkE 10 A) = W2 at *;have n1 := numW_len' (W1.length : Int);have n2 := numW_len' (W2.length : Int)
  conv => whnf
  refine .call [] 0 ⟨rfl, rfl, rfl⟩ (ACall.args (.cons (VSub.eq (congrArg (fun z => V.sl 1 z false) hTb)) (VSubs.refl _)) (BlFrame_spec (b := b) (body := W1) (by omega) (by omega) (by omega) ?_))
  have l1 : (b ++ frm W1).length = b.length + (frm W1).length := List.length_append;have l2 : (b ++ frm W1 ++ frm W2).length = (b ++ frm W1).length + (frm W2).length := List.length_append;generalize b ++ frm W1 = B1 at *
  conv => whnf
  have hB1 := bs_len B1;refine .call [1] 1 ⟨rfl, rfl, rfl⟩ (ACall.eat (by omega) rfl (BlFrame_spec (b := B1) (body := W2) (by omega) (by omega) (by omega) ?_))
  generalize B1 ++ frm W2 = C at *;have hC := bs_len C
  conv => whnf
  refine .call [2] 1 ⟨rfl, rfl, rfl⟩ (ACall.eat (by omega) rfl (BlEvents_spec (b := C) (by omega) ?_))
  rw [hev]
  conv => whnf
  rw [decide_eq_true (rfl : (C.length : Int) = (C.length : Int))]
  conv => whnf
  have hel := hok.few;have hE : (evs (evS :: es)).length = es.length + 1 := by rw [evs_len]; rfl
  have hX : (evs (evS :: (es ++ [mkE 9 A] ++ [mkE 10 A]))).length = es.length + 3 := by rw [evs_len]; simp
  have hTk : List.take (((evs (evS :: es)).length : Int)).toNat (evs (evS :: (es ++ [mkE 9 A] ++ [mkE 10 A]))) = evs (evS :: es) := by
   rw [Int.toNat_natCast, show evs (evS :: (es ++ [mkE 9 A] ++ [mkE 10 A])) = evs (evS :: es) ++ evs ([mkE 9 A] ++ [mkE 10 A]) by rw [<- evs_app]; simp, List.take_left]
  have g9 : (evs (evS :: (es ++ [mkE 9 A] ++ [mkE 10 A])))[(((evs (evS :: es)).length : Int)).toNat]? = some (evC (mkE 9 A)) := by
   rw [Int.toNat_natCast, hE]; exact evs_get (by simp)
  have g10 : (evs (evS :: (es ++ [mkE 9 A] ++ [mkE 10 A])))[((es.length + 2 : Nat) : Int).toNat]? = some (evC (mkE 10 A)) := by
   rw [Int.toNat_natCast]; exact evs_get (by simp)
  have hET : ∀ e ∈ evS :: es, EvtT e := fun e he => by
   rcases List.mem_cons.1 he with rfl | he
   . exact evS_T
   . exact run_T (by omega) hok.run sc0_ok e he
  have hEl : (evS :: es).length <= 1000000000 := by simp only [List.length_cons]; omega
  refine branch_i (fun c5 => ?_) (fun c5 => ?_) <;> try rw [c5] <;> conv => whnf
  focus
   have c5' : ¬ (((evs (evS :: (es ++ [mkE 9 A] ++ [mkE 10 A]))).length : Int) = IntKind.i64.wrap (((evs (evS :: es)).length : Int) + 2)) := by simpa using c5
   rw [hE, hX, wrapL (by omega)] at c5'
   omega
  refine ⟨⟨by show (0 : Int) <= ((evs (evS :: es)).length : Int); omega, by show ((evs (evS :: es)).length : Int) <= ((evs (evS :: (es ++ [mkE 9 A] ++ [mkE 10 A]))).length : Int); omega⟩, ?_⟩
  conv => whnf
  rw [hTk];refine .pure (R7Same_spec (l := evS :: es) hEl hET ⟨rfl, ?_⟩)
  conv => whnf
  have hk0 : (0 : Int) <= ((evs (evS :: es)).length : Int) := by omega
  have hk1 : IntKind.i64.wrap (((evs (evS :: es)).length : Int) + 1) = ((es.length + 2 : Nat) : Int) := by rw [hE, wrapL (by omega)]; omega
  refine ⟨_, ⟨hk0, g9⟩, ?_⟩
  conv => whnf
  refine ⟨_, ⟨hk0, g9⟩, ?_⟩
  conv => whnf
  rw [show decide ((mkE 9 (A : Int)).n = (A : Int)) = true from decide_eq_true rfl]
  conv => whnf
  rw [hk1];refine ⟨_, ⟨by omega, g10⟩, ?_⟩
  conv => whnf
  rw [hk1];refine ⟨_, ⟨by omega, g10⟩, ?_⟩
  conv => whnf
  rw [show decide ((mkE 10 (A : Int)).n = (A : Int)) = true from decide_eq_true rfl]
  conv => whnf
  refine .pure (lives07_spec ⟨rfl, ?_⟩)
  conv => whnf
  exact ⟨[], rfl, rfl⟩
end Go.Proofs.YtcdkklgeepkopaaGreatDoorPg
