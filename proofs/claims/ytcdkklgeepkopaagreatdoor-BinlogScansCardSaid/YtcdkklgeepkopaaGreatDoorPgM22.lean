/- Own texts, laid together: Pg07ZDBlJ, Pg07ZDBlK, Pg07ZDEv15, Pg07ZDBlL. -/
import Derived.Test.YtcdkklgeepkopaaGreatDoorPgM21
import Derived.Test.YtcdkklgeepkopaaGreatDoorPgM15
import Derived.Test.YtcdkklgeepkopaaGreatDoorPgM19
import Derived.Test.YtcdkklgeepkopaaGreatDoorPgM20
set_option linter.unusedSimpArgs false
set_option linter.unusedVariables false
namespace Go.Proofs.YtcdkklgeepkopaaGreatDoorPg
open Go Go.RowKit
variable {Q : V -> List O -> Prop}
theorem noU_i (n : Int) : NoU (.int .i64 n) := .int _ _ (by decide)
theorem noU_vals (l : List Val) : NoU (.sl 3 (vals l) false) := .sl _ _ _ fun e he c hc => by
 obtain ⟨v, _, rfl⟩ := List.mem_map.1 he;simp only [valC, colC, List.mem_cons, List.not_mem_nil, or_false] at hc;rcases hc with rfl | rfl | rfl
 . exact noU_i _
 . exact noU_i _
 . exact .str _
theorem noU_cols (l : List Col) : NoU (.sl 3 (cols l) false) := .sl _ _ _ fun e he c hc => by
 obtain ⟨v, _, rfl⟩ := List.mem_map.1 he;simp only [valC, colC, List.mem_cons, List.not_mem_nil, or_false] at hc;rcases hc with rfl | rfl | rfl
 . exact .str _
 . exact noU_i _
 . exact .bool _
theorem noU_tbs (l : List Tb) : NoU (.sl 3 (tbs l) false) := .sl _ _ _ fun e he c hc => by
 obtain ⟨v, _, rfl⟩ := List.mem_map.1 he;simp only [tbC, List.mem_cons, List.not_mem_nil, or_false] at hc;rcases hc with rfl | rfl | rfl
 . exact .str _
 . exact noU_cols _
 . exact noU_i _
theorem noU_ev (e : Evt) : NoU (evA e) := .agg _ fun c hc => by
 simp only [List.mem_cons, List.not_mem_nil, or_false] at hc;rcases hc with rfl | rfl | rfl | rfl | rfl | rfl | rfl | rfl | rfl | rfl | rfl | rfl
 . exact noU_i _
 . exact noU_i _
 . exact .str _
 . exact noU_vals _
 . exact noU_vals _
 . exact noU_i _
 . exact .str _
 . exact noU_cols _
 . exact noU_i _
 . exact .str _
 . exact noU_i _
 . exact .bool _
theorem noU_st (r : Evt × Sc × Int) : NoU (stR r) := .tup _ fun c hc => by
 simp only [List.mem_cons, List.not_mem_nil, or_false] at hc;rcases hc with rfl | rfl | rfl
 . exact noU_ev _
 . refine .agg _ fun c hc => ?_
   simp only [List.mem_cons, List.not_mem_nil, or_false] at hc;rcases hc with rfl | rfl | rfl | rfl
   . exact noU_i _
   . exact noU_tbs _
   . exact noU_tbs _
   . exact noU_i _
 . exact noU_i _
theorem R7StepM_spec {b : List UInt8} {n : Nat} {f : Bool} {s : Sc} (hn : n = b.length) (hb : b.length <= 900000000) (hs : ScOk s) (h : Q (stR (stepS b s)) [.buf (bs b)]) :
 ACall Tryz.prog 19 1 [.ms 1 0 0 n f, scA s] [.buf (bs b)] Q := by
 refine ACall.borrow (by rw [bs_len]; exact hn) (fun r hr => ?_) (fun v hv => ?_) (R7Step_spec hb hs ⟨rfl, noU_st _, h⟩)
 . obtain ⟨x, _, rfl⟩ := List.mem_map.1 hr;exact ⟨_, rfl⟩
 . simp only [List.mem_singleton] at hv;subst hv;exact ClosedV.agg rfl
structure LogOk (b : List UInt8) (es : List Evt) (s : Sc) : Prop where
 len : 7 <= b.length
 st : b.take 7 = start
 run : Run b sc0 es s
 pos : s.a = (b.length : Int)
 sz : b.length <= 7 + 1000020 * es.length
 few : es.length <= 40
theorem LogOk.nil : LogOk start [] sc0 := ⟨by rw [start_len]; omega, by rw [<- start_len, List.take_length], .nil _, by rw [start_len]; rfl, by rw [start_len]; omega, by simp⟩
theorem LogOk.le {b : List UInt8} {es : List Evt} {s : Sc} (h : LogOk b es s) : b.length <= 50000000 := by have := h.sz; have := h.few; omega
theorem LogOk.snoc {b : List UInt8} {es : List Evt} {s : Sc} {w : List UInt8} (h : LogOk b es s) (hw : w.length <= 1000000) (he : es.length < 40) (h0 : (stepS (b ++ frm w) s).2.2 = 0) :
 LogOk (b ++ frm w) (es ++ [(stepS (b ++ frm w) s).1]) (stepS (b ++ frm w) s).2.1 := by
 have hfl := frm_len w;have hnl := numW_len' (w.length : Int);have hsz := h.sz;have hle := h.le;refine ⟨by rw [List.length_append]; have := h.len; omega, by rw [List.take_append_of_le_length h.len]; exact h.st, (h.run.more _ (by omega)).snoc h0, ?_, by rw [List.length_append, List.length_append, List.length_singleton]; omega, by rw [List.length_append, List.length_singleton]; omega⟩
 obtain ⟨x, n, g1, g2, g3, g4, g5⟩ := stepS_ok h0;have hn : nxtL (b ++ frm w) s.a = (w, ((b ++ frm w).length : Int), 0) := by
  rw [h.pos, nxtL_frm (x := w) (r := []) (by omega) (by rw [List.drop_left, List.append_nil])]
  simp
 rw [hn] at g1;cases g1;rw [g5];exact (takeX_ok (h.run.ok sc0_ok).1 g3 g4).2
set_option maxHeartbeats 16000000 in
theorem R7Log_spec {l : List Evt} {f : Bool} (hl : ∀ e ∈ l, EvtT e /\ EvtN e) (hll : l.length <= 9223372036854775807) (R : Nat -> List UInt8 -> List Evt -> Sc -> Prop) (h0 : R 0 start [] sc0)
 (hstep : ∀ i e b es s e', l[i]? = some e -> i < 40 -> R i b es s -> LogOk b es s -> EvtT e' -> EvtN e' -> simE s.h e e' ->
  (mayE e' s.h ≠ 0 -> R (i + 1) b es s) /\ (mayE e' s.h = 0 -> (stepS (b ++ frm (evW e')) s).2.2 ≠ 0 -> R (i + 1) b es s) /\
  (mayE e' s.h = 0 -> (stepS (b ++ frm (evW e')) s).2.2 = 0 -> R (i + 1) (b ++ frm (evW e')) (es ++ [(stepS (b ++ frm (evW e')) s).1]) (stepS (b ++ frm (evW e')) s).2.1))
 (h : ∀ b es s, LogOk b es s -> R (min l.length 40) b es s -> Q (.ms 1 0 0 b.length false) [.buf (bs b)]) : ACall Tryz.prog 15 0 [.sl 12 (evs l) f] [] Q := by
 refine by_body Tryz.func15 0 rfl (Nat.le_of_ble_eq_true rfl) ?_;have hel := evs_len l
 conv => whnf
 refine .call [] 0 ⟨rfl, rfl, rfl⟩ (R7New_spec ?_);have hnil := LogOk.nil;have hst7 := start_len;generalize start = st at *
 conv => whnf
 refine ⟨⟨[0, 3, 4, 5], fun mm ws H => ∃ (i : Nat) (b : List UInt8) (es : List Evt) (s : Sc), ws = [.sl 12 (evs l) f, .ms 1 0 0 b.length false, .ptr 1 0, fI i] /\ H = [.buf (bs b), .cells [fI s.a, .sl 3 (tbs s.l) false, .sl 3 (tbs s.h) false, fI s.x]] /\
  LogOk b es s /\ R i b es s /\ es.length <= i /\ i <= min l.length 40 /\ mm = l.length - i, ?_, ?_⟩⟩
 . refine .frz (l.length + 1) (.sub _ [.buf (bs st), .cells [fI 7, .sl 3 (tbs []) false, .sl 3 (tbs []) false, fI (-1)]] (VSubs.refl _) ?_ (.go [0, 1] rfl l.length (by omega) ⟨0, st, [], sc0, rfl, rfl, hnil, h0, by simp, by omega, rfl⟩))
   rw [hst7];exact .cons (.refl _) (.cons (.cells (.cons (.refl _) (.cons (nils_sl3 false) (.cons (nils_sl3 false) (VSubs.refl _))))) (HSub.refl _))
 rintro mm ws H ⟨i, b, es, s, rfl, rfl, hok, hR, hei, hi, rfl⟩;have hle := hok.le
 conv => whnf
 have fin : i = min l.length 40 -> ∃ sel, selOk sel 2 0 = true /\ Q (renV (idx sel) (.ms 1 0 0 b.length false)) (gather (idx sel) [.buf (bs b), .cells [fI s.a, .sl 3 (tbs s.l) false, .sl 3 (tbs s.h) false, fI s.x]] sel) := fun e => ⟨[0], rfl, h b es s hok (e ▸ hR)⟩
 refine branch_i (fun c1 => ?_) (fun c1 => ?_) <;> try rw [c1] <;> conv => whnf
 rotate_left
 focus
  have c1' := of_decide_eq_false c1;exact fin (by omega)
 have c1' := of_decide_eq_true c1;refine branch_i (fun c2 => ?_) (fun c2 => ?_) <;> try rw [c2] <;> conv => whnf
 rotate_left
 focus
  have c2' := of_decide_eq_false c2;exact fin (by omega)
 have c2' := of_decide_eq_true c2;have hil : i < l.length := by omega
 have hg : l[i]? = some l[i] := List.getElem?_eq_getElem hil;have hme := hl l[i] (List.getElem_mem hil);generalize l[i] = e at *;have hsok := (hok.run.ok sc0_ok).1;refine ⟨List.range 9, by kernel_rfl, by kernel_rfl, ?_⟩
 conv => whnf
 refine ⟨_, ⟨by omega, evs_get hg⟩, ?_⟩
 conv => whnf
 refine .pure (REventS_spec (e := e) (l := s.h) hsok.h hme.1 hme.2 fun e' he1 he2 he3 => ⟨rfl, ?_⟩)
 obtain ⟨r1, r2, r3⟩ := hstep i e b es s e' hg (by omega) hR hok he1 he2 he3
 repeat (conv => whnf
         refine ⟨rfl, ?_⟩)
 conv => whnf
 refine .pure (EvRMay_spec (e := e') (l := s.h) hsok.h he1 ⟨rfl, ?_⟩);have hwl := fun hm : mayE e' s.h = 0 => evW_len hsok.h (mayE_inv hm) he2
 have hwr := fun (hm : mayE e' s.h = 0) {Q : V -> List O -> Prop} (h : Q (.sl 1 (bs (evW e')) false) []) => R6Write_spec (Q := Q) hsok.h he2 hm h
 have nxt : IntKind.i64.wrap ((i : Int) + 1) = ((i + 1 : Nat) : Int) := by rw [wrapL (by omega)]; rfl
 generalize mayE e' s.h = me at *
 conv => whnf
 refine branch_i (fun c3 => ?_) (fun c3 => ?_) <;> try rw [c3] <;> conv => whnf
 . have c3' : me ≠ 0 := by simpa using c3
   refine .go [0, 1] rfl (l.length - (i + 1)) (by omega) ⟨i + 1, b, es, s, ?_, rfl, hok, r1 c3', by omega, by omega, rfl⟩
   show [V.sl 12 (evs l) f, V.ms 1 0 0 b.length false, V.ptr 1 0, V.int .i64 (IntKind.i64.wrap ((i : Int) + 1))] = _
   rw [nxt]
 have c3' : me = 0 := by simpa using c3
 have r2 := r2 c3';have r3 := r3 c3';have hwl := hwl c3';have hsn := hok.snoc hwl (by omega)
 refine app_nilms (X := b) (j := 0) rfl (by omega) ?_
 conv => whnf
 refine .pure (hwr c3' ⟨rfl, ?_⟩);generalize evW e' = w at *;have hfl := frm_len w;have hnl := numW_len' (w.length : Int)
 conv => whnf
 refine .call [] 0 ⟨rfl, rfl, rfl⟩ (R7Frame_spec (body := w) (by omega) ?_)
 generalize frm w = F at *
 conv => whnf
 refine app_bs (i := 3) (j := 4) (X := b) (Y := F) rfl rfl rfl rfl rfl (by omega) ?_
 have hBl : (b ++ F).length = b.length + F.length := List.length_append;generalize b ++ F = B at *
 conv => whnf
 refine .call [5] 1 ⟨rfl, rfl, rfl⟩ (R7StepM_spec (b := B) (s := s) rfl (by omega) hsok ?_)
 generalize stepS B s = R1 at *;obtain ⟨ev, s', g⟩ := R1;simp only at r2 r3 hsn
 conv => whnf
 refine branch_i (fun c4 => ?_) (fun c4 => ?_) <;> try rw [c4] <;> conv => whnf
 . have c4' : g = 0 := of_decide_eq_true c4;refine .go [5, 1] rfl (l.length - (i + 1)) (by omega) ⟨i + 1, B, es ++ [ev], s', ?_, rfl, hsn c4', r3 c4', by rw [List.length_append, List.length_singleton]; omega, by omega, rfl⟩
   show [V.sl 12 (evs l) f, V.ms 1 0 0 B.length false, V.ptr 1 0, V.int .i64 (IntKind.i64.wrap ((i : Int) + 1))] = _
   rw [nxt]
 . have c4' : g ≠ 0 := of_decide_eq_false c4;refine .go [0, 1] rfl (l.length - (i + 1)) (by omega) ⟨i + 1, b, es, s, ?_, rfl, hok, r2 c4', by omega, by omega, rfl⟩
   show [V.sl 12 (evs l) f, V.ms 1 0 0 b.length false, V.ptr 1 0, V.int .i64 (IntKind.i64.wrap ((i : Int) + 1))] = _
   rw [nxt]
end Go.Proofs.YtcdkklgeepkopaaGreatDoorPg
namespace Go.Proofs.YtcdkklgeepkopaaGreatDoorPg
open Go Go.RowKit
variable {Q : V -> List O -> Prop}
theorem evs_of : ∀ {es : List (List V)}, (∀ x ∈ es, ∃ e : Evt, x = evC e /\ EvtT e /\ EvtN e) -> ∃ l : List Evt, es = evs l /\ ∀ e ∈ l, EvtT e /\ EvtN e
 | [], _ => ⟨[], rfl, by simp⟩
 | x :: es, h => by
  obtain ⟨e, rfl, he⟩ := h x (by simp)
  obtain ⟨l, rfl, hl⟩ := evs_of (es := es) fun y hy => h y (by simp [hy])
  refine ⟨e :: l, rfl, fun v hv => ?_⟩
  rcases List.mem_cons.1 hv with rfl | hv
  . exact he
  . exact hl v hv
theorem texts_in {l : List Val} (h : ∀ v ∈ l, ValIn v) : TextsOk l := fun v hv => Nat.lt_of_le_of_lt (h v hv).t (by decide)
theorem ev_cells {vs : List V} (h : Shp tt 8 49 vs) : ∃ e : Evt, vs = evC e /\ EvtT e /\ EvtN e := by
 obtain ⟨_, _, ⟨k, hk, rfl⟩, ⟨_, _, ⟨n, hn, rfl⟩, ⟨_, _, ⟨t, _, rfl⟩, ⟨_, _, ⟨eb, heb, gb, rfl⟩, ⟨_, _, ⟨ea, hea, ga, rfl⟩, ⟨_, _, hch, rfl, rfl⟩, rfl⟩, rfl⟩, rfl⟩, rfl⟩, rfl⟩ := h;obtain ⟨_, _, ⟨ck, hck, rfl⟩, ⟨_, _, ⟨ct, _, rfl⟩, ⟨_, _, ⟨_, _, ⟨es, hes, g1, rfl⟩, ⟨_, _, ⟨ks, hks, rfl⟩, rfl, rfl⟩, rfl⟩, ⟨_, _, ⟨_, _, ⟨cn, _, rfl⟩, ⟨_, _, ⟨cck, hcck, rfl⟩, ⟨_, _, ⟨o, rfl⟩, rfl, rfl⟩, rfl⟩, rfl⟩, rfl, rfl⟩, rfl⟩, rfl⟩, rfl⟩ := hch;obtain ⟨l, rfl, hl⟩ := cols_of fun x hx => by
  obtain ⟨_, _, ⟨s, _, rfl⟩, ⟨_, _, ⟨k, hk, rfl⟩, ⟨_, _, ⟨o, rfl⟩, rfl, rfl⟩, rfl⟩, rfl⟩ := g1 x hx;exact ⟨s, k, o, rfl, i64_wf hk⟩
 obtain ⟨lb, rfl, hlb⟩ := evals_of fun x hx => by
  obtain ⟨_, _, ⟨k, hk, rfl⟩, ⟨_, _, ⟨n, hn, rfl⟩, ⟨_, _, ⟨s, hs, rfl⟩, rfl, rfl⟩, rfl⟩, rfl⟩ := gb x hx;exact ⟨k, n, s, rfl, i64_wf hk, i64_wf hn, hs⟩
 obtain ⟨la, rfl, hla⟩ := evals_of fun x hx => by
  obtain ⟨_, _, ⟨k, hk, rfl⟩, ⟨_, _, ⟨n, hn, rfl⟩, ⟨_, _, ⟨s, hs, rfl⟩, rfl, rfl⟩, rfl⟩, rfl⟩ := ga x hx;exact ⟨k, n, s, rfl, i64_wf hk, i64_wf hn, hs⟩
 rw [vals_len] at heb hea;rw [cols_len] at hes;have hmx : maxLen < 9223372036854775808 := by decide
 exact ⟨⟨k, n, t, lb, la, ⟨ck, ct, l, ks, ⟨cn, cck, o⟩⟩⟩, rfl, ⟨texts_in hlb, texts_in hla, Nat.lt_of_le_of_lt heb hmx, Nat.lt_of_le_of_lt hea hmx, Nat.lt_of_le_of_lt hes hmx⟩, ⟨i64_wf hn, fun v hv => (hlb v hv).n, fun v hv => (hla v hv).n⟩⟩
theorem evs_in {vs : List V} (h : Shp tt 8 31 vs) : ∃ l : List Evt, argV tt 31 vs = .sl 12 (evs l) false /\ l.length <= 9223372036854775807 /\ ∀ e ∈ l, EvtT e /\ EvtN e := by
 obtain ⟨es, hes, g1, rfl⟩ := h;obtain ⟨l, rfl, hl⟩ := evs_of fun x hx => ev_cells (g1 x hx)
 rw [evs_len] at hes;exact ⟨l, rfl, hes, hl⟩
theorem run_T {b : List UInt8} {s s2 : Sc} {es : List Evt} (hb : b.length <= 900000000) (h : Run b s es s2) (hs : ScOk s) : ∀ e ∈ es, EvtT e := by
 induction h with
 | nil s => exact fun e h => by cases h
 | cons h t ih =>
  have h2 := (stepS_inv hs h).1;obtain ⟨w, n, g1, g2, g3, g4, g5⟩ := stepS_ok h;intro e he;rcases List.mem_cons.1 he with rfl | he
  . rw [g5];obtain ⟨k1, r, k2, k3, k4, k5⟩ := nxtL_ok g1;refine prdR_T hs.h ?_;have := congrArg List.length k2;rw [List.length_drop, List.length_append] at this;have hf := frm_len w;omega
  . exact ih h2 e he
end Go.Proofs.YtcdkklgeepkopaaGreatDoorPg
namespace Go.Proofs.YtcdkklgeepkopaaGreatDoorPg
open Go Go.RowKit
variable {Q : V -> List O -> Prop}
theorem RSameT_self {l : List Tb} {f f2 : Bool} (hl : l.length <= 64) (hc : ∀ x ∈ l, x.c.length < 1000000) (h : Q (.bool true) []) : ACall Tryz.prog 23 0 [.sl 3 (tbs l) f, .sl 3 (tbs l) f2] [] Q := by
 refine by_body Tryz.func23 0 rfl (Nat.le_of_ble_eq_true rfl) ?_
 conv => whnf
 have hlv := tbs_len l;rw [decide_eq_true (rfl : (((tbs l).length : Nat) : Int) = (((tbs l).length : Nat) : Int))]
 conv => whnf
 refine ⟨⟨[0, 1, 5], fun m ws H => ∃ i : Nat, ws = [.sl 3 (tbs l) f, .sl 3 (tbs l) f2, fI i] /\ H = [] /\ i <= l.length /\ m = l.length - i, .at l.length ⟨0, rfl, rfl, Nat.zero_le _, rfl⟩, ?_⟩⟩
 rintro m ws H ⟨i, rfl, rfl, hi, rfl⟩
 conv => whnf
 refine branch_i (fun c1 => ?_) (fun c1 => ?_) <;> try rw [c1] <;> conv => whnf
 rotate_left
 focus
  exact ⟨[], rfl, h⟩
 have c1' := of_decide_eq_true c1;have hlt : i < l.length := by omega
 have hg : l[i]? = some l[i] := List.getElem?_eq_getElem hlt;have hcw := hc l[i] (List.getElem_mem hlt);generalize l[i] = w at *;refine ⟨List.range 12, by kernel_rfl, by kernel_rfl, ?_⟩
 conv => whnf
 refine ⟨_, ⟨by omega, tbs_get hg⟩, ?_⟩
 conv => whnf
 refine ⟨_, ⟨by omega, tbs_get hg⟩, ?_⟩
 conv => whnf
 refine .pure (RSame_spec (l := w.c) (k := w.k) (l2 := w.c) (k2 := w.k) (Nat.lt_trans hcw (by decide)) ⟨rfl, ?_⟩)
 rw [show sameS w.c w.k w.c w.k = true by simp [sameS]]
 repeat (conv => whnf
         first | (refine ⟨rfl, ?_⟩) | (refine ⟨⟨_, ⟨by omega, tbs_get hg⟩, rfl⟩, ?_⟩))
 conv => whnf
 refine ⟨List.range 15, by kernel_rfl, by kernel_rfl, ?_⟩
 conv => whnf
 refine ⟨_, ⟨by omega, tbs_get hg⟩, ?_⟩
 conv => whnf
 refine ⟨_, ⟨by omega, tbs_get hg⟩, ?_⟩
 conv => whnf
 rw [decide_eq_true (rfl : w.n = w.n)]
 repeat (conv => whnf
         first | (refine ⟨rfl, ?_⟩) | (refine ⟨⟨_, ⟨by omega, tbs_get hg⟩, rfl⟩, ?_⟩))
 conv => whnf
 refine .go [] rfl (l.length - (i + 1)) (by omega) ⟨i + 1, ?_, rfl, by omega, rfl⟩
 show [V.sl 3 (tbs l) f, .sl 3 (tbs l) f2, V.int .i64 (IntKind.i64.wrap ((i : Int) + 1))] = _
 rw [wrapE (by omega)]; rfl
end Go.Proofs.YtcdkklgeepkopaaGreatDoorPg
namespace Go.Proofs.YtcdkklgeepkopaaGreatDoorPg
open Go Go.RowKit
variable {Q : V -> List O -> Prop}
theorem stepS_T {b : List UInt8} {s : Sc} (hb : b.length <= 900000000) (hs : ScOk s) : EvtT (stepS b s).1 := by
 by_cases h : (stepS b s).2.2 = 0
 . exact run_T hb (.cons h (.nil _)) hs _ (List.mem_singleton.2 rfl)
 . rw [(stepS_err h).1]; exact evt0 _ _ _
theorem abs_w {n : Int} (h : I64 n) (hn : n < 0) : ∃ A : Nat, IntKind.i64.wrap (0 - IntKind.i64.wrap (n + 1)) = (A : Int) := by
 obtain ⟨A, hA⟩ := abs_i h;exact ⟨A, hA.resolve_right fun h => h hn⟩
theorem sc_init (x0 x3 : V) : VSubs [x0, .nils, .nils, x3] [x0, .sl 3 (tbs []) false, .sl 3 (tbs []) false, x3] := .cons (.refl _) (.cons (nils_sl3 false) (.cons (nils_sl3 false) (VSubs.refl _)))
set_option maxHeartbeats 16000000 in
theorem BinlogScans_spec {l : List Evt} {a by1 cut : Int} {f1 : Bool} (hl : ∀ e ∈ l, EvtT e /\ EvtN e) (hll : l.length <= 9223372036854775807) (ha : I64 a) (hc : I64 cut) : ACall Tryz.prog 4 0 [.sl 12 (evs l) f1, fI a, fI by1, fI cut] [] (fun v _ => v = .bool true) := by
 refine by_body Tryz.func4 0 rfl (Nat.le_of_ble_eq_true rfl) ?_
 conv => whnf
 refine .call [] 0 ⟨rfl, rfl, rfl⟩ (R7Log_spec hl hll (fun _ _ _ _ => True) trivial (fun _ _ _ _ _ _ _ _ _ _ _ _ _ => ⟨fun _ => trivial, fun _ _ => trivial, fun _ _ => trivial⟩) fun b es s hok _ => ?_)
 have hle := hok.le;have hlb := bs_len b;have h7 := hok.len;clear hok
 conv => whnf
 refine branch_i (fun c1 => ?_) (fun c1 => ?_) <;> try rw [c1] <;> conv => whnf
 focus
  obtain ⟨A, hA⟩ := abs_w ha (of_decide_eq_true c1);rw [hA]
 rotate_left
 focus
  obtain ⟨A, rfl⟩ : ∃ A : Nat, a = A := ⟨a.toNat, by have := of_decide_eq_false c1; omega⟩
 all_goals
  refine branch_i (fun c2 => ?_) (fun c2 => ?_) <;> try rw [c2] <;> conv => whnf
  focus
   obtain ⟨B, hB⟩ := abs_w hc (of_decide_eq_true c2);rw [hB]
  rotate_left
  focus
   obtain ⟨B, rfl⟩ : ∃ B : Nat, cut = B := ⟨cut.toNat, by have := of_decide_eq_false c2; omega⟩
 all_goals
  refine .call [] 0 ⟨rfl, rfl, rfl⟩ (R7New_spec ?_);have hsl := start_len;generalize start = st at *;have hls := bs_len st
  conv => whnf
  rw [hsl];have e1 : IntKind.i64.wrap (IntKind.i64.wrap ((b.length : Int) - (7 : Nat)) + 1) = ((b.length - 7 + 1 : Nat) : Int) := by rw [wrapL (n := (b.length : Int) - (7 : Nat)) (by omega), wrapL (by omega)]; omega
  rw [e1];refine ⟨by omega, ?_⟩
  have e2 : Int.tmod (B : Int) ((b.length - 7 + 1 : Nat) : Int) = ((B % (b.length - 7 + 1) : Nat) : Int) := rfl;have hjl : B % (b.length - 7 + 1) <= b.length - 7 := by have := Nat.mod_lt B (show 0 < b.length - 7 + 1 by omega); omega
  rw [e2];generalize B % (b.length - 7 + 1) = j at *
  conv => whnf
  have e3 : IntKind.i64.wrap ((b.length : Int) - (j : Int)) = ((b.length - j : Nat) : Int) := by rw [wrapL (by omega)]; omega
  rw [e3];have hn : b.length - j <= b.length /\ 7 <= b.length - j := by omega
  generalize b.length - j = n at *;refine ⟨⟨by omega, by omega⟩, ?_⟩
  conv => whnf
  rw [Int.toNat_natCast];have e4 : IntKind.i64.wrap (IntKind.i64.wrap ((n : Int) - (7 : Nat)) + 1) = ((n - 7 + 1 : Nat) : Int) := by rw [wrapL (n := (n : Int) - (7 : Nat)) (by omega), wrapL (by omega)]; omega
  rw [e4];refine ⟨by omega, ?_⟩
  have e5 : Int.tmod (A : Int) ((n - 7 + 1 : Nat) : Int) = ((A % (n - 7 + 1) : Nat) : Int) := rfl;have hkl : A % (n - 7 + 1) <= n - 7 := by have := Nat.mod_lt A (show 0 < n - 7 + 1 by omega); omega
  rw [e5];generalize A % (n - 7 + 1) = j2 at *
  conv => whnf
  have e6 : IntKind.i64.wrap ((7 : Nat) + (j2 : Int)) = ((7 + j2 : Nat) : Int) := by rw [wrapL (by omega)]; omega
  rw [e6];have hk : 7 + j2 <= n := by omega
  generalize 7 + j2 = k at *;refine branch_i (fun c3 => ?_) (fun c3 => ?_) <;> try rw [c3] <;> conv => whnf
  focus
   have c3' := of_decide_eq_true c3;have hkb : k < b.length := by omega
   have hg : b[k]? = some b[k] := List.getElem?_eq_getElem hkb;generalize b[k] = x at *;refine ⟨⟨by omega, by omega⟩, ?_⟩
   conv => whnf
   refine ⟨_, bs_at hg, ?_⟩
   conv => whnf
   refine ⟨⟨by omega, by omega⟩, ?_⟩
   conv => whnf
   refine ⟨_, bs_at hg, ?_⟩
   conv => whnf
   have hset : ∃ C : List UInt8, List.take n (List.drop 0 ((bs b).set k [.int .u8 (IntKind.u8.wrap ↑(BitVec.ofInt IntKind.u8.bits (x.toNat : Int) ^^^ BitVec.ofInt IntKind.u8.bits (IntKind.u8.wrap by1)).toNat)])) = bs C /\ C.length = n :=
    ⟨(b.set k _).take n, by rw [b8_wrap, bs_set, List.drop_zero]; exact List.map_take.symm, by rw [List.length_take, List.length_set]; omega⟩
   obtain ⟨C, hTC, hcn⟩ := hset;refine ACalls.frz 0 rfl rfl (by repeat (first | exact trivial | refine And.intro (by rw [List.length_set, hlb]; omega) ?_)) ?_
  rotate_left
  focus
   have hset : ∃ C : List UInt8, List.take n (List.drop 0 (bs b)) = bs C /\ C.length = n := ⟨b.take n, by rw [List.drop_zero]; exact List.map_take.symm, by rw [List.length_take]; omega⟩
   obtain ⟨C, hTC, hcn⟩ := hset;refine ACalls.frz 0 rfl rfl (by repeat (first | exact trivial | refine And.intro (by omega) ?_)) ?_
 all_goals
  refine ACalls.sub [.sl 1 (bs C) false, fI 7, .sl 3 (tbs []) false] _ rfl (.cons (VSub.eq (congrArg (fun z => V.sl 1 z false) hTC)) (.cons (.refl _) (.cons (nils_sl3 false) (VSubs.refl _)))) (HSub.refl _) ?_
  refine .call [] 0 ⟨rfl, rfl, rfl⟩ (BlScan_spec (b := C) (a := 7) (l := []) (fun e => by rw [e] at hcn; simp at hcn; omega) (by omega) tbsB_nil ?_)
  conv => whnf
  refine ⟨⟨[9, 12, 13, 14], fun mm ws H => ∃ (i : Nat) (s : Sc) (num : Int), ws = [.sl 1 (bs C) false, .ptr 0 0, .ptr 1 0, fI i] /\ H = [scO C s num, .cells [fI s.a, .sl 3 (tbs s.l) false, .sl 3 (tbs s.h) false, fI s.x]] /\ ScOk s /\ numOk s num /\ i <= 60 /\ mm = 60 - i, ?_, ?_⟩⟩
  focus
   refine .frz 61 (.sub [.sl 1 (bs C) false, .ptr 2 0, .ptr 3 0, fI 0] [.dead, .buf (bs st), scO C sc0 0, .cells [fI 7, .sl 3 (tbs []) false, .sl 3 (tbs []) false, fI (-1)]] (.cons (VSub.eq (congrArg (fun z => V.sl 1 z false) hTC)) (VSubs.refl _)) (.cons (.dead _) (.cons (.refl _) (.cons (.refl _) (.cons (.cells (sc_init _ _)) (HSub.refl _))))) (.go [2, 3] rfl 60 (by omega) ⟨0, sc0, 0, rfl, rfl, sc0_ok, fun hx => by simp [sc0] at hx, by omega, rfl⟩))
  rintro mm ws H ⟨i, s, num, rfl, rfl, hs, hnum, hi, rfl⟩
  conv => whnf
  refine branch_i (fun c4 => ?_) (fun c4 => ?_) <;> try rw [c4] <;> conv => whnf
  rotate_left
  focus
   refine .pure (lives07_spec ⟨rfl, ?_⟩)
   conv => whnf
   exact ⟨[], rfl, rfl⟩
  have c4' := of_decide_eq_true c4;refine .call [0] 1 ⟨rfl, rfl, rfl⟩ (BlSNext_spec (b := C) (s := s) (num := num) (by omega) hs hnum fun num' hn' => ?_)
  have hT := stepS_T (b := C) (s := s) (by omega) hs
  have hs' := stepS_any (b := C) hs;have hst := fun {f : Bool} {Q : V -> List O -> Prop} h => R7Step_spec (b := C) (f := f) (s := s) (Q := Q) (by omega) hs h
  generalize stepS C s = R at *;obtain ⟨ev, s', g⟩ := R;have hT : EvtT ev := hT;have hs' : ScOk s' := hs';have hn' : numOk s' num' := hn'
  conv => whnf
  refine .pure (hst ⟨rfl, ?_⟩)
  conv => whnf
  rw [decide_eq_true (rfl : g = g)]
  conv => whnf
  refine .pure (EvRSame_spec (a := ev) (b := ev) hT.lb hT.la hT.lc ⟨rfl, ?_⟩);rw [decide_eq_true (rfl : ev = ev)]
  conv => whnf
  refine ⟨[0, 2, 3, 1, 4, 5, 6, 8, 9, 10, 7, 11, 12, 13, 14, 16, 17, 15, 18, 19, 20], by kernel_rfl, by kernel_rfl, ?_⟩
  conv => whnf
  refine .call [0] 1 ⟨rfl, rfl, rfl⟩ (BlAt_spec (b := C) (s := s') (num := num') ?_)
  repeat (conv => whnf
          refine ⟨rfl, ?_⟩)
  conv => whnf
  rw [decide_eq_true (rfl : s'.a = (ev, s', g).2.1.a)]
  conv => whnf
  refine .call [0] 1 ⟨rfl, rfl, rfl⟩ (BlOpen_spec (b := C) (s := s') (num := num') ?_)
  repeat (conv => whnf
          refine ⟨rfl, ?_⟩)
  conv => whnf
  rw [show (decide (0 <= s'.x) == decide (0 <= (ev, s', g).2.1.x)) = true from beq_self_eq_true _]
  conv => whnf
  refine .call [0] 1 ⟨rfl, rfl, rfl⟩ (BlTables_spec (b := C) (s := s') (num := num') hs'.h ?_)
  repeat (conv => whnf
          refine ⟨rfl, ?_⟩)
  conv => whnf
  refine .pure (RSameT_self (l := s'.h) hs'.h.few (fun x hx => by have := hs'.h.cols x hx; omega) ⟨rfl, ?_⟩)
  repeat (conv => whnf
          refine ⟨rfl, ?_⟩)
  conv => whnf
  have fin : ∀ x : V, x = .int .i64 (IntKind.i64.wrap ((i : Int) + 1)) -> x = fI (i + 1 : Nat) := fun x h => by rw [h, wrapL (by omega)]; rfl
  refine branch_i (fun c5 => ?_) (fun c5 => ?_) <;> try rw [c5] <;> conv => whnf
  focus
   refine branch_i (fun c6 => ?_) (fun c6 => ?_) <;> try rw [c6] <;> conv => whnf
   focus
    refine .pure (lives07_spec ⟨rfl, ?_⟩)
    conv => whnf
    exact ⟨[], rfl, rfl⟩
   exact .go [0, 1] rfl (60 - (i + 1)) (by omega) ⟨i + 1, s', num', congrArg (fun z => [V.sl 1 (bs C) false, .ptr 0 0, .ptr 1 0, z]) (fin _ rfl), rfl, hs', hn', by omega, rfl⟩
  exact .go [0, 1] rfl (60 - (i + 1)) (by omega) ⟨i + 1, s', num', congrArg (fun z => [V.sl 1 (bs C) false, .ptr 0 0, .ptr 1 0, z]) (fin _ rfl), rfl, hs', hn', by omega, rfl⟩
end Go.Proofs.YtcdkklgeepkopaaGreatDoorPg
