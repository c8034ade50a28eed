/- Own texts, laid together: Pg07ZDBlJ, Pg07ZDBlK, Pg07ZDEv15, Pg07ZDBlL, Pg07ZDBlM. -/
import Derived.Test.YtcdkklgeepkopaaGreatDoorPgM21
import Derived.Test.YtcdkklgeepkopaaGreatDoorPgM15
import Derived.Test.YtcdkklgeepkopaaGreatDoorPgM19
import Derived.Test.YtcdkklgeepkopaaGreatDoorPgM20
set_option linter.unusedSimpArgs false
set_option linter.unusedVariables false
namespace Go.Proofs.YtcdkklgeepkopaaGreatDoorPg
open Go Go.RowKit
variable {Q : V -> List O -> Prop}
theorem noU_i (n : Int) : NoU (.int .i64 n) := .int _ _ (by decide)
theorem noU_vals (l : List Val) : NoU (.sl 3 (vals l) false) := .sl _ _ _ fun e he c hc => by
 obtain ⟨v, _, rfl⟩ := List.mem_map.1 he;simp only [valC, colC, List.mem_cons, List.not_mem_nil, or_false] at hc;rcases hc with rfl | rfl | rfl
 . exact noU_i _
 . exact noU_i _
 . exact .str _
theorem noU_cols (l : List Col) : NoU (.sl 3 (cols l) false) := .sl _ _ _ fun e he c hc => by
 obtain ⟨v, _, rfl⟩ := List.mem_map.1 he;simp only [valC, colC, List.mem_cons, List.not_mem_nil, or_false] at hc;rcases hc with rfl | rfl | rfl
 . exact .str _
 . exact noU_i _
 . exact .bool _
theorem noU_tbs (l : List Tb) : NoU (.sl 3 (tbs l) false) := .sl _ _ _ fun e he c hc => by
 obtain ⟨v, _, rfl⟩ := List.mem_map.1 he;simp only [tbC, List.mem_cons, List.not_mem_nil, or_false] at hc;rcases hc with rfl | rfl | rfl
 . exact .str _
 . exact noU_cols _
 . exact noU_i _
theorem noU_ev (e : Evt) : NoU (evA e) := .agg _ fun c hc => by
 simp only [List.mem_cons, List.not_mem_nil, or_false] at hc;rcases hc with rfl | rfl | rfl | rfl | rfl | rfl | rfl | rfl | rfl | rfl | rfl | rfl
 . exact noU_i _
 . exact noU_i _
 . exact .str _
 . exact noU_vals _
 . exact noU_vals _
 . exact noU_i _
 . exact .str _
 . exact noU_cols _
 . exact noU_i _
 . exact .str _
 . exact noU_i _
 . exact .bool _
theorem noU_st (r : Evt × Sc × Int) : NoU (stR r) := .tup _ fun c hc => by
 simp only [List.mem_cons, List.not_mem_nil, or_false] at hc;rcases hc with rfl | rfl | rfl
 . exact noU_ev _
 . refine .agg _ fun c hc => ?_
   simp only [List.mem_cons, List.not_mem_nil, or_false] at hc;rcases hc with rfl | rfl | rfl | rfl
   . exact noU_i _
   . exact noU_tbs _
   . exact noU_tbs _
   . exact noU_i _
 . exact noU_i _
theorem R7StepM_spec {b : List UInt8} {n : Nat} {f : Bool} {s : Sc} (hn : n = b.length) (hb : b.length <= 900000000) (hs : ScOk s) (h : Q (stR (stepS b s)) [.buf (bs b)]) :
 ACall Tryz.prog 19 1 [.ms 1 0 0 n f, scA s] [.buf (bs b)] Q := by
 refine ACall.borrow (by rw [bs_len]; exact hn) (fun r hr => ?_) (fun v hv => ?_) (R7Step_spec hb hs ⟨rfl, noU_st _, h⟩)
 . obtain ⟨x, _, rfl⟩ := List.mem_map.1 hr;exact ⟨_, rfl⟩
 . simp only [List.mem_singleton] at hv;subst hv;exact ClosedV.agg rfl
structure LogOk (b : List UInt8) (es : List Evt) (s : Sc) : Prop where
 len : 7 <= b.length
 st : b.take 7 = start
 run : Run b sc0 es s
 pos : s.a = (b.length : Int)
 sz : b.length <= 7 + 1000020 * es.length
 few : es.length <= 40
theorem LogOk.nil : LogOk start [] sc0 := ⟨by rw [start_len]; omega, by rw [<- start_len, List.take_length], .nil _, by rw [start_len]; rfl, by rw [start_len]; omega, by simp⟩
theorem LogOk.le {b : List UInt8} {es : List Evt} {s : Sc} (h : LogOk b es s) : b.length <= 50000000 := by have := h.sz; have := h.few; omega
theorem LogOk.snoc {b : List UInt8} {es : List Evt} {s : Sc} {w : List UInt8} (h : LogOk b es s) (hw : w.length <= 1000000) (he : es.length < 40) (h0 : (stepS (b ++ frm w) s).2.2 = 0) :
 LogOk (b ++ frm w) (es ++ [(stepS (b ++ frm w) s).1]) (stepS (b ++ frm w) s).2.1 := by
 have hfl := frm_len w;have hnl := numW_len' (w.length : Int);have hsz := h.sz;have hle := h.le;refine ⟨by rw [List.length_append]; have := h.len; omega, by rw [List.take_append_of_le_length h.len]; exact h.st, (h.run.more _ (by omega)).snoc h0, ?_, by rw [List.length_append, List.length_append, List.length_singleton]; omega, by rw [List.length_append, List.length_singleton]; omega⟩
 obtain ⟨x, n, g1, g2, g3, g4, g5⟩ := stepS_ok h0;have hn : nxtL (b ++ frm w) s.a = (w, ((b ++ frm w).length : Int), 0) := by
  rw [h.pos, nxtL_frm (x := w) (r := []) (by omega) (by rw [List.drop_left, List.append_nil])]
  simp
 rw [hn] at g1;cases g1;rw [g5];exact (takeX_ok (h.run.ok sc0_ok).1 g3 g4).2
set_option maxHeartbeats 16000000 in
theorem R7Log_spec {l : List Evt} {f : Bool} (hl : ∀ e ∈ l, EvtT e /\ EvtN e) (hll : l.length <= 9223372036854775807) (R : Nat -> List UInt8 -> List Evt -> Sc -> Prop) (h0 : R 0 start [] sc0)
 (hstep : ∀ i e b es s e', l[i]? = some e -> i < 40 -> R i b es s -> LogOk b es s -> EvtT e' -> EvtN e' -> simE s.h e e' ->
  (mayE e' s.h ≠ 0 -> R (i + 1) b es s) /\ (mayE e' s.h = 0 -> (stepS (b ++ frm (evW e')) s).2.2 ≠ 0 -> R (i + 1) b es s) /\
  (mayE e' s.h = 0 -> (stepS (b ++ frm (evW e')) s).2.2 = 0 -> R (i + 1) (b ++ frm (evW e')) (es ++ [(stepS (b ++ frm (evW e')) s).1]) (stepS (b ++ frm (evW e')) s).2.1))
 (h : ∀ b es s, LogOk b es s -> R (min l.length 40) b es s -> Q (.ms 1 0 0 b.length false) [.buf (bs b)]) : ACall Tryz.prog 15 0 [.sl 12 (evs l) f] [] Q := by
 refine by_body Tryz.func15 0 rfl (Nat.le_of_ble_eq_true rfl) ?_;have hel := evs_len l
 conv => whnf
 refine .call [] 0 ⟨rfl, rfl, rfl⟩ (R7New_spec ?_);have hnil := LogOk.nil;have hst7 := start_len;generalize start = st at *
 conv => whnf
 refine ⟨⟨[0, 3, 4, 5], fun mm ws H => ∃ (i : Nat) (b : List UInt8) (es : List Evt) (s : Sc), ws = [.sl 12 (evs l) f, .ms 1 0 0 b.length false, .ptr 1 0, fI i] /\ H = [.buf (bs b), .cells [fI s.a, .sl 3 (tbs s.l) false, .sl 3 (tbs s.h) false, fI s.x]] /\
  LogOk b es s /\ R i b es s /\ es.length <= i /\ i <= min l.length 40 /\ mm = l.length - i, ?_, ?_⟩⟩
 . refine .frz (l.length + 1) (.sub _ [.buf (bs st), .cells [fI 7, .sl 3 (tbs []) false, .sl 3 (tbs []) false, fI (-1)]] (VSubs.refl _) ?_ (.go [0, 1] rfl l.length (by omega) ⟨0, st, [], sc0, rfl, rfl, hnil, h0, by simp, by omega, rfl⟩))
   rw [hst7];exact .cons (.refl _) (.cons (.cells (.cons (.refl _) (.cons (nils_sl3 false) (.cons (nils_sl3 false) (VSubs.refl _))))) (HSub.refl _))
 rintro mm ws H ⟨i, b, es, s, rfl, rfl, hok, hR, hei, hi, rfl⟩;have hle := hok.le
 conv => whnf
 have fin : i = min l.length 40 -> ∃ sel, selOk sel 2 0 = true /\ Q (renV (idx sel) (.ms 1 0 0 b.length false)) (gather (idx sel) [.buf (bs b), .cells [fI s.a, .sl 3 (tbs s.l) false, .sl 3 (tbs s.h) false, fI s.x]] sel) := fun e => ⟨[0], rfl, h b es s hok (e ▸ hR)⟩
 refine branch_i (fun c1 => ?_) (fun c1 => ?_) <;> try rw [c1] <;> conv => whnf
 rotate_left
 focus
  have c1' := of_decide_eq_false c1;exact fin (by omega)
 have c1' := of_decide_eq_true c1;refine branch_i (fun c2 => ?_) (fun c2 => ?_) <;> try rw [c2] <;> conv => whnf
 rotate_left
 focus
  have c2' := of_decide_eq_false c2;exact fin (by omega)
 have c2' := of_decide_eq_true c2;have hil : i < l.length := by omega
 have hg : l[i]? = some l[i] := List.getElem?_eq_getElem hil;have hme := hl l[i] (List.getElem_mem hil);generalize l[i] = e at *;have hsok := (hok.run.ok sc0_ok).1;refine ⟨List.range 9, by kernel_rfl, by kernel_rfl, ?_⟩
 conv => whnf
 refine ⟨_, ⟨by omega, evs_get hg⟩, ?_⟩
 conv => whnf
 refine .pure (REventS_spec (e := e) (l := s.h) hsok.h hme.1 hme.2 fun e' he1 he2 he3 => ⟨rfl, ?_⟩)
 obtain ⟨r1, r2, r3⟩ := hstep i e b es s e' hg (by omega) hR hok he1 he2 he3
 repeat (conv => whnf
         refine ⟨rfl, ?_⟩)
 conv => whnf
 refine .pure (EvRMay_spec (e := e') (l := s.h) hsok.h he1 ⟨rfl, ?_⟩);have hwl := fun hm : mayE e' s.h = 0 => evW_len hsok.h (mayE_inv hm) he2
 have hwr := fun (hm : mayE e' s.h = 0) {Q : V -> List O -> Prop} (h : Q (.sl 1 (bs (evW e')) false) []) => R6Write_spec (Q := Q) hsok.h he2 hm h
 have nxt : IntKind.i64.wrap ((i : Int) + 1) = ((i + 1 : Nat) : Int) := by rw [wrapL (by omega)]; rfl
 generalize mayE e' s.h = me at *
 conv => whnf
 refine branch_i (fun c3 => ?_) (fun c3 => ?_) <;> try rw [c3] <;> conv => whnf
 . have c3' : me ≠ 0 := by simpa using c3
   refine .go [0, 1] rfl (l.length - (i + 1)) (by omega) ⟨i + 1, b, es, s, ?_, rfl, hok, r1 c3', by omega, by omega, rfl⟩
   show [V.sl 12 (evs l) f, V.ms 1 0 0 b.length false, V.ptr 1 0, V.int .i64 (IntKind.i64.wrap ((i : Int) + 1))] = _
   rw [nxt]
 have c3' : me = 0 := by simpa using c3
 have r2 := r2 c3';have r3 := r3 c3';have hwl := hwl c3';have hsn := hok.snoc hwl (by omega)
 refine app_nilms (X := b) (j := 0) rfl (by omega) ?_
 conv => whnf
 refine .pure (hwr c3' ⟨rfl, ?_⟩);generalize evW e' = w at *;have hfl := frm_len w;have hnl := numW_len' (w.length : Int)
 conv => whnf
 refine .call [] 0 ⟨rfl, rfl, rfl⟩ (R7Frame_spec (body := w) (by omega) ?_)
 generalize frm w = F at *
 conv => whnf
 refine app_bs (i := 3) (j := 4) (X := b) (Y := F) rfl rfl rfl rfl rfl (by omega) ?_
 have hBl : (b ++ F).length = b.length + F.length := List.length_append;generalize b ++ F = B at *
 conv => whnf
 refine .call [5] 1 ⟨rfl, rfl, rfl⟩ (R7StepM_spec (b := B) (s := s) rfl (by omega) hsok ?_)
 generalize stepS B s = R1 at *;obtain ⟨ev, s', g⟩ := R1;simp only at r2 r3 hsn
 conv => whnf
 refine branch_i (fun c4 => ?_) (fun c4 => ?_) <;> try rw [c4] <;> conv => whnf
 . have c4' : g = 0 := of_decide_eq_true c4;refine .go [5, 1] rfl (l.length - (i + 1)) (by omega) ⟨i + 1, B, es ++ [ev], s', ?_, rfl, hsn c4', r3 c4', by rw [List.length_append, List.length_singleton]; omega, by omega, rfl⟩
   show [V.sl 12 (evs l) f, V.ms 1 0 0 B.length false, V.ptr 1 0, V.int .i64 (IntKind.i64.wrap ((i : Int) + 1))] = _
   rw [nxt]
 . have c4' : g ≠ 0 := of_decide_eq_false c4;refine .go [0, 1] rfl (l.length - (i + 1)) (by omega) ⟨i + 1, b, es, s, ?_, rfl, hok, r2 c4', by omega, by omega, rfl⟩
   show [V.sl 12 (evs l) f, V.ms 1 0 0 b.length false, V.ptr 1 0, V.int .i64 (IntKind.i64.wrap ((i : Int) + 1))] = _
   rw [nxt]
end Go.Proofs.YtcdkklgeepkopaaGreatDoorPg
namespace Go.Proofs.YtcdkklgeepkopaaGreatDoorPg
open Go Go.RowKit
variable {Q : V -> List O -> Prop}
theorem evs_of : ∀ {es : List (List V)}, (∀ x ∈ es, ∃ e : Evt, x = evC e /\ EvtT e /\ EvtN e) -> ∃ l : List Evt, es = evs l /\ ∀ e ∈ l, EvtT e /\ EvtN e
 | [], _ => ⟨[], rfl, by simp⟩
 | x :: es, h => by
  obtain ⟨e, rfl, he⟩ := h x (by simp)
  obtain ⟨l, rfl, hl⟩ := evs_of (es := es) fun y hy => h y (by simp [hy])
  refine ⟨e :: l, rfl, fun v hv => ?_⟩
  rcases List.mem_cons.1 hv with rfl | hv
  . exact he
  . exact hl v hv
theorem texts_in {l : List Val} (h : ∀ v ∈ l, ValIn v) : TextsOk l := fun v hv => Nat.lt_of_le_of_lt (h v hv).t (by decide)
theorem ev_cells {vs : List V} (h : Shp tt 8 49 vs) : ∃ e : Evt, vs = evC e /\ EvtT e /\ EvtN e := by
 obtain ⟨_, _, ⟨k, hk, rfl⟩, ⟨_, _, ⟨n, hn, rfl⟩, ⟨_, _, ⟨t, _, rfl⟩, ⟨_, _, ⟨eb, heb, gb, rfl⟩, ⟨_, _, ⟨ea, hea, ga, rfl⟩, ⟨_, _, hch, rfl, rfl⟩, rfl⟩, rfl⟩, rfl⟩, rfl⟩, rfl⟩ := h;obtain ⟨_, _, ⟨ck, hck, rfl⟩, ⟨_, _, ⟨ct, _, rfl⟩, ⟨_, _, ⟨_, _, ⟨es, hes, g1, rfl⟩, ⟨_, _, ⟨ks, hks, rfl⟩, rfl, rfl⟩, rfl⟩, ⟨_, _, ⟨_, _, ⟨cn, _, rfl⟩, ⟨_, _, ⟨cck, hcck, rfl⟩, ⟨_, _, ⟨o, rfl⟩, rfl, rfl⟩, rfl⟩, rfl⟩, rfl, rfl⟩, rfl⟩, rfl⟩, rfl⟩ := hch;obtain ⟨l, rfl, hl⟩ := cols_of fun x hx => by
  obtain ⟨_, _, ⟨s, _, rfl⟩, ⟨_, _, ⟨k, hk, rfl⟩, ⟨_, _, ⟨o, rfl⟩, rfl, rfl⟩, rfl⟩, rfl⟩ := g1 x hx;exact ⟨s, k, o, rfl, i64_wf hk⟩
 obtain ⟨lb, rfl, hlb⟩ := evals_of fun x hx => by
  obtain ⟨_, _, ⟨k, hk, rfl⟩, ⟨_, _, ⟨n, hn, rfl⟩, ⟨_, _, ⟨s, hs, rfl⟩, rfl, rfl⟩, rfl⟩, rfl⟩ := gb x hx;exact ⟨k, n, s, rfl, i64_wf hk, i64_wf hn, hs⟩
 obtain ⟨la, rfl, hla⟩ := evals_of fun x hx => by
  obtain ⟨_, _, ⟨k, hk, rfl⟩, ⟨_, _, ⟨n, hn, rfl⟩, ⟨_, _, ⟨s, hs, rfl⟩, rfl, rfl⟩, rfl⟩, rfl⟩ := ga x hx;exact ⟨k, n, s, rfl, i64_wf hk, i64_wf hn, hs⟩
 rw [vals_len] at heb hea;rw [cols_len] at hes;have hmx : maxLen < 9223372036854775808 := by decide
 exact ⟨⟨k, n, t, lb, la, ⟨ck, ct, l, ks, ⟨cn, cck, o⟩⟩⟩, rfl, ⟨texts_in hlb, texts_in hla, Nat.lt_of_le_of_lt heb hmx, Nat.lt_of_le_of_lt hea hmx, Nat.lt_of_le_of_lt hes hmx⟩, ⟨i64_wf hn, fun v hv => (hlb v hv).n, fun v hv => (hla v hv).n⟩⟩
theorem evs_in {vs : List V} (h : Shp tt 8 31 vs) : ∃ l : List Evt, argV tt 31 vs = .sl 12 (evs l) false /\ l.length <= 9223372036854775807 /\ ∀ e ∈ l, EvtT e /\ EvtN e := by
 obtain ⟨es, hes, g1, rfl⟩ := h;obtain ⟨l, rfl, hl⟩ := evs_of fun x hx => ev_cells (g1 x hx)
 rw [evs_len] at hes;exact ⟨l, rfl, hes, hl⟩
theorem run_T {b : List UInt8} {s s2 : Sc} {es : List Evt} (hb : b.length <= 900000000) (h : Run b s es s2) (hs : ScOk s) : ∀ e ∈ es, EvtT e := by
 induction h with
 | nil s => exact fun e h => by cases h
 | cons h t ih =>
  have h2 := (stepS_inv hs h).1;obtain ⟨w, n, g1, g2, g3, g4, g5⟩ := stepS_ok h;intro e he;rcases List.mem_cons.1 he with rfl | he
  . rw [g5];obtain ⟨k1, r, k2, k3, k4, k5⟩ := nxtL_ok g1;refine prdR_T hs.h ?_;have := congrArg List.length k2;rw [List.length_drop, List.length_append] at this;have hf := frm_len w;omega
  . exact ih h2 e he
end Go.Proofs.YtcdkklgeepkopaaGreatDoorPg
namespace Go.Proofs.YtcdkklgeepkopaaGreatDoorPg
open Go Go.RowKit
variable {Q : V -> List O -> Prop}
theorem RSameT_self {l : List Tb} {f f2 : Bool} (hl : l.length <= 64) (hc : ∀ x ∈ l, x.c.length < 1000000) (h : Q (.bool true) []) : ACall Tryz.prog 23 0 [.sl 3 (tbs l) f, .sl 3 (tbs l) f2] [] Q := by
 refine by_body Tryz.func23 0 rfl (Nat.le_of_ble_eq_true rfl) ?_
 conv => whnf
 have hlv := tbs_len l;rw [decide_eq_true (rfl : (((tbs l).length : Nat) : Int) = (((tbs l).length : Nat) : Int))]
 conv => whnf
 refine ⟨⟨[0, 1, 5], fun m ws H => ∃ i : Nat, ws = [.sl 3 (tbs l) f, .sl 3 (tbs l) f2, fI i] /\ H = [] /\ i <= l.length /\ m = l.length - i, .at l.length ⟨0, rfl, rfl, Nat.zero_le _, rfl⟩, ?_⟩⟩
 rintro m ws H ⟨i, rfl, rfl, hi, rfl⟩
 conv => whnf
 refine branch_i (fun c1 => ?_) (fun c1 => ?_) <;> try rw [c1] <;> conv => whnf
 rotate_left
 focus
  exact ⟨[], rfl, h⟩
 have c1' := of_decide_eq_true c1;have hlt : i < l.length := by omega
 have hg : l[i]? = some l[i] := List.getElem?_eq_getElem hlt;have hcw := hc l[i] (List.getElem_mem hlt);generalize l[i] = w at *;refine ⟨List.range 12, by kernel_rfl, by kernel_rfl, ?_⟩
 conv => whnf
 refine ⟨_, ⟨by omega, tbs_get hg⟩, ?_⟩
 conv => whnf
 refine ⟨_, ⟨by omega, tbs_get hg⟩, ?_⟩
 conv => whnf
 refine .pure (RSame_spec (l := w.c) (k := w.k) (l2 := w.c) (k2 := w.k) (Nat.lt_trans hcw (by decide)) ⟨rfl, ?_⟩)
 rw [show sameS w.c w.k w.c w.k = true by simp [sameS]]
 repeat (conv => whnf
         first | (refine ⟨rfl, ?_⟩) | (refine ⟨⟨_, ⟨by omega, tbs_get hg⟩, rfl⟩, ?_⟩))
 conv => whnf
 refine ⟨List.range 15, by kernel_rfl, by kernel_rfl, ?_⟩
 conv => whnf
 refine ⟨_, ⟨by omega, tbs_get hg⟩, ?_⟩
 conv => whnf
 refine ⟨_, ⟨by omega, tbs_get hg⟩, ?_⟩
 conv => whnf
 rw [decide_eq_true (rfl : w.n = w.n)]
 repeat (conv => whnf
         first | (refine ⟨rfl, ?_⟩) | (refine ⟨⟨_, ⟨by omega, tbs_get hg⟩, rfl⟩, ?_⟩))
 conv => whnf
 refine .go [] rfl (l.length - (i + 1)) (by omega) ⟨i + 1, ?_, rfl, by omega, rfl⟩
 show [V.sl 3 (tbs l) f, .sl 3 (tbs l) f2, V.int .i64 (IntKind.i64.wrap ((i : Int) + 1))] = _
 rw [wrapE (by omega)]; rfl
end Go.Proofs.YtcdkklgeepkopaaGreatDoorPg
namespace Go.Proofs.YtcdkklgeepkopaaGreatDoorPg
open Go Go.RowKit
variable {Q : V -> List O -> Prop}
theorem stepS_T {b : List UInt8} {s : Sc} (hb : b.length <= 900000000) (hs : ScOk s) : EvtT (stepS b s).1 := by
 by_cases h : (stepS b s).2.2 = 0
 . exact run_T hb (.cons h (.nil _)) hs _ (List.mem_singleton.2 rfl)
 . rw [(stepS_err h).1]; exact evt0 _ _ _
end Go.Proofs.YtcdkklgeepkopaaGreatDoorPg
namespace Go.Proofs.YtcdkklgeepkopaaGreatDoorPg
open Go Go.RowKit
variable {Q : V -> List O -> Prop}
def XOk (s : Sc) : Prop := s.x = -1 \/ 0 <= s.x
theorem takeX_x {s : Sc} {e : Evt} {n : Int} (hs : XOk s) (he : 0 <= e.n) : XOk (takeX s e n).1 := by
 unfold takeX;split
 . exact .inr he
 split
 . exact .inl rfl
 split
 . exact .inl rfl
 split
 . split
   . exact hs
   . exact hs
 . exact hs
theorem stepS_x {b : List UInt8} {s : Sc} (hs : XOk s) : XOk (stepS b s).2.1 := by
 by_cases h : (stepS b s).2.2 = 0
 . obtain ⟨w, n, g1, g2, g3, g4, g5⟩ := stepS_ok h;rw [g5];exact takeX_x hs (prdR_num g2)
 . rw [(stepS_err h).2]; exact hs
theorem sc_shut {s : Sc} (hs : ScOk s) (hx : XOk s) (h : ¬ 0 <= s.x) : (⟨s.a, s.h, s.h, -1⟩ : Sc) = s := by
 have h1 := hs.c (by omega)
 have h2 : s.x = -1 := by rcases hx with h | h; exact h; omega
 obtain ⟨a, l, hh, x⟩ := s;simp only at h1 h2;rw [h1, h2]
set_option maxHeartbeats 16000000 in
theorem BinlogGoes_spec {l : List Evt} {n : Int} {f1 : Bool} (hl : ∀ e ∈ l, EvtT e /\ EvtN e) (hll : l.length <= 9223372036854775807) : ACall Tryz.prog 6 0 [.sl 12 (evs l) f1, fI n] [] (fun v _ => v = .bool true) := by
 refine by_body Tryz.func6 0 rfl (Nat.le_of_ble_eq_true rfl) ?_
 conv => whnf
 refine .call [] 0 ⟨rfl, rfl, rfl⟩ (R7Log_spec hl hll (fun _ _ _ _ => True) trivial (fun _ _ _ _ _ _ _ _ _ _ _ _ _ => ⟨fun _ => trivial, fun _ _ => trivial, fun _ _ => trivial⟩) fun b es s hok _ => ?_)
 have hle := hok.le;have hlb := bs_len b;have h7 := hok.len;clear hok
 conv => whnf
 have hTb : List.take b.length (List.drop 0 (bs b)) = bs b := by rw [List.drop_zero, <- hlb, List.take_length]
 refine branch_i (fun c1 => ?_) (fun c1 => ?_) <;> try rw [c1] <;> conv => whnf
 focus
  generalize IntKind.i64.wrap (0 - IntKind.i64.wrap (n + 1)) = A at *
 rotate_left
 focus
  rename_i _; generalize hA : n = A at *
 all_goals
  refine .call [] 0 ⟨rfl, rfl, rfl⟩ (R7New_spec ?_);have hsl := start_len;generalize start = st at *;have hls := bs_len st
  conv => whnf
  rw [hsl];refine ACalls.frz 0 rfl rfl (by repeat (first | exact trivial | refine And.intro (by omega) ?_)) ?_
  refine ACalls.sub [.sl 1 (bs b) false, fI 7, .sl 3 (tbs []) false] _ rfl (.cons (VSub.eq (congrArg (fun z => V.sl 1 z false) hTb)) (.cons (.refl _) (.cons (nils_sl3 false) (VSubs.refl _)))) (HSub.refl _) ?_
  refine .call [] 0 ⟨rfl, rfl, rfl⟩ (BlScan_spec (b := b) (a := 7) (l := []) (fun e => by rw [e] at h7; simp at h7) (by omega) tbsB_nil ?_)
  conv => whnf
  refine ⟨⟨[1, 5, 6, 7], fun mm ws H => ∃ (i : Int) (s : Sc) (num : Int), ws = [fI A, .sl 1 (bs b) false, .ptr 0 0, fI i] /\ H = [scO b s num] /\ ScOk s /\ XOk s /\ numOk s num /\ mm = (b.length - s.a).toNat, ?_, ?_⟩⟩
  focus
   refine .frz (b.length + 1) (.sub [fI A, .sl 1 (bs b) false, .ptr 2 0, fI 0] [.dead, .buf (bs st), scO b sc0 0] (.cons (.refl _) (.cons (VSub.eq (congrArg (fun z => V.sl 1 z false) hTb)) (VSubs.refl _))) (.cons (.dead _) (HSub.refl _)) (.go [2] rfl ((b.length : Int) - sc0.a).toNat (by show ((b.length : Int) - 7).toNat < _; omega) ⟨0, sc0, 0, rfl, rfl, sc0_ok, .inl rfl, fun hx => by simp [sc0] at hx, rfl⟩))
  rintro mm ws H ⟨i, s, num, rfl, rfl, hs, hx, hnum, rfl⟩
  conv => whnf
  refine ⟨by decide, ?_⟩
  conv => whnf
  refine branch_i (fun c2 => ?_) (fun c2 => ?_) <;> try rw [c2] <;> conv => whnf
  rotate_left
  focus
   refine .call [0] 1 ⟨rfl, rfl, rfl⟩ (BlOpen_spec (b := b) (s := s) (num := num) ?_)
   conv => whnf
   refine branch_i (fun c3 => ?_) (fun c3 => ?_) <;> try rw [c3] <;> conv => whnf
  rotate_left
  rotate_left
  iterate 2
   focus
    refine .call [0] 1 ⟨rfl, rfl, rfl⟩ (BlSNext_spec (b := b) (s := s) (num := num) (by omega) hs hnum fun num1 hn1 => ?_)
    have hs1 := stepS_any (b := b) hs;have hx1 := stepS_x (b := b) hx;have hinv := fun h => stepS_inv (b := b) hs h
    generalize stepS b s = R at *;obtain ⟨ev, s1, g⟩ := R;have hs1 : ScOk s1 := hs1;have hx1 : XOk s1 := hx1;have hn1 : numOk s1 num1 := hn1
    conv => whnf
    refine branch_i (fun c4 => ?_) (fun c4 => ?_) <;> try rw [c4] <;> conv => whnf
    rotate_left
    focus
     have c4' : g = 0 := by simpa using c4
     obtain ⟨i1, i2, i3⟩ := hinv c4';have i2 : s.a < s1.a := i2;have i3 : s1.a <= (b.length : Int) := i3;exact .go [0] rfl (b.length - s1.a).toNat (by omega) ⟨_, s1, num1, rfl, rfl, hs1, hx1, hn1, rfl⟩
   rotate_left
  focus
   have hs1 := hs;have hx1 := hx;have hn1 := hnum;generalize s = s1 at *;generalize num = num1 at *
  all_goals
   refine .call [0] 1 ⟨rfl, rfl, rfl⟩ (BlOpen_spec (b := b) (s := s1) (num := num1) ?_)
   conv => whnf
   refine branch_i (fun c5 => ?_) (fun c5 => ?_) <;> try rw [c5] <;> conv => whnf
   focus
    refine .pure (lives07_spec ⟨rfl, ?_⟩)
    conv => whnf
    exact ⟨[], rfl, rfl⟩
   have hsh := sc_shut hs1 hx1 (of_decide_eq_false c5);refine .call [0] 1 ⟨rfl, rfl, rfl⟩ (BlAt_spec (b := b) (s := s1) (num := num1) ?_)
   conv => whnf
   refine .call [0] 1 ⟨rfl, rfl, rfl⟩ (BlTables_spec (b := b) (s := s1) (num := num1) hs1.h ?_)
   conv => whnf
   refine .call [] 0 ⟨rfl, rfl, rfl⟩ (BlScan_spec (b := b) (a := s1.a) (l := s1.h) (fun e => by rw [e] at h7; simp at h7) (by omega) hs1.h ?_)
   rw [hsh]
   conv => whnf
   refine ⟨⟨[6, 10, 11], fun mm ws H => ∃ (i : Nat) (s : Sc) (num num2 : Int), ws = [.ptr 0 0, .ptr 1 0, fI i] /\ H = [scO b s num, scO b s num2] /\ ScOk s /\ numOk s num /\ numOk s num2 /\ i <= 45 /\ mm = 45 - i, ?_, ?_⟩⟩
   focus
    have hn0 : numOk s1 0 := fun hh => absurd hh (of_decide_eq_false c5)
    first
     | exact .frz 46 (.go [0, 1] rfl 45 (by omega) ⟨0, s1, num1, 0, rfl, rfl, hs1, hn1, hn0, by omega, rfl⟩)
     | exact .frz 46 (.go [0, 2] rfl 45 (by omega) ⟨0, s1, num1, 0, rfl, rfl, hs1, hn1, hn0, by omega, rfl⟩)
   rintro mm ws H ⟨i2, s2, n2, n3, rfl, rfl, hs2, hn2, hn3, hi2, rfl⟩
   conv => whnf
   refine branch_i (fun c6 => ?_) (fun c6 => ?_) <;> try rw [c6] <;> conv => whnf
   rotate_left
   focus
    refine .pure (lives07_spec ⟨rfl, ?_⟩)
    conv => whnf
    exact ⟨[], rfl, rfl⟩
   have c6' := of_decide_eq_true c6;have hnx := fun {num : Int} {Q : V -> List O -> Prop} hn h => BlSNext_spec (b := b) (s := s2) (num := num) (Q := Q) (by omega) hs2 hn h
   have hT := stepS_T (b := b) (s := s2) (by omega) hs2
   have hs3 := stepS_any (b := b) hs2;generalize stepS b s2 = R at *;obtain ⟨ev2, s3, g2⟩ := R;have hT : EvtT ev2 := hT;have hs3 : ScOk s3 := hs3;refine .call [0] 1 ⟨rfl, rfl, rfl⟩ (hnx hn2 fun m2 hm2 => ?_)
   have hm2 : numOk s3 m2 := hm2
   conv => whnf
   refine .call [1] 1 ⟨rfl, rfl, rfl⟩ (hnx hn3 fun m3 hm3 => ?_)
   have hm3 : numOk s3 m3 := hm3
   conv => whnf
   rw [decide_eq_true (rfl : g2 = g2)]
   conv => whnf
   refine .pure (EvRSame_spec (a := ev2) (b := ev2) hT.lb hT.la hT.lc ⟨rfl, ?_⟩);rw [decide_eq_true (rfl : ev2 = ev2)]
   conv => whnf
   refine .call [0] 1 ⟨rfl, rfl, rfl⟩ (BlAt_spec (b := b) (s := s3) (num := m2) ?_)
   conv => whnf
   refine .call [1] 1 ⟨rfl, rfl, rfl⟩ (BlAt_spec (b := b) (s := s3) (num := m3) ?_)
   conv => whnf
   rw [decide_eq_true (rfl : s3.a = s3.a)]
   conv => whnf
   refine .call [0] 1 ⟨rfl, rfl, rfl⟩ (BlTables_spec (b := b) (s := s3) (num := m2) hs3.h ?_)
   conv => whnf
   refine .call [1] 1 ⟨rfl, rfl, rfl⟩ (BlTables_spec (b := b) (s := s3) (num := m3) hs3.h ?_)
   conv => whnf
   refine .pure (RSameT_self (l := s3.h) hs3.h.few (fun x hx => by have := hs3.h.cols x hx; omega) ⟨rfl, ?_⟩)
   conv => whnf
   have fin : ∀ x : V, x = .int .i64 (IntKind.i64.wrap ((i2 : Int) + 1)) -> x = fI (i2 + 1 : Nat) := fun x h => by rw [h, wrapL (by omega)]; rfl
   exact .go [0, 1] rfl (45 - (i2 + 1)) (by omega) ⟨i2 + 1, s3, m2, m3, congrArg (fun z => [V.ptr 0 0, V.ptr 1 0, z]) (fin _ rfl), rfl, hs3, hm2, hm3, by omega, rfl⟩
end Go.Proofs.YtcdkklgeepkopaaGreatDoorPg
