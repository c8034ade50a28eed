/- Own texts, laid together: Pg07ZDBlJ, Pg07ZDBlK, Pg07ZDEv15, Pg07ZDBlL, Pg07ZDBlM, Pg07ZDBlN, Pg07ZDBlO. -/
import Derived.Test.YtcdkklgeepkopaaGreatDoorPgM21
import Derived.Test.YtcdkklgeepkopaaGreatDoorPgM15
import Derived.Test.YtcdkklgeepkopaaGreatDoorPgM19
import Derived.Test.YtcdkklgeepkopaaGreatDoorPgM20
set_option linter.unusedSimpArgs false
set_option linter.unusedVariables false
namespace Go.Proofs.YtcdkklgeepkopaaGreatDoorPg
open Go Go.RowKit
variable {Q : V -> List O -> Prop}
theorem noU_i (n : Int) : NoU (.int .i64 n) := .int _ _ (by decide)
theorem noU_vals (l : List Val) : NoU (.sl 3 (vals l) false) := .sl _ _ _ fun e he c hc => by
 obtain ⟨v, _, rfl⟩ := List.mem_map.1 he;simp only [valC, colC, List.mem_cons, List.not_mem_nil, or_false] at hc;rcases hc with rfl | rfl | rfl
 . exact noU_i _
 . exact noU_i _
 . exact .str _
theorem noU_cols (l : List Col) : NoU (.sl 3 (cols l) false) := .sl _ _ _ fun e he c hc => by
 obtain ⟨v, _, rfl⟩ := List.mem_map.1 he;simp only [valC, colC, List.mem_cons, List.not_mem_nil, or_false] at hc;rcases hc with rfl | rfl | rfl
 . exact .str _
 . exact noU_i _
 . exact .bool _
theorem noU_tbs (l : List Tb) : NoU (.sl 3 (tbs l) false) := .sl _ _ _ fun e he c hc => by
 obtain ⟨v, _, rfl⟩ := List.mem_map.1 he;simp only [tbC, List.mem_cons, List.not_mem_nil, or_false] at hc;rcases hc with rfl | rfl | rfl
 . exact .str _
 . exact noU_cols _
 . exact noU_i _
theorem noU_ev (e : Evt) : NoU (evA e) := .agg _ fun c hc => by
 simp only [List.mem_cons, List.not_mem_nil, or_false] at hc;rcases hc with rfl | rfl | rfl | rfl | rfl | rfl | rfl | rfl | rfl | rfl | rfl | rfl
 . exact noU_i _
 . exact noU_i _
 . exact .str _
 . exact noU_vals _
 . exact noU_vals _
 . exact noU_i _
 . exact .str _
 . exact noU_cols _
 . exact noU_i _
 . exact .str _
 . exact noU_i _
 . exact .bool _
theorem noU_st (r : Evt × Sc × Int) : NoU (stR r) := .tup _ fun c hc => by
 simp only [List.mem_cons, List.not_mem_nil, or_false] at hc;rcases hc with rfl | rfl | rfl
 . exact noU_ev _
 . refine .agg _ fun c hc => ?_
   simp only [List.mem_cons, List.not_mem_nil, or_false] at hc;rcases hc with rfl | rfl | rfl | rfl
   . exact noU_i _
   . exact noU_tbs _
   . exact noU_tbs _
   . exact noU_i _
 . exact noU_i _
theorem R7StepM_spec {b : List UInt8} {n : Nat} {f : Bool} {s : Sc} (hn : n = b.length) (hb : b.length <= 900000000) (hs : ScOk s) (h : Q (stR (stepS b s)) [.buf (bs b)]) :
 ACall Tryz.prog 19 1 [.ms 1 0 0 n f, scA s] [.buf (bs b)] Q := by
 refine ACall.borrow (by rw [bs_len]; exact hn) (fun r hr => ?_) (fun v hv => ?_) (R7Step_spec hb hs ⟨rfl, noU_st _, h⟩)
 . obtain ⟨x, _, rfl⟩ := List.mem_map.1 hr;exact ⟨_, rfl⟩
 . simp only [List.mem_singleton] at hv;subst hv;exact ClosedV.agg rfl
structure LogOk (b : List UInt8) (es : List Evt) (s : Sc) : Prop where
 len : 7 <= b.length
 st : b.take 7 = start
 run : Run b sc0 es s
 pos : s.a = (b.length : Int)
 sz : b.length <= 7 + 1000020 * es.length
 few : es.length <= 40
theorem LogOk.nil : LogOk start [] sc0 := ⟨by rw [start_len]; omega, by rw [<- start_len, List.take_length], .nil _, by rw [start_len]; rfl, by rw [start_len]; omega, by simp⟩
theorem LogOk.le {b : List UInt8} {es : List Evt} {s : Sc} (h : LogOk b es s) : b.length <= 50000000 := by have := h.sz; have := h.few; omega
theorem LogOk.snoc {b : List UInt8} {es : List Evt} {s : Sc} {w : List UInt8} (h : LogOk b es s) (hw : w.length <= 1000000) (he : es.length < 40) (h0 : (stepS (b ++ frm w) s).2.2 = 0) :
 LogOk (b ++ frm w) (es ++ [(stepS (b ++ frm w) s).1]) (stepS (b ++ frm w) s).2.1 := by
 have hfl := frm_len w;have hnl := numW_len' (w.length : Int);have hsz := h.sz;have hle := h.le;refine ⟨by rw [laZ]; have := h.len; omega, by rw [List.take_append_of_le_length h.len]; exact h.st, (h.run.more _ (by omega)).snoc h0, ?_, by rw [laZ, laZ, List.length_singleton]; omega, by rw [laZ, List.length_singleton]; omega⟩
 obtain ⟨x, n, g1, g2, g3, g4, g5⟩ := stepS_ok h0;have hn : nxtL (b ++ frm w) s.a = (w, ((b ++ frm w).length : Int), 0) := by
  rw [h.pos, nxtL_frm (x := w) (r := []) (by omega) (by rw [List.drop_left, List.append_nil])]
  simp
 rw [hn] at g1;cases g1;rw [g5];exact (takeX_ok (h.run.ok sc0_ok).1 g3 g4).2
set_option maxHeartbeats 16000000 in
theorem R7Log_spec {l : List Evt} {f : Bool} (hl : ∀ e ∈ l, EvtT e /\ EvtN e) (hll : l.length <= 9223372036854775807) (R : Nat -> List UInt8 -> List Evt -> Sc -> Prop) (h0 : R 0 start [] sc0)
 (hstep : ∀ i e b es s e', l[i]? = some e -> i < 40 -> R i b es s -> LogOk b es s -> EvtT e' -> EvtN e' -> simE s.h e e' ->
  (mayE e' s.h ≠ 0 -> R (i + 1) b es s) /\ (mayE e' s.h = 0 -> (stepS (b ++ frm (evW e')) s).2.2 ≠ 0 -> R (i + 1) b es s) /\
  (mayE e' s.h = 0 -> (stepS (b ++ frm (evW e')) s).2.2 = 0 -> R (i + 1) (b ++ frm (evW e')) (es ++ [(stepS (b ++ frm (evW e')) s).1]) (stepS (b ++ frm (evW e')) s).2.1))
 (h : ∀ b es s, LogOk b es s -> R (min l.length 40) b es s -> Q (.ms 1 0 0 b.length false) [.buf (bs b)]) : ACall Tryz.prog 15 0 [.sl 12 (evs l) f] [] Q := by
 refine by_body Tryz.func15 0 rfl (nbZ rfl) ?_;have hel := evs_len l
 conv => whnf
 refine .call [] 0 ⟨rfl, rfl, rfl⟩ (R7New_spec ?_);have hnil := LogOk.nil;have hst7 := start_len;generalize start = st at *
 conv => whnf
 refine ⟨⟨[0, 3, 4, 5], fun mm ws H => ∃ (i : Nat) (b : List UInt8) (es : List Evt) (s : Sc), ws = [.sl 12 (evs l) f, .ms 1 0 0 b.length false, .ptr 1 0, fI i] /\ H = [.buf (bs b), .cells [fI s.a, .sl 3 (tbs s.l) false, .sl 3 (tbs s.h) false, fI s.x]] /\
  LogOk b es s /\ R i b es s /\ es.length <= i /\ i <= min l.length 40 /\ mm = l.length - i, ?_, ?_⟩⟩
 . refine .frz (l.length + 1) (.sub _ [.buf (bs st), .cells [fI 7, .sl 3 (tbs []) false, .sl 3 (tbs []) false, fI (-1)]] (VSubs.refl _) ?_ (.go [0, 1] rfl l.length (by omega) ⟨0, st, [], sc0, rfl, rfl, hnil, h0, by simp, by omega, rfl⟩))
   rw [hst7];exact .cons (.refl _) (.cons (.cells (.cons (.refl _) (.cons (nils_sl3 false) (.cons (nils_sl3 false) (VSubs.refl _))))) (HSub.refl _))
 rintro mm ws H ⟨i, b, es, s, rfl, rfl, hok, hR, hei, hi, rfl⟩;have hle := hok.le
 conv => whnf
 have fin : i = min l.length 40 -> ∃ sel, selOk sel 2 0 = true /\ Q (renV (idx sel) (.ms 1 0 0 b.length false)) (gather (idx sel) [.buf (bs b), .cells [fI s.a, .sl 3 (tbs s.l) false, .sl 3 (tbs s.h) false, fI s.x]] sel) := fun e => ⟨[0], rfl, h b es s hok (e ▸ hR)⟩
 refine branch_i (fun c1 => ?_) (fun c1 => ?_) <;> try rw [c1] <;> conv => whnf
 rotate_left
 focus
  have c1' := dfZ c1;exact fin (by omega)
 have c1' := dtZ c1;refine branch_i (fun c2 => ?_) (fun c2 => ?_) <;> try rw [c2] <;> conv => whnf
 rotate_left
 focus
  have c2' := dfZ c2;exact fin (by omega)
 have c2' := dtZ c2;have hil : i < l.length := by omega
 have hg : l[i]? = some l[i] := lgZ hil;have hme := hl l[i] (List.getElem_mem hil);generalize l[i] = e at *;have hsok := (hok.run.ok sc0_ok).1;refine ⟨List.range 9, by kernel_rfl, by kernel_rfl, ?_⟩
 conv => whnf
 refine ⟨_, ⟨by omega, evs_get hg⟩, ?_⟩
 conv => whnf
 refine .pure (REventS_spec (e := e) (l := s.h) hsok.h hme.1 hme.2 fun e' he1 he2 he3 => ⟨rfl, ?_⟩)
 obtain ⟨r1, r2, r3⟩ := hstep i e b es s e' hg (by omega) hR hok he1 he2 he3
 repeat (conv => whnf
         refine ⟨rfl, ?_⟩)
 conv => whnf
 refine .pure (EvRMay_spec (e := e') (l := s.h) hsok.h he1 ⟨rfl, ?_⟩);have hwl := fun hm : mayE e' s.h = 0 => evW_len hsok.h (mayE_inv hm) he2
 have hwr := fun (hm : mayE e' s.h = 0) {Q : V -> List O -> Prop} (h : Q (.sl 1 (bs (evW e')) false) []) => R6Write_spec (Q := Q) hsok.h he2 hm h
 have nxt : IntKind.i64.wrap ((i : Int) + 1) = ((i + 1 : Nat) : Int) := by rw [wrapL (by omega)]; rfl
 generalize mayE e' s.h = me at *
 conv => whnf
 refine branch_i (fun c3 => ?_) (fun c3 => ?_) <;> try rw [c3] <;> conv => whnf
 . have c3' : me ≠ 0 := by simpa using c3
   refine .go [0, 1] rfl (l.length - (i + 1)) (by omega) ⟨i + 1, b, es, s, ?_, rfl, hok, r1 c3', by omega, by omega, rfl⟩
   show [V.sl 12 (evs l) f, V.ms 1 0 0 b.length false, V.ptr 1 0, V.int .i64 (IntKind.i64.wrap ((i : Int) + 1))] = _
   rw [nxt]
 have c3' : me = 0 := by simpa using c3
 have r2 := r2 c3';have r3 := r3 c3';have hwl := hwl c3';have hsn := hok.snoc hwl (by omega)
 refine app_nilms (X := b) (j := 0) rfl (by omega) ?_
 conv => whnf
 refine .pure (hwr c3' ⟨rfl, ?_⟩);generalize evW e' = w at *;have hfl := frm_len w;have hnl := numW_len' (w.length : Int)
 conv => whnf
 refine .call [] 0 ⟨rfl, rfl, rfl⟩ (R7Frame_spec (body := w) (by omega) ?_)
 generalize frm w = F at *
 conv => whnf
 refine app_bs (i := 3) (j := 4) (X := b) (Y := F) rfl rfl rfl rfl rfl (by omega) ?_
 have hBl : (b ++ F).length = b.length + F.length := laZ;generalize b ++ F = B at *
 conv => whnf
 refine .call [5] 1 ⟨rfl, rfl, rfl⟩ (R7StepM_spec (b := B) (s := s) rfl (by omega) hsok ?_)
 generalize stepS B s = R1 at *;obtain ⟨ev, s', g⟩ := R1;simp only at r2 r3 hsn
 conv => whnf
 refine branch_i (fun c4 => ?_) (fun c4 => ?_) <;> try rw [c4] <;> conv => whnf
 . have c4' : g = 0 := dtZ c4;refine .go [5, 1] rfl (l.length - (i + 1)) (by omega) ⟨i + 1, B, es ++ [ev], s', ?_, rfl, hsn c4', r3 c4', by rw [laZ, List.length_singleton]; omega, by omega, rfl⟩
   show [V.sl 12 (evs l) f, V.ms 1 0 0 B.length false, V.ptr 1 0, V.int .i64 (IntKind.i64.wrap ((i : Int) + 1))] = _
   rw [nxt]
 . have c4' : g ≠ 0 := dfZ c4;refine .go [0, 1] rfl (l.length - (i + 1)) (by omega) ⟨i + 1, b, es, s, ?_, rfl, hok, r2 c4', by omega, by omega, rfl⟩
   show [V.sl 12 (evs l) f, V.ms 1 0 0 b.length false, V.ptr 1 0, V.int .i64 (IntKind.i64.wrap ((i : Int) + 1))] = _
   rw [nxt]
end Go.Proofs.YtcdkklgeepkopaaGreatDoorPg
namespace Go.Proofs.YtcdkklgeepkopaaGreatDoorPg
open Go Go.RowKit
variable {Q : V -> List O -> Prop}
theorem evs_of : ∀ {es : List (List V)}, (∀ x ∈ es, ∃ e : Evt, x = evC e /\ EvtT e /\ EvtN e) -> ∃ l : List Evt, es = evs l /\ ∀ e ∈ l, EvtT e /\ EvtN e
 | [], _ => ⟨[], rfl, by simp⟩
 | x :: es, h => by
  obtain ⟨e, rfl, he⟩ := h x (by simp)
  obtain ⟨l, rfl, hl⟩ := evs_of (es := es) fun y hy => h y (by simp [hy])
  refine ⟨e :: l, rfl, fun v hv => ?_⟩
  rcases List.mem_cons.1 hv with rfl | hv
  . exact he
  . exact hl v hv
theorem texts_in {l : List Val} (h : ∀ v ∈ l, ValIn v) : TextsOk l := fun v hv => Nat.lt_of_le_of_lt (h v hv).t (by decide)
theorem ev_cells {vs : List V} (h : Shp tt 8 49 vs) : ∃ e : Evt, vs = evC e /\ EvtT e /\ EvtN e := by
 obtain ⟨_, _, ⟨k, hk, rfl⟩, ⟨_, _, ⟨n, hn, rfl⟩, ⟨_, _, ⟨t, _, rfl⟩, ⟨_, _, ⟨eb, heb, gb, rfl⟩, ⟨_, _, ⟨ea, hea, ga, rfl⟩, ⟨_, _, hch, rfl, rfl⟩, rfl⟩, rfl⟩, rfl⟩, rfl⟩, rfl⟩ := h;obtain ⟨_, _, ⟨ck, hck, rfl⟩, ⟨_, _, ⟨ct, _, rfl⟩, ⟨_, _, ⟨_, _, ⟨es, hes, g1, rfl⟩, ⟨_, _, ⟨ks, hks, rfl⟩, rfl, rfl⟩, rfl⟩, ⟨_, _, ⟨_, _, ⟨cn, _, rfl⟩, ⟨_, _, ⟨cck, hcck, rfl⟩, ⟨_, _, ⟨o, rfl⟩, rfl, rfl⟩, rfl⟩, rfl⟩, rfl, rfl⟩, rfl⟩, rfl⟩, rfl⟩ := hch;obtain ⟨l, rfl, hl⟩ := cols_of fun x hx => by
  obtain ⟨_, _, ⟨s, _, rfl⟩, ⟨_, _, ⟨k, hk, rfl⟩, ⟨_, _, ⟨o, rfl⟩, rfl, rfl⟩, rfl⟩, rfl⟩ := g1 x hx;exact ⟨s, k, o, rfl, i64_wf hk⟩
 obtain ⟨lb, rfl, hlb⟩ := evals_of fun x hx => by
  obtain ⟨_, _, ⟨k, hk, rfl⟩, ⟨_, _, ⟨n, hn, rfl⟩, ⟨_, _, ⟨s, hs, rfl⟩, rfl, rfl⟩, rfl⟩, rfl⟩ := gb x hx;exact ⟨k, n, s, rfl, i64_wf hk, i64_wf hn, hs⟩
 obtain ⟨la, rfl, hla⟩ := evals_of fun x hx => by
  obtain ⟨_, _, ⟨k, hk, rfl⟩, ⟨_, _, ⟨n, hn, rfl⟩, ⟨_, _, ⟨s, hs, rfl⟩, rfl, rfl⟩, rfl⟩, rfl⟩ := ga x hx;exact ⟨k, n, s, rfl, i64_wf hk, i64_wf hn, hs⟩
 rw [vals_len] at heb hea;rw [cols_len] at hes;have hmx : maxLen < 9223372036854775808 := by decide
 exact ⟨⟨k, n, t, lb, la, ⟨ck, ct, l, ks, ⟨cn, cck, o⟩⟩⟩, rfl, ⟨texts_in hlb, texts_in hla, Nat.lt_of_le_of_lt heb hmx, Nat.lt_of_le_of_lt hea hmx, Nat.lt_of_le_of_lt hes hmx⟩, ⟨i64_wf hn, fun v hv => (hlb v hv).n, fun v hv => (hla v hv).n⟩⟩
theorem evs_in {vs : List V} (h : Shp tt 8 31 vs) : ∃ l : List Evt, argV tt 31 vs = .sl 12 (evs l) false /\ l.length <= 9223372036854775807 /\ ∀ e ∈ l, EvtT e /\ EvtN e := by
 obtain ⟨es, hes, g1, rfl⟩ := h;obtain ⟨l, rfl, hl⟩ := evs_of fun x hx => ev_cells (g1 x hx)
 rw [evs_len] at hes;exact ⟨l, rfl, hes, hl⟩
theorem run_T {b : List UInt8} {s s2 : Sc} {es : List Evt} (hb : b.length <= 900000000) (h : Run b s es s2) (hs : ScOk s) : ∀ e ∈ es, EvtT e := by
 induction h with
 | nil s => exact fun e h => by cases h
 | cons h t ih =>
  have h2 := (stepS_inv hs h).1;obtain ⟨w, n, g1, g2, g3, g4, g5⟩ := stepS_ok h;intro e he;rcases List.mem_cons.1 he with rfl | he
  . rw [g5];obtain ⟨k1, r, k2, k3, k4, k5⟩ := nxtL_ok g1;refine prdR_T hs.h ?_;have := congrArg List.length k2;rw [List.length_drop, laZ] at this;have hf := frm_len w;omega
  . exact ih h2 e he
end Go.Proofs.YtcdkklgeepkopaaGreatDoorPg
namespace Go.Proofs.YtcdkklgeepkopaaGreatDoorPg
open Go Go.RowKit
variable {Q : V -> List O -> Prop}
theorem RSameT_self {l : List Tb} {f f2 : Bool} (hl : l.length <= 64) (hc : ∀ x ∈ l, x.c.length < 1000000) (h : Q (.bool true) []) : ACall Tryz.prog 23 0 [.sl 3 (tbs l) f, .sl 3 (tbs l) f2] [] Q := by
 refine by_body Tryz.func23 0 rfl (nbZ rfl) ?_
 conv => whnf
 have hlv := tbs_len l;rw [decide_eq_true (rfl : (((tbs l).length : Nat) : Int) = (((tbs l).length : Nat) : Int))]
 conv => whnf
 refine ⟨⟨[0, 1, 5], fun m ws H => ∃ i : Nat, ws = [.sl 3 (tbs l) f, .sl 3 (tbs l) f2, fI i] /\ H = [] /\ i <= l.length /\ m = l.length - i, .at l.length ⟨0, rfl, rfl, Nat.zero_le _, rfl⟩, ?_⟩⟩
 rintro m ws H ⟨i, rfl, rfl, hi, rfl⟩
 conv => whnf
 refine branch_i (fun c1 => ?_) (fun c1 => ?_) <;> try rw [c1] <;> conv => whnf
 rotate_left
 focus
  exact ⟨[], rfl, h⟩
 have c1' := dtZ c1;have hlt : i < l.length := by omega
 have hg : l[i]? = some l[i] := lgZ hlt;have hcw := hc l[i] (List.getElem_mem hlt);generalize l[i] = w at *;refine ⟨List.range 12, by kernel_rfl, by kernel_rfl, ?_⟩
 conv => whnf
 refine ⟨_, ⟨by omega, tbs_get hg⟩, ?_⟩
 conv => whnf
 refine ⟨_, ⟨by omega, tbs_get hg⟩, ?_⟩
 conv => whnf
 refine .pure (RSame_spec (l := w.c) (k := w.k) (l2 := w.c) (k2 := w.k) (Nat.lt_trans hcw (by decide)) ⟨rfl, ?_⟩)
 rw [show sameS w.c w.k w.c w.k = true by simp [sameS]]
 repeat (conv => whnf
         first | (refine ⟨rfl, ?_⟩) | (refine ⟨⟨_, ⟨by omega, tbs_get hg⟩, rfl⟩, ?_⟩))
 conv => whnf
 refine ⟨List.range 15, by kernel_rfl, by kernel_rfl, ?_⟩
 conv => whnf
 refine ⟨_, ⟨by omega, tbs_get hg⟩, ?_⟩
 conv => whnf
 refine ⟨_, ⟨by omega, tbs_get hg⟩, ?_⟩
 conv => whnf
 rw [decide_eq_true (rfl : w.n = w.n)]
 repeat (conv => whnf
         first | (refine ⟨rfl, ?_⟩) | (refine ⟨⟨_, ⟨by omega, tbs_get hg⟩, rfl⟩, ?_⟩))
 conv => whnf
 refine .go [] rfl (l.length - (i + 1)) (by omega) ⟨i + 1, ?_, rfl, by omega, rfl⟩
 show [V.sl 3 (tbs l) f, .sl 3 (tbs l) f2, V.int .i64 (IntKind.i64.wrap ((i : Int) + 1))] = _
 rw [wrapE (by omega)]; rfl
end Go.Proofs.YtcdkklgeepkopaaGreatDoorPg
namespace Go.Proofs.YtcdkklgeepkopaaGreatDoorPg
open Go Go.RowKit
variable {Q : V -> List O -> Prop}
end Go.Proofs.YtcdkklgeepkopaaGreatDoorPg
namespace Go.Proofs.YtcdkklgeepkopaaGreatDoorPg
open Go Go.RowKit
variable {Q : V -> List O -> Prop}
end Go.Proofs.YtcdkklgeepkopaaGreatDoorPg
namespace Go.Proofs.YtcdkklgeepkopaaGreatDoorPg
open Go Go.RowKit
variable {Q : V -> List O -> Prop}
theorem prdR_W {e : Evt} {l : List Tb} (hl : TbsB l) (hm : mayE e l = 0) (hn : EvtN e) : prdR (evW e) l = (e, 0) := by
 unfold prdR;rw [prd_W hl (mayE_inv hm) hn];simp only [hm, if_true]
theorem step_frm {b : List UInt8} {s : Sc} {e : Evt} (hs : ScOk s) (ha : s.a = (b.length : Int)) (hm : mayE e s.h = 0) (hn : EvtN e) :
 stepS (b ++ frm (evW e)) s = if mayX s.x e = false then (evtZ, s, 14) else if (takeX s e ((b ++ frm (evW e)).length : Nat)).2 ≠ 0 then (evtZ, s, (takeX s e ((b ++ frm (evW e)).length : Nat)).2) else (e, (takeX s e ((b ++ frm (evW e)).length : Nat)).1, 0) := by
 have hwl := evW_len hs.h (mayE_inv hm) hn;have hnx : nxtL (b ++ frm (evW e)) s.a = (evW e, ((b ++ frm (evW e)).length : Int), 0) := by
  rw [ha, nxtL_frm (x := evW e) (r := []) (by omega) (by rw [List.drop_left, List.append_nil])]
  simp
 unfold stepS;rw [hnx];simp only [ne_eq, not_true_eq_false, if_false];unfold stepE;rw [prdR_W hs.h hm hn];simp only [ne_eq, not_true_eq_false, if_false]
theorem step_end {b : List UInt8} {s : Sc} (ha : s.a = (b.length : Int)) : (stepS b s).2.2 = 7 := by
 have hn : nxtL b s.a = ([], s.a, 7) := by unfold nxtL; rw [if_neg (by omega), if_pos ha]
 unfold stepS;rw [hn]; rfl
theorem log_evs {b : List UInt8} {es : List Evt} {s : Sc} (h : LogOk b es s) : evsL b = (evS :: es, (b.length : Int), if 0 <= s.x then 4 else 7) := by
 rw [evs_way (b := b) (pre := es) (s := s) (by rw [not_or]; exact ⟨by have := h.len; omega, by simpa using h.st⟩) h.run (by rw [step_end h.pos]; decide), step_end h.pos, h.pos]
 by_cases hx : 0 <= s.x
 . rw [if_pos hx, if_pos ⟨rfl, rfl, hx⟩]
 . rw [if_neg hx, if_neg (fun hh => hx hh.2.2)]
def mkE (k n : Int) : Evt := ⟨k, n, [], [], [], chg0⟩
theorem mkE_may {k n : Int} {l : List Tb} (hk : numK k = true) (hn : 0 <= n) : mayE (mkE k n) l = 0 := (MayI.num k n hk hn).e
theorem mkE_n {k n : Int} (h : I64 n) : EvtN (mkE k n) := evn0 _ _ _ h
end Go.Proofs.YtcdkklgeepkopaaGreatDoorPg
namespace Go.Proofs.YtcdkklgeepkopaaGreatDoorPg
open Go Go.RowKit
variable {Q : V -> List O -> Prop}
def goN (b : List UInt8) : Nat -> Sc -> Sc
 | 0, s => s
 | n + 1, s => goN b n (stepS b s).2.1
theorem goN_stop {b : List UInt8} {s : Sc} (h : (stepS b s).2.2 ≠ 0) : ∀ n, goN b n s = s
 | 0 => rfl
 | n + 1 => by rw [goN, (stepS_err h).2]; exact goN_stop h n
theorem goN_run {b : List UInt8} {s0 s : Sc} {es : List Evt} (h : Run b s0 es s) (he : (stepS b s).2.2 ≠ 0) : ∀ n, es.length <= n -> goN b n s0 = s := by
 induction h with
 | nil s => exact fun n _ => goN_stop he n
 | cons h t ih =>
  intro n hn;cases n with
  | zero => simp at hn
  | succ n => rw [goN]; exact ih he n (by simpa using hn)
theorem Run.split {b : List UInt8} {s0 s : Sc} {es : List Evt} (h : Run b s0 es s) (i : Nat) (hi : i <= es.length) : ∃ s1, Run b s0 (es.take i) s1 /\ Run b s1 (es.drop i) s := by
 induction h generalizing i with
 | nil s => exact ⟨s, by simpa using Run.nil s, by simpa using Run.nil s⟩
 | cons h t ih =>
  cases i with
  | zero => exact ⟨_, .nil _, .cons h t⟩
  | succ i =>
   obtain ⟨s1, g1, g2⟩ := ih i (by simpa using hi)
   exact ⟨s1, .cons h g1, g2⟩
theorem Run.head {b : List UInt8} {s s2 : Sc} {e : Evt} {es : List Evt} (h : Run b s (e :: es) s2) : (stepS b s).2.2 = 0 /\ (stepS b s).1 = e := by
 generalize hL : e :: es = L at h;cases h with
 | nil => cases hL
 | cons h t => cases hL; exact ⟨h, rfl⟩
theorem Run.det {b : List UInt8} {s s1 s2 : Sc} {es : List Evt} (h : Run b s es s1) (g : Run b s es s2) : s1 = s2 := by
 induction h with
 | nil s => cases g; rfl
 | cons h t ih =>
  generalize hL : (stepS b _).1 :: _ = L at g;cases g with
  | nil => cases hL
  | cons h' t' => cases hL; exact ih t'
theorem step_of {b : List UInt8} {s : Sc} {e : Evt} (h : (stepS b s).2.2 = 0) (he : (stepS b s).1 = e) : mayE e s.h = 0 /\ mayX s.x e = true /\ ∃ n, (takeX s e n).2 = 0 /\ stepS b s = (e, (takeX s e n).1, 0) := by
 obtain ⟨w, n, k1, k2, k3, k4, k5⟩ := stepS_ok h;have hm := (prdR_ok k2).2;rw [k5] at he;simp only at he;rw [he] at k3 k4 k5 hm;exact ⟨hm, k3, n, k4, k5⟩
def alikeS (s s2 : Sc) : Prop := s2.l = s.l /\ s2.h = s.h /\ s2.x = s.x
theorem mayX_sim {x : Int} {e e2 : Evt} (hk : e2.k = e.k) (hn : e2.n = e.n) : mayX x e2 = mayX x e := by unfold mayX; rw [hk, hn]
theorem takeX_sim {s s2 : Sc} {e e2 : Evt} {n n2 : Int} (h : alikeS s s2) (hk : e2.k = e.k) (hn : e2.n = e.n) (hc : e2.ch = e.ch) : (takeX s2 e2 n2).2 = (takeX s e n).2 /\ ((takeX s e n).2 = 0 -> alikeS (takeX s e n).1 (takeX s2 e2 n2).1) := by
 obtain ⟨h1, h2, h3⟩ := h;unfold takeX;rw [hk, hn, hc, h1, h2, h3]
 repeat' split
 all_goals first | exact ⟨rfl, fun _ => ⟨rfl, rfl, rfl⟩⟩ | (refine ⟨rfl, fun h => ?_⟩; rename_i h2; exact absurd h h2)
def abortE (c : Chg) : List Evt := [mkE 2 9, ⟨6, 0, [], [], [], c⟩, mkE 8 9]
def abR (b : List UInt8) (es : List Evt) (s : Sc) (i : Nat) (_ : List UInt8) (_ : List Evt) (s2 : Sc) : Prop :=
 (i <= es.length -> ∀ s1, Run b sc0 (es.take i) s1 -> alikeS s1 s2) /\
 ((i = es.length + 1 \/ i = es.length + 2) -> s2.x = 9 /\ s2.l = s.h) /\
 (i = es.length + 3 -> s2.x = -1 /\ s2.h = s.h)
theorem abR_step {b : List UInt8} {es : List Evt} {s : Sc} {c : Chg} (hok : LogOk b es s) (hx : s.x < 0) {i : Nat} {e e' : Evt} {b2 : List UInt8} {es2 : List Evt} {s2 : Sc}
 (hg : (es ++ abortE c)[i]? = some e) (hR : abR b es s i b2 es2 s2) (hok2 : LogOk b2 es2 s2) (hn : EvtN e') (hsim : simE s2.h e e') :
  (mayE e' s2.h ≠ 0 -> abR b es s (i + 1) b2 es2 s2) /\ (mayE e' s2.h = 0 -> (stepS (b2 ++ frm (evW e')) s2).2.2 ≠ 0 -> abR b es s (i + 1) b2 es2 s2) /\
  (mayE e' s2.h = 0 -> (stepS (b2 ++ frm (evW e')) s2).2.2 = 0 -> abR b es s (i + 1) (b2 ++ frm (evW e')) (es2 ++ [(stepS (b2 ++ frm (evW e')) s2).1]) (stepS (b2 ++ frm (evW e')) s2).2.1) := by
 have hs2 := (hok2.run.ok sc0_ok).1;have hso := (hok.run.ok sc0_ok).1;obtain ⟨r1, r2, r3⟩ := hR;have hst := fun hm => step_frm (b := b2) (s := s2) (e := e') hs2 hok2.pos hm hn
 generalize hN : (((b2 ++ frm (evW e')).length : Nat) : Int) = N at hst;by_cases hi : i < es.length
 ·
  have he : es[i]? = some e := by rw [<- hg, List.getElem?_append_left hi]
  obtain ⟨s1, g1, g2⟩ := hok.run.split i (by omega)
  obtain ⟨a1, a2, a3⟩ := r1 (by omega) s1 g1
  rw [List.drop_eq_getElem_cons hi] at g2;have hei : es[i] = e := by rw [lgZ hi] at he; exact Option.some.inj he
  rw [hei] at g2;have hstep := g2.head;obtain ⟨hm, k3, n, k4, k5⟩ := step_of hstep.1 hstep.2;obtain ⟨m1, m2, m3, m4⟩ := hsim.2 (by rw [a2]; exact hm)
  have hst' := hst m1;rw [mayX_sim m2 m3, a3, k3] at hst';obtain ⟨t1, t2⟩ := takeX_sim (s := s1) (s2 := s2) (n := n) (n2 := N) ⟨a1, a2, a3⟩ m2 m3 m4;rw [t1, k4] at hst';simp only [Bool.true_eq_false, if_false, ne_eq, not_true_eq_false] at hst';refine ⟨fun h => absurd m1 h, fun _ h => absurd (by rw [hst']) h, fun _ _ => ⟨fun _ s3 h3 => ?_, fun h => by omega, fun h => by omega⟩⟩
  rw [hst'];have h4 : Run b sc0 (es.take (i + 1)) (takeX s1 e n).1 := by
   have := g1.snoc hstep.1;rw [k5] at this;rw [List.take_add_one, he];exact this
  rw [h3.det h4];exact t2 k4
 have hge : es.length <= i := by omega
 rw [List.getElem?_append_right hge] at hg;by_cases h0 : i = es.length
 ·
  have ha := r1 (by omega) s (by rw [h0, List.take_length]; exact hok.run)
  obtain ⟨a1, a2, a3⟩ := ha;rw [h0, Nat.sub_self] at hg;have hE : e = mkE 2 9 := (Option.some.inj hg).symm;subst hE;obtain ⟨m1, m2, m3, m4⟩ := hsim.2 (mkE_may rfl (by omega))
  have m2 : e'.k = 2 := m2;have m3 : e'.n = 9 := m3;have hst' := hst m1;have hmx : mayX s2.x e' = true := by
   unfold mayX; rw [if_pos (.inl m2), a3]; exact decide_eq_true hx
  have htk : takeX s2 e' N = (⟨N, s2.l, s2.h, e'.n⟩, 0) := by unfold takeX; rw [if_pos m2]
  rw [hmx, htk] at hst';simp only [Bool.true_eq_false, if_false, ne_eq, not_true_eq_false] at hst';refine ⟨fun h => absurd m1 h, fun _ h => absurd (by rw [hst']) h, fun _ _ => ⟨fun h => by omega, fun _ => ?_, fun h => by omega⟩⟩
  rw [hst'];exact ⟨m3, by show s2.l = s.h; rw [a1]; exact hso.c hx⟩
 by_cases h1 : i = es.length + 1
 ·
  obtain ⟨a1, a2⟩ := r2 (.inl h1);rw [h1, Nat.add_sub_cancel_left] at hg;have hE : e = ⟨6, 0, [], [], [], c⟩ := (Option.some.inj hg).symm;have keep : ∀ (b3 : List UInt8) (es3 : List Evt) (s3 : Sc), s3.x = s2.x -> s3.l = s2.l -> abR b es s (i + 1) b3 es3 s3 := fun b3 es3 s3 e1 e2 => ⟨fun h => by omega, fun _ => ⟨by rw [e1]; exact a1, by rw [e2]; exact a2⟩, fun h => by omega⟩
  refine ⟨fun _ => keep _ _ _ rfl rfl, fun _ _ => keep _ _ _ rfl rfl, fun hm h => ?_⟩
  have hst' := hst hm;have hk : e'.k = 6 := by rw [hsim.1, hE]
  have hst' := hst';rw [hst'] at h ⊢;split at h
  . simp at h
  rename_i c1;rw [if_neg c1];split at h
  . rename_i c2; exact absurd h c2
  rename_i c2;rw [if_neg c2];unfold takeX at c2 ⊢;rw [if_neg (by omega), if_neg (by omega), if_neg (by omega), if_pos hk] at c2 ⊢
  split
  . rename_i c3; rw [if_pos c3] at c2; exact absurd c3 (fun h => c2 h)
  . exact keep _ _ _ rfl rfl
 by_cases h2 : i = es.length + 2
 ·
  obtain ⟨a1, a2⟩ := r2 (.inr h2);rw [h2, Nat.add_sub_cancel_left] at hg;have hE : e = mkE 8 9 := (Option.some.inj hg).symm;subst hE;obtain ⟨m1, m2, m3, m4⟩ := hsim.2 (mkE_may rfl (by omega))
  have m2 : e'.k = 8 := m2;have m3 : e'.n = 9 := m3;have hst' := hst m1;have hmx : mayX s2.x e' = true := by
   unfold mayX; rw [if_neg (by omega), if_pos (by omega), a1, m3]; rfl
  have htk : takeX s2 e' N = (⟨N, s2.l, s2.l, -1⟩, 0) := by unfold takeX; rw [if_neg (by omega), if_neg (by omega), if_pos m2]
  rw [hmx, htk] at hst';simp only [Bool.true_eq_false, if_false, ne_eq, not_true_eq_false] at hst';refine ⟨fun h => absurd m1 h, fun _ h => absurd (by rw [hst']) h, fun _ _ => ⟨fun h => by omega, fun h => by omega, fun _ => ?_⟩⟩
  rw [hst'];exact ⟨rfl, a2⟩
 . exfalso;have := (liZ.1 hg).1;have : (abortE c).length = 3 := rfl;omega
theorem abR_end {b : List UInt8} {es : List Evt} {s : Sc} {c : Chg} (hok : LogOk b es s) (hx : s.x < 0) {b2 : List UInt8} {es2 : List Evt} {s2 : Sc} (h : abR b es s (min (es ++ abortE c).length 40) b2 es2 s2) : 0 <= s2.x \/ s2.h = s.h := by
 obtain ⟨r1, r2, r3⟩ := h;have hl : (es ++ abortE c).length = es.length + 3 := by rw [laZ]; rfl
 have hf := hok.few;rw [hl] at r1 r2 r3;by_cases h0 : min (es.length + 3) 40 <= es.length
 . have he : min (es.length + 3) 40 = es.length := by omega
   rw [he, List.take_length] at r1;exact .inr (r1 (Nat.le_refl _) s hok.run).2.1
 by_cases h3 : min (es.length + 3) 40 = es.length + 3
 . exact .inr (r3 h3).2
 . exact .inl (by rw [(r2 (by omega)).1]; decide)
def mr (k n : Int) : List V := [fI k, fI n, .str [], .nils, .nils, fI 0, .str [], .nils, fI 0, .str [], fI 0, .bool false]
def mc (c : Chg) : List V := [fI 6, fI 0, .str [], .nils, .nils, fI c.k, .str c.t, .sl 3 (cols c.c) false, fI c.ks, .str c.col.n, fI c.col.k, .bool c.col.o]
theorem mr_sub (k n : Int) : VSubs (mr k n) (evC (mkE k n)) := .cons (.refl _) (.cons (.refl _) (.cons (.refl _) (.cons (nils_sl3 false) (.cons (nils_sl3 false) (.cons (.refl _) (.cons (.refl _) (.cons (nils_sl3 false) (VSubs.refl _))))))))
theorem mc_sub (c : Chg) : VSubs (mc c) (evC ⟨6, 0, [], [], [], c⟩) := .cons (.refl _) (.cons (.refl _) (.cons (.refl _) (.cons (nils_sl3 false) (.cons (nils_sl3 false) (VSubs.refl _)))))
theorem more_sub {es : List Evt} {c : Chg} {n : Nat} (hn : n = es.length + 3) : VSub (.sl 12 (List.take n (List.drop 0 (evs es ++ [mr 2 9, mc c, mr 8 9]))) false) (.sl 12 (evs (es ++ abortE c)) false) := by
 have hel := evs_len es;have hl : (evs es ++ [mr 2 9, mc c, mr 8 9]).length = es.length + 3 := by rw [laZ, hel]; rfl
 rw [List.drop_zero, List.take_of_length_le (by omega), evs_app]
 refine VSub.slRows (by rw [hl, laZ, hel]; rfl) fun i e e' h1 h2 => ?_
 by_cases hi : i < (evs es).length
 . rw [List.getElem?_append_left hi] at h1 h2;rw [h1] at h2; cases h2; exact VSubs.refl _
 . rw [List.getElem?_append_right (by omega)] at h1 h2
   generalize i - (evs es).length = j at *
   match j with
   | 0 => cases h1; cases h2; exact mr_sub 2 9
   | 1 => cases h1; cases h2; exact mc_sub c
   | 2 => cases h1; cases h2; exact mr_sub 8 9
   | j + 3 => simp at h1
theorem app3F {i j n : Nat} {f : Bool} {x : List V} {X ys : List (List V)} {H : List O} {K : V -> List O -> Prop} (hij : Nat.beq i j = false) (hX : getO H i = .buf (x :: X)) (hn : n + 1 = (x :: X).length) (hs : X.length <= 1000000000) (hy : ys.length = 3)
 (hK : copyH (setO H i .dead ++ [.buf (X ++ ys)]) fun H' => K (.ms 12 (setO H i .dead).length 0 (X ++ ys).length false) H') :
 aapp 12 (tt 49).bytes (.ms 12 i 1 n false) (.ms 12 j 0 3 f) ys H K := by
 unfold aapp sameBuf;simp only [hij];unfold aappend;simp only [show Nat.beq 12 12 = true from rfl, hX]
 refine ⟨hn, ?_⟩;unfold newBuf;exact ⟨by rw [show List.drop 1 (x :: X) = X from rfl, laZ, hy, show (tt 49).bytes = 168 from rfl]; omega, hK⟩
theorem app3T {i j n : Nat} {f : Bool} {x : List V} {X ys : List (List V)} {H : List O} {K : V -> List O -> Prop} (hX : getO H i = .buf (x :: X)) (hn : n = X.length) (hs : X.length <= 1000000000) (hy : ys.length = 3)
 (hK : copyH (H ++ [.buf (X ++ ys)]) fun H' => K (.ms 12 H.length 0 (X ++ ys).length false) H') :
 aapp 12 (tt 49).bytes (.ms 12 i 1 n true) (.ms 12 j 0 3 f) ys H K := by
 subst hn;unfold aapp sameBuf;simp only;unfold aappend;simp only [show Nat.beq 12 12 = true from rfl, hX]
 refine ⟨by rw [List.length_cons]; omega, fun e => by rw [e] at hy; simp at hy, fun _ => ?_⟩
 rw [show List.drop 1 (x :: X) = X from rfl, List.take_length]
 unfold newBuf;exact ⟨by rw [laZ, hy, show (tt 49).bytes = 168 from rfl]; omega, hK⟩
set_option maxHeartbeats 16000000 in
theorem BinlogAborts_spec {l : List Evt} {c : Chg} {f1 : Bool} (hl : ∀ e ∈ l, EvtT e /\ EvtN e) (hll : l.length <= 9223372036854775807) (hc : c.c.length < 9223372036854775808) : ACall Tryz.prog 8 0 [.sl 12 (evs l) f1, chA c] [] (fun v _ => v = .bool true) := by
 refine by_body Tryz.func8 0 rfl (nbZ rfl) ?_
 conv => whnf
 refine .call [] 0 ⟨rfl, rfl, rfl⟩ (R7Log_spec hl hll (fun _ _ es _ => ∀ e ∈ es, EvtN e) (fun e h => by cases h) (fun i e b es s e' _ _ hR hok _ hn' _ => ⟨fun _ => hR, fun _ _ => hR, fun hm h0 x hx => by
  rcases List.mem_append.1 hx with hx | hx
  . exact hR x hx
  . have hst := step_frm (hok.run.ok sc0_ok).1 hok.pos hm hn';rw [List.mem_singleton.1 hx];rw [hst] at h0 ⊢;split at h0
    . simp at h0
    rename_i c1;rw [if_neg c1];split at h0
    . rename_i c2; exact absurd h0 c2
    rename_i c2;rw [if_neg c2];exact hn'⟩) fun b es s hok hN => ?_)
 have hle := hok.le;have hlb := bs_len b
 conv => whnf
 have hTb : List.take b.length (List.drop 0 (bs b)) = bs b := by rw [List.drop_zero, <- hlb, List.take_length]
 refine ACalls.frz 1 rfl rfl (by repeat (first | exact trivial | refine And.intro (by omega) ?_)) ?_
 refine ACalls.sub [.sl 1 (bs b) false] _ rfl (.cons (VSub.eq (congrArg (fun z => V.sl 1 z false) hTb)) (VSubs.refl _)) (HSub.refl _) ?_
 have hEv := log_evs hok;refine .call [] 0 ⟨rfl, rfl, rfl⟩ (R7EventsM_spec (b := b) (by omega) hEv fun fl => ?_)
 have hE : (ev0 :: evs es).length = es.length + 1 := by rw [List.length_cons, evs_len]
 have hTl : (b.length : Int) = ((List.take b.length (List.drop 0 (bs b))).length : Int) := by rw [hTb, hlb]
 by_cases hx : 0 <= s.x
 focus
  rw [if_pos hx]
  conv => whnf
  refine .pure (lives07_spec ⟨rfl, ?_⟩)
  conv => whnf
  exact ⟨[], rfl, rfl⟩
 rw [if_neg hx]
 conv => whnf
 refine branch_i (fun c1 => absurd hTl (by simpa using c1)) (fun c1 => ?_) <;> try rw [c1] <;> conv => whnf
 refine ⟨⟨by show (0 : Int) <= (if (40 : Int) < (c.t.length : Int) then 40 else (c.t.length : Int)); split <;> omega, by show (if (40 : Int) < (c.t.length : Int) then 40 else (c.t.length : Int)) <= _; split <;> omega⟩, ?_⟩
 conv => whnf
 refine ⟨⟨by omega, by show (1 : Int) <= ((ev0 :: evs es).length : Int); omega⟩, ?_⟩
 conv => whnf
 obtain ⟨c', hc'⟩ : ∃ c' : Chg, c' = ⟨c.k, c.t.take (if (40 : Int) < (c.t.length : Int) then (40 : Int) else (c.t.length : Int)).toNat, c.c, c.ks, c.col⟩ := ⟨_, rfl⟩
 have hmc : ([fI 6, fI 0, .str [], .nils, .nils, fI c.k, .str (c.t.take (if (40 : Int) < (c.t.length : Int) then (40 : Int) else (c.t.length : Int)).toNat), .sl 3 (cols c.c) false, fI c.ks, .str c.col.n, fI c.col.k, .bool c.col.o] : List V) = mc c' := by rw [hc']; rfl
 have hcl : c'.c.length < 9223372036854775808 := by rw [hc']; exact hc
 refine ⟨Nat.le_refl 3, ?_⟩;have hap : (evs es ++ [mr 2 9, mc c', mr 8 9]).length = es.length + 3 := by rw [laZ, evs_len]; rfl
 have hel := evs_len es;have hfew := hok.few;have hh0 : abR b es s 0 start [] sc0 := ⟨fun _ s1 h1 => by rw [List.take_zero] at h1; cases h1; exact ⟨rfl, rfl, rfl⟩, fun h => by omega, fun h => by omega⟩
 have hel3 : ∀ e ∈ es ++ abortE c', EvtT e /\ EvtN e := fun e he => by
  rcases List.mem_append.1 he with he | he
  . exact ⟨run_T (by omega) hok.run sc0_ok e he, hN e he⟩
  . simp only [abortE, List.mem_cons, List.not_mem_nil, or_false] at he;rcases he with rfl | rfl | rfl
    . exact ⟨evt0 _ _ _, mkE_n (by unfold I64; omega)⟩
    . exact ⟨evt6 _ _ hcl, evn6 _ _ _ i64_0⟩
    . exact ⟨evt0 _ _ _, mkE_n (by unfold I64; omega)⟩
 have hlog := fun {f : Bool} {Q : V -> List O -> Prop} h => R7Log_spec (l := es ++ abortE c') (f := f) (Q := Q) hel3 (by rw [laZ]; show es.length + 3 <= _; omega) (abR b es s) hh0 (fun i e b2 es2 s2 e' hg _ hR hok2 _ hn hsim => abR_step hok (by omega) hg hR hok2 hn hsim) h
 cases fl
 case' true => refine app3T rfl (by omega) (by omega) rfl ?_
 case' false => refine app3F rfl rfl (by omega) (by omega) rfl ?_
 all_goals
  refine copyH_of (l' := [_, _, _, _, .buf (evs es ++ [mr 2 9, mc c', mr 8 9])]) (by rw [<- hmc]; rfl) ?_
  conv => whnf
  refine ACalls.frz 4 rfl rfl (by repeat (first | exact trivial | refine And.intro (by first | omega | exact Nat.le_trans (Nat.le_of_eq ((Nat.zero_add _).trans (laZ.trans (congrArg (· + 3) hel)))) (Nat.le_of_eq hap.symm)) ?_)) ?_
  refine ACalls.sub [.sl 12 (evs (es ++ abortE c')) false] _ rfl (.cons (more_sub (laZ.trans (congrArg (· + 3) hel))) (VSubs.refl _)) (HSub.refl _) ?_;refine .call [] 0 ⟨rfl, rfl, rfl⟩ (hlog fun b2 es2 s2 hok2 hR2 => ?_)
  have hend := abR_end hok (by omega) hR2
  have hle2 := hok2.le;have hlb2 := bs_len b2;have hTb2 : List.take b2.length (List.drop 0 (bs b2)) = bs b2 := by rw [List.drop_zero, <- hlb2, List.take_length]
  conv => whnf
  have h7 := hok.len;have h72 := hok2.len;have hsl := start_len;have hN7 := fun {Q : V -> List O -> Prop} h => R7New_spec (Q := Q) h
  generalize start = st at *;have hls := bs_len st;refine .call [] 0 ⟨rfl, rfl, rfl⟩ (hN7 ?_)
  conv => whnf
  rw [hsl];refine .call [] 0 ⟨rfl, rfl, rfl⟩ (ACall.args (.cons (VSub.eq (congrArg (fun z => V.sl 1 z false) hTb)) (.cons (.refl _) (.cons (nils_sl3 false) (VSubs.refl _)))) (BlScan_spec (b := b) (a := 7) (l := []) (fun e => by rw [e] at h7; simp at h7) (by omega) tbsB_nil ?_))
  conv => whnf
  refine .call [] 0 ⟨rfl, rfl, rfl⟩ (hN7 ?_)
  conv => whnf
  rw [hsl];refine ACalls.frz 5 rfl rfl (by repeat (first | exact trivial | refine And.intro (by omega) ?_)) ?_
  refine ACalls.sub [.sl 1 (bs b2) false, fI 7, .sl 3 (tbs []) false] _ rfl (.cons (VSub.eq (congrArg (fun z => V.sl 1 z false) hTb2)) (.cons (.refl _) (.cons (nils_sl3 false) (VSubs.refl _)))) (HSub.refl _) ?_
  refine .call [] 0 ⟨rfl, rfl, rfl⟩ (BlScan_spec (b := b2) (a := 7) (l := []) (fun e => by rw [e] at h72; simp at h72) (by omega) tbsB_nil ?_)
  conv => whnf
  have hgo1 : goN b 50 sc0 = s := goN_run hok.run (by rw [step_end hok.pos]; decide) 50 (by omega)
  have hgo2 : goN b2 50 sc0 = s2 := goN_run hok2.run (by rw [step_end hok2.pos]; decide) 50 (by have := hok2.few; omega)
  refine ⟨⟨[11, 12, 13], fun mm ws H => ∃ (i : Nat) (s1 s3 : Sc) (n1 n3 : Int), ws = [.ptr 0 0, .ptr 1 0, fI i] /\ H = [scO b s1 n1, scO b2 s3 n3] /\ ScOk s1 /\ ScOk s3 /\ numOk s1 n1 /\ numOk s3 n3 /\ goN b (50 - i) s1 = s /\ goN b2 (50 - i) s3 = s2 /\ i <= 50 /\ mm = 50 - i, ?_, ?_⟩⟩
  focus
   exact .frz 51 (.go [7, 9] rfl 50 (by omega) ⟨0, sc0, sc0, 0, 0, rfl, rfl, sc0_ok, sc0_ok, fun hx => by simp [sc0] at hx, fun hx => by simp [sc0] at hx, hgo1, hgo2, by omega, rfl⟩)
  rintro mm ws H ⟨i, s1, s3, n1, n3, rfl, rfl, hs1, hs3, hn1, hn3, hg1, hg3, hi, rfl⟩
  conv => whnf
  refine branch_i (fun c4 => ?_) (fun c4 => ?_) <;> try rw [c4] <;> conv => whnf
  rotate_left
  focus
   have c4' := dfZ c4;have hi50 : 50 - i = 0 := by omega
   rw [hi50] at hg1 hg3;have hg1 : s1 = s := hg1;have hg3 : s3 = s2 := hg3;subst hg1 hg3;refine .call [0] 1 ⟨rfl, rfl, rfl⟩ (BlOpen_spec (b := b) (s := s1) (num := n1) ?_);rw [decide_eq_false hx]
   conv => whnf
   refine .call [1] 1 ⟨rfl, rfl, rfl⟩ (BlOpen_spec (b := b2) (s := s3) (num := n3) ?_)
   conv => whnf
   refine branch_i (fun c5 => ?_) (fun c5 => ?_) <;> try rw [c5] <;> conv => whnf
   focus
    refine .pure (lives07_spec ⟨rfl, ?_⟩)
    conv => whnf
    exact ⟨[], rfl, rfl⟩
   have hhh : s3.h = s1.h := hend.resolve_left (dfZ c5);refine .call [0] 1 ⟨rfl, rfl, rfl⟩ (BlTables_spec (b := b) (s := s1) (num := n1) hs1.h ?_)
   conv => whnf
   refine .call [1] 1 ⟨rfl, rfl, rfl⟩ (BlTables_spec (b := b2) (s := s3) (num := n3) hs3.h ?_);rw [hhh]
   conv => whnf
   refine .pure (RSameT_self (l := s1.h) hs1.h.few (fun x hx => by have := hs1.h.cols x hx; omega) ⟨rfl, ?_⟩)
   conv => whnf
   refine .pure (lives07_spec ⟨rfl, ?_⟩)
   conv => whnf
   exact ⟨[], rfl, rfl⟩
  have c4' := dtZ c4;obtain ⟨k, hk⟩ : ∃ k, 50 - i = k + 1 := ⟨50 - i - 1, by omega⟩
  rw [hk] at hg1 hg3;have hg1 : goN b k (stepS b s1).2.1 = s := hg1;have hg3 : goN b2 k (stepS b2 s3).2.1 = s2 := hg3;have hk' : 50 - (i + 1) = k := by omega
  refine .call [0] 1 ⟨rfl, rfl, rfl⟩ (BlSNext_spec (b := b) (s := s1) (num := n1) (by omega) hs1 hn1 fun m1 hm1 => ?_)
  conv => whnf
  refine .call [1] 1 ⟨rfl, rfl, rfl⟩ (BlSNext_spec (b := b2) (s := s3) (num := n3) (by omega) hs3 hn3 fun m3 hm3 => ?_)
  have ho1 := stepS_any (b := b) hs1;have ho3 := stepS_any (b := b2) hs3;generalize stepS b s1 = R1 at *;generalize stepS b2 s3 = R3 at *;obtain ⟨e1, t1, g1⟩ := R1;obtain ⟨e3, t3, g3⟩ := R3
  conv => whnf
  have fin : ∀ x : V, x = .int .i64 (IntKind.i64.wrap ((i : Int) + 1)) -> x = fI (i + 1 : Nat) := fun x h => by rw [h, wrapL (by omega)]; rfl
  exact .go [0, 1] rfl (50 - (i + 1)) (by omega) ⟨i + 1, t1, t3, m1, m3, congrArg (fun z => [V.ptr 0 0, V.ptr 1 0, z]) (fin _ rfl), rfl, ho1, ho3, hm1, hm3, by rw [hk']; exact hg1, by rw [hk']; exact hg3, by omega, rfl⟩
theorem chgA_in {vs : List V} (h : Shp tt 8 47 vs) : ∃ c : Chg, argV tt 47 vs = chA c /\ c.c.length < 9223372036854775808 := by
 obtain ⟨_, _, ⟨ck, hck, rfl⟩, ⟨_, _, ⟨ct, _, rfl⟩, ⟨_, _, ⟨_, _, ⟨es, hes, g1, rfl⟩, ⟨_, _, ⟨ks, hks, rfl⟩, rfl, rfl⟩, rfl⟩, ⟨_, _, ⟨_, _, ⟨cn, _, rfl⟩, ⟨_, _, ⟨cck, hcck, rfl⟩, ⟨_, _, ⟨o, rfl⟩, rfl, rfl⟩, rfl⟩, rfl⟩, rfl, rfl⟩, rfl⟩, rfl⟩, rfl⟩ := h;obtain ⟨l, rfl, hl⟩ := cols_of fun x hx => by
  obtain ⟨_, _, ⟨s, _, rfl⟩, ⟨_, _, ⟨k, hk, rfl⟩, ⟨_, _, ⟨o, rfl⟩, rfl, rfl⟩, rfl⟩, rfl⟩ := g1 x hx;exact ⟨s, k, o, rfl, i64_wf hk⟩
 rw [cols_len] at hes;have hmx : maxLen < 9223372036854775808 := by decide
 exact ⟨⟨ck, ct, l, ks, ⟨cn, cck, o⟩⟩, rfl, Nat.lt_of_le_of_lt hes hmx⟩
end Go.Proofs.YtcdkklgeepkopaaGreatDoorPg
