/- Own texts, laid together: Pg13DWin16, Pg13DWin17, Pg13DWin18, Pg13DWin19. -/
import Derived.Test.YtgikkoeckdhgkaaDoorPgM19
/- An event of one table made of any; rows behind an event. -/
namespace Go.Proofs.YtgikkoeckdhgkaaDoorPg
open Go Go.RowKit
set_option linter.unusedSimpArgs false
set_option linter.unusedVariables false

variable {Q : V → List O → Prop}

theorem find_one {w : Tb} {n : List UInt8} {C : List Col} {K : Int} (h : findT [w] n = some (C, K)) : w.n = n ∧ C = w.c ∧ K = w.k := by
  unfold findT at h
  cases ha : atT [w] n with
  | none => rw [ha] at h; cases h
  | some i =>
    obtain ⟨x, hx, hn, hlt⟩ := atT_get ha
    have hi : i = 0 := by simp at hlt; exact hlt
    subst hi
    cases hx
    rw [ha] at h
    simp only [Option.bind_some, List.getElem?_cons_zero, Option.some.injEq, Prod.mk.injEq] at h
    exact ⟨hn, h.1.symm, h.2.symm⟩

/-- an event that was made so -/
structure Made (w : Tb) (e e2 : Evt) : Prop where
  x : EvX e2
  f : 3 ≤ e2.k → e2.k ≤ 5 → EvF w e2

theorem evx_nil (k n : Int) (t : List UInt8) (c : Chg) : EvX ⟨k, n, t, [], [], c⟩ := ⟨textsOk_nil, textsOk_nil⟩

theorem rowL_key {C : List Col} {K : Nat} {vs : List Val} (hK : K ≤ C.length) (hk : ∀ c ∈ C, 1 ≤ c.k ∧ c.k ≤ 4) : keyOkL C K ((rowL C vs).take K) = true ∧ ((rowL C vs).take K).length = K := by
  have hf := row_fits hk vs
  have hlen : ((rowL C vs).take K).length = K := by rw [List.length_take, rowL_len]; omega
  refine ⟨?_, hlen⟩
  have h2 := keyOk_of_fits hK hf
  unfold keyOkL at h2 ⊢
  rw [Bool.and_eq_true, List.all_eq_true] at h2 ⊢
  rw [hlen]
  refine ⟨decide_eq_true (Nat.le_refl _), fun i hi => ?_⟩
  have := h2.2 i hi
  have hiK := List.mem_range.1 hi
  unfold stAt at this ⊢
  rw [List.getElem?_take, if_pos hiK]
  exact this

theorem made3 {w : Tb} (hw : TbK w) (hk : ∀ c ∈ w.c, 1 ≤ c.k ∧ c.k ≤ 4) {e : Evt} (k : Int) (h5 : k ≠ 5) (vs : List Val) : Made w e ⟨k, 0, w.n, [], rowL w.c vs, chg0⟩ :=
  ⟨⟨textsOk_nil, textsOk_row _ _⟩, fun h1 h2 => ⟨h1, h2, rfl, fun _ => row_fits hk vs, fun h => absurd h h5⟩⟩

theorem made5 {w : Tb} (hw : TbK w) (hk : ∀ c ∈ w.c, 1 ≤ c.k ∧ c.k ≤ 4) {e : Evt} (vs : List Val) : Made w e ⟨5, 0, w.n, (rowL w.c vs).take w.k.toNat, [], chg0⟩ :=
  ⟨⟨fun v hv => textsOk_row _ _ v (List.mem_of_mem_take hv), textsOk_nil⟩, fun h1 h2 => ⟨h1, h2, rfl, fun h => absurd rfl h, fun _ => by
    obtain ⟨g1, g2⟩ := rowL_key (vs := vs) hw.nat.2 hk
    refine ⟨g1, ?_⟩
    show (((rowL w.c vs).take w.k.toNat).length : Int) = w.k
    rw [g2]
    have := hw.lo; omega⟩⟩

theorem made0 {w : Tb} {e : Evt} (k n : Int) (c : Chg) (h : ¬ (3 ≤ k ∧ k ≤ 5)) : Made w e ⟨k, n, [], [], [], c⟩ := ⟨evx_nil _ _ _ _, fun h1 h2 => absurd ⟨h1, h2⟩ h⟩

set_option maxHeartbeats 32000000 in
theorem REvent1_spec {e : Evt} {w : Tb} (hw : TbK w) (hk : ∀ c ∈ w.c, 1 ≤ c.k ∧ c.k ≤ 4) (h : ∀ e2, Made w e e2 → Q (evA e2) []) : ACall Tryd.prog 21 0 [evA e, .sl 3 (tbs [w]) false] [] Q := by
  refine ACall.ret (by_body Tryd.func21 0 rfl (Nat.le_of_ble_eq_true rfl) ?_)
  conv => whnf
  have hbn := hw.nat
  have hb16 := hw.few
  have hwk := hw.lo
  have key : ∀ C, C = w.c → (∀ c ∈ C, -9223372036854775808 ≤ c.k ∧ c.k ≤ 9223372036854775807) := fun C hC c hc => by subst hC; have := hk c hc; omega
  refine .pure (EvRFind_spec (l := [w]) (by simp) ⟨rfl, ?_⟩)
  unfold findR
  rcases hf : findT [w] e.t with _ | ⟨C, K⟩ <;> conv => whnf
  focus
    refine branch_i (fun a2 => ?_) (fun a2 => ?_) <;> try rw [a2] <;> conv => whnf
    focus
      refine branch_i (fun a3 => ?_) (fun a3 => ?_) <;> try rw [a3] <;> conv => whnf
      focus
        have b2 := of_decide_eq_true a2
        have b3 := of_decide_eq_true a3
        refine ⟨_, ⟨by decide, rfl⟩, ?_⟩
        conv => whnf
        refine ⟨_, ⟨by decide, rfl⟩, ?_⟩
        conv => whnf
    rotate_left
    iterate 2
      focus
        repeat' (refine branch_i (fun e => ?_) (fun e => ?_) <;> try rw [e] <;> conv => whnf)
        all_goals
          first
          | (exfalso; simp only [decide_eq_true_eq, decide_eq_false_iff_not] at *; omega)
          | exact ⟨[], rfl, .sub _ _ (may_sub6 _ _ _) (HSub.refl _) (.done [] rfl (h _ (made0 _ _ _ (by simp only [decide_eq_true_eq, decide_eq_false_iff_not] at *; omega))))⟩
          | exact ⟨[], rfl, .sub _ _ (may_subN _ _) (HSub.refl _) (.done [] rfl (h _ (made0 _ _ _ (by simp only [decide_eq_true_eq, decide_eq_false_iff_not] at *; omega))))⟩
          | (try dsimp [mergeO, mapO, idx, renO, renV, renL, renE, fogOf, fogE, back, forget, gather, getO, setO, Nat.beq, List.drop, List.take, frzH, frzO, frzV, frzL, frzE]); trace_state; sorry
  rotate_left
  focus
    obtain ⟨hn, rfl, rfl⟩ := find_one hf
    rw [← hn]
  all_goals
    have hki := key _ rfl
    obtain ⟨wn, C, K⟩ := w
    obtain ⟨k, rfl⟩ : ∃ k : Nat, K = k := ⟨K.toNat, by simp only at hwk; omega⟩
    have hC : C.length ≤ 16 := hb16
    have hkC : k ≤ C.length := hbn.2
    refine branch_i (fun k3 => ?_) (fun k3 => ?_) <;> try rw [k3] <;> conv => whnf
    · refine .pure (Row_spec (l := C) (keys := (k : Int)) (vs := e.a) (by omega) hki ⟨rfl, ?_⟩)
      conv => whnf
      exact ⟨[], rfl, .sub _ _ (row_sub _ _ _) (HSub.refl _) (.done [] rfl (h _ (made3 hw hk _ (by have := of_decide_eq_true k3; omega) e.a)))⟩
    refine branch_i (fun k4 => ?_) (fun k4 => ?_) <;> try rw [k4] <;> conv => whnf
    · refine .pure (Row_spec (l := C) (keys := (k : Int)) (vs := e.a) (by omega) hki ⟨rfl, ?_⟩)
      conv => whnf
      exact ⟨[], rfl, .sub _ _ (row_sub _ _ _) (HSub.refl _) (.done [] rfl (h _ (made3 hw hk _ (by have := of_decide_eq_true k4; omega) e.a)))⟩
    refine branch_i (fun k5 => ?_) (fun k5 => ?_) <;> try rw [k5] <;> conv => whnf
    · have k5' := of_decide_eq_true k5
      refine ⟨[0, 1, 2, 4, 5, 3, 6, 7, 8], by kernel_rfl, by kernel_rfl, ?_⟩
      conv => whnf
      refine .pure (Row_spec (l := C) (keys := (k : Int)) (vs := e.b) (by omega) hki ⟨rfl, ?_⟩)
      have hrl : (vals (rowL C e.b)).length = C.length := by rw [vals_len, rowL_len]
      repeat (conv => whnf
              refine ⟨rfl, ?_⟩)
      conv => whnf
      refine ⟨(show (0 : Int) ≤ (k : Int) ∧ (k : Int) ≤ ((vals (rowL C e.b)).length : Int) by omega), ?_⟩
      conv => whnf
      rw [vals_take]
      have := h _ (made5 (e := e) hw hk e.b)
      rw [← k5'] at this
      exact ⟨[], rfl, .sub _ _ (row_sub5 _ _ _) (HSub.refl _) (.done [] rfl this)⟩
    refine branch_i (fun k6 => ?_) (fun k6 => ?_) <;> try rw [k6] <;> conv => whnf
    · exact ⟨[], rfl, .sub _ _ (may_sub6 _ _ _) (HSub.refl _) (.done [] rfl (h _ (made0 _ _ _ (by simp only [decide_eq_true_eq, decide_eq_false_iff_not] at *; omega))))⟩
    refine branch_i (fun k7 => ?_) (fun k7 => ?_) <;> try rw [k7] <;> conv => whnf
    · exact ⟨[], rfl, .sub _ _ (may_subN _ _) (HSub.refl _) (.done [] rfl (h _ (made0 _ _ _ (by simp only [decide_eq_true_eq, decide_eq_false_iff_not] at *; omega))))⟩
    · exact ⟨[], rfl, .sub _ _ (may_subN _ _) (HSub.refl _) (.done [] rfl (h _ (made0 _ _ _ (by simp only [decide_eq_true_eq, decide_eq_false_iff_not] at *; omega))))⟩

set_option maxHeartbeats 4000000 in
theorem turned_spec {C : List Col} {K : Nat} {l : List Rw} {e : Evt} (hC : C.length ≤ 1000) (hk : K ≤ C.length) (ht : RowsT l) (he : EvX e) (hn : l.length ≤ 1000000)
    (h : Q (.sl 1 (rws (turnE C K l e)) false) []) :
    ACall Tryd.prog 22 0 [sch C K, .sl 1 (rws l) false, evA e] [] Q := by
  refine by_body Tryd.func22 0 rfl (Nat.le_of_ble_eq_true rfl) ?_
  conv => whnf
  unfold turnE at h
  refine branch_i (fun c => ?_) (fun c => ?_) <;> try rw [c] <;> conv => whnf
  · rw [if_pos (of_decide_eq_true c)] at h
    refine ⟨List.range 8, by kernel_rfl, by kernel_rfl, ?_⟩
    conv => whnf
    refine .pure (RKey10_spec (C := C) (K := K) (r := e.b) (f := false) hC hk he.b ⟨rfl, ?_⟩)
    repeat (conv => whnf
            refine ⟨rfl, ?_⟩)
    conv => whnf
    refine .pure (RCut10_spec (C := C) (K := K) (l := l) (key := kyR C K e.b) hC hk ht hn ⟨rfl, ?_⟩)
    repeat (conv => whnf
            refine ⟨rfl, ?_⟩)
    conv => whnf
    exact ⟨[], rfl, h⟩
  · rw [if_neg (of_decide_eq_false c)] at h
    refine .pure (RPut10_spec (C := C) (K := K) (l := l) (r := e.a) (f := false) hC hk ht he.a hn ⟨rfl, ?_⟩)
    conv => whnf
    exact ⟨[], rfl, h⟩

end Go.Proofs.YtgikkoeckdhgkaaDoorPg

/- The law WindowFollows. -/
namespace Go.Proofs.YtgikkoeckdhgkaaDoorPg
open Go Go.RowKit
set_option linter.unusedSimpArgs false
set_option linter.unusedVariables false

variable {Q : V → List O → Prop}

theorem REventB_spec {e : Evt} {w : Tb} (hw : TbK w) (hk : ∀ c ∈ w.c, 1 ≤ c.k ∧ c.k ≤ 4) (h : ∀ e2, Made w e e2 → Q (evA e2) [.dead]) :
    ACall Tryd.prog 21 1 [evA e, .ms 3 0 0 1 true] [.buf [tbC w]] Q := by
  refine ACall.stay 1 rfl (ACall.frzIn 0 rfl ?_ (ACall.selIn [] rfl ?_))
  · repeat (first | exact trivial | refine And.intro (Nat.le_refl _) ?_)
  · show ACall Tryd.prog 21 0 [evA e, .sl 3 (tbs [w]) true] [] _
    exact ACall.args (.cons (.refl _) (.cons (VSub.room 3 _ true) (VSubs.refl _))) (REvent1_spec hw hk fun e2 h2 => h e2 h2)

theorem fits_texts {C : List Col} {r : Rw} (h : fitsL C r = true) : TextsOk r := fun v hv => by
  obtain ⟨i, hi⟩ := List.mem_iff_getElem?.1 hv
  have hlt := (List.getElem?_eq_some_iff.1 hi).1
  unfold fitsL at h
  rw [Bool.and_eq_true, decide_eq_true_eq, List.all_eq_true] at h
  have hc : C[i]? = some C[i] := List.getElem?_eq_getElem (by omega)
  have := h.2 i (List.mem_range.2 hlt)
  rw [stAt_some hc hi] at this
  have := stands_text this
  omega

theorem RowsOk.texts {t : Tb} {l : List Rw} (h : RowsOk t l) : RowsT l := fun r hr => fits_texts (h.fit r hr)

theorem EvF.x {t : Tb} {e : Evt} (hx : EvX e) (h : EvF t e) : EvX e := hx

theorem fold_sz (n : Int) (h1 : -9223372036854775808 ≤ n) (h2 : n ≤ 9223372036854775807) :
    (0 ≤ n → 1 ≤ IntKind.i64.wrap (1 + n.tmod 6) ∧ IntKind.i64.wrap (1 + n.tmod 6) ≤ 6) ∧
    (n < 0 → 1 ≤ IntKind.i64.wrap (1 + (IntKind.i64.wrap (0 - IntKind.i64.wrap (n + 1))).tmod 6) ∧ IntKind.i64.wrap (1 + (IntKind.i64.wrap (0 - IntKind.i64.wrap (n + 1))).tmod 6) ≤ 6) ∧
    (n < 0 → 0 ≤ IntKind.i64.wrap (0 - IntKind.i64.wrap (n + 1)) ∧ IntKind.i64.wrap (0 - IntKind.i64.wrap (n + 1)) ≤ 9223372036854775807) := by
  refine ⟨fun h => ?_, fun h => ?_, fun h => ?_⟩
  · rw [IntKind.wrap_i64, Int.tmod_eq_emod_of_nonneg h]
    omega
  · have e1 : IntKind.i64.wrap (n + 1) = n + 1 := by rw [IntKind.wrap_i64]; omega
    have e2 : IntKind.i64.wrap (0 - (n + 1)) = - (n + 1) := by rw [IntKind.wrap_i64]; omega
    rw [e1, e2, IntKind.wrap_i64, Int.tmod_eq_emod_of_nonneg (by omega)]
    omega
  · have e1 : IntKind.i64.wrap (n + 1) = n + 1 := by rw [IntKind.wrap_i64]; omega
    have e2 : IntKind.i64.wrap (0 - (n + 1)) = - (n + 1) := by rw [IntKind.wrap_i64]; omega
    rw [e1, e2]
    omega

/-- the events gathered so far -/
def flI (E : List Evt) (b : Tb) (rows : List Rw) (ev at0 sz : Int) (m : Nat) (ws : List V) (H : List O) : Prop :=
  ∃ (i : Nat) (A : List Evt), ws = [.sl 12 (evs E) false, fI at0, fI sz, .ptr 0 0, .sl 1 (rws rows) false, .ms 12 1 0 A.length false, fI i] ∧
    H = [.cells [.str b.n, .sl 3 (cols b.c) false, fI b.k], .buf (evs A)] ∧ (∀ e ∈ A, EvF b e ∧ EvX e) ∧ A.length ≤ i ∧ i ≤ 20 ∧ m = 20 - i

theorem app_ev {i j n : Nat} {f : Bool} {X : List Evt} {w : Evt} {H : List O} {K : V → List O → Prop} (hij : Nat.beq i j = false) (hX : getO H i = .buf (evs X)) (hn : n = X.length) (hs : X.length ≤ 1000000)
    (hK : copyH (setO H i .dead ++ [.buf (evs (X ++ [w]))]) fun H' => K (.ms 12 (setO H i .dead).length 0 (X ++ [w]).length false) H') :
    0 + 1 ≤ 1 ∧ aapp 12 168 (.ms 12 i 0 n false) (.ms 12 j 0 1 f) [evC w] H K := by
  subst hn
  refine ⟨Nat.le_refl 1, ?_⟩
  unfold aapp sameBuf
  simp only [hij]
  unfold aappend
  simp only [show Nat.beq 12 12 = true from rfl, hX, List.drop_zero]
  refine ⟨by rw [evs_len]; rfl, ?_⟩
  rw [show evs X ++ [evC w] = evs (X ++ [w]) by simp [evs]]
  unfold newBuf
  rw [evs_len]
  exact ⟨by rw [List.length_append, List.length_singleton]; omega, hK⟩

theorem app_rw {i j n : Nat} {f : Bool} {X : List Rw} {w : Rw} {H : List O} {K : V → List O → Prop} (hij : Nat.beq i j = false) (hX : getO H i = .buf (rws X)) (hn : n = X.length) (hs : X.length ≤ 1000000)
    (hK : copyH (setO H i .dead ++ [.buf (rws (X ++ [w]))]) fun H' => K (.ms 1 (setO H i .dead).length 0 (X ++ [w]).length false) H') :
    0 + 1 ≤ 1 ∧ aapp 1 24 (.ms 1 i 0 n false) (.ms 1 j 0 1 f) [[fR w]] H K := by
  subst hn
  refine ⟨Nat.le_refl 1, ?_⟩
  unfold aapp sameBuf
  simp only [hij]
  unfold aappend
  simp only [show Nat.beq 1 1 = true from rfl, hX, List.drop_zero]
  refine ⟨by rw [rws_len]; rfl, ?_⟩
  rw [show rws X ++ [[fR w]] = rws (X ++ [w]) by simp [rws]]
  unfold newBuf
  rw [rws_len]
  exact ⟨by rw [List.length_append, List.length_singleton]; omega, hK⟩

set_option maxHeartbeats 64000000 in
theorem WindowFollows_spec {l : List Col} {keys : Int} {R : List Rw} {E : List Evt} {pos size : Int} (hl : ∀ c ∈ l, I64 c.k) (hk : I64 keys) (hp : I64 pos) (hs : I64 size) :
    ACall Tryd.prog 5 0 [sch l keys, .sl 1 (rws R) false, .sl 12 (evs E) false, fI pos, fI size] [] (fun v _ => v = .bool true) := by
  refine by_body Tryd.func5 0 rfl (Nat.le_of_ble_eq_true rfl) ?_
  have hle := evs_len E
  conv => whnf
  refine .pure (RGood_spec (l := l) (keys := keys) hk ⟨rfl, ?_⟩)
  conv => whnf
  obtain ⟨hm, hb, hkinds⟩ := gT_ok hl hk
  obtain ⟨z1, z2, _⟩ := fold_sz size hs.1 hs.2
  obtain ⟨_, _, p3⟩ := fold_sz pos hp.1 hp.2
  refine branch_i (fun c1 => ?_) (fun c1 => ?_) <;> try rw [c1] <;> conv => whnf
  focus
    refine ⟨by decide, ?_⟩
    have hsz := z2 (of_decide_eq_true c1)
    obtain ⟨sz, hsE⟩ : ∃ s, s = IntKind.i64.wrap (1 + (IntKind.i64.wrap (0 - IntKind.i64.wrap (size + 1))).tmod 6) := ⟨_, rfl⟩
    rw [← hsE] at hsz
    conv => whnf
  rotate_left
  focus
    refine ⟨by decide, ?_⟩
    have hsz := z1 (by have := of_decide_eq_false c1; omega)
    obtain ⟨sz, hsE⟩ : ∃ s, s = IntKind.i64.wrap (1 + size.tmod 6) := ⟨_, rfl⟩
    rw [← hsE] at hsz
    conv => whnf
  all_goals
    clear z1 z2
    refine branch_i (fun c2 => ?_) (fun c2 => ?_) <;> try rw [c2] <;> conv => whnf
  all_goals
    obtain ⟨hok, hlen, _⟩ := rowsN_ok hb hkinds R 10
    refine .pure (RRows13_spec (b := gT l keys) (l := R) (f := false) (most := 10) hb hkinds (by decide) ⟨rfl, ?_⟩)
    have hp3 : 0 ≤ (if pos < 0 then IntKind.i64.wrap (0 - IntKind.i64.wrap (pos + 1)) else pos) := by
      split
      · rename_i hh; exact (p3 hh).1
      · omega
    generalize rowsN (gT l keys) 10 R = rows at *
    conv => whnf
    obtain ⟨at0, haE, hp3⟩ : ∃ a, a = (if pos < 0 then IntKind.i64.wrap (0 - IntKind.i64.wrap (pos + 1)) else pos) ∧ 0 ≤ a := ⟨_, rfl, hp3⟩
    first
    | rw [if_pos (of_decide_eq_true c2)] at haE
    | rw [if_neg (of_decide_eq_false c2)] at haE
    refine ⟨⟨[2, 3, 4, 11, 12, 13, 14], flI E (gT l keys) rows 12 at0 sz, .frz 21 (.adopt (.sub _ _ (.cons (.refl _) (.cons (.refl _) (.cons (.refl _) (.cons (.refl _) (.cons (.refl _) (.cons (VSub.ms0 12 2 0 false) (VSubs.refl _))))))) (HSub.refl _) (.go [1, 2] rfl 20 (by omega) ⟨0, [], by rw [hsE, haE]; rfl, rfl, by simp, by simp, by omega, rfl⟩))), ?_⟩⟩
    rintro mm ws H ⟨i, A, rfl, rfl, hA, hAi, hi, rfl⟩
    clear hsE haE c1 c2 p3 hp hs
    conv => whnf
    have hel := evs_len A
    refine branch_i (fun d1 => ?_) (fun d1 => ?_) <;> try rw [d1] <;> conv => whnf
    focus
      refine branch_i (fun d2 => ?_) (fun d2 => ?_) <;> try rw [d2] <;> conv => whnf
      focus
        have d1' := of_decide_eq_true d1
        have d2' := of_decide_eq_true d2
        have hlt : i < E.length := by omega
        have hg : E[i]? = some E[i] := List.getElem?_eq_getElem hlt
        generalize E[i] = e at *
        refine ⟨List.range 9, by kernel_rfl, by kernel_rfl, ?_⟩
        conv => whnf
        refine ⟨_, ⟨by omega, evs_get hg⟩, ?_⟩
        repeat (conv => whnf
                first | (refine ⟨rfl, ?_⟩) | (refine ⟨⟨_, ⟨by omega, evs_get hg⟩, rfl⟩, ?_⟩))
        conv => whnf
        refine .call [2] 1 ⟨rfl, rfl, rfl⟩ (REventB_spec (e := e) hb hkinds fun e2 hmade => ?_)
        repeat (conv => whnf
                first | (refine ⟨rfl, ?_⟩) | (refine ⟨⟨_, ⟨by omega, evs_get hg⟩, rfl⟩, ?_⟩))
        conv => whnf
        have nx : ∀ (k : Int) (A' : List Evt), k = IntKind.i64.wrap ((i : Int) + 1) → [V.sl 12 (evs E) false, fI at0, fI sz, .ptr 0 0, .sl 1 (rws rows) false, .ms 12 1 0 A'.length false, fI k] = [V.sl 12 (evs E) false, fI at0, fI sz, .ptr 0 0, .sl 1 (rws rows) false, .ms 12 1 0 A'.length false, fI ((i + 1 : Nat) : Int)] := fun k A' hk => by
          rw [hk, wrapE (by omega)]; rfl
        refine branch_i (fun k3 => ?_) (fun k3 => ?_) <;> try rw [k3] <;> conv => whnf
        focus
          refine branch_i (fun k5 => ?_) (fun k5 => ?_) <;> try rw [k5] <;> conv => whnf
          focus
            have hf := hmade.f (of_decide_eq_true k3) (of_decide_eq_true k5)
            refine app_ev (X := A) (w := e2) rfl rfl rfl (by omega) ?_
            conv => whnf
            refine .go [0, 5] rfl (20 - (i + 1)) (by omega) ⟨i + 1, A ++ [e2], nx _ _ rfl, rfl, fun x hx => ?_, by rw [List.length_append, List.length_singleton]; omega, by omega, rfl⟩
            rcases List.mem_append.1 hx with hx | hx
            · exact hA x hx
            · rw [List.mem_singleton.1 hx]; exact ⟨hf, hmade.x⟩
        all_goals
          exact .go [0, 1] rfl (20 - (i + 1)) (by omega) ⟨i + 1, A, nx _ _ rfl, rfl, hA, by omega, by omega, rfl⟩
  all_goals
    have hwr : IntKind.i64.wrap ((A.length : Int) + 1) = (A.length : Int) + 1 := wrapE (by omega)
    rw [hwr]
    refine ⟨by omega, ?_⟩
    obtain ⟨p, hpE, hpA⟩ : ∃ p : Nat, at0.tmod ((A.length : Int) + 1) = p ∧ p ≤ A.length := by
      have h1 : 0 ≤ at0.tmod ((A.length : Int) + 1) := by rw [Int.tmod_eq_emod_of_nonneg hp3]; exact Int.emod_nonneg _ (by omega)
      have h2 : at0.tmod ((A.length : Int) + 1) < (A.length : Int) + 1 := by rw [Int.tmod_eq_emod_of_nonneg hp3]; exact Int.emod_lt_of_pos _ (by omega)
      exact ⟨(at0.tmod ((A.length : Int) + 1)).toNat, by omega, by omega⟩
    rw [hpE]
    conv => whnf
    refine ⟨⟨[3, 4, 11, 12, 13, 16], fun m ws H => ∃ j : Nat, ws = [fI p, fI sz, .ptr 0 0, .sl 1 (rws ((A.take j).foldl (turnE (gT l keys).c (gT l keys).k.toNat) rows)) false, .sl 12 (evs A) false, fI j] ∧
      H = [.cells [.str (gT l keys).n, .sl 3 (cols (gT l keys).c) false, fI (gT l keys).k]] ∧ j ≤ p ∧ m = p - j,
      .frz (p + 1) (.frz 1 rfl (by repeat (first | exact trivial | refine And.intro (by rw [hel, Nat.zero_add]; exact Nat.le_refl _) ?_)) (.go [0] rfl p (by omega) ⟨0, ?_, rfl, by omega, rfl⟩)), ?_⟩⟩
    focus
      show [fI p, fI sz, V.ptr 0 0, V.sl 1 (rws rows) false, V.sl 12 (List.take A.length (List.drop 0 (evs A))) false, fI 0] = _
      rw [List.drop_zero, List.take_of_length_le (by rw [hel]; exact Nat.le_refl _)]
      rfl
    rintro mm ws H ⟨j, rfl, rfl, hj, rfl⟩
    conv => whnf
    have hEv : ∀ e ∈ A, EvF (gT l keys) e := fun e he => (hA e he).1
    have hJ : RowsOk (gT l keys) ((A.take j).foldl (turnE (gT l keys).c (gT l keys).k.toNat) rows) := RowsOk.turns _ hok fun e he => hEv e (List.mem_of_mem_take he)
    have hJl := turns_len (gT l keys).c (gT l keys).k.toNat (A.take j) rows
    rw [List.length_take] at hJl
    refine branch_i (fun g1 => ?_) (fun g1 => ?_) <;> try rw [g1] <;> conv => whnf
    focus
      have g1' := of_decide_eq_true g1
      have hlt : j < A.length := by omega
      have hg : A[j]? = some A[j] := List.getElem?_eq_getElem hlt
      have hex := (hA A[j] (List.getElem_mem hlt)).2
      have hsn : A.take (j + 1) = A.take j ++ [A[j]] := by rw [List.take_add_one, hg]; rfl
      generalize A[j] = e at *
      refine ⟨List.range 9, by kernel_rfl, by kernel_rfl, ?_⟩
      conv => whnf
      refine ⟨_, ⟨by omega, evs_get hg⟩, ?_⟩
      conv => whnf
      have hgk : (gT l keys).k = ((gT l keys).k.toNat : Int) := by have := hb.lo; omega
      rw [hgk]
      refine .pure (turned_spec (C := (gT l keys).c) (K := (gT l keys).k.toNat) (l := (A.take j).foldl (turnE (gT l keys).c (gT l keys).k.toNat) rows) (e := e) (by have := hb.few; omega) hb.nat.2 hJ.texts hex (by omega) ⟨rfl, ?_⟩)
      repeat (conv => whnf
              first | (refine ⟨rfl, ?_⟩) | (refine ⟨⟨_, ⟨by omega, evs_get hg⟩, rfl⟩, ?_⟩))
      conv => whnf
      refine .go [0] rfl (p - (j + 1)) (by omega) ⟨j + 1, ?_, ?_, by omega, rfl⟩
      focus
        rw [hsn, List.foldl_append]
        show [fI p, fI sz, V.ptr 0 0, V.sl 1 (rws (turnE (gT l keys).c (gT l keys).k.toNat ((A.take j).foldl (turnE (gT l keys).c (gT l keys).k.toNat) rows) e)) false, V.sl 12 (evs A) false, V.int .i64 (IntKind.i64.wrap ((j : Int) + 1))] = _
        rw [wrapE (by omega)]; rfl
      focus
        rw [← hgk]; rfl
  all_goals
    have g1' := of_decide_eq_false g1
    have hjp : j = p := by omega
    subst hjp
    have hjl : ((A.take j).foldl (turnE (gT l keys).c (gT l keys).k.toNat) rows).length ≤ 30 := by omega
    obtain ⟨S, hS⟩ : ∃ S, S = (A.take j).foldl (turnE (gT l keys).c (gT l keys).k.toNat) rows := ⟨_, rfl⟩
    rw [← hS] at hJ hjl
    rw [← hS]
    have hrS := rws_len S
    refine .call [] 0 ⟨rfl, rfl, rfl⟩ (WNew_spec ?_)
    rw [if_neg (show ¬ sz < 1 by omega)]
    conv => whnf
    refine ⟨List.range 10, by kernel_rfl, by kernel_rfl, ?_⟩
    conv => whnf
    rw [hrS]
    obtain ⟨m, hmE⟩ : ∃ m : Nat, (if sz < (S.length : Int) then sz else (S.length : Int)) = m := ⟨(if sz < (S.length : Int) then sz else (S.length : Int)).toNat, by split <;> omega⟩
    rw [hmE]
    have hm1 : m ≤ S.length ∧ (m : Int) ≤ sz ∧ (sz ≤ (S.length : Int) → (m : Int) = sz) ∧ ((S.length : Int) < sz → m = S.length) := by
      split at hmE <;> (refine ⟨?_, ?_, ?_, ?_⟩ <;> omega)
    refine ⟨(show (0 : Int) ≤ (m : Int) ∧ (m : Int) ≤ (S.length : Int) by omega), ?_⟩
    rw [Int.toNat_natCast, rws_take]
    conv => whnf
    have hSm := hJ.take m
    have hSml : (S.take m).length = m := by rw [List.length_take]; omega
    obtain ⟨hop, hoo⟩ := open_rows (size := sz) (num := 3) hb hm (show nameOk [116] = true by decide) hSm (by omega) (by decide)
    refine .call [1] 1 ⟨rfl, rfl, rfl⟩ (WOpen0_spec (size := sz) (num := 3) (b := gT l keys) (after := []) (rows := S.take m) (by omega) hSm.texts (by omega) (fun hx => absurd (by rw [hop]) hx) fun t0 n0 _ hw0 => ?_)
    rw [hop] at hw0 ⊢
    have hgood0 := open_good (nm := nameOk) (my := mayS) (size := sz) (num := 3) (b := gT l keys) (after := []) (rows := S.take m) (by omega) (rise_some hSm.srt fun r h => ⟨hSm.fit r h, hSm.pos hb r h⟩) hoo (fun hm => by have := may_bd hm; exact ⟨this.1, this.2.2.1, this.2.2.2⟩)
    have hlast : decide (((S.take m).length : Int) < sz) = decide ((S.length : Int) < sz) := by
      rw [hSml]
      by_cases hc : (S.length : Int) < sz
      · rw [decide_eq_true hc, decide_eq_true (by have := hm1.2.2.2 hc; omega)]
      · rw [decide_eq_false hc, decide_eq_false (by have := hm1.2.2.1 (by omega); omega)]
    rw [hlast] at hop hw0 hgood0 ⊢
    repeat (conv => whnf
            refine ⟨rfl, ?_⟩)
    conv => whnf
    have hFol : Fol ⟨sz, true, 3, gT l keys, [], lastK (gT l keys) [] (S.take m), decide ((S.length : Int) < sz), false, S.take m⟩ (gT l keys) sz (decide ((S.length : Int) < sz)) (lastK (gT l keys) [] (S.take m)) S (A.take 0) := by
      refine ⟨rfl, rfl, rfl, rfl, rfl, rfl, rfl, hgood0, fun _ k => ?_⟩
      show look k (kvT (gT l keys) (S.take m)) = if within _ _ k then look k (kvT (gT l keys) S) else none
      by_cases hc : (S.length : Int) < sz
      · rw [hm1.2.2.2 hc, List.take_length, decide_eq_true hc]
        rfl
      · obtain ⟨m', rfl⟩ : ∃ m', m = m' + 1 := ⟨m - 1, by have := hm1.2.2.1 (by omega); omega⟩
        rw [decide_eq_false hc]
        exact first_part hb hJ (by omega) k
    generalize hfE : lastK (gT l keys) [] (S.take m) = fin at *
    generalize hw0E : (⟨sz, true, 3, gT l keys, [], fin, decide ((S.length : Int) < sz), false, S.take m⟩ : WS) = w0 at *
    rw [hrS]
    have hw0l : w0.last = decide ((S.length : Int) < sz) := by rw [← hw0E]
    have hgk : (gT l keys).k = ((gT l keys).k.toNat : Int) := by have := hb.lo; omega
    cases hlst : decide ((S.length : Int) < sz) <;> rw [hlst] at hFol <;> conv => whnf
    focus
      have hm' : (m : Int) = sz := hm1.2.2.1 (by have := of_decide_eq_false hlst; omega)
      have hlt : m - 1 < S.length := by omega
      have hg : S[m - 1]? = some S[m - 1] := List.getElem?_eq_getElem hlt
      have hex := hJ.texts S[m - 1] (List.getElem_mem hlt)
      have hsn : S.take m = S.take (m - 1) ++ [S[m - 1]] := by
        have : S.take (m - 1 + 1) = S.take (m - 1) ++ [S[m - 1]] := by rw [List.take_add_one, hg]; rfl
        rw [← this, show m - 1 + 1 = m by omega]
      have hfK : fin = kyT (gT l keys) S[m - 1] := by rw [← hfE, hsn, lastK_snoc]
      have hszw : IntKind.i64.wrap (sz - 1) = ((m - 1 : Nat) : Int) := by rw [wrapE (by omega)]; omega
      generalize S[m - 1] = r at *
      refine ⟨List.range 9, by kernel_rfl, by kernel_rfl, ?_⟩
      conv => whnf
      rw [hszw]
      refine ⟨_, ⟨(show (0 : Int) ≤ ((m - 1 : Nat) : Int) by omega), rws_some (by rw [Int.toNat_natCast]; exact hg)⟩, ?_⟩
      conv => whnf
      rw [hgk]
      refine .pure (RKey10_spec (C := (gT l keys).c) (K := (gT l keys).k.toNat) (r := r) (f := false) (by have := hb.few; omega) hb.nat.2 hex ⟨rfl, ?_⟩)
      repeat (conv => whnf
              first | (refine ⟨rfl, ?_⟩) | (refine ⟨⟨_, ⟨(show (0 : Int) ≤ ((m - 1 : Nat) : Int) by omega), rws_some (by rw [Int.toNat_natCast]; exact hg)⟩, rfl⟩, ?_⟩))
      conv => whnf
      obtain ⟨en, henE, hfe⟩ : ∃ en, en = kyR (gT l keys).c (gT l keys).k.toNat r ∧ fin = en := ⟨_, rfl, hfK⟩
      rw [← henE]
      obtain ⟨lb, hlbE⟩ : ∃ lb : Bool, lb = false := ⟨_, rfl⟩
      have hfe2 : lb = false → fin = en := fun _ => hfe
      have hen2 : lb = true → en = [] := fun h => by rw [hlbE] at h; cases h
      rw [← hlbE] at hFol hlst
      have hen3 : en = en := rfl
    rotate_left
    focus
      obtain ⟨en, hen3⟩ : ∃ en : List UInt8, en = [] := ⟨_, rfl⟩
      obtain ⟨lb, hlbE⟩ : ∃ lb : Bool, lb = true := ⟨_, rfl⟩
      have hfe2 : lb = false → fin = en := fun h => by rw [hlbE] at h; cases h
      have hen2 : lb = true → en = [] := fun _ => hen3
      rw [← hlbE] at hFol hlst
  all_goals
    refine ⟨⟨[3, 11, 12, 13, 17, 18, 19, 20], fun mm ws H => ∃ (i : Nat) (w : WS) (t : Tr Rw) (n : Int), ws = [fI j, .ptr 3 0, .sl 1 (rws (((A.take i).drop j).foldl (turnE (gT l keys).c (gT l keys).k.toNat) S)) false, .sl 12 (evs A) false, .ptr 0 0, .bool lb, .str en, fI i] ∧
      H = openH w t n ++ [.cells [.str (gT l keys).n, .sl 3 (cols (gT l keys).c) false, fI (gT l keys).k]] ∧ WOk w t n (30 + i) ∧ Fol w (gT l keys) sz lb fin S (A.take i) ∧ i ≤ A.length ∧ mm = A.length - i,
      .frz (A.length + 1) (.go [1, 2, 3, 0] rfl A.length (by omega) ⟨0, w0, t0, n0, ?_, ?_, ⟨hw0.ok.mono (by omega), hw0.eq, hw0.may⟩, hFol, by omega, rfl⟩), ?_⟩⟩
    focus
      rw [show (A.take 0).drop j = [] by simp]
      first
      | (rw [hlbE]; rfl)
      | (rw [hlbE, hen3]; rfl)
    focus
      first
      | rfl
      | (rw [← hgk]; rfl)
    clear hw0 hFol hop hgood0 hw0E hw0l t0 n0
    rintro mm ws H ⟨i2, w, t, n, rfl, rfl, hw, hF, hi2, rfl⟩
    conv => whnf
    have hrl := hF.good.txt
    have hEd : ∀ e ∈ (A.take i2).drop j, EvF (gT l keys) e := fun e he => hEv e (List.mem_of_mem_take (List.mem_of_mem_drop he))
    have hN : RowsOk (gT l keys) (((A.take i2).drop j).foldl (turnE (gT l keys).c (gT l keys).k.toNat) S) := RowsOk.turns _ hJ hEd
    have hNl := turns_len (gT l keys).c (gT l keys).k.toNat ((A.take i2).drop j) S
    rw [List.length_drop, List.length_take] at hNl
    refine branch_i (fun q1 => ?_) (fun q1 => ?_) <;> try rw [q1] <;> conv => whnf
    focus
      have q1' := of_decide_eq_true q1
      have hlt : i2 < A.length := by omega
      have hg : A[i2]? = some A[i2] := List.getElem?_eq_getElem hlt
      have hex := (hA A[i2] (List.getElem_mem hlt))
      have hsn : A.take (i2 + 1) = A.take i2 ++ [A[i2]] := by rw [List.take_add_one, hg]; rfl
      generalize A[i2] = e at *
      refine ⟨_, ⟨by omega, evs_get hg⟩, ?_⟩
      conv => whnf
      obtain ⟨f1, f2⟩ := hF.take hb hJ hex.1 (fun x hx => hEv x (List.mem_of_mem_take hx))
      refine .call [0, 1, 2] 2 ⟨rfl, rfl, rfl⟩ (WTake_spec (w := w) (e := e) hF.good hF.is hw (by omega) hex.2 fun t3 n3 w3 => ?_)
      rw [f1]
      rw [← hsn] at f2
      generalize (takeS w e).1 = w2 at *
      conv => whnf
      have nx : ∀ (N : List Rw) (k : Int), k = IntKind.i64.wrap ((i2 : Int) + 1) → [fI j, V.ptr 3 0, .sl 1 (rws N) false, .sl 12 (evs A) false, .ptr 0 0, .bool lb, .str en, fI k] = [fI j, V.ptr 3 0, .sl 1 (rws N) false, .sl 12 (evs A) false, .ptr 0 0, .bool lb, .str en, fI ((i2 + 1 : Nat) : Int)] := fun N k hk => by
        rw [hk, wrapE (by omega)]; rfl
      refine branch_i (fun q2 => ?_) (fun q2 => ?_) <;> try rw [q2] <;> conv => whnf
      focus
        have q2' : ¬ (i2 : Int) < (j : Int) := by simpa using q2
        have hdr : (A.take (i2 + 1)).drop j = (A.take i2).drop j ++ [e] := by
          rw [hsn, List.drop_append_of_le_length (by rw [List.length_take]; omega)]
        refine ⟨List.range 9, by kernel_rfl, by kernel_rfl, ?_⟩
        conv => whnf
        refine ⟨_, ⟨by omega, evs_get hg⟩, ?_⟩
        conv => whnf
        rw [hgk]
        refine .pure (turned_spec (C := (gT l keys).c) (K := (gT l keys).k.toNat) (l := ((A.take i2).drop j).foldl (turnE (gT l keys).c (gT l keys).k.toNat) S) (e := e) (by have := hb.few; omega) hb.nat.2 hN.texts hex.2 (by omega) ⟨rfl, ?_⟩)
        repeat (conv => whnf
                first | (refine ⟨rfl, ?_⟩) | (refine ⟨⟨_, ⟨by omega, evs_get hg⟩, rfl⟩, ?_⟩))
        conv => whnf
        refine .go [0, 1, 2, 3] rfl (A.length - (i2 + 1)) (by omega) ⟨i2 + 1, w2, t3, n3, ?_, ?_, ⟨w3.ok.mono (by omega), w3.eq, w3.may⟩, f2, by omega, rfl⟩
        focus
          rw [hdr, List.foldl_append]
          exact nx _ _ rfl
        focus
          rw [← hgk]; rfl
      focus
        have q2' : (i2 : Int) < (j : Int) := by simpa using q2
        have hdr : (A.take (i2 + 1)).drop j = (A.take i2).drop j := by
          rw [List.drop_of_length_le (by rw [List.length_take]; omega), List.drop_of_length_le (by rw [List.length_take]; omega)]
        refine .go [0, 1, 2, 3] rfl (A.length - (i2 + 1)) (by omega) ⟨i2 + 1, w2, t3, n3, ?_, rfl, ⟨w3.ok.mono (by omega), w3.eq, w3.may⟩, f2, by omega, rfl⟩
        rw [hdr]
        exact nx _ _ rfl
  all_goals
    have q1' := of_decide_eq_false q1
    have hie : i2 = A.length := by omega
    subst hie
    rw [List.take_length] at hF hN hNl hEd
    rw [List.take_length]
    refine .call [0, 1, 2] 3 ⟨rfl, rfl, rfl⟩ (WSpoiled1_spec (w := w) ?_)
    cases hsp : w.sp <;> conv => whnf
    rotate_left
    focus
      refine .call [0, 1, 2] 3 ⟨rfl, rfl, rfl⟩ (WLen1_spec hw (by omega) (fun r hr => by have := hrl r hr; omega) ?_)
      rw [hF.good.spo hsp]
      conv => whnf
      refine .pure (lives13_spec ⟨rfl, ?_⟩)
      conv => whnf
      exact ⟨[], rfl, rfl⟩
    have hEnds := Fol.ends (a := A.take j) (b := A.drop j) (S0 := rows) hb hok (fun e he => hEv e (List.mem_of_mem_take he)) (fun e he => hEv e (List.mem_of_mem_drop he)) (by rw [List.take_append_drop, ← hS]; exact hF) hsp
    rw [← hS] at hEnds
    obtain ⟨N, hNE⟩ : ∃ N, N = (A.drop j).foldl (turnE (gT l keys).c (gT l keys).k.toNat) S := ⟨_, rfl⟩
    rw [← hNE] at hEnds hN hNl
    rw [← hNE]
    have hNr := rws_len N
    refine ⟨⟨[11, 12, 17, 18, 19, 21, 22], fun mm ws H => ∃ i : Nat, ws = [.ptr 3 0, .sl 1 (rws N) false, .ptr 0 0, .bool lb, .str en, .ms 1 4 0 ((N.take i).filter fun r => within lb fin (kyT (gT l keys) r)).length false, fI i] ∧
      H = openH w t n ++ [.cells [.str (gT l keys).n, .sl 3 (cols (gT l keys).c) false, fI (gT l keys).k], .buf (rws ((N.take i).filter fun r => within lb fin (kyT (gT l keys) r)))] ∧ i ≤ N.length ∧ mm = N.length - i,
      .frz (N.length + 1) (.adopt (.sub _ _ (.cons (.refl _) (.cons (.refl _) (.cons (.refl _) (.cons (.refl _) (.cons (.refl _) (.cons (VSub.ms0 1 4 0 false) (VSubs.refl _))))))) (HSub.refl _) (.go [0, 1, 2, 3, 4] rfl N.length (by omega) ⟨0, rfl, rfl, by omega, rfl⟩))), ?_⟩⟩
    rintro mm ws H ⟨i3, rfl, rfl, hi3, rfl⟩
    conv => whnf
    refine branch_i (fun r1 => ?_) (fun r1 => ?_) <;> try rw [r1] <;> conv => whnf
    focus
      have r1' := of_decide_eq_true r1
      have hlt : i3 < N.length := by omega
      have hg : N[i3]? = some N[i3] := List.getElem?_eq_getElem hlt
      have hex := hN.texts N[i3] (List.getElem_mem hlt)
      have hsn : (N.take (i3 + 1)).filter (fun r => within lb fin (kyT (gT l keys) r)) = (N.take i3).filter (fun r => within lb fin (kyT (gT l keys) r)) ++ (if within lb fin (kyT (gT l keys) N[i3]) then [N[i3]] else []) := by
        rw [List.take_add_one, hg, List.filter_append]
        congr 1
        simp only [Option.toList_some, List.filter_cons, List.filter_nil]
      have hfl : ((N.take i3).filter (fun r => within lb fin (kyT (gT l keys) r))).length ≤ 100 := by
        have := List.length_filter_le (fun r => within lb fin (kyT (gT l keys) r)) (N.take i3)
        rw [List.length_take] at this
        omega
      generalize N[i3] = r at *
      have nx : ∀ (L : List Rw) (k : Int), k = IntKind.i64.wrap ((i3 : Int) + 1) → [V.ptr 3 0, .sl 1 (rws N) false, .ptr 0 0, .bool lb, .str en, .ms 1 4 0 L.length false, fI k] = [V.ptr 3 0, .sl 1 (rws N) false, .ptr 0 0, .bool lb, .str en, .ms 1 4 0 L.length false, fI ((i3 + 1 : Nat) : Int)] := fun L k hk => by
        rw [hk, wrapE (by omega)]; rfl
      refine ⟨[0, 1, 2, 3, 4, 5, 6, 7, 9, 8, 10, 11], by kernel_rfl, by kernel_rfl, ?_⟩
      conv => whnf
      cases lb <;> conv => whnf
      focus
        have hfe3 := hfe2 rfl
        refine ⟨_, ⟨by omega, rws_some hg⟩, ?_⟩
        conv => whnf
        rw [hgk]
        refine .pure (RKey10_spec (C := (gT l keys).c) (K := (gT l keys).k.toNat) (r := r) (f := false) (by have := hb.few; omega) hb.nat.2 hex ⟨rfl, ?_⟩)
        repeat (conv => whnf
                first | (refine ⟨rfl, ?_⟩) | (refine ⟨⟨_, ⟨by omega, rws_some hg⟩, rfl⟩, ?_⟩))
        conv => whnf
        rw [le_eq]
        have hwi : within false fin (kyT (gT l keys) r) = !Op.bytesLess en (kyR (gT l keys).c (gT l keys).k.toNat r) := by rw [hfe3]; rfl
        rw [hwi] at hsn
        cases hlk : Op.bytesLess en (kyR (gT l keys).c (gT l keys).k.toNat r) <;> rw [hlk] at hsn <;> conv => whnf
        focus
          simp only [Bool.not_false, if_true] at hsn
          refine ⟨_, ⟨by omega, rws_some hg⟩, ?_⟩
          conv => whnf
          refine app_rw (X := (N.take i3).filter (fun r => within false fin (kyT (gT l keys) r))) (w := r) rfl rfl rfl (by omega) ?_
          conv => whnf
          refine .go [0, 1, 2, 3, 6] rfl (N.length - (i3 + 1)) (by omega) ⟨i3 + 1, ?_, ?_, by omega, rfl⟩
          focus
            rw [hsn]
            exact nx _ _ rfl
          focus
            rw [hsn]
            first
            | rfl
            | (rw [← hgk]; rfl)
        focus
          simp only [Bool.not_true, Bool.false_eq_true, if_false, List.append_nil] at hsn
          refine .go [0, 1, 2, 3, 4] rfl (N.length - (i3 + 1)) (by omega) ⟨i3 + 1, ?_, ?_, by omega, rfl⟩
          focus
            rw [hsn]
            exact nx _ _ rfl
          focus
            rw [hsn]
            first
            | rfl
            | (rw [← hgk]; rfl)
      focus
        have hwi : within true fin (kyT (gT l keys) r) = true := rfl
        rw [hwi, if_pos rfl] at hsn
        refine ⟨_, ⟨by omega, rws_some hg⟩, ?_⟩
        conv => whnf
        refine app_rw (X := (N.take i3).filter (fun r => within true fin (kyT (gT l keys) r))) (w := r) rfl rfl rfl (by omega) ?_
        conv => whnf
        refine .go [0, 1, 2, 3, 6] rfl (N.length - (i3 + 1)) (by omega) ⟨i3 + 1, ?_, ?_, by omega, rfl⟩
        focus
          rw [hsn]
          exact nx _ _ rfl
        focus
          rw [hsn]
          first
          | rfl
          | (rw [← hgk]; rfl)
    have r1' := of_decide_eq_false r1
    have hie3 : i3 = N.length := by omega
    subst hie3
    rw [List.take_length, ← hEnds]
    have hwl : w.rows.length < 1000000 := by have := hw.len; have := hw.ok.len; have := hw.ok.le; omega
    refine .call [0, 1, 2] 1 ⟨rfl, rfl, rfl⟩ (WShutN_spec (w := w) (num := 3) hF.num hw (by omega) (fun r hr => by have := hrl r hr; omega) ?_)
    rw [hsp, hF.tb, hF.lst, hF.fn]
    conv => whnf
    have hrl2 : ∀ r ∈ w.rows, r.length < 1000000 := fun r hr => by have := hrl r hr; omega
    refine .frz 4 rfl rfl (by repeat (first | exact trivial | refine And.intro (by rw [rws_len, Nat.zero_add]; exact Nat.le_refl _) ?_)) (.pure (ACall.args (.cons (.refl _) (.cons (VSub.of_eq (b := .sl 1 (rws w.rows) false) ?_) (VSubs.refl _))) (SameRows_spec (l := w.rows) (f := false) (f2 := false) hwl hrl2 ⟨rfl, ?_⟩)))
    focus
      show V.sl 1 (List.take w.rows.length (List.drop 0 (rws w.rows))) false = _
      rw [List.drop_zero, ← rws_len, List.take_length]
    conv => whnf
    have hcmp : (decide ((gT l keys).n = [116]) && (lb == lb && (decide ((if lb = true then [] else fin) = en) && true))) = true := by
      rw [show decide ((gT l keys).n = [116]) = true from decide_eq_true rfl]
      cases lb
      · rw [if_neg (by simp), hfe2 rfl, decide_eq_true (rfl : en = en)]; rfl
      · rw [if_pos rfl, hen2 rfl]; rfl
    rw [hcmp]
    conv => whnf
    refine .pure (lives13_spec ⟨rfl, ?_⟩)
    conv => whnf
    exact ⟨[], rfl, rfl⟩

end Go.Proofs.YtgikkoeckdhgkaaDoorPg

/- A deed, done to both windows. -/
namespace Go.Proofs.YtgikkoeckdhgkaaDoorPg
open Go Go.RowKit
set_option linter.unusedSimpArgs false
set_option linter.unusedVariables false

variable {Q : V → List O → Prop}

structure Deed where
  k : Int
  n : Int
  a : List Val
  r : List Rw
  e : Evt
  raw : Bool

def ddC (d : Deed) : List V := [.int .i64 d.k, .int .i64 d.n, .sl 3 (vals d.a) false, .sl 1 (rws d.r) false, .int .i64 d.e.k, .int .i64 d.e.n, .str d.e.t, .sl 3 (vals d.e.b) false, .sl 3 (vals d.e.a) false, .int .i64 d.e.ch.k, .str d.e.ch.t, .sl 3 (cols d.e.ch.c) false, .int .i64 d.e.ch.ks, .str d.e.ch.col.n, .int .i64 d.e.ch.col.k, .bool d.e.ch.col.o, .bool d.raw]
def ddA (d : Deed) : V := .agg (ddC d)

def wsC (w : WS) : List V := [.int .i64 w.size, .bool w.is, .int .i64 w.num, .str w.t.n, .sl 3 (cols w.t.c) false, .int .i64 w.t.k, .str w.after, .str w.fin, .bool w.last, .bool w.sp, .sl 1 (rws w.rows) false]
def wsZ : O := .cells [.int .i64 0, .bool false, .int .i64 0, .str [], .nils, .int .i64 0, .str [], .str [], .bool false, .bool false, .nils]

theorem WTake0_spec {size : Int} {e : Evt} (h : Q (fI 0) (shutH size)) : ACall Tryd.prog 24 1 [.ptr 0 0, evA e] (shutH size) Q := by
  refine by_body Tryd.func24 1 rfl (Nat.le_of_ble_eq_true rfl) ?_
  conv => whnf
  exact ⟨[0], rfl, h⟩

theorem RowsOk.drop1 {t : Tb} {l : List Rw} (h : RowsOk t l) : RowsOk t (l.drop 1) :=
  ⟨by have := h.srt; unfold kvT kvR SortedL at *; rw [List.map_drop]; exact List.Pairwise.sublist (List.drop_sublist _ _) this, fun r hr => h.fit r (List.mem_of_mem_drop hr)⟩

/-- what holds behind a deed -/
structure After (b : Tb) (size : Int) (w : WS) (H : List O) (m : Nat) : Prop where
  good : WGood w
  win : WinH w H m
  tb : w.is = true → w.t = b
  sz : w.size = size

set_option maxHeartbeats 32000000 in
theorem does_shut {size : Int} {m : Nat} {b : Tb} {d : Deed} (hb : TbK b) (hk : ∀ c ∈ b.c, 1 ≤ c.k ∧ c.k ≤ 4) (hs : 1 ≤ size) (hd : EvX d.e)
    (h : ∀ w' H', After b size w' H' (m + 10) → Q (.tup [wsV w', .bool true]) H') :
    ACall Tryd.prog 28 1 [.ptr 0 0, wsV (shutW size), tbA b, ddA d] (shutH size) Q := by
  refine by_body Tryd.func28 1 rfl (Nat.le_of_ble_eq_true rfl) ?_
  have stay : Q (.tup [wsV (shutW size), .bool true]) (shutH size) := h _ _ ⟨WGood.shutOk hs, .shut _ hs, fun hx => absurd hx (by simp [shutW]), rfl⟩
  have hbn := hb.nat
  have hb16 := hb.few
  have hbk : b.k = (b.k.toNat : Int) := by have := hb.lo; omega
  conv => whnf
  refine branch_i (fun c0 => ?_) (fun c0 => ?_) <;> try rw [c0] <;> conv => whnf
  focus
    obtain ⟨hok, hlen, htx⟩ := rowsN_ok hb hk d.r 6
    refine .pure (RRows13_spec (b := b) (l := d.r) (f := false) (most := 6) hb hk (by decide) ⟨rfl, ?_⟩)
    generalize rowsN b 6 d.r = rows at *
    conv => whnf
    refine branch_i (fun c1 => ?_) (fun c1 => ?_) <;> try rw [c1] <;> conv => whnf
    focus
      refine ⟨List.range 9, by kernel_rfl, by kernel_rfl, ?_⟩
      conv => whnf
      refine .pure (Row_spec (l := b.c) (keys := b.k) (vs := d.a) (f := false) (by omega) (fun c hc => by have := hk c hc; omega) ⟨rfl, ?_⟩)
      repeat (conv => whnf
              refine ⟨rfl, ?_⟩)
      conv => whnf
      rw [hbk]
      refine .pure (RKey10_spec (C := b.c) (K := b.k.toNat) (r := rowL b.c d.a) (f := false) (by omega) hbn.2 (textsOk_row _ _) ⟨rfl, ?_⟩)
      repeat (conv => whnf
              refine ⟨rfl, ?_⟩)
      conv => whnf
      obtain ⟨after, haE⟩ : ∃ a, a = kyR b.c b.k.toNat (rowL b.c d.a) := ⟨_, rfl⟩
      have haF : after = after := rfl
    rotate_left
    focus
      obtain ⟨after, haE⟩ : ∃ a : List UInt8, a = [] := ⟨_, rfl⟩
      have haF : after = after := rfl
    all_goals
      refine ⟨⟨[0, 5, 6, 7, 8, 11, 12], fun mm ws H => ∃ rows' : List Rw, ws = [.ptr 0 0, .ptr 1 0, .ptr 2 0, .ptr 3 0, .ptr 4 0, .sl 1 (rws rows') false, .str after] ∧
        H = (shutH size) ++ [.cells (wsC (shutW size)), .cells (tbC b), .cells (ddC d), wsZ] ∧ RowsOk b rows' ∧ rows'.length ≤ 6 ∧ mm = rows'.length,
        .frz 7 (.go [0, 1, 2, 3, 4] rfl rows.length (by omega) ⟨rows, ?_, ?_, hok, by omega, rfl⟩), ?_⟩⟩
      focus
        rw [haE]; rfl
      focus
        first
        | rfl
        | (rw [← hbk]; rfl)
      clear hok hlen htx c1 haE rows
      rintro mm ws H ⟨rows, rfl, rfl, hok, hlen, rfl⟩
      have hrl := rws_len rows
      conv => whnf
      refine ⟨[0, 1, 2, 3, 4, 5, 6, 7, 8, 9, 10, 11, 12, 13, 15, 14, 16, 17], by kernel_rfl, by kernel_rfl, ?_⟩
      conv => whnf
      refine branch_i (fun a1 => ?_) (fun a1 => ?_) <;> try rw [a1] <;> conv => whnf
      focus
        have a1' := of_decide_eq_true a1
        have hlt : 0 < rows.length := by omega
        have hg : rows[0]? = some rows[0] := List.getElem?_eq_getElem hlt
        have hex := hok.texts rows[0] (List.getElem_mem hlt)
        generalize rows[0] = r at *
        cases hraw : d.raw <;> conv => whnf
        focus
          refine ⟨_, ⟨by decide, rws_some hg⟩, ?_⟩
          conv => whnf
          rw [hbk]
          refine .pure (RKey10_spec (C := b.c) (K := b.k.toNat) (r := r) (f := false) (by omega) hbn.2 hex ⟨rfl, ?_⟩)
          repeat (conv => whnf
                  first | (refine ⟨rfl, ?_⟩) | (refine ⟨⟨_, ⟨by decide, rws_some hg⟩, rfl⟩, ?_⟩))
          conv => whnf
          rw [le_eq]
          cases hlk : Op.bytesLess after (kyR b.c b.k.toNat r) <;> conv => whnf
          focus
            refine ⟨(show (0 : Int) ≤ 1 ∧ (1 : Int) ≤ ((rws rows).length : Int) by omega), ?_⟩
            conv => whnf
            refine .go [0, 1, 2, 3, 4] rfl (rows.drop 1).length (by rw [List.length_drop]; omega) ⟨rows.drop 1, ?_, ?_, hok.drop1, by rw [List.length_drop]; omega, rfl⟩
            focus
              rw [← rws_drop]; rfl
            focus
              first
              | rfl
              | (rw [← hbk]; rfl)
      all_goals
        refine .pure (ROpen13_spec (w := (shutW size)) (num := d.n) (b := b) (after := after) (rows := rows) hok.texts (by omega) ⟨rfl, ?_⟩)
        conv => whnf
        refine ⟨[0, 1, 2, 3, 4, 5, 6, 8, 7, 9, 10, 11], by kernel_rfl, by kernel_rfl, ?_⟩
        conv => whnf
        refine .call [0] 1 ⟨rfl, rfl, rfl⟩ (WOpen0_spec (size := size) (num := d.n) (b := b) (after := after) (rows := rows) hs hok.texts (by omega) (fun hx => ?_) fun t n hx hw => ?_)
        focus
          rcases open_cases nameOk mayS size d.n b after rows with hc | ⟨fin, g1, g2, hc⟩
          · rw [hc]
            repeat (conv => whnf
                    refine ⟨rfl, ?_⟩)
            conv => whnf
            exact ⟨[0], rfl, stay⟩
          · exact absurd (by rw [hc]) hx
        focus
          rcases open_cases nameOk mayS size d.n b after rows with hc | ⟨fin, g1, g2, hc⟩
          · rw [hc] at hx; cases hx
          · rw [hc] at hw ⊢
            have hgood := open_good hs g1 g2 (fun hm => by have := may_bd hm; exact ⟨this.1, this.2.2.1, this.2.2.2⟩)
            repeat (conv => whnf
                    refine ⟨rfl, ?_⟩)
            conv => whnf
            have := h _ _ ⟨hgood, .open rfl ⟨hw.ok.mono (by omega), hw.eq, hw.may⟩, fun _ => rfl, rfl⟩
            exact ⟨[0, 6, 7], rfl, this⟩
  refine branch_i (fun c1 => ?_) (fun c1 => ?_) <;> try rw [c1] <;> conv => whnf
  focus
    cases hraw : d.raw <;> conv => whnf
    focus
      refine .frz 5 rfl rfl (by repeat (first | exact trivial | refine And.intro (Nat.le_refl _) ?_)) (.pure (ACall.args (.cons (.refl _) (.cons (VSub.room 3 _ true) (VSubs.refl _))) (REvent1_spec (e := d.e) (w := b) hb hk fun e2 hmade => ⟨rfl, ?_⟩)))
      have hx := hmade.x
      conv => whnf
    rotate_left
    focus
      obtain ⟨e2, he2⟩ : ∃ e2, e2 = d.e := ⟨_, rfl⟩
      have hx := hd
      rw [← he2] at hx
      rw [← he2]
    all_goals
      refine .pure (RTake13_spec (w := (shutW size)) (e := e2) (WGood.shutOk hs) (fun r hr => absurd hr List.not_mem_nil) (show (0 : Nat) < 1000000 by decide) hx ⟨rfl, ?_⟩)
      conv => whnf
      refine ⟨[0, 1, 2, 4, 3, 5, 6, 7], by kernel_rfl, by kernel_rfl, ?_⟩
      conv => whnf
      refine .call [0] 1 ⟨rfl, rfl, rfl⟩ (WTake0_spec ?_)
      rw [show takeS (shutW size) e2 = (shutW size, 0) by unfold takeS; rw [if_pos (.inl rfl)]]
      repeat (conv => whnf
              refine ⟨rfl, ?_⟩)
      conv => whnf
      exact ⟨[0], rfl, stay⟩
  refine branch_i (fun c2 => ?_) (fun c2 => ?_) <;> try rw [c2] <;> conv => whnf
  focus
    focus
        have hsh : shutS (shutW size) d.n = (shutW size, .tup [.sl 1 (rws []) false, .agg [.str [], .bool false, .str []], .bool false, fI 14]) := by unfold shutS; rw [if_pos (.inl rfl)]
        refine .pure (RShut13_spec (w := (shutW size)) (num := d.n) ⟨rfl, ?_⟩)
        rw [hsh]
        conv => whnf
        refine .call [0] 1 ⟨rfl, rfl, rfl⟩ (WShut0_spec ?_)
        conv => whnf
        refine ⟨List.range 21, by kernel_rfl, by kernel_rfl, ?_⟩
        conv => whnf
        refine .pure (SameRows_spec (l := []) (f := false) (f2 := false) (by decide) (fun r hr => absurd hr List.not_mem_nil) ⟨rfl, ?_⟩)
        repeat (conv => whnf
                refine ⟨rfl, ?_⟩)
        conv => whnf
        exact ⟨[0], rfl, stay⟩
  refine .call [0] 1 ⟨rfl, rfl, rfl⟩ (WClear0_spec ?_)
  conv => whnf
  refine .pure (RNew13_spec ⟨rfl, ?_⟩)
  rw [if_neg (show ¬ ((shutW size)).size < 1 by first | omega | (show ¬ size < 1; omega))]
  conv => whnf
  have hz : 1 ≤ ((shutW size)).size := by first | omega | (show 1 ≤ size; omega)
  exact ⟨[0], rfl, h _ _ ⟨WGood.shutOk hz, .shut _ hz, fun hx => absurd hx (by simp [shutW]), rfl⟩⟩

set_option maxHeartbeats 32000000 in
theorem does_open {w : WS} {t : Tr Rw} {n : Int} {m : Nat} {b : Tb} {d : Deed} (hb : TbK b) (hk : ∀ c ∈ b.c, 1 ≤ c.k ∧ c.k ≤ 4) (hg : WGood w) (hi : w.is = true) (hw : WOk w t n m) (hm : m < 100000) (hwb : w.t = b) (hd : EvX d.e)
    (h : ∀ w' H', After b w.size w' H' (m + 10) → Q (.tup [wsV w', .bool true]) H') :
    ACall Tryd.prog 28 1 [.ptr 0 0, wsV w, tbA b, ddA d] (openH w t n) Q := by
  refine by_body Tryd.func28 1 rfl (Nat.le_of_ble_eq_true rfl) ?_
  have hgt := hg.txt
  have hgp := hg.pos
  have hfew := hg.few
  have hwl := hw.len
  have hwl2 := hw.ok.len
  have hwle := hw.ok.le
  have stay : Q (.tup [wsV w, .bool true]) (openH w t n) := h _ _ ⟨hg, .open hi ⟨hw.ok.mono (by omega), hw.eq, hw.may⟩, fun _ => hwb, rfl⟩
  have hbn := hb.nat
  have hb16 := hb.few
  have hbk : b.k = (b.k.toNat : Int) := by have := hb.lo; omega
  conv => whnf
  refine branch_i (fun c0 => ?_) (fun c0 => ?_) <;> try rw [c0] <;> conv => whnf
  focus
    obtain ⟨hok, hlen, htx⟩ := rowsN_ok hb hk d.r 6
    refine .pure (RRows13_spec (b := b) (l := d.r) (f := false) (most := 6) hb hk (by decide) ⟨rfl, ?_⟩)
    generalize rowsN b 6 d.r = rows at *
    conv => whnf
    refine branch_i (fun c1 => ?_) (fun c1 => ?_) <;> try rw [c1] <;> conv => whnf
    focus
      refine ⟨List.range 9, by kernel_rfl, by kernel_rfl, ?_⟩
      conv => whnf
      refine .pure (Row_spec (l := b.c) (keys := b.k) (vs := d.a) (f := false) (by omega) (fun c hc => by have := hk c hc; omega) ⟨rfl, ?_⟩)
      repeat (conv => whnf
              refine ⟨rfl, ?_⟩)
      conv => whnf
      rw [hbk]
      refine .pure (RKey10_spec (C := b.c) (K := b.k.toNat) (r := rowL b.c d.a) (f := false) (by omega) hbn.2 (textsOk_row _ _) ⟨rfl, ?_⟩)
      repeat (conv => whnf
              refine ⟨rfl, ?_⟩)
      conv => whnf
      obtain ⟨after, haE⟩ : ∃ a, a = kyR b.c b.k.toNat (rowL b.c d.a) := ⟨_, rfl⟩
      have haF : after = after := rfl
    rotate_left
    focus
      obtain ⟨after, haE⟩ : ∃ a : List UInt8, a = [] := ⟨_, rfl⟩
      have haF : after = after := rfl
    all_goals
      refine ⟨⟨[0, 5, 6, 7, 8, 11, 12], fun mm ws H => ∃ rows' : List Rw, ws = [.ptr 0 0, .ptr 3 0, .ptr 4 0, .ptr 5 0, .ptr 6 0, .sl 1 (rws rows') false, .str after] ∧
        H = (openH w t n) ++ [.cells (wsC w), .cells (tbC b), .cells (ddC d), wsZ] ∧ RowsOk b rows' ∧ rows'.length ≤ 6 ∧ mm = rows'.length,
        .frz 7 (.go [0, 1, 2, 3, 4, 5, 6] rfl rows.length (by omega) ⟨rows, ?_, ?_, hok, by omega, rfl⟩), ?_⟩⟩
      focus
        rw [haE]; rfl
      focus
        first
        | rfl
        | (rw [← hbk]; rfl)
      clear hok hlen htx c1 haE rows
      rintro mm ws H ⟨rows, rfl, rfl, hok, hlen, rfl⟩
      have hrl := rws_len rows
      conv => whnf
      refine ⟨[0, 1, 2, 3, 4, 5, 6, 7, 8, 9, 10, 11, 12, 13, 15, 14, 16, 17], by kernel_rfl, by kernel_rfl, ?_⟩
      conv => whnf
      refine branch_i (fun a1 => ?_) (fun a1 => ?_) <;> try rw [a1] <;> conv => whnf
      focus
        have a1' := of_decide_eq_true a1
        have hlt : 0 < rows.length := by omega
        have hg : rows[0]? = some rows[0] := List.getElem?_eq_getElem hlt
        have hex := hok.texts rows[0] (List.getElem_mem hlt)
        generalize rows[0] = r at *
        cases hraw : d.raw <;> conv => whnf
        focus
          refine ⟨_, ⟨by decide, rws_some hg⟩, ?_⟩
          conv => whnf
          rw [hbk]
          refine .pure (RKey10_spec (C := b.c) (K := b.k.toNat) (r := r) (f := false) (by omega) hbn.2 hex ⟨rfl, ?_⟩)
          repeat (conv => whnf
                  first | (refine ⟨rfl, ?_⟩) | (refine ⟨⟨_, ⟨by decide, rws_some hg⟩, rfl⟩, ?_⟩))
          conv => whnf
          rw [le_eq]
          cases hlk : Op.bytesLess after (kyR b.c b.k.toNat r) <;> conv => whnf
          focus
            refine ⟨(show (0 : Int) ≤ 1 ∧ (1 : Int) ≤ ((rws rows).length : Int) by omega), ?_⟩
            conv => whnf
            refine .go [0, 1, 2, 3, 4, 5, 6] rfl (rows.drop 1).length (by rw [List.length_drop]; omega) ⟨rows.drop 1, ?_, ?_, hok.drop1, by rw [List.length_drop]; omega, rfl⟩
            focus
              rw [← rws_drop]; rfl
            focus
              first
              | rfl
              | (rw [← hbk]; rfl)
      all_goals
        refine .pure (ROpen13_spec (w := w) (num := d.n) (b := b) (after := after) (rows := rows) hok.texts (by omega) ⟨rfl, ?_⟩)
        conv => whnf
        refine ⟨[0, 1, 2, 3, 4, 5, 6, 8, 7, 9, 10, 11], by kernel_rfl, by kernel_rfl, ?_⟩
        conv => whnf
        have hop : openS nameOk mayS w d.n b after rows = (w, 14) := by unfold openS; rw [if_pos hi]
        rw [hop]
        refine .call [0, 1, 2] 3 ⟨rfl, rfl, rfl⟩ (WOpen1_spec (num := d.n) (b := b) (after := after) ?_)
        repeat (conv => whnf
                refine ⟨rfl, ?_⟩)
        conv => whnf
        exact ⟨[0, 1, 2], rfl, stay⟩
  refine branch_i (fun c1 => ?_) (fun c1 => ?_) <;> try rw [c1] <;> conv => whnf
  focus
    cases hraw : d.raw <;> conv => whnf
    focus
      refine .frz 7 rfl rfl (by repeat (first | exact trivial | refine And.intro (Nat.le_refl _) ?_)) (.pure (ACall.args (.cons (.refl _) (.cons (VSub.room 3 _ true) (VSubs.refl _))) (REvent1_spec (e := d.e) (w := b) hb hk fun e2 hmade => ⟨rfl, ?_⟩)))
      have hx := hmade.x
      conv => whnf
    rotate_left
    focus
      obtain ⟨e2, he2⟩ : ∃ e2, e2 = d.e := ⟨_, rfl⟩
      have hx := hd
      rw [← he2] at hx
      rw [← he2]
    all_goals
      refine .pure (RTake13_spec (w := w) (e := e2) hg (fun r hr => fits_texts (hg.fit r hr)) (by omega) hx ⟨rfl, ?_⟩)
      conv => whnf
      refine ⟨[0, 1, 2, 4, 3, 5, 6, 7], by kernel_rfl, by kernel_rfl, ?_⟩
      conv => whnf
      refine .call [0, 1, 2] 3 ⟨rfl, rfl, rfl⟩ (ACall.stay (k := 2) 1 rfl (WTake_spec (w := w) (e := e2) hg hi hw (by omega) hx fun t2 n2 w2 => ?_))
      repeat (conv => whnf
              refine ⟨rfl, ?_⟩)
      conv => whnf
      rw [bbT]
      obtain ⟨s1, s2, s3⟩ := take_same w e2
      have := h _ _ ⟨take_good hg e2, .open (by rw [s1]; exact hi) ⟨w2.ok.mono (by omega), w2.eq, w2.may⟩, fun _ => by rw [s2]; exact hwb, s3⟩
      exact ⟨[0, 1, 10], rfl, this⟩
  refine branch_i (fun c2 => ?_) (fun c2 => ?_) <;> try rw [c2] <;> conv => whnf
  focus
    by_cases hnum : w.num = d.n
    rotate_left
    focus
        have hsh : shutS w d.n = (w, .tup [.sl 1 (rws []) false, .agg [.str [], .bool false, .str []], .bool false, fI 14]) := by unfold shutS; rw [if_pos (.inr hnum)]
        refine .pure (RShut13_spec (w := w) (num := d.n) ⟨rfl, ?_⟩)
        rw [hsh]
        conv => whnf
        refine .call [0, 1, 2] 3 ⟨rfl, rfl, rfl⟩ (WShutX_spec hnum ?_)
        conv => whnf
        refine ⟨List.range 21, by kernel_rfl, by kernel_rfl, ?_⟩
        conv => whnf
        refine .pure (SameRows_spec (l := []) (f := false) (f2 := false) (by decide) (fun r hr => absurd hr List.not_mem_nil) ⟨rfl, ?_⟩)
        repeat (conv => whnf
                refine ⟨rfl, ?_⟩)
        conv => whnf
        exact ⟨[0, 1, 2], rfl, stay⟩
    have hno : ¬ (w.is = false ∨ w.num ≠ d.n) := by rw [hi, hnum]; simp
    by_cases hsp : w.sp = true
    focus
        have hsh : shutS w d.n = (shutW w.size, .tup [.sl 1 (rws []) false, .agg [.str [], .bool false, .str []], .bool false, fI 0]) := by unfold shutS; rw [if_neg hno, if_pos hsp]
        refine .pure (RShut13_spec (w := w) (num := d.n) ⟨rfl, ?_⟩)
        rw [hsh]
        conv => whnf
        refine .call [0, 1, 2] 1 ⟨rfl, rfl, rfl⟩ (WShutN_spec (num := d.n) hnum hw (by omega) (fun r hr => by have := hgt r hr; omega) ?_)
        rw [hsp]
        conv => whnf
        refine ⟨List.range 21, by kernel_rfl, by kernel_rfl, ?_⟩
        conv => whnf
        refine .pure (SameRows_spec (l := []) (f := false) (f2 := false) (by decide) (fun r hr => absurd hr List.not_mem_nil) ⟨rfl, ?_⟩)
        repeat (conv => whnf
                refine ⟨rfl, ?_⟩)
        conv => whnf
        exact ⟨[0], rfl, h _ _ ⟨WGood.shutOk (by omega), .shut _ (by omega), fun hx => absurd hx (by simp [shutW]), rfl⟩⟩
    focus
        have hsp : w.sp = false := by simpa using hsp
        have hsh : shutS w d.n = (shutW w.size, .tup [.sl 1 (rws w.rows) false, .agg [.str w.t.n, .bool w.last, .str (if w.last then [] else w.fin)], .bool true, fI 0]) := by unfold shutS; rw [if_neg hno, if_neg (by rw [hsp]; simp)]
        refine .pure (RShut13_spec (w := w) (num := d.n) ⟨rfl, ?_⟩)
        rw [hsh]
        conv => whnf
        refine .call [0, 1, 2] 1 ⟨rfl, rfl, rfl⟩ (WShutN_spec (num := d.n) hnum hw (by omega) (fun r hr => by have := hgt r hr; omega) ?_)
        rw [hsp]
        generalize (if w.last = true then ([] : List UInt8) else w.fin) = fk at *
        conv => whnf
        refine ⟨List.range 21, by kernel_rfl, by kernel_rfl, ?_⟩
        conv => whnf
        refine .pure (SameRows_spec (l := w.rows) (f := false) (f2 := false) (by omega) (fun r hr => by have := hgt r hr; omega) ⟨rfl, ?_⟩)
        repeat (conv => whnf
                refine ⟨rfl, ?_⟩)
        conv => whnf
        have hcmp : (decide (w.t.n = w.t.n) && (w.last == w.last && (decide (fk = fk) && true))) = true := by
          rw [decide_eq_true (rfl : w.t.n = w.t.n), decide_eq_true (rfl : fk = fk)]
          cases w.last <;> rfl
        rw [hcmp]
        conv => whnf
        exact ⟨[0], rfl, h _ _ ⟨WGood.shutOk (by omega), .shut _ (by omega), fun hx => absurd hx (by simp [shutW]), rfl⟩⟩
  refine .call [0, 1, 2] 3 ⟨rfl, rfl, rfl⟩ (WClear1_spec (w := w) ?_)
  conv => whnf
  refine .pure (RNew13_spec ⟨rfl, ?_⟩)
  rw [if_neg (show ¬ (w).size < 1 by first | omega | (show ¬ size < 1; omega))]
  conv => whnf
  have hz : 1 ≤ (w).size := by first | omega | (show 1 ≤ size; omega)
  exact ⟨[0], rfl, h _ _ ⟨WGood.shutOk hz, .shut _ hz, fun hx => absurd hx (by simp [shutW]), rfl⟩⟩

end Go.Proofs.YtgikkoeckdhgkaaDoorPg

/- The law WindowBounds. -/
namespace Go.Proofs.YtgikkoeckdhgkaaDoorPg
open Go Go.RowKit
set_option linter.unusedSimpArgs false
set_option linter.unusedVariables false

variable {Q : V → List O → Prop}

def dds (l : List Deed) : List (List V) := l.map ddC
theorem dds_len (l : List Deed) : (dds l).length = l.length := by simp [dds]
theorem dds_get {l : List Deed} {i : Nat} {d : Deed} (h : l[i]? = some d) : (dds l)[i]? = some (ddC d) := by simp [dds, h]

theorem dds_of : ∀ {es : List (List V)}, (∀ x ∈ es, ∃ d : Deed, x = ddC d ∧ EvX d.e) → ∃ l : List Deed, es = dds l ∧ ∀ d ∈ l, EvX d.e
  | [], _ => ⟨[], rfl, by simp⟩
  | x :: es, h => by
    obtain ⟨e, rfl, he⟩ := h x (by simp)
    obtain ⟨l, rfl, hl⟩ := dds_of (es := es) fun y hy => h y (by simp [hy])
    refine ⟨e :: l, rfl, fun v hv => ?_⟩
    rcases List.mem_cons.1 hv with rfl | hv
    · exact he
    · exact hl v hv

theorem dd_cells {vs : List V} (h : Shp tt 8 75 vs) : ∃ d : Deed, vs = ddC d ∧ EvX d.e := by
  obtain ⟨_, _, ⟨k, hk, rfl⟩, ⟨_, _, ⟨n, hn, rfl⟩, ⟨_, _, ⟨ea, hea, ga, rfl⟩, ⟨_, _, ⟨er, her, gr, rfl⟩, ⟨_, _, hev, ⟨_, _, ⟨raw, rfl⟩, rfl, rfl⟩, rfl⟩, rfl⟩, rfl⟩, rfl⟩, rfl⟩ := h
  obtain ⟨la, rfl, hla⟩ := evals_of fun x hx => by
    obtain ⟨_, _, ⟨k, hk, rfl⟩, ⟨_, _, ⟨n, hn, rfl⟩, ⟨_, _, ⟨s, hs, rfl⟩, rfl, rfl⟩, rfl⟩, rfl⟩ := ga x hx
    exact ⟨k, n, s, rfl, i64_wf hk, i64_wf hn, hs⟩
  obtain ⟨lr, rfl, hlr⟩ := rows_of fun x hx => by
    obtain ⟨es, _, g2, rfl⟩ := gr x hx
    obtain ⟨l, rfl, hl⟩ := evals_of fun x hx => by
      obtain ⟨_, _, ⟨k, hk, rfl⟩, ⟨_, _, ⟨n, hn, rfl⟩, ⟨_, _, ⟨s, hs, rfl⟩, rfl, rfl⟩, rfl⟩, rfl⟩ := g2 x hx
      exact ⟨k, n, s, rfl, i64_wf hk, i64_wf hn, hs⟩
    exact ⟨l, rfl, hl⟩
  obtain ⟨e, rfl, he⟩ := ev_cells hev
  exact ⟨⟨k, n, la, lr, e, raw⟩, rfl, evx_in he⟩

theorem dds_in {vs : List V} (h : Shp tt 8 71 vs) : ∃ l : List Deed, argV tt 71 vs = .sl 17 (dds l) false ∧ ∀ d ∈ l, EvX d.e := by
  obtain ⟨es, _, g1, rfl⟩ := h
  obtain ⟨l, rfl, hl⟩ := dds_of fun x hx => dd_cells (g1 x hx)
  exact ⟨l, rfl, hl⟩

/-- rows rise, behind a key -/
theorem rise_at {t : Tb} {rows : List Rw} {after : List UInt8} (hs : SortedL (kvT t rows)) (ha : ∀ r ∈ rows, Op.bytesLess after (kyT t r) = true) {k : Nat} {r : Rw} (hg : rows[k]? = some r) : Op.bytesLess (lastK t after (rows.take k)) (kyT t r) = true := by
  have hlt := (List.getElem?_eq_some_iff.1 hg).1
  have hr := (List.getElem?_eq_some_iff.1 hg).2
  cases k with
  | zero =>
    rw [List.take_zero]
    exact ha r (List.mem_of_getElem? hg)
  | succ k =>
    have hk : rows[k]? = some rows[k] := List.getElem?_eq_getElem (by omega)
    rw [List.take_add_one, hk]
    show Op.bytesLess (lastK t after (rows.take k ++ [rows[k]])) _ = true
    rw [lastK_snoc]
    unfold SortedL kvT kvR at hs
    rw [List.pairwise_iff_getElem] at hs
    have := hs k (k + 1) (by rw [List.length_map]; omega) (by rw [List.length_map]; omega) (by omega)
    simp only [List.getElem_map] at this
    rw [← hr]
    exact this

theorem cut7 (n : Int) (h : 6 < n) : I64 (n.tmod 7) := by
  rw [Int.tmod_eq_emod_of_nonneg (by omega)]
  unfold I64
  omega

/-- between the deeds -/
def wbI (D : List Deed) (b : Tb) (size sz : Int) (m : Nat) (ws : List V) (HH : List O) : Prop :=
  ∃ (i : Nat) (w : WS) (H : List O), ws = [fI size, .sl 17 (dds D) false, .ptr H.length 0, .ptr 0 0, .ptr (H.length + 1) 0, fI i] ∧ HH = H ++ [.cells (tbC b), .cells (wsC w)] ∧ After b sz w H (10 * i) ∧ i ≤ 30 ∧ m = 30 - i

set_option maxHeartbeats 64000000 in
theorem WindowBounds_spec {l : List Col} {keys size0 : Int} {D : List Deed} (hl : ∀ c ∈ l, I64 c.k) (hk : I64 keys) (hs0 : I64 size0) (hD : ∀ d ∈ D, EvX d.e) :
    ACall Tryd.prog 6 0 [fI size0, sch l keys, .sl 17 (dds D) false] [] (fun v _ => v = .bool true) := by
  refine by_body Tryd.func6 0 rfl (Nat.le_of_ble_eq_true rfl) ?_
  have hld := dds_len D
  conv => whnf
  refine .pure (RGood_spec (l := l) (keys := keys) hk ⟨rfl, ?_⟩)
  conv => whnf
  obtain ⟨hm, hb, hkinds⟩ := gT_ok hl hk
  have hgk : (gT l keys).k = ((gT l keys).k.toNat : Int) := by have := hb.lo; omega
  refine branch_i (fun c1 => ?_) (fun c1 => ?_) <;> try rw [c1] <;> conv => whnf
  focus
    refine ⟨by decide, ?_⟩
    obtain ⟨size, hsE⟩ : ∃ s, s = size0.tmod 7 := ⟨_, rfl⟩
    have hs1 : I64 size := by rw [hsE]; exact cut7 _ (of_decide_eq_true c1)
    conv => whnf
  rotate_left
  focus
    obtain ⟨size, hsE⟩ : ∃ s, s = size0 := ⟨_, rfl⟩
    have hs1 : I64 size := by rw [hsE]; exact hs0
  all_goals
    rw [← hsE]
    refine .call [] 0 ⟨rfl, rfl, rfl⟩ (WNew_spec ?_)
    conv => whnf
    refine .pure (RNew13_spec ⟨rfl, ?_⟩)
    conv => whnf
    obtain ⟨sz, hszE⟩ : ∃ s, s = (if size < 1 then 1 else size) := ⟨_, rfl⟩
    have hsz : 1 ≤ sz := by rw [hszE]; split <;> omega
    rw [← hszE]
    refine ⟨⟨[0, 2, 7, 8, 9, 10], wbI D (gT l keys) size sz, .frz 31 (.go [2, 1, 3] rfl 30 (by omega) ⟨0, shutW sz, shutH sz, by first | rfl | (rw [hsE]; rfl), by first | rfl | (rw [hszE]; rfl), ⟨WGood.shutOk hsz, .shut _ hsz, fun hx => absurd hx (by simp [shutW]), rfl⟩, by omega, rfl⟩), ?_⟩⟩
    rintro mm ws HH ⟨i, w, H, rfl, rfl, hA, hi, rfl⟩
    obtain ⟨hgood, hwin, htb, hsize⟩ := hA
    have hmx : (if (1 : Int) > size then (1 : Int) else size) = sz := hszE.symm
    clear c1 hsE hszE hs0 hs1
    cases hwin with
    | shut _ hn1 =>
      rename_i ns
      have hns : ns = sz := hsize
      subst hns
      conv => whnf
      refine branch_i (fun c2 => ?_) (fun c2 => ?_) <;> try rw [c2] <;> conv => whnf
      focus
        refine branch_i (fun c3 => ?_) (fun c3 => ?_) <;> try rw [c3] <;> conv => whnf
        focus
          have c2' := of_decide_eq_true c2
          have c3' := of_decide_eq_true c3
          have hlt : i < D.length := by omega
          have hg : D[i]? = some D[i] := List.getElem?_eq_getElem hlt
          have hd := hD D[i] (List.getElem_mem hlt)
          generalize D[i] = d at *
          have nx : ∀ (a b : Nat) (k : Int), k = IntKind.i64.wrap ((i : Int) + 1) → [fI size, V.sl 17 (dds D) false, .ptr a 0, .ptr 0 0, .ptr b 0, fI k] = [fI size, V.sl 17 (dds D) false, .ptr a 0, .ptr 0 0, .ptr b 0, fI ((i + 1 : Nat) : Int)] := fun a b k hk => by
            rw [hk, wrapE (by omega)]; rfl
          refine ⟨List.range 14, by kernel_rfl, by kernel_rfl, ?_⟩
          conv => whnf
          refine ⟨_, ⟨by omega, dds_get hg⟩, ?_⟩
          conv => whnf
          refine .call [0] 1 ⟨rfl, rfl, rfl⟩ (does_shut (size := ns) (m := 10 * i) (b := gT l keys) (d := d) hb hkinds hsz hd fun w2 H2 hA2 => ?_)
          obtain ⟨hgood2, hwin2, htb2, hsize2⟩ := hA2
          have hsize3 : w2.size = ns := hsize2.trans (by first | rfl | exact hsize)
          have hfew2 := hgood2.few
          cases hwin2 with
          | shut _ hn2 =>
            rename_i ns2
            have hns2 : ns2 = ns := hsize3
            subst hns2
            repeat (conv => whnf
                    first | (refine ⟨rfl, ?_⟩) | (refine ⟨⟨_, ⟨by omega, dds_get hg⟩, rfl⟩, ?_⟩))
            conv => whnf
            refine .call [0] 1 ⟨rfl, rfl, rfl⟩ (WRows0_spec ?_)
            conv => whnf
            rw [hmx]
            rw [show decide (((rws ([] : List Rw)).length : Int) > ns2) = false from decide_eq_false (by show ¬ ((0 : Int) > ns2); omega)]
            conv => whnf
            refine .call [0] 1 ⟨rfl, rfl, rfl⟩ (WLen0_spec ?_)
            conv => whnf
            refine ⟨⟨[0, 2, 7, 8, 9, 10, 13, 14, 15], fun mm ws H => ws = [fI size, .sl 17 (dds D) false, .ptr 1 0, .ptr 0 0, .ptr 2 0, fI i, .sl 1 (rws []) false, .str [], fI 0] ∧ H = shutH ns2 ++ [.cells (tbC (gT l keys)), .cells (wsC (shutW ns2))] ∧ mm = 0,
              .frz 1 (.go [0, 1, 2] rfl 0 (by omega) ⟨rfl, rfl, rfl⟩), ?_⟩⟩
            rintro mm ws H ⟨rfl, rfl, rfl⟩
            conv => whnf
            rw [show decide ((0 : Int) < ((rws ([] : List Rw)).length : Int)) = false from rfl]
            conv => whnf
            refine .go [0, 1, 2] rfl (30 - (i + 1)) (by omega) ⟨i + 1, shutW ns2, shutH ns2, nx _ _ _ rfl, rfl, ⟨hgood2, .shut _ hn2, htb2, rfl⟩, by omega, rfl⟩
          | «open» hi3 hw3 =>
            rename_i t3 n3
            repeat (conv => whnf
                    first | (refine ⟨rfl, ?_⟩) | (refine ⟨⟨_, ⟨by omega, dds_get hg⟩, rfl⟩, ?_⟩))
            conv => whnf
            have hrl3 : ∀ r ∈ w2.rows, r.length < 1000000 := fun r hr => by have := hgood2.txt r hr; omega
            have hwt2 := htb2 hi3
            have hrw3 := rws_len w2.rows
            have hwl3 := hw3.len
            have hwl4 := hw3.ok.len
            have hwl5 := hw3.ok.le
            refine .call [0, 3, 4] 3 ⟨rfl, rfl, rfl⟩ (WRows1_spec hw3 (by omega) hrl3 ?_)
            conv => whnf
            rw [hmx, hrw3]
            rw [show decide ((w2.rows.length : Int) > ns) = false from decide_eq_false (by omega)]
            conv => whnf
            refine .call [0, 3, 4] 3 ⟨rfl, rfl, rfl⟩ (WLen1_spec hw3 (by omega) hrl3 ?_)
            conv => whnf
            rw [hrw3, bbT]
            conv => whnf
            refine ⟨⟨[0, 2, 7, 8, 9, 10, 13, 14, 15], fun mm ws H => ∃ k : Nat, ws = [fI size, .sl 17 (dds D) false, .ptr 3 0, .ptr 0 0, .ptr 4 0, fI i, .sl 1 (rws w2.rows) false, .str (lastK (gT l keys) w2.after (w2.rows.take k)), fI k] ∧
              H = openH w2 t3 n3 ++ [.cells (tbC (gT l keys)), .cells (wsC w2)] ∧ k ≤ w2.rows.length ∧ mm = w2.rows.length - k,
              .frz (w2.rows.length + 1) (.go [0, 3, 4, 1, 2] rfl w2.rows.length (by omega) ⟨0, rfl, rfl, by omega, rfl⟩), ?_⟩⟩
            rintro mm ws H ⟨k, rfl, rfl, hk3, rfl⟩
            conv => whnf
            refine branch_i (fun d1 => ?_) (fun d1 => ?_) <;> try rw [d1] <;> conv => whnf
            focus
              have d1' := of_decide_eq_true d1
              have hltk : k < w2.rows.length := by omega
              have hgr : w2.rows[k]? = some w2.rows[k] := List.getElem?_eq_getElem hltk
              have hexr := fits_texts (hgood2.fit w2.rows[k] (List.getElem_mem hltk))
              have hrise := rise_at hgood2.srt hgood2.inn hgr
              have hsn : w2.rows.take (k + 1) = w2.rows.take k ++ [w2.rows[k]] := by rw [List.take_add_one, hgr]; rfl
              rw [hwt2] at hrise
              generalize w2.rows[k] = r at *
              refine ⟨List.range 8, by kernel_rfl, by kernel_rfl, ?_⟩
              conv => whnf
              refine ⟨_, ⟨by omega, rws_some hgr⟩, ?_⟩
              conv => whnf
              rw [hgk]
              refine .pure (RKey10_spec (C := (gT l keys).c) (K := (gT l keys).k.toNat) (r := r) (f := false) (by have := hb.few; omega) hb.nat.2 hexr ⟨rfl, ?_⟩)
              repeat (conv => whnf
                      first | (refine ⟨rfl, ?_⟩) | (refine ⟨⟨_, ⟨by omega, rws_some hgr⟩, rfl⟩, ?_⟩))
              conv => whnf
              rw [le_eq, show Op.bytesLess (lastK (gT l keys) w2.after (w2.rows.take k)) (kyR (gT l keys).c (gT l keys).k.toNat r) = true from hrise]
              conv => whnf
              refine .go [0, 1, 2, 3, 4] rfl (w2.rows.length - (k + 1)) (by omega) ⟨k + 1, ?_, ?_, by omega, rfl⟩
              focus
                rw [hsn, lastK_snoc]
                show [fI size, V.sl 17 (dds D) false, .ptr 3 0, .ptr 0 0, .ptr 4 0, fI i, .sl 1 (rws w2.rows) false, .str (kyT (gT l keys) r), V.int .i64 (IntKind.i64.wrap ((k : Int) + 1))] = _
                rw [wrapE (by omega)]; rfl
              focus
                first
                | rfl
                | (rw [← hgk]; rfl)
            refine .go [0, 1, 2, 3, 4] rfl (30 - (i + 1)) (by omega) ⟨i + 1, w2, openH w2 t3 n3, nx _ _ _ rfl, rfl, ⟨hgood2, .open hi3 ⟨hw3.ok.mono (by omega), hw3.eq, hw3.may⟩, htb2, hsize3⟩, by omega, rfl⟩
      all_goals
        refine .pure (lives13_spec ⟨rfl, ?_⟩)
        conv => whnf
        exact ⟨[], rfl, rfl⟩
    | «open» hi2 hw =>
      rename_i t n
      conv => whnf
      refine branch_i (fun c2 => ?_) (fun c2 => ?_) <;> try rw [c2] <;> conv => whnf
      focus
        refine branch_i (fun c3 => ?_) (fun c3 => ?_) <;> try rw [c3] <;> conv => whnf
        focus
          have c2' := of_decide_eq_true c2
          have c3' := of_decide_eq_true c3
          have hlt : i < D.length := by omega
          have hg : D[i]? = some D[i] := List.getElem?_eq_getElem hlt
          have hd := hD D[i] (List.getElem_mem hlt)
          generalize D[i] = d at *
          have nx : ∀ (a b : Nat) (k : Int), k = IntKind.i64.wrap ((i : Int) + 1) → [fI size, V.sl 17 (dds D) false, .ptr a 0, .ptr 0 0, .ptr b 0, fI k] = [fI size, V.sl 17 (dds D) false, .ptr a 0, .ptr 0 0, .ptr b 0, fI ((i + 1 : Nat) : Int)] := fun a b k hk => by
            rw [hk, wrapE (by omega)]; rfl
          refine ⟨List.range 14, by kernel_rfl, by kernel_rfl, ?_⟩
          conv => whnf
          refine ⟨_, ⟨by omega, dds_get hg⟩, ?_⟩
          conv => whnf
          refine .call [0, 1, 2] 3 ⟨rfl, rfl, rfl⟩ (ACall.stay (k := 1) 2 rfl (does_open (w := w) (t := t) (n := n) (m := 10 * i) (b := gT l keys) (d := d) hb hkinds hgood hi2 hw (by omega) (htb hi2) hd fun w2 H2 hA2 => ?_))
          obtain ⟨hgood2, hwin2, htb2, hsize2⟩ := hA2
          have hsize3 : w2.size = sz := hsize2.trans (by first | rfl | exact hsize)
          have hfew2 := hgood2.few
          cases hwin2 with
          | shut _ hn2 =>
            rename_i ns2
            have hns2 : ns2 = sz := hsize3
            subst hns2
            repeat (conv => whnf
                    first | (refine ⟨rfl, ?_⟩) | (refine ⟨⟨_, ⟨by omega, dds_get hg⟩, rfl⟩, ?_⟩))
            conv => whnf
            refine .call [0] 1 ⟨rfl, rfl, rfl⟩ (WRows0_spec ?_)
            conv => whnf
            rw [hmx]
            rw [show decide (((rws ([] : List Rw)).length : Int) > ns2) = false from decide_eq_false (by show ¬ ((0 : Int) > ns2); omega)]
            conv => whnf
            refine .call [0] 1 ⟨rfl, rfl, rfl⟩ (WLen0_spec ?_)
            conv => whnf
            refine ⟨⟨[0, 2, 7, 8, 9, 10, 13, 14, 15], fun mm ws H => ws = [fI size, .sl 17 (dds D) false, .ptr 1 0, .ptr 0 0, .ptr 2 0, fI i, .sl 1 (rws []) false, .str [], fI 0] ∧ H = shutH ns2 ++ [.cells (tbC (gT l keys)), .cells (wsC (shutW ns2))] ∧ mm = 0,
              .frz 1 (.go [0, 3, 4] rfl 0 (by omega) ⟨rfl, rfl, rfl⟩), ?_⟩⟩
            rintro mm ws H ⟨rfl, rfl, rfl⟩
            conv => whnf
            rw [show decide ((0 : Int) < ((rws ([] : List Rw)).length : Int)) = false from rfl]
            conv => whnf
            refine .go [0, 1, 2] rfl (30 - (i + 1)) (by omega) ⟨i + 1, shutW ns2, shutH ns2, nx _ _ _ rfl, rfl, ⟨hgood2, .shut _ hn2, htb2, rfl⟩, by omega, rfl⟩
          | «open» hi3 hw3 =>
            rename_i t3 n3
            repeat (conv => whnf
                    first | (refine ⟨rfl, ?_⟩) | (refine ⟨⟨_, ⟨by omega, dds_get hg⟩, rfl⟩, ?_⟩))
            conv => whnf
            have hrl3 : ∀ r ∈ w2.rows, r.length < 1000000 := fun r hr => by have := hgood2.txt r hr; omega
            have hwt2 := htb2 hi3
            have hrw3 := rws_len w2.rows
            have hwl3 := hw3.len
            have hwl4 := hw3.ok.len
            have hwl5 := hw3.ok.le
            refine .call [0, 5, 6] 3 ⟨rfl, rfl, rfl⟩ (WRows1_spec hw3 (by omega) hrl3 ?_)
            conv => whnf
            rw [hmx, hrw3]
            rw [show decide ((w2.rows.length : Int) > sz) = false from decide_eq_false (by omega)]
            conv => whnf
            refine .call [0, 5, 6] 3 ⟨rfl, rfl, rfl⟩ (WLen1_spec hw3 (by omega) hrl3 ?_)
            conv => whnf
            rw [hrw3, bbT]
            conv => whnf
            refine ⟨⟨[0, 2, 7, 8, 9, 10, 13, 14, 15], fun mm ws H => ∃ k : Nat, ws = [fI size, .sl 17 (dds D) false, .ptr 3 0, .ptr 0 0, .ptr 4 0, fI i, .sl 1 (rws w2.rows) false, .str (lastK (gT l keys) w2.after (w2.rows.take k)), fI k] ∧
              H = openH w2 t3 n3 ++ [.cells (tbC (gT l keys)), .cells (wsC w2)] ∧ k ≤ w2.rows.length ∧ mm = w2.rows.length - k,
              .frz (w2.rows.length + 1) (.go [0, 5, 6, 3, 4] rfl w2.rows.length (by omega) ⟨0, rfl, rfl, by omega, rfl⟩), ?_⟩⟩
            rintro mm ws H ⟨k, rfl, rfl, hk3, rfl⟩
            conv => whnf
            refine branch_i (fun d1 => ?_) (fun d1 => ?_) <;> try rw [d1] <;> conv => whnf
            focus
              have d1' := of_decide_eq_true d1
              have hltk : k < w2.rows.length := by omega
              have hgr : w2.rows[k]? = some w2.rows[k] := List.getElem?_eq_getElem hltk
              have hexr := fits_texts (hgood2.fit w2.rows[k] (List.getElem_mem hltk))
              have hrise := rise_at hgood2.srt hgood2.inn hgr
              have hsn : w2.rows.take (k + 1) = w2.rows.take k ++ [w2.rows[k]] := by rw [List.take_add_one, hgr]; rfl
              rw [hwt2] at hrise
              generalize w2.rows[k] = r at *
              refine ⟨List.range 8, by kernel_rfl, by kernel_rfl, ?_⟩
              conv => whnf
              refine ⟨_, ⟨by omega, rws_some hgr⟩, ?_⟩
              conv => whnf
              rw [hgk]
              refine .pure (RKey10_spec (C := (gT l keys).c) (K := (gT l keys).k.toNat) (r := r) (f := false) (by have := hb.few; omega) hb.nat.2 hexr ⟨rfl, ?_⟩)
              repeat (conv => whnf
                      first | (refine ⟨rfl, ?_⟩) | (refine ⟨⟨_, ⟨by omega, rws_some hgr⟩, rfl⟩, ?_⟩))
              conv => whnf
              rw [le_eq, show Op.bytesLess (lastK (gT l keys) w2.after (w2.rows.take k)) (kyR (gT l keys).c (gT l keys).k.toNat r) = true from hrise]
              conv => whnf
              refine .go [0, 1, 2, 3, 4] rfl (w2.rows.length - (k + 1)) (by omega) ⟨k + 1, ?_, ?_, by omega, rfl⟩
              focus
                rw [hsn, lastK_snoc]
                show [fI size, V.sl 17 (dds D) false, .ptr 3 0, .ptr 0 0, .ptr 4 0, fI i, .sl 1 (rws w2.rows) false, .str (kyT (gT l keys) r), V.int .i64 (IntKind.i64.wrap ((k : Int) + 1))] = _
                rw [wrapE (by omega)]; rfl
              focus
                first
                | rfl
                | (rw [← hgk]; rfl)
            refine .go [0, 1, 2, 3, 4] rfl (30 - (i + 1)) (by omega) ⟨i + 1, w2, openH w2 t3 n3, nx _ _ _ rfl, rfl, ⟨hgood2, .open hi3 ⟨hw3.ok.mono (by omega), hw3.eq, hw3.may⟩, htb2, hsize3⟩, by omega, rfl⟩
      all_goals
        refine .pure (lives13_spec ⟨rfl, ?_⟩)
        conv => whnf
        exact ⟨[], rfl, rfl⟩

end Go.Proofs.YtgikkoeckdhgkaaDoorPg
