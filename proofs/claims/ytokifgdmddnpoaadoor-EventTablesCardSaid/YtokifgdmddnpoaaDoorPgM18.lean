/- Own texts, laid together: Pg06DEv6, Pg06DEvIn, Pg06DEv7. -/
import Derived.Test.YtokifgdmddnpoaaDoorPgM17
/- Events: the example; the law EventSame. -/
namespace Go.Proofs.YtokifgdmddnpoaaDoorPg
open Go Go.RowKit
set_option linter.unusedSimpArgs false
set_option linter.unusedVariables false

variable {Q : V → List O → Prop}

theorem sorted_nil : SortedT [] := List.Pairwise.nil

set_option maxHeartbeats 8000000 in
theorem Write7_spec (h : Q (.tup [.sl 1 (bs [7, 5]) false, fI 0]) []) : ACall Tryd.prog 34 0 [evA ev7, .sl 3 [] false] [] Q := by
  refine ACall.ret (by_body Tryd.func34 0 rfl (Nat.le_of_ble_eq_true rfl) ?_)
  conv => whnf
  refine .pure (May7_spec ⟨rfl, ?_⟩)
  conv => whnf
  refine .pure (EvFind_spec (l := []) (by simp) sorted_nil (by simp) ⟨rfl, ?_⟩)
  conv => whnf
  refine .pure (rowed_spec ⟨rfl, ?_⟩)
  conv => whnf
  refine .frz 1 rfl rfl (by repeat (first | exact trivial | refine And.intro (Nat.le_refl _) ?_)) (.call [] 0 ⟨rfl, rfl, rfl⟩ (WNumber_spec (l := [7]) (f := true) (n := 5) (by decide) (by decide) (by simp) ?_))
  conv => whnf
  refine ⟨[3], rfl, .frz 0 rfl (by repeat (first | exact trivial | refine And.intro (Nat.le_refl _) ?_)) (.done [] rfl ?_)⟩
  exact h

set_option maxHeartbeats 8000000 in
theorem lives06_spec (h : Q (.bool true) []) : ACall Tryd.prog 16 0 [] [] Q := by
  refine by_body Tryd.func16 0 rfl (Nat.le_of_ble_eq_true rfl) ?_
  conv => whnf
  refine .pure (ACall.args (.cons ev7_sub (.cons (nils_sl3 false) (VSubs.refl _))) (Write7_spec ⟨rfl, ?_⟩))
  conv => whnf
  refine ⟨_, ⟨by decide, rfl⟩, ?_⟩
  conv => whnf
  refine ⟨_, ⟨by decide, rfl⟩, ?_⟩
  conv => whnf
  refine .pure (ACall.args (.cons (nils_sl3 false) (VSubs.refl _)) (EvRight_spec (l := []) (f := false) (by simp) ⟨rfl, ?_⟩))
  conv => whnf
  exact ⟨[], rfl, h⟩

structure EvtB (e : Evt) : Prop where
  b : e.b.length ≤ 9223372036854775807
  a : e.a.length ≤ 9223372036854775807

set_option maxHeartbeats 16000000 in
theorem EventSame_spec {a b : Evt} (ha : EvtB a) (hb : EvtB b) : ACall Tryd.prog 5 0 [evA a, evA b] [] (fun v _ => v = .bool true) := by
  refine by_body Tryd.func5 0 rfl (Nat.le_of_ble_eq_true rfl) ?_
  conv => whnf
  refine .pure (EvCut_spec (c := a.ch) ⟨rfl, ?_⟩)
  conv => whnf
  refine .pure (EvCut_spec (c := b.ch) ⟨rfl, ?_⟩)
  conv => whnf
  have bb : ∀ b : Bool, (b == b) = true := fun b => by cases b <;> rfl
  have h1 := ha.b
  have h2 := ha.a
  have h3 := hb.b
  have h4 := hb.a
  have hca := cutL_len a.ch.c
  have hcb := cutL_len b.ch.c
  have ea : ∀ K : List V → Prop, K (evC { a with ch := cutCh a.ch }) → K (evC { a with ch := cutCh a.ch }) := fun _ h => h
  have hsym : decide ({ b with ch := cutCh b.ch } = { a with ch := cutCh a.ch }) = decide ({ a with ch := cutCh a.ch } = { b with ch := cutCh b.ch }) := by
    by_cases e : { a with ch := cutCh a.ch } = { b with ch := cutCh b.ch }
    · rw [decide_eq_true e, decide_eq_true e.symm]
    · rw [decide_eq_false e, decide_eq_false (fun x => e x.symm)]
  refine ⟨[0, 1, 3, 4, 2, 5, 6, 7, 8, 9, 10, 11, 12, 13, 14, 16, 17, 15, 18, 19, 20, 21, 22, 23, 24], by kernel_rfl, by kernel_rfl, ?_⟩
  conv => whnf
  refine .pure (EvSame_spec (a := { a with ch := cutCh a.ch }) (b := { b with ch := cutCh b.ch }) (by show a.b.length < _; omega) (by show a.a.length < _; omega) (by show (cutL a.ch.c).length < _; omega) ⟨rfl, ?_⟩)
  repeat (conv => whnf
          refine ⟨rfl, ?_⟩)
  conv => whnf
  refine .pure (EvRSame_spec (a := { a with ch := cutCh a.ch }) (b := { b with ch := cutCh b.ch }) (by show a.b.length < _; omega) (by show a.a.length < _; omega) (by show (cutL a.ch.c).length < _; omega) ⟨rfl, ?_⟩)
  repeat (conv => whnf
          refine ⟨rfl, ?_⟩)
  conv => whnf
  rw [bb]
  conv => whnf
  refine .pure (EvSame_spec (a := { a with ch := cutCh a.ch }) (b := { a with ch := cutCh a.ch }) (by show a.b.length < _; omega) (by show a.a.length < _; omega) (by show (cutL a.ch.c).length < _; omega) ⟨rfl, ?_⟩)
  rw [decide_eq_true rfl]
  repeat (conv => whnf
          refine ⟨rfl, ?_⟩)
  conv => whnf
  refine .pure (EvSame_spec (a := { b with ch := cutCh b.ch }) (b := { a with ch := cutCh a.ch }) (by show b.b.length < _; omega) (by show b.a.length < _; omega) (by show (cutL b.ch.c).length < _; omega) ⟨rfl, ?_⟩)
  repeat (conv => whnf
          refine ⟨rfl, ?_⟩)
  conv => whnf
  refine .pure (EvSame_spec (a := { a with ch := cutCh a.ch }) (b := { b with ch := cutCh b.ch }) (by show a.b.length < _; omega) (by show a.a.length < _; omega) (by show (cutL a.ch.c).length < _; omega) ⟨rfl, ?_⟩)
  rw [hsym]
  repeat (conv => whnf
          refine ⟨rfl, ?_⟩)
  conv => whnf
  rw [bb]
  repeat (conv => whnf
          refine ⟨rfl, ?_⟩)
  conv => whnf
  refine .pure (lives06_spec ⟨rfl, ?_⟩)
  repeat (conv => whnf
          refine ⟨rfl, ?_⟩)
  conv => whnf
  exact ⟨[], rfl, rfl⟩

end Go.Proofs.YtokifgdmddnpoaaDoorPg

/- Events and tables as arguments. -/
namespace Go.Proofs.YtokifgdmddnpoaaDoorPg
open Go Go.RowKit
set_option linter.unusedSimpArgs false
set_option linter.unusedVariables false

structure ValIn (v : Val) : Prop where
  k : I64 v.k
  n : I64 v.n
  t : v.t.length ≤ Globs.txt

structure ChgIn (c : Chg) : Prop where
  k : I64 c.k
  ks : I64 c.ks
  col : I64 c.col.k
  c : ∀ x ∈ c.c, I64 x.k

structure EvtIn (e : Evt) : Prop extends EvtB e where
  k : I64 e.k
  n : I64 e.n
  vb : ∀ v ∈ e.b, ValIn v
  va : ∀ v ∈ e.a, ValIn v
  ch : ChgIn e.ch

theorem evals_of : ∀ {es : List (List V)}, (∀ x ∈ es, ∃ (k n : Int) (s : List UInt8), x = [.int .i64 k, .int .i64 n, .str s] ∧ I64 k ∧ I64 n ∧ s.length ≤ Globs.txt) → ∃ l : List Val, es = vals l ∧ ∀ v ∈ l, ValIn v
  | [], _ => ⟨[], rfl, by simp⟩
  | x :: es, h => by
    obtain ⟨k, n, s, rfl, h1, h2, h3⟩ := h x (by simp)
    obtain ⟨l, rfl, hl⟩ := evals_of (es := es) fun y hy => h y (by simp [hy])
    refine ⟨⟨k, n, s⟩ :: l, rfl, fun v hv => ?_⟩
    rcases List.mem_cons.1 hv with rfl | hv
    · exact ⟨h1, h2, h3⟩
    · exact hl v hv

theorem vals_len' (l : List Val) : (vals l).length = l.length := vals_len l

theorem ev_in {vs : List V} (h : Shp tt 8 44 vs) : ∃ e : Evt, argV tt 44 vs = evA e ∧ EvtIn e := by
  obtain ⟨_, _, ⟨k, hk, rfl⟩, ⟨_, _, ⟨n, hn, rfl⟩, ⟨_, _, ⟨t, _, rfl⟩, ⟨_, _, ⟨eb, heb, gb, rfl⟩, ⟨_, _, ⟨ea, hea, ga, rfl⟩, ⟨_, _, hch, rfl, rfl⟩, rfl⟩, rfl⟩, rfl⟩, rfl⟩, rfl⟩ := h
  obtain ⟨_, _, ⟨ck, hck, rfl⟩, ⟨_, _, ⟨ct, _, rfl⟩, ⟨_, _, ⟨_, _, ⟨es, _, g1, rfl⟩, ⟨_, _, ⟨ks, hks, rfl⟩, rfl, rfl⟩, rfl⟩, ⟨_, _, ⟨_, _, ⟨cn, _, rfl⟩, ⟨_, _, ⟨cck, hcck, rfl⟩, ⟨_, _, ⟨o, rfl⟩, rfl, rfl⟩, rfl⟩, rfl⟩, rfl, rfl⟩, rfl⟩, rfl⟩, rfl⟩ := hch
  obtain ⟨l, rfl, hl⟩ := cols_of fun x hx => by
    obtain ⟨_, _, ⟨s, _, rfl⟩, ⟨_, _, ⟨k, hk, rfl⟩, ⟨_, _, ⟨o, rfl⟩, rfl, rfl⟩, rfl⟩, rfl⟩ := g1 x hx
    exact ⟨s, k, o, rfl, i64_wf hk⟩
  obtain ⟨lb, rfl, hlb⟩ := evals_of fun x hx => by
    obtain ⟨_, _, ⟨k, hk, rfl⟩, ⟨_, _, ⟨n, hn, rfl⟩, ⟨_, _, ⟨s, hs, rfl⟩, rfl, rfl⟩, rfl⟩, rfl⟩ := gb x hx
    exact ⟨k, n, s, rfl, i64_wf hk, i64_wf hn, hs⟩
  obtain ⟨la, rfl, hla⟩ := evals_of fun x hx => by
    obtain ⟨_, _, ⟨k, hk, rfl⟩, ⟨_, _, ⟨n, hn, rfl⟩, ⟨_, _, ⟨s, hs, rfl⟩, rfl, rfl⟩, rfl⟩, rfl⟩ := ga x hx
    exact ⟨k, n, s, rfl, i64_wf hk, i64_wf hn, hs⟩
  refine ⟨⟨k, n, t, lb, la, ⟨ck, ct, l, ks, ⟨cn, cck, o⟩⟩⟩, rfl, ⟨⟨?_, ?_⟩, i64_wf hk, i64_wf hn, hlb, hla, ⟨i64_wf hck, i64_wf hks, i64_wf hcck, hl⟩⟩⟩
  · rw [vals_len] at heb; exact Nat.le_trans heb (by decide)
  · rw [vals_len] at hea; exact Nat.le_trans hea (by decide)

structure TbIn (t : Tb) : Prop where
  k : I64 t.k
  c : ∀ x ∈ t.c, I64 x.k

theorem tbs_of : ∀ {es : List (List V)}, (∀ x ∈ es, ∃ t : Tb, x = tbC t ∧ TbIn t) → ∃ l : List Tb, es = tbs l ∧ ∀ t ∈ l, TbIn t
  | [], _ => ⟨[], rfl, by simp⟩
  | x :: es, h => by
    obtain ⟨t, rfl, ht⟩ := h x (by simp)
    obtain ⟨l, rfl, hl⟩ := tbs_of (es := es) fun y hy => h y (by simp [hy])
    refine ⟨t :: l, rfl, fun v hv => ?_⟩
    rcases List.mem_cons.1 hv with rfl | hv
    · exact ht
    · exact hl v hv

theorem tbs_in {vs : List V} (h : Shp tt 8 22 vs) : ∃ l : List Tb, argV tt 22 vs = .sl 3 (tbs l) false ∧ ∀ t ∈ l, TbIn t := by
  obtain ⟨es, _, g1, rfl⟩ := h
  obtain ⟨l, rfl, hl⟩ := tbs_of fun x hx => by
    obtain ⟨_, _, ⟨n, _, rfl⟩, ⟨_, _, ⟨_, _, ⟨es, _, g2, rfl⟩, ⟨_, _, ⟨k, hk, rfl⟩, rfl, rfl⟩, rfl⟩, rfl, rfl⟩, rfl⟩ := g1 x hx
    obtain ⟨l, rfl, hl⟩ := cols_of fun x hx => by
      obtain ⟨_, _, ⟨s, _, rfl⟩, ⟨_, _, ⟨k, hk, rfl⟩, ⟨_, _, ⟨o, rfl⟩, rfl, rfl⟩, rfl⟩, rfl⟩ := g2 x hx
      exact ⟨s, k, o, rfl, i64_wf hk⟩
    exact ⟨⟨n, l, k⟩, rfl, i64_wf hk, hl⟩
  exact ⟨l, rfl, hl⟩

end Go.Proofs.YtokifgdmddnpoaaDoorPg

/- Tables that may be, made of any (the document's function). -/
namespace Go.Proofs.YtokifgdmddnpoaaDoorPg
open Go Go.RowKit
set_option linter.unusedSimpArgs false
set_option linter.unusedVariables false

variable {Q : V → List O → Prop}

def poolT : List (List UInt8) := [[116], [117], [118]]
def tName (i : Nat) (t : Tb) : List UInt8 := if nameOk t.n then t.n else poolT.getD i []
def folG (o : List Tb) (i : Nat) (t : Tb) : List Tb × Int := folT o 1 (tName i t) (goodL nameOk t.c t.k) (goodK nameOk t.c t.k) col0
def stepG7 (o : List Tb) (i : Nat) (t : Tb) : List Tb := if (folG o i t).2 = 0 then (folG o i t).1 else o
def goodTN (l : List Tb) : Nat → List Tb
  | 0 => []
  | i + 1 => match l[i]? with
    | some t => stepG7 (goodTN l i) i t
    | none => goodTN l i
def goodT (l : List Tb) : List Tb := goodTN l 3

theorem goodTN_stop {l : List Tb} : ∀ {n : Nat}, l.length ≤ n → goodTN l n = goodTN l l.length
  | n, h => by
    induction n with
    | zero => have : l.length = 0 := by omega
              rw [this]
    | succ n ih =>
      by_cases c : l.length = n + 1
      · rw [c]
      · rw [goodTN, List.getElem?_eq_none (by omega)]
        exact ih (by omega)

theorem goodTN_ok {l : List Tb} (hl : ∀ t ∈ l, TbIn t) : ∀ i, TbsOk nameOk mayS (goodTN l i) ∧ (goodTN l i).length ≤ i
  | 0 => ⟨⟨List.Pairwise.nil, fun t h => (by cases h)⟩, Nat.le_refl 0⟩
  | i + 1 => by
    obtain ⟨h1, h2⟩ := goodTN_ok hl i
    rw [goodTN]
    cases hg : l[i]? with
    | none => exact ⟨h1, by simp only; omega⟩
    | some t =>
      have ht := hl t (List.mem_of_getElem? hg)
      simp only
      unfold stepG7
      by_cases c : (folG (goodTN l i) i t).2 = 0
      · rw [if_pos c]
        unfold folG folT at c ⊢
        rw [if_pos rfl] at c ⊢
        generalize tName i t = n at *
        split at c
        · cases c
        · rename_i c1
          split at c
          · cases c
          · rename_i c2
            split at c
            · cases c
            · rename_i c3
              split at c
              · cases c
              · rename_i c4
                rw [if_neg c1, if_neg c2, if_neg c3, if_neg c4]
                have hn : atT (goodTN l i) n = none := by
                  cases ha : atT (goodTN l i) n with
                  | none => rfl
                  | some j => rw [ha] at c2; simp at c2
                refine ⟨insT_ok h1 ⟨by simpa using c1, by simpa using c3⟩ hn, ?_⟩
                rw [insT_len]; omega
      · rw [if_neg c]; exact ⟨h1, by omega⟩

theorem poolT_get {i : Nat} (h : i < 3) : (poolT.map fun s => [V.str s])[i]? = some [.str (poolT.getD i [])] := by
  obtain rfl | rfl | rfl : i = 0 ∨ i = 1 ∨ i = 2 := by omega
  all_goals rfl

def GtInv (l : List Tb) (f : Bool) (m : Nat) (ws : List V) (H : List O) : Prop :=
  ∃ i : Nat, ws = [.sl 3 (tbs l) f, .sl 3 (tbs (goodTN l i)) false, .sl 1 (poolT.map fun s => [.str s]) true, fI i] ∧ H = [] ∧ i ≤ 3 ∧ i ≤ l.length ∧ m = 3 - i

set_option maxHeartbeats 16000000 in
theorem RGoodT_spec {l : List Tb} {f : Bool} (hl : ∀ t ∈ l, TbIn t) (h : Q (.sl 3 (tbs (goodT l)) false) []) : ACall Tryd.prog 9 0 [.sl 3 (tbs l) f] [] Q := by
  refine by_body Tryd.func9 0 rfl (Nat.le_of_ble_eq_true rfl) ?_
  conv => whnf
  have hlv := tbs_len l
  refine ⟨⟨[0, 3, 4, 5], GtInv l f,
    .frz 5 (.frz 0 rfl (by repeat (first | exact trivial | refine And.intro (Nat.le_refl _) ?_)) (.sub _ _ (.cons (VSub.refl _) (.cons (nils_sl3 false) (VSubs.refl _))) (HSub.refl _) (.go [] rfl 3 (by omega) ⟨0, rfl, rfl, by omega, by omega, rfl⟩))), ?_⟩⟩
  rintro m ws H ⟨i, rfl, rfl, hi, hi2, rfl⟩
  conv => whnf
  refine branch_i (fun c1 => ?_) (fun c1 => ?_) <;> try rw [c1] <;> conv => whnf
  rotate_left
  focus
    have c1' := of_decide_eq_false c1
    have e : goodT l = goodTN l i := by
      have : i = l.length := by omega
      subst this
      exact goodTN_stop hi
    rw [e] at h
    exact ⟨[], rfl, h⟩
  have c1' := of_decide_eq_true c1
  refine branch_i (fun c2 => ?_) (fun c2 => ?_) <;> try rw [c2] <;> conv => whnf
  rotate_left
  focus
    have c2' := of_decide_eq_false c2
    have : i = 3 := by omega
    subst this
    exact ⟨[], rfl, h⟩
  have c2' := of_decide_eq_true c2
  have hlt : i < l.length := by omega
  have hg : l[i]? = some l[i] := List.getElem?_eq_getElem hlt
  have hstep : goodTN l (i + 1) = stepG7 (goodTN l i) i l[i] := by rw [goodTN, hg]
  obtain ⟨hok, hol⟩ := goodTN_ok hl i
  have hin := hl l[i] (List.getElem_mem hlt)
  generalize l[i] = w at *
  refine ⟨_, ⟨by omega, tbs_get hg⟩, ?_⟩
  conv => whnf
  refine .pure (RName_spec ⟨rfl, ?_⟩)
  conv => whnf
  have hnm : tName i w = if nameOk w.n then w.n else poolT.getD i [] := rfl
  cases hn : nameOk w.n <;> rw [hn] at hnm <;> conv => whnf
  focus
    rw [if_neg (by simp)] at hnm
    refine ⟨[V.str (poolT.getD i [])], ⟨by omega, poolT_get (i := i) (by omega)⟩, ?_⟩
    conv => whnf
    generalize poolT.getD i [] = T at hnm ⊢
  rotate_left
  focus
    rw [if_pos rfl] at hnm
    generalize w.n = T at hnm ⊢
  all_goals
    refine ⟨_, ⟨by omega, tbs_get hg⟩, ?_⟩
    conv => whnf
    refine .pure (RGood_spec hin.k ⟨rfl, ?_⟩)
    conv => whnf
    have hf : folG (goodTN l i) i w = folT (goodTN l i) 1 T (goodL nameOk w.c w.k) (goodK nameOk w.c w.k) col0 := by unfold folG; rw [hnm]
    refine .pure (RFollow_spec (k := 1) (t := T) (cs := goodL nameOk w.c w.k) (ks := goodK nameOk w.c w.k) (c := col0) (by omega) (fun x hx => (hok.each x hx).sch) ⟨rfl, ?_⟩)
    rw [← hf]
    unfold stepG7 at hstep
    generalize folG (goodTN l i) i w = r at *
    generalize goodTN l i = o at *
    conv => whnf
    refine branch_i (fun c3 => ?_) (fun c3 => ?_) <;> try rw [c3] <;> conv => whnf
    · rw [if_pos (of_decide_eq_true c3)] at hstep
      refine .go [] rfl (3 - (i + 1)) (by omega) ⟨i + 1, ?_, rfl, by omega, by omega, rfl⟩
      rw [hstep]
      show [V.sl 3 (tbs l) f, .sl 3 (tbs r.1) false, .sl 1 (poolT.map fun s => [.str s]) true, V.int .i64 (IntKind.i64.wrap ((i : Int) + 1))] = _
      rw [wrapE (by omega)]; rfl
    · rw [if_neg (of_decide_eq_false c3)] at hstep
      refine .go [] rfl (3 - (i + 1)) (by omega) ⟨i + 1, ?_, rfl, by omega, by omega, rfl⟩
      rw [hstep]
      show [V.sl 3 (tbs l) f, .sl 3 (tbs o) false, .sl 1 (poolT.map fun s => [.str s]) true, V.int .i64 (IntKind.i64.wrap ((i : Int) + 1))] = _
      rw [wrapE (by omega)]; rfl

/-! ### the law EventTables -/
def nms (l : List (List UInt8)) : List (List V) := l.map fun s => [.str s]
theorem nms_len (l : List (List UInt8)) : (nms l).length = l.length := by simp [nms]
theorem nms_get {l : List (List UInt8)} {i : Nat} {s : List UInt8} (h : l[i]? = some s) : (nms l)[i]? = some [.str s] := by simp [nms, h]

theorem nms_app (a b : List (List UInt8)) : nms (a ++ b) = nms a ++ nms b := by simp [nms]

/-- A name behind names, whether their slice is full or not. -/
theorem app_nm {i j n : Nat} {b f : Bool} {X : List (List UInt8)} {s : List UInt8} {H : List O} {K : V → List O → Prop} (hij : Nat.beq i j = false) (hX : getO H i = .buf (nms X)) (hn : n = X.length) (hs : X.length ≤ 1000000)
    (hK : ∀ H0 : List O, H0 = (match b with | true => H | false => setO H i .dead) → copyH (H0 ++ [.buf (nms (X ++ [s]))]) fun H' => K (.ms 1 H0.length 0 (X.length + 1) false) H') :
    0 + 1 ≤ 1 ∧ aapp 1 16 (.ms 1 i 0 n b) (.ms 1 j 0 1 f) [[.str s]] H K := by
  subst hn
  refine ⟨Nat.le_refl 1, ?_⟩
  unfold aapp
  cases b with
  | false =>
    unfold sameBuf
    simp only [hij]
    unfold aappend
    simp only [show Nat.beq 1 1 = true from rfl, hX, List.drop_zero]
    refine ⟨by rw [nms_len]; rfl, ?_⟩
    have hK := hK _ rfl
    rw [show nms X ++ [[V.str s]] = nms (X ++ [s]) by rw [nms_app]; rfl]
    unfold newBuf
    rw [nms_len, List.length_append, List.length_singleton]
    exact ⟨by omega, hK⟩
  | true =>
    unfold sameBuf
    simp only
    unfold aappend
    simp only [show Nat.beq 1 1 = true from rfl, hX, List.drop_zero]
    refine ⟨by rw [nms_len]; omega, fun h => (by cases h), fun _ => ?_⟩
    have hK := hK _ rfl
    rw [List.take_of_length_le (by rw [nms_len]; exact Nat.le_refl _), show nms X ++ [[V.str s]] = nms (X ++ [s]) by rw [nms_app]; rfl]
    unfold newBuf
    rw [nms_len, List.length_append, List.length_singleton]
    exact ⟨by omega, hK⟩

set_option maxHeartbeats 16000000 in
theorem EventTables_spec {l : List Tb} {n : List UInt8} {f : Bool} (hl : ∀ t ∈ l, TbIn t) : ACall Tryd.prog 3 0 [.sl 3 (tbs l) f, .str n] [] (fun v _ => v = .bool true) := by
  refine by_body Tryd.func3 0 rfl (Nat.le_of_ble_eq_true rfl) ?_
  conv => whnf
  have hlv := tbs_len l
  refine branch_i (fun c0 => ?_) (fun c0 => ?_) <;> try rw [c0] <;> conv => whnf
  focus
    have c0' := of_decide_eq_true c0
    refine ⟨by omega, ?_⟩
    rw [show (10 : Int).toNat = 10 from rfl, tbs_take]
    have hl' : ∀ t ∈ l.take 10, TbIn t := fun t ht => hl t (List.mem_of_mem_take ht)
    have hlen : (l.take 10).length ≤ 10 := by rw [List.length_take]; omega
    generalize l.take 10 = l' at *
    conv => whnf
  rotate_left
  focus
    have hlen : l.length ≤ 10 := by
      have := of_decide_eq_false c0
      omega
    have hl' := hl
    obtain ⟨l', hll⟩ : ∃ l', l' = l := ⟨l, rfl⟩
    rw [← hll] at hl' hlen ⊢
  all_goals
    obtain ⟨hok, hol⟩ := goodTN_ok hl' 3
    refine .pure (RGoodT_spec hl' ⟨rfl, ?_⟩)
    conv => whnf
    change TbsOk nameOk mayS (goodT l') at hok
    change (goodT l').length ≤ 3 at hol
    generalize goodT l' = g at *
    refine .pure (EvName_spec ⟨rfl, ?_⟩)
    conv => whnf
    generalize List.take 40 n = n' at *
    have hg := tbs_len g
    refine ⟨⟨[0, 5, 6, 7], fun m ws H => ∃ (i : Nat) (b b2 : Bool) (X : List (List UInt8)), ws = [.sl 3 (tbs l') b2, .sl 3 (tbs g) false, .ms 1 0 0 (i + 1) b, fI i] ∧ H = [.buf (nms X)] ∧ X.length = i + 1 ∧ i ≤ g.length ∧ m = g.length - i,
      .at g.length ⟨0, true, _, [n'], rfl, rfl, rfl, Nat.zero_le _, rfl⟩, ?_⟩⟩
    rintro m ws H ⟨i, b, b2, X, rfl, rfl, hX, hi, rfl⟩
    conv => whnf
    refine branch_i (fun c1 => ?_) (fun c1 => ?_) <;> try rw [c1] <;> conv => whnf
    · have c1' := of_decide_eq_true c1
      have hlt : i < g.length := by omega
      have hgi : g[i]? = some g[i] := List.getElem?_eq_getElem hlt
      generalize g[i] = w at *
      refine ⟨_, ⟨by omega, tbs_get hgi⟩, ?_⟩
      conv => whnf
      refine app_nm (X := X) rfl rfl hX.symm (by omega) ?_
      rintro H0 rfl
      cases b <;> conv => whnf
      all_goals
        refine .go [2] rfl (g.length - (i + 1)) (by omega) ⟨i + 1, false, b2, X ++ [w.n], ?_, rfl, by rw [List.length_append, List.length_singleton]; omega, by omega, rfl⟩
        rw [← hX]
        show [V.sl 3 (tbs l') b2, .sl 3 (tbs g) false, .ms 1 0 0 (X.length + 1) false, V.int .i64 (IntKind.i64.wrap ((i : Int) + 1))] = _
        rw [wrapE (by omega), hX]; rfl
    have c1' := of_decide_eq_false c1
    have : i = g.length := by omega
    subst this
    have hc : ∀ x ∈ g, x.c.length < 1000000 := fun x hx => by have := (may_bd (hok.each x hx).sch).2.2.2; omega
    refine ⟨⟨[0, 5, 6, 8], fun m ws H => ∃ i : Nat, ws = [.sl 3 (tbs l') b2, .sl 3 (tbs g) false, .ms 1 0 0 (g.length + 1) b, fI i] ∧ H = [.buf (nms X)] ∧ i ≤ g.length + 1 ∧ m = g.length + 1 - i,
      .at (g.length + 1) ⟨0, rfl, rfl, Nat.zero_le _, rfl⟩, ?_⟩⟩
    rintro m ws H ⟨i, rfl, rfl, hi, rfl⟩
    conv => whnf
    refine branch_i (fun d1 => ?_) (fun d1 => ?_) <;> try rw [d1] <;> conv => whnf
    · have d1' := of_decide_eq_true d1
      have hlt : i < X.length := by omega
      have hgi : X[i]? = some X[i] := List.getElem?_eq_getElem hlt
      generalize X[i] = N at *
      refine ⟨by omega, ?_⟩
      conv => whnf
      refine ⟨_, nms_get hgi, ?_⟩
      conv => whnf
      refine .pure (EvFind_spec (by omega) hok.sorted hc ⟨rfl, ?_⟩)
      unfold findR
      have hfl : ∀ C K, findT g N = some (C, K) → C.length < 1000000 := fun C K hf => by
        unfold findT at hf
        cases ha : atT g N with
        | none => rw [ha] at hf; cases hf
        | some j =>
          rw [ha] at hf
          cases hj : g[j]? with
          | none => simp only [Option.bind, hj] at hf; cases hf
          | some x => simp only [Option.bind, hj] at hf; cases hf; exact hc x (List.mem_of_getElem? hj)
      have hend : ∀ ws H, ws = [.sl 3 (tbs l') b2, .sl 3 (tbs g) false, .ms 1 0 0 (g.length + 1) b, V.int .i64 (IntKind.i64.wrap ((i : Int) + 1))] → H = [O.buf (nms X)] → ∃ i' : Nat, ws = [.sl 3 (tbs l') b2, .sl 3 (tbs g) false, .ms 1 0 0 (g.length + 1) b, fI i'] ∧ H = [.buf (nms X)] ∧ i' ≤ g.length + 1 ∧ g.length + 1 - (i + 1) = g.length + 1 - i' := fun ws H h1 h2 =>
        ⟨i + 1, by rw [h1, wrapE (by omega)]; rfl, h2, by omega, rfl⟩
      have bb : ∀ b : Bool, decide (b = b) = true := fun b => decide_eq_true rfl
      cases hfo : findT g N with
      | none =>
        conv => whnf
        refine ⟨by omega, ?_⟩
        conv => whnf
        refine ⟨_, nms_get hgi, ?_⟩
        conv => whnf
        refine .pure (EvRFind_spec (by omega) ⟨rfl, ?_⟩)
        unfold findR
        rw [hfo]
        conv => whnf
        refine .pure (RSame_spec (by decide) ⟨rfl, ?_⟩)
        rw [show sameS [] 0 [] 0 = true by simp [sameS]]
        conv => whnf
        refine .go [0] rfl (g.length + 1 - (i + 1)) (by omega) (hend _ _ rfl rfl)
      | some o =>
        obtain ⟨C, K⟩ := o
        conv => whnf
        refine ⟨by omega, ?_⟩
        conv => whnf
        refine ⟨_, nms_get hgi, ?_⟩
        conv => whnf
        refine .pure (EvRFind_spec (by omega) ⟨rfl, ?_⟩)
        unfold findR
        rw [hfo]
        conv => whnf
        refine .pure (RSame_spec (hfl C K hfo) ⟨rfl, ?_⟩)
        rw [show sameS C K C K = true by simp [sameS]]
        conv => whnf
        refine .go [0] rfl (g.length + 1 - (i + 1)) (by omega) (hend _ _ rfl rfl)
    refine .pure (EvRight_spec (by omega) ⟨rfl, ?_⟩)
    conv => whnf
    refine .pure (EvRRight_spec (by omega) ⟨rfl, ?_⟩)
    conv => whnf
    have bb : ∀ b : Bool, (b == b) = true := fun b => by cases b <;> rfl
    rw [bb]
    conv => whnf
    refine .pure (EvRight_spec (by omega) ⟨rfl, ?_⟩)
    rw [ok_rightT hok (by omega)]
    conv => whnf
    refine .pure (lives06_spec ⟨rfl, ?_⟩)
    conv => whnf
    exact ⟨[], rfl, rfl⟩

end Go.Proofs.YtokifgdmddnpoaaDoorPg
