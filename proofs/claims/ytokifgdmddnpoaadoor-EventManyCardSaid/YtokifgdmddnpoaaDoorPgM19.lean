/- Own texts, laid together: Pg06DEv6, Pg06DEvIn, Pg06DEv7, Pg06DInsT, Pg06DEv12, Pg06DEv13. -/
import Derived.Test.YtokifgdmddnpoaaDoorPgM18
import Derived.Test.YtokifgdmddnpoaaDoorPgM17
import Derived.Test.YtokifgdmddnpoaaDoorPgM14
/- Events: the example; the law EventSame. -/
namespace Go.Proofs.YtokifgdmddnpoaaDoorPg
open Go Go.RowKit
set_option linter.unusedSimpArgs false
set_option linter.unusedVariables false

variable {Q : V → List O → Prop}

theorem sorted_nil : SortedT [] := List.Pairwise.nil

set_option maxHeartbeats 8000000 in
theorem Write7_spec (h : Q (.tup [.sl 1 (bs [7, 5]) false, fI 0]) []) : ACall Tryd.prog 34 0 [evA ev7, .sl 3 [] false] [] Q := by
  refine ACall.ret (by_body Tryd.func34 0 rfl (Nat.le_of_ble_eq_true rfl) ?_)
  conv => whnf
  refine .pure (May7_spec ⟨rfl, ?_⟩)
  conv => whnf
  refine .pure (EvFind_spec (l := []) (by simp) sorted_nil (by simp) ⟨rfl, ?_⟩)
  conv => whnf
  refine .pure (rowed_spec ⟨rfl, ?_⟩)
  conv => whnf
  refine .frz 1 rfl rfl (by repeat (first | exact trivial | refine And.intro (Nat.le_refl _) ?_)) (.call [] 0 ⟨rfl, rfl, rfl⟩ (WNumber_spec (l := [7]) (f := true) (n := 5) (by decide) (by decide) (by simp) ?_))
  conv => whnf
  refine ⟨[3], rfl, .frz 0 rfl (by repeat (first | exact trivial | refine And.intro (Nat.le_refl _) ?_)) (.done [] rfl ?_)⟩
  exact h

set_option maxHeartbeats 8000000 in
theorem lives06_spec (h : Q (.bool true) []) : ACall Tryd.prog 16 0 [] [] Q := by
  refine by_body Tryd.func16 0 rfl (Nat.le_of_ble_eq_true rfl) ?_
  conv => whnf
  refine .pure (ACall.args (.cons ev7_sub (.cons (nils_sl3 false) (VSubs.refl _))) (Write7_spec ⟨rfl, ?_⟩))
  conv => whnf
  refine ⟨_, ⟨by decide, rfl⟩, ?_⟩
  conv => whnf
  refine ⟨_, ⟨by decide, rfl⟩, ?_⟩
  conv => whnf
  refine .pure (ACall.args (.cons (nils_sl3 false) (VSubs.refl _)) (EvRight_spec (l := []) (f := false) (by simp) ⟨rfl, ?_⟩))
  conv => whnf
  exact ⟨[], rfl, h⟩

structure EvtB (e : Evt) : Prop where
  b : e.b.length ≤ 9223372036854775807
  a : e.a.length ≤ 9223372036854775807

set_option maxHeartbeats 16000000 in
theorem EventSame_spec {a b : Evt} (ha : EvtB a) (hb : EvtB b) : ACall Tryd.prog 5 0 [evA a, evA b] [] (fun v _ => v = .bool true) := by
  refine by_body Tryd.func5 0 rfl (Nat.le_of_ble_eq_true rfl) ?_
  conv => whnf
  refine .pure (EvCut_spec (c := a.ch) ⟨rfl, ?_⟩)
  conv => whnf
  refine .pure (EvCut_spec (c := b.ch) ⟨rfl, ?_⟩)
  conv => whnf
  have bb : ∀ b : Bool, (b == b) = true := fun b => by cases b <;> rfl
  have h1 := ha.b
  have h2 := ha.a
  have h3 := hb.b
  have h4 := hb.a
  have hca := cutL_len a.ch.c
  have hcb := cutL_len b.ch.c
  have ea : ∀ K : List V → Prop, K (evC { a with ch := cutCh a.ch }) → K (evC { a with ch := cutCh a.ch }) := fun _ h => h
  have hsym : decide ({ b with ch := cutCh b.ch } = { a with ch := cutCh a.ch }) = decide ({ a with ch := cutCh a.ch } = { b with ch := cutCh b.ch }) := by
    by_cases e : { a with ch := cutCh a.ch } = { b with ch := cutCh b.ch }
    · rw [decide_eq_true e, decide_eq_true e.symm]
    · rw [decide_eq_false e, decide_eq_false (fun x => e x.symm)]
  refine ⟨[0, 1, 3, 4, 2, 5, 6, 7, 8, 9, 10, 11, 12, 13, 14, 16, 17, 15, 18, 19, 20, 21, 22, 23, 24], by kernel_rfl, by kernel_rfl, ?_⟩
  conv => whnf
  refine .pure (EvSame_spec (a := { a with ch := cutCh a.ch }) (b := { b with ch := cutCh b.ch }) (by show a.b.length < _; omega) (by show a.a.length < _; omega) (by show (cutL a.ch.c).length < _; omega) ⟨rfl, ?_⟩)
  repeat (conv => whnf
          refine ⟨rfl, ?_⟩)
  conv => whnf
  refine .pure (EvRSame_spec (a := { a with ch := cutCh a.ch }) (b := { b with ch := cutCh b.ch }) (by show a.b.length < _; omega) (by show a.a.length < _; omega) (by show (cutL a.ch.c).length < _; omega) ⟨rfl, ?_⟩)
  repeat (conv => whnf
          refine ⟨rfl, ?_⟩)
  conv => whnf
  rw [bb]
  conv => whnf
  refine .pure (EvSame_spec (a := { a with ch := cutCh a.ch }) (b := { a with ch := cutCh a.ch }) (by show a.b.length < _; omega) (by show a.a.length < _; omega) (by show (cutL a.ch.c).length < _; omega) ⟨rfl, ?_⟩)
  rw [decide_eq_true rfl]
  repeat (conv => whnf
          refine ⟨rfl, ?_⟩)
  conv => whnf
  refine .pure (EvSame_spec (a := { b with ch := cutCh b.ch }) (b := { a with ch := cutCh a.ch }) (by show b.b.length < _; omega) (by show b.a.length < _; omega) (by show (cutL b.ch.c).length < _; omega) ⟨rfl, ?_⟩)
  repeat (conv => whnf
          refine ⟨rfl, ?_⟩)
  conv => whnf
  refine .pure (EvSame_spec (a := { a with ch := cutCh a.ch }) (b := { b with ch := cutCh b.ch }) (by show a.b.length < _; omega) (by show a.a.length < _; omega) (by show (cutL a.ch.c).length < _; omega) ⟨rfl, ?_⟩)
  rw [hsym]
  repeat (conv => whnf
          refine ⟨rfl, ?_⟩)
  conv => whnf
  rw [bb]
  repeat (conv => whnf
          refine ⟨rfl, ?_⟩)
  conv => whnf
  refine .pure (lives06_spec ⟨rfl, ?_⟩)
  repeat (conv => whnf
          refine ⟨rfl, ?_⟩)
  conv => whnf
  exact ⟨[], rfl, rfl⟩

end Go.Proofs.YtokifgdmddnpoaaDoorPg

/- Events and tables as arguments. -/
namespace Go.Proofs.YtokifgdmddnpoaaDoorPg
open Go Go.RowKit
set_option linter.unusedSimpArgs false
set_option linter.unusedVariables false

structure ValIn (v : Val) : Prop where
  k : I64 v.k
  n : I64 v.n
  t : v.t.length ≤ Globs.txt

structure ChgIn (c : Chg) : Prop where
  k : I64 c.k
  ks : I64 c.ks
  col : I64 c.col.k
  c : ∀ x ∈ c.c, I64 x.k

structure EvtIn (e : Evt) : Prop extends EvtB e where
  k : I64 e.k
  n : I64 e.n
  vb : ∀ v ∈ e.b, ValIn v
  va : ∀ v ∈ e.a, ValIn v
  ch : ChgIn e.ch

theorem evals_of : ∀ {es : List (List V)}, (∀ x ∈ es, ∃ (k n : Int) (s : List UInt8), x = [.int .i64 k, .int .i64 n, .str s] ∧ I64 k ∧ I64 n ∧ s.length ≤ Globs.txt) → ∃ l : List Val, es = vals l ∧ ∀ v ∈ l, ValIn v
  | [], _ => ⟨[], rfl, by simp⟩
  | x :: es, h => by
    obtain ⟨k, n, s, rfl, h1, h2, h3⟩ := h x (by simp)
    obtain ⟨l, rfl, hl⟩ := evals_of (es := es) fun y hy => h y (by simp [hy])
    refine ⟨⟨k, n, s⟩ :: l, rfl, fun v hv => ?_⟩
    rcases List.mem_cons.1 hv with rfl | hv
    · exact ⟨h1, h2, h3⟩
    · exact hl v hv

theorem vals_len' (l : List Val) : (vals l).length = l.length := vals_len l

theorem ev_in {vs : List V} (h : Shp tt 8 44 vs) : ∃ e : Evt, argV tt 44 vs = evA e ∧ EvtIn e := by
  obtain ⟨_, _, ⟨k, hk, rfl⟩, ⟨_, _, ⟨n, hn, rfl⟩, ⟨_, _, ⟨t, _, rfl⟩, ⟨_, _, ⟨eb, heb, gb, rfl⟩, ⟨_, _, ⟨ea, hea, ga, rfl⟩, ⟨_, _, hch, rfl, rfl⟩, rfl⟩, rfl⟩, rfl⟩, rfl⟩, rfl⟩ := h
  obtain ⟨_, _, ⟨ck, hck, rfl⟩, ⟨_, _, ⟨ct, _, rfl⟩, ⟨_, _, ⟨_, _, ⟨es, _, g1, rfl⟩, ⟨_, _, ⟨ks, hks, rfl⟩, rfl, rfl⟩, rfl⟩, ⟨_, _, ⟨_, _, ⟨cn, _, rfl⟩, ⟨_, _, ⟨cck, hcck, rfl⟩, ⟨_, _, ⟨o, rfl⟩, rfl, rfl⟩, rfl⟩, rfl⟩, rfl, rfl⟩, rfl⟩, rfl⟩, rfl⟩ := hch
  obtain ⟨l, rfl, hl⟩ := cols_of fun x hx => by
    obtain ⟨_, _, ⟨s, _, rfl⟩, ⟨_, _, ⟨k, hk, rfl⟩, ⟨_, _, ⟨o, rfl⟩, rfl, rfl⟩, rfl⟩, rfl⟩ := g1 x hx
    exact ⟨s, k, o, rfl, i64_wf hk⟩
  obtain ⟨lb, rfl, hlb⟩ := evals_of fun x hx => by
    obtain ⟨_, _, ⟨k, hk, rfl⟩, ⟨_, _, ⟨n, hn, rfl⟩, ⟨_, _, ⟨s, hs, rfl⟩, rfl, rfl⟩, rfl⟩, rfl⟩ := gb x hx
    exact ⟨k, n, s, rfl, i64_wf hk, i64_wf hn, hs⟩
  obtain ⟨la, rfl, hla⟩ := evals_of fun x hx => by
    obtain ⟨_, _, ⟨k, hk, rfl⟩, ⟨_, _, ⟨n, hn, rfl⟩, ⟨_, _, ⟨s, hs, rfl⟩, rfl, rfl⟩, rfl⟩, rfl⟩ := ga x hx
    exact ⟨k, n, s, rfl, i64_wf hk, i64_wf hn, hs⟩
  refine ⟨⟨k, n, t, lb, la, ⟨ck, ct, l, ks, ⟨cn, cck, o⟩⟩⟩, rfl, ⟨⟨?_, ?_⟩, i64_wf hk, i64_wf hn, hlb, hla, ⟨i64_wf hck, i64_wf hks, i64_wf hcck, hl⟩⟩⟩
  · rw [vals_len] at heb; exact Nat.le_trans heb (by decide)
  · rw [vals_len] at hea; exact Nat.le_trans hea (by decide)

structure TbIn (t : Tb) : Prop where
  k : I64 t.k
  c : ∀ x ∈ t.c, I64 x.k

theorem tbs_of : ∀ {es : List (List V)}, (∀ x ∈ es, ∃ t : Tb, x = tbC t ∧ TbIn t) → ∃ l : List Tb, es = tbs l ∧ ∀ t ∈ l, TbIn t
  | [], _ => ⟨[], rfl, by simp⟩
  | x :: es, h => by
    obtain ⟨t, rfl, ht⟩ := h x (by simp)
    obtain ⟨l, rfl, hl⟩ := tbs_of (es := es) fun y hy => h y (by simp [hy])
    refine ⟨t :: l, rfl, fun v hv => ?_⟩
    rcases List.mem_cons.1 hv with rfl | hv
    · exact ht
    · exact hl v hv

theorem tbs_in {vs : List V} (h : Shp tt 8 22 vs) : ∃ l : List Tb, argV tt 22 vs = .sl 3 (tbs l) false ∧ ∀ t ∈ l, TbIn t := by
  obtain ⟨es, _, g1, rfl⟩ := h
  obtain ⟨l, rfl, hl⟩ := tbs_of fun x hx => by
    obtain ⟨_, _, ⟨n, _, rfl⟩, ⟨_, _, ⟨_, _, ⟨es, _, g2, rfl⟩, ⟨_, _, ⟨k, hk, rfl⟩, rfl, rfl⟩, rfl⟩, rfl, rfl⟩, rfl⟩ := g1 x hx
    obtain ⟨l, rfl, hl⟩ := cols_of fun x hx => by
      obtain ⟨_, _, ⟨s, _, rfl⟩, ⟨_, _, ⟨k, hk, rfl⟩, ⟨_, _, ⟨o, rfl⟩, rfl, rfl⟩, rfl⟩, rfl⟩ := g2 x hx
      exact ⟨s, k, o, rfl, i64_wf hk⟩
    exact ⟨⟨n, l, k⟩, rfl, i64_wf hk, hl⟩
  exact ⟨l, rfl, hl⟩

end Go.Proofs.YtokifgdmddnpoaaDoorPg

/- Tables that may be, made of any (the document's function). -/
namespace Go.Proofs.YtokifgdmddnpoaaDoorPg
open Go Go.RowKit
set_option linter.unusedSimpArgs false
set_option linter.unusedVariables false

variable {Q : V → List O → Prop}

def poolT : List (List UInt8) := [[116], [117], [118]]
def tName (i : Nat) (t : Tb) : List UInt8 := if nameOk t.n then t.n else poolT.getD i []
def folG (o : List Tb) (i : Nat) (t : Tb) : List Tb × Int := folT o 1 (tName i t) (goodL nameOk t.c t.k) (goodK nameOk t.c t.k) col0
def stepG7 (o : List Tb) (i : Nat) (t : Tb) : List Tb := if (folG o i t).2 = 0 then (folG o i t).1 else o
def goodTN (l : List Tb) : Nat → List Tb
  | 0 => []
  | i + 1 => match l[i]? with
    | some t => stepG7 (goodTN l i) i t
    | none => goodTN l i
def goodT (l : List Tb) : List Tb := goodTN l 3

theorem goodTN_stop {l : List Tb} : ∀ {n : Nat}, l.length ≤ n → goodTN l n = goodTN l l.length
  | n, h => by
    induction n with
    | zero => have : l.length = 0 := by omega
              rw [this]
    | succ n ih =>
      by_cases c : l.length = n + 1
      · rw [c]
      · rw [goodTN, List.getElem?_eq_none (by omega)]
        exact ih (by omega)

theorem goodTN_ok {l : List Tb} (hl : ∀ t ∈ l, TbIn t) : ∀ i, TbsOk nameOk mayS (goodTN l i) ∧ (goodTN l i).length ≤ i
  | 0 => ⟨⟨List.Pairwise.nil, fun t h => (by cases h)⟩, Nat.le_refl 0⟩
  | i + 1 => by
    obtain ⟨h1, h2⟩ := goodTN_ok hl i
    rw [goodTN]
    cases hg : l[i]? with
    | none => exact ⟨h1, by simp only; omega⟩
    | some t =>
      have ht := hl t (List.mem_of_getElem? hg)
      simp only
      unfold stepG7
      by_cases c : (folG (goodTN l i) i t).2 = 0
      · rw [if_pos c]
        unfold folG folT at c ⊢
        rw [if_pos rfl] at c ⊢
        generalize tName i t = n at *
        split at c
        · cases c
        · rename_i c1
          split at c
          · cases c
          · rename_i c2
            split at c
            · cases c
            · rename_i c3
              split at c
              · cases c
              · rename_i c4
                rw [if_neg c1, if_neg c2, if_neg c3, if_neg c4]
                have hn : atT (goodTN l i) n = none := by
                  cases ha : atT (goodTN l i) n with
                  | none => rfl
                  | some j => rw [ha] at c2; simp at c2
                refine ⟨insT_ok h1 ⟨by simpa using c1, by simpa using c3⟩ hn, ?_⟩
                rw [insT_len]; omega
      · rw [if_neg c]; exact ⟨h1, by omega⟩

theorem poolT_get {i : Nat} (h : i < 3) : (poolT.map fun s => [V.str s])[i]? = some [.str (poolT.getD i [])] := by
  obtain rfl | rfl | rfl : i = 0 ∨ i = 1 ∨ i = 2 := by omega
  all_goals rfl

def GtInv (l : List Tb) (f : Bool) (m : Nat) (ws : List V) (H : List O) : Prop :=
  ∃ i : Nat, ws = [.sl 3 (tbs l) f, .sl 3 (tbs (goodTN l i)) false, .sl 1 (poolT.map fun s => [.str s]) true, fI i] ∧ H = [] ∧ i ≤ 3 ∧ i ≤ l.length ∧ m = 3 - i

set_option maxHeartbeats 16000000 in
theorem RGoodT_spec {l : List Tb} {f : Bool} (hl : ∀ t ∈ l, TbIn t) (h : Q (.sl 3 (tbs (goodT l)) false) []) : ACall Tryd.prog 9 0 [.sl 3 (tbs l) f] [] Q := by
  refine by_body Tryd.func9 0 rfl (Nat.le_of_ble_eq_true rfl) ?_
  conv => whnf
  have hlv := tbs_len l
  refine ⟨⟨[0, 3, 4, 5], GtInv l f,
    .frz 5 (.frz 0 rfl (by repeat (first | exact trivial | refine And.intro (Nat.le_refl _) ?_)) (.sub _ _ (.cons (VSub.refl _) (.cons (nils_sl3 false) (VSubs.refl _))) (HSub.refl _) (.go [] rfl 3 (by omega) ⟨0, rfl, rfl, by omega, by omega, rfl⟩))), ?_⟩⟩
  rintro m ws H ⟨i, rfl, rfl, hi, hi2, rfl⟩
  conv => whnf
  refine branch_i (fun c1 => ?_) (fun c1 => ?_) <;> try rw [c1] <;> conv => whnf
  rotate_left
  focus
    have c1' := of_decide_eq_false c1
    have e : goodT l = goodTN l i := by
      have : i = l.length := by omega
      subst this
      exact goodTN_stop hi
    rw [e] at h
    exact ⟨[], rfl, h⟩
  have c1' := of_decide_eq_true c1
  refine branch_i (fun c2 => ?_) (fun c2 => ?_) <;> try rw [c2] <;> conv => whnf
  rotate_left
  focus
    have c2' := of_decide_eq_false c2
    have : i = 3 := by omega
    subst this
    exact ⟨[], rfl, h⟩
  have c2' := of_decide_eq_true c2
  have hlt : i < l.length := by omega
  have hg : l[i]? = some l[i] := List.getElem?_eq_getElem hlt
  have hstep : goodTN l (i + 1) = stepG7 (goodTN l i) i l[i] := by rw [goodTN, hg]
  obtain ⟨hok, hol⟩ := goodTN_ok hl i
  have hin := hl l[i] (List.getElem_mem hlt)
  generalize l[i] = w at *
  refine ⟨_, ⟨by omega, tbs_get hg⟩, ?_⟩
  conv => whnf
  refine .pure (RName_spec ⟨rfl, ?_⟩)
  conv => whnf
  have hnm : tName i w = if nameOk w.n then w.n else poolT.getD i [] := rfl
  cases hn : nameOk w.n <;> rw [hn] at hnm <;> conv => whnf
  focus
    rw [if_neg (by simp)] at hnm
    refine ⟨[V.str (poolT.getD i [])], ⟨by omega, poolT_get (i := i) (by omega)⟩, ?_⟩
    conv => whnf
    generalize poolT.getD i [] = T at hnm ⊢
  rotate_left
  focus
    rw [if_pos rfl] at hnm
    generalize w.n = T at hnm ⊢
  all_goals
    refine ⟨_, ⟨by omega, tbs_get hg⟩, ?_⟩
    conv => whnf
    refine .pure (RGood_spec hin.k ⟨rfl, ?_⟩)
    conv => whnf
    have hf : folG (goodTN l i) i w = folT (goodTN l i) 1 T (goodL nameOk w.c w.k) (goodK nameOk w.c w.k) col0 := by unfold folG; rw [hnm]
    refine .pure (RFollow_spec (k := 1) (t := T) (cs := goodL nameOk w.c w.k) (ks := goodK nameOk w.c w.k) (c := col0) (by omega) (fun x hx => (hok.each x hx).sch) ⟨rfl, ?_⟩)
    rw [← hf]
    unfold stepG7 at hstep
    generalize folG (goodTN l i) i w = r at *
    generalize goodTN l i = o at *
    conv => whnf
    refine branch_i (fun c3 => ?_) (fun c3 => ?_) <;> try rw [c3] <;> conv => whnf
    · rw [if_pos (of_decide_eq_true c3)] at hstep
      refine .go [] rfl (3 - (i + 1)) (by omega) ⟨i + 1, ?_, rfl, by omega, by omega, rfl⟩
      rw [hstep]
      show [V.sl 3 (tbs l) f, .sl 3 (tbs r.1) false, .sl 1 (poolT.map fun s => [.str s]) true, V.int .i64 (IntKind.i64.wrap ((i : Int) + 1))] = _
      rw [wrapE (by omega)]; rfl
    · rw [if_neg (of_decide_eq_false c3)] at hstep
      refine .go [] rfl (3 - (i + 1)) (by omega) ⟨i + 1, ?_, rfl, by omega, by omega, rfl⟩
      rw [hstep]
      show [V.sl 3 (tbs l) f, .sl 3 (tbs o) false, .sl 1 (poolT.map fun s => [.str s]) true, V.int .i64 (IntKind.i64.wrap ((i : Int) + 1))] = _
      rw [wrapE (by omega)]; rfl

/-! ### the law EventTables -/
def nms (l : List (List UInt8)) : List (List V) := l.map fun s => [.str s]
theorem nms_len (l : List (List UInt8)) : (nms l).length = l.length := by simp [nms]
theorem nms_get {l : List (List UInt8)} {i : Nat} {s : List UInt8} (h : l[i]? = some s) : (nms l)[i]? = some [.str s] := by simp [nms, h]

theorem nms_app (a b : List (List UInt8)) : nms (a ++ b) = nms a ++ nms b := by simp [nms]

/-- A name behind names, whether their slice is full or not. -/
theorem app_nm {i j n : Nat} {b f : Bool} {X : List (List UInt8)} {s : List UInt8} {H : List O} {K : V → List O → Prop} (hij : Nat.beq i j = false) (hX : getO H i = .buf (nms X)) (hn : n = X.length) (hs : X.length ≤ 1000000)
    (hK : ∀ H0 : List O, H0 = (match b with | true => H | false => setO H i .dead) → copyH (H0 ++ [.buf (nms (X ++ [s]))]) fun H' => K (.ms 1 H0.length 0 (X.length + 1) false) H') :
    0 + 1 ≤ 1 ∧ aapp 1 16 (.ms 1 i 0 n b) (.ms 1 j 0 1 f) [[.str s]] H K := by
  subst hn
  refine ⟨Nat.le_refl 1, ?_⟩
  unfold aapp
  cases b with
  | false =>
    unfold sameBuf
    simp only [hij]
    unfold aappend
    simp only [show Nat.beq 1 1 = true from rfl, hX, List.drop_zero]
    refine ⟨by rw [nms_len]; rfl, ?_⟩
    have hK := hK _ rfl
    rw [show nms X ++ [[V.str s]] = nms (X ++ [s]) by rw [nms_app]; rfl]
    unfold newBuf
    rw [nms_len, List.length_append, List.length_singleton]
    exact ⟨by omega, hK⟩
  | true =>
    unfold sameBuf
    simp only
    unfold aappend
    simp only [show Nat.beq 1 1 = true from rfl, hX, List.drop_zero]
    refine ⟨by rw [nms_len]; omega, fun h => (by cases h), fun _ => ?_⟩
    have hK := hK _ rfl
    rw [List.take_of_length_le (by rw [nms_len]; exact Nat.le_refl _), show nms X ++ [[V.str s]] = nms (X ++ [s]) by rw [nms_app]; rfl]
    unfold newBuf
    rw [nms_len, List.length_append, List.length_singleton]
    exact ⟨by omega, hK⟩

set_option maxHeartbeats 16000000 in
theorem EventTables_spec {l : List Tb} {n : List UInt8} {f : Bool} (hl : ∀ t ∈ l, TbIn t) : ACall Tryd.prog 3 0 [.sl 3 (tbs l) f, .str n] [] (fun v _ => v = .bool true) := by
  refine by_body Tryd.func3 0 rfl (Nat.le_of_ble_eq_true rfl) ?_
  conv => whnf
  have hlv := tbs_len l
  refine branch_i (fun c0 => ?_) (fun c0 => ?_) <;> try rw [c0] <;> conv => whnf
  focus
    have c0' := of_decide_eq_true c0
    refine ⟨by omega, ?_⟩
    rw [show (10 : Int).toNat = 10 from rfl, tbs_take]
    have hl' : ∀ t ∈ l.take 10, TbIn t := fun t ht => hl t (List.mem_of_mem_take ht)
    have hlen : (l.take 10).length ≤ 10 := by rw [List.length_take]; omega
    generalize l.take 10 = l' at *
    conv => whnf
  rotate_left
  focus
    have hlen : l.length ≤ 10 := by
      have := of_decide_eq_false c0
      omega
    have hl' := hl
    obtain ⟨l', hll⟩ : ∃ l', l' = l := ⟨l, rfl⟩
    rw [← hll] at hl' hlen ⊢
  all_goals
    obtain ⟨hok, hol⟩ := goodTN_ok hl' 3
    refine .pure (RGoodT_spec hl' ⟨rfl, ?_⟩)
    conv => whnf
    change TbsOk nameOk mayS (goodT l') at hok
    change (goodT l').length ≤ 3 at hol
    generalize goodT l' = g at *
    refine .pure (EvName_spec ⟨rfl, ?_⟩)
    conv => whnf
    generalize List.take 40 n = n' at *
    have hg := tbs_len g
    refine ⟨⟨[0, 5, 6, 7], fun m ws H => ∃ (i : Nat) (b b2 : Bool) (X : List (List UInt8)), ws = [.sl 3 (tbs l') b2, .sl 3 (tbs g) false, .ms 1 0 0 (i + 1) b, fI i] ∧ H = [.buf (nms X)] ∧ X.length = i + 1 ∧ i ≤ g.length ∧ m = g.length - i,
      .at g.length ⟨0, true, _, [n'], rfl, rfl, rfl, Nat.zero_le _, rfl⟩, ?_⟩⟩
    rintro m ws H ⟨i, b, b2, X, rfl, rfl, hX, hi, rfl⟩
    conv => whnf
    refine branch_i (fun c1 => ?_) (fun c1 => ?_) <;> try rw [c1] <;> conv => whnf
    · have c1' := of_decide_eq_true c1
      have hlt : i < g.length := by omega
      have hgi : g[i]? = some g[i] := List.getElem?_eq_getElem hlt
      generalize g[i] = w at *
      refine ⟨_, ⟨by omega, tbs_get hgi⟩, ?_⟩
      conv => whnf
      refine app_nm (X := X) rfl rfl hX.symm (by omega) ?_
      rintro H0 rfl
      cases b <;> conv => whnf
      all_goals
        refine .go [2] rfl (g.length - (i + 1)) (by omega) ⟨i + 1, false, b2, X ++ [w.n], ?_, rfl, by rw [List.length_append, List.length_singleton]; omega, by omega, rfl⟩
        rw [← hX]
        show [V.sl 3 (tbs l') b2, .sl 3 (tbs g) false, .ms 1 0 0 (X.length + 1) false, V.int .i64 (IntKind.i64.wrap ((i : Int) + 1))] = _
        rw [wrapE (by omega), hX]; rfl
    have c1' := of_decide_eq_false c1
    have : i = g.length := by omega
    subst this
    have hc : ∀ x ∈ g, x.c.length < 1000000 := fun x hx => by have := (may_bd (hok.each x hx).sch).2.2.2; omega
    refine ⟨⟨[0, 5, 6, 8], fun m ws H => ∃ i : Nat, ws = [.sl 3 (tbs l') b2, .sl 3 (tbs g) false, .ms 1 0 0 (g.length + 1) b, fI i] ∧ H = [.buf (nms X)] ∧ i ≤ g.length + 1 ∧ m = g.length + 1 - i,
      .at (g.length + 1) ⟨0, rfl, rfl, Nat.zero_le _, rfl⟩, ?_⟩⟩
    rintro m ws H ⟨i, rfl, rfl, hi, rfl⟩
    conv => whnf
    refine branch_i (fun d1 => ?_) (fun d1 => ?_) <;> try rw [d1] <;> conv => whnf
    · have d1' := of_decide_eq_true d1
      have hlt : i < X.length := by omega
      have hgi : X[i]? = some X[i] := List.getElem?_eq_getElem hlt
      generalize X[i] = N at *
      refine ⟨by omega, ?_⟩
      conv => whnf
      refine ⟨_, nms_get hgi, ?_⟩
      conv => whnf
      refine .pure (EvFind_spec (by omega) hok.sorted hc ⟨rfl, ?_⟩)
      unfold findR
      have hfl : ∀ C K, findT g N = some (C, K) → C.length < 1000000 := fun C K hf => by
        unfold findT at hf
        cases ha : atT g N with
        | none => rw [ha] at hf; cases hf
        | some j =>
          rw [ha] at hf
          cases hj : g[j]? with
          | none => simp only [Option.bind, hj] at hf; cases hf
          | some x => simp only [Option.bind, hj] at hf; cases hf; exact hc x (List.mem_of_getElem? hj)
      have hend : ∀ ws H, ws = [.sl 3 (tbs l') b2, .sl 3 (tbs g) false, .ms 1 0 0 (g.length + 1) b, V.int .i64 (IntKind.i64.wrap ((i : Int) + 1))] → H = [O.buf (nms X)] → ∃ i' : Nat, ws = [.sl 3 (tbs l') b2, .sl 3 (tbs g) false, .ms 1 0 0 (g.length + 1) b, fI i'] ∧ H = [.buf (nms X)] ∧ i' ≤ g.length + 1 ∧ g.length + 1 - (i + 1) = g.length + 1 - i' := fun ws H h1 h2 =>
        ⟨i + 1, by rw [h1, wrapE (by omega)]; rfl, h2, by omega, rfl⟩
      have bb : ∀ b : Bool, decide (b = b) = true := fun b => decide_eq_true rfl
      cases hfo : findT g N with
      | none =>
        conv => whnf
        refine ⟨by omega, ?_⟩
        conv => whnf
        refine ⟨_, nms_get hgi, ?_⟩
        conv => whnf
        refine .pure (EvRFind_spec (by omega) ⟨rfl, ?_⟩)
        unfold findR
        rw [hfo]
        conv => whnf
        refine .pure (RSame_spec (by decide) ⟨rfl, ?_⟩)
        rw [show sameS [] 0 [] 0 = true by simp [sameS]]
        conv => whnf
        refine .go [0] rfl (g.length + 1 - (i + 1)) (by omega) (hend _ _ rfl rfl)
      | some o =>
        obtain ⟨C, K⟩ := o
        conv => whnf
        refine ⟨by omega, ?_⟩
        conv => whnf
        refine ⟨_, nms_get hgi, ?_⟩
        conv => whnf
        refine .pure (EvRFind_spec (by omega) ⟨rfl, ?_⟩)
        unfold findR
        rw [hfo]
        conv => whnf
        refine .pure (RSame_spec (hfl C K hfo) ⟨rfl, ?_⟩)
        rw [show sameS C K C K = true by simp [sameS]]
        conv => whnf
        refine .go [0] rfl (g.length + 1 - (i + 1)) (by omega) (hend _ _ rfl rfl)
    refine .pure (EvRight_spec (by omega) ⟨rfl, ?_⟩)
    conv => whnf
    refine .pure (EvRRight_spec (by omega) ⟨rfl, ?_⟩)
    conv => whnf
    have bb : ∀ b : Bool, (b == b) = true := fun b => by cases b <;> rfl
    rw [bb]
    conv => whnf
    refine .pure (EvRight_spec (by omega) ⟨rfl, ?_⟩)
    rw [ok_rightT hok (by omega)]
    conv => whnf
    refine .pure (lives06_spec ⟨rfl, ?_⟩)
    conv => whnf
    exact ⟨[], rfl, rfl⟩

end Go.Proofs.YtokifgdmddnpoaaDoorPg

/- slices.Insert of one element. -/
namespace Go.Proofs.YtokifgdmddnpoaaDoorPg
open Go Go.RowKit
set_option linter.unusedSimpArgs false
set_option linter.unusedVariables false

variable {Q : V → List O → Prop}

theorem insT_wrap {n : Int} (h : -9223372036854775808 ≤ n ∧ n ≤ 9223372036854775807) : IntKind.i64.wrap n = n := by rw [IntKind.wrap_i64]; omega

theorem overlapsT_ext {H : List O} {i a n j b m : Nat} {f g : Bool} (hij : i ≠ j) (hi : IsBuf (getO H i)) (hj : IsBuf (getO H j)) : AExt Tryd.prog 93 [.ms 3 i a n f, .ms 3 j b m g] H (.bool false) := ⟨fun I ρ w us hst h => by
  obtain ⟨u0, l0, e0, h0, h⟩ := h.cons_inv
  obtain ⟨u1, l1, e1, h1, h⟩ := h.cons_inv
  have e2 : l1 = [] := List.eq_nil_of_length_eq_zero h.1.symm
  have eu : us = #[u0, u1] := by
    apply Array.ext'
    rw [e0, e1, e2]
  subst eu
  refine ⟨_, ?_, .bool _ _⟩
  rw [run_callFunc_extern Tryd.func93 (by kernel_rfl) (by kernel_rfl) (by kernel_rfl) (e := Extern.SlicesOverlaps.overlaps #[22, 22] #[4]) (by kernel_rfl)]
  rw [overlaps_run Tryd.underlying22 (size := 3) Tryd.sizeOf30 hst (by decide) hij hi hj h0 h1]
  rfl⟩

theorem new_as {z b n B : Nat} {X Y : List (List V)} {H : List O} {K : V → List O → Prop} (hX : X = Y) (hn : Y.length = n) (hB : b ≤ B) (hs : n * B ≤ 70368744177664) (hK : copyH (H ++ [.buf Y]) fun H' => K (.ms z H.length 0 n false) H') : newBuf z b X H K := by
  subst hX
  subst hn
  exact ⟨Nat.le_trans (Nat.mul_le_mul_left _ hB) hs, hK⟩

theorem take_app1 {α : Type} (A B : List α) : List.take A.length (A ++ B) = A := by simp

/-- The rows of an insertion into a new buffer. -/
theorem ins_rows {es Y Y1 Y2 : List (List V)} {x : List V} {i k m : Nat} (hlt : i ≤ es.length) (hk : k = 1) (hm : m = es.length - i) (hYl : Y.length = es.length + 1) (hYt : Y.take i = es.take i)
    (h1 : Y1 = List.take (i + 0) Y ++ List.take k (List.drop 0 [x]) ++ List.drop (i + 0 + k) Y) (h2 : Y2 = List.take (i + 1 + 0) Y1 ++ List.take m (List.drop (i + 0) es) ++ List.drop (i + 1 + 0 + m) Y1) :
    Y2 = es.take i ++ [x] ++ es.drop i := by
  subst hk
  simp only [Nat.add_zero, List.drop_zero, hYt] at h1 h2
  have e1 : List.take 1 [x] = [x] := rfl
  rw [e1] at h1
  have hl : (es.take i ++ [x]).length = i + 1 := by rw [List.length_append, List.length_take, List.length_singleton]; omega
  have e2 : List.take (i + 1) Y1 = es.take i ++ [x] := by rw [h1, ← hl]; exact take_app1 _ _
  have e3 : List.drop (i + 1 + m) Y1 = [] := by
    apply List.drop_eq_nil_of_le
    rw [h1, List.length_append, hl, List.length_drop]; omega
  have e4 : List.take m (List.drop i es) = List.drop i es := List.take_of_length_le (by rw [List.length_drop]; omega)
  rw [h2, e2, e3, e4, List.append_nil]

/-- .. into the room behind it -/
theorem ins_rows2 {es E Y1 Y2 : List (List V)} {x : List V} {i k n m : Nat} (hlt : i < es.length) (hm : 0 < m) (hn : n = es.length - i) (hk : k = 1) (hE : E = es ++ List.replicate m [])
    (h1 : Y1 = List.take (i + 1 + 0) E ++ List.take n (List.drop (i + 0) E) ++ List.drop (i + 1 + 0 + n) E) (h2 : Y2 = List.take (i + 0) Y1 ++ List.take k (List.drop 0 [x]) ++ List.drop (i + 0 + k) Y1) :
    Y2 = es.take i ++ [x] ++ es.drop i ++ List.replicate (m - 1) [] := by
  subst hk
  simp only [Nat.add_zero, List.drop_zero] at h1 h2
  have e1 : List.take 1 [x] = [x] := rfl
  rw [e1] at h2
  have d1 : List.drop i E = es.drop i ++ List.replicate m [] := by rw [hE, List.drop_append_of_le_length (by omega)]
  have t1 : List.take n (List.drop i E) = es.drop i := by
    rw [d1, show n = (es.drop i).length by rw [List.length_drop]; exact hn]; exact take_app1 _ _
  have d2 : List.drop (i + 1 + n) E = List.replicate (m - 1) [] := by
    rw [hE, List.drop_append, List.drop_eq_nil_of_le (by omega), List.nil_append, List.drop_replicate]
    congr 1; omega
  rw [t1, d2] at h1
  have l1 : (List.take (i + 1) E).length = i + 1 := by rw [List.length_take, hE, List.length_append, List.length_replicate]; omega
  have t2 : List.take i Y1 = es.take i := by
    rw [h1, List.append_assoc, List.take_append_of_le_length (by omega), List.take_take, show min i (i + 1) = i by omega, hE, List.take_append_of_le_length (by omega)]
  have d3 : List.drop (i + 1) Y1 = es.drop i ++ List.replicate (m - 1) [] := by
    rw [h1, List.append_assoc, List.drop_append_of_le_length (by omega), List.drop_eq_nil_of_le (by omega), List.nil_append]
  rw [h2, t2, d3, ← List.append_assoc]

set_option maxRecDepth 8000 in
set_option maxHeartbeats 16000000 in
theorem InsertT_spec {es : List (List V)} {x : List V} {i : Nat} (hl : es.length ≤ 1000) (hi : i ≤ es.length) (hne : ∀ r ∈ es, r ≠ []) (hx : x ≠ []) (h : Q (.ms 3 0 0 (es.length + 1) false) [.buf (es.take i ++ [x] ++ es.drop i)]) :
    ACall Tryd.prog 75 0 [.ms 3 0 0 es.length false, fI i, .ms 3 1 0 1 true] [.buf es, .buf [x]] Q := by
  refine ACall.ret (by_body Tryd.func75 0 rfl (Nat.le_of_ble_eq_true rfl) ?_)
  conv => whnf
  refine ⟨⟨by omega, by omega⟩, ?_⟩
  conv => whnf
  refine branch_i (fun c1 => ?_) (fun c1 => ?_) <;> try rw [c1] <;> conv => whnf
  · have c1' := of_decide_eq_true c1
    have hin : i = es.length := by omega
    subst hin
    refine ⟨Nat.le_refl 1, ?_⟩
    refine app_gen rfl rfl rfl (Nat.le_trans (Nat.mul_le_mul_right _ (Nat.add_le_add hl (show 1 ≤ 1 by omega))) (show (1000 + 1) * 48 ≤ 70368744177664 by omega)) ?_
    conv => whnf
    refine ⟨[2], rfl, .done [0] rfl ?_⟩
    rw [List.take_length, List.drop_length, List.append_nil] at h
    exact h
  have c1' := of_decide_eq_false c1
  have hlt : i < es.length := by omega
  refine ⟨⟨by omega, by omega⟩, fun m => ?_⟩
  conv => whnf
  have hw1 : IntKind.i64.wrap ((es.length : Int) + ((1 : Nat) : Int)) = ((es.length + 1 : Nat) : Int) := by rw [insT_wrap (by omega)]; omega
  have hi1 : IntKind.i64.wrap ((i : Int) + 1) = ((i + 1 : Nat) : Int) := by rw [insT_wrap (by omega)]; omega
  have hi2 : IntKind.i64.wrap ((i : Int) + ((1 : Nat) : Int)) = ((i + 1 : Nat) : Int) := hi1
  rw [hw1]
  refine branch_i (fun c2 => ?_) (fun c2 => ?_) <;> try rw [c2] <;> conv => whnf
  · have c2' := of_decide_eq_true c2
    have hm0 : m = 0 := by omega
    subst hm0
    refine ⟨by omega, ?_⟩
    conv => whnf
    have hw3 : IntKind.i64.wrap (IntKind.i64.wrap ((es.length : Int) + ((1 : Nat) : Int)) - (i : Int)) = ((es.length + 1 - i : Nat) : Int) := by rw [hw1, insT_wrap (by omega)]; omega
    rw [hw3]
    refine ⟨⟨by omega, by omega, ?_, ?_, ?_⟩, ?_⟩
    all_goals try rw [show (es ++ List.replicate 0 []) = es from List.append_nil es]
    · omega
    · omega
    · intro r hr
      exact hne r (List.mem_of_mem_take hr)
    obtain ⟨Y, hY⟩ : ∃ Y, Y = List.take i (List.drop 0 es) ++ List.replicate (es.length + 1 - i) ((cx Tryd.f75.ntmps 0).T 30).zero := ⟨_, rfl⟩
    have hYl : Y.length = es.length + 1 := by rw [hY, List.length_append, List.length_take, List.length_replicate, List.drop_zero]; omega
    refine new_as (B := 48) (n := es.length + 1) (Y := Y) hY.symm hYl (by decide) (by omega) ?_
    conv => whnf
    refine ⟨by omega, ?_⟩
    conv => whnf
    have hm1 : min 1 (es.length + 1 - (i : Int).toNat) = 1 := by omega
    refine ⟨by omega, ⟨by omega, ?_⟩, ?_, ?_⟩
    · rw [hm1]
      exact Nat.le_refl 1
    · omega
    obtain ⟨Y1, hY1⟩ : ∃ Y1, Y1 = (List.take ((i : Int).toNat + 0) Y ++ List.take (min 1 (es.length + 1 - (i : Int).toNat)) (List.drop 0 [x]) ++ List.drop ((i : Int).toNat + 0 + min 1 (es.length + 1 - (i : Int).toNat)) Y) := ⟨_, rfl⟩
    rw [← hY1]
    conv => whnf
    refine ⟨[0, 1, 2, 3, 4, 5, 6, 7, 8], by kernel_rfl, by kernel_rfl, ?_⟩
    conv => whnf
    rw [hi2]
    refine ⟨by omega, ?_⟩
    conv => whnf
    refine ⟨by omega, ?_⟩
    conv => whnf
    have hY1l : Y1.length = es.length + 1 := by
      rw [hY1, hm1, List.length_append, List.length_append, List.length_take, List.length_drop, hYl, show (List.take 1 (List.drop 0 [x])).length = 1 from rfl]; omega
    have hm2 : min (es.length - (i : Int).toNat) (es.length + 1 - ((i + 1 : Nat) : Int).toNat) = es.length - i := by omega
    refine ⟨by omega, ⟨by omega, by omega, ?_⟩, by omega, ?_⟩
    · intro r hr
      exact hne r (List.mem_of_mem_drop (List.mem_of_mem_take hr))
    obtain ⟨Y2, hY2⟩ : ∃ Y2, Y2 = (List.take (((i + 1 : Nat) : Int).toNat + 0) Y1 ++ List.take (min (es.length - (i : Int).toNat) (es.length + 1 - ((i + 1 : Nat) : Int).toNat)) (List.drop ((i : Int).toNat + 0) es) ++
          List.drop (((i + 1 : Nat) : Int).toNat + 0 + min (es.length - (i : Int).toNat) (es.length + 1 - ((i + 1 : Nat) : Int).toNat)) Y1) := ⟨_, rfl⟩
    rw [← hY2]
    conv => whnf
    refine ⟨[2], rfl, .done [0] rfl ?_⟩
    show Q (.ms 3 0 0 (es.length + 1) false) [.buf Y2]
    rw [ins_rows hi hm1 hm2 hYl ?_ hY1 hY2]
    · exact h
    rw [hY, List.drop_zero]
    have : i = (List.take i es).length := by rw [List.length_take]; omega
    conv => lhs; arg 1; rw [this]
    exact take_app1 _ _
  · have c2' := of_decide_eq_false c2
    rw [hw1]
    refine ⟨⟨by omega, .inr ⟨by omega, ?_⟩⟩, ?_⟩
    · show 0 + (es.length + 1) ≤ (es ++ List.replicate m []).length
      rw [List.length_append, List.length_replicate]
      omega
    conv => whnf
    rw [hi2]
    refine ⟨by omega, ?_⟩
    conv => whnf
    refine ⟨_, overlapsT_ext (by decide) (by simp [getO, IsBuf]) (by simp [getO, IsBuf]), ?_⟩
    conv => whnf
    refine ⟨[0, 1, 2, 3, 4, 5, 6, 7, 8], by kernel_rfl, by kernel_rfl, ?_⟩
    conv => whnf
    rw [hi2]
    refine ⟨by omega, ?_⟩
    conv => whnf
    refine ⟨by omega, ?_⟩
    conv => whnf
    have hm0 : 0 < m := by omega
    have hm2 : min (((es.length + 1 : Nat) : Int).toNat - (i : Int).toNat) (((es.length + 1 : Nat) : Int).toNat - ((i + 1 : Nat) : Int).toNat) = es.length - i := by omega
    have hEl : (es ++ List.replicate m ([] : List V)).length = es.length + m := by rw [List.length_append, List.length_replicate]
    refine ⟨by omega, ⟨by omega, by rw [hEl]; omega, ?_⟩, by rw [hEl]; omega, ?_⟩
    · intro r hr
      rw [hm2, show ((i : Int).toNat + 0) = i from rfl, List.drop_append_of_le_length (by omega), show es.length - i = (es.drop i).length by rw [List.length_drop], take_app1] at hr
      exact hne r (List.mem_of_mem_drop hr)
    obtain ⟨Y1, hY1⟩ : ∃ Y1, Y1 = (List.take (((i + 1 : Nat) : Int).toNat + 0) (es ++ List.replicate m ([] : List V)) ++ List.take (min (((es.length + 1 : Nat) : Int).toNat - (i : Int).toNat) (((es.length + 1 : Nat) : Int).toNat - ((i + 1 : Nat) : Int).toNat)) (List.drop ((i : Int).toNat + 0) (es ++ List.replicate m ([] : List V))) ++
          List.drop (((i + 1 : Nat) : Int).toNat + 0 + min (((es.length + 1 : Nat) : Int).toNat - (i : Int).toNat) (((es.length + 1 : Nat) : Int).toNat - ((i + 1 : Nat) : Int).toNat)) (es ++ List.replicate m ([] : List V))) := ⟨_, rfl⟩
    rw [← hY1]
    conv => whnf
    refine ⟨by omega, ?_⟩
    conv => whnf
    have hm3 : min 1 (((es.length + 1 : Nat) : Int).toNat - (i : Int).toNat) = 1 := by omega
    have hY1l : Y1.length = es.length + m := by
      rw [hY1, hm2, List.length_append, List.length_append, List.length_take, List.length_drop, List.length_take, List.length_drop, hEl]; omega
    refine ⟨by omega, ⟨by omega, by rw [hm3]; exact Nat.le_refl 1⟩, by rw [hY1l]; omega, ?_⟩
    obtain ⟨Y2, hY2⟩ : ∃ Y2, Y2 = (List.take ((i : Int).toNat + 0) Y1 ++ List.take (min 1 (((es.length + 1 : Nat) : Int).toNat - (i : Int).toNat)) (List.drop 0 [x]) ++ List.drop ((i : Int).toNat + 0 + min 1 (((es.length + 1 : Nat) : Int).toNat - (i : Int).toNat)) Y1) := ⟨_, rfl⟩
    rw [← hY2]
    have hr := ins_rows2 hlt hm0 hm2 hm3 rfl hY1 hY2
    conv => whnf
    refine ⟨[0], rfl, ?_⟩
    conv => whnf
    show ARet 0 Q (.ms 3 0 0 (es.length + 1) false) [.bufc Y2]
    have hzl : (es.take i ++ [x] ++ es.drop i).length = es.length + 1 := by
      rw [List.length_append, List.length_append, List.length_take, List.length_drop, List.length_singleton]; omega
    have hYt : Y2.take (es.length + 1) = es.take i ++ [x] ++ es.drop i := by
      rw [hr, ← hzl]; exact take_app1 _ _
    refine .sub _ _ (.refl _) (.cons (.bufc Y2 (es.length + 1) ?_ ?_) (HSub.refl _)) (.done [0] rfl ?_)
    · intro r hr
      rw [hYt] at hr
      simp only [List.mem_append, List.mem_singleton] at hr
      rcases hr with (hr | hr) | hr
      · exact hne r (List.mem_of_mem_take hr)
      · rw [hr]; exact hx
      · exact hne r (List.mem_of_mem_drop hr)
    · intro h0
      rw [h0] at hYt
      have := congrArg List.length hYt
      rw [hzl] at this
      simp at this
    · show Q (.ms 3 0 0 (es.length + 1) false) [.buf (Y2.take (es.length + 1))]
      rw [hYt]
      exact h

end Go.Proofs.YtokifgdmddnpoaaDoorPg

/- Tables that follow a change: clone, create. -/
namespace Go.Proofs.YtokifgdmddnpoaaDoorPg
open Go Go.RowKit
set_option linter.unusedSimpArgs false
set_option linter.unusedVariables false

variable {Q : V → List O → Prop}

theorem CloneF_spec {l : List Col} {keys : Int} (hl : l.length < 1000000) (h : Q (sch l keys) []) : ACall Tryd.prog 29 0 [sch l keys] [] Q := by
  refine ACall.ret (Clone_spec hl (.frz 0 rfl (by repeat (first | exact trivial | refine And.intro (Nat.le_of_eq (by rw [cols_len, Nat.zero_add])) ?_)) (.done [] rfl ?_)))
  show Q (.agg [.sl 3 (List.take l.length (cols l)) false, fI keys]) []
  rw [List.take_of_length_le (by rw [cols_len]; exact Nat.le_refl _)]
  exact h

theorem app_tb {i j n : Nat} {f : Bool} {X : List Tb} {w : Tb} {H : List O} {K : V → List O → Prop} (hij : Nat.beq i j = false) (hX : getO H i = .buf (tbs X)) (hn : n = X.length) (hs : X.length ≤ 1000000)
    (hK : copyH (setO H i .dead ++ [.buf (tbs (X ++ [w]))]) fun H' => K (.ms 3 (setO H i .dead).length 0 (X ++ [w]).length false) H') :
    0 + 1 ≤ 1 ∧ aapp 3 48 (.ms 3 i 0 n false) (.ms 3 j 0 1 f) [tbC w] H K := by
  subst hn
  refine ⟨Nat.le_refl 1, ?_⟩
  unfold aapp sameBuf
  simp only [hij]
  unfold aappend
  simp only [show Nat.beq 3 3 = true from rfl, hX, List.drop_zero]
  refine ⟨by rw [tbs_len]; rfl, ?_⟩
  rw [show tbs X ++ [tbC w] = tbs (X ++ [w]) by rw [tbs_app]; rfl]
  unfold newBuf
  rw [tbs_len]
  exact ⟨by rw [List.length_append, List.length_singleton]; omega, hK⟩

set_option maxHeartbeats 4000000 in
theorem TClone_spec {l : List Tb} (hl : l.length ≤ 64) (hc : ∀ x ∈ l, x.c.length < 1000000) (h : Q (.ms 3 0 0 l.length false) [.buf (tbs l)]) : ACall Tryd.prog 50 0 [.sl 3 (tbs l) false] [] Q := by
  refine ACall.ret (by_body Tryd.func50 0 rfl (Nat.le_of_ble_eq_true rfl) ?_)
  conv => whnf
  have hlv := tbs_len l
  refine ⟨⟨[3, 6, 7, 8], fun m ws H => ∃ i : Nat, ws = [.ms 3 0 0 i false, .sl 3 (tbs l) false, fI (tbs l).length, fI i] ∧ H = [.buf (tbs (l.take i))] ∧ i ≤ l.length ∧ m = l.length - i, ?_, ?_⟩⟩
  · refine .frz (l.length + 1) (.adopt (.sub _ _ (.cons (VSub.ms0 3 0 0 false) (VSubs.refl _)) (HSub.refl _) (.go [0] rfl l.length (by omega) ⟨0, rfl, rfl, by omega, rfl⟩)))
  rintro m ws H ⟨i, rfl, rfl, hi, rfl⟩
  conv => whnf
  refine branch_i (fun c1 => ?_) (fun c1 => ?_) <;> try rw [c1] <;> conv => whnf
  rotate_left
  focus
    have c1' := of_decide_eq_false c1
    have : i = l.length := by omega
    subst this
    rw [List.take_length]
    exact ⟨[0], rfl, .done [0] rfl h⟩
  have c1' := of_decide_eq_true c1
  have hlt : i < l.length := by omega
  have hg : l[i]? = some l[i] := List.getElem?_eq_getElem hlt
  have hcw := hc l[i] (List.getElem_mem hlt)
  generalize l[i] = w at *
  refine ⟨_, ⟨by omega, tbs_get hg⟩, ?_⟩
  conv => whnf
  refine ⟨List.range 10, by kernel_rfl, by kernel_rfl, ?_⟩
  conv => whnf
  refine .pure (CloneF_spec (l := w.c) (keys := w.k) hcw ⟨rfl, ?_⟩)
  repeat (conv => whnf
          refine ⟨rfl, ?_⟩)
  conv => whnf
  have hsn : l.take (i + 1) = l.take i ++ [w] := by rw [List.take_add_one, hg]; rfl
  refine app_tb (X := l.take i) (w := w) rfl rfl (by rw [List.length_take]; omega) (by rw [List.length_take]; omega) ?_
  rw [← hsn]
  have hln : (l.take (i + 1)).length = i + 1 := by rw [List.length_take]; omega
  rw [hln]
  conv => whnf
  refine .go [3] rfl (l.length - (i + 1)) (by omega) ⟨i + 1, ?_, rfl, by omega, rfl⟩
  show [V.ms 3 0 0 (i + 1) false, .sl 3 (tbs l) false, fI (tbs l).length, V.int .i64 (IntKind.i64.wrap ((i : Int) + 1))] = _
  rw [wrapE (by omega)]; rfl

theorem tbs_ins (l : List Tb) (t : Tb) : (tbs l).take (posT l t.n) ++ [tbC t] ++ (tbs l).drop (posT l t.n) = tbs (insT l t) := by
  unfold insT tbs
  simp [List.map_take, List.map_drop]

theorem tbs_ne {l : List Tb} : ∀ r ∈ tbs l, r ≠ [] := by
  intro r hr
  unfold tbs at hr
  obtain ⟨w, _, rfl⟩ := List.mem_map.1 hr
  exact List.cons_ne_nil _ _

/-- what creating a table comes to -/
def creE (l : List Tb) (t : List UInt8) (cs : List Col) (ks : Int) : List Tb × Int :=
  if nameOk t = false then ([], 6) else if (atT l t).isSome then ([], 8) else if mayS cs ks = false then ([], 1) else if 64 ≤ l.length then ([], 13) else (insT l ⟨t, cs, ks⟩, 0)

set_option maxHeartbeats 16000000 in
theorem Create_spec {l : List Tb} {c : Chg} (hl : l.length ≤ 64) (hc : ∀ x ∈ l, x.c.length < 1000000) (h : Q (folR (creE l c.t c.c c.ks)) []) :
    ACall Tryd.prog 48 0 [.sl 3 (tbs l) false, fI (posT l c.t), .bool (atT l c.t).isSome, chA c] [] Q := by
  refine ACall.ret (by_body Tryd.func48 0 rfl (Nat.le_of_ble_eq_true rfl) ?_)
  conv => whnf
  have hlv := tbs_len l
  have hp := posT_le l c.t
  unfold creE at h
  refine .pure (Name_spec ⟨rfl, ?_⟩)
  conv => whnf
  cases hn : nameOk c.t <;> rw [hn] at h <;> conv => whnf
  · exact ⟨[], rfl, .sub _ _ (err_fol _) (HSub.refl _) (.done [] rfl h)⟩
  rw [if_neg (by simp)] at h
  cases ha : (atT l c.t).isSome <;> rw [ha] at h <;> conv => whnf
  rotate_left
  · exact ⟨[], rfl, .sub _ _ (err_fol _) (HSub.refl _) (.done [] rfl h)⟩
  rw [if_neg (by simp)] at h
  refine .pure (May_any (l := c.c) (keys := c.ks) ⟨rfl, ?_⟩)
  conv => whnf
  cases hm : mayS c.c c.ks <;> rw [hm] at h <;> conv => whnf
  · exact ⟨[], rfl, .sub _ _ (err_fol _) (HSub.refl _) (.done [] rfl h)⟩
  rw [if_neg (by simp)] at h
  refine branch_i (fun c1 => ?_) (fun c1 => ?_) <;> try rw [c1] <;> conv => whnf
  · have c1' := of_decide_eq_true c1
    rw [if_pos (by omega)] at h
    exact ⟨[], rfl, .sub _ _ (err_fol _) (HSub.refl _) (.done [] rfl h)⟩
  have c1' := of_decide_eq_false c1
  rw [if_neg (by omega)] at h
  have hb := may_bd hm
  refine ⟨[0, 2, 3, 4, 5, 6, 1, 7, 8, 9, 10, 11, 12], by kernel_rfl, by kernel_rfl, ?_⟩
  conv => whnf
  refine .call [] 0 ⟨rfl, rfl, rfl⟩ (TClone_spec hl hc ?_)
  repeat (conv => whnf
          refine ⟨rfl, ?_⟩)
  conv => whnf
  refine .pure (CloneF_spec (l := c.c) (keys := c.ks) (by omega) ⟨rfl, ?_⟩)
  repeat (conv => whnf
          refine ⟨rfl, ?_⟩)
  conv => whnf
  refine .call [1, 2] 2 ⟨rfl, rfl, rfl⟩ (ACall.stay 2 rfl ?_)
  show ACall Tryd.prog 75 0 [.ms 3 0 0 l.length false, fI (posT l c.t), .ms 3 1 0 1 true] [.buf (tbs l), .buf [tbC ⟨c.t, c.c, c.ks⟩]] _
  rw [← hlv]
  refine InsertT_spec (by omega) (by omega) tbs_ne (List.cons_ne_nil _ _) ?_
  have hti := tbs_ins l ⟨c.t, c.c, c.ks⟩
  rw [show List.take (posT l c.t) (tbs l) ++ [tbC ⟨c.t, c.c, c.ks⟩] ++ List.drop (posT l c.t) (tbs l) = _ from hti]
  repeat (conv => whnf
          refine ⟨rfl, ?_⟩)
  conv => whnf
  refine fol_ret (j := 3) (L := insT l ⟨c.t, c.c, c.ks⟩) rfl (by rw [insT_len, tbs_len]) (show 3 < 4 by decide) h

/-- Follow, where a table is created. -/
theorem Follow1_spec {l : List Tb} {c : Chg} (hl : l.length ≤ 64) (hs : SortedT l) (hk : c.k = 1) (hc : ∀ x ∈ l, x.c.length < 1000000) (h : Q (folR (creE l c.t c.c c.ks)) []) :
    ACall Tryd.prog 24 0 [.sl 3 (tbs l) false, chA c] [] Q := by
  refine by_body Tryd.func24 0 rfl (Nat.le_of_ble_eq_true rfl) ?_
  conv => whnf
  refine .pure (evat_spec (by omega) hs ⟨rfl, ?_⟩)
  conv => whnf
  rw [decide_eq_true hk]
  conv => whnf
  refine .pure (Create_spec hl hc ⟨rfl, ?_⟩)
  unfold folR
  conv => whnf
  exact ⟨[], rfl, h⟩

end Go.Proofs.YtokifgdmddnpoaaDoorPg

/- The law EventMany. -/
namespace Go.Proofs.YtokifgdmddnpoaaDoorPg
open Go Go.RowKit
set_option linter.unusedSimpArgs false
set_option linter.unusedVariables false

variable {Q : V → List O → Prop}

def idCol : Col := ⟨[105, 100], 2, false⟩
/-- the name of the i-th table -/
def nmI (i : Nat) : List UInt8 := [116, UInt8.ofNat (48 + i / 10), UInt8.ofNat (48 + i % 10)]

theorem nmI_ok : ∀ i < 100, nameOk (nmI i) = true := by decide +kernel
theorem nmI_ne : ∀ i < 100, ∀ j < i, nmI j ≠ nmI i := by decide +kernel
theorem idCol_may : mayS [idCol] 1 = true := by decide +kernel

theorem many_n {v : Int} (h : 0 ≤ v) : ∃ M : Nat, 60 ≤ M ∧ M ≤ 70 ∧ IntKind.i64.wrap (60 + v.tmod 11) = (M : Int) := by
  have e : v.tmod 11 = v % 11 := Int.tmod_eq_emod_of_nonneg h
  refine ⟨(60 + v % 11).toNat, by omega, by omega, ?_⟩
  rw [e, wrapE (by omega)]; omega

/-- The tables so far: names of smaller numbers. -/
structure ManyAt (T : List Tb) (i : Nat) : Prop where
  ok : TbsOk nameOk mayS T
  len : T.length = min i 64
  names : ∀ t ∈ T, ∃ j < i, t.n = nmI j

theorem dig_ten {i : Nat} (hi : i < 100) : UInt8.ofNat (IntKind.u8.wrap (IntKind.i64.wrap (48 + IntKind.i64.wrap ((i : Int).tdiv 10)))).toNat = UInt8.ofNat (48 + i / 10) := by
  rw [show (i : Int).tdiv 10 = ((i / 10 : Nat) : Int) from rfl, wrapE (n := ((i / 10 : Nat) : Int)) (by omega), wrapE (by omega), IntKind.wrap_u8]
  congr 1; omega
theorem dig_one {i : Nat} (hi : i < 100) : UInt8.ofNat (IntKind.u8.wrap (IntKind.i64.wrap (48 + (i : Int).tmod 10))).toNat = UInt8.ofNat (48 + i % 10) := by
  rw [show (i : Int).tmod 10 = ((i % 10 : Nat) : Int) from rfl, wrapE (by omega), IntKind.wrap_u8]
  congr 1; omega

theorem many_next {T : List Tb} {i : Nat} (h : ManyAt T i) (hi : i < 100) : (i < 64 → creE T (nmI i) [idCol] 1 = (insT T ⟨nmI i, [idCol], 1⟩, 0) ∧ ManyAt (insT T ⟨nmI i, [idCol], 1⟩) (i + 1)) ∧ (64 ≤ i → creE T (nmI i) [idCol] 1 = ([], 13) ∧ ManyAt T (i + 1)) := by
  have hl := h.len
  have hn : atT T (nmI i) = none := by
    cases ha : atT T (nmI i) with
    | none => rfl
    | some j =>
      obtain ⟨t, ht, htn, _⟩ := atT_get ha
      obtain ⟨k, hk, hkn⟩ := h.names t (List.mem_of_getElem? ht)
      exact absurd (hkn.symm.trans htn) (nmI_ne i hi k hk)
  unfold creE
  rw [nmI_ok i hi, hn, idCol_may, if_neg (by simp), if_neg (by simp), if_neg (by simp)]
  refine ⟨fun h64 => ?_, fun h64 => ?_⟩
  · rw [if_neg (by omega)]
    refine ⟨rfl, insT_ok h.ok ⟨nmI_ok i hi, idCol_may⟩ hn, by rw [insT_len]; omega, fun t ht => ?_⟩
    unfold insT at ht
    rcases List.mem_append.1 ht with ht | ht
    · obtain ⟨j, hj, e⟩ := h.names t (List.mem_of_mem_take ht); exact ⟨j, by omega, e⟩
    · rcases List.mem_cons.1 ht with rfl | ht
      · exact ⟨i, by omega, rfl⟩
      · obtain ⟨j, hj, e⟩ := h.names t (List.mem_of_mem_drop ht); exact ⟨j, by omega, e⟩
  · rw [if_pos (by omega)]
    exact ⟨rfl, h.ok, by omega, fun t ht => by obtain ⟨j, hj, e⟩ := h.names t ht; exact ⟨j, by omega, e⟩⟩

set_option maxHeartbeats 16000000 in
theorem EventMany_spec {n : Int} (hn : I64 n) : ACall Tryd.prog 8 0 [.int .i64 n] [] (fun v _ => v = .bool true) := by
  refine by_body Tryd.func8 0 rfl (Nat.le_of_ble_eq_true rfl) ?_
  conv => whnf
  refine branch_i (fun c0 => ?_) (fun c0 => ?_) <;> try rw [c0] <;> conv => whnf
  focus
    have c0' := of_decide_eq_true c0
    obtain ⟨M, hM1, hM2, hM⟩ := many_n (v := IntKind.i64.wrap (0 - IntKind.i64.wrap (n + 1))) (by have := hn.1; have := hn.2; rw [wrapE (n := n + 1) (by omega), wrapE (by omega)]; omega)
  rotate_left
  focus
    have c0' := of_decide_eq_false c0
    obtain ⟨M, hM1, hM2, hM⟩ := many_n (v := n) (by omega)
  all_goals
    refine ⟨by decide, ?_⟩
    conv => whnf
    refine ⟨⟨[0, 3, 4, 5], fun m ws H => ∃ (i : Nat) (T : List Tb), ws = [fI M, .ptr 0 0, .sl 3 (tbs T) false, fI i] ∧ H = [.cells [.sl 3 (cols [idCol]) false, fI 1]] ∧ ManyAt T i ∧ i ≤ M ∧ m = M - i, ?_, ?_⟩⟩
    · refine .frz (M + 1) (.frz 0 rfl (by repeat (first | exact trivial | refine And.intro (Nat.le_refl _) ?_)) (.sub _ _ (.cons (.refl _) (.cons (.refl _) (.cons (nils_sl3 false) (VSubs.refl _)))) (.cons (.refl _) (.cons (.cells (.cons (VSub.room _ _ _) (VSubs.refl _))) (HSub.refl _))) (.go [1] rfl M (by omega) ⟨0, [], ?_, rfl, ⟨⟨List.Pairwise.nil, fun t h => (by cases h)⟩, rfl, fun t h => (by cases h)⟩, Nat.zero_le _, rfl⟩)))
      show [V.int .i64 (IntKind.i64.wrap (60 + _)), .ptr 0 0, .sl 3 [] false, fI 0] = _
      rw [hM]; rfl
    rintro m ws H ⟨i, T, rfl, rfl, hT, hi, rfl⟩
    conv => whnf
    refine branch_i (fun c1 => ?_) (fun c1 => ?_) <;> try rw [c1] <;> conv => whnf
    · have c1' := of_decide_eq_true c1
      refine ⟨by decide, ?_⟩
      conv => whnf
      refine ⟨by decide, ?_⟩
      conv => whnf
      refine ⟨Nat.le_refl 2, _, rfl, ?_⟩
      rw [dig_ten (by omega), dig_one (by omega)]
      refine ⟨(show (1 : Int) + 2 ≤ 9223372036854775807 by decide), ?_⟩
      conv => whnf
      refine .pure (Follow1_spec (l := T) (c := ⟨1, nmI i, [idCol], 1, col0⟩) (by have := hT.len; omega) hT.ok.sorted rfl (fun x hx => by have := (may_bd (hT.ok.each x hx).sch).2.2.2; omega) ⟨rfl, ?_⟩)
      obtain ⟨m1, m2⟩ := many_next hT (by omega)
      change putE _ _ (folR (creE T (nmI i) [idCol] 1)) _ _
      rcases Nat.lt_or_ge i 64 with h64 | h64
      · obtain ⟨e1, e2⟩ := m1 h64
        rw [e1]
        conv => whnf
        rw [decide_eq_true (show (i : Int) < 64 by omega)]
        conv => whnf
        rw [decide_eq_false (show ¬ (64 : Int) ≤ (i : Int) by omega)]
        conv => whnf
        refine .go [0] rfl (M - (i + 1)) (by omega) ⟨i + 1, insT T ⟨nmI i, [idCol], 1⟩, ?_, rfl, e2, by omega, rfl⟩
        show [fI M, .ptr 0 0, .sl 3 (tbs (insT T ⟨nmI i, [idCol], 1⟩)) false, V.int .i64 (IntKind.i64.wrap ((i : Int) + 1))] = _
        rw [wrapE (by omega)]; rfl
      · obtain ⟨e1, e2⟩ := m2 h64
        rw [e1]
        conv => whnf
        rw [decide_eq_false (show ¬ (i : Int) < 64 by omega)]
        conv => whnf
        rw [decide_eq_true (show (64 : Int) ≤ (i : Int) by omega)]
        conv => whnf
        refine .go [0] rfl (M - (i + 1)) (by omega) ⟨i + 1, T, ?_, rfl, e2, by omega, rfl⟩
        show [fI M, .ptr 0 0, .sl 3 (tbs T) false, V.int .i64 (IntKind.i64.wrap ((i : Int) + 1))] = _
        rw [wrapE (by omega)]; rfl
    · have c1' := of_decide_eq_false c1
      have : i = M := by omega
      subst this
      have hl := hT.len
      have htl := tbs_len T
      refine branch_i (fun c2 => ?_) (fun c2 => ?_)
      rotate_left
      · have c2' := of_decide_eq_false c2
        exact absurd (show ((tbs T).length : Int) = (if (64 : Int) < (i : Int) then 64 else (i : Int)) by split <;> omega) c2'
      rw [c2]
      conv => whnf
      refine .pure (EvRight_spec (by omega) ⟨rfl, ?_⟩)
      rw [ok_rightT hT.ok (by omega)]
      conv => whnf
      refine .pure (lives06_spec ⟨rfl, ?_⟩)
      conv => whnf
      exact ⟨[], rfl, rfl⟩

end Go.Proofs.YtokifgdmddnpoaaDoorPg
