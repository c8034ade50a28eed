/- Own texts, laid together: Pg06DEv6, Pg06DEvIn, Pg06DEv7, Pg06DInsT, Pg06DEv12, Pg06DEv14, Pg06DEv8, Pg06DValC, Pg06DValD, Pg06DValE. -/
import Derived.Test.YtokifgdmddnpoaaDoorPgM19
import Derived.Test.YtokifgdmddnpoaaDoorPgM18
import Derived.Test.YtokifgdmddnpoaaDoorPgM14
import Derived.Test.YtokifgdmddnpoaaDoorPgM13
/- Events: the example; the law EventSame. -/
namespace Go.Proofs.YtokifgdmddnpoaaDoorPg
open Go Go.RowKit
set_option linter.unusedSimpArgs false
set_option linter.unusedVariables false

variable {Q : V → List O → Prop}

theorem sorted_nil : SortedT [] := List.Pairwise.nil

set_option maxHeartbeats 8000000 in
theorem Write7_spec (h : Q (.tup [.sl 1 (bs [7, 5]) false, fI 0]) []) : ACall Tryd.prog 34 0 [evA ev7, .sl 3 [] false] [] Q := by
  refine ACall.ret (by_body Tryd.func34 0 rfl (Nat.le_of_ble_eq_true rfl) ?_)
  conv => whnf
  refine .pure (May7_spec ⟨rfl, ?_⟩)
  conv => whnf
  refine .pure (EvFind_spec (l := []) (by simp) sorted_nil (by simp) ⟨rfl, ?_⟩)
  conv => whnf
  refine .pure (rowed_spec ⟨rfl, ?_⟩)
  conv => whnf
  refine .frz 1 rfl rfl (by repeat (first | exact trivial | refine And.intro (Nat.le_refl _) ?_)) (.call [] 0 ⟨rfl, rfl, rfl⟩ (WNumber_spec (l := [7]) (f := true) (n := 5) (by decide) (by decide) (by simp) ?_))
  conv => whnf
  refine ⟨[3], rfl, .frz 0 rfl (by repeat (first | exact trivial | refine And.intro (Nat.le_refl _) ?_)) (.done [] rfl ?_)⟩
  exact h

set_option maxHeartbeats 8000000 in
theorem lives06_spec (h : Q (.bool true) []) : ACall Tryd.prog 16 0 [] [] Q := by
  refine by_body Tryd.func16 0 rfl (Nat.le_of_ble_eq_true rfl) ?_
  conv => whnf
  refine .pure (ACall.args (.cons ev7_sub (.cons (nils_sl3 false) (VSubs.refl _))) (Write7_spec ⟨rfl, ?_⟩))
  conv => whnf
  refine ⟨_, ⟨by decide, rfl⟩, ?_⟩
  conv => whnf
  refine ⟨_, ⟨by decide, rfl⟩, ?_⟩
  conv => whnf
  refine .pure (ACall.args (.cons (nils_sl3 false) (VSubs.refl _)) (EvRight_spec (l := []) (f := false) (by simp) ⟨rfl, ?_⟩))
  conv => whnf
  exact ⟨[], rfl, h⟩

structure EvtB (e : Evt) : Prop where
  b : e.b.length ≤ 9223372036854775807
  a : e.a.length ≤ 9223372036854775807

set_option maxHeartbeats 16000000 in
theorem EventSame_spec {a b : Evt} (ha : EvtB a) (hb : EvtB b) : ACall Tryd.prog 5 0 [evA a, evA b] [] (fun v _ => v = .bool true) := by
  refine by_body Tryd.func5 0 rfl (Nat.le_of_ble_eq_true rfl) ?_
  conv => whnf
  refine .pure (EvCut_spec (c := a.ch) ⟨rfl, ?_⟩)
  conv => whnf
  refine .pure (EvCut_spec (c := b.ch) ⟨rfl, ?_⟩)
  conv => whnf
  have bb : ∀ b : Bool, (b == b) = true := fun b => by cases b <;> rfl
  have h1 := ha.b
  have h2 := ha.a
  have h3 := hb.b
  have h4 := hb.a
  have hca := cutL_len a.ch.c
  have hcb := cutL_len b.ch.c
  have ea : ∀ K : List V → Prop, K (evC { a with ch := cutCh a.ch }) → K (evC { a with ch := cutCh a.ch }) := fun _ h => h
  have hsym : decide ({ b with ch := cutCh b.ch } = { a with ch := cutCh a.ch }) = decide ({ a with ch := cutCh a.ch } = { b with ch := cutCh b.ch }) := by
    by_cases e : { a with ch := cutCh a.ch } = { b with ch := cutCh b.ch }
    · rw [decide_eq_true e, decide_eq_true e.symm]
    · rw [decide_eq_false e, decide_eq_false (fun x => e x.symm)]
  refine ⟨[0, 1, 3, 4, 2, 5, 6, 7, 8, 9, 10, 11, 12, 13, 14, 16, 17, 15, 18, 19, 20, 21, 22, 23, 24], by kernel_rfl, by kernel_rfl, ?_⟩
  conv => whnf
  refine .pure (EvSame_spec (a := { a with ch := cutCh a.ch }) (b := { b with ch := cutCh b.ch }) (by show a.b.length < _; omega) (by show a.a.length < _; omega) (by show (cutL a.ch.c).length < _; omega) ⟨rfl, ?_⟩)
  repeat (conv => whnf
          refine ⟨rfl, ?_⟩)
  conv => whnf
  refine .pure (EvRSame_spec (a := { a with ch := cutCh a.ch }) (b := { b with ch := cutCh b.ch }) (by show a.b.length < _; omega) (by show a.a.length < _; omega) (by show (cutL a.ch.c).length < _; omega) ⟨rfl, ?_⟩)
  repeat (conv => whnf
          refine ⟨rfl, ?_⟩)
  conv => whnf
  rw [bb]
  conv => whnf
  refine .pure (EvSame_spec (a := { a with ch := cutCh a.ch }) (b := { a with ch := cutCh a.ch }) (by show a.b.length < _; omega) (by show a.a.length < _; omega) (by show (cutL a.ch.c).length < _; omega) ⟨rfl, ?_⟩)
  rw [decide_eq_true rfl]
  repeat (conv => whnf
          refine ⟨rfl, ?_⟩)
  conv => whnf
  refine .pure (EvSame_spec (a := { b with ch := cutCh b.ch }) (b := { a with ch := cutCh a.ch }) (by show b.b.length < _; omega) (by show b.a.length < _; omega) (by show (cutL b.ch.c).length < _; omega) ⟨rfl, ?_⟩)
  repeat (conv => whnf
          refine ⟨rfl, ?_⟩)
  conv => whnf
  refine .pure (EvSame_spec (a := { a with ch := cutCh a.ch }) (b := { b with ch := cutCh b.ch }) (by show a.b.length < _; omega) (by show a.a.length < _; omega) (by show (cutL a.ch.c).length < _; omega) ⟨rfl, ?_⟩)
  rw [hsym]
  repeat (conv => whnf
          refine ⟨rfl, ?_⟩)
  conv => whnf
  rw [bb]
  repeat (conv => whnf
          refine ⟨rfl, ?_⟩)
  conv => whnf
  refine .pure (lives06_spec ⟨rfl, ?_⟩)
  repeat (conv => whnf
          refine ⟨rfl, ?_⟩)
  conv => whnf
  exact ⟨[], rfl, rfl⟩

end Go.Proofs.YtokifgdmddnpoaaDoorPg

/- Events and tables as arguments. -/
namespace Go.Proofs.YtokifgdmddnpoaaDoorPg
open Go Go.RowKit
set_option linter.unusedSimpArgs false
set_option linter.unusedVariables false

structure ValIn (v : Val) : Prop where
  k : I64 v.k
  n : I64 v.n
  t : v.t.length ≤ Globs.txt

structure ChgIn (c : Chg) : Prop where
  k : I64 c.k
  ks : I64 c.ks
  col : I64 c.col.k
  c : ∀ x ∈ c.c, I64 x.k

structure EvtIn (e : Evt) : Prop extends EvtB e where
  k : I64 e.k
  n : I64 e.n
  vb : ∀ v ∈ e.b, ValIn v
  va : ∀ v ∈ e.a, ValIn v
  ch : ChgIn e.ch

theorem evals_of : ∀ {es : List (List V)}, (∀ x ∈ es, ∃ (k n : Int) (s : List UInt8), x = [.int .i64 k, .int .i64 n, .str s] ∧ I64 k ∧ I64 n ∧ s.length ≤ Globs.txt) → ∃ l : List Val, es = vals l ∧ ∀ v ∈ l, ValIn v
  | [], _ => ⟨[], rfl, by simp⟩
  | x :: es, h => by
    obtain ⟨k, n, s, rfl, h1, h2, h3⟩ := h x (by simp)
    obtain ⟨l, rfl, hl⟩ := evals_of (es := es) fun y hy => h y (by simp [hy])
    refine ⟨⟨k, n, s⟩ :: l, rfl, fun v hv => ?_⟩
    rcases List.mem_cons.1 hv with rfl | hv
    · exact ⟨h1, h2, h3⟩
    · exact hl v hv

theorem vals_len' (l : List Val) : (vals l).length = l.length := vals_len l

theorem ev_in {vs : List V} (h : Shp tt 8 44 vs) : ∃ e : Evt, argV tt 44 vs = evA e ∧ EvtIn e := by
  obtain ⟨_, _, ⟨k, hk, rfl⟩, ⟨_, _, ⟨n, hn, rfl⟩, ⟨_, _, ⟨t, _, rfl⟩, ⟨_, _, ⟨eb, heb, gb, rfl⟩, ⟨_, _, ⟨ea, hea, ga, rfl⟩, ⟨_, _, hch, rfl, rfl⟩, rfl⟩, rfl⟩, rfl⟩, rfl⟩, rfl⟩ := h
  obtain ⟨_, _, ⟨ck, hck, rfl⟩, ⟨_, _, ⟨ct, _, rfl⟩, ⟨_, _, ⟨_, _, ⟨es, _, g1, rfl⟩, ⟨_, _, ⟨ks, hks, rfl⟩, rfl, rfl⟩, rfl⟩, ⟨_, _, ⟨_, _, ⟨cn, _, rfl⟩, ⟨_, _, ⟨cck, hcck, rfl⟩, ⟨_, _, ⟨o, rfl⟩, rfl, rfl⟩, rfl⟩, rfl⟩, rfl, rfl⟩, rfl⟩, rfl⟩, rfl⟩ := hch
  obtain ⟨l, rfl, hl⟩ := cols_of fun x hx => by
    obtain ⟨_, _, ⟨s, _, rfl⟩, ⟨_, _, ⟨k, hk, rfl⟩, ⟨_, _, ⟨o, rfl⟩, rfl, rfl⟩, rfl⟩, rfl⟩ := g1 x hx
    exact ⟨s, k, o, rfl, i64_wf hk⟩
  obtain ⟨lb, rfl, hlb⟩ := evals_of fun x hx => by
    obtain ⟨_, _, ⟨k, hk, rfl⟩, ⟨_, _, ⟨n, hn, rfl⟩, ⟨_, _, ⟨s, hs, rfl⟩, rfl, rfl⟩, rfl⟩, rfl⟩ := gb x hx
    exact ⟨k, n, s, rfl, i64_wf hk, i64_wf hn, hs⟩
  obtain ⟨la, rfl, hla⟩ := evals_of fun x hx => by
    obtain ⟨_, _, ⟨k, hk, rfl⟩, ⟨_, _, ⟨n, hn, rfl⟩, ⟨_, _, ⟨s, hs, rfl⟩, rfl, rfl⟩, rfl⟩, rfl⟩ := ga x hx
    exact ⟨k, n, s, rfl, i64_wf hk, i64_wf hn, hs⟩
  refine ⟨⟨k, n, t, lb, la, ⟨ck, ct, l, ks, ⟨cn, cck, o⟩⟩⟩, rfl, ⟨⟨?_, ?_⟩, i64_wf hk, i64_wf hn, hlb, hla, ⟨i64_wf hck, i64_wf hks, i64_wf hcck, hl⟩⟩⟩
  · rw [vals_len] at heb; exact Nat.le_trans heb (by decide)
  · rw [vals_len] at hea; exact Nat.le_trans hea (by decide)

structure TbIn (t : Tb) : Prop where
  k : I64 t.k
  c : ∀ x ∈ t.c, I64 x.k

theorem tbs_of : ∀ {es : List (List V)}, (∀ x ∈ es, ∃ t : Tb, x = tbC t ∧ TbIn t) → ∃ l : List Tb, es = tbs l ∧ ∀ t ∈ l, TbIn t
  | [], _ => ⟨[], rfl, by simp⟩
  | x :: es, h => by
    obtain ⟨t, rfl, ht⟩ := h x (by simp)
    obtain ⟨l, rfl, hl⟩ := tbs_of (es := es) fun y hy => h y (by simp [hy])
    refine ⟨t :: l, rfl, fun v hv => ?_⟩
    rcases List.mem_cons.1 hv with rfl | hv
    · exact ht
    · exact hl v hv

theorem tbs_in {vs : List V} (h : Shp tt 8 22 vs) : ∃ l : List Tb, argV tt 22 vs = .sl 3 (tbs l) false ∧ ∀ t ∈ l, TbIn t := by
  obtain ⟨es, _, g1, rfl⟩ := h
  obtain ⟨l, rfl, hl⟩ := tbs_of fun x hx => by
    obtain ⟨_, _, ⟨n, _, rfl⟩, ⟨_, _, ⟨_, _, ⟨es, _, g2, rfl⟩, ⟨_, _, ⟨k, hk, rfl⟩, rfl, rfl⟩, rfl⟩, rfl, rfl⟩, rfl⟩ := g1 x hx
    obtain ⟨l, rfl, hl⟩ := cols_of fun x hx => by
      obtain ⟨_, _, ⟨s, _, rfl⟩, ⟨_, _, ⟨k, hk, rfl⟩, ⟨_, _, ⟨o, rfl⟩, rfl, rfl⟩, rfl⟩, rfl⟩ := g2 x hx
      exact ⟨s, k, o, rfl, i64_wf hk⟩
    exact ⟨⟨n, l, k⟩, rfl, i64_wf hk, hl⟩
  exact ⟨l, rfl, hl⟩

end Go.Proofs.YtokifgdmddnpoaaDoorPg

/- Tables that may be, made of any (the document's function). -/
namespace Go.Proofs.YtokifgdmddnpoaaDoorPg
open Go Go.RowKit
set_option linter.unusedSimpArgs false
set_option linter.unusedVariables false

variable {Q : V → List O → Prop}

def poolT : List (List UInt8) := [[116], [117], [118]]
def tName (i : Nat) (t : Tb) : List UInt8 := if nameOk t.n then t.n else poolT.getD i []
def folG (o : List Tb) (i : Nat) (t : Tb) : List Tb × Int := folT o 1 (tName i t) (goodL nameOk t.c t.k) (goodK nameOk t.c t.k) col0
def stepG7 (o : List Tb) (i : Nat) (t : Tb) : List Tb := if (folG o i t).2 = 0 then (folG o i t).1 else o
def goodTN (l : List Tb) : Nat → List Tb
  | 0 => []
  | i + 1 => match l[i]? with
    | some t => stepG7 (goodTN l i) i t
    | none => goodTN l i
def goodT (l : List Tb) : List Tb := goodTN l 3

theorem goodTN_stop {l : List Tb} : ∀ {n : Nat}, l.length ≤ n → goodTN l n = goodTN l l.length
  | n, h => by
    induction n with
    | zero => have : l.length = 0 := by omega
              rw [this]
    | succ n ih =>
      by_cases c : l.length = n + 1
      · rw [c]
      · rw [goodTN, List.getElem?_eq_none (by omega)]
        exact ih (by omega)

theorem goodTN_ok {l : List Tb} (hl : ∀ t ∈ l, TbIn t) : ∀ i, TbsOk nameOk mayS (goodTN l i) ∧ (goodTN l i).length ≤ i
  | 0 => ⟨⟨List.Pairwise.nil, fun t h => (by cases h)⟩, Nat.le_refl 0⟩
  | i + 1 => by
    obtain ⟨h1, h2⟩ := goodTN_ok hl i
    rw [goodTN]
    cases hg : l[i]? with
    | none => exact ⟨h1, by simp only; omega⟩
    | some t =>
      have ht := hl t (List.mem_of_getElem? hg)
      simp only
      unfold stepG7
      by_cases c : (folG (goodTN l i) i t).2 = 0
      · rw [if_pos c]
        unfold folG folT at c ⊢
        rw [if_pos rfl] at c ⊢
        generalize tName i t = n at *
        split at c
        · cases c
        · rename_i c1
          split at c
          · cases c
          · rename_i c2
            split at c
            · cases c
            · rename_i c3
              split at c
              · cases c
              · rename_i c4
                rw [if_neg c1, if_neg c2, if_neg c3, if_neg c4]
                have hn : atT (goodTN l i) n = none := by
                  cases ha : atT (goodTN l i) n with
                  | none => rfl
                  | some j => rw [ha] at c2; simp at c2
                refine ⟨insT_ok h1 ⟨by simpa using c1, by simpa using c3⟩ hn, ?_⟩
                rw [insT_len]; omega
      · rw [if_neg c]; exact ⟨h1, by omega⟩

theorem poolT_get {i : Nat} (h : i < 3) : (poolT.map fun s => [V.str s])[i]? = some [.str (poolT.getD i [])] := by
  obtain rfl | rfl | rfl : i = 0 ∨ i = 1 ∨ i = 2 := by omega
  all_goals rfl

def GtInv (l : List Tb) (f : Bool) (m : Nat) (ws : List V) (H : List O) : Prop :=
  ∃ i : Nat, ws = [.sl 3 (tbs l) f, .sl 3 (tbs (goodTN l i)) false, .sl 1 (poolT.map fun s => [.str s]) true, fI i] ∧ H = [] ∧ i ≤ 3 ∧ i ≤ l.length ∧ m = 3 - i

set_option maxHeartbeats 16000000 in
theorem RGoodT_spec {l : List Tb} {f : Bool} (hl : ∀ t ∈ l, TbIn t) (h : Q (.sl 3 (tbs (goodT l)) false) []) : ACall Tryd.prog 9 0 [.sl 3 (tbs l) f] [] Q := by
  refine by_body Tryd.func9 0 rfl (Nat.le_of_ble_eq_true rfl) ?_
  conv => whnf
  have hlv := tbs_len l
  refine ⟨⟨[0, 3, 4, 5], GtInv l f,
    .frz 5 (.frz 0 rfl (by repeat (first | exact trivial | refine And.intro (Nat.le_refl _) ?_)) (.sub _ _ (.cons (VSub.refl _) (.cons (nils_sl3 false) (VSubs.refl _))) (HSub.refl _) (.go [] rfl 3 (by omega) ⟨0, rfl, rfl, by omega, by omega, rfl⟩))), ?_⟩⟩
  rintro m ws H ⟨i, rfl, rfl, hi, hi2, rfl⟩
  conv => whnf
  refine branch_i (fun c1 => ?_) (fun c1 => ?_) <;> try rw [c1] <;> conv => whnf
  rotate_left
  focus
    have c1' := of_decide_eq_false c1
    have e : goodT l = goodTN l i := by
      have : i = l.length := by omega
      subst this
      exact goodTN_stop hi
    rw [e] at h
    exact ⟨[], rfl, h⟩
  have c1' := of_decide_eq_true c1
  refine branch_i (fun c2 => ?_) (fun c2 => ?_) <;> try rw [c2] <;> conv => whnf
  rotate_left
  focus
    have c2' := of_decide_eq_false c2
    have : i = 3 := by omega
    subst this
    exact ⟨[], rfl, h⟩
  have c2' := of_decide_eq_true c2
  have hlt : i < l.length := by omega
  have hg : l[i]? = some l[i] := List.getElem?_eq_getElem hlt
  have hstep : goodTN l (i + 1) = stepG7 (goodTN l i) i l[i] := by rw [goodTN, hg]
  obtain ⟨hok, hol⟩ := goodTN_ok hl i
  have hin := hl l[i] (List.getElem_mem hlt)
  generalize l[i] = w at *
  refine ⟨_, ⟨by omega, tbs_get hg⟩, ?_⟩
  conv => whnf
  refine .pure (RName_spec ⟨rfl, ?_⟩)
  conv => whnf
  have hnm : tName i w = if nameOk w.n then w.n else poolT.getD i [] := rfl
  cases hn : nameOk w.n <;> rw [hn] at hnm <;> conv => whnf
  focus
    rw [if_neg (by simp)] at hnm
    refine ⟨[V.str (poolT.getD i [])], ⟨by omega, poolT_get (i := i) (by omega)⟩, ?_⟩
    conv => whnf
    generalize poolT.getD i [] = T at hnm ⊢
  rotate_left
  focus
    rw [if_pos rfl] at hnm
    generalize w.n = T at hnm ⊢
  all_goals
    refine ⟨_, ⟨by omega, tbs_get hg⟩, ?_⟩
    conv => whnf
    refine .pure (RGood_spec hin.k ⟨rfl, ?_⟩)
    conv => whnf
    have hf : folG (goodTN l i) i w = folT (goodTN l i) 1 T (goodL nameOk w.c w.k) (goodK nameOk w.c w.k) col0 := by unfold folG; rw [hnm]
    refine .pure (RFollow_spec (k := 1) (t := T) (cs := goodL nameOk w.c w.k) (ks := goodK nameOk w.c w.k) (c := col0) (by omega) (fun x hx => (hok.each x hx).sch) ⟨rfl, ?_⟩)
    rw [← hf]
    unfold stepG7 at hstep
    generalize folG (goodTN l i) i w = r at *
    generalize goodTN l i = o at *
    conv => whnf
    refine branch_i (fun c3 => ?_) (fun c3 => ?_) <;> try rw [c3] <;> conv => whnf
    · rw [if_pos (of_decide_eq_true c3)] at hstep
      refine .go [] rfl (3 - (i + 1)) (by omega) ⟨i + 1, ?_, rfl, by omega, by omega, rfl⟩
      rw [hstep]
      show [V.sl 3 (tbs l) f, .sl 3 (tbs r.1) false, .sl 1 (poolT.map fun s => [.str s]) true, V.int .i64 (IntKind.i64.wrap ((i : Int) + 1))] = _
      rw [wrapE (by omega)]; rfl
    · rw [if_neg (of_decide_eq_false c3)] at hstep
      refine .go [] rfl (3 - (i + 1)) (by omega) ⟨i + 1, ?_, rfl, by omega, by omega, rfl⟩
      rw [hstep]
      show [V.sl 3 (tbs l) f, .sl 3 (tbs o) false, .sl 1 (poolT.map fun s => [.str s]) true, V.int .i64 (IntKind.i64.wrap ((i : Int) + 1))] = _
      rw [wrapE (by omega)]; rfl

/-! ### the law EventTables -/
def nms (l : List (List UInt8)) : List (List V) := l.map fun s => [.str s]
theorem nms_len (l : List (List UInt8)) : (nms l).length = l.length := by simp [nms]
theorem nms_get {l : List (List UInt8)} {i : Nat} {s : List UInt8} (h : l[i]? = some s) : (nms l)[i]? = some [.str s] := by simp [nms, h]

theorem nms_app (a b : List (List UInt8)) : nms (a ++ b) = nms a ++ nms b := by simp [nms]

/-- A name behind names, whether their slice is full or not. -/
theorem app_nm {i j n : Nat} {b f : Bool} {X : List (List UInt8)} {s : List UInt8} {H : List O} {K : V → List O → Prop} (hij : Nat.beq i j = false) (hX : getO H i = .buf (nms X)) (hn : n = X.length) (hs : X.length ≤ 1000000)
    (hK : ∀ H0 : List O, H0 = (match b with | true => H | false => setO H i .dead) → copyH (H0 ++ [.buf (nms (X ++ [s]))]) fun H' => K (.ms 1 H0.length 0 (X.length + 1) false) H') :
    0 + 1 ≤ 1 ∧ aapp 1 16 (.ms 1 i 0 n b) (.ms 1 j 0 1 f) [[.str s]] H K := by
  subst hn
  refine ⟨Nat.le_refl 1, ?_⟩
  unfold aapp
  cases b with
  | false =>
    unfold sameBuf
    simp only [hij]
    unfold aappend
    simp only [show Nat.beq 1 1 = true from rfl, hX, List.drop_zero]
    refine ⟨by rw [nms_len]; rfl, ?_⟩
    have hK := hK _ rfl
    rw [show nms X ++ [[V.str s]] = nms (X ++ [s]) by rw [nms_app]; rfl]
    unfold newBuf
    rw [nms_len, List.length_append, List.length_singleton]
    exact ⟨by omega, hK⟩
  | true =>
    unfold sameBuf
    simp only
    unfold aappend
    simp only [show Nat.beq 1 1 = true from rfl, hX, List.drop_zero]
    refine ⟨by rw [nms_len]; omega, fun h => (by cases h), fun _ => ?_⟩
    have hK := hK _ rfl
    rw [List.take_of_length_le (by rw [nms_len]; exact Nat.le_refl _), show nms X ++ [[V.str s]] = nms (X ++ [s]) by rw [nms_app]; rfl]
    unfold newBuf
    rw [nms_len, List.length_append, List.length_singleton]
    exact ⟨by omega, hK⟩

set_option maxHeartbeats 16000000 in
theorem EventTables_spec {l : List Tb} {n : List UInt8} {f : Bool} (hl : ∀ t ∈ l, TbIn t) : ACall Tryd.prog 3 0 [.sl 3 (tbs l) f, .str n] [] (fun v _ => v = .bool true) := by
  refine by_body Tryd.func3 0 rfl (Nat.le_of_ble_eq_true rfl) ?_
  conv => whnf
  have hlv := tbs_len l
  refine branch_i (fun c0 => ?_) (fun c0 => ?_) <;> try rw [c0] <;> conv => whnf
  focus
    have c0' := of_decide_eq_true c0
    refine ⟨by omega, ?_⟩
    rw [show (10 : Int).toNat = 10 from rfl, tbs_take]
    have hl' : ∀ t ∈ l.take 10, TbIn t := fun t ht => hl t (List.mem_of_mem_take ht)
    have hlen : (l.take 10).length ≤ 10 := by rw [List.length_take]; omega
    generalize l.take 10 = l' at *
    conv => whnf
  rotate_left
  focus
    have hlen : l.length ≤ 10 := by
      have := of_decide_eq_false c0
      omega
    have hl' := hl
    obtain ⟨l', hll⟩ : ∃ l', l' = l := ⟨l, rfl⟩
    rw [← hll] at hl' hlen ⊢
  all_goals
    obtain ⟨hok, hol⟩ := goodTN_ok hl' 3
    refine .pure (RGoodT_spec hl' ⟨rfl, ?_⟩)
    conv => whnf
    change TbsOk nameOk mayS (goodT l') at hok
    change (goodT l').length ≤ 3 at hol
    generalize goodT l' = g at *
    refine .pure (EvName_spec ⟨rfl, ?_⟩)
    conv => whnf
    generalize List.take 40 n = n' at *
    have hg := tbs_len g
    refine ⟨⟨[0, 5, 6, 7], fun m ws H => ∃ (i : Nat) (b b2 : Bool) (X : List (List UInt8)), ws = [.sl 3 (tbs l') b2, .sl 3 (tbs g) false, .ms 1 0 0 (i + 1) b, fI i] ∧ H = [.buf (nms X)] ∧ X.length = i + 1 ∧ i ≤ g.length ∧ m = g.length - i,
      .at g.length ⟨0, true, _, [n'], rfl, rfl, rfl, Nat.zero_le _, rfl⟩, ?_⟩⟩
    rintro m ws H ⟨i, b, b2, X, rfl, rfl, hX, hi, rfl⟩
    conv => whnf
    refine branch_i (fun c1 => ?_) (fun c1 => ?_) <;> try rw [c1] <;> conv => whnf
    · have c1' := of_decide_eq_true c1
      have hlt : i < g.length := by omega
      have hgi : g[i]? = some g[i] := List.getElem?_eq_getElem hlt
      generalize g[i] = w at *
      refine ⟨_, ⟨by omega, tbs_get hgi⟩, ?_⟩
      conv => whnf
      refine app_nm (X := X) rfl rfl hX.symm (by omega) ?_
      rintro H0 rfl
      cases b <;> conv => whnf
      all_goals
        refine .go [2] rfl (g.length - (i + 1)) (by omega) ⟨i + 1, false, b2, X ++ [w.n], ?_, rfl, by rw [List.length_append, List.length_singleton]; omega, by omega, rfl⟩
        rw [← hX]
        show [V.sl 3 (tbs l') b2, .sl 3 (tbs g) false, .ms 1 0 0 (X.length + 1) false, V.int .i64 (IntKind.i64.wrap ((i : Int) + 1))] = _
        rw [wrapE (by omega), hX]; rfl
    have c1' := of_decide_eq_false c1
    have : i = g.length := by omega
    subst this
    have hc : ∀ x ∈ g, x.c.length < 1000000 := fun x hx => by have := (may_bd (hok.each x hx).sch).2.2.2; omega
    refine ⟨⟨[0, 5, 6, 8], fun m ws H => ∃ i : Nat, ws = [.sl 3 (tbs l') b2, .sl 3 (tbs g) false, .ms 1 0 0 (g.length + 1) b, fI i] ∧ H = [.buf (nms X)] ∧ i ≤ g.length + 1 ∧ m = g.length + 1 - i,
      .at (g.length + 1) ⟨0, rfl, rfl, Nat.zero_le _, rfl⟩, ?_⟩⟩
    rintro m ws H ⟨i, rfl, rfl, hi, rfl⟩
    conv => whnf
    refine branch_i (fun d1 => ?_) (fun d1 => ?_) <;> try rw [d1] <;> conv => whnf
    · have d1' := of_decide_eq_true d1
      have hlt : i < X.length := by omega
      have hgi : X[i]? = some X[i] := List.getElem?_eq_getElem hlt
      generalize X[i] = N at *
      refine ⟨by omega, ?_⟩
      conv => whnf
      refine ⟨_, nms_get hgi, ?_⟩
      conv => whnf
      refine .pure (EvFind_spec (by omega) hok.sorted hc ⟨rfl, ?_⟩)
      unfold findR
      have hfl : ∀ C K, findT g N = some (C, K) → C.length < 1000000 := fun C K hf => by
        unfold findT at hf
        cases ha : atT g N with
        | none => rw [ha] at hf; cases hf
        | some j =>
          rw [ha] at hf
          cases hj : g[j]? with
          | none => simp only [Option.bind, hj] at hf; cases hf
          | some x => simp only [Option.bind, hj] at hf; cases hf; exact hc x (List.mem_of_getElem? hj)
      have hend : ∀ ws H, ws = [.sl 3 (tbs l') b2, .sl 3 (tbs g) false, .ms 1 0 0 (g.length + 1) b, V.int .i64 (IntKind.i64.wrap ((i : Int) + 1))] → H = [O.buf (nms X)] → ∃ i' : Nat, ws = [.sl 3 (tbs l') b2, .sl 3 (tbs g) false, .ms 1 0 0 (g.length + 1) b, fI i'] ∧ H = [.buf (nms X)] ∧ i' ≤ g.length + 1 ∧ g.length + 1 - (i + 1) = g.length + 1 - i' := fun ws H h1 h2 =>
        ⟨i + 1, by rw [h1, wrapE (by omega)]; rfl, h2, by omega, rfl⟩
      have bb : ∀ b : Bool, decide (b = b) = true := fun b => decide_eq_true rfl
      cases hfo : findT g N with
      | none =>
        conv => whnf
        refine ⟨by omega, ?_⟩
        conv => whnf
        refine ⟨_, nms_get hgi, ?_⟩
        conv => whnf
        refine .pure (EvRFind_spec (by omega) ⟨rfl, ?_⟩)
        unfold findR
        rw [hfo]
        conv => whnf
        refine .pure (RSame_spec (by decide) ⟨rfl, ?_⟩)
        rw [show sameS [] 0 [] 0 = true by simp [sameS]]
        conv => whnf
        refine .go [0] rfl (g.length + 1 - (i + 1)) (by omega) (hend _ _ rfl rfl)
      | some o =>
        obtain ⟨C, K⟩ := o
        conv => whnf
        refine ⟨by omega, ?_⟩
        conv => whnf
        refine ⟨_, nms_get hgi, ?_⟩
        conv => whnf
        refine .pure (EvRFind_spec (by omega) ⟨rfl, ?_⟩)
        unfold findR
        rw [hfo]
        conv => whnf
        refine .pure (RSame_spec (hfl C K hfo) ⟨rfl, ?_⟩)
        rw [show sameS C K C K = true by simp [sameS]]
        conv => whnf
        refine .go [0] rfl (g.length + 1 - (i + 1)) (by omega) (hend _ _ rfl rfl)
    refine .pure (EvRight_spec (by omega) ⟨rfl, ?_⟩)
    conv => whnf
    refine .pure (EvRRight_spec (by omega) ⟨rfl, ?_⟩)
    conv => whnf
    have bb : ∀ b : Bool, (b == b) = true := fun b => by cases b <;> rfl
    rw [bb]
    conv => whnf
    refine .pure (EvRight_spec (by omega) ⟨rfl, ?_⟩)
    rw [ok_rightT hok (by omega)]
    conv => whnf
    refine .pure (lives06_spec ⟨rfl, ?_⟩)
    conv => whnf
    exact ⟨[], rfl, rfl⟩

end Go.Proofs.YtokifgdmddnpoaaDoorPg

/- slices.Insert of one element. -/
namespace Go.Proofs.YtokifgdmddnpoaaDoorPg
open Go Go.RowKit
set_option linter.unusedSimpArgs false
set_option linter.unusedVariables false

variable {Q : V → List O → Prop}

theorem insT_wrap {n : Int} (h : -9223372036854775808 ≤ n ∧ n ≤ 9223372036854775807) : IntKind.i64.wrap n = n := by rw [IntKind.wrap_i64]; omega

theorem overlapsT_ext {H : List O} {i a n j b m : Nat} {f g : Bool} (hij : i ≠ j) (hi : IsBuf (getO H i)) (hj : IsBuf (getO H j)) : AExt Tryd.prog 93 [.ms 3 i a n f, .ms 3 j b m g] H (.bool false) := ⟨fun I ρ w us hst h => by
  obtain ⟨u0, l0, e0, h0, h⟩ := h.cons_inv
  obtain ⟨u1, l1, e1, h1, h⟩ := h.cons_inv
  have e2 : l1 = [] := List.eq_nil_of_length_eq_zero h.1.symm
  have eu : us = #[u0, u1] := by
    apply Array.ext'
    rw [e0, e1, e2]
  subst eu
  refine ⟨_, ?_, .bool _ _⟩
  rw [run_callFunc_extern Tryd.func93 (by kernel_rfl) (by kernel_rfl) (by kernel_rfl) (e := Extern.SlicesOverlaps.overlaps #[22, 22] #[4]) (by kernel_rfl)]
  rw [overlaps_run Tryd.underlying22 (size := 3) Tryd.sizeOf30 hst (by decide) hij hi hj h0 h1]
  rfl⟩

theorem new_as {z b n B : Nat} {X Y : List (List V)} {H : List O} {K : V → List O → Prop} (hX : X = Y) (hn : Y.length = n) (hB : b ≤ B) (hs : n * B ≤ 70368744177664) (hK : copyH (H ++ [.buf Y]) fun H' => K (.ms z H.length 0 n false) H') : newBuf z b X H K := by
  subst hX
  subst hn
  exact ⟨Nat.le_trans (Nat.mul_le_mul_left _ hB) hs, hK⟩

theorem take_app1 {α : Type} (A B : List α) : List.take A.length (A ++ B) = A := by simp

/-- The rows of an insertion into a new buffer. -/
theorem ins_rows {es Y Y1 Y2 : List (List V)} {x : List V} {i k m : Nat} (hlt : i ≤ es.length) (hk : k = 1) (hm : m = es.length - i) (hYl : Y.length = es.length + 1) (hYt : Y.take i = es.take i)
    (h1 : Y1 = List.take (i + 0) Y ++ List.take k (List.drop 0 [x]) ++ List.drop (i + 0 + k) Y) (h2 : Y2 = List.take (i + 1 + 0) Y1 ++ List.take m (List.drop (i + 0) es) ++ List.drop (i + 1 + 0 + m) Y1) :
    Y2 = es.take i ++ [x] ++ es.drop i := by
  subst hk
  simp only [Nat.add_zero, List.drop_zero, hYt] at h1 h2
  have e1 : List.take 1 [x] = [x] := rfl
  rw [e1] at h1
  have hl : (es.take i ++ [x]).length = i + 1 := by rw [List.length_append, List.length_take, List.length_singleton]; omega
  have e2 : List.take (i + 1) Y1 = es.take i ++ [x] := by rw [h1, ← hl]; exact take_app1 _ _
  have e3 : List.drop (i + 1 + m) Y1 = [] := by
    apply List.drop_eq_nil_of_le
    rw [h1, List.length_append, hl, List.length_drop]; omega
  have e4 : List.take m (List.drop i es) = List.drop i es := List.take_of_length_le (by rw [List.length_drop]; omega)
  rw [h2, e2, e3, e4, List.append_nil]

/-- .. into the room behind it -/
theorem ins_rows2 {es E Y1 Y2 : List (List V)} {x : List V} {i k n m : Nat} (hlt : i < es.length) (hm : 0 < m) (hn : n = es.length - i) (hk : k = 1) (hE : E = es ++ List.replicate m [])
    (h1 : Y1 = List.take (i + 1 + 0) E ++ List.take n (List.drop (i + 0) E) ++ List.drop (i + 1 + 0 + n) E) (h2 : Y2 = List.take (i + 0) Y1 ++ List.take k (List.drop 0 [x]) ++ List.drop (i + 0 + k) Y1) :
    Y2 = es.take i ++ [x] ++ es.drop i ++ List.replicate (m - 1) [] := by
  subst hk
  simp only [Nat.add_zero, List.drop_zero] at h1 h2
  have e1 : List.take 1 [x] = [x] := rfl
  rw [e1] at h2
  have d1 : List.drop i E = es.drop i ++ List.replicate m [] := by rw [hE, List.drop_append_of_le_length (by omega)]
  have t1 : List.take n (List.drop i E) = es.drop i := by
    rw [d1, show n = (es.drop i).length by rw [List.length_drop]; exact hn]; exact take_app1 _ _
  have d2 : List.drop (i + 1 + n) E = List.replicate (m - 1) [] := by
    rw [hE, List.drop_append, List.drop_eq_nil_of_le (by omega), List.nil_append, List.drop_replicate]
    congr 1; omega
  rw [t1, d2] at h1
  have l1 : (List.take (i + 1) E).length = i + 1 := by rw [List.length_take, hE, List.length_append, List.length_replicate]; omega
  have t2 : List.take i Y1 = es.take i := by
    rw [h1, List.append_assoc, List.take_append_of_le_length (by omega), List.take_take, show min i (i + 1) = i by omega, hE, List.take_append_of_le_length (by omega)]
  have d3 : List.drop (i + 1) Y1 = es.drop i ++ List.replicate (m - 1) [] := by
    rw [h1, List.append_assoc, List.drop_append_of_le_length (by omega), List.drop_eq_nil_of_le (by omega), List.nil_append]
  rw [h2, t2, d3, ← List.append_assoc]

set_option maxRecDepth 8000 in
set_option maxHeartbeats 16000000 in
theorem InsertT_spec {es : List (List V)} {x : List V} {i : Nat} (hl : es.length ≤ 1000) (hi : i ≤ es.length) (hne : ∀ r ∈ es, r ≠ []) (hx : x ≠ []) (h : Q (.ms 3 0 0 (es.length + 1) false) [.buf (es.take i ++ [x] ++ es.drop i)]) :
    ACall Tryd.prog 75 0 [.ms 3 0 0 es.length false, fI i, .ms 3 1 0 1 true] [.buf es, .buf [x]] Q := by
  refine ACall.ret (by_body Tryd.func75 0 rfl (Nat.le_of_ble_eq_true rfl) ?_)
  conv => whnf
  refine ⟨⟨by omega, by omega⟩, ?_⟩
  conv => whnf
  refine branch_i (fun c1 => ?_) (fun c1 => ?_) <;> try rw [c1] <;> conv => whnf
  · have c1' := of_decide_eq_true c1
    have hin : i = es.length := by omega
    subst hin
    refine ⟨Nat.le_refl 1, ?_⟩
    refine app_gen rfl rfl rfl (Nat.le_trans (Nat.mul_le_mul_right _ (Nat.add_le_add hl (show 1 ≤ 1 by omega))) (show (1000 + 1) * 48 ≤ 70368744177664 by omega)) ?_
    conv => whnf
    refine ⟨[2], rfl, .done [0] rfl ?_⟩
    rw [List.take_length, List.drop_length, List.append_nil] at h
    exact h
  have c1' := of_decide_eq_false c1
  have hlt : i < es.length := by omega
  refine ⟨⟨by omega, by omega⟩, fun m => ?_⟩
  conv => whnf
  have hw1 : IntKind.i64.wrap ((es.length : Int) + ((1 : Nat) : Int)) = ((es.length + 1 : Nat) : Int) := by rw [insT_wrap (by omega)]; omega
  have hi1 : IntKind.i64.wrap ((i : Int) + 1) = ((i + 1 : Nat) : Int) := by rw [insT_wrap (by omega)]; omega
  have hi2 : IntKind.i64.wrap ((i : Int) + ((1 : Nat) : Int)) = ((i + 1 : Nat) : Int) := hi1
  rw [hw1]
  refine branch_i (fun c2 => ?_) (fun c2 => ?_) <;> try rw [c2] <;> conv => whnf
  · have c2' := of_decide_eq_true c2
    have hm0 : m = 0 := by omega
    subst hm0
    refine ⟨by omega, ?_⟩
    conv => whnf
    have hw3 : IntKind.i64.wrap (IntKind.i64.wrap ((es.length : Int) + ((1 : Nat) : Int)) - (i : Int)) = ((es.length + 1 - i : Nat) : Int) := by rw [hw1, insT_wrap (by omega)]; omega
    rw [hw3]
    refine ⟨⟨by omega, by omega, ?_, ?_, ?_⟩, ?_⟩
    all_goals try rw [show (es ++ List.replicate 0 []) = es from List.append_nil es]
    · omega
    · omega
    · intro r hr
      exact hne r (List.mem_of_mem_take hr)
    obtain ⟨Y, hY⟩ : ∃ Y, Y = List.take i (List.drop 0 es) ++ List.replicate (es.length + 1 - i) ((cx Tryd.f75.ntmps 0).T 30).zero := ⟨_, rfl⟩
    have hYl : Y.length = es.length + 1 := by rw [hY, List.length_append, List.length_take, List.length_replicate, List.drop_zero]; omega
    refine new_as (B := 48) (n := es.length + 1) (Y := Y) hY.symm hYl (by decide) (by omega) ?_
    conv => whnf
    refine ⟨by omega, ?_⟩
    conv => whnf
    have hm1 : min 1 (es.length + 1 - (i : Int).toNat) = 1 := by omega
    refine ⟨by omega, ⟨by omega, ?_⟩, ?_, ?_⟩
    · rw [hm1]
      exact Nat.le_refl 1
    · omega
    obtain ⟨Y1, hY1⟩ : ∃ Y1, Y1 = (List.take ((i : Int).toNat + 0) Y ++ List.take (min 1 (es.length + 1 - (i : Int).toNat)) (List.drop 0 [x]) ++ List.drop ((i : Int).toNat + 0 + min 1 (es.length + 1 - (i : Int).toNat)) Y) := ⟨_, rfl⟩
    rw [← hY1]
    conv => whnf
    refine ⟨[0, 1, 2, 3, 4, 5, 6, 7, 8], by kernel_rfl, by kernel_rfl, ?_⟩
    conv => whnf
    rw [hi2]
    refine ⟨by omega, ?_⟩
    conv => whnf
    refine ⟨by omega, ?_⟩
    conv => whnf
    have hY1l : Y1.length = es.length + 1 := by
      rw [hY1, hm1, List.length_append, List.length_append, List.length_take, List.length_drop, hYl, show (List.take 1 (List.drop 0 [x])).length = 1 from rfl]; omega
    have hm2 : min (es.length - (i : Int).toNat) (es.length + 1 - ((i + 1 : Nat) : Int).toNat) = es.length - i := by omega
    refine ⟨by omega, ⟨by omega, by omega, ?_⟩, by omega, ?_⟩
    · intro r hr
      exact hne r (List.mem_of_mem_drop (List.mem_of_mem_take hr))
    obtain ⟨Y2, hY2⟩ : ∃ Y2, Y2 = (List.take (((i + 1 : Nat) : Int).toNat + 0) Y1 ++ List.take (min (es.length - (i : Int).toNat) (es.length + 1 - ((i + 1 : Nat) : Int).toNat)) (List.drop ((i : Int).toNat + 0) es) ++
          List.drop (((i + 1 : Nat) : Int).toNat + 0 + min (es.length - (i : Int).toNat) (es.length + 1 - ((i + 1 : Nat) : Int).toNat)) Y1) := ⟨_, rfl⟩
    rw [← hY2]
    conv => whnf
    refine ⟨[2], rfl, .done [0] rfl ?_⟩
    show Q (.ms 3 0 0 (es.length + 1) false) [.buf Y2]
    rw [ins_rows hi hm1 hm2 hYl ?_ hY1 hY2]
    · exact h
    rw [hY, List.drop_zero]
    have : i = (List.take i es).length := by rw [List.length_take]; omega
    conv => lhs; arg 1; rw [this]
    exact take_app1 _ _
  · have c2' := of_decide_eq_false c2
    rw [hw1]
    refine ⟨⟨by omega, .inr ⟨by omega, ?_⟩⟩, ?_⟩
    · show 0 + (es.length + 1) ≤ (es ++ List.replicate m []).length
      rw [List.length_append, List.length_replicate]
      omega
    conv => whnf
    rw [hi2]
    refine ⟨by omega, ?_⟩
    conv => whnf
    refine ⟨_, overlapsT_ext (by decide) (by simp [getO, IsBuf]) (by simp [getO, IsBuf]), ?_⟩
    conv => whnf
    refine ⟨[0, 1, 2, 3, 4, 5, 6, 7, 8], by kernel_rfl, by kernel_rfl, ?_⟩
    conv => whnf
    rw [hi2]
    refine ⟨by omega, ?_⟩
    conv => whnf
    refine ⟨by omega, ?_⟩
    conv => whnf
    have hm0 : 0 < m := by omega
    have hm2 : min (((es.length + 1 : Nat) : Int).toNat - (i : Int).toNat) (((es.length + 1 : Nat) : Int).toNat - ((i + 1 : Nat) : Int).toNat) = es.length - i := by omega
    have hEl : (es ++ List.replicate m ([] : List V)).length = es.length + m := by rw [List.length_append, List.length_replicate]
    refine ⟨by omega, ⟨by omega, by rw [hEl]; omega, ?_⟩, by rw [hEl]; omega, ?_⟩
    · intro r hr
      rw [hm2, show ((i : Int).toNat + 0) = i from rfl, List.drop_append_of_le_length (by omega), show es.length - i = (es.drop i).length by rw [List.length_drop], take_app1] at hr
      exact hne r (List.mem_of_mem_drop hr)
    obtain ⟨Y1, hY1⟩ : ∃ Y1, Y1 = (List.take (((i + 1 : Nat) : Int).toNat + 0) (es ++ List.replicate m ([] : List V)) ++ List.take (min (((es.length + 1 : Nat) : Int).toNat - (i : Int).toNat) (((es.length + 1 : Nat) : Int).toNat - ((i + 1 : Nat) : Int).toNat)) (List.drop ((i : Int).toNat + 0) (es ++ List.replicate m ([] : List V))) ++
          List.drop (((i + 1 : Nat) : Int).toNat + 0 + min (((es.length + 1 : Nat) : Int).toNat - (i : Int).toNat) (((es.length + 1 : Nat) : Int).toNat - ((i + 1 : Nat) : Int).toNat)) (es ++ List.replicate m ([] : List V))) := ⟨_, rfl⟩
    rw [← hY1]
    conv => whnf
    refine ⟨by omega, ?_⟩
    conv => whnf
    have hm3 : min 1 (((es.length + 1 : Nat) : Int).toNat - (i : Int).toNat) = 1 := by omega
    have hY1l : Y1.length = es.length + m := by
      rw [hY1, hm2, List.length_append, List.length_append, List.length_take, List.length_drop, List.length_take, List.length_drop, hEl]; omega
    refine ⟨by omega, ⟨by omega, by rw [hm3]; exact Nat.le_refl 1⟩, by rw [hY1l]; omega, ?_⟩
    obtain ⟨Y2, hY2⟩ : ∃ Y2, Y2 = (List.take ((i : Int).toNat + 0) Y1 ++ List.take (min 1 (((es.length + 1 : Nat) : Int).toNat - (i : Int).toNat)) (List.drop 0 [x]) ++ List.drop ((i : Int).toNat + 0 + min 1 (((es.length + 1 : Nat) : Int).toNat - (i : Int).toNat)) Y1) := ⟨_, rfl⟩
    rw [← hY2]
    have hr := ins_rows2 hlt hm0 hm2 hm3 rfl hY1 hY2
    conv => whnf
    refine ⟨[0], rfl, ?_⟩
    conv => whnf
    show ARet 0 Q (.ms 3 0 0 (es.length + 1) false) [.bufc Y2]
    have hzl : (es.take i ++ [x] ++ es.drop i).length = es.length + 1 := by
      rw [List.length_append, List.length_append, List.length_take, List.length_drop, List.length_singleton]; omega
    have hYt : Y2.take (es.length + 1) = es.take i ++ [x] ++ es.drop i := by
      rw [hr, ← hzl]; exact take_app1 _ _
    refine .sub _ _ (.refl _) (.cons (.bufc Y2 (es.length + 1) ?_ ?_) (HSub.refl _)) (.done [0] rfl ?_)
    · intro r hr
      rw [hYt] at hr
      simp only [List.mem_append, List.mem_singleton] at hr
      rcases hr with (hr | hr) | hr
      · exact hne r (List.mem_of_mem_take hr)
      · rw [hr]; exact hx
      · exact hne r (List.mem_of_mem_drop hr)
    · intro h0
      rw [h0] at hYt
      have := congrArg List.length hYt
      rw [hzl] at this
      simp at this
    · show Q (.ms 3 0 0 (es.length + 1) false) [.buf (Y2.take (es.length + 1))]
      rw [hYt]
      exact h

end Go.Proofs.YtokifgdmddnpoaaDoorPg

/- Tables that follow a change: clone, create. -/
namespace Go.Proofs.YtokifgdmddnpoaaDoorPg
open Go Go.RowKit
set_option linter.unusedSimpArgs false
set_option linter.unusedVariables false

variable {Q : V → List O → Prop}

theorem CloneF_spec {l : List Col} {keys : Int} (hl : l.length < 1000000) (h : Q (sch l keys) []) : ACall Tryd.prog 29 0 [sch l keys] [] Q := by
  refine ACall.ret (Clone_spec hl (.frz 0 rfl (by repeat (first | exact trivial | refine And.intro (Nat.le_of_eq (by rw [cols_len, Nat.zero_add])) ?_)) (.done [] rfl ?_)))
  show Q (.agg [.sl 3 (List.take l.length (cols l)) false, fI keys]) []
  rw [List.take_of_length_le (by rw [cols_len]; exact Nat.le_refl _)]
  exact h

theorem app_tb {i j n : Nat} {f : Bool} {X : List Tb} {w : Tb} {H : List O} {K : V → List O → Prop} (hij : Nat.beq i j = false) (hX : getO H i = .buf (tbs X)) (hn : n = X.length) (hs : X.length ≤ 1000000)
    (hK : copyH (setO H i .dead ++ [.buf (tbs (X ++ [w]))]) fun H' => K (.ms 3 (setO H i .dead).length 0 (X ++ [w]).length false) H') :
    0 + 1 ≤ 1 ∧ aapp 3 48 (.ms 3 i 0 n false) (.ms 3 j 0 1 f) [tbC w] H K := by
  subst hn
  refine ⟨Nat.le_refl 1, ?_⟩
  unfold aapp sameBuf
  simp only [hij]
  unfold aappend
  simp only [show Nat.beq 3 3 = true from rfl, hX, List.drop_zero]
  refine ⟨by rw [tbs_len]; rfl, ?_⟩
  rw [show tbs X ++ [tbC w] = tbs (X ++ [w]) by rw [tbs_app]; rfl]
  unfold newBuf
  rw [tbs_len]
  exact ⟨by rw [List.length_append, List.length_singleton]; omega, hK⟩

set_option maxHeartbeats 4000000 in
theorem TClone_spec {l : List Tb} (hl : l.length ≤ 64) (hc : ∀ x ∈ l, x.c.length < 1000000) (h : Q (.ms 3 0 0 l.length false) [.buf (tbs l)]) : ACall Tryd.prog 50 0 [.sl 3 (tbs l) false] [] Q := by
  refine ACall.ret (by_body Tryd.func50 0 rfl (Nat.le_of_ble_eq_true rfl) ?_)
  conv => whnf
  have hlv := tbs_len l
  refine ⟨⟨[3, 6, 7, 8], fun m ws H => ∃ i : Nat, ws = [.ms 3 0 0 i false, .sl 3 (tbs l) false, fI (tbs l).length, fI i] ∧ H = [.buf (tbs (l.take i))] ∧ i ≤ l.length ∧ m = l.length - i, ?_, ?_⟩⟩
  · refine .frz (l.length + 1) (.adopt (.sub _ _ (.cons (VSub.ms0 3 0 0 false) (VSubs.refl _)) (HSub.refl _) (.go [0] rfl l.length (by omega) ⟨0, rfl, rfl, by omega, rfl⟩)))
  rintro m ws H ⟨i, rfl, rfl, hi, rfl⟩
  conv => whnf
  refine branch_i (fun c1 => ?_) (fun c1 => ?_) <;> try rw [c1] <;> conv => whnf
  rotate_left
  focus
    have c1' := of_decide_eq_false c1
    have : i = l.length := by omega
    subst this
    rw [List.take_length]
    exact ⟨[0], rfl, .done [0] rfl h⟩
  have c1' := of_decide_eq_true c1
  have hlt : i < l.length := by omega
  have hg : l[i]? = some l[i] := List.getElem?_eq_getElem hlt
  have hcw := hc l[i] (List.getElem_mem hlt)
  generalize l[i] = w at *
  refine ⟨_, ⟨by omega, tbs_get hg⟩, ?_⟩
  conv => whnf
  refine ⟨List.range 10, by kernel_rfl, by kernel_rfl, ?_⟩
  conv => whnf
  refine .pure (CloneF_spec (l := w.c) (keys := w.k) hcw ⟨rfl, ?_⟩)
  repeat (conv => whnf
          refine ⟨rfl, ?_⟩)
  conv => whnf
  have hsn : l.take (i + 1) = l.take i ++ [w] := by rw [List.take_add_one, hg]; rfl
  refine app_tb (X := l.take i) (w := w) rfl rfl (by rw [List.length_take]; omega) (by rw [List.length_take]; omega) ?_
  rw [← hsn]
  have hln : (l.take (i + 1)).length = i + 1 := by rw [List.length_take]; omega
  rw [hln]
  conv => whnf
  refine .go [3] rfl (l.length - (i + 1)) (by omega) ⟨i + 1, ?_, rfl, by omega, rfl⟩
  show [V.ms 3 0 0 (i + 1) false, .sl 3 (tbs l) false, fI (tbs l).length, V.int .i64 (IntKind.i64.wrap ((i : Int) + 1))] = _
  rw [wrapE (by omega)]; rfl

theorem tbs_ins (l : List Tb) (t : Tb) : (tbs l).take (posT l t.n) ++ [tbC t] ++ (tbs l).drop (posT l t.n) = tbs (insT l t) := by
  unfold insT tbs
  simp [List.map_take, List.map_drop]

theorem tbs_ne {l : List Tb} : ∀ r ∈ tbs l, r ≠ [] := by
  intro r hr
  unfold tbs at hr
  obtain ⟨w, _, rfl⟩ := List.mem_map.1 hr
  exact List.cons_ne_nil _ _

/-- what creating a table comes to -/
def creE (l : List Tb) (t : List UInt8) (cs : List Col) (ks : Int) : List Tb × Int :=
  if nameOk t = false then ([], 6) else if (atT l t).isSome then ([], 8) else if mayS cs ks = false then ([], 1) else if 64 ≤ l.length then ([], 13) else (insT l ⟨t, cs, ks⟩, 0)

set_option maxHeartbeats 16000000 in
theorem Create_spec {l : List Tb} {c : Chg} (hl : l.length ≤ 64) (hc : ∀ x ∈ l, x.c.length < 1000000) (h : Q (folR (creE l c.t c.c c.ks)) []) :
    ACall Tryd.prog 48 0 [.sl 3 (tbs l) false, fI (posT l c.t), .bool (atT l c.t).isSome, chA c] [] Q := by
  refine ACall.ret (by_body Tryd.func48 0 rfl (Nat.le_of_ble_eq_true rfl) ?_)
  conv => whnf
  have hlv := tbs_len l
  have hp := posT_le l c.t
  unfold creE at h
  refine .pure (Name_spec ⟨rfl, ?_⟩)
  conv => whnf
  cases hn : nameOk c.t <;> rw [hn] at h <;> conv => whnf
  · exact ⟨[], rfl, .sub _ _ (err_fol _) (HSub.refl _) (.done [] rfl h)⟩
  rw [if_neg (by simp)] at h
  cases ha : (atT l c.t).isSome <;> rw [ha] at h <;> conv => whnf
  rotate_left
  · exact ⟨[], rfl, .sub _ _ (err_fol _) (HSub.refl _) (.done [] rfl h)⟩
  rw [if_neg (by simp)] at h
  refine .pure (May_any (l := c.c) (keys := c.ks) ⟨rfl, ?_⟩)
  conv => whnf
  cases hm : mayS c.c c.ks <;> rw [hm] at h <;> conv => whnf
  · exact ⟨[], rfl, .sub _ _ (err_fol _) (HSub.refl _) (.done [] rfl h)⟩
  rw [if_neg (by simp)] at h
  refine branch_i (fun c1 => ?_) (fun c1 => ?_) <;> try rw [c1] <;> conv => whnf
  · have c1' := of_decide_eq_true c1
    rw [if_pos (by omega)] at h
    exact ⟨[], rfl, .sub _ _ (err_fol _) (HSub.refl _) (.done [] rfl h)⟩
  have c1' := of_decide_eq_false c1
  rw [if_neg (by omega)] at h
  have hb := may_bd hm
  refine ⟨[0, 2, 3, 4, 5, 6, 1, 7, 8, 9, 10, 11, 12], by kernel_rfl, by kernel_rfl, ?_⟩
  conv => whnf
  refine .call [] 0 ⟨rfl, rfl, rfl⟩ (TClone_spec hl hc ?_)
  repeat (conv => whnf
          refine ⟨rfl, ?_⟩)
  conv => whnf
  refine .pure (CloneF_spec (l := c.c) (keys := c.ks) (by omega) ⟨rfl, ?_⟩)
  repeat (conv => whnf
          refine ⟨rfl, ?_⟩)
  conv => whnf
  refine .call [1, 2] 2 ⟨rfl, rfl, rfl⟩ (ACall.stay 2 rfl ?_)
  show ACall Tryd.prog 75 0 [.ms 3 0 0 l.length false, fI (posT l c.t), .ms 3 1 0 1 true] [.buf (tbs l), .buf [tbC ⟨c.t, c.c, c.ks⟩]] _
  rw [← hlv]
  refine InsertT_spec (by omega) (by omega) tbs_ne (List.cons_ne_nil _ _) ?_
  have hti := tbs_ins l ⟨c.t, c.c, c.ks⟩
  rw [show List.take (posT l c.t) (tbs l) ++ [tbC ⟨c.t, c.c, c.ks⟩] ++ List.drop (posT l c.t) (tbs l) = _ from hti]
  repeat (conv => whnf
          refine ⟨rfl, ?_⟩)
  conv => whnf
  refine fol_ret (j := 3) (L := insT l ⟨c.t, c.c, c.ks⟩) rfl (by rw [insT_len, tbs_len]) (show 3 < 4 by decide) h

/-- Follow, where a table is created. -/
theorem Follow1_spec {l : List Tb} {c : Chg} (hl : l.length ≤ 64) (hs : SortedT l) (hk : c.k = 1) (hc : ∀ x ∈ l, x.c.length < 1000000) (h : Q (folR (creE l c.t c.c c.ks)) []) :
    ACall Tryd.prog 24 0 [.sl 3 (tbs l) false, chA c] [] Q := by
  refine by_body Tryd.func24 0 rfl (Nat.le_of_ble_eq_true rfl) ?_
  conv => whnf
  refine .pure (evat_spec (by omega) hs ⟨rfl, ?_⟩)
  conv => whnf
  rw [decide_eq_true hk]
  conv => whnf
  refine .pure (Create_spec hl hc ⟨rfl, ?_⟩)
  unfold folR
  conv => whnf
  exact ⟨[], rfl, h⟩

end Go.Proofs.YtokifgdmddnpoaaDoorPg

/- slices.Delete of one table (at any place), Follow of a drop. -/
namespace Go.Proofs.YtokifgdmddnpoaaDoorPg
open Go Go.RowKit
set_option linter.unusedSimpArgs false
set_option linter.unusedVariables false

variable {Q : V → List O → Prop}

theorem tbs_erase (l : List Tb) (i : Nat) : tbs (l.eraseIdx i) = (tbs l).take i ++ (tbs l).drop (i + 1) := by
  rw [List.eraseIdx_eq_take_drop_succ]; simp [tbs]

theorem del_ret {n : Nat} {C B : List (List V)} (hC : C.take n = B) (hn : n ≤ C.length) (h : Q (.sl 3 B false) []) : ARet 0 Q (.ms 3 0 0 n false) [.buf C] := by
  refine .frz 0 rfl (by repeat (first | exact trivial | refine And.intro (Nat.le_trans (Nat.le_of_eq (Nat.zero_add _)) hn) ?_)) (.done [] rfl ?_)
  show Q (.sl 3 (C.take n) false) []
  rw [hC]; exact h

set_option maxHeartbeats 4000000 in
theorem DeleteT_spec {l : List Tb} {i : Nat} (hl : l.length ≤ 64) (hi : i < l.length) (h : Q (.sl 3 (tbs (l.eraseIdx i)) false) []) :
    ACall Tryd.prog 49 0 [.mr 3 0 0 l.length, fI i, fI ((i + 1 : Nat) : Int)] [.buf (tbs l)] Q := by
  have hlk := tbs_len l
  refine ACall.ret (by_body Tryd.func49 0 rfl (Nat.le_of_ble_eq_true rfl) ?_)
  conv => whnf
  refine ⟨by omega, ?_⟩
  conv => whnf
  rw [show decide ((i : Int) = ((i + 1 : Nat) : Int)) = false by simp; omega]
  conv => whnf
  refine ⟨[0, 1, 2, 3, 4, 5, 6, 7], by kernel_rfl, by kernel_rfl, ?_⟩
  conv => whnf
  refine ⟨by omega, ?_⟩
  conv => whnf
  refine ⟨by omega, ?_⟩
  conv => whnf
  refine ⟨by omega, ?_⟩
  have hY : List.take (l.length - ((i + 1 : Nat) : Int).toNat) (List.drop (((i + 1 : Nat) : Int).toNat + 0) (tbs l)) = (tbs l).drop (i + 1) := by
    rw [Int.toNat_natCast, Nat.add_zero, List.take_of_length_le (by simp [hlk])]
  have hYl : ((tbs l).drop (i + 1)).length = l.length - (i + 1) := by rw [List.length_drop, hlk]
  have hE := tbs_erase l i
  rw [hY]
  generalize hYY : (tbs l).drop (i + 1) = Y at *
  refine ⟨fun hy => ?_, fun hy => ⟨?_, ?_⟩⟩
  · subst hy
    rw [List.length_nil] at hYl
    rw [List.append_nil] at hE
    conv => whnf
    refine ⟨⟨by omega, by omega, .inr (show 0 + l.length ≤ (tbs l).length by omega)⟩, ?_⟩
    conv => whnf
    refine ⟨by omega, ?_⟩
    conv => whnf
    have hti : (List.take i (tbs l)).length = i := by rw [List.length_take]; omega
    refine ⟨[0], rfl, .sub _ _ (VSub.mrMs _ _ _ _) (HSub.refl _) (del_ret (B := tbs (l.eraseIdx i)) ?_ ?_ h)⟩
    · rw [hE]
      show List.take i (List.take i (tbs l) ++ List.replicate (l.length - i) (tt 30).zero ++ List.drop (i + (l.length - i)) (tbs l)) = _
      rw [List.append_assoc]
      conv => lhs; arg 1; rw [← hti]
      exact take_app1 _ _
    · show i ≤ (List.take i (tbs l) ++ List.replicate (l.length - i) (tt 30).zero ++ List.drop (i + (l.length - i)) (tbs l)).length
      rw [List.length_append, List.length_append, hti]; omega
  · omega
  · have hyp : 0 < Y.length := List.length_pos_iff.2 hy
    have hti : (List.take (0 + i) (tbs l)).length = i := by rw [List.length_take]; omega
    obtain ⟨D, hD⟩ : ∃ D, D = (List.take (0 + (i : Int).toNat) (tbs l) ++ Y ++ List.drop (0 + (i : Int).toNat + Y.length) (tbs l)) := ⟨_, rfl⟩
    have hDl : D.length = l.length := by rw [hD, Int.toNat_natCast, List.length_append, List.length_append, hti, List.length_drop]; omega
    have hDt : D.take (i + Y.length) = tbs (l.eraseIdx i) := by
      rw [hD, hE, Int.toNat_natCast, Nat.zero_add]
      have : (List.take i (tbs l) ++ Y).length = i + Y.length := by rw [List.length_append]; rw [Nat.zero_add] at hti; omega
      conv => lhs; arg 1; rw [← this]
      exact take_app1 _ _
    conv => whnf
    refine ⟨⟨by omega, by omega, .inr ⟨by omega, ?_⟩⟩, ?_⟩
    · show 0 + l.length ≤ (List.take (0 + (i : Int).toNat) (tbs l) ++ Y ++ List.drop (0 + (i : Int).toNat + Y.length) (tbs l)).length
      rw [← hD]; omega
    conv => whnf
    have hz : ((((i : Int).toNat + Y.length : Nat) : Int)).toNat = i + Y.length := by omega
    rw [← hD, hz]
    refine ⟨⟨by omega, by omega⟩, ?_⟩
    conv => whnf
    have hDt' : (D.take (i + Y.length)).length = i + Y.length := by rw [List.length_take]; omega
    refine ⟨[0], rfl, del_ret (B := tbs (l.eraseIdx i)) ?_ ?_ h⟩
    · rw [← hDt]
      show List.take (i + Y.length) (List.take (i + Y.length) D ++ List.replicate (l.length - (i + Y.length)) (tt 30).zero ++ List.drop (i + Y.length + (l.length - (i + Y.length))) D) = _
      rw [List.append_assoc]
      conv => lhs; arg 1; rw [← hDt']
      exact take_app1 _ _
    · show i + Y.length ≤ (List.take (i + Y.length) D ++ List.replicate (l.length - (i + Y.length)) (tt 30).zero ++ List.drop (i + Y.length + (l.length - (i + Y.length))) D).length
      rw [List.length_append, List.length_append, hDt']; omega

/-- Follow, where a table is dropped. -/
theorem Follow2_spec {l : List Tb} {c : Chg} (hl : l.length ≤ 64) (hs : SortedT l) (hk : c.k = 2) (hc : ∀ x ∈ l, x.c.length < 1000000)
    (h : Q (folR (match atT l c.t with | none => ([], 7) | some i => (l.eraseIdx i, 0))) []) :
    ACall Tryd.prog 24 0 [.sl 3 (tbs l) false, chA c] [] Q := by
  refine ACall.ret (by_body Tryd.func24 0 rfl (Nat.le_of_ble_eq_true rfl) ?_)
  conv => whnf
  refine .pure (evat_spec (by omega) hs ⟨rfl, ?_⟩)
  conv => whnf
  rw [decide_eq_false (show ¬ c.k = 1 by omega)]
  cases ha : atT l c.t with
  | none =>
    rw [ha] at h
    conv => whnf
    exact ⟨[], rfl, .sub _ _ (err_fol _) (HSub.refl _) (.done [] rfl h)⟩
  | some i =>
    rw [ha] at h
    conv => whnf
    rw [decide_eq_true hk]
    conv => whnf
    have hp := pos_of_at hs ha
    obtain ⟨t, ht, _, hi⟩ := atT_get ha
    rw [hp]
    refine .call [] 0 ⟨rfl, rfl, rfl⟩ (TClone_spec hl hc ?_)
    conv => whnf
    rw [wrapE (n := (i : Int) + 1) (by omega)]
    refine .call [1] 0 ⟨rfl, rfl, rfl⟩ (ACall.args (.cons (VSub.mr (by omega)) (VSubs.refl _)) (DeleteT_spec (i := i) hl hi ?_))
    conv => whnf
    exact ⟨[], rfl, .done [] rfl h⟩

end Go.Proofs.YtokifgdmddnpoaaDoorPg

/- May an event be: its change of tables (both functions). -/
namespace Go.Proofs.YtokifgdmddnpoaaDoorPg
open Go Go.RowKit
set_option linter.unusedSimpArgs false
set_option linter.unusedVariables false

variable {Q : V → List O → Prop}

def kOk (k : Int) : Bool := decide (1 ≤ k) && decide (k ≤ 4)
def colE (c : Col) : Bool := nameOk c.n && kOk c.k
def nilS (c : Chg) : Bool := decide (c.ks = 0) && decide (c.c.length = 0)
/-- what a change of each kind must hold -/
def chgK (c : Chg) : Bool :=
  if c.k = 1 then mayS c.c c.ks && decide (c.col = col0)
  else if c.k = 2 then nilS c && decide (c.col = col0)
  else if c.k = 3 ∨ c.k = 5 then nilS c && colE c.col
  else nilS c && (nameOk c.col.n && (decide (c.col.k = 0) && !c.col.o))
def chgE (c : Chg) : Int :=
  if c.k = 1 ∨ c.k = 2 ∨ c.k = 3 ∨ c.k = 5 ∨ c.k = 4 then (if nameOk c.t && chgK c then 0 else 1) else 5

theorem chgE_bad {c : Chg} (h : ¬ (c.k = 1 ∨ c.k = 2 ∨ c.k = 3 ∨ c.k = 5 ∨ c.k = 4)) : chgE c = 5 := by unfold chgE; rw [if_neg h]
theorem chgE_is {c : Chg} {b : Bool} (hk : c.k = 1 ∨ c.k = 2 ∨ c.k = 3 ∨ c.k = 5 ∨ c.k = 4) (h : (nameOk c.t && chgK c) = b) : chgE c = if b then 0 else 1 := by
  unfold chgE; rw [if_pos hk, h]

theorem EvColumn_spec {c : Col} (h : Q (.bool (colE c)) []) : ACall Tryd.prog 69 0 [.agg [.str c.n, .int .i64 c.k, .bool c.o]] [] Q := by
  refine by_body Tryd.func69 0 rfl (Nat.le_of_ble_eq_true rfl) ?_
  conv => whnf
  refine .pure (Name_spec ⟨rfl, ?_⟩)
  conv => whnf
  unfold colE kOk at h
  cases c1 : nameOk c.n <;> rw [c1] at h <;> conv => whnf
  · exact ⟨[], rfl, h⟩
  refine branch_i (fun c2 => ?_) (fun c2 => ?_) <;> rw [c2] at h <;> try rw [c2] <;> conv => whnf
  · exact ⟨[], rfl, qbE h (by simp)⟩
  · exact ⟨[], rfl, qbE h (by simp)⟩

theorem Rzero_spec {c : Col} (h : Q (.bool (decide (c = col0))) []) : ACall Tryd.prog 73 0 [.agg [.str c.n, .int .i64 c.k, .bool c.o]] [] Q := by
  refine by_body Tryd.func73 0 rfl (Nat.le_of_ble_eq_true rfl) ?_
  conv => whnf
  exact ⟨[], rfl, qbE h (col_eq c col0).symm⟩

theorem chg_sub (k : Int) (t n : List UInt8) (kk : Int) (o : Bool) : VSub (.agg [.int .i64 k, .str t, .nils, .int .i64 0, .str n, .int .i64 kk, .bool o]) (chA ⟨k, t, [], 0, ⟨n, kk, o⟩⟩) :=
  .agg (.cons (.refl _) (.cons (.refl _) (.cons (nils_sl3 false) (VSubs.refl _))))

theorem sm1 (c : Chg) : decide (c = ⟨c.k, c.t, c.c, c.ks, col0⟩) = decide (c.col = col0) := by cases c; simp
theorem sm2 (c : Chg) : decide (c = ⟨c.k, c.t, [], 0, col0⟩) = (nilS c && decide (c.col = col0)) := by
  cases c; simp [nilS, Bool.and_comm, Bool.and_assoc, Bool.and_left_comm]
theorem sm3 (c : Chg) : decide (c = ⟨c.k, c.t, [], 0, c.col⟩) = nilS c := by
  cases c; simp [nilS, Bool.and_comm]
theorem sm4 (c : Chg) : decide (c = ⟨c.k, c.t, [], 0, ⟨c.col.n, 0, false⟩⟩) = (nilS c && (decide (c.col.k = 0) && !c.col.o)) := by
  obtain ⟨k, t, l, ks, ⟨n, kk, o⟩⟩ := c
  cases o <;> simp [nilS, Bool.and_comm, Bool.and_assoc, Bool.and_left_comm]

theorem qiE {n m : Int} {H : List O} (h : Q (fI n) H) (e : n = m) : Q (fI m) H := e ▸ h

set_option maxHeartbeats 16000000 in
theorem EvChange_spec {c : Chg} (hl : c.c.length < 1000000) (h : Q (fI (chgE c)) []) : ACall Tryd.prog 38 0 [chA c] [] Q := by
  refine by_body Tryd.func38 0 rfl (Nat.le_of_ble_eq_true rfl) ?_
  conv => whnf
  refine .pure (Name_spec ⟨rfl, ?_⟩)
  conv => whnf
  refine branch_i (fun k1 => ?_) (fun k1 => ?_) <;> try rw [k1] <;> conv => whnf
  · have k1' : c.k = 1 := of_decide_eq_true k1
    have hK : chgK c = (mayS c.c c.ks && decide (c.col = col0)) := by unfold chgK; rw [if_pos k1']
    cases hn : nameOk c.t <;> conv => whnf
    · exact ⟨[], rfl, qiE h (chgE_is (b := false) (.inl k1') (by rw [hn]; rfl))⟩
    refine .pure (May_any (l := c.c) (keys := c.ks) ⟨rfl, ?_⟩)
    conv => whnf
    cases hm : mayS c.c c.ks <;> conv => whnf
    · exact ⟨[], rfl, qiE h (chgE_is (b := false) (.inl k1') (by rw [hK, hm]; simp))⟩
    refine .pure (evsame_spec (a := c) (b := ⟨c.k, c.t, c.c, c.ks, col0⟩) hl ⟨rfl, ?_⟩)
    rw [sm1]
    conv => whnf
    cases hc : decide (c.col = col0) <;> conv => whnf
    · exact ⟨[], rfl, qiE h (chgE_is (b := false) (.inl k1') (by rw [hK, hc]; simp))⟩
    · exact ⟨[], rfl, qiE h (chgE_is (b := true) (.inl k1') (by rw [hK, hc, hn, hm]; rfl))⟩
  have k1' : ¬ c.k = 1 := of_decide_eq_false k1
  refine branch_i (fun k2 => ?_) (fun k2 => ?_) <;> try rw [k2] <;> conv => whnf
  · have k2' : c.k = 2 := of_decide_eq_true k2
    have hK : chgK c = (nilS c && decide (c.col = col0)) := by unfold chgK; rw [if_neg k1', if_pos k2']
    cases hn : nameOk c.t <;> conv => whnf
    · exact ⟨[], rfl, qiE h (chgE_is (b := false) (.inr (.inl k2')) (by rw [hn]; rfl))⟩
    refine .pure (ACall.args (.cons (.refl _) (.cons (chg_sub _ _ _ _ _) (VSubs.refl _))) (evsame_spec (a := c) (b := ⟨c.k, c.t, [], 0, col0⟩) hl ⟨rfl, ?_⟩))
    rw [sm2]
    conv => whnf
    cases hc : (nilS c && decide (c.col = col0)) <;> conv => whnf
    · exact ⟨[], rfl, qiE h (chgE_is (b := false) (.inr (.inl k2')) (by rw [hK, hc]; simp))⟩
    · exact ⟨[], rfl, qiE h (chgE_is (b := true) (.inr (.inl k2')) (by rw [hK, hc, hn]; rfl))⟩
  have k2' : ¬ c.k = 2 := of_decide_eq_false k2
  refine branch_i (fun k3 => ?_) (fun k3 => ?_) <;> try rw [k3] <;> conv => whnf
  focus
    have k35 : c.k = 3 ∨ c.k = 5 := .inl (of_decide_eq_true k3)
  rotate_left
  focus
    have k3' : ¬ c.k = 3 := of_decide_eq_false k3
    refine branch_i (fun k5 => ?_) (fun k5 => ?_) <;> try rw [k5] <;> conv => whnf
  focus
    have k35 : c.k = 3 ∨ c.k = 5 := .inr (of_decide_eq_true k5)
  rotate_left
  focus
    have k5' : ¬ c.k = 5 := of_decide_eq_false k5
    refine branch_i (fun k4 => ?_) (fun k4 => ?_) <;> try rw [k4] <;> conv => whnf
    · have k4' : c.k = 4 := of_decide_eq_true k4
      have hk : c.k = 1 ∨ c.k = 2 ∨ c.k = 3 ∨ c.k = 5 ∨ c.k = 4 := .inr (.inr (.inr (.inr k4')))
      have hK : chgK c = (nilS c && (nameOk c.col.n && (decide (c.col.k = 0) && !c.col.o))) := by
        unfold chgK; rw [if_neg k1', if_neg k2', if_neg (by omega)]
      cases hn : nameOk c.t <;> conv => whnf
      · exact ⟨[], rfl, qiE h (chgE_is (b := false) hk (by rw [hn]; rfl))⟩
      refine .pure (Name_spec ⟨rfl, ?_⟩)
      conv => whnf
      cases hm : nameOk c.col.n <;> conv => whnf
      · exact ⟨[], rfl, qiE h (chgE_is (b := false) hk (by rw [hK, hm]; simp))⟩
      refine .pure (ACall.args (.cons (.refl _) (.cons (chg_sub _ _ _ _ _) (VSubs.refl _))) (evsame_spec (a := c) (b := ⟨c.k, c.t, [], 0, ⟨c.col.n, 0, false⟩⟩) hl ⟨rfl, ?_⟩))
      rw [sm4]
      conv => whnf
      cases hc : (nilS c && (decide (c.col.k = 0) && !c.col.o)) <;> conv => whnf
      · exact ⟨[], rfl, qiE h (chgE_is (b := false) hk (by rw [hK, hm, Bool.true_and, hc]; simp))⟩
      · exact ⟨[], rfl, qiE h (chgE_is (b := true) hk (by rw [hK, hm, Bool.true_and, hc, hn]; rfl))⟩
    · have k4' : ¬ c.k = 4 := of_decide_eq_false k4
      have k3'' : ¬ c.k = 3 := k3'
      exact ⟨[], rfl, qiE h (chgE_bad (by omega))⟩
  all_goals
    have hk : c.k = 1 ∨ c.k = 2 ∨ c.k = 3 ∨ c.k = 5 ∨ c.k = 4 := by omega
    have hK : chgK c = (nilS c && colE c.col) := by
      unfold chgK; rw [if_neg k1', if_neg k2', if_pos k35]
    cases hn : nameOk c.t <;> conv => whnf
    · exact ⟨[], rfl, qiE h (chgE_is (b := false) hk (by rw [hn]; rfl))⟩
    refine .pure (EvColumn_spec (c := c.col) ⟨rfl, ?_⟩)
    conv => whnf
    cases hm : colE c.col <;> conv => whnf
    · exact ⟨[], rfl, qiE h (chgE_is (b := false) hk (by rw [hK, hm]; simp))⟩
    refine .pure (ACall.args (.cons (.refl _) (.cons (chg_sub _ _ _ _ _) (VSubs.refl _))) (evsame_spec (a := c) (b := ⟨c.k, c.t, [], 0, c.col⟩) hl ⟨rfl, ?_⟩))
    rw [sm3]
    conv => whnf
    cases hc : nilS c <;> conv => whnf
    · exact ⟨[], rfl, qiE h (chgE_is (b := false) hk (by rw [hK, hc]; simp))⟩
    · exact ⟨[], rfl, qiE h (chgE_is (b := true) hk (by rw [hK, hc, hn, hm]; rfl))⟩

set_option maxHeartbeats 16000000 in
theorem Raltered_spec {c : Chg} (h : Q (fI (chgE c)) []) : ACall Tryd.prog 43 0 [chA c] [] Q := by
  refine by_body Tryd.func43 0 rfl (Nat.le_of_ble_eq_true rfl) ?_
  conv => whnf
  refine .pure (RName_spec ⟨rfl, ?_⟩)
  conv => whnf
  refine .pure (RName_spec ⟨rfl, ?_⟩)
  conv => whnf
  have hlk := cols_len c.c
  refine branch_i (fun e1 => ?_) (fun e1 => ?_) <;> try rw [e1] <;> conv => whnf
  all_goals
    refine branch_i (fun e2 => ?_) (fun e2 => ?_) <;> try rw [e2] <;> conv => whnf
  all_goals
    refine .pure (Rzero_spec (c := c.col) ⟨rfl, ?_⟩)
    conv => whnf
    refine .pure (RMay_any (l := c.c) (keys := c.ks) ⟨rfl, ?_⟩)
    conv => whnf
    repeat' (refine branch_i (fun e => ?_) (fun e => ?_) <;> try rw [e] <;> conv => whnf)
  all_goals
    refine ⟨[], rfl, qiE h ?_⟩
    unfold chgE chgK nilS colE kOk
    simp_all
    try omega

end Go.Proofs.YtokifgdmddnpoaaDoorPg

/- Rows: copies, and how they turn. -/
namespace Go.Proofs.YtokifgdmddnpoaaDoorPg
open Go Go.RowKit
set_option linter.unusedSimpArgs false
set_option linter.unusedVariables false

variable {Q : V → List O → Prop}

theorem vals_erase (l : List Val) (i : Nat) : vals (l.eraseIdx i) = (vals l).take i ++ (vals l).drop (i + 1) := by
  rw [List.eraseIdx_eq_take_drop_succ]; simp [vals]

/-- a row behind a change -/
def turnS (l : List Col) (k : Int) (c : Col) (r : List Val) : List Val :=
  if k = 3 then r ++ [val0] else if k = 4 then r.eraseIdx (fnd c.n l 0).toNat else if k = 5 then r.set (fnd c.n l 0).toNat val0 else r

theorem set_vals (l : List Val) (i : Nat) (v : Val) : (vals l).set i (valC v) = vals (l.set i v) := by
  simp [vals, List.map_set]

/-- a change that can be -/
def CanTurn (l : List Col) (k : Int) (c : Col) (n : Nat) : Prop := k = 3 ∨ ((k = 4 ∨ k = 5) ∧ 0 < fnd c.n l 0 ∧ fnd c.n l 0 < n)

/-- the document's turn, of the first so many values -/
def rtN (i : Int) (k : Int) (r : List Val) : Nat → List Val
  | 0 => []
  | j + 1 => if (j : Int) = i ∧ k = 5 then rtN i k r j ++ [val0] else if (j : Int) = i ∧ k = 4 then rtN i k r j else rtN i k r j ++ [r.getD j val0]

theorem take_snoc' {r : List Val} {j : Nat} (h : j < r.length) : r.take (j + 1) = r.take j ++ [r.getD j val0] := by
  rw [List.take_add_one, List.getElem?_eq_getElem h]
  simp [List.getD, List.getElem?_eq_getElem h]

theorem rtN_len (i k : Int) (r : List Val) : ∀ j, (rtN i k r j).length ≤ j
  | 0 => by simp [rtN]
  | j + 1 => by
    have := rtN_len i k r j
    unfold rtN
    repeat' split
    all_goals first | (rw [List.length_append, List.length_singleton]; omega) | omega

theorem rtN_3 (i : Int) (r : List Val) : ∀ j, j ≤ r.length → rtN i 3 r j = r.take j
  | 0, _ => by simp [rtN]
  | j + 1, h => by
    rw [rtN, if_neg (by omega), if_neg (by omega), rtN_3 i r j (by omega), take_snoc' (by omega)]

theorem rtN_4 (i : Nat) (r : List Val) : ∀ j, j ≤ r.length → rtN i 4 r j = (r.take j).eraseIdx i
  | 0, _ => by simp [rtN]
  | j + 1, h => by
    have hl : (r.take j).length = j := by rw [List.length_take]; omega
    rw [rtN, if_neg (by omega), rtN_4 i r j (by omega), take_snoc' (by omega)]
    by_cases e : j = i
    · subst e
      rw [if_pos ⟨rfl, rfl⟩, List.eraseIdx_append_of_length_le (by omega), hl]
      simp [List.eraseIdx_of_length_le (show (r.take j).length ≤ j by omega)]
    · rw [if_neg (by omega)]
      rcases Nat.lt_or_ge i j with h1 | h1
      · rw [List.eraseIdx_append_of_lt_length (by omega)]
      · rw [List.eraseIdx_of_length_le (by omega), List.eraseIdx_of_length_le (by rw [List.length_append, List.length_singleton]; omega)]

theorem rtN_5 (i : Nat) (r : List Val) : ∀ j, j ≤ r.length → rtN i 5 r j = (r.take j).set i val0
  | 0, _ => by simp [rtN]
  | j + 1, h => by
    have hl : (r.take j).length = j := by rw [List.length_take]; omega
    rw [rtN, rtN_5 i r j (by omega), take_snoc' (by omega)]
    by_cases e : j = i
    · subst e
      rw [if_pos ⟨rfl, rfl⟩, List.set_append_right _ _ (by omega), hl, List.set_eq_of_length_le (show (r.take j).length ≤ j by omega)]
      simp
    · rw [if_neg (by omega), if_neg (by omega)]
      rcases Nat.lt_or_ge i j with h1 | h1
      · rw [List.set_append_left _ _ (by omega)]
      · rw [List.set_eq_of_length_le (by omega), List.set_eq_of_length_le (by rw [List.length_append, List.length_singleton]; omega)]

theorem turn_eq {l : List Col} {k : Int} {c : Col} {r : List Val} (hc : CanTurn l k c r.length) :
    (if k = 3 then rtN (fnd c.n l 0) k r r.length ++ [val0] else rtN (fnd c.n l 0) k r r.length) = turnS l k c r := by
  unfold turnS
  by_cases c1 : k = 3
  · subst c1; rw [if_pos rfl, if_pos rfl, rtN_3 _ _ _ (Nat.le_refl _), List.take_length]
  obtain ⟨i, hi⟩ : ∃ i : Nat, fnd c.n l 0 = i := ⟨(fnd c.n l 0).toNat, by rcases hc with h1 | ⟨_, h2, _⟩; exact absurd h1 c1; omega⟩
  rw [if_neg c1, if_neg c1, hi, Int.toNat_natCast]
  by_cases c2 : k = 4
  · subst c2; rw [if_pos rfl, rtN_4 _ _ _ (Nat.le_refl _), List.take_length]
  have c3 : k = 5 := by rcases hc with h1 | ⟨h1, _⟩; exact absurd h1 c1; rcases h1 with h1 | h1; exact absurd h1 c2; exact h1
  subst c3
  rw [if_neg (by omega), if_pos rfl, rtN_5 _ _ _ (Nat.le_refl _), List.take_length]

end Go.Proofs.YtokifgdmddnpoaaDoorPg

/- Keys of values: the document's function. -/
namespace Go.Proofs.YtokifgdmddnpoaaDoorPg
open Go Go.RowKit
set_option linter.unusedSimpArgs false
set_option linter.unusedVariables false

variable {Q : V → List O → Prop}

set_option maxHeartbeats 8000000 in
set_option maxRecDepth 10000 in
theorem VKey_spec {l : List Val} {f : Bool} (hl : l.length ≤ 1000) (hv : ∀ v ∈ l, v.t.length ≤ 4096) (h : Q (.str (keyS l)) []) : ACall Tryd.prog 72 0 [.sl 3 (vals l) f] [] Q := by
  have hlv := vals_len l
  refine by_body Tryd.func72 0 rfl (Nat.le_of_ble_eq_true rfl) ?_
  conv => whnf
  refine ⟨⟨[0, 3, 4], fun m ws H => ∃ i : Nat, ws = [.sl 3 (vals l) f, .ms 1 0 0 (bs (keyS (l.take i))).length false, fI i] ∧ H = [.buf (bs (keyS (l.take i)))] ∧ i ≤ l.length ∧ m = l.length - i,
    .frz (l.length + 1) (.adopt (.sub _ _ (.cons (VSub.refl _) (.cons (ms0_row 1 0) (VSubs.refl _))) (HSub.refl _) (.go [0] rfl l.length (by omega) ⟨0, rfl, rfl, by omega, rfl⟩))), ?_⟩⟩
  rintro m ws H ⟨i, rfl, rfl, hi, rfl⟩
  conv => whnf
  refine branch_i (fun c1 => ?_) (fun c1 => ?_) <;> try rw [c1] <;> conv => whnf
  rotate_left
  focus
    have c1' := of_decide_eq_false c1
    rw [List.take_of_length_le (by omega)]
    refine ⟨(by omega : 0 + (bs (keyS l)).length ≤ (bs (keyS l)).length), keyS l, ?_, ?_⟩
    · show bytesOfEs (List.take (bs (keyS l)).length (List.drop 0 (bs (keyS l)))) = _
      rw [List.drop_zero, List.take_length]; exact bytesOfEs_bs _
    conv => whnf
    exact ⟨[], rfl, h⟩
  have c1' := of_decide_eq_true c1
  have hlt : i < l.length := by omega
  have hg : l[i]? = some l[i] := List.getElem?_eq_getElem hlt
  have hvt := hv l[i] (List.getElem_mem hlt)
  generalize l[i] = v at *
  have hsn := keyS_snoc hg
  have hP : (keyS (l.take i)).length ≤ 9000000 := Nat.le_trans (keyS_len fun w hw => hv w (List.mem_of_mem_take hw)) (by rw [List.length_take]; omega)
  generalize hPe : keyS (l.take i) = P at *
  refine ⟨_, ⟨by omega, vals_get hg⟩, ?_⟩
  conv => whnf
  refine ⟨Nat.le_refl _, ?_⟩
  conv => whnf
  refine ⟨rfl, ?_⟩
  conv => whnf
  refine ⟨Nat.le_trans (Nat.mul_le_mul_right _ (by rw [List.length_append, List.length_take, List.drop_zero]; exact Nat.add_le_add (show _ ≤ 9000000 by simp only [bs_len, List.length_append, List.length_cons, List.length_nil, List.length_take, List.length_drop]; omega) (Nat.le_trans (Nat.min_le_left _ _) (by decide)))) (show (9000000 + 2) * 1 ≤ 70368744177664 by omega), ?_⟩
  conv => whnf
  have goI : IntKind.i64.wrap ((i : Int) + 1) = ((i + 1 : Nat) : Int) := by rw [wrapI (by omega)]; rfl
  by_cases k1 : v.k = 1
  focus
    have hk : keyV v = [b8 v.k, b8 v.n] := by unfold keyV keyT; rw [if_pos k1]
    rw [hk] at hsn
    rw [show decide (v.k = 1) = true by simp [k1]]
    conv => whnf
    refine ⟨Nat.le_refl _, ?_⟩
    conv => whnf
    refine ⟨rfl, ?_⟩
    conv => whnf
    refine ⟨Nat.le_trans (Nat.mul_le_mul_right _ (by rw [List.length_append, List.length_take, List.drop_zero]; exact Nat.add_le_add (show _ ≤ 9000001 by simp only [bs_len, List.length_append, List.length_cons, List.length_nil, List.length_take, List.length_drop]; omega) (Nat.le_trans (Nat.min_le_left _ _) (by decide)))) (show (9000001 + 2) * 1 ≤ 70368744177664 by omega), ?_⟩
    conv => whnf
    refine .go [5] rfl (l.length - (i + 1)) (by omega) ⟨i + 1, ?_, ?_, by omega, rfl⟩
    · show [V.sl 3 (vals l) f, V.ms 1 0 0 (bs P ++ [[V.int .u8 (IntKind.u8.wrap v.k)]] ++ [[V.int .u8 (IntKind.u8.wrap v.n)]]).length false, V.int .i64 (IntKind.i64.wrap ((i : Int) + 1))] = _
      rw [goI, hsn]; simp [bs]
    · show [O.buf (bs P ++ [[V.int .u8 (IntKind.u8.wrap v.k)]] ++ [[V.int .u8 (IntKind.u8.wrap v.n)]])] = _
      rw [hsn]; simp [bs, b8_wrap]
  rw [show decide (v.k = 1) = false by simp [k1]]
  conv => whnf
  by_cases k2 : v.k = 2
  focus
    have hk : keyV v = b8 v.k :: beB (keyM v.n) 8 := by unfold keyV keyT; rw [if_neg k1, if_pos k2]
    rw [hk] at hsn
    rw [show decide (v.k = 2) = true by simp [k2]]
    conv => whnf
    refine ⟨⟨[0, 3, 4, 6, 7], fun m ws H => ∃ (j : Nat), ws = [.sl 3 (vals l) f, .ms 1 1 0 (bs (P ++ b8 v.k :: beB (keyM v.n) j)).length false, fI i, .int .u64 (beS (keyM v.n) j), fI j] ∧
      H = [.cells (valC v), .buf (bs (P ++ b8 v.k :: beB (keyM v.n) j))] ∧ j ≤ 8 ∧ m = 8 - j, .frz 9 (.go [1, 3] rfl 8 (by omega) ⟨0, ?_, ?_, by omega, rfl⟩), ?_⟩⟩
    · show [V.sl 3 (vals l) f, V.ms 1 1 0 (bs P ++ [[V.int .u8 (IntKind.u8.wrap v.k)]]).length false, fI i, V.int .u64 (keyM v.n), fI 0] = _
      simp [bs, beB, beS]
    · show [O.cells (valC v), O.buf (bs P ++ [[V.int .u8 (IntKind.u8.wrap v.k)]])] = _
      simp [bs, beB, b8_wrap]
    rintro m ws H ⟨j, rfl, rfl, hj, rfl⟩
    conv => whnf
    have hbl := beB_len (keyM v.n) j
    refine branch_i (fun d1 => ?_) (fun d1 => ?_) <;> try rw [d1] <;> conv => whnf
    focus
      have d1' := of_decide_eq_true d1
      refine ⟨by decide, ?_⟩
      conv => whnf
      refine ⟨Nat.le_refl _, ?_⟩
      conv => whnf
      refine ⟨rfl, ?_⟩
      conv => whnf
      refine ⟨Nat.le_trans (Nat.mul_le_mul_right _ (by rw [List.length_append, List.length_take, List.drop_zero]; exact Nat.add_le_add (show _ ≤ 9000009 by simp only [bs_len, List.length_append, List.length_cons, List.length_nil, List.length_take, List.length_drop]; omega) (Nat.le_trans (Nat.min_le_left _ _) (by decide)))) (show (9000009 + 2) * 1 ≤ 70368744177664 by omega), ?_⟩
      conv => whnf
      refine .go [0, 3] rfl (8 - (j + 1)) (by omega) ⟨j + 1, ?_, ?_, by omega, rfl⟩
      · show [V.sl 3 (vals l) f, V.ms 1 1 0 (bs (P ++ b8 v.k :: beB (keyM v.n) j) ++ [[V.int .u8 (IntKind.u8.wrap (IntKind.u64.wrap ((beS (keyM v.n) j).tdiv 72057594037927936)))]]).length false, fI i, V.int .u64 (IntKind.u64.wrap (beS (keyM v.n) j * 256)), V.int .i64 (IntKind.i64.wrap ((j : Int) + 1))] = _
        rw [wrapI (n := (j : Int) + 1) (by omega)]; simp [bs, beB, beS]
      · show [O.cells (valC v), O.buf (bs (P ++ b8 v.k :: beB (keyM v.n) j) ++ [[V.int .u8 (IntKind.u8.wrap (IntKind.u64.wrap ((beS (keyM v.n) j).tdiv 72057594037927936)))]])] = _
        simp [bs, beB, b8_wrap]
    have d1' := of_decide_eq_false d1
    have hj8 : j = 8 := by omega
    subst hj8
    refine .go [1] rfl (l.length - (i + 1)) (by omega) ⟨i + 1, ?_, ?_, by omega, rfl⟩
    · show [V.sl 3 (vals l) f, V.ms 1 0 0 (bs (P ++ b8 v.k :: beB (keyM v.n) 8)).length false, V.int .i64 (IntKind.i64.wrap ((i : Int) + 1))] = _
      rw [goI, hsn]
    · show [O.buf (bs (P ++ b8 v.k :: beB (keyM v.n) 8))] = _
      rw [hsn]
  rw [show decide (v.k = 2) = false by simp [k2]]
  conv => whnf
  by_cases k34 : v.k = 3 ∨ v.k = 4
  rotate_left
  focus
    have hk : keyV v = [b8 v.k] := by unfold keyV keyT; rw [if_neg k1, if_neg k2, if_neg k34]
    rw [hk] at hsn
    rw [show decide (v.k = 3) = false by simp; omega]
    conv => whnf
    rw [show decide (v.k = 4) = false by simp; omega]
    conv => whnf
    refine .go [3] rfl (l.length - (i + 1)) (by omega) ⟨i + 1, ?_, ?_, by omega, rfl⟩
    · show [V.sl 3 (vals l) f, V.ms 1 0 0 (bs P ++ [[V.int .u8 (IntKind.u8.wrap v.k)]]).length false, V.int .i64 (IntKind.i64.wrap ((i : Int) + 1))] = _
      rw [goI, hsn]; simp [bs]
    · show [O.buf (bs P ++ [[V.int .u8 (IntKind.u8.wrap v.k)]])] = _
      rw [hsn]; simp [bs, b8_wrap]
  have hk : keyV v = b8 v.k :: (escL v.t ++ [0, 1]) := by unfold keyV keyT; rw [if_neg k1, if_neg k2, if_pos k34]
  rw [hk] at hsn
  by_cases k3 : v.k = 3
  focus
    rw [show decide (v.k = 3) = true by simp [k3]]
    conv => whnf
  rotate_left
  focus
    rw [show decide (v.k = 3) = false by simp [k3]]
    conv => whnf
    rw [show decide (v.k = 4) = true by simp; omega]
    conv => whnf
  all_goals
    refine ⟨⟨[0, 3, 4, 5, 8], fun m ws H => ∃ (j : Nat), ws = [.sl 3 (vals l) f, .ms 1 1 0 (bs (P ++ b8 v.k :: escL (v.t.take j))).length false, fI i, .ptr 0 0, fI j] ∧
      H = [.cells (valC v), .buf (bs (P ++ b8 v.k :: escL (v.t.take j)))] ∧ j ≤ v.t.length ∧ m = v.t.length - j, .frz (v.t.length + 1) (.go [1, 3] rfl v.t.length (by omega) ⟨0, ?_, ?_, by omega, rfl⟩), ?_⟩⟩
    · show [V.sl 3 (vals l) f, V.ms 1 1 0 (bs P ++ [[V.int .u8 (IntKind.u8.wrap v.k)]]).length false, fI i, V.ptr 0 0, fI 0] = _
      simp [bs, escL]
    · show [O.cells (valC v), O.buf (bs P ++ [[V.int .u8 (IntKind.u8.wrap v.k)]])] = _
      simp [bs, escL, b8_wrap]
    rintro m ws H ⟨j, rfl, rfl, hj, rfl⟩
    conv => whnf
    have hel := escL_len (v.t.take j)
    rw [List.length_take] at hel
    refine branch_i (fun d1 => ?_) (fun d1 => ?_) <;> try rw [d1] <;> conv => whnf
    focus
      have d1' := of_decide_eq_true d1
      have hjl : j < v.t.length := by omega
      have hgb : v.t[j]? = some v.t[j] := List.getElem?_eq_getElem hjl
      generalize v.t[j] = b at *
      have hes := escL_snoc hgb
      refine ⟨b, ⟨by omega, hgb⟩, ?_⟩
      conv => whnf
      refine ⟨Nat.le_refl _, ?_⟩
      conv => whnf
      refine ⟨rfl, ?_⟩
      conv => whnf
      refine ⟨Nat.le_trans (Nat.mul_le_mul_right _ (by rw [List.length_append, List.length_take, List.drop_zero]; exact Nat.add_le_add (show _ ≤ 9010000 by simp only [bs_len, List.length_append, List.length_cons, List.length_nil, List.length_take, List.length_drop]; omega) (Nat.le_trans (Nat.min_le_left _ _) (by decide)))) (show (9010000 + 2) * 1 ≤ 70368744177664 by omega), ?_⟩
      conv => whnf
      refine ⟨b, ⟨by omega, hgb⟩, ?_⟩
      conv => whnf
      by_cases hb : b = 0
      · subst hb
        conv => whnf
        refine ⟨Nat.le_refl _, ?_⟩
        conv => whnf
        refine ⟨rfl, ?_⟩
        conv => whnf
        refine ⟨Nat.le_trans (Nat.mul_le_mul_right _ (by rw [List.length_append, List.length_take, List.drop_zero]; exact Nat.add_le_add (show _ ≤ 9010001 by simp only [bs_len, List.length_append, List.length_cons, List.length_nil, List.length_take, List.length_drop]; omega) (Nat.le_trans (Nat.min_le_left _ _) (by decide)))) (show (9010001 + 2) * 1 ≤ 70368744177664 by omega), ?_⟩
        conv => whnf
        have he : escB 0 = [0, 255] := rfl
        rw [he] at hes
        refine .go [0, 5] rfl (v.t.length - (j + 1)) (by omega) ⟨j + 1, ?_, ?_, by omega, rfl⟩
        · show [V.sl 3 (vals l) f, V.ms 1 1 0 (bs (P ++ b8 v.k :: escL (v.t.take j)) ++ [[V.int .u8 ((0 : UInt8).toNat : Int)]] ++ [[V.int .u8 255]]).length false, fI i, V.ptr 0 0, V.int .i64 (IntKind.i64.wrap ((j : Int) + 1))] = _
          rw [wrapI (n := (j : Int) + 1) (by omega), hes]; simp [bs]
        · show [O.cells (valC v), O.buf (bs (P ++ b8 v.k :: escL (v.t.take j)) ++ [[V.int .u8 ((0 : UInt8).toNat : Int)]] ++ [[V.int .u8 255]])] = _
          rw [hes]; simp [bs]
      · have hb' : ¬ (b.toNat : Int) = 0 := fun e => hb (by
          have : b.toNat = 0 := by omega
          exact UInt8.toNat_inj.1 (by rw [this]; rfl))
        rw [show decide ((b.toNat : Int) = 0) = false by simp only [hb', decide_false]]
        conv => whnf
        have he : escB b = [b] := by unfold escB; rw [if_neg hb]
        rw [he] at hes
        refine .go [0, 3] rfl (v.t.length - (j + 1)) (by omega) ⟨j + 1, ?_, ?_, by omega, rfl⟩
        · show [V.sl 3 (vals l) f, V.ms 1 1 0 (bs (P ++ b8 v.k :: escL (v.t.take j)) ++ [[V.int .u8 (b.toNat : Int)]]).length false, fI i, V.ptr 0 0, V.int .i64 (IntKind.i64.wrap ((j : Int) + 1))] = _
          rw [wrapI (n := (j : Int) + 1) (by omega), hes]; simp [bs]
        · show [O.cells (valC v), O.buf (bs (P ++ b8 v.k :: escL (v.t.take j)) ++ [[V.int .u8 (b.toNat : Int)]])] = _
          rw [hes]; simp [bs]
    have d1' := of_decide_eq_false d1
    have hjt : j = v.t.length := by omega
    subst hjt
    rw [List.take_length] at hel ⊢
    refine ⟨Nat.le_refl _, ?_⟩
    conv => whnf
    refine ⟨rfl, ?_⟩
    conv => whnf
    refine ⟨Nat.le_trans (Nat.mul_le_mul_right _ (by rw [List.length_append, List.length_take, List.drop_zero]; exact Nat.add_le_add (show _ ≤ 9010000 by simp only [bs_len, List.length_append, List.length_cons, List.length_nil, List.length_take, List.length_drop]; omega) (Nat.le_trans (Nat.min_le_left _ _) (by decide)))) (show (9010000 + 2) * 1 ≤ 70368744177664 by omega), ?_⟩
    conv => whnf
    refine .go [3] rfl (l.length - (i + 1)) (by omega) ⟨i + 1, ?_, ?_, by omega, rfl⟩
    · show [V.sl 3 (vals l) f, V.ms 1 0 0 (bs (P ++ b8 v.k :: escL v.t) ++ [[V.int .u8 0], [V.int .u8 1]]).length false, V.int .i64 (IntKind.i64.wrap ((i : Int) + 1))] = _
      rw [goI, hsn]; simp [bs]
    · show [O.buf (bs (P ++ b8 v.k :: escL v.t) ++ [[V.int .u8 0], [V.int .u8 1]])] = _
      rw [hsn]; simp [bs]

end Go.Proofs.YtokifgdmddnpoaaDoorPg

/- Keys and fits of rows: the document's functions; the laws SchemaBack and SchemaTurns. -/
namespace Go.Proofs.YtokifgdmddnpoaaDoorPg
open Go Go.RowKit
set_option linter.unusedSimpArgs false
set_option linter.unusedVariables false

variable {Q : V → List O → Prop}

def TextsOk (vs : List Val) : Prop := ∀ v ∈ vs, v.t.length < 1000000000000000000

/-- do the first so many values stand? -/
def standN (l : List Col) (vs : List Val) (n : Nat) : Prop := ∀ (i : Nat) (c : Col) (v : Val), i < n → l[i]? = some c → vs[i]? = some v → standsV c v = true

theorem keyOk_no {l : List Col} {keys : Nat} {vs : List Val} {i : Nat} {c : Col} {v : Val} (hi : i < keys) (hc : l[i]? = some c) (hv : vs[i]? = some v) (h : standsV c v = false) : keyOkL l keys vs = false := by
  unfold keyOkL
  have : (List.range keys).all (stAt l vs) = false := by
    rw [Bool.eq_false_iff]
    intro hx
    rw [List.all_eq_true] at hx
    have := hx i (List.mem_range.2 hi)
    rw [stAt_some hc hv, h] at this; cases this
  rw [this, Bool.and_false]

theorem keyOk_yes {l : List Col} {keys : Nat} {vs : List Val} (hk : keys ≤ vs.length) (h : standN l vs keys) : keyOkL l keys vs = true := by
  unfold keyOkL
  rw [decide_eq_true hk, Bool.true_and, List.all_eq_true]
  intro i hi
  exact stAt_yes fun c v => h i c v (List.mem_range.1 hi)

theorem standN_text {l : List Col} {vs : List Val} {n : Nat} (h : standN l vs n) (hn : n ≤ l.length) : ∀ v ∈ vs.take n, v.t.length ≤ 4096 := by
  intro v hv
  obtain ⟨i, hi⟩ := List.mem_iff_getElem?.1 hv
  have hlt := (List.getElem?_eq_some_iff.1 hi).1
  rw [List.length_take] at hlt
  rw [List.getElem?_take_of_lt (by omega)] at hi
  exact stands_text (h i l[i] v (by omega) (List.getElem?_eq_getElem (by omega)) hi)

def keyR (l : List Col) (keys : Nat) (vs : List Val) : V := if keyOkL l keys vs then .tup [.str (keyS (vs.take keys)), fI 0] else .tup [.str [], fI 9]

theorem RKey_spec {l : List Col} {keys : Nat} {vs : List Val} {f : Bool} (hl : l.length ≤ 1000) (hk : keys ≤ l.length) (ht : TextsOk vs) (h : Q (keyR l keys vs) []) :
    ACall Tryd.prog 42 0 [sch l keys, .sl 3 (vals vs) f] [] Q := by
  have hlc := cols_len l
  have hlv := vals_len vs
  refine by_body Tryd.func42 0 rfl (Nat.le_of_ble_eq_true rfl) ?_
  conv => whnf
  unfold keyR at h
  refine branch_i (fun c1 => ?_) (fun c1 => ?_) <;> try rw [c1] <;> conv => whnf
  focus
    have c1' := of_decide_eq_true c1
    have e : keyOkL l keys vs = false := by unfold keyOkL; rw [decide_eq_false (by omega), Bool.false_and]
    rw [e] at h
    exact ⟨[], rfl, h⟩
  have c1' := of_decide_eq_false c1
  refine ⟨⟨[1, 2, 6], fun m ws H => ∃ i : Nat, ws = [.sl 3 (vals vs) f, .ptr 0 0, fI i] ∧ H = [.cells [.sl 3 (cols l) false, fI keys]] ∧ standN l vs i ∧ i ≤ keys ∧ m = keys - i,
    .at keys ⟨0, rfl, rfl, fun i c v hi => by omega, Nat.zero_le _, rfl⟩, ?_⟩⟩
  rintro m ws H ⟨i, rfl, rfl, hs, hi, rfl⟩
  conv => whnf
  refine branch_i (fun c2 => ?_) (fun c2 => ?_) <;> try rw [c2] <;> conv => whnf
  focus
    have c2' := of_decide_eq_true c2
    have hi1 : i < l.length := by omega
    have hi2 : i < vs.length := by omega
    have g1 : l[i]? = some l[i] := List.getElem?_eq_getElem hi1
    have g2 : vs[i]? = some vs[i] := List.getElem?_eq_getElem hi2
    have htt := ht vs[i] (List.getElem_mem hi2)
    generalize l[i] = c at *
    generalize vs[i] = v at *
    refine ⟨List.range 11, by kernel_rfl, by kernel_rfl, ?_⟩
    conv => whnf
    refine ⟨_, ⟨by omega, cols_get g1⟩, ?_⟩
    conv => whnf
    refine ⟨_, ⟨by omega, vals_get g2⟩, ?_⟩
    conv => whnf
    refine .pure (stands_spec (c := c) (v := v) htt ⟨rfl, ?_⟩)
    conv => whnf
    cases e : standsV c v
    · conv => whnf
      rw [keyOk_no (by omega) g1 g2 e] at h
      exact ⟨[], rfl, h⟩
    · conv => whnf
      refine .go [0] rfl (keys - (i + 1)) (by omega) ⟨i + 1, ?_, rfl, fun j c' v' hj hc' hv' => ?_, by omega, rfl⟩
      · show [V.sl 3 (vals vs) f, V.ptr 0 0, V.int .i64 (IntKind.i64.wrap ((i : Int) + 1))] = _
        rw [wrapI (by omega)]; rfl
      · rcases Nat.lt_or_ge j i with h1 | h1
        · exact hs j c' v' h1 hc' hv'
        · have : j = i := by omega
          subst this
          rw [g1] at hc'; rw [g2] at hv'; cases hc'; cases hv'; exact e
  have c2' := of_decide_eq_false c2
  have hie : i = keys := by omega
  subst hie
  rw [keyOk_yes (by omega) hs, if_pos rfl] at h
  refine ⟨⟨by omega, by omega⟩, ?_⟩
  conv => whnf
  rw [Int.toNat_natCast, show List.take i (vals vs) = vals (vs.take i) by simp [vals, List.map_take]]
  refine .pure (VKey_spec (by rw [List.length_take]; omega) (standN_text hs hk) ⟨rfl, ?_⟩)
  conv => whnf
  exact ⟨[], rfl, h⟩

theorem RFits_spec {l : List Col} {keys : Int} {vs : List Val} {f : Bool} (hl : l.length ≤ 1000) (ht : TextsOk vs) (h : Q (.bool (fitsL l vs)) []) :
    ACall Tryd.prog 41 0 [sch l keys, .sl 3 (vals vs) f] [] Q := by
  have hlc := cols_len l
  have hlv := vals_len vs
  refine by_body Tryd.func41 0 rfl (Nat.le_of_ble_eq_true rfl) ?_
  conv => whnf
  refine branch_i (fun c1 => ?_) (fun c1 => ?_) <;> try rw [c1] <;> conv => whnf
  focus
    have e : fitsL l vs = false := by
      unfold fitsL
      rw [decide_eq_false (by simp at c1; omega), Bool.false_and]
    rw [e] at h
    exact ⟨[], rfl, h⟩
  have hlen : vs.length = l.length := by simp at c1; omega
  clear c1
  refine ⟨⟨[1, 2, 5], fun m ws H => ∃ i : Nat, ws = [.sl 3 (vals vs) f, .ptr 0 0, fI i] ∧ H = [.cells [.sl 3 (cols l) false, fI keys]] ∧ standN l vs i ∧ i ≤ vs.length ∧ m = vs.length - i,
    .at _ ⟨0, rfl, rfl, fun i c v hi => by omega, Nat.zero_le _, rfl⟩, ?_⟩⟩
  rintro m ws H ⟨i, rfl, rfl, hs, hi, rfl⟩
  conv => whnf
  refine branch_i (fun c2 => ?_) (fun c2 => ?_) <;> try rw [c2] <;> conv => whnf
  focus
    have c2' := of_decide_eq_true c2
    have hi1 : i < l.length := by omega
    have hi2 : i < vs.length := by omega
    have g1 : l[i]? = some l[i] := List.getElem?_eq_getElem hi1
    have g2 : vs[i]? = some vs[i] := List.getElem?_eq_getElem hi2
    have htt := ht vs[i] (List.getElem_mem hi2)
    generalize l[i] = c at *
    generalize vs[i] = v at *
    refine ⟨List.range 11, by kernel_rfl, by kernel_rfl, ?_⟩
    conv => whnf
    refine ⟨_, ⟨by omega, cols_get g1⟩, ?_⟩
    conv => whnf
    refine ⟨_, ⟨by omega, vals_get g2⟩, ?_⟩
    conv => whnf
    refine .pure (stands_spec (c := c) (v := v) htt ⟨rfl, ?_⟩)
    conv => whnf
    cases e : standsV c v
    · conv => whnf
      have e2 : fitsL l vs = false := by
        have := keyOk_no (keys := vs.length) hi2 g1 g2 e
        unfold keyOkL at this
        unfold fitsL
        rw [decide_eq_true (Nat.le_refl _), Bool.true_and] at this
        rw [this, Bool.and_false]
      rw [e2] at h
      exact ⟨[], rfl, h⟩
    · conv => whnf
      refine .go [0] rfl (vs.length - (i + 1)) (by omega) ⟨i + 1, ?_, rfl, fun j c' v' hj hc' hv' => ?_, by omega, rfl⟩
      · show [V.sl 3 (vals vs) f, V.ptr 0 0, V.int .i64 (IntKind.i64.wrap ((i : Int) + 1))] = _
        rw [wrapI (by omega)]; rfl
      · rcases Nat.lt_or_ge j i with h1 | h1
        · exact hs j c' v' h1 hc' hv'
        · have : j = i := by omega
          subst this
          rw [g1] at hc'; rw [g2] at hv'; cases hc'; cases hv'; exact e
  have c2' := of_decide_eq_false c2
  have hie : i = vs.length := by omega
  subst hie
  rw [fits_yes hlen fun j c v hc hv => hs j c v (List.getElem?_eq_some_iff.1 hv).1 hc hv] at h
  exact ⟨[], rfl, h⟩

end Go.Proofs.YtokifgdmddnpoaaDoorPg
