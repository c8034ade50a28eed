/- Own texts, laid together: Pg06DEv6, Pg06DEvIn. -/
import Derived.Test.YtokifgdmddnpoaaDoorPgM17
/- Events: the example; the law EventSame. -/
namespace Go.Proofs.YtokifgdmddnpoaaDoorPg
open Go Go.RowKit
set_option linter.unusedSimpArgs false
set_option linter.unusedVariables false

variable {Q : V → List O → Prop}

theorem sorted_nil : SortedT [] := List.Pairwise.nil

set_option maxHeartbeats 8000000 in
theorem Write7_spec (h : Q (.tup [.sl 1 (bs [7, 5]) false, fI 0]) []) : ACall Tryd.prog 34 0 [evA ev7, .sl 3 [] false] [] Q := by
  refine ACall.ret (by_body Tryd.func34 0 rfl (Nat.le_of_ble_eq_true rfl) ?_)
  conv => whnf
  refine .pure (May7_spec ⟨rfl, ?_⟩)
  conv => whnf
  refine .pure (EvFind_spec (l := []) (by simp) sorted_nil (by simp) ⟨rfl, ?_⟩)
  conv => whnf
  refine .pure (rowed_spec ⟨rfl, ?_⟩)
  conv => whnf
  refine .frz 1 rfl rfl (by repeat (first | exact trivial | refine And.intro (Nat.le_refl _) ?_)) (.call [] 0 ⟨rfl, rfl, rfl⟩ (WNumber_spec (l := [7]) (f := true) (n := 5) (by decide) (by decide) (by simp) ?_))
  conv => whnf
  refine ⟨[3], rfl, .frz 0 rfl (by repeat (first | exact trivial | refine And.intro (Nat.le_refl _) ?_)) (.done [] rfl ?_)⟩
  exact h

set_option maxHeartbeats 8000000 in
theorem lives06_spec (h : Q (.bool true) []) : ACall Tryd.prog 16 0 [] [] Q := by
  refine by_body Tryd.func16 0 rfl (Nat.le_of_ble_eq_true rfl) ?_
  conv => whnf
  refine .pure (ACall.args (.cons ev7_sub (.cons (nils_sl3 false) (VSubs.refl _))) (Write7_spec ⟨rfl, ?_⟩))
  conv => whnf
  refine ⟨_, ⟨by decide, rfl⟩, ?_⟩
  conv => whnf
  refine ⟨_, ⟨by decide, rfl⟩, ?_⟩
  conv => whnf
  refine .pure (ACall.args (.cons (nils_sl3 false) (VSubs.refl _)) (EvRight_spec (l := []) (f := false) (by simp) ⟨rfl, ?_⟩))
  conv => whnf
  exact ⟨[], rfl, h⟩

structure EvtB (e : Evt) : Prop where
  b : e.b.length ≤ 9223372036854775807
  a : e.a.length ≤ 9223372036854775807

set_option maxHeartbeats 16000000 in
theorem EventSame_spec {a b : Evt} (ha : EvtB a) (hb : EvtB b) : ACall Tryd.prog 5 0 [evA a, evA b] [] (fun v _ => v = .bool true) := by
  refine by_body Tryd.func5 0 rfl (Nat.le_of_ble_eq_true rfl) ?_
  conv => whnf
  refine .pure (EvCut_spec (c := a.ch) ⟨rfl, ?_⟩)
  conv => whnf
  refine .pure (EvCut_spec (c := b.ch) ⟨rfl, ?_⟩)
  conv => whnf
  have bb : ∀ b : Bool, (b == b) = true := fun b => by cases b <;> rfl
  have h1 := ha.b
  have h2 := ha.a
  have h3 := hb.b
  have h4 := hb.a
  have hca := cutL_len a.ch.c
  have hcb := cutL_len b.ch.c
  have ea : ∀ K : List V → Prop, K (evC { a with ch := cutCh a.ch }) → K (evC { a with ch := cutCh a.ch }) := fun _ h => h
  have hsym : decide ({ b with ch := cutCh b.ch } = { a with ch := cutCh a.ch }) = decide ({ a with ch := cutCh a.ch } = { b with ch := cutCh b.ch }) := by
    by_cases e : { a with ch := cutCh a.ch } = { b with ch := cutCh b.ch }
    · rw [decide_eq_true e, decide_eq_true e.symm]
    · rw [decide_eq_false e, decide_eq_false (fun x => e x.symm)]
  refine ⟨[0, 1, 3, 4, 2, 5, 6, 7, 8, 9, 10, 11, 12, 13, 14, 16, 17, 15, 18, 19, 20, 21, 22, 23, 24], by kernel_rfl, by kernel_rfl, ?_⟩
  conv => whnf
  refine .pure (EvSame_spec (a := { a with ch := cutCh a.ch }) (b := { b with ch := cutCh b.ch }) (by show a.b.length < _; omega) (by show a.a.length < _; omega) (by show (cutL a.ch.c).length < _; omega) ⟨rfl, ?_⟩)
  repeat (conv => whnf
          refine ⟨rfl, ?_⟩)
  conv => whnf
  refine .pure (EvRSame_spec (a := { a with ch := cutCh a.ch }) (b := { b with ch := cutCh b.ch }) (by show a.b.length < _; omega) (by show a.a.length < _; omega) (by show (cutL a.ch.c).length < _; omega) ⟨rfl, ?_⟩)
  repeat (conv => whnf
          refine ⟨rfl, ?_⟩)
  conv => whnf
  rw [bb]
  conv => whnf
  refine .pure (EvSame_spec (a := { a with ch := cutCh a.ch }) (b := { a with ch := cutCh a.ch }) (by show a.b.length < _; omega) (by show a.a.length < _; omega) (by show (cutL a.ch.c).length < _; omega) ⟨rfl, ?_⟩)
  rw [decide_eq_true rfl]
  repeat (conv => whnf
          refine ⟨rfl, ?_⟩)
  conv => whnf
  refine .pure (EvSame_spec (a := { b with ch := cutCh b.ch }) (b := { a with ch := cutCh a.ch }) (by show b.b.length < _; omega) (by show b.a.length < _; omega) (by show (cutL b.ch.c).length < _; omega) ⟨rfl, ?_⟩)
  repeat (conv => whnf
          refine ⟨rfl, ?_⟩)
  conv => whnf
  refine .pure (EvSame_spec (a := { a with ch := cutCh a.ch }) (b := { b with ch := cutCh b.ch }) (by show a.b.length < _; omega) (by show a.a.length < _; omega) (by show (cutL a.ch.c).length < _; omega) ⟨rfl, ?_⟩)
  rw [hsym]
  repeat (conv => whnf
          refine ⟨rfl, ?_⟩)
  conv => whnf
  rw [bb]
  repeat (conv => whnf
          refine ⟨rfl, ?_⟩)
  conv => whnf
  refine .pure (lives06_spec ⟨rfl, ?_⟩)
  repeat (conv => whnf
          refine ⟨rfl, ?_⟩)
  conv => whnf
  exact ⟨[], rfl, rfl⟩

end Go.Proofs.YtokifgdmddnpoaaDoorPg

/- Events and tables as arguments. -/
namespace Go.Proofs.YtokifgdmddnpoaaDoorPg
open Go Go.RowKit
set_option linter.unusedSimpArgs false
set_option linter.unusedVariables false

structure ValIn (v : Val) : Prop where
  k : I64 v.k
  n : I64 v.n
  t : v.t.length ≤ Globs.txt

structure ChgIn (c : Chg) : Prop where
  k : I64 c.k
  ks : I64 c.ks
  col : I64 c.col.k
  c : ∀ x ∈ c.c, I64 x.k

structure EvtIn (e : Evt) : Prop extends EvtB e where
  k : I64 e.k
  n : I64 e.n
  vb : ∀ v ∈ e.b, ValIn v
  va : ∀ v ∈ e.a, ValIn v
  ch : ChgIn e.ch

theorem evals_of : ∀ {es : List (List V)}, (∀ x ∈ es, ∃ (k n : Int) (s : List UInt8), x = [.int .i64 k, .int .i64 n, .str s] ∧ I64 k ∧ I64 n ∧ s.length ≤ Globs.txt) → ∃ l : List Val, es = vals l ∧ ∀ v ∈ l, ValIn v
  | [], _ => ⟨[], rfl, by simp⟩
  | x :: es, h => by
    obtain ⟨k, n, s, rfl, h1, h2, h3⟩ := h x (by simp)
    obtain ⟨l, rfl, hl⟩ := evals_of (es := es) fun y hy => h y (by simp [hy])
    refine ⟨⟨k, n, s⟩ :: l, rfl, fun v hv => ?_⟩
    rcases List.mem_cons.1 hv with rfl | hv
    · exact ⟨h1, h2, h3⟩
    · exact hl v hv

theorem vals_len' (l : List Val) : (vals l).length = l.length := vals_len l

theorem ev_in {vs : List V} (h : Shp tt 8 44 vs) : ∃ e : Evt, argV tt 44 vs = evA e ∧ EvtIn e := by
  obtain ⟨_, _, ⟨k, hk, rfl⟩, ⟨_, _, ⟨n, hn, rfl⟩, ⟨_, _, ⟨t, _, rfl⟩, ⟨_, _, ⟨eb, heb, gb, rfl⟩, ⟨_, _, ⟨ea, hea, ga, rfl⟩, ⟨_, _, hch, rfl, rfl⟩, rfl⟩, rfl⟩, rfl⟩, rfl⟩, rfl⟩ := h
  obtain ⟨_, _, ⟨ck, hck, rfl⟩, ⟨_, _, ⟨ct, _, rfl⟩, ⟨_, _, ⟨_, _, ⟨es, _, g1, rfl⟩, ⟨_, _, ⟨ks, hks, rfl⟩, rfl, rfl⟩, rfl⟩, ⟨_, _, ⟨_, _, ⟨cn, _, rfl⟩, ⟨_, _, ⟨cck, hcck, rfl⟩, ⟨_, _, ⟨o, rfl⟩, rfl, rfl⟩, rfl⟩, rfl⟩, rfl, rfl⟩, rfl⟩, rfl⟩, rfl⟩ := hch
  obtain ⟨l, rfl, hl⟩ := cols_of fun x hx => by
    obtain ⟨_, _, ⟨s, _, rfl⟩, ⟨_, _, ⟨k, hk, rfl⟩, ⟨_, _, ⟨o, rfl⟩, rfl, rfl⟩, rfl⟩, rfl⟩ := g1 x hx
    exact ⟨s, k, o, rfl, i64_wf hk⟩
  obtain ⟨lb, rfl, hlb⟩ := evals_of fun x hx => by
    obtain ⟨_, _, ⟨k, hk, rfl⟩, ⟨_, _, ⟨n, hn, rfl⟩, ⟨_, _, ⟨s, hs, rfl⟩, rfl, rfl⟩, rfl⟩, rfl⟩ := gb x hx
    exact ⟨k, n, s, rfl, i64_wf hk, i64_wf hn, hs⟩
  obtain ⟨la, rfl, hla⟩ := evals_of fun x hx => by
    obtain ⟨_, _, ⟨k, hk, rfl⟩, ⟨_, _, ⟨n, hn, rfl⟩, ⟨_, _, ⟨s, hs, rfl⟩, rfl, rfl⟩, rfl⟩, rfl⟩ := ga x hx
    exact ⟨k, n, s, rfl, i64_wf hk, i64_wf hn, hs⟩
  refine ⟨⟨k, n, t, lb, la, ⟨ck, ct, l, ks, ⟨cn, cck, o⟩⟩⟩, rfl, ⟨⟨?_, ?_⟩, i64_wf hk, i64_wf hn, hlb, hla, ⟨i64_wf hck, i64_wf hks, i64_wf hcck, hl⟩⟩⟩
  · rw [vals_len] at heb; exact Nat.le_trans heb (by decide)
  · rw [vals_len] at hea; exact Nat.le_trans hea (by decide)

structure TbIn (t : Tb) : Prop where
  k : I64 t.k
  c : ∀ x ∈ t.c, I64 x.k

theorem tbs_of : ∀ {es : List (List V)}, (∀ x ∈ es, ∃ t : Tb, x = tbC t ∧ TbIn t) → ∃ l : List Tb, es = tbs l ∧ ∀ t ∈ l, TbIn t
  | [], _ => ⟨[], rfl, by simp⟩
  | x :: es, h => by
    obtain ⟨t, rfl, ht⟩ := h x (by simp)
    obtain ⟨l, rfl, hl⟩ := tbs_of (es := es) fun y hy => h y (by simp [hy])
    refine ⟨t :: l, rfl, fun v hv => ?_⟩
    rcases List.mem_cons.1 hv with rfl | hv
    · exact ht
    · exact hl v hv

theorem tbs_in {vs : List V} (h : Shp tt 8 22 vs) : ∃ l : List Tb, argV tt 22 vs = .sl 3 (tbs l) false ∧ ∀ t ∈ l, TbIn t := by
  obtain ⟨es, _, g1, rfl⟩ := h
  obtain ⟨l, rfl, hl⟩ := tbs_of fun x hx => by
    obtain ⟨_, _, ⟨n, _, rfl⟩, ⟨_, _, ⟨_, _, ⟨es, _, g2, rfl⟩, ⟨_, _, ⟨k, hk, rfl⟩, rfl, rfl⟩, rfl⟩, rfl, rfl⟩, rfl⟩ := g1 x hx
    obtain ⟨l, rfl, hl⟩ := cols_of fun x hx => by
      obtain ⟨_, _, ⟨s, _, rfl⟩, ⟨_, _, ⟨k, hk, rfl⟩, ⟨_, _, ⟨o, rfl⟩, rfl, rfl⟩, rfl⟩, rfl⟩ := g2 x hx
      exact ⟨s, k, o, rfl, i64_wf hk⟩
    exact ⟨⟨n, l, k⟩, rfl, i64_wf hk, hl⟩
  exact ⟨l, rfl, hl⟩

end Go.Proofs.YtokifgdmddnpoaaDoorPg
