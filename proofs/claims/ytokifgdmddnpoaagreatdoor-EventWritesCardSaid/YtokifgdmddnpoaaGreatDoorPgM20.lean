/- Own texts, laid together: Pg06ZDIm11, Pg06ZDIm12, Pg06ZDIm13, Pg06ZDIm14, Pg06ZDIm15. -/
import Derived.Test.YtokifgdmddnpoaaGreatDoorPgM19
import Derived.Test.YtokifgdmddnpoaaGreatDoorPgM18
/- event.Read (the program's). -/
namespace Go.Proofs.YtokifgdmddnpoaaGreatDoorPg
open Go Go.RowKit
set_option linter.unusedSimpArgs false
set_option linter.unusedVariables false

variable {Q : V → List O → Prop}

def km : Nat → List (V × V)
  | 0 => [(.int .i64 3, .fn (.func 69) [] []), (.int .i64 4, .fn (.func 69) [] []), (.int .i64 5, .fn (.func 70) [] []), (.int .i64 6, .fn (.func 71) [] [])]
  | i + 1 => if numK ((i + 1 : Nat) : Int) then km i ++ [(.int .i64 ((i + 1 : Nat) : Int), .fn (.func 72) [] [])] else km i

/-- which function reads which kind -/
def kms : List (V × V) := [(.int .i64 3, .fn (.func 69) [] []), (.int .i64 4, .fn (.func 69) [] []), (.int .i64 5, .fn (.func 70) [] []), (.int .i64 6, .fn (.func 71) [] []),
  (.int .i64 1, .fn (.func 72) [] []), (.int .i64 2, .fn (.func 72) [] []), (.int .i64 7, .fn (.func 72) [] []), (.int .i64 8, .fn (.func 72) [] []), (.int .i64 9, .fn (.func 72) [] []), (.int .i64 10, .fn (.func 72) [] [])]

set_option maxHeartbeats 16000000 in
theorem Kinds_spec (h : Q (.map 0) [.map kms 10]) : ACall Tryz.prog 38 0 [] [] Q := by
  refine by_body Tryz.func38 0 rfl (Nat.le_of_ble_eq_true rfl) ?_
  conv => whnf
  refine ⟨⟨[1, 2], fun mm ws H => ∃ i : Nat, ws = [.map 0, fI (i + 1 : Nat)] ∧ H = [.map (kms.take (if i < 2 then 4 + i else if i < 6 then 6 else i)) (if i < 2 then 4 + i else if i < 6 then 6 else i)] ∧ i ≤ 10 ∧ mm = 10 - i, .at 10 ⟨0, rfl, rfl, by omega, rfl⟩, ?_⟩⟩
  rintro mm ws H ⟨i, rfl, rfl, hi, rfl⟩
  rcases (by omega : i = 0 ∨ i = 1 ∨ i = 2 ∨ i = 3 ∨ i = 4 ∨ i = 5 ∨ i = 6 ∨ i = 7 ∨ i = 8 ∨ i = 9 ∨ i = 10) with rfl | rfl | rfl | rfl | rfl | rfl | rfl | rfl | rfl | rfl | rfl
  focus
    conv => whnf
    refine .pure (numbered_spec ⟨rfl, ?_⟩)
    conv => whnf
    exact .go [0] rfl 9 (by omega) ⟨1, rfl, rfl, by omega, rfl⟩
  focus
    conv => whnf
    refine .pure (numbered_spec ⟨rfl, ?_⟩)
    conv => whnf
    exact .go [0] rfl 8 (by omega) ⟨2, rfl, rfl, by omega, rfl⟩
  focus
    conv => whnf
    refine .pure (numbered_spec ⟨rfl, ?_⟩)
    conv => whnf
    exact .go [0] rfl 7 (by omega) ⟨3, rfl, rfl, by omega, rfl⟩
  focus
    conv => whnf
    refine .pure (numbered_spec ⟨rfl, ?_⟩)
    conv => whnf
    exact .go [0] rfl 6 (by omega) ⟨4, rfl, rfl, by omega, rfl⟩
  focus
    conv => whnf
    refine .pure (numbered_spec ⟨rfl, ?_⟩)
    conv => whnf
    exact .go [0] rfl 5 (by omega) ⟨5, rfl, rfl, by omega, rfl⟩
  focus
    conv => whnf
    refine .pure (numbered_spec ⟨rfl, ?_⟩)
    conv => whnf
    exact .go [0] rfl 4 (by omega) ⟨6, rfl, rfl, by omega, rfl⟩
  focus
    conv => whnf
    refine .pure (numbered_spec ⟨rfl, ?_⟩)
    conv => whnf
    exact .go [0] rfl 3 (by omega) ⟨7, rfl, rfl, by omega, rfl⟩
  focus
    conv => whnf
    refine .pure (numbered_spec ⟨rfl, ?_⟩)
    conv => whnf
    exact .go [0] rfl 2 (by omega) ⟨8, rfl, rfl, by omega, rfl⟩
  focus
    conv => whnf
    refine .pure (numbered_spec ⟨rfl, ?_⟩)
    conv => whnf
    exact .go [0] rfl 1 (by omega) ⟨9, rfl, rfl, by omega, rfl⟩
  focus
    conv => whnf
    refine .pure (numbered_spec ⟨rfl, ?_⟩)
    conv => whnf
    exact .go [0] rfl 0 (by omega) ⟨10, rfl, rfl, by omega, rfl⟩
  focus
    conv => whnf
    exact ⟨[0], rfl, h⟩

/-! ### what reads an event of a kind -/
theorem reads_row {l : List Tb} {s : List UInt8} {f : Bool} {e k : Int} (hl : TbsB l) (hs : s.length ≤ 1000000) (hk : k = 3 ∨ k = 4)
    (h1 : ∀ ev s' e', pEv k l s e = some (ev, s', e') → Q (.bool true) [rdrO 2 l 0, .cells (evC ev), rdO s' f e'])
    (h0 : pEv k l s e = none → ∀ ev s' e', Q (.bool false) [rdrO 2 l (if pMiss k l s e then 7 else 0), .cells (evC ev), rdO s' f e']) :
    ACall Tryz.prog 69 3 [.ptr 0 0, .ptr 1 0] [rdrO 2 l 0, .cells (evC ⟨k, 0, [], [], [], chg0⟩), rdO s f e] Q := by
  have hr : rowK k = true := by rcases hk with rfl | rfl <;> rfl
  unfold pEv at h1 h0
  rw [if_pos hk] at h1 h0
  unfold pMiss at h0
  rw [hr, Bool.true_and] at h0
  refine ERow_spec hl hs (fun t vs s' e' hp => ?_) (fun hp ev s' e' => ?_)
  · rw [hp] at h1; exact h1 _ _ _ rfl
  · rw [hp] at h0; exact h0 rfl ev s' e'

theorem reads_key {l : List Tb} {s : List UInt8} {f : Bool} {e : Int} (hl : TbsB l) (hs : s.length ≤ 1000000)
    (h1 : ∀ ev s' e', pEv 5 l s e = some (ev, s', e') → Q (.bool true) [rdrO 2 l 0, .cells (evC ev), rdO s' f e'])
    (h0 : pEv 5 l s e = none → ∀ ev s' e', Q (.bool false) [rdrO 2 l (if pMiss 5 l s e then 7 else 0), .cells (evC ev), rdO s' f e']) :
    ACall Tryz.prog 70 3 [.ptr 0 0, .ptr 1 0] [rdrO 2 l 0, .cells (evC ⟨5, 0, [], [], [], chg0⟩), rdO s f e] Q := by
  unfold pEv at h1 h0
  rw [if_neg (by decide), if_pos rfl] at h1 h0
  unfold pMiss at h0
  rw [show rowK 5 = true from rfl, Bool.true_and] at h0
  refine EKey_spec hl hs (fun t vs s' e' hp => ?_) (fun hp ev s' e' => ?_)
  · rw [hp] at h1; exact h1 _ _ _ rfl
  · rw [hp] at h0; exact h0 rfl ev s' e'

theorem reads_chg {l : List Tb} {s : List UInt8} {f : Bool} {e : Int}
    (h1 : ∀ ev s' e', pEv 6 l s e = some (ev, s', e') → Q (.bool true) [rdrO 2 l 0, .cells (evC ev), rdO s' f e'])
    (h0 : pEv 6 l s e = none → ∀ ev s' e', Q (.bool false) [rdrO 2 l (if pMiss 6 l s e then 7 else 0), .cells (evC ev), rdO s' f e']) :
    ACall Tryz.prog 71 3 [.ptr 0 0, .ptr 1 0] [rdrO 2 l 0, .cells (evC ⟨6, 0, [], [], [], chg0⟩), rdO s f e] Q := by
  unfold pEv at h1 h0
  rw [if_neg (by decide), if_neg (by decide), if_pos rfl] at h1 h0
  unfold pMiss at h0
  rw [show rowK 6 = false from rfl, Bool.false_and] at h0
  refine EChg_spec (fun c s' e' hp => ?_) (fun hp c s' e' => ?_)
  · rw [hp] at h1; exact h1 _ _ _ rfl
  · rw [hp] at h0; exact h0 rfl ⟨6, 0, [], [], [], c⟩ s' e'

theorem reads_num {l : List Tb} {s : List UInt8} {f : Bool} {e k : Int} (hk : numK k = true)
    (h1 : ∀ ev s' e', pEv k l s e = some (ev, s', e') → Q (.bool true) [rdrO 2 l 0, .cells (evC ev), rdO s' f e'])
    (h0 : pEv k l s e = none → ∀ ev s' e', Q (.bool false) [rdrO 2 l (if pMiss k l s e then 7 else 0), .cells (evC ev), rdO s' f e']) :
    ACall Tryz.prog 72 3 [.ptr 0 0, .ptr 1 0] [rdrO 2 l 0, .cells (evC ⟨k, 0, [], [], [], chg0⟩), rdO s f e] Q := by
  have hk' := numK_is hk
  unfold pEv at h1 h0
  rw [if_neg (by omega), if_neg (by omega), if_neg (by omega), if_pos hk] at h1 h0
  exact ENum_spec (h1 _ _ _ rfl)

theorem pEv_miss {k : Int} {l : List Tb} {s : List UInt8} {e : Int} {x : Evt × List UInt8 × Int} (h : pEv k l s e = some x) : pMiss k l s e = false := by
  unfold pEv at h
  unfold pMiss
  split at h
  · split at h
    · rename_i hp
      unfold pRow at hp
      split at hp
      · cases hp
      · rename_i hf; rw [hf]; simp
    · cases h
  split at h
  · split at h
    · rename_i hp
      unfold pKey at hp
      split at hp
      · cases hp
      · rename_i hf; rw [hf]; simp
    · cases h
  · have : rowK k = false := by unfold rowK; simp; omega
    rw [this]; rfl

theorem pCols_len : ∀ (m : Nat) (acc : List Col) (s : List UInt8) (e : Int) (x : List Col × List UInt8 × Int), pCols m acc s e = some x → x.1.length = acc.length + m := by
  intro m
  induction m with
  | zero => intro acc s e x h; simp only [pCols, Option.some.injEq] at h; subst h; rfl
  | succ m ih =>
    intro acc s e x h
    simp only [pCols] at h
    split at h
    · cases h
    · have := ih _ _ _ _ h
      rw [this, List.length_append, List.length_singleton]; omega

theorem pTail_len {k : Int} {t s : List UInt8} {e : Int} {x : Chg × List UInt8 × Int} (h : pTail k t s e = some x) : x.1.c.length < 1000000 := by
  unfold pTail at h
  split at h
  · split at h
    · rename_i hp
      have := pCols_len _ _ _ _ _ hp
      have hb := rByt_bd (sB s e).1 (sB s e).2
      simp only [List.length_nil] at this
      cases h
      simp only; omega
    · cases h
  split at h
  · split at h
    · cases h; simp
    · cases h
  split at h
  · cases h; simp
  · cases h; simp

theorem row_T {C : List Col} {vs : List Val} {s : List UInt8} {e : Int} (hC : C.length ≤ 16) (hs : s.length ≤ 1000000) (h : rRow C s e = some vs) : TextsOk vs ∧ vs.length < 9223372036854775808 := by
  obtain ⟨h1, h2⟩ := rRow_bd h
  exact ⟨fun v hv => by have := (h2 v hv).1; omega, by omega⟩

theorem sT_len (m : Int) (s : List UInt8) (e : Int) : (sT m s e).1.length ≤ s.length := (rTxt_len m s e).1

theorem pEv_T {k : Int} {l : List Tb} {s : List UInt8} {e : Int} {x : Evt × List UInt8 × Int} (hl : TbsB l) (hs : s.length ≤ 1000000) (h : pEv k l s e = some x) : EvtT x.1 := by
  unfold pEv at h
  split at h
  · split at h
    · rename_i hp
      cases h
      unfold pRow at hp
      split at hp
      · cases hp
      rename_i C K hf
      split at hp
      · cases hp
      rename_i vs hr
      simp only [Option.some.injEq, Prod.mk.injEq] at hp
      obtain ⟨_, rfl, _⟩ := hp
      obtain ⟨_, hC, _⟩ := hl.found hf
      have := sT_len s.length s e
      obtain ⟨h1, h2⟩ := row_T hC (by omega) hr
      exact ⟨textsOk_nil, h1, by simp, h2, by simp [chg0]⟩
    · cases h
  split at h
  · split at h
    · rename_i hp
      cases h
      unfold pKey at hp
      split at hp
      · cases hp
      rename_i C K hf
      split at hp
      · cases hp
      rename_i vs hr
      simp only [Option.some.injEq, Prod.mk.injEq] at hp
      obtain ⟨_, rfl, _⟩ := hp
      obtain ⟨_, hC, _⟩ := hl.found hf
      have := sT_len s.length s e
      obtain ⟨h1, h2⟩ := row_T (by rw [List.length_take]; omega) (by omega) hr
      exact ⟨h1, textsOk_nil, h2, by simp, by simp [chg0]⟩
    · cases h
  split at h
  · split at h
    · rename_i hp
      cases h
      unfold pChg at hp
      exact evt6 _ _ (pTail_len hp)
    · cases h
  split at h
  · cases h
    exact evt0 _ _ _
  · cases h

def evtZ : Evt := ⟨0, 0, [], [], [], chg0⟩
def prdR (b : List UInt8) (l : List Tb) : Evt × Int := match prd b l with
  | some ev => if mayE ev l = 0 then (ev, 0) else (evtZ, if pMiss (rByt b 0).1 l (sB b 0).1 (sB b 0).2 then 7 else 2)
  | none => (evtZ, if pMiss (rByt b 0).1 l (sB b 0).1 (sB b 0).2 then 7 else 2)

theorem ev_subZ (k : Int) : VSubs [.int .i64 k, .int .i64 0, .str [], .nils, .nils, .int .i64 0, .str [], .nils, .int .i64 0, .str [], .int .i64 0, .bool false] (evC ⟨k, 0, [], [], [], chg0⟩) :=
  .cons (.refl _) (.cons (.refl _) (.cons (.refl _) (.cons (nils_sl3 false) (.cons (nils_sl3 false) (.cons (.refl _) (.cons (.refl _) (.cons (nils_sl3 false) (VSubs.refl _))))))))

set_option maxHeartbeats 32000000 in
set_option maxRecDepth 8000 in
theorem EvRead_spec {b : List UInt8} {f : Bool} {l : List Tb} (hl : TbsB l) (hb : b.length ≤ 1000000)
    (h : Q (.tup [evA (prdR b l).1, fI (prdR b l).2]) []) : ACall Tryz.prog 11 0 [.sl 1 (bs b) f, .sl 3 (tbs l) false] [] Q := by
  refine ACall.ret (by_body Tryz.func11 0 rfl (Nat.le_of_ble_eq_true rfl) ?_)
  conv => whnf
  refine .call [] 0 ⟨rfl, rfl, rfl⟩ (Read_spec ?_)
  conv => whnf
  refine .call [1] 1 ⟨rfl, rfl, rfl⟩ (Byte_spec ?_)
  unfold prdR prd at h
  have hsl : (sB b 0).1.length ≤ b.length := (rByt_len b 0).1
  unfold sB at h hsl
  generalize (rByt b 0).1 = k at *
  generalize (rByt b 0).2.1 = s1 at *
  generalize (rByt b 0).2.2 = e1 at *
  conv => whnf
  refine ⟨[1, 2, 0, 3, 4], by kernel_rfl, by kernel_rfl, ?_⟩
  conv => whnf
  refine .call [] 0 ⟨rfl, rfl, rfl⟩ (Kinds_spec ?_)
  repeat (conv => whnf
          refine ⟨rfl, ?_⟩)
  conv => whnf
  refine branch_i (fun q3 => ?_) (fun q3 => ?_) <;> try rw [q3] <;> conv => whnf
  focus
    have q' := of_decide_eq_true q3
    subst q'
    refine ACalls.sub _ _ rfl (VSubs.refl _) (.cons (.refl _) (.cons (.refl _) (.cons (.refl _) (.cons (.cells (ev_subZ _)) (HSub.refl _))))) (.call [2, 3, 1] 3 ⟨rfl, rfl, rfl⟩ (reads_row hl (by omega) (.inl rfl) (fun ev s' e' hp => ?_) (fun hp ev s' e' => ?_)))
    focus
      have hT := pEv_T hl (by omega) hp
      have hMi := pEv_miss hp
      rw [hp, hMi] at h
      simp only at h hT
      conv => whnf
      refine .call [1] 1 ⟨rfl, rfl, rfl⟩ (End_spec ?_)
      generalize endE s' e' = en at *
      conv => whnf
      refine branch_i (fun c1 => ?_) (fun c1 => ?_) <;> try rw [c1] <;> conv => whnf
      focus
        have c1' : ¬ en = 0 := by simpa using c1
        rw [if_neg c1'] at h
        exact ⟨[], rfl, .sub _ _ (.tup (.cons (.agg (ev_subZ 0)) (VSubs.refl _))) (HSub.refl _) (.done [] rfl h)⟩
      have c1' : en = 0 := by simpa using c1
      rw [if_pos c1'] at h
      refine .pure (EvMay_spec (e := ev) hl hT ⟨rfl, ?_⟩)
      conv => whnf
      refine branch_i (fun c2 => ?_) (fun c2 => ?_) <;> try rw [c2] <;> conv => whnf
      focus
        have c2' : ¬ mayE ev l = 0 := by simpa using c2
        simp only [if_neg c2'] at h
        exact ⟨[], rfl, .sub _ _ (.tup (.cons (.agg (ev_subZ 0)) (VSubs.refl _))) (HSub.refl _) (.done [] rfl h)⟩
      focus
        have c2' : mayE ev l = 0 := by simpa using c2
        simp only [if_pos c2'] at h
        exact ⟨[], rfl, .done [] rfl h⟩
    focus
      rw [hp] at h
      simp only at h
      cases hmi : pMiss 3 l s1 e1 <;> rw [hmi] at h <;> conv => whnf
      · exact ⟨[], rfl, .sub _ _ (.tup (.cons (.agg (ev_subZ 0)) (VSubs.refl _))) (HSub.refl _) (.done [] rfl h)⟩
      · exact ⟨[], rfl, .sub _ _ (.tup (.cons (.agg (ev_subZ 0)) (VSubs.refl _))) (HSub.refl _) (.done [] rfl h)⟩
  have n3 := of_decide_eq_false q3
  refine branch_i (fun q4 => ?_) (fun q4 => ?_) <;> try rw [q4] <;> conv => whnf
  focus
    have q' := of_decide_eq_true q4
    subst q'
    refine ACalls.sub _ _ rfl (VSubs.refl _) (.cons (.refl _) (.cons (.refl _) (.cons (.refl _) (.cons (.cells (ev_subZ _)) (HSub.refl _))))) (.call [2, 3, 1] 3 ⟨rfl, rfl, rfl⟩ (reads_row hl (by omega) (.inr rfl) (fun ev s' e' hp => ?_) (fun hp ev s' e' => ?_)))
    focus
      have hT := pEv_T hl (by omega) hp
      have hMi := pEv_miss hp
      rw [hp, hMi] at h
      simp only at h hT
      conv => whnf
      refine .call [1] 1 ⟨rfl, rfl, rfl⟩ (End_spec ?_)
      generalize endE s' e' = en at *
      conv => whnf
      refine branch_i (fun c1 => ?_) (fun c1 => ?_) <;> try rw [c1] <;> conv => whnf
      focus
        have c1' : ¬ en = 0 := by simpa using c1
        rw [if_neg c1'] at h
        exact ⟨[], rfl, .sub _ _ (.tup (.cons (.agg (ev_subZ 0)) (VSubs.refl _))) (HSub.refl _) (.done [] rfl h)⟩
      have c1' : en = 0 := by simpa using c1
      rw [if_pos c1'] at h
      refine .pure (EvMay_spec (e := ev) hl hT ⟨rfl, ?_⟩)
      conv => whnf
      refine branch_i (fun c2 => ?_) (fun c2 => ?_) <;> try rw [c2] <;> conv => whnf
      focus
        have c2' : ¬ mayE ev l = 0 := by simpa using c2
        simp only [if_neg c2'] at h
        exact ⟨[], rfl, .sub _ _ (.tup (.cons (.agg (ev_subZ 0)) (VSubs.refl _))) (HSub.refl _) (.done [] rfl h)⟩
      focus
        have c2' : mayE ev l = 0 := by simpa using c2
        simp only [if_pos c2'] at h
        exact ⟨[], rfl, .done [] rfl h⟩
    focus
      rw [hp] at h
      simp only at h
      cases hmi : pMiss 4 l s1 e1 <;> rw [hmi] at h <;> conv => whnf
      · exact ⟨[], rfl, .sub _ _ (.tup (.cons (.agg (ev_subZ 0)) (VSubs.refl _))) (HSub.refl _) (.done [] rfl h)⟩
      · exact ⟨[], rfl, .sub _ _ (.tup (.cons (.agg (ev_subZ 0)) (VSubs.refl _))) (HSub.refl _) (.done [] rfl h)⟩
  have n4 := of_decide_eq_false q4
  refine branch_i (fun q5 => ?_) (fun q5 => ?_) <;> try rw [q5] <;> conv => whnf
  focus
    have q' := of_decide_eq_true q5
    subst q'
    refine ACalls.sub _ _ rfl (VSubs.refl _) (.cons (.refl _) (.cons (.refl _) (.cons (.refl _) (.cons (.cells (ev_subZ _)) (HSub.refl _))))) (.call [2, 3, 1] 3 ⟨rfl, rfl, rfl⟩ (reads_key hl (by omega) (fun ev s' e' hp => ?_) (fun hp ev s' e' => ?_)))
    focus
      have hT := pEv_T hl (by omega) hp
      have hMi := pEv_miss hp
      rw [hp, hMi] at h
      simp only at h hT
      conv => whnf
      refine .call [1] 1 ⟨rfl, rfl, rfl⟩ (End_spec ?_)
      generalize endE s' e' = en at *
      conv => whnf
      refine branch_i (fun c1 => ?_) (fun c1 => ?_) <;> try rw [c1] <;> conv => whnf
      focus
        have c1' : ¬ en = 0 := by simpa using c1
        rw [if_neg c1'] at h
        exact ⟨[], rfl, .sub _ _ (.tup (.cons (.agg (ev_subZ 0)) (VSubs.refl _))) (HSub.refl _) (.done [] rfl h)⟩
      have c1' : en = 0 := by simpa using c1
      rw [if_pos c1'] at h
      refine .pure (EvMay_spec (e := ev) hl hT ⟨rfl, ?_⟩)
      conv => whnf
      refine branch_i (fun c2 => ?_) (fun c2 => ?_) <;> try rw [c2] <;> conv => whnf
      focus
        have c2' : ¬ mayE ev l = 0 := by simpa using c2
        simp only [if_neg c2'] at h
        exact ⟨[], rfl, .sub _ _ (.tup (.cons (.agg (ev_subZ 0)) (VSubs.refl _))) (HSub.refl _) (.done [] rfl h)⟩
      focus
        have c2' : mayE ev l = 0 := by simpa using c2
        simp only [if_pos c2'] at h
        exact ⟨[], rfl, .done [] rfl h⟩
    focus
      rw [hp] at h
      simp only at h
      cases hmi : pMiss 5 l s1 e1 <;> rw [hmi] at h <;> conv => whnf
      · exact ⟨[], rfl, .sub _ _ (.tup (.cons (.agg (ev_subZ 0)) (VSubs.refl _))) (HSub.refl _) (.done [] rfl h)⟩
      · exact ⟨[], rfl, .sub _ _ (.tup (.cons (.agg (ev_subZ 0)) (VSubs.refl _))) (HSub.refl _) (.done [] rfl h)⟩
  have n5 := of_decide_eq_false q5
  refine branch_i (fun q6 => ?_) (fun q6 => ?_) <;> try rw [q6] <;> conv => whnf
  focus
    have q' := of_decide_eq_true q6
    subst q'
    refine ACalls.sub _ _ rfl (VSubs.refl _) (.cons (.refl _) (.cons (.refl _) (.cons (.refl _) (.cons (.cells (ev_subZ _)) (HSub.refl _))))) (.call [2, 3, 1] 3 ⟨rfl, rfl, rfl⟩ (reads_chg (fun ev s' e' hp => ?_) (fun hp ev s' e' => ?_)))
    focus
      have hT := pEv_T hl (by omega) hp
      have hMi := pEv_miss hp
      rw [hp, hMi] at h
      simp only at h hT
      conv => whnf
      refine .call [1] 1 ⟨rfl, rfl, rfl⟩ (End_spec ?_)
      generalize endE s' e' = en at *
      conv => whnf
      refine branch_i (fun c1 => ?_) (fun c1 => ?_) <;> try rw [c1] <;> conv => whnf
      focus
        have c1' : ¬ en = 0 := by simpa using c1
        rw [if_neg c1'] at h
        exact ⟨[], rfl, .sub _ _ (.tup (.cons (.agg (ev_subZ 0)) (VSubs.refl _))) (HSub.refl _) (.done [] rfl h)⟩
      have c1' : en = 0 := by simpa using c1
      rw [if_pos c1'] at h
      refine .pure (EvMay_spec (e := ev) hl hT ⟨rfl, ?_⟩)
      conv => whnf
      refine branch_i (fun c2 => ?_) (fun c2 => ?_) <;> try rw [c2] <;> conv => whnf
      focus
        have c2' : ¬ mayE ev l = 0 := by simpa using c2
        simp only [if_neg c2'] at h
        exact ⟨[], rfl, .sub _ _ (.tup (.cons (.agg (ev_subZ 0)) (VSubs.refl _))) (HSub.refl _) (.done [] rfl h)⟩
      focus
        have c2' : mayE ev l = 0 := by simpa using c2
        simp only [if_pos c2'] at h
        exact ⟨[], rfl, .done [] rfl h⟩
    focus
      rw [hp] at h
      simp only at h
      cases hmi : pMiss 6 l s1 e1 <;> rw [hmi] at h <;> conv => whnf
      · exact ⟨[], rfl, .sub _ _ (.tup (.cons (.agg (ev_subZ 0)) (VSubs.refl _))) (HSub.refl _) (.done [] rfl h)⟩
      · exact ⟨[], rfl, .sub _ _ (.tup (.cons (.agg (ev_subZ 0)) (VSubs.refl _))) (HSub.refl _) (.done [] rfl h)⟩
  have n6 := of_decide_eq_false q6
  refine branch_i (fun q1 => ?_) (fun q1 => ?_) <;> try rw [q1] <;> conv => whnf
  focus
    have q' := of_decide_eq_true q1
    subst q'
    refine ACalls.sub _ _ rfl (VSubs.refl _) (.cons (.refl _) (.cons (.refl _) (.cons (.refl _) (.cons (.cells (ev_subZ _)) (HSub.refl _))))) (.call [2, 3, 1] 3 ⟨rfl, rfl, rfl⟩ (reads_num rfl (fun ev s' e' hp => ?_) (fun hp ev s' e' => ?_)))
    focus
      have hT := pEv_T hl (by omega) hp
      have hMi := pEv_miss hp
      rw [hp, hMi] at h
      simp only at h hT
      conv => whnf
      refine .call [1] 1 ⟨rfl, rfl, rfl⟩ (End_spec ?_)
      generalize endE s' e' = en at *
      conv => whnf
      refine branch_i (fun c1 => ?_) (fun c1 => ?_) <;> try rw [c1] <;> conv => whnf
      focus
        have c1' : ¬ en = 0 := by simpa using c1
        rw [if_neg c1'] at h
        exact ⟨[], rfl, .sub _ _ (.tup (.cons (.agg (ev_subZ 0)) (VSubs.refl _))) (HSub.refl _) (.done [] rfl h)⟩
      have c1' : en = 0 := by simpa using c1
      rw [if_pos c1'] at h
      refine .pure (EvMay_spec (e := ev) hl hT ⟨rfl, ?_⟩)
      conv => whnf
      refine branch_i (fun c2 => ?_) (fun c2 => ?_) <;> try rw [c2] <;> conv => whnf
      focus
        have c2' : ¬ mayE ev l = 0 := by simpa using c2
        simp only [if_neg c2'] at h
        exact ⟨[], rfl, .sub _ _ (.tup (.cons (.agg (ev_subZ 0)) (VSubs.refl _))) (HSub.refl _) (.done [] rfl h)⟩
      focus
        have c2' : mayE ev l = 0 := by simpa using c2
        simp only [if_pos c2'] at h
        exact ⟨[], rfl, .done [] rfl h⟩
    focus
      rw [hp] at h
      simp only at h
      cases hmi : pMiss 1 l s1 e1 <;> rw [hmi] at h <;> conv => whnf
      · exact ⟨[], rfl, .sub _ _ (.tup (.cons (.agg (ev_subZ 0)) (VSubs.refl _))) (HSub.refl _) (.done [] rfl h)⟩
      · exact ⟨[], rfl, .sub _ _ (.tup (.cons (.agg (ev_subZ 0)) (VSubs.refl _))) (HSub.refl _) (.done [] rfl h)⟩
  have n1 := of_decide_eq_false q1
  refine branch_i (fun q2 => ?_) (fun q2 => ?_) <;> try rw [q2] <;> conv => whnf
  focus
    have q' := of_decide_eq_true q2
    subst q'
    refine ACalls.sub _ _ rfl (VSubs.refl _) (.cons (.refl _) (.cons (.refl _) (.cons (.refl _) (.cons (.cells (ev_subZ _)) (HSub.refl _))))) (.call [2, 3, 1] 3 ⟨rfl, rfl, rfl⟩ (reads_num rfl (fun ev s' e' hp => ?_) (fun hp ev s' e' => ?_)))
    focus
      have hT := pEv_T hl (by omega) hp
      have hMi := pEv_miss hp
      rw [hp, hMi] at h
      simp only at h hT
      conv => whnf
      refine .call [1] 1 ⟨rfl, rfl, rfl⟩ (End_spec ?_)
      generalize endE s' e' = en at *
      conv => whnf
      refine branch_i (fun c1 => ?_) (fun c1 => ?_) <;> try rw [c1] <;> conv => whnf
      focus
        have c1' : ¬ en = 0 := by simpa using c1
        rw [if_neg c1'] at h
        exact ⟨[], rfl, .sub _ _ (.tup (.cons (.agg (ev_subZ 0)) (VSubs.refl _))) (HSub.refl _) (.done [] rfl h)⟩
      have c1' : en = 0 := by simpa using c1
      rw [if_pos c1'] at h
      refine .pure (EvMay_spec (e := ev) hl hT ⟨rfl, ?_⟩)
      conv => whnf
      refine branch_i (fun c2 => ?_) (fun c2 => ?_) <;> try rw [c2] <;> conv => whnf
      focus
        have c2' : ¬ mayE ev l = 0 := by simpa using c2
        simp only [if_neg c2'] at h
        exact ⟨[], rfl, .sub _ _ (.tup (.cons (.agg (ev_subZ 0)) (VSubs.refl _))) (HSub.refl _) (.done [] rfl h)⟩
      focus
        have c2' : mayE ev l = 0 := by simpa using c2
        simp only [if_pos c2'] at h
        exact ⟨[], rfl, .done [] rfl h⟩
    focus
      rw [hp] at h
      simp only at h
      cases hmi : pMiss 2 l s1 e1 <;> rw [hmi] at h <;> conv => whnf
      · exact ⟨[], rfl, .sub _ _ (.tup (.cons (.agg (ev_subZ 0)) (VSubs.refl _))) (HSub.refl _) (.done [] rfl h)⟩
      · exact ⟨[], rfl, .sub _ _ (.tup (.cons (.agg (ev_subZ 0)) (VSubs.refl _))) (HSub.refl _) (.done [] rfl h)⟩
  have n2 := of_decide_eq_false q2
  refine branch_i (fun q7 => ?_) (fun q7 => ?_) <;> try rw [q7] <;> conv => whnf
  focus
    have q' := of_decide_eq_true q7
    subst q'
    refine ACalls.sub _ _ rfl (VSubs.refl _) (.cons (.refl _) (.cons (.refl _) (.cons (.refl _) (.cons (.cells (ev_subZ _)) (HSub.refl _))))) (.call [2, 3, 1] 3 ⟨rfl, rfl, rfl⟩ (reads_num rfl (fun ev s' e' hp => ?_) (fun hp ev s' e' => ?_)))
    focus
      have hT := pEv_T hl (by omega) hp
      have hMi := pEv_miss hp
      rw [hp, hMi] at h
      simp only at h hT
      conv => whnf
      refine .call [1] 1 ⟨rfl, rfl, rfl⟩ (End_spec ?_)
      generalize endE s' e' = en at *
      conv => whnf
      refine branch_i (fun c1 => ?_) (fun c1 => ?_) <;> try rw [c1] <;> conv => whnf
      focus
        have c1' : ¬ en = 0 := by simpa using c1
        rw [if_neg c1'] at h
        exact ⟨[], rfl, .sub _ _ (.tup (.cons (.agg (ev_subZ 0)) (VSubs.refl _))) (HSub.refl _) (.done [] rfl h)⟩
      have c1' : en = 0 := by simpa using c1
      rw [if_pos c1'] at h
      refine .pure (EvMay_spec (e := ev) hl hT ⟨rfl, ?_⟩)
      conv => whnf
      refine branch_i (fun c2 => ?_) (fun c2 => ?_) <;> try rw [c2] <;> conv => whnf
      focus
        have c2' : ¬ mayE ev l = 0 := by simpa using c2
        simp only [if_neg c2'] at h
        exact ⟨[], rfl, .sub _ _ (.tup (.cons (.agg (ev_subZ 0)) (VSubs.refl _))) (HSub.refl _) (.done [] rfl h)⟩
      focus
        have c2' : mayE ev l = 0 := by simpa using c2
        simp only [if_pos c2'] at h
        exact ⟨[], rfl, .done [] rfl h⟩
    focus
      rw [hp] at h
      simp only at h
      cases hmi : pMiss 7 l s1 e1 <;> rw [hmi] at h <;> conv => whnf
      · exact ⟨[], rfl, .sub _ _ (.tup (.cons (.agg (ev_subZ 0)) (VSubs.refl _))) (HSub.refl _) (.done [] rfl h)⟩
      · exact ⟨[], rfl, .sub _ _ (.tup (.cons (.agg (ev_subZ 0)) (VSubs.refl _))) (HSub.refl _) (.done [] rfl h)⟩
  have n7 := of_decide_eq_false q7
  refine branch_i (fun q8 => ?_) (fun q8 => ?_) <;> try rw [q8] <;> conv => whnf
  focus
    have q' := of_decide_eq_true q8
    subst q'
    refine ACalls.sub _ _ rfl (VSubs.refl _) (.cons (.refl _) (.cons (.refl _) (.cons (.refl _) (.cons (.cells (ev_subZ _)) (HSub.refl _))))) (.call [2, 3, 1] 3 ⟨rfl, rfl, rfl⟩ (reads_num rfl (fun ev s' e' hp => ?_) (fun hp ev s' e' => ?_)))
    focus
      have hT := pEv_T hl (by omega) hp
      have hMi := pEv_miss hp
      rw [hp, hMi] at h
      simp only at h hT
      conv => whnf
      refine .call [1] 1 ⟨rfl, rfl, rfl⟩ (End_spec ?_)
      generalize endE s' e' = en at *
      conv => whnf
      refine branch_i (fun c1 => ?_) (fun c1 => ?_) <;> try rw [c1] <;> conv => whnf
      focus
        have c1' : ¬ en = 0 := by simpa using c1
        rw [if_neg c1'] at h
        exact ⟨[], rfl, .sub _ _ (.tup (.cons (.agg (ev_subZ 0)) (VSubs.refl _))) (HSub.refl _) (.done [] rfl h)⟩
      have c1' : en = 0 := by simpa using c1
      rw [if_pos c1'] at h
      refine .pure (EvMay_spec (e := ev) hl hT ⟨rfl, ?_⟩)
      conv => whnf
      refine branch_i (fun c2 => ?_) (fun c2 => ?_) <;> try rw [c2] <;> conv => whnf
      focus
        have c2' : ¬ mayE ev l = 0 := by simpa using c2
        simp only [if_neg c2'] at h
        exact ⟨[], rfl, .sub _ _ (.tup (.cons (.agg (ev_subZ 0)) (VSubs.refl _))) (HSub.refl _) (.done [] rfl h)⟩
      focus
        have c2' : mayE ev l = 0 := by simpa using c2
        simp only [if_pos c2'] at h
        exact ⟨[], rfl, .done [] rfl h⟩
    focus
      rw [hp] at h
      simp only at h
      cases hmi : pMiss 8 l s1 e1 <;> rw [hmi] at h <;> conv => whnf
      · exact ⟨[], rfl, .sub _ _ (.tup (.cons (.agg (ev_subZ 0)) (VSubs.refl _))) (HSub.refl _) (.done [] rfl h)⟩
      · exact ⟨[], rfl, .sub _ _ (.tup (.cons (.agg (ev_subZ 0)) (VSubs.refl _))) (HSub.refl _) (.done [] rfl h)⟩
  have n8 := of_decide_eq_false q8
  refine branch_i (fun q9 => ?_) (fun q9 => ?_) <;> try rw [q9] <;> conv => whnf
  focus
    have q' := of_decide_eq_true q9
    subst q'
    refine ACalls.sub _ _ rfl (VSubs.refl _) (.cons (.refl _) (.cons (.refl _) (.cons (.refl _) (.cons (.cells (ev_subZ _)) (HSub.refl _))))) (.call [2, 3, 1] 3 ⟨rfl, rfl, rfl⟩ (reads_num rfl (fun ev s' e' hp => ?_) (fun hp ev s' e' => ?_)))
    focus
      have hT := pEv_T hl (by omega) hp
      have hMi := pEv_miss hp
      rw [hp, hMi] at h
      simp only at h hT
      conv => whnf
      refine .call [1] 1 ⟨rfl, rfl, rfl⟩ (End_spec ?_)
      generalize endE s' e' = en at *
      conv => whnf
      refine branch_i (fun c1 => ?_) (fun c1 => ?_) <;> try rw [c1] <;> conv => whnf
      focus
        have c1' : ¬ en = 0 := by simpa using c1
        rw [if_neg c1'] at h
        exact ⟨[], rfl, .sub _ _ (.tup (.cons (.agg (ev_subZ 0)) (VSubs.refl _))) (HSub.refl _) (.done [] rfl h)⟩
      have c1' : en = 0 := by simpa using c1
      rw [if_pos c1'] at h
      refine .pure (EvMay_spec (e := ev) hl hT ⟨rfl, ?_⟩)
      conv => whnf
      refine branch_i (fun c2 => ?_) (fun c2 => ?_) <;> try rw [c2] <;> conv => whnf
      focus
        have c2' : ¬ mayE ev l = 0 := by simpa using c2
        simp only [if_neg c2'] at h
        exact ⟨[], rfl, .sub _ _ (.tup (.cons (.agg (ev_subZ 0)) (VSubs.refl _))) (HSub.refl _) (.done [] rfl h)⟩
      focus
        have c2' : mayE ev l = 0 := by simpa using c2
        simp only [if_pos c2'] at h
        exact ⟨[], rfl, .done [] rfl h⟩
    focus
      rw [hp] at h
      simp only at h
      cases hmi : pMiss 9 l s1 e1 <;> rw [hmi] at h <;> conv => whnf
      · exact ⟨[], rfl, .sub _ _ (.tup (.cons (.agg (ev_subZ 0)) (VSubs.refl _))) (HSub.refl _) (.done [] rfl h)⟩
      · exact ⟨[], rfl, .sub _ _ (.tup (.cons (.agg (ev_subZ 0)) (VSubs.refl _))) (HSub.refl _) (.done [] rfl h)⟩
  have n9 := of_decide_eq_false q9
  refine branch_i (fun q10 => ?_) (fun q10 => ?_) <;> try rw [q10] <;> conv => whnf
  focus
    have q' := of_decide_eq_true q10
    subst q'
    refine ACalls.sub _ _ rfl (VSubs.refl _) (.cons (.refl _) (.cons (.refl _) (.cons (.refl _) (.cons (.cells (ev_subZ _)) (HSub.refl _))))) (.call [2, 3, 1] 3 ⟨rfl, rfl, rfl⟩ (reads_num rfl (fun ev s' e' hp => ?_) (fun hp ev s' e' => ?_)))
    focus
      have hT := pEv_T hl (by omega) hp
      have hMi := pEv_miss hp
      rw [hp, hMi] at h
      simp only at h hT
      conv => whnf
      refine .call [1] 1 ⟨rfl, rfl, rfl⟩ (End_spec ?_)
      generalize endE s' e' = en at *
      conv => whnf
      refine branch_i (fun c1 => ?_) (fun c1 => ?_) <;> try rw [c1] <;> conv => whnf
      focus
        have c1' : ¬ en = 0 := by simpa using c1
        rw [if_neg c1'] at h
        exact ⟨[], rfl, .sub _ _ (.tup (.cons (.agg (ev_subZ 0)) (VSubs.refl _))) (HSub.refl _) (.done [] rfl h)⟩
      have c1' : en = 0 := by simpa using c1
      rw [if_pos c1'] at h
      refine .pure (EvMay_spec (e := ev) hl hT ⟨rfl, ?_⟩)
      conv => whnf
      refine branch_i (fun c2 => ?_) (fun c2 => ?_) <;> try rw [c2] <;> conv => whnf
      focus
        have c2' : ¬ mayE ev l = 0 := by simpa using c2
        simp only [if_neg c2'] at h
        exact ⟨[], rfl, .sub _ _ (.tup (.cons (.agg (ev_subZ 0)) (VSubs.refl _))) (HSub.refl _) (.done [] rfl h)⟩
      focus
        have c2' : mayE ev l = 0 := by simpa using c2
        simp only [if_pos c2'] at h
        exact ⟨[], rfl, .done [] rfl h⟩
    focus
      rw [hp] at h
      simp only at h
      cases hmi : pMiss 10 l s1 e1 <;> rw [hmi] at h <;> conv => whnf
      · exact ⟨[], rfl, .sub _ _ (.tup (.cons (.agg (ev_subZ 0)) (VSubs.refl _))) (HSub.refl _) (.done [] rfl h)⟩
      · exact ⟨[], rfl, .sub _ _ (.tup (.cons (.agg (ev_subZ 0)) (VSubs.refl _))) (HSub.refl _) (.done [] rfl h)⟩
  have n10 := of_decide_eq_false q10
  refine ⟨.nilf, ⟨_, _, rfl, rfl, rfl⟩, ?_⟩
  have hp : pEv k l s1 e1 = none := by
    unfold pEv
    have : numK k = false := by unfold numK; simp; omega
    rw [if_neg (by omega), if_neg (by omega), if_neg (by omega), if_neg (by rw [this]; decide)]
  have hmi : pMiss k l s1 e1 = false := by
    unfold pMiss
    have : rowK k = false := by unfold rowK; simp; omega
    rw [this]; rfl
  rw [hp, hmi] at h
  simp only at h
  conv => whnf
  exact ⟨[], rfl, .sub _ _ (.tup (.cons (.agg (ev_subZ 0)) (VSubs.refl _))) (HSub.refl _) (.done [] rfl h)⟩

end Go.Proofs.YtokifgdmddnpoaaGreatDoorPg

/- A row, read (the document's). -/
namespace Go.Proofs.YtokifgdmddnpoaaGreatDoorPg
open Go Go.RowKit
set_option linter.unusedSimpArgs false
set_option linter.unusedVariables false

variable {Q : V → List O → Prop}

def itg (l : List Int) : List (List V) := l.map fun n => [fI n]
theorem itg_len (l : List Int) : (itg l).length = l.length := by simp [itg]
theorem itg_get {l : List Int} {i : Nat} {b : Int} (h : l[i]? = some b) : (itg l)[i]? = some [fI b] := by simp [itg, h]

theorem app_i {i j n : Nat} {f : Bool} {X : List Int} {w : Int} {H : List O} {K : V → List O → Prop} (hij : Nat.beq i j = false) (hX : getO H i = .buf (itg X)) (hn : n = X.length) (hs : X.length ≤ 1000000)
    (hK : copyH (setO H i .dead ++ [.buf (itg (X ++ [w]))]) fun H' => K (.ms 1 (setO H i .dead).length 0 (X ++ [w]).length false) H') :
    0 + 1 ≤ 1 ∧ aapp 1 8 (.ms 1 i 0 n false) (.ms 1 j 0 1 f) [[fI w]] H K := by
  subst hn
  refine ⟨Nat.le_refl 1, ?_⟩
  have hlk := itg_len X
  unfold aapp sameBuf
  simp only [hij]
  unfold aappend
  simp only [show Nat.beq 1 1 = true from rfl, hX, List.drop_zero]
  refine ⟨by rw [hlk]; rfl, ?_⟩
  rw [show itg X ++ [[fI w]] = itg (X ++ [w]) by simp [itg]]
  unfold newBuf
  rw [itg_len]
  exact ⟨by rw [List.length_append, List.length_singleton]; omega, hK⟩

def bitN (B : List Nat) (i : Nat) : Int := if nulAt B i then 1 else 0
def bitL (B : List Nat) (k : Nat) : List Int := (List.range k).map (bitN B)
theorem bitL_len (B : List Nat) (k : Nat) : (bitL B k).length = k := by simp [bitL]
theorem bitL_get (B : List Nat) {k i : Nat} (h : i < k) : (bitL B k)[i]? = some (bitN B i) := by
  unfold bitL; rw [List.getElem?_map, List.getElem?_range h]; rfl
theorem bitL_snoc (B : List Nat) (k : Nat) : bitL B (k + 1) = bitL B k ++ [bitN B k] := by simp [bitL, List.range_succ]

theorem pad_down {y : Nat} (hy : y < 256) : ∀ d m, m + d = 8 → (∀ u, m ≤ u → u < 8 → y / 2 ^ u % 2 = 0) → y / 2 ^ m = 0
  | 0, m, h, _ => by have : m = 8 := by omega
                     subst this; exact Nat.div_eq_of_lt hy
  | d + 1, m, h, hb => by
    have h1 := pad_down hy d (m + 1) (by omega) (fun u h1 h2 => hb u (by omega) h2)
    have h2 := hb m (Nat.le_refl _) (by omega)
    rw [Nat.pow_succ, ← Nat.div_div_eq_div_mul] at h1
    omega

theorem padOk_iff {B : List Nat} {n : Nat} (hn : 0 < n) (hB : ∀ q, B.getD q 0 < 256) : padOk B n = true ↔ ∀ q, n ≤ q → q < 8 * ((n + 7) / 8) → nulAt B q = false := by
  unfold padOk
  rw [decide_eq_true_eq]
  have hj : (n - 1) / 8 = (n + 7) / 8 - 1 := by omega
  constructor
  · intro h q h1 h2
    unfold nulAt
    have hq : q / 8 = (n - 1) / 8 := by omega
    rw [hq]
    refine decide_eq_false ?_
    have hsm : B.getD ((n - 1) / 8) 0 < 2 ^ ((n - 1) % 8 + 1) := by
      rcases Nat.div_eq_zero_iff.1 h with h | h
      · exact absurd h (Nat.ne_of_gt (Nat.two_pow_pos _))
      · exact h
    have hle : 2 ^ ((n - 1) % 8 + 1) ≤ 2 ^ (q % 8) := Nat.pow_le_pow_right (by decide) (by omega)
    rw [Nat.div_eq_of_lt (Nat.lt_of_lt_of_le hsm hle)]
    decide
  · intro h
    refine pad_down (hB _) (8 - ((n - 1) % 8 + 1)) _ (by omega) fun u h1 h2 => ?_
    have := h (8 * ((n - 1) / 8) + u) (by omega) (by omega)
    unfold nulAt at this
    rw [show (8 * ((n - 1) / 8) + u) / 8 = (n - 1) / 8 by omega, show (8 * ((n - 1) / 8) + u) % 8 = u by omega] at this
    have := of_decide_eq_false this
    omega

theorem RFits_eq {l : List Col} {keys : Int} {vs : List Val} {X : List (List V)} {f : Bool} (hX : X = vals vs) (hl : l.length ≤ 1000) (ht : TextsOk vs) (h : Q (.bool (fitsL l vs)) []) :
    ACall Tryz.prog 32 0 [sch l keys, .sl 3 X f] [] Q := by subst hX; exact RFits_spec hl ht h

def shN (y t : Nat) : Nat := y / 2 ^ t
theorem shN_s (y t : Nat) : shN y (t + 1) = shN y t / 2 := by unfold shN; rw [Nat.pow_succ, ← Nat.div_div_eq_div_mul]

set_option maxRecDepth 8000 in
set_option maxHeartbeats 16000000 in
theorem R5Read_spec {s : List UInt8} {f : Bool} {e : Int} {C : List Col} (h0 : C ≠ []) (hC : C.length ≤ 16) (hs : s.length ≤ 1000000)
    (h : ∀ x s' e', Q (.tup [.sl 3 (vals ((rRow C s e).getD [])) false, .bool x]) [rdO s' f e']) :
    ACall Tryz.prog 78 1 [.ptr 0 0, .sl 3 (cols C) false] [rdO s f e] Q := by
  refine ACall.ret (by_body Tryz.func78 1 rfl (Nat.le_of_ble_eq_true rfl) ?_)
  have hcl := cols_len C
  have hcp := List.length_pos_iff.2 h0
  conv => whnf
  rw [hcl]
  refine ⟨by decide, ?_⟩
  rw [show (IntKind.i64.wrap ((C.length : Int) + 7)).tdiv 8 = (((C.length + 7) / 8 : Nat) : Int) by rw [wrapL (by omega), Int.tdiv_eq_ediv_of_nonneg (by omega)]; omega, wrapL (n := (((C.length + 7) / 8 : Nat) : Int)) (by omega)]
  conv => whnf
  obtain ⟨nb, hnb⟩ : ∃ nb, nb = (C.length + 7) / 8 := ⟨_, rfl⟩
  rw [← hnb]
  obtain ⟨B, hB⟩ : ∃ B, B = (rBs nb s e).1 := ⟨_, rfl⟩
  have hB256 : ∀ q, B.getD q 0 < 256 := fun q => by
    rw [List.getD_eq_getElem?_getD]
    cases hq : B[q]? with
    | none => simp
    | some x => simp only [Option.getD_some]; rw [hB] at hq; exact rBs_lt _ _ _ x (List.mem_of_getElem? hq)
  refine ⟨⟨[0, 1, 6, 7, 8, 9], fun mm ws H => ∃ j : Nat, ws = [.ptr 0 0, .sl 3 (cols C) false, fI C.length, fI nb, .ms 1 1 0 (8 * j) false, fI j] ∧ H = [rdO (rBs j s e).2.1 f (rBs j s e).2.2, .buf (itg (bitL B (8 * j)))] ∧ j ≤ nb ∧ mm = nb - j,
    .frz (nb + 1) (.adopt (.sub _ _ (.cons (.refl _) (.cons (.refl _) (.cons (.refl _) (.cons (.refl _) (.cons (VSub.ms0 1 1 0 false) (VSubs.refl _)))))) (HSub.refl _) (.go [0, 1] rfl nb (by omega) ⟨0, ?_, rfl, by omega, rfl⟩))), ?_⟩⟩
  focus
    rfl
  rintro mm ws H ⟨j, rfl, rfl, hj, rfl⟩
  conv => whnf
  refine branch_i (fun c1 => ?_) (fun c1 => ?_) <;> try rw [c1] <;> conv => whnf
  focus
    have c1' := of_decide_eq_true c1
    have hs1 : (rBs (j + 1) s e).2.1 = (rByt (rBs j s e).2.1 (rBs j s e).2.2).2.1 := rfl
    have hs2 : (rBs (j + 1) s e).2.2 = (rByt (rBs j s e).2.1 (rBs j s e).2.2).2.2 := rfl
    have hl := rBs_last j s e
    have hgd := rBs_getD (k := nb) (j := j + 1) (q := j) s e (by omega) (by omega)
    rw [hl, ← hB] at hgd
    have hbd := rByt_bd (rBs j s e).2.1 (rBs j s e).2.2
    refine .call [0] 1 ⟨rfl, rfl, rfl⟩ (RByte_spec ?_)
    generalize (rByt (rBs j s e).2.1 (rBs j s e).2.2).1 = y0 at *
    generalize (rByt (rBs j s e).2.1 (rBs j s e).2.2).2.1 = s2 at *
    generalize (rByt (rBs j s e).2.1 (rBs j s e).2.2).2.2 = e2 at *
    obtain ⟨y, rfl⟩ : ∃ y : Nat, y0 = y := ⟨y0.toNat, by omega⟩
    rw [Int.toNat_natCast] at hgd
    conv => whnf
    refine ⟨⟨[0, 1, 6, 7, 8, 9, 10, 11], fun mm ws H => ∃ t : Nat, ws = [.ptr 0 0, .sl 3 (cols C) false, fI C.length, fI nb, .ms 1 1 0 (8 * j + t) false, fI j, fI (shN y t), fI t] ∧ H = [rdO s2 f e2, .buf (itg (bitL B (8 * j + t)))] ∧ t ≤ 8 ∧ mm = 8 - t,
      .frz 9 (.go [0, 1] rfl 8 (by omega) ⟨0, ?_, rfl, by omega, rfl⟩), ?_⟩⟩
    focus
      rw [show shN y 0 = y by unfold shN; simp]; rfl
    rintro mm ws H ⟨t, rfl, rfl, ht, rfl⟩
    conv => whnf
    refine branch_i (fun c2 => ?_) (fun c2 => ?_) <;> try rw [c2] <;> conv => whnf
    focus
      have c2' := of_decide_eq_true c2
      have ht8 : t < 8 := by omega
      have hbit : bitN B (8 * j + t) = ((shN y t % 2 : Nat) : Int) := by
        unfold bitN nulAt
        rw [show (8 * j + t) / 8 = j by omega, show (8 * j + t) % 8 = t by omega, ← hgd]
        by_cases hb : shN y t % 2 = 1
        · rw [decide_eq_true (show y / 2 ^ t % 2 = 1 from hb), hb]; rfl
        · rw [decide_eq_false (show ¬ y / 2 ^ t % 2 = 1 from hb), show shN y t % 2 = 0 by omega]; rfl
      have hpw := shN_s y t
      have hyb : shN y t ≤ 255 := Nat.le_trans (Nat.div_le_self _ _) (by omega)
      have hbl := bitL_len B (8 * j + t)
      refine ⟨by decide, ?_⟩
      rw [show ((shN y t : Nat) : Int).tmod 2 = ((shN y t % 2 : Nat) : Int) by rw [Int.tmod_eq_emod_of_nonneg (by omega)]; omega, ← hbit]
      conv => whnf
      refine app_i (X := bitL B (8 * j + t)) (w := bitN B (8 * j + t)) rfl rfl hbl.symm (by omega) ?_
      rw [← bitL_snoc, bitL_len]
      conv => whnf
      refine ⟨by decide, ?_⟩
      rw [show ((shN y t : Nat) : Int).tdiv 2 = ((shN y (t + 1) : Nat) : Int) by rw [Int.tdiv_eq_ediv_of_nonneg (by omega), hpw]; omega]
      conv => whnf
      refine .go [0, 3] rfl (8 - (t + 1)) (by omega) ⟨t + 1, ?_, rfl, by omega, rfl⟩
      show [V.ptr 0 0, .sl 3 (cols C) false, fI C.length, fI nb, .ms 1 1 0 (8 * j + t + 1) false, fI j, .int .i64 (IntKind.i64.wrap ((shN y (t + 1) : Nat) : Int)), .int .i64 (IntKind.i64.wrap ((t : Int) + 1))] = _
      rw [wrapL (n := ((shN y (t + 1) : Nat) : Int)) (by omega), wrapL (by omega)]; rfl
    focus
      have c2' := of_decide_eq_false c2
      have ht8 : t = 8 := by omega
      subst ht8
      refine .go [0, 1] rfl (nb - (j + 1)) (by omega) ⟨j + 1, ?_, ?_, by omega, rfl⟩
      · show [V.ptr 0 0, .sl 3 (cols C) false, fI C.length, fI nb, .ms 1 1 0 (8 * j + 8) false, .int .i64 (IntKind.i64.wrap ((j : Int) + 1))] = _
        rw [wrapL (by omega)]; rfl
      · show [rdO s2 f e2, .buf (itg (bitL B (8 * j + 8)))] = _
        rw [hs1, hs2]; rfl
  have c1' := of_decide_eq_false c1
  have hje : j = nb := by omega
  subst hje
  unfold rRow at h
  rw [← hnb, ← hB] at h
  have hs1 := rBs_suf j s e
  generalize (rBs j s e).2.1 = s1 at *
  generalize (rBs j s e).2.2 = e1 at *
  obtain ⟨N, hN⟩ : ∃ N, N = nulAt B := ⟨_, rfl⟩
  rw [← hN] at h
  have hpi := padOk_iff hcp hB256
  rw [← hnb] at hpi
  refine ⟨⟨[0, 1, 6, 8, 12, 13], fun mm ws H => ∃ (i m : Nat), m = min i C.length ∧ ws = [.ptr 0 0, .sl 3 (cols C) false, fI C.length, .ms 1 1 0 (8 * j) false, .ms 3 2 0 m false, fI i] ∧
      H = [rdO (rVls C N m s1 e1).2.1 f (rVls C N m s1 e1).2.2, .buf (itg (bitL B (8 * j))), .buf (vals (rVls C N m s1 e1).1)] ∧ i ≤ 8 * j ∧ (∀ q, C.length ≤ q → q < i → nulAt B q = false) ∧ mm = 8 * j - i,
    .frz (8 * j + 1) (.adopt (.sub _ _ (.cons (.refl _) (.cons (.refl _) (.cons (.refl _) (.cons (.refl _) (.cons (ms0_row 3 2) (VSubs.refl _)))))) (HSub.refl _) (.go [0, 1, 2] rfl (8 * j) (by omega) ⟨0, 0, by omega, rfl, rfl, by omega, fun q h1 h2 => by omega, rfl⟩))), ?_⟩⟩
  rintro mm ws H ⟨i, m, hm, rfl, rfl, hi, hz, rfl⟩
  have hvl := vals_len (rVls C N m s1 e1).1
  rw [rVls_len] at hvl
  have hbl := bitL_len B (8 * j)
  have hil := itg_len (bitL B (8 * j))
  conv => whnf
  refine branch_i (fun c1 => ?_) (fun c1 => ?_) <;> try rw [c1] <;> conv => whnf
  rotate_left
  focus
    have c1' := of_decide_eq_false c1
    have hie : i = 8 * j := by omega
    have hmC : m = C.length := by omega
    have hvs := rVls_suf C N m s1 e1
    rw [hmC] at hvl hvs ⊢
    rw [if_pos (hpi.2 (fun q h1 h2 => hz q h1 (by omega)))] at h
    generalize (rVls C N C.length s1 e1).1 = vs at *
    generalize (rVls C N C.length s1 e1).2.1 = s2 at *
    generalize (rVls C N C.length s1 e1).2.2 = e2 at *
    refine .frz 2 rfl rfl (by repeat (first | exact trivial | refine And.intro (by rw [hvl, Nat.zero_add]; exact Nat.le_refl _) ?_)) ?_
    have htk : List.take C.length (List.drop 0 (vals vs)) = vals vs := by rw [List.drop_zero, ← hvl, List.take_length]
    refine .pure (RFits_eq (l := C) (keys := 0) (vs := vs) (X := List.take C.length (List.drop 0 (vals vs))) (f := false) htk (by omega) (fun v hv => by have := (hvs.2 v hv).1; omega) ⟨rfl, ?_⟩)
    conv => whnf
    refine branch_i (fun c2 => ?_) (fun c2 => ?_) <;> try rw [c2] <;> conv => whnf
    focus
      have c2' : ¬ e2 = 0 := by simpa using c2
      rw [if_neg (fun hx => c2' hx.1)] at h
      exact ⟨[0], rfl, .sub _ _ (.tup (.cons (nils_sl3 false) (VSubs.refl _))) (HSub.refl _) (.done [0] rfl (h _ _ _))⟩
    have c2' : e2 = 0 := by simpa using c2
    cases hf : fitsL C vs <;> conv => whnf
    focus
      rw [if_neg (fun hx => by rw [hf] at hx; cases hx.2)] at h
      exact ⟨[0], rfl, .sub _ _ (.tup (.cons (nils_sl3 false) (VSubs.refl _))) (HSub.refl _) (.done [0] rfl (h _ _ _))⟩
    focus
      rw [if_pos ⟨c2', hf⟩] at h
      refine ⟨[0], rfl, .done [0] rfl ?_⟩
      show Q (.tup [.sl 3 (List.take C.length (List.drop 0 (vals vs))) false, .bool true]) [rdO s2 f e2]
      rw [htk]
      exact h _ _ _
  have c1' := of_decide_eq_true c1
  have hbg := itg_get (bitL_get B (show i < 8 * j by omega))
  refine branch_i (fun c2 => ?_) (fun c2 => ?_) <;> try rw [c2] <;> conv => whnf
  focus
    have c2' := of_decide_eq_true c2
    refine ⟨⟨by omega, by omega⟩, ?_⟩
    conv => whnf
    refine ⟨_, hbg, ?_⟩
    conv => whnf
    unfold bitN
    cases hNi : nulAt B i <;> conv => whnf
    focus
      have hmC : min (i + 1) C.length = m := by omega
      refine .go [0, 1, 2] rfl (8 * j - (i + 1)) (by omega) ⟨i + 1, m, by omega, ?_, rfl, by omega, fun q h1 h2 => ?_, rfl⟩
      · show [V.ptr 0 0, .sl 3 (cols C) false, fI C.length, .ms 1 1 0 (8 * j) false, .ms 3 2 0 m false, .int .i64 (IntKind.i64.wrap ((i : Int) + 1))] = _
        rw [wrapL (by omega)]; rfl
      · by_cases hq : q = i
        · rw [hq]; exact hNi
        · exact hz q h1 (by omega)
    focus
      have hpf : padOk B C.length = false := by
        cases hp : padOk B C.length with
        | false => rfl
        | true => have := hpi.1 hp i (by omega) (by omega); rw [hNi] at this; cases this
      rw [if_neg (by rw [hpf]; decide)] at h
      exact ⟨[0], rfl, .sub _ _ (.tup (.cons (nils_sl3 false) (VSubs.refl _))) (HSub.refl _) (.done [0] rfl (h _ _ _))⟩
  have c2' := of_decide_eq_false c2
  have hmi : m = i := by omega
  subst hmi
  have hlt : m < C.length := by omega
  have hg : C[m]? = some C[m] := List.getElem?_eq_getElem hlt
  have hka := kAt_get hg
  generalize C[m] = c at *
  have hvs : rVls C N (m + 1) s1 e1 = ((rVls C N m s1 e1).1 ++ [(rVal (kAt C m) (N m) (rVls C N m s1 e1).2.1 (rVls C N m s1 e1).2.2).1], (rVal (kAt C m) (N m) (rVls C N m s1 e1).2.1 (rVls C N m s1 e1).2.2).2) := rfl
  rw [hka] at hvs
  have hln := rVls_len C N m s1 e1
  generalize (rVls C N m s1 e1).1 = X at *
  generalize (rVls C N m s1 e1).2.1 = s2 at *
  generalize (rVls C N m s1 e1).2.2 = e2 at *
  have fin : ∀ (v : Val) (s3 : List UInt8) (e3 : Int), rVal c.k (N m) s2 e2 = (v, s3, e3) →
      [rdO s3 f e3, .buf (itg (bitL B (8 * j))), .buf (vals (X ++ [v]))] = [rdO (rVls C N (m + 1) s1 e1).2.1 f (rVls C N (m + 1) s1 e1).2.2, .buf (itg (bitL B (8 * j))), .buf (vals (rVls C N (m + 1) s1 e1).1)] := fun v s3 e3 h => by
    rw [hvs, h]
  have nx : ∀ k : Nat, k = m + 1 → [V.ptr 0 0, .sl 3 (cols C) false, fI C.length, .ms 1 1 0 (8 * j) false, .ms 3 2 0 k false, .int .i64 (IntKind.i64.wrap ((m : Int) + 1))] =
      [V.ptr 0 0, .sl 3 (cols C) false, fI C.length, .ms 1 1 0 (8 * j) false, .ms 3 2 0 (m + 1) false, fI (m + 1 : Nat)] := fun k h => by
    rw [h, wrapL (by omega)]; rfl
  refine ⟨⟨by omega, by omega⟩, ?_⟩
  conv => whnf
  refine ⟨_, hbg, ?_⟩
  conv => whnf
  unfold bitN
  cases hNi : nulAt B m <;> conv => whnf
  focus
    have hNm : N m = false := by rw [hN]; exact hNi
    refine ⟨_, ⟨by omega, cols_get hg⟩, ?_⟩
    conv => whnf
    refine branch_i (fun k1 => ?_) (fun k1 => ?_) <;> try rw [k1] <;> conv => whnf
    focus
      have k1' := of_decide_eq_true k1
      refine .call [0] 1 ⟨rfl, rfl, rfl⟩ (RByte_spec ?_)
      conv => whnf
      refine app_v (X := X) (w := ⟨c.k, (rByt s2 e2).1, []⟩) rfl rfl hln.symm (by omega) ?_
      conv => whnf
      exact .go [0, 1, 5] rfl (8 * j - (m + 1)) (by omega) ⟨m + 1, m + 1, by omega, nx _ (by rw [List.length_append, hln]; rfl), fin _ _ _ (by rw [hNm]; unfold rVal; rw [if_neg (by decide), if_pos k1']), by omega, fun q h1 h2 => by omega, rfl⟩
    have k1' := of_decide_eq_false k1
    refine branch_i (fun k2 => ?_) (fun k2 => ?_) <;> try rw [k2] <;> conv => whnf
    focus
      have k2' := of_decide_eq_true k2
      refine .call [0] 1 ⟨rfl, rfl, rfl⟩ (RSigned_spec ?_)
      conv => whnf
      refine app_v (X := X) (w := ⟨c.k, (rSgn s2 e2).1, []⟩) rfl rfl hln.symm (by omega) ?_
      conv => whnf
      exact .go [0, 1, 5] rfl (8 * j - (m + 1)) (by omega) ⟨m + 1, m + 1, by omega, nx _ (by rw [List.length_append, hln]; rfl), fin _ _ _ (by rw [hNm]; unfold rVal; rw [if_neg (by decide), if_neg k1', if_pos k2']), by omega, fun q h1 h2 => by omega, rfl⟩
    focus
      have k2' := of_decide_eq_false k2
      refine .call [0] 1 ⟨rfl, rfl, rfl⟩ (RText_spec ?_)
      conv => whnf
      refine app_v (X := X) (w := ⟨c.k, 0, (rTxt 4096 s2 e2).1⟩) rfl rfl hln.symm (by omega) ?_
      conv => whnf
      exact .go [0, 1, 5] rfl (8 * j - (m + 1)) (by omega) ⟨m + 1, m + 1, by omega, nx _ (by rw [List.length_append, hln]; rfl), fin _ _ _ (by rw [hNm]; unfold rVal; rw [if_neg (by decide), if_neg k1', if_neg k2']), by omega, fun q h1 h2 => by omega, rfl⟩
  focus
    have hNm : N m = true := by rw [hN]; exact hNi
    refine app_v (X := X) (w := ⟨0, 0, []⟩) rfl rfl hln.symm (by omega) ?_
    conv => whnf
    exact .go [0, 1, 5] rfl (8 * j - (m + 1)) (by omega) ⟨m + 1, m + 1, by omega, nx _ (by rw [List.length_append, hln]; rfl), fin _ _ _ (by rw [hNm]; rfl), by omega, fun q h1 h2 => by omega, rfl⟩

end Go.Proofs.YtokifgdmddnpoaaGreatDoorPg

/- An event, read (the document's). -/
namespace Go.Proofs.YtokifgdmddnpoaaGreatDoorPg
open Go Go.RowKit
set_option linter.unusedSimpArgs false
set_option linter.unusedVariables false

variable {Q : V → List O → Prop}

set_option maxRecDepth 8000 in
theorem R6col_spec {s : List UInt8} {f : Bool} {e : Int} (h : Q (colA (rC 4096 s e).g) [rdO (rC 4096 s e).s f (rC 4096 s e).e]) :
    ACall Tryz.prog 79 1 [.ptr 0 0] [rdO s f e] Q := by
  refine by_body Tryz.func79 1 rfl (Nat.le_of_ble_eq_true rfl) ?_
  conv => whnf
  refine .call [0] 1 ⟨rfl, rfl, rfl⟩ (RText_spec ?_)
  unfold rC RC.g colA at h
  simp only at h
  generalize (rTxt 4096 s e).1 = t1 at *
  generalize (rTxt 4096 s e).2.1 = s1 at *
  generalize (rTxt 4096 s e).2.2 = e1 at *
  conv => whnf
  refine .call [0] 1 ⟨rfl, rfl, rfl⟩ (RByte_spec ?_)
  generalize (rByt s1 e1).1 = k1 at *
  generalize (rByt s1 e1).2.1 = s2 at *
  generalize (rByt s1 e1).2.2 = e2 at *
  conv => whnf
  refine .call [0] 1 ⟨rfl, rfl, rfl⟩ (RByte_spec ?_)
  generalize (rByt s2 e2).1 = o1 at *
  generalize (rByt s2 e2).2.1 = s3 at *
  generalize (rByt s2 e2).2.2 = e3 at *
  conv => whnf
  exact ⟨[0], rfl, h⟩

theorem chg_subN (k n ck : Int) (ct cn : List UInt8) (cks ckk : Int) (o : Bool) : VSub (.agg [.int .i64 k, .int .i64 n, .str [], .nils, .nils, .int .i64 ck, .str ct, .nils, .int .i64 cks, .str cn, .int .i64 ckk, .bool o]) (evA ⟨k, n, [], [], [], ⟨ck, ct, [], cks, ⟨cn, ckk, o⟩⟩⟩) :=
  .agg (.cons (.refl _) (.cons (.refl _) (.cons (.refl _) (.cons (nils_sl3 false) (.cons (nils_sl3 false) (.cons (.refl _) (.cons (.refl _) (.cons (nils_sl3 false) (VSubs.refl _)))))))))

theorem ev_msC {id : Nat} {v1 v2 v3 v4 v5 v6 v7 : V} {l : List V} : VSubs (v1 :: v2 :: v3 :: v4 :: v5 :: v6 :: v7 :: .nils :: l) (v1 :: v2 :: v3 :: v4 :: v5 :: v6 :: v7 :: .ms 3 id 0 0 false :: l) :=
  .cons (.refl _) (.cons (.refl _) (.cons (.refl _) (.cons (.refl _) (.cons (.refl _) (.cons (.refl _) (.cons (.refl _) (.cons (VSub.ms0 3 id 0 false) (VSubs.refl _))))))))

theorem gEv_none {m k : Int} {l : List Tb} {s s2 t : List UInt8} {e e2 : Int} (hk : k = 3 ∨ k = 4 ∨ k = 5) (h : rTxt m s e = (t, s2, e2)) (hf : findT l t = none) :
    gEv m k l s e = (⟨k, 0, t, [], [], chg0⟩, decide (e2 = 0)) := by
  unfold gEv sT
  rw [if_pos hk]
  simp only [h, hf]

set_option maxRecDepth 8000 in
set_option maxHeartbeats 32000000 in
theorem Guess_spec {b : List UInt8} {f : Bool} {l : List Tb} (hl : TbsB l) (hb : b.length ≤ 1000000)
    (h : Q (.tup [evA (gss b l).1, .bool (gss b l).2]) []) : ACall Tryz.prog 47 0 [.sl 1 (bs b) f, .sl 3 (tbs l) false] [] Q := by
  refine ACall.ret (by_body Tryz.func47 0 rfl (Nat.le_of_ble_eq_true rfl) ?_)
  have hbl := bs_len b
  conv => whnf
  refine .call [1] 1 ⟨rfl, rfl, rfl⟩ (RByte_spec ?_)
  unfold gss at h
  have hsl : (sB b 0).1.length ≤ b.length := (rByt_len b 0).1
  unfold sB at h hsl
  generalize (rByt b 0).1 = k at *
  generalize (rByt b 0).2.1 = s1 at *
  generalize (rByt b 0).2.2 = e1 at *
  conv => whnf
  refine branch_i (fun k3 => ?_) (fun k3 => ?_) <;> try rw [k3] <;> conv => whnf
  rotate_left
  have k3' := of_decide_eq_false k3
  refine branch_i (fun k4 => ?_) (fun k4 => ?_) <;> try rw [k4] <;> conv => whnf
  rotate_left
  have k4' := of_decide_eq_false k4
  refine branch_i (fun k5 => ?_) (fun k5 => ?_) <;> try rw [k5] <;> conv => whnf
  rotate_left
  focus
    have k5' := of_decide_eq_false k5
    unfold gEv at h
    rw [if_neg (by omega)] at h
    refine branch_i (fun k6 => ?_) (fun k6 => ?_) <;> try rw [k6] <;> conv => whnf
    rotate_left
    focus
      have k6' := of_decide_eq_false k6
      rw [if_neg k6'] at h
      refine .call [1] 1 ⟨rfl, rfl, rfl⟩ (RNumber_spec ?_)
      generalize (rNum s1 e1).1 = n1 at *
      conv => whnf
      exact ⟨[], rfl, .sub _ _ (.tup (.cons (may_subN _ _) (VSubs.refl _))) (HSub.refl _) (.done [] rfl h)⟩
    have k6' := of_decide_eq_true k6
    rw [if_pos k6'] at h
    unfold gChg sB sT at h
    refine .call [1] 1 ⟨rfl, rfl, rfl⟩ (RByte_spec ?_)
    generalize (rByt s1 e1).1 = ck at *
    generalize (rByt s1 e1).2.1 = s2 at *
    generalize (rByt s1 e1).2.2 = e2 at *
    conv => whnf
    rw [hbl]
    refine .call [1] 1 ⟨rfl, rfl, rfl⟩ (RText_spec ?_)
    generalize (rTxt b.length s2 e2).1 = ct at *
    generalize (rTxt b.length s2 e2).2.1 = s3 at *
    generalize (rTxt b.length s2 e2).2.2 = e3 at *
    conv => whnf
    unfold gTail at h
    refine branch_i (fun c1 => ?_) (fun c1 => ?_) <;> try rw [c1] <;> conv => whnf
    focus
      have c1' := of_decide_eq_true c1
      rw [if_pos c1'] at h
      unfold sB at h
      refine .call [1] 1 ⟨rfl, rfl, rfl⟩ (RByte_spec ?_)
      generalize (rByt s3 e3).1 = ks at *
      generalize (rByt s3 e3).2.1 = s4 at *
      generalize (rByt s3 e3).2.2 = e4 at *
      conv => whnf
      refine .call [1] 1 ⟨rfl, rfl, rfl⟩ (RByte_spec ?_)
      have hbd := rByt_bd s4 e4
      generalize (rByt s4 e4).1 = n0 at *
      generalize (rByt s4 e4).2.1 = s5 at *
      generalize (rByt s4 e4).2.2 = e5 at *
      obtain ⟨n, rfl⟩ : ∃ n : Nat, n0 = n := ⟨n0.toNat, by omega⟩
      rw [Int.toNat_natCast] at h
      conv => whnf
      refine ⟨⟨[4, 6, 7, 10, 11], fun mm ws H => ∃ (i : Nat) (acc : List Col) (s' : List UInt8) (e' : Int), ws = [.ptr 0 0, .ptr 1 0, .ptr 2 0, fI n, fI i] ∧
          H = [.cells [fI 0, fI 0, .str [], .nils, .nils, fI 0, .str [], .nils, fI 0, .str [], fI 0, .bool false], rdO s' f e', .cells [.int .i64 k, fI 0, .str [], .nils, .nils, .int .i64 ck, .str ct, .ms 3 3 0 acc.length false, .int .i64 ks, .str [], fI 0, .bool false], .buf (cols acc)] ∧
          acc.length = i ∧ i ≤ n ∧ gColz (n - i) acc s' e' = gColz n [] s5 e5 ∧ mm = n - i,
        .frz (n + 1) (.adopt (.sub _ _ (VSubs.refl _) (.cons (.refl _) (.cons (.refl _) (.cons (.cells (ev_msC (id := 3))) (HSub.refl _)))) (.go [0, 1, 2, 3] rfl n (by omega) ⟨0, [], s5, e5, rfl, rfl, rfl, by omega, rfl, rfl⟩))), ?_⟩⟩
      rintro mm ws H ⟨i, acc, s', e', rfl, rfl, hacc, hi, hp, rfl⟩
      have hcl := cols_len acc
      have done : gColz (n - i) acc s' e' = acc → Q (.tup [.agg [.int .i64 k, fI 0, .str [], .sl 3 (vals []) false, .sl 3 (vals []) false, .int .i64 ck, .str ct, .sl 3 (List.take acc.length (List.drop 0 (cols acc))) false, .int .i64 ks, .str [], fI 0, .bool false], .bool false]) [] := fun hz => by
        rw [List.drop_zero, ← hcl, List.take_length]
        rw [← hp, hz] at h
        exact h
      conv => whnf
      refine branch_i (fun c2 => ?_) (fun c2 => ?_) <;> try rw [c2] <;> conv => whnf
      rotate_left
      focus
        have c2' := of_decide_eq_false c2
        exact ⟨[3], rfl, .frz 0 rfl (by repeat (first | exact trivial | refine And.intro (by rw [hcl, Nat.zero_add]; exact Nat.le_refl _) ?_)) (.sub _ _ (.tup (.cons (.agg (.cons (.refl _) (.cons (.refl _) (.cons (.refl _) (.cons (nils_sl3 false) (.cons (nils_sl3 false) (VSubs.refl _))))))) (VSubs.refl _))) (HSub.refl _) (.done [] rfl (done (by rw [show n - i = 0 by omega]; rfl))))⟩
      have c2' := of_decide_eq_true c2
      refine branch_i (fun c3 => ?_) (fun c3 => ?_) <;> try rw [c3] <;> conv => whnf
      rotate_left
      focus
        have c3' := of_decide_eq_false c3
        exact ⟨[3], rfl, .frz 0 rfl (by repeat (first | exact trivial | refine And.intro (by rw [hcl, Nat.zero_add]; exact Nat.le_refl _) ?_)) (.sub _ _ (.tup (.cons (.agg (.cons (.refl _) (.cons (.refl _) (.cons (.refl _) (.cons (nils_sl3 false) (.cons (nils_sl3 false) (VSubs.refl _))))))) (VSubs.refl _))) (HSub.refl _) (.done [] rfl (done (by rw [show n - i = (n - (i + 1)) + 1 by omega]; simp only [gColz]; rw [if_neg c3']))))⟩
      have c3' := of_decide_eq_true c3
      rw [show n - i = (n - (i + 1)) + 1 by omega] at hp
      simp only [gColz] at hp
      rw [if_pos c3'] at hp
      have hn255 := hbd.2
      refine ⟨List.range 12, by kernel_rfl, by kernel_rfl, ?_⟩
      conv => whnf
      refine .call [1] 1 ⟨rfl, rfl, rfl⟩ (R6col_spec ?_)
      generalize rC 4096 s' e' = rc at *
      unfold colA
      repeat (conv => whnf
              refine ⟨rfl, ?_⟩)
      conv => whnf
      refine app_c (X := acc) (w := rc.g) rfl rfl rfl (by omega) ?_
      repeat (conv => whnf
              refine ⟨rfl, ?_⟩)
      conv => whnf
      refine .go [0, 1, 2, 5] rfl (n - (i + 1)) (by omega) ⟨i + 1, acc ++ [rc.g], rc.s, rc.e, ?_, rfl, by rw [List.length_append, hacc]; rfl, by omega, hp, rfl⟩
      show [V.ptr 0 0, .ptr 1 0, .ptr 2 0, fI n, .int .i64 (IntKind.i64.wrap ((i : Int) + 1))] = _
      rw [wrapL (by omega)]; rfl
    have c1' := of_decide_eq_false c1
    rw [if_neg c1'] at h
    refine branch_i (fun c3 => ?_) (fun c3 => ?_) <;> try rw [c3] <;> conv => whnf
    focus
      have c3' := of_decide_eq_true c3
      rw [if_pos (.inl c3')] at h
      refine .call [1] 1 ⟨rfl, rfl, rfl⟩ (R6col_spec ?_)
      generalize rC 4096 s3 e3 = rc at *
      unfold colA
      conv => whnf
      exact ⟨[], rfl, .sub _ _ (.tup (.cons (chg_subN _ _ _ _ _ _ _ _) (VSubs.refl _))) (HSub.refl _) (.done [] rfl h)⟩
    have c3' := of_decide_eq_false c3
    refine branch_i (fun c5 => ?_) (fun c5 => ?_) <;> try rw [c5] <;> conv => whnf
    focus
      have c5' := of_decide_eq_true c5
      rw [if_pos (.inr c5')] at h
      refine .call [1] 1 ⟨rfl, rfl, rfl⟩ (R6col_spec ?_)
      generalize rC 4096 s3 e3 = rc at *
      unfold colA
      conv => whnf
      exact ⟨[], rfl, .sub _ _ (.tup (.cons (chg_subN _ _ _ _ _ _ _ _) (VSubs.refl _))) (HSub.refl _) (.done [] rfl h)⟩
    have c5' := of_decide_eq_false c5
    rw [if_neg (by omega)] at h
    refine branch_i (fun c4 => ?_) (fun c4 => ?_) <;> try rw [c4] <;> conv => whnf
    focus
      have c4' := of_decide_eq_true c4
      rw [if_pos c4'] at h
      rw [hbl]
      refine .call [1] 1 ⟨rfl, rfl, rfl⟩ (RText_spec ?_)
      generalize (rTxt b.length s3 e3).1 = t4 at *
      conv => whnf
      exact ⟨[], rfl, .sub _ _ (.tup (.cons (chg_subN _ _ _ _ _ _ _ _) (VSubs.refl _))) (HSub.refl _) (.done [] rfl h)⟩
    have c4' := of_decide_eq_false c4
    rw [if_neg c4'] at h
    exact ⟨[], rfl, .sub _ _ (.tup (.cons (chg_subN _ _ _ _ _ _ _ _) (VSubs.refl _))) (HSub.refl _) (.done [] rfl h)⟩
  all_goals
    have hk : k = 3 ∨ k = 4 ∨ k = 5 := by
      first
      | exact .inl (of_decide_eq_true k3)
      | exact .inr (.inl (of_decide_eq_true k4))
      | exact .inr (.inr (of_decide_eq_true k5))
    rw [hbl]
    refine .call [1] 1 ⟨rfl, rfl, rfl⟩ (RText_spec ?_)
    have hsl2 := (rTxt_len b.length s1 e1).1
    obtain ⟨t, ht⟩ : ∃ t, (rTxt b.length s1 e1).1 = t := ⟨_, rfl⟩
    obtain ⟨s2, hs2⟩ : ∃ t, (rTxt b.length s1 e1).2.1 = t := ⟨_, rfl⟩
    obtain ⟨e2, he2⟩ : ∃ t, (rTxt b.length s1 e1).2.2 = t := ⟨_, rfl⟩
    have hT : rTxt b.length s1 e1 = (t, s2, e2) := by rw [← ht, ← hs2, ← he2]
    rw [ht, hs2, he2]
    rw [hs2] at hsl2
    conv => whnf
    refine .pure (EvRFind_spec (t := t) (by have := hl.few; omega) ⟨rfl, ?_⟩)
    unfold findR
    cases hf : findT l t with
    | none =>
      rw [gEv_none hk hT hf] at h
      conv => whnf
      refine ⟨List.range 8, by kernel_rfl, by kernel_rfl, ?_⟩
      repeat (conv => whnf
              refine ⟨rfl, ?_⟩)
      conv => whnf
      exact ⟨[], rfl, .sub _ _ (.tup (.cons (row_sub0 _ _) (VSubs.refl _))) (HSub.refl _) (.done [] rfl h)⟩
    | some w =>
      obtain ⟨C, K⟩ := w
      obtain ⟨hm, hC, kk, rfl, hkk⟩ := hl.found hf
      have hb2 := may_bd hm
      have hcl := cols_len C
      conv => whnf
      refine branch_i (fun q5 => ?_) (fun q5 => ?_) <;> try rw [q5] <;> conv => whnf
      focus
        have q5' := of_decide_eq_true q5
        subst q5'
        rw [gEv_del hT hf, Int.toNat_natCast] at h
        have hne : C.take kk ≠ [] := fun e => by
          have := congrArg List.length e
          rw [List.length_take, List.length_nil] at this
          omega
        refine ⟨⟨by omega, by omega⟩, ?_⟩
        rw [show List.take (kk : Int).toNat (cols C) = cols (C.take kk) by rw [Int.toNat_natCast]; unfold cols; rw [List.map_take]]
        conv => whnf
        refine .call [1] 1 ⟨rfl, rfl, rfl⟩ (R5Read_spec (C := C.take kk) hne (by rw [List.length_take]; omega) (by omega) (fun x s' e' => ?_))
        conv => whnf
        exact ⟨[], rfl, .sub _ _ (.tup (.cons (row_sub5 _ _ _) (VSubs.refl _))) (HSub.refl _) (.done [] rfl h)⟩
      focus
        have q5' := of_decide_eq_false q5
        rw [gEv_ins (by omega) hT hf] at h
        refine .call [1] 1 ⟨rfl, rfl, rfl⟩ (R5Read_spec (C := C) (fun e => by rw [e] at hkk; simp at hkk; omega) (by omega) (by omega) (fun x s' e' => ?_))
        conv => whnf
        exact ⟨[], rfl, .sub _ _ (.tup (.cons (row_sub _ _ _) (VSubs.refl _))) (HSub.refl _) (.done [] rfl h)⟩

end Go.Proofs.YtokifgdmddnpoaaGreatDoorPg

/- The document's Read; what a guess holds. -/
namespace Go.Proofs.YtokifgdmddnpoaaGreatDoorPg
open Go Go.RowKit
set_option linter.unusedSimpArgs false
set_option linter.unusedVariables false

variable {Q : V → List O → Prop}

theorem gColz_len : ∀ (m : Nat) (acc : List Col) (s : List UInt8) (e : Int), (gColz m acc s e).length ≤ acc.length + m
  | 0, acc, _, _ => Nat.le_refl _
  | m + 1, acc, s, e => by
    simp only [gColz]
    split
    · have := gColz_len m (acc ++ [(rC 4096 s e).g]) (rC 4096 s e).s (rC 4096 s e).e
      rw [List.length_append, List.length_singleton] at this; omega
    · omega

theorem gTail_len (m k : Int) (t s : List UInt8) (e : Int) : (gTail m k t s e).c.length < 1000000 := by
  unfold gTail
  split
  · have := gColz_len (rByt (sB s e).1 (sB s e).2).1.toNat [] (sB (sB s e).1 (sB s e).2).1 (sB (sB s e).1 (sB s e).2).2
    have hb := rByt_bd (sB s e).1 (sB s e).2
    simp only [List.length_nil] at this
    simp only; omega
  split
  · simp
  split
  · simp
  · simp

theorem getD_row {C : List Col} {s : List UInt8} {e : Int} (hC : C.length ≤ 16) (hs : s.length ≤ 1000000) :
    TextsOk ((rRow C s e).getD []) ∧ ((rRow C s e).getD []).length < 9223372036854775808 ∧ ∀ v ∈ (rRow C s e).getD [], I64 v.n := by
  cases h : rRow C s e with
  | none => exact ⟨textsOk_nil, by simp, fun v hv => by simp at hv⟩
  | some vs =>
    obtain ⟨h1, h2⟩ := row_T hC hs h
    exact ⟨h1, h2, fun v hv => ((rRow_bd h).2 v hv).2⟩

theorem i64_0 : I64 0 := ⟨by decide, by decide⟩

theorem gss_T {b : List UInt8} {l : List Tb} (hl : TbsB l) (hb : b.length ≤ 1000000) : EvtT (gss b l).1 ∧ EvtN (gss b l).1 := by
  have hsl : (sB b 0).1.length ≤ b.length := (rByt_len b 0).1
  unfold gss
  generalize (rByt b 0).1 = k at *
  generalize (sB b 0).1 = s at *
  generalize (sB b 0).2 = e at *
  by_cases hk : k = 3 ∨ k = 4 ∨ k = 5
  · have hsl2 := (rTxt_len b.length s e).1
    obtain ⟨t, ht⟩ : ∃ t, (rTxt b.length s e).1 = t := ⟨_, rfl⟩
    obtain ⟨s2, hs2⟩ : ∃ t, (rTxt b.length s e).2.1 = t := ⟨_, rfl⟩
    obtain ⟨e2, he2⟩ : ∃ t, (rTxt b.length s e).2.2 = t := ⟨_, rfl⟩
    have hT : rTxt b.length s e = (t, s2, e2) := by rw [← ht, ← hs2, ← he2]
    rw [hs2] at hsl2
    cases hf : findT l t with
    | none => rw [gEv_none hk hT hf]; exact ⟨evt0 _ _ _, ⟨i64_0, fun v hv => by simp at hv, fun v hv => by simp at hv⟩⟩
    | some w =>
      obtain ⟨C, K⟩ := w
      obtain ⟨_, hC, _⟩ := hl.found hf
      by_cases h5 : k = 5
      · subst h5
        rw [gEv_del hT hf]
        obtain ⟨h1, h2, h3⟩ := getD_row (C := C.take K.toNat) (s := s2) (e := e2) (by rw [List.length_take]; omega) (by omega)
        exact ⟨⟨h1, textsOk_nil, h2, by simp, by simp [chg0]⟩, ⟨i64_0, h3, fun v hv => by simp at hv⟩⟩
      · rw [gEv_ins (by omega) hT hf]
        obtain ⟨h1, h2, h3⟩ := getD_row (C := C) (s := s2) (e := e2) (by omega) (by omega)
        exact ⟨⟨textsOk_nil, h1, by simp, h2, by simp [chg0]⟩, ⟨i64_0, fun v hv => by simp at hv, h3⟩⟩
  · unfold gEv
    rw [if_neg hk]
    split
    · exact ⟨evt6 _ _ (gTail_len _ _ _ _ _), ⟨i64_0, fun v hv => by simp at hv, fun v hv => by simp at hv⟩⟩
    · have := rNum_nonneg s e
      have := rNum_le s e
      exact ⟨evt0 _ _ _, ⟨show I64 (rNum s e).1 from ⟨by omega, by omega⟩, fun v hv => by simp at hv, fun v hv => by simp at hv⟩⟩

theorem pEv_N {k : Int} {l : List Tb} {s : List UInt8} {e : Int} {x : Evt × List UInt8 × Int} (h : pEv k l s e = some x) : EvtN x.1 := by
  unfold pEv at h
  split at h
  · split at h
    · rename_i hp
      cases h
      unfold pRow at hp
      split at hp
      · cases hp
      split at hp
      · cases hp
      rename_i vs hr
      simp only [Option.some.injEq, Prod.mk.injEq] at hp
      obtain ⟨_, rfl, _⟩ := hp
      exact ⟨i64_0, fun v hv => by simp at hv, fun v hv => ((rRow_bd hr).2 v hv).2⟩
    · cases h
  split at h
  · split at h
    · rename_i hp
      cases h
      unfold pKey at hp
      split at hp
      · cases hp
      split at hp
      · cases hp
      rename_i vs hr
      simp only [Option.some.injEq, Prod.mk.injEq] at hp
      obtain ⟨_, rfl, _⟩ := hp
      exact ⟨i64_0, fun v hv => ((rRow_bd hr).2 v hv).2, fun v hv => by simp at hv⟩
    · cases h
  split at h
  · split at h
    · cases h
      exact ⟨i64_0, fun v hv => by simp at hv, fun v hv => by simp at hv⟩
    · cases h
  split at h
  · cases h
    have h1 := rNum_nonneg s e
    have h2 := rNum_le s e
    exact ⟨show I64 (rNum s e).1 from ⟨by omega, by omega⟩, fun v hv => by simp at hv, fun v hv => by simp at hv⟩
  · cases h

/-- the document's answer -/
def rdR (b : List UInt8) (l : List Tb) : Evt × Int :=
  if (gss b l).2 then (evtZ, 7) else if mayE (gss b l).1 l = 0 ∧ evW (gss b l).1 = b then ((gss b l).1, 0) else (evtZ, 2)

set_option maxHeartbeats 8000000 in
theorem R6Read_spec {b : List UInt8} {f : Bool} {l : List Tb} (hl : TbsB l) (hb : b.length ≤ 1000000)
    (h : Q (.tup [evA (rdR b l).1, fI (rdR b l).2]) []) : ACall Tryz.prog 16 0 [.sl 1 (bs b) f, .sl 3 (tbs l) false] [] Q := by
  refine ACall.ret (by_body Tryz.func16 0 rfl (Nat.le_of_ble_eq_true rfl) ?_)
  conv => whnf
  refine .pure (Guess_spec hl hb ⟨rfl, ?_⟩)
  obtain ⟨hT, hN⟩ := gss_T hl hb
  unfold rdR at h
  generalize (gss b l).1 = g at *
  cases hm : (gss b l).2 <;> rw [hm] at h <;> conv => whnf
  rotate_left
  focus
    exact ⟨[], rfl, .sub _ _ (.tup (.cons (.agg (ev_subZ 0)) (VSubs.refl _))) (HSub.refl _) (.done [] rfl h)⟩
  refine ⟨[0, 1, 2, 3, 4, 5, 6, 9, 10, 7, 8, 11, 12], by kernel_rfl, by kernel_rfl, ?_⟩
  conv => whnf
  refine .pure (EvRMay_spec (e := g) hl hT ⟨rfl, ?_⟩)
  repeat (conv => whnf
          refine ⟨rfl, ?_⟩)
  conv => whnf
  refine branch_i (fun c1 => ?_) (fun c1 => ?_) <;> try rw [c1] <;> conv => whnf
  focus
    have c1' : ¬ mayE g l = 0 := by simpa using c1
    rw [if_neg (by decide), if_neg (fun hx => c1' hx.1)] at h
    exact ⟨[], rfl, .sub _ _ (.tup (.cons (.agg (ev_subZ 0)) (VSubs.refl _))) (HSub.refl _) (.done [] rfl h)⟩
  have c1' : mayE g l = 0 := by simpa using c1
  refine ⟨b, bytesOfEs_bs _, ?_⟩
  conv => whnf
  refine .pure (R6Write_spec (e := g) hl hN c1' ⟨rfl, ?_⟩)
  repeat (conv => whnf
          first | (refine ⟨rfl, ?_⟩) | (refine ⟨⟨b, bytesOfEs_bs _, rfl⟩, ?_⟩))
  conv => whnf
  refine ⟨evW g, bytesOfEs_bs _, ?_⟩
  repeat (conv => whnf
          first | (refine ⟨rfl, ?_⟩) | (refine ⟨⟨_, bytesOfEs_bs _, rfl⟩, ?_⟩))
  conv => whnf
  refine branch_i (fun c2 => ?_) (fun c2 => ?_) <;> try rw [c2] <;> conv => whnf
  focus
    have c2' : ¬ evW g = b := by simpa using c2
    rw [if_neg (by decide), if_neg (fun hx => c2' hx.2)] at h
    exact ⟨[], rfl, .sub _ _ (.tup (.cons (.agg (ev_subZ 0)) (VSubs.refl _))) (HSub.refl _) (.done [] rfl h)⟩
  focus
    have c2' : evW g = b := by simpa using c2
    rw [if_neg (by decide), if_pos ⟨c1', c2'⟩] at h
    exact ⟨[], rfl, .done [] rfl h⟩

/-! ### the law -/
theorem reads_same {b : List UInt8} {l : List Tb} (hl : TbsB l) (hb : b.length ≤ 1000000) : prdR b l = rdR b l := by
  obtain ⟨hT, hN⟩ := gss_T hl hb
  have hmi : (gss b l).2 = pMiss (rByt b 0).1 l (sB b 0).1 (sB b 0).2 := by
    have hsl : (sB b 0).1.length ≤ b.length := (rByt_len b 0).1
    unfold gss
    exact miss_eq hl (by omega) (by omega)
  have bad : (¬ ∃ ev, prd b l = some ev ∧ mayE ev l = 0) → prdR b l = (evtZ, if pMiss (rByt b 0).1 l (sB b 0).1 (sB b 0).2 then 7 else 2) := fun hn => by
    unfold prdR
    cases hp : prd b l with
    | none => rfl
    | some ev =>
      simp only
      rw [if_neg (fun h0 => hn ⟨ev, hp, h0⟩)]
  by_cases hx : ∃ ev, prd b l = some ev ∧ mayE ev l = 0
  · obtain ⟨ev, hp, h0⟩ := hx
    have hw := prd_ok hl hp (mayE_inv h0)
    have hbN : EvtN ev := by
      unfold prd at hp
      split at hp
      · split at hp
        · rename_i hpe hend
          cases hp
          exact pEv_N hpe
        · cases hp
      · cases hp
    have hg := gss_W hl (mayE_inv h0) hbN
    rw [hw] at hg
    unfold prdR rdR
    rw [hp, hg]
    simp only [h0, hw]
    rfl
  · rw [bad hx]
    unfold rdR
    rw [hmi]
    cases pMiss (rByt b 0).1 l (sB b 0).1 (sB b 0).2
    · rw [if_neg (by decide), if_neg (by decide), if_neg]
      rintro ⟨h0, hw⟩
      refine hx ⟨(gss b l).1, ?_, h0⟩
      have := prd_W hl (mayE_inv h0) hN
      rw [hw] at this
      exact this
    · rfl

end Go.Proofs.YtokifgdmddnpoaaGreatDoorPg

/- The laws EventReads and EventWrites. -/
namespace Go.Proofs.YtokifgdmddnpoaaGreatDoorPg
open Go Go.RowKit
set_option linter.unusedSimpArgs false
set_option linter.unusedVariables false

variable {Q : V → List O → Prop}

theorem few_spec {b : List UInt8} (h : Q (.sl 1 (bs (b.take 100)) false) []) : ACall Tryz.prog 15 0 [.sl 1 (bs b) false, fI 100] [] Q := by
  refine by_body Tryz.func15 0 rfl (Nat.le_of_ble_eq_true rfl) ?_
  have hbl := bs_len b
  conv => whnf
  refine branch_i (fun c1 => ?_) (fun c1 => ?_) <;> try rw [c1] <;> conv => whnf
  focus
    have c1' := of_decide_eq_true c1
    refine ⟨⟨by omega, by omega⟩, ?_⟩
    conv => whnf
    rw [← bs_take] at h
    exact ⟨[], rfl, h⟩
  focus
    have c1' := of_decide_eq_false c1
    rw [List.take_of_length_le (by omega)] at h
    exact ⟨[], rfl, h⟩

theorem evA_same {Q : V → List O → Prop} {a b : Evt} (e : a = b) (h : Q (.bool true) []) : Q (.bool (decide (a = b))) [] := by rw [decide_eq_true e]; exact h

theorem prdR_T {b : List UInt8} {l : List Tb} (hl : TbsB l) (hb : b.length ≤ 1000000) : EvtT (prdR b l).1 := by
  have hsl : (sB b 0).1.length ≤ b.length := (rByt_len b 0).1
  unfold prdR
  cases hp : prd b l with
  | none => exact evt0 _ _ _
  | some ev =>
    simp only
    split
    · unfold prd at hp
      split at hp
      · split at hp
        · rename_i hpe _
          cases hp
          exact pEv_T hl (by omega) hpe
        · cases hp
      · cases hp
    · exact evt0 _ _ _

set_option maxHeartbeats 16000000 in
theorem EventReads_spec {l : List Tb} {b : List UInt8} (hl : ∀ t ∈ l, TbIn t) : ACall Tryz.prog 4 0 [.sl 3 (tbs l) false, .sl 1 (bs b) false] [] (fun v _ => v = .bool true) := by
  refine by_body Tryz.func4 0 rfl (Nat.le_of_ble_eq_true rfl) ?_
  conv => whnf
  refine .pure (RGoodT_spec hl ⟨rfl, ?_⟩)
  have hg := good_tb hl
  generalize goodT l = g at *
  conv => whnf
  refine .pure (few_spec ⟨rfl, ?_⟩)
  have hbl : (b.take 100).length ≤ 1000000 := by rw [List.length_take]; omega
  generalize b.take 100 = b at *
  conv => whnf
  refine .pure (EvRead_spec (b := b) (f := false) hg hbl ⟨rfl, ?_⟩)
  conv => whnf
  refine .pure (R6Read_spec (b := b) (f := false) hg hbl ⟨rfl, ?_⟩)
  rw [← reads_same hg hbl]
  have hT := prdR_T hg hbl
  generalize (prdR b g).1 = a at *
  generalize (prdR b g).2 = er at *
  conv => whnf
  have h1 := hT.la
  have h2 := hT.lb
  have h3 := hT.lc
  refine .pure (EvRSame_spec (a := a) (b := a) (by omega) (by omega) (by omega) ⟨rfl, ?_⟩)
  rw [decide_eq_true (rfl : a = a)]
  conv => whnf
  rw [decide_eq_true (rfl : er = er)]
  conv => whnf
  refine .pure (lives06_spec ⟨rfl, ?_⟩)
  conv => whnf
  exact ⟨[], rfl, rfl⟩

/-! ### numbers of an event that is made -/
theorem i64_wrap (n : Int) : I64 (IntKind.i64.wrap n) := by unfold I64; rw [IntKind.wrap_i64]; omega

theorem rowV_n (c : Col) (v : Val) (h : I64 v.n) : I64 (rowV c v).n := by
  unfold rowV
  split
  · exact i64_0
  unfold goodV
  split
  · show I64 (if _ then 0 else 1)
    split
    · exact i64_0
    · exact ⟨by decide, by decide⟩
  split
  · exact h
  split
  · exact i64_0
  split
  · exact i64_0
  · exact i64_0

theorem rowL_n {C : List Col} {vs : List Val} (h : ∀ v ∈ vs, I64 v.n) : ∀ v ∈ rowL C vs, I64 v.n := fun v hv => by
  obtain ⟨i, hi⟩ := List.mem_iff_getElem?.1 hv
  have hlt := (List.getElem?_eq_some_iff.1 hi).1
  rw [rowL_len] at hlt
  rw [rowL_get C vs (List.getElem?_eq_getElem hlt)] at hi
  cases hi
  refine rowV_n _ _ ?_
  rw [List.getD_eq_getElem?_getD]
  cases hq : vs[i]? with
  | none => exact i64_0
  | some x => exact h x (List.mem_of_getElem? hq)

theorem evn0 (k n : Int) (t : List UInt8) (h : I64 n) : EvtN ⟨k, n, t, [], [], chg0⟩ := ⟨h, fun v hv => by simp at hv, fun v hv => by simp at hv⟩
theorem evn6 (k n : Int) (c : Chg) (h : I64 n) : EvtN ⟨k, n, [], [], [], c⟩ := ⟨h, fun v hv => by simp at hv, fun v hv => by simp at hv⟩
theorem evn3 (k : Int) (t : List UInt8) (C : List Col) (vs : List Val) (h : ∀ v ∈ vs, I64 v.n) : EvtN ⟨k, 0, t, [], rowL C vs, chg0⟩ := ⟨i64_0, fun v hv => by simp at hv, rowL_n h⟩
theorem evn5 (k : Int) (t : List UInt8) (C : List Col) (vs : List Val) (m : Nat) (h : ∀ v ∈ vs, I64 v.n) : EvtN ⟨k, 0, t, (rowL C vs).take m, [], chg0⟩ := ⟨i64_0, fun v hv => rowL_n h v (List.mem_of_mem_take hv), fun v hv => by simp at hv⟩

set_option maxHeartbeats 32000000 in
theorem REventN_spec {e : Evt} {l : List Tb} (hl : TbsB l) (he : EvtT e) (hn : EvtN e) (h : ∀ e2, EvtT e2 → EvtN e2 → Q (evA e2) []) : ACall Tryz.prog 7 0 [evA e, .sl 3 (tbs l) false] [] Q := by
  refine ACall.ret (by_body Tryz.func7 0 rfl (Nat.le_of_ble_eq_true rfl) ?_)
  conv => whnf
  have hlv := tbs_len l
  refine .pure (EvRFind_spec (by have := hl.few; omega) ⟨rfl, ?_⟩)
  unfold findR
  rcases hf : findT l e.t with _ | ⟨C, K⟩ <;> conv => whnf
  focus
    refine branch_i (fun a1 => ?_) (fun a1 => ?_) <;> try rw [a1] <;> conv => whnf
    focus
      refine branch_i (fun a2 => ?_) (fun a2 => ?_) <;> try rw [a2] <;> conv => whnf
      focus
        refine branch_i (fun a3 => ?_) (fun a3 => ?_) <;> try rw [a3] <;> conv => whnf
        focus
          have a1' := of_decide_eq_true a1
          have hg : l[0]? = some l[0] := List.getElem?_eq_getElem (by omega)
          have hm := (hl.ok.each l[0] (List.getElem_mem (by omega))).sch
          generalize l[0] = w at *
          refine ⟨_, ⟨by omega, tbs_get hg⟩, ?_⟩
          conv => whnf
          refine ⟨_, ⟨by omega, tbs_get hg⟩, ?_⟩
          conv => whnf
          have hb := may_bd hm
          generalize w.c = C at *
          generalize w.k = K at *
          obtain ⟨k, rfl⟩ : ∃ k : Nat, K = k := ⟨K.toNat, by omega⟩
          have hk : k ≤ C.length := by omega
          have hC : C.length ≤ 16 := hb.2.2.2
    rotate_left
    iterate 3
      focus
        repeat' (refine branch_i (fun e => ?_) (fun e => ?_) <;> try rw [e] <;> conv => whnf)
        all_goals
          first
          | exact ⟨[], rfl, .sub _ _ (row_sub0 _ _) (HSub.refl _) (.done [] rfl (h _ (evt0 _ _ _) (evn0 _ _ _ (by first | exact i64_0 | exact hn.n | exact i64_wrap _))))⟩
          | exact ⟨[], rfl, .sub _ _ (may_sub6 _ _ _) (HSub.refl _) (.done [] rfl (h _ (evt6 _ _ he.lc) (evn6 _ _ _ i64_0)))⟩
          | exact ⟨[], rfl, .sub _ _ (may_subN _ _) (HSub.refl _) (.done [] rfl (h _ (evt0 _ _ _) (evn0 _ _ _ (by first | exact i64_0 | exact hn.n | exact i64_wrap _))))⟩
          | (try dsimp [mergeO, mapO, idx, renO, renV, renL, renE, fogOf, fogE, back, forget, gather, getO, setO, Nat.beq, List.drop, List.take, frzH, frzO, frzV, frzL, frzE]); trace_state; sorry
  rotate_left
  focus
    obtain ⟨hm, hC, k, rfl, hk⟩ := hl.found hf
  all_goals
    have hki := may_kinds hm
    refine branch_i (fun k3 => ?_) (fun k3 => ?_) <;> try rw [k3] <;> conv => whnf
    · refine .pure (Row_spec (l := C) (keys := (k : Int)) (vs := e.a) (by omega) hki ⟨rfl, ?_⟩)
      conv => whnf
      exact ⟨[], rfl, .sub _ _ (row_sub _ _ _) (HSub.refl _) (.done [] rfl (h _ (evt3 _ _ _ hC _) (evn3 _ _ _ _ hn.a)))⟩
    refine branch_i (fun k4 => ?_) (fun k4 => ?_) <;> try rw [k4] <;> conv => whnf
    · refine .pure (Row_spec (l := C) (keys := (k : Int)) (vs := e.a) (by omega) hki ⟨rfl, ?_⟩)
      conv => whnf
      exact ⟨[], rfl, .sub _ _ (row_sub _ _ _) (HSub.refl _) (.done [] rfl (h _ (evt3 _ _ _ hC _) (evn3 _ _ _ _ hn.a)))⟩
    refine branch_i (fun k5 => ?_) (fun k5 => ?_) <;> try rw [k5] <;> conv => whnf
    · refine ⟨[0, 1, 2, 4, 5, 3, 6, 7, 8], by kernel_rfl, by kernel_rfl, ?_⟩
      conv => whnf
      refine .pure (Row_spec (l := C) (keys := (k : Int)) (vs := e.b) (by omega) hki ⟨rfl, ?_⟩)
      have hrl : (vals (rowL C e.b)).length = C.length := by rw [vals_len, rowL_len]
      repeat (conv => whnf
              refine ⟨rfl, ?_⟩)
      conv => whnf
      refine ⟨⟨by omega, by omega⟩, ?_⟩
      conv => whnf
      rw [vals_take]
      exact ⟨[], rfl, .sub _ _ (row_sub5 _ _ _) (HSub.refl _) (.done [] rfl (h _ (evt5 _ _ _ hC _ _) (evn5 _ _ _ _ _ hn.b)))⟩
    refine branch_i (fun k6 => ?_) (fun k6 => ?_) <;> try rw [k6] <;> conv => whnf
    · exact ⟨[], rfl, .sub _ _ (may_sub6 _ _ _) (HSub.refl _) (.done [] rfl (h _ (evt6 _ _ he.lc) (evn6 _ _ _ i64_0)))⟩
    refine branch_i (fun k7 => ?_) (fun k7 => ?_) <;> try rw [k7] <;> conv => whnf
    · exact ⟨[], rfl, .sub _ _ (may_subN _ _) (HSub.refl _) (.done [] rfl (h _ (evt0 _ _ _) (evn0 _ _ _ (by first | exact i64_0 | exact hn.n | exact i64_wrap _))))⟩
    · exact ⟨[], rfl, .sub _ _ (may_subN _ _) (HSub.refl _) (.done [] rfl (h _ (evt0 _ _ _) (evn0 _ _ _ (by first | exact i64_0 | exact hn.n | exact i64_wrap _))))⟩



theorem chgW_len {c : Chg} (h : ChgI c) : (chgW c).length ≤ 100000 := by
  have hb := h.b
  have ht := txtW_len c.t
  have h1 := hb.t
  have h2 := hb.few
  have h3 := cols_w hb.names
  have h4 := colW_len hb.col
  have h5 := txtW_len c.col.n
  have h6 := hb.col
  have hc16 : c.c.length ≤ 16 := by
    cases h with
    | cre t cc ks g1 g2 => exact (may_bd g2).2.2.2
    | drop t g1 => simp
    | add k t col g1 gk g2 => simp
    | cut t n g1 g2 => simp
  unfold chgW
  rw [List.length_cons, List.length_append]
  split
  · simp only [List.length_cons]; omega
  split
  · omega
  split
  · omega
  · simp only [List.length_nil]; omega

theorem evW_len {e : Evt} {l : List Tb} (hl : TbsB l) (h : MayI l e) (hn : EvtN e) : (evW e).length ≤ 1000000 := by
  have hm := h.e
  by_cases hr : rowK e.k = true
  · obtain ⟨ht, C, k, hf, h5, h3⟩ := ev_row hl hn hm hr
    have hrk := rowK_is hr
    have htl := txtW_len e.t
    unfold evW
    rw [if_neg (by omega)]
    by_cases k5 : e.k = 5
    · obtain ⟨_, _, hb⟩ := h5 k5
      have := rowW_len hb
      rw [if_pos k5, List.length_cons, List.length_append]; omega
    · obtain ⟨_, hb⟩ := h3 k5
      have := rowW_len hb
      rw [if_neg k5, if_pos (by omega), List.length_cons, List.length_append]; omega
  · have hr' := rowK_not (by simpa using hr)
    unfold evW
    by_cases k6 : e.k = 6
    · rw [if_pos k6, List.length_cons]
      cases h with
      | ins k t a C K hk hf hfit => simp only at k6; omega
      | del t b C K hf hfit hlen => simp only at k6; omega
      | alt c hc => have := chgW_len hc; simp only; omega
      | num k n hk hn => have := numK_is hk; simp only at k6; omega
    · rw [if_neg k6, if_neg (by omega), if_neg (by omega), List.length_cons]
      have := numW_len e.n
      omega

set_option maxHeartbeats 32000000 in
theorem EventWrites_spec {l : List Tb} {e : Evt} (hl : ∀ t ∈ l, TbIn t) (he : EvtIn e) (hb : TextsOk e.b) (ha : TextsOk e.a) : ACall Tryz.prog 3 0 [.sl 3 (tbs l) false, evA e] [] (fun v _ => v = .bool true) := by
  refine by_body Tryz.func3 0 rfl (Nat.le_of_ble_eq_true rfl) ?_
  conv => whnf
  refine .pure (RGoodT_spec hl ⟨rfl, ?_⟩)
  have hg := good_tb hl
  generalize goodT l = g at *
  conv => whnf
  refine .pure (EvCut_spec (c := e.ch) ⟨rfl, ?_⟩)
  conv => whnf
  have h1 := he.b
  have h2 := he.a
  have hc := cutL_len e.ch.c
  have hE : EvtT { e with ch := cutCh e.ch } := ⟨hb, ha, by show e.b.length < _; omega, by show e.a.length < _; omega, by show (cutL e.ch.c).length < _; omega⟩
  have hN : EvtN { e with ch := cutCh e.ch } := ⟨he.n, fun v hv => (he.vb v hv).n, fun v hv => (he.va v hv).n⟩
  refine .pure (REventN_spec (e := { e with ch := cutCh e.ch }) hg hE hN (fun e2 hT2 hN2 => ⟨rfl, ?_⟩))
  conv => whnf
  refine .pure (EvWrite_spec (e := e2) hg hT2 hN2 ⟨rfl, ?_⟩)
  conv => whnf
  refine .pure (EvRMay_spec (e := e2) hg hT2 ⟨rfl, ?_⟩)
  conv => whnf
  rw [decide_eq_true (rfl : mayE e2 g = mayE e2 g)]
  conv => whnf
  refine branch_i (fun c1 => ?_) (fun c1 => ?_) <;> try rw [c1] <;> conv => whnf
  focus
    have c1' : ¬ mayE e2 g = 0 := by simpa using c1
    rw [if_neg c1']
    conv => whnf
    refine .pure (lives06_spec ⟨rfl, ?_⟩)
    conv => whnf
    exact ⟨[], rfl, rfl⟩
  have c1' : mayE e2 g = 0 := by simpa using c1
  rw [if_pos c1']
  have hi := mayE_inv c1'
  have hlen := evW_len hg hi hN2
  have hrd : prdR (evW e2) g = (e2, 0) := by
    unfold prdR
    rw [prd_W hg hi hN2]
    simp only [c1']
    rfl
  refine .pure (EvRead_spec (b := evW e2) (f := false) hg hlen ⟨rfl, ?_⟩)
  rw [hrd]
  conv => whnf
  refine ⟨List.range 25, by kernel_rfl, by kernel_rfl, ?_⟩
  conv => whnf
  refine ⟨evW e2, bytesOfEs_bs _, ?_⟩
  repeat (conv => whnf
          first | (refine ⟨rfl, ?_⟩) | (refine ⟨⟨_, bytesOfEs_bs _, rfl⟩, ?_⟩))
  conv => whnf
  refine .pure (R6Write_spec (e := e2) hg hN2 c1' ⟨rfl, ?_⟩)
  repeat (conv => whnf
          first | (refine ⟨rfl, ?_⟩) | (refine ⟨⟨_, bytesOfEs_bs _, rfl⟩, ?_⟩))
  conv => whnf
  refine ⟨evW e2, bytesOfEs_bs _, ?_⟩
  repeat (conv => whnf
          first | (refine ⟨rfl, ?_⟩) | (refine ⟨⟨_, bytesOfEs_bs _, rfl⟩, ?_⟩))
  conv => whnf
  rw [decide_eq_true (rfl : evW e2 = evW e2)]
  repeat (conv => whnf
          first | (refine ⟨rfl, ?_⟩) | (refine ⟨⟨_, bytesOfEs_bs _, rfl⟩, ?_⟩))
  conv => whnf
  refine .pure (EvRSame_spec (a := e2) (b := e2) hT2.lb hT2.la hT2.lc ⟨rfl, ?_⟩)
  rw [decide_eq_true (rfl : e2 = e2)]
  repeat (conv => whnf
          first | (refine ⟨rfl, ?_⟩) | (refine ⟨⟨_, bytesOfEs_bs _, rfl⟩, ?_⟩))
  conv => whnf
  refine .pure (EvSame_spec (a := e2) (b := e2) hT2.lb hT2.la hT2.lc ⟨rfl, ?_⟩)
  rw [decide_eq_true (rfl : e2 = e2)]
  repeat (conv => whnf
          first | (refine ⟨rfl, ?_⟩) | (refine ⟨⟨_, bytesOfEs_bs _, rfl⟩, ?_⟩))
  conv => whnf
  refine .pure (lives06_spec ⟨rfl, ?_⟩)
  repeat (conv => whnf
          first | (refine ⟨rfl, ?_⟩) | (refine ⟨⟨_, bytesOfEs_bs _, rfl⟩, ?_⟩))
  conv => whnf
  exact ⟨[], rfl, rfl⟩


theorem u8_wf {k : Int} (h : (Lit.int .u8 k).wf = true) : 0 ≤ k ∧ k ≤ 255 := by
  have h' : (decide (IntKind.u8.min ≤ k) && decide (k ≤ IntKind.u8.max)) = true := h
  rw [Bool.and_eq_true] at h'
  exact ⟨of_decide_eq_true h'.1, of_decide_eq_true h'.2⟩

theorem bs_of : ∀ {es : List (List V)}, (∀ x ∈ es, ∃ n : Int, x = [.int .u8 n] ∧ 0 ≤ n ∧ n ≤ 255) → ∃ b : List UInt8, es = bs b
  | [], _ => ⟨[], rfl⟩
  | x :: es, h => by
    obtain ⟨n, rfl, h0, h1⟩ := h x (by simp)
    obtain ⟨b, rfl⟩ := bs_of (es := es) fun y hy => h y (by simp [hy])
    refine ⟨UInt8.ofNat n.toNat :: b, ?_⟩
    have : ((UInt8.ofNat n.toNat).toNat : Int) = n := by rw [ofNat_lt (by omega)]; omega
    show _ = [V.int .u8 ((UInt8.ofNat n.toNat).toNat : Int)] :: bs b
    rw [this]

theorem bytes_in {vs : List V} (h : Shp tt 8 37 vs) : ∃ b : List UInt8, argV tt 37 vs = .sl 1 (bs b) false := by
  obtain ⟨es, _, g1, rfl⟩ := h
  obtain ⟨b, rfl⟩ := bs_of fun x hx => by
    obtain ⟨n, hn, rfl⟩ := g1 x hx
    exact ⟨n, rfl, u8_wf hn⟩
  exact ⟨b, rfl⟩

end Go.Proofs.YtokifgdmddnpoaaGreatDoorPg
