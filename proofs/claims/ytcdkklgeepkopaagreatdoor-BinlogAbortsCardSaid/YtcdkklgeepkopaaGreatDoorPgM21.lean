/- Own texts, laid together: Pg07ZDIm11, Pg07ZDIm12, Pg07ZDIm13, Pg07ZDIm14, Pg07ZDInsT, Pg07ZDEv12, Pg07ZDEv14, Pg07ZDEv16, Pg07ZDBlP, Pg07ZDBlQ, Pg07ZDBlA, Pg07ZDIm15, Pg07ZDBlB, Pg07ZDBlC, Pg07ZDBlD, Pg07ZDBlE, Pg07ZDBlF, Pg07ZDBlG, Pg07ZDBlH, Pg07ZDBlI. -/
import Derived.Test.YtcdkklgeepkopaaGreatDoorPgM20
import Derived.Test.YtcdkklgeepkopaaGreatDoorPgM18
import Derived.Test.YtcdkklgeepkopaaGreatDoorPgM15
import Derived.Test.YtcdkklgeepkopaaGreatDoorPgM19
import Derived.Test.YtcdkklgeepkopaaGreatDoorPgM13
set_option linter.unusedSimpArgs false
set_option linter.unusedVariables false
namespace Go.Proofs.YtcdkklgeepkopaaGreatDoorPg
open Go Go.RowKit
variable {Q : V -> List O -> Prop}
def km : Nat -> List (V × V)
 | 0 => [(.int .i64 3, .fn (.func 99) [] []), (.int .i64 4, .fn (.func 99) [] []), (.int .i64 5, .fn (.func 100) [] []), (.int .i64 6, .fn (.func 101) [] [])]
 | i + 1 => if numK ((i + 1 : Nat) : Int) then km i ++ [(.int .i64 ((i + 1 : Nat) : Int), .fn (.func 103) [] [])] else km i
def kms : List (V × V) := [(.int .i64 3, .fn (.func 99) [] []), (.int .i64 4, .fn (.func 99) [] []), (.int .i64 5, .fn (.func 100) [] []), (.int .i64 6, .fn (.func 101) [] []),
 (.int .i64 1, .fn (.func 103) [] []), (.int .i64 2, .fn (.func 103) [] []), (.int .i64 7, .fn (.func 103) [] []), (.int .i64 8, .fn (.func 103) [] []), (.int .i64 9, .fn (.func 103) [] []), (.int .i64 10, .fn (.func 103) [] [])]
set_option maxHeartbeats 16000000 in
theorem Kinds_spec (h : Q (.map 0) [.map kms 10]) : ACall Tryz.prog 71 0 [] [] Q := by
 refine by_body Tryz.func71 0 rfl (nbZ rfl) ?_
 conv => whnf
 refine ⟨⟨[1, 2], fun mm ws H => ∃ i : Nat, ws = [.map 0, fI (i + 1 : Nat)] /\ H = [.map (kms.take (if i < 2 then 4 + i else if i < 6 then 6 else i)) (if i < 2 then 4 + i else if i < 6 then 6 else i)] /\ i <= 10 /\ mm = 10 - i, .at 10 ⟨0, rfl, rfl, by omega, rfl⟩, ?_⟩⟩
 rintro mm ws H ⟨i, rfl, rfl, hi, rfl⟩;rcases (by omega : i = 0 \/ i = 1 \/ i = 2 \/ i = 3 \/ i = 4 \/ i = 5 \/ i = 6 \/ i = 7 \/ i = 8 \/ i = 9 \/ i = 10) with rfl | rfl | rfl | rfl | rfl | rfl | rfl | rfl | rfl | rfl | rfl
 focus
  conv => whnf
  refine .pure (numbered_spec ⟨rfl, ?_⟩)
  conv => whnf
  exact .go [0] rfl 9 (by omega) ⟨1, rfl, rfl, by omega, rfl⟩
 focus
  conv => whnf
  refine .pure (numbered_spec ⟨rfl, ?_⟩)
  conv => whnf
  exact .go [0] rfl 8 (by omega) ⟨2, rfl, rfl, by omega, rfl⟩
 focus
  conv => whnf
  refine .pure (numbered_spec ⟨rfl, ?_⟩)
  conv => whnf
  exact .go [0] rfl 7 (by omega) ⟨3, rfl, rfl, by omega, rfl⟩
 focus
  conv => whnf
  refine .pure (numbered_spec ⟨rfl, ?_⟩)
  conv => whnf
  exact .go [0] rfl 6 (by omega) ⟨4, rfl, rfl, by omega, rfl⟩
 focus
  conv => whnf
  refine .pure (numbered_spec ⟨rfl, ?_⟩)
  conv => whnf
  exact .go [0] rfl 5 (by omega) ⟨5, rfl, rfl, by omega, rfl⟩
 focus
  conv => whnf
  refine .pure (numbered_spec ⟨rfl, ?_⟩)
  conv => whnf
  exact .go [0] rfl 4 (by omega) ⟨6, rfl, rfl, by omega, rfl⟩
 focus
  conv => whnf
  refine .pure (numbered_spec ⟨rfl, ?_⟩)
  conv => whnf
  exact .go [0] rfl 3 (by omega) ⟨7, rfl, rfl, by omega, rfl⟩
 focus
  conv => whnf
  refine .pure (numbered_spec ⟨rfl, ?_⟩)
  conv => whnf
  exact .go [0] rfl 2 (by omega) ⟨8, rfl, rfl, by omega, rfl⟩
 focus
  conv => whnf
  refine .pure (numbered_spec ⟨rfl, ?_⟩)
  conv => whnf
  exact .go [0] rfl 1 (by omega) ⟨9, rfl, rfl, by omega, rfl⟩
 focus
  conv => whnf
  refine .pure (numbered_spec ⟨rfl, ?_⟩)
  conv => whnf
  exact .go [0] rfl 0 (by omega) ⟨10, rfl, rfl, by omega, rfl⟩
 focus
  conv => whnf
  exact ⟨[0], rfl, h⟩
theorem reads_row {l : List Tb} {s : List UInt8} {f : Bool} {e k : Int} (hl : TbsB l) (hs : s.length <= 1000000000) (hk : k = 3 \/ k = 4)
 (h1 : ∀ ev s' e', pEv k l s e = some (ev, s', e') -> Q (.bool true) [rdrO 2 l 0, .cells (evC ev), rdO s' f e'])
 (h0 : pEv k l s e = none -> ∀ ev s' e', Q (.bool false) [rdrO 2 l (if pMiss k l s e then 7 else 0), .cells (evC ev), rdO s' f e']) :
 ACall Tryz.prog 99 3 [.ptr 0 0, .ptr 1 0] [rdrO 2 l 0, .cells (evC ⟨k, 0, [], [], [], chg0⟩), rdO s f e] Q := by
 have hr : rowK k = true := by rcases hk with rfl | rfl <;> rfl
 unfold pEv at h1 h0;rw [if_pos hk] at h1 h0;unfold pMiss at h0;rw [hr, Bool.true_and] at h0;refine ERow_spec hl hs (fun t vs s' e' hp => ?_) (fun hp ev s' e' => ?_)
 . rw [hp] at h1; exact h1 _ _ _ rfl
 . rw [hp] at h0; exact h0 rfl ev s' e'
theorem reads_key {l : List Tb} {s : List UInt8} {f : Bool} {e : Int} (hl : TbsB l) (hs : s.length <= 1000000000)
 (h1 : ∀ ev s' e', pEv 5 l s e = some (ev, s', e') -> Q (.bool true) [rdrO 2 l 0, .cells (evC ev), rdO s' f e'])
 (h0 : pEv 5 l s e = none -> ∀ ev s' e', Q (.bool false) [rdrO 2 l (if pMiss 5 l s e then 7 else 0), .cells (evC ev), rdO s' f e']) :
 ACall Tryz.prog 100 3 [.ptr 0 0, .ptr 1 0] [rdrO 2 l 0, .cells (evC ⟨5, 0, [], [], [], chg0⟩), rdO s f e] Q := by
 unfold pEv at h1 h0;rw [if_neg (by decide), if_pos rfl] at h1 h0
 unfold pMiss at h0;rw [show rowK 5 = true from rfl, Bool.true_and] at h0
 refine EKey_spec hl hs (fun t vs s' e' hp => ?_) (fun hp ev s' e' => ?_)
 . rw [hp] at h1; exact h1 _ _ _ rfl
 . rw [hp] at h0; exact h0 rfl ev s' e'
theorem reads_chg {l : List Tb} {s : List UInt8} {f : Bool} {e : Int}
 (h1 : ∀ ev s' e', pEv 6 l s e = some (ev, s', e') -> Q (.bool true) [rdrO 2 l 0, .cells (evC ev), rdO s' f e'])
 (h0 : pEv 6 l s e = none -> ∀ ev s' e', Q (.bool false) [rdrO 2 l (if pMiss 6 l s e then 7 else 0), .cells (evC ev), rdO s' f e']) :
 ACall Tryz.prog 101 3 [.ptr 0 0, .ptr 1 0] [rdrO 2 l 0, .cells (evC ⟨6, 0, [], [], [], chg0⟩), rdO s f e] Q := by
 unfold pEv at h1 h0;rw [if_neg (by decide), if_neg (by decide), if_pos rfl] at h1 h0
 unfold pMiss at h0;rw [show rowK 6 = false from rfl, Bool.false_and] at h0
 refine EChg_spec (fun c s' e' hp => ?_) (fun hp c s' e' => ?_)
 . rw [hp] at h1; exact h1 _ _ _ rfl
 . rw [hp] at h0; exact h0 rfl ⟨6, 0, [], [], [], c⟩ s' e'
theorem reads_num {l : List Tb} {s : List UInt8} {f : Bool} {e k : Int} (hk : numK k = true)
 (h1 : ∀ ev s' e', pEv k l s e = some (ev, s', e') -> Q (.bool true) [rdrO 2 l 0, .cells (evC ev), rdO s' f e'])
 (h0 : pEv k l s e = none -> ∀ ev s' e', Q (.bool false) [rdrO 2 l (if pMiss k l s e then 7 else 0), .cells (evC ev), rdO s' f e']) :
 ACall Tryz.prog 103 3 [.ptr 0 0, .ptr 1 0] [rdrO 2 l 0, .cells (evC ⟨k, 0, [], [], [], chg0⟩), rdO s f e] Q := by
 have hk' := numK_is hk;unfold pEv at h1 h0;rw [if_neg (by omega), if_neg (by omega), if_neg (by omega), if_pos hk] at h1 h0
 exact ENum_spec (h1 _ _ _ rfl)
theorem pEv_miss {k : Int} {l : List Tb} {s : List UInt8} {e : Int} {x : Evt × List UInt8 × Int} (h : pEv k l s e = some x) : pMiss k l s e = false := by
 unfold pEv at h;unfold pMiss;split at h
 . split at h
   . rename_i hp;unfold pRow at hp;split at hp
     . cases hp
     . rename_i hf; rw [hf]; simp
   . cases h
 split at h
 . split at h
   . rename_i hp;unfold pKey at hp;split at hp
     . cases hp
     . rename_i hf; rw [hf]; simp
   . cases h
 . have : rowK k = false := by unfold rowK; simp; omega
   rw [this]; rfl
theorem pCols_len : ∀ (m : Nat) (acc : List Col) (s : List UInt8) (e : Int) (x : List Col × List UInt8 × Int), pCols m acc s e = some x -> x.1.length = acc.length + m := by
 intro m;induction m with
 | zero => intro acc s e x h; simp only [pCols, Option.some.injEq] at h; subst h; rfl
 | succ m ih =>
  intro acc s e x h;simp only [pCols] at h;split at h
  . cases h
  . have := ih _ _ _ _ h;rw [this, laZ, List.length_singleton]; omega
theorem pTail_len {k : Int} {t s : List UInt8} {e : Int} {x : Chg × List UInt8 × Int} (h : pTail k t s e = some x) : x.1.c.length < 9223372036854775808 := by
 unfold pTail at h;split at h
 . split at h
   . rename_i hp;have := pCols_len _ _ _ _ _ hp;have hb := rByt_bd (sB s e).1 (sB s e).2;simp only [List.length_nil] at this;cases h;simp only; omega
   . cases h
 split at h
 . split at h
   . cases h; simp
   . cases h
 split at h
 . cases h; simp
 . cases h; simp
theorem row_T {C : List Col} {vs : List Val} {s : List UInt8} {e : Int} (hC : C.length <= 16) (hs : s.length <= 1000000000) (h : rRow C s e = some vs) : TextsOk vs /\ vs.length < 9223372036854775808 := by
 obtain ⟨h1, h2⟩ := rRow_bd h;exact ⟨fun v hv => by have := (h2 v hv).1; omega, by omega⟩
theorem sT_len (m : Int) (s : List UInt8) (e : Int) : (sT m s e).1.length <= s.length := (rTxt_len m s e).1
theorem pEv_T {k : Int} {l : List Tb} {s : List UInt8} {e : Int} {x : Evt × List UInt8 × Int} (hl : TbsB l) (hs : s.length <= 1000000000) (h : pEv k l s e = some x) : EvtT x.1 := by
 unfold pEv at h;split at h
 . split at h
   . rename_i hp;cases h;unfold pRow at hp;split at hp
     . cases hp
     rename_i C K hf;split at hp
     . cases hp
     rename_i vs hr;simp only [Option.some.injEq, Prod.mk.injEq] at hp;obtain ⟨_, rfl, _⟩ := hp;obtain ⟨_, hC, _⟩ := hl.found hf;have := sT_len s.length s e;obtain ⟨h1, h2⟩ := row_T hC (by omega) hr
     exact ⟨textsOk_nil, h1, by simp, h2, by simp [chg0]⟩
   . cases h
 split at h
 . split at h
   . rename_i hp;cases h;unfold pKey at hp;split at hp
     . cases hp
     rename_i C K hf;split at hp
     . cases hp
     rename_i vs hr;simp only [Option.some.injEq, Prod.mk.injEq] at hp;obtain ⟨_, rfl, _⟩ := hp;obtain ⟨_, hC, _⟩ := hl.found hf;have := sT_len s.length s e;obtain ⟨h1, h2⟩ := row_T (by rw [List.length_take]; omega) (by omega) hr
     exact ⟨h1, textsOk_nil, h2, by simp, by simp [chg0]⟩
   . cases h
 split at h
 . split at h
   . rename_i hp;cases h;unfold pChg at hp;exact evt6 _ _ (pTail_len hp)
   . cases h
 split at h
 . cases h;exact evt0 _ _ _
 . cases h
def evtZ : Evt := ⟨0, 0, [], [], [], chg0⟩
def prdR (b : List UInt8) (l : List Tb) : Evt × Int := match prd b l with
 | some ev => if mayE ev l = 0 then (ev, 0) else (evtZ, if pMiss (rByt b 0).1 l (sB b 0).1 (sB b 0).2 then 7 else 2)
 | none => (evtZ, if pMiss (rByt b 0).1 l (sB b 0).1 (sB b 0).2 then 7 else 2)
theorem ev_subZ (k : Int) : VSubs [.int .i64 k, .int .i64 0, .str [], .nils, .nils, .int .i64 0, .str [], .nils, .int .i64 0, .str [], .int .i64 0, .bool false] (evC ⟨k, 0, [], [], [], chg0⟩) :=
 .cons (.refl _) (.cons (.refl _) (.cons (.refl _) (.cons (nils_sl3 false) (.cons (nils_sl3 false) (.cons (.refl _) (.cons (.refl _) (.cons (nils_sl3 false) (VSubs.refl _))))))))
set_option maxHeartbeats 32000000 in
set_option maxRecDepth 8000 in
theorem EvRead_spec {b : List UInt8} {f : Bool} {l : List Tb} (hl : TbsB l) (hb : b.length <= 1000000000)
 (h : Q (.tup [evA (prdR b l).1, fI (prdR b l).2]) []) : ACall Tryz.prog 41 0 [.sl 1 (bs b) f, .sl 3 (tbs l) false] [] Q := by
 refine ACall.ret (by_body Tryz.func41 0 rfl (nbZ rfl) ?_)
 conv => whnf
 refine .call [] 0 ⟨rfl, rfl, rfl⟩ (Read_spec ?_)
 conv => whnf
 refine .call [1] 1 ⟨rfl, rfl, rfl⟩ (Byte_spec ?_);unfold prdR prd at h;have hsl : (sB b 0).1.length <= b.length := (rByt_len b 0).1;unfold sB at h hsl;generalize (rByt b 0).1 = k at *;generalize (rByt b 0).2.1 = s1 at *;generalize (rByt b 0).2.2 = e1 at *
 conv => whnf
 refine ⟨[1, 2, 0, 3, 4], by kernel_rfl, by kernel_rfl, ?_⟩
 conv => whnf
 refine .call [] 0 ⟨rfl, rfl, rfl⟩ (Kinds_spec ?_)
 repeat (conv => whnf
         refine ⟨rfl, ?_⟩)
 conv => whnf
 refine branch_i (fun q3 => ?_) (fun q3 => ?_) <;> try rw [q3] <;> conv => whnf
 focus
  have q' := dtZ q3;subst q';refine ACalls.sub _ _ rfl (VSubs.refl _) (.cons (.refl _) (.cons (.refl _) (.cons (.refl _) (.cons (.cells (ev_subZ _)) (HSub.refl _))))) (.call [2, 3, 1] 3 ⟨rfl, rfl, rfl⟩ (reads_row hl (by omega) (.inl rfl) (fun ev s' e' hp => ?_) (fun hp ev s' e' => ?_)))
  focus
   have hT := pEv_T hl (by omega) hp
   have hMi := pEv_miss hp;rw [hp, hMi] at h;simp only at h hT
   conv => whnf
   refine .call [1] 1 ⟨rfl, rfl, rfl⟩ (End_spec ?_);generalize endE s' e' = en at *
   conv => whnf
   refine branch_i (fun c1 => ?_) (fun c1 => ?_) <;> try rw [c1] <;> conv => whnf
   focus
    have c1' : ¬ en = 0 := by simpa using c1
    rw [if_neg c1'] at h;exact ⟨[], rfl, .sub _ _ (.tup (.cons (.agg (ev_subZ 0)) (VSubs.refl _))) (HSub.refl _) (.done [] rfl h)⟩
   have c1' : en = 0 := by simpa using c1
   rw [if_pos c1'] at h;refine .pure (EvMay_spec (e := ev) hl hT ⟨rfl, ?_⟩)
   conv => whnf
   refine branch_i (fun c2 => ?_) (fun c2 => ?_) <;> try rw [c2] <;> conv => whnf
   focus
    have c2' : ¬ mayE ev l = 0 := by simpa using c2
    simp only [if_neg c2'] at h;exact ⟨[], rfl, .sub _ _ (.tup (.cons (.agg (ev_subZ 0)) (VSubs.refl _))) (HSub.refl _) (.done [] rfl h)⟩
   focus
    have c2' : mayE ev l = 0 := by simpa using c2
    simp only [if_pos c2'] at h;exact ⟨[], rfl, .done [] rfl h⟩
  focus
   rw [hp] at h;simp only at h;cases hmi : pMiss 3 l s1 e1 <;> rw [hmi] at h <;> conv => whnf
   . exact ⟨[], rfl, .sub _ _ (.tup (.cons (.agg (ev_subZ 0)) (VSubs.refl _))) (HSub.refl _) (.done [] rfl h)⟩
   . exact ⟨[], rfl, .sub _ _ (.tup (.cons (.agg (ev_subZ 0)) (VSubs.refl _))) (HSub.refl _) (.done [] rfl h)⟩
 have n3 := dfZ q3;refine branch_i (fun q4 => ?_) (fun q4 => ?_) <;> try rw [q4] <;> conv => whnf
 focus
  have q' := dtZ q4;subst q';refine ACalls.sub _ _ rfl (VSubs.refl _) (.cons (.refl _) (.cons (.refl _) (.cons (.refl _) (.cons (.cells (ev_subZ _)) (HSub.refl _))))) (.call [2, 3, 1] 3 ⟨rfl, rfl, rfl⟩ (reads_row hl (by omega) (.inr rfl) (fun ev s' e' hp => ?_) (fun hp ev s' e' => ?_)))
  focus
   have hT := pEv_T hl (by omega) hp
   have hMi := pEv_miss hp;rw [hp, hMi] at h;simp only at h hT
   conv => whnf
   refine .call [1] 1 ⟨rfl, rfl, rfl⟩ (End_spec ?_);generalize endE s' e' = en at *
   conv => whnf
   refine branch_i (fun c1 => ?_) (fun c1 => ?_) <;> try rw [c1] <;> conv => whnf
   focus
    have c1' : ¬ en = 0 := by simpa using c1
    rw [if_neg c1'] at h;exact ⟨[], rfl, .sub _ _ (.tup (.cons (.agg (ev_subZ 0)) (VSubs.refl _))) (HSub.refl _) (.done [] rfl h)⟩
   have c1' : en = 0 := by simpa using c1
   rw [if_pos c1'] at h;refine .pure (EvMay_spec (e := ev) hl hT ⟨rfl, ?_⟩)
   conv => whnf
   refine branch_i (fun c2 => ?_) (fun c2 => ?_) <;> try rw [c2] <;> conv => whnf
   focus
    have c2' : ¬ mayE ev l = 0 := by simpa using c2
    simp only [if_neg c2'] at h;exact ⟨[], rfl, .sub _ _ (.tup (.cons (.agg (ev_subZ 0)) (VSubs.refl _))) (HSub.refl _) (.done [] rfl h)⟩
   focus
    have c2' : mayE ev l = 0 := by simpa using c2
    simp only [if_pos c2'] at h;exact ⟨[], rfl, .done [] rfl h⟩
  focus
   rw [hp] at h;simp only at h;cases hmi : pMiss 4 l s1 e1 <;> rw [hmi] at h <;> conv => whnf
   . exact ⟨[], rfl, .sub _ _ (.tup (.cons (.agg (ev_subZ 0)) (VSubs.refl _))) (HSub.refl _) (.done [] rfl h)⟩
   . exact ⟨[], rfl, .sub _ _ (.tup (.cons (.agg (ev_subZ 0)) (VSubs.refl _))) (HSub.refl _) (.done [] rfl h)⟩
 have n4 := dfZ q4;refine branch_i (fun q5 => ?_) (fun q5 => ?_) <;> try rw [q5] <;> conv => whnf
 focus
  have q' := dtZ q5;subst q';refine ACalls.sub _ _ rfl (VSubs.refl _) (.cons (.refl _) (.cons (.refl _) (.cons (.refl _) (.cons (.cells (ev_subZ _)) (HSub.refl _))))) (.call [2, 3, 1] 3 ⟨rfl, rfl, rfl⟩ (reads_key hl (by omega) (fun ev s' e' hp => ?_) (fun hp ev s' e' => ?_)))
  focus
   have hT := pEv_T hl (by omega) hp
   have hMi := pEv_miss hp;rw [hp, hMi] at h;simp only at h hT
   conv => whnf
   refine .call [1] 1 ⟨rfl, rfl, rfl⟩ (End_spec ?_);generalize endE s' e' = en at *
   conv => whnf
   refine branch_i (fun c1 => ?_) (fun c1 => ?_) <;> try rw [c1] <;> conv => whnf
   focus
    have c1' : ¬ en = 0 := by simpa using c1
    rw [if_neg c1'] at h;exact ⟨[], rfl, .sub _ _ (.tup (.cons (.agg (ev_subZ 0)) (VSubs.refl _))) (HSub.refl _) (.done [] rfl h)⟩
   have c1' : en = 0 := by simpa using c1
   rw [if_pos c1'] at h;refine .pure (EvMay_spec (e := ev) hl hT ⟨rfl, ?_⟩)
   conv => whnf
   refine branch_i (fun c2 => ?_) (fun c2 => ?_) <;> try rw [c2] <;> conv => whnf
   focus
    have c2' : ¬ mayE ev l = 0 := by simpa using c2
    simp only [if_neg c2'] at h;exact ⟨[], rfl, .sub _ _ (.tup (.cons (.agg (ev_subZ 0)) (VSubs.refl _))) (HSub.refl _) (.done [] rfl h)⟩
   focus
    have c2' : mayE ev l = 0 := by simpa using c2
    simp only [if_pos c2'] at h;exact ⟨[], rfl, .done [] rfl h⟩
  focus
   rw [hp] at h;simp only at h;cases hmi : pMiss 5 l s1 e1 <;> rw [hmi] at h <;> conv => whnf
   . exact ⟨[], rfl, .sub _ _ (.tup (.cons (.agg (ev_subZ 0)) (VSubs.refl _))) (HSub.refl _) (.done [] rfl h)⟩
   . exact ⟨[], rfl, .sub _ _ (.tup (.cons (.agg (ev_subZ 0)) (VSubs.refl _))) (HSub.refl _) (.done [] rfl h)⟩
 have n5 := dfZ q5;refine branch_i (fun q6 => ?_) (fun q6 => ?_) <;> try rw [q6] <;> conv => whnf
 focus
  have q' := dtZ q6;subst q';refine ACalls.sub _ _ rfl (VSubs.refl _) (.cons (.refl _) (.cons (.refl _) (.cons (.refl _) (.cons (.cells (ev_subZ _)) (HSub.refl _))))) (.call [2, 3, 1] 3 ⟨rfl, rfl, rfl⟩ (reads_chg (fun ev s' e' hp => ?_) (fun hp ev s' e' => ?_)))
  focus
   have hT := pEv_T hl (by omega) hp
   have hMi := pEv_miss hp;rw [hp, hMi] at h;simp only at h hT
   conv => whnf
   refine .call [1] 1 ⟨rfl, rfl, rfl⟩ (End_spec ?_);generalize endE s' e' = en at *
   conv => whnf
   refine branch_i (fun c1 => ?_) (fun c1 => ?_) <;> try rw [c1] <;> conv => whnf
   focus
    have c1' : ¬ en = 0 := by simpa using c1
    rw [if_neg c1'] at h;exact ⟨[], rfl, .sub _ _ (.tup (.cons (.agg (ev_subZ 0)) (VSubs.refl _))) (HSub.refl _) (.done [] rfl h)⟩
   have c1' : en = 0 := by simpa using c1
   rw [if_pos c1'] at h;refine .pure (EvMay_spec (e := ev) hl hT ⟨rfl, ?_⟩)
   conv => whnf
   refine branch_i (fun c2 => ?_) (fun c2 => ?_) <;> try rw [c2] <;> conv => whnf
   focus
    have c2' : ¬ mayE ev l = 0 := by simpa using c2
    simp only [if_neg c2'] at h;exact ⟨[], rfl, .sub _ _ (.tup (.cons (.agg (ev_subZ 0)) (VSubs.refl _))) (HSub.refl _) (.done [] rfl h)⟩
   focus
    have c2' : mayE ev l = 0 := by simpa using c2
    simp only [if_pos c2'] at h;exact ⟨[], rfl, .done [] rfl h⟩
  focus
   rw [hp] at h;simp only at h;cases hmi : pMiss 6 l s1 e1 <;> rw [hmi] at h <;> conv => whnf
   . exact ⟨[], rfl, .sub _ _ (.tup (.cons (.agg (ev_subZ 0)) (VSubs.refl _))) (HSub.refl _) (.done [] rfl h)⟩
   . exact ⟨[], rfl, .sub _ _ (.tup (.cons (.agg (ev_subZ 0)) (VSubs.refl _))) (HSub.refl _) (.done [] rfl h)⟩
 have n6 := dfZ q6;refine branch_i (fun q1 => ?_) (fun q1 => ?_) <;> try rw [q1] <;> conv => whnf
 focus
  have q' := dtZ q1;subst q';refine ACalls.sub _ _ rfl (VSubs.refl _) (.cons (.refl _) (.cons (.refl _) (.cons (.refl _) (.cons (.cells (ev_subZ _)) (HSub.refl _))))) (.call [2, 3, 1] 3 ⟨rfl, rfl, rfl⟩ (reads_num rfl (fun ev s' e' hp => ?_) (fun hp ev s' e' => ?_)))
  focus
   have hT := pEv_T hl (by omega) hp
   have hMi := pEv_miss hp;rw [hp, hMi] at h;simp only at h hT
   conv => whnf
   refine .call [1] 1 ⟨rfl, rfl, rfl⟩ (End_spec ?_);generalize endE s' e' = en at *
   conv => whnf
   refine branch_i (fun c1 => ?_) (fun c1 => ?_) <;> try rw [c1] <;> conv => whnf
   focus
    have c1' : ¬ en = 0 := by simpa using c1
    rw [if_neg c1'] at h;exact ⟨[], rfl, .sub _ _ (.tup (.cons (.agg (ev_subZ 0)) (VSubs.refl _))) (HSub.refl _) (.done [] rfl h)⟩
   have c1' : en = 0 := by simpa using c1
   rw [if_pos c1'] at h;refine .pure (EvMay_spec (e := ev) hl hT ⟨rfl, ?_⟩)
   conv => whnf
   refine branch_i (fun c2 => ?_) (fun c2 => ?_) <;> try rw [c2] <;> conv => whnf
   focus
    have c2' : ¬ mayE ev l = 0 := by simpa using c2
    simp only [if_neg c2'] at h;exact ⟨[], rfl, .sub _ _ (.tup (.cons (.agg (ev_subZ 0)) (VSubs.refl _))) (HSub.refl _) (.done [] rfl h)⟩
   focus
    have c2' : mayE ev l = 0 := by simpa using c2
    simp only [if_pos c2'] at h;exact ⟨[], rfl, .done [] rfl h⟩
  focus
   rw [hp] at h;simp only at h;cases hmi : pMiss 1 l s1 e1 <;> rw [hmi] at h <;> conv => whnf
   . exact ⟨[], rfl, .sub _ _ (.tup (.cons (.agg (ev_subZ 0)) (VSubs.refl _))) (HSub.refl _) (.done [] rfl h)⟩
   . exact ⟨[], rfl, .sub _ _ (.tup (.cons (.agg (ev_subZ 0)) (VSubs.refl _))) (HSub.refl _) (.done [] rfl h)⟩
 have n1 := dfZ q1;refine branch_i (fun q2 => ?_) (fun q2 => ?_) <;> try rw [q2] <;> conv => whnf
 focus
  have q' := dtZ q2;subst q';refine ACalls.sub _ _ rfl (VSubs.refl _) (.cons (.refl _) (.cons (.refl _) (.cons (.refl _) (.cons (.cells (ev_subZ _)) (HSub.refl _))))) (.call [2, 3, 1] 3 ⟨rfl, rfl, rfl⟩ (reads_num rfl (fun ev s' e' hp => ?_) (fun hp ev s' e' => ?_)))
  focus
   have hT := pEv_T hl (by omega) hp
   have hMi := pEv_miss hp;rw [hp, hMi] at h;simp only at h hT
   conv => whnf
   refine .call [1] 1 ⟨rfl, rfl, rfl⟩ (End_spec ?_);generalize endE s' e' = en at *
   conv => whnf
   refine branch_i (fun c1 => ?_) (fun c1 => ?_) <;> try rw [c1] <;> conv => whnf
   focus
    have c1' : ¬ en = 0 := by simpa using c1
    rw [if_neg c1'] at h;exact ⟨[], rfl, .sub _ _ (.tup (.cons (.agg (ev_subZ 0)) (VSubs.refl _))) (HSub.refl _) (.done [] rfl h)⟩
   have c1' : en = 0 := by simpa using c1
   rw [if_pos c1'] at h;refine .pure (EvMay_spec (e := ev) hl hT ⟨rfl, ?_⟩)
   conv => whnf
   refine branch_i (fun c2 => ?_) (fun c2 => ?_) <;> try rw [c2] <;> conv => whnf
   focus
    have c2' : ¬ mayE ev l = 0 := by simpa using c2
    simp only [if_neg c2'] at h;exact ⟨[], rfl, .sub _ _ (.tup (.cons (.agg (ev_subZ 0)) (VSubs.refl _))) (HSub.refl _) (.done [] rfl h)⟩
   focus
    have c2' : mayE ev l = 0 := by simpa using c2
    simp only [if_pos c2'] at h;exact ⟨[], rfl, .done [] rfl h⟩
  focus
   rw [hp] at h;simp only at h;cases hmi : pMiss 2 l s1 e1 <;> rw [hmi] at h <;> conv => whnf
   . exact ⟨[], rfl, .sub _ _ (.tup (.cons (.agg (ev_subZ 0)) (VSubs.refl _))) (HSub.refl _) (.done [] rfl h)⟩
   . exact ⟨[], rfl, .sub _ _ (.tup (.cons (.agg (ev_subZ 0)) (VSubs.refl _))) (HSub.refl _) (.done [] rfl h)⟩
 have n2 := dfZ q2;refine branch_i (fun q7 => ?_) (fun q7 => ?_) <;> try rw [q7] <;> conv => whnf
 focus
  have q' := dtZ q7;subst q';refine ACalls.sub _ _ rfl (VSubs.refl _) (.cons (.refl _) (.cons (.refl _) (.cons (.refl _) (.cons (.cells (ev_subZ _)) (HSub.refl _))))) (.call [2, 3, 1] 3 ⟨rfl, rfl, rfl⟩ (reads_num rfl (fun ev s' e' hp => ?_) (fun hp ev s' e' => ?_)))
  focus
   have hT := pEv_T hl (by omega) hp
   have hMi := pEv_miss hp;rw [hp, hMi] at h;simp only at h hT
   conv => whnf
   refine .call [1] 1 ⟨rfl, rfl, rfl⟩ (End_spec ?_);generalize endE s' e' = en at *
   conv => whnf
   refine branch_i (fun c1 => ?_) (fun c1 => ?_) <;> try rw [c1] <;> conv => whnf
   focus
    have c1' : ¬ en = 0 := by simpa using c1
    rw [if_neg c1'] at h;exact ⟨[], rfl, .sub _ _ (.tup (.cons (.agg (ev_subZ 0)) (VSubs.refl _))) (HSub.refl _) (.done [] rfl h)⟩
   have c1' : en = 0 := by simpa using c1
   rw [if_pos c1'] at h;refine .pure (EvMay_spec (e := ev) hl hT ⟨rfl, ?_⟩)
   conv => whnf
   refine branch_i (fun c2 => ?_) (fun c2 => ?_) <;> try rw [c2] <;> conv => whnf
   focus
    have c2' : ¬ mayE ev l = 0 := by simpa using c2
    simp only [if_neg c2'] at h;exact ⟨[], rfl, .sub _ _ (.tup (.cons (.agg (ev_subZ 0)) (VSubs.refl _))) (HSub.refl _) (.done [] rfl h)⟩
   focus
    have c2' : mayE ev l = 0 := by simpa using c2
    simp only [if_pos c2'] at h;exact ⟨[], rfl, .done [] rfl h⟩
  focus
   rw [hp] at h;simp only at h;cases hmi : pMiss 7 l s1 e1 <;> rw [hmi] at h <;> conv => whnf
   . exact ⟨[], rfl, .sub _ _ (.tup (.cons (.agg (ev_subZ 0)) (VSubs.refl _))) (HSub.refl _) (.done [] rfl h)⟩
   . exact ⟨[], rfl, .sub _ _ (.tup (.cons (.agg (ev_subZ 0)) (VSubs.refl _))) (HSub.refl _) (.done [] rfl h)⟩
 have n7 := dfZ q7;refine branch_i (fun q8 => ?_) (fun q8 => ?_) <;> try rw [q8] <;> conv => whnf
 focus
  have q' := dtZ q8;subst q';refine ACalls.sub _ _ rfl (VSubs.refl _) (.cons (.refl _) (.cons (.refl _) (.cons (.refl _) (.cons (.cells (ev_subZ _)) (HSub.refl _))))) (.call [2, 3, 1] 3 ⟨rfl, rfl, rfl⟩ (reads_num rfl (fun ev s' e' hp => ?_) (fun hp ev s' e' => ?_)))
  focus
   have hT := pEv_T hl (by omega) hp
   have hMi := pEv_miss hp;rw [hp, hMi] at h;simp only at h hT
   conv => whnf
   refine .call [1] 1 ⟨rfl, rfl, rfl⟩ (End_spec ?_);generalize endE s' e' = en at *
   conv => whnf
   refine branch_i (fun c1 => ?_) (fun c1 => ?_) <;> try rw [c1] <;> conv => whnf
   focus
    have c1' : ¬ en = 0 := by simpa using c1
    rw [if_neg c1'] at h;exact ⟨[], rfl, .sub _ _ (.tup (.cons (.agg (ev_subZ 0)) (VSubs.refl _))) (HSub.refl _) (.done [] rfl h)⟩
   have c1' : en = 0 := by simpa using c1
   rw [if_pos c1'] at h;refine .pure (EvMay_spec (e := ev) hl hT ⟨rfl, ?_⟩)
   conv => whnf
   refine branch_i (fun c2 => ?_) (fun c2 => ?_) <;> try rw [c2] <;> conv => whnf
   focus
    have c2' : ¬ mayE ev l = 0 := by simpa using c2
    simp only [if_neg c2'] at h;exact ⟨[], rfl, .sub _ _ (.tup (.cons (.agg (ev_subZ 0)) (VSubs.refl _))) (HSub.refl _) (.done [] rfl h)⟩
   focus
    have c2' : mayE ev l = 0 := by simpa using c2
    simp only [if_pos c2'] at h;exact ⟨[], rfl, .done [] rfl h⟩
  focus
   rw [hp] at h;simp only at h;cases hmi : pMiss 8 l s1 e1 <;> rw [hmi] at h <;> conv => whnf
   . exact ⟨[], rfl, .sub _ _ (.tup (.cons (.agg (ev_subZ 0)) (VSubs.refl _))) (HSub.refl _) (.done [] rfl h)⟩
   . exact ⟨[], rfl, .sub _ _ (.tup (.cons (.agg (ev_subZ 0)) (VSubs.refl _))) (HSub.refl _) (.done [] rfl h)⟩
 have n8 := dfZ q8;refine branch_i (fun q9 => ?_) (fun q9 => ?_) <;> try rw [q9] <;> conv => whnf
 focus
  have q' := dtZ q9;subst q';refine ACalls.sub _ _ rfl (VSubs.refl _) (.cons (.refl _) (.cons (.refl _) (.cons (.refl _) (.cons (.cells (ev_subZ _)) (HSub.refl _))))) (.call [2, 3, 1] 3 ⟨rfl, rfl, rfl⟩ (reads_num rfl (fun ev s' e' hp => ?_) (fun hp ev s' e' => ?_)))
  focus
   have hT := pEv_T hl (by omega) hp
   have hMi := pEv_miss hp;rw [hp, hMi] at h;simp only at h hT
   conv => whnf
   refine .call [1] 1 ⟨rfl, rfl, rfl⟩ (End_spec ?_);generalize endE s' e' = en at *
   conv => whnf
   refine branch_i (fun c1 => ?_) (fun c1 => ?_) <;> try rw [c1] <;> conv => whnf
   focus
    have c1' : ¬ en = 0 := by simpa using c1
    rw [if_neg c1'] at h;exact ⟨[], rfl, .sub _ _ (.tup (.cons (.agg (ev_subZ 0)) (VSubs.refl _))) (HSub.refl _) (.done [] rfl h)⟩
   have c1' : en = 0 := by simpa using c1
   rw [if_pos c1'] at h;refine .pure (EvMay_spec (e := ev) hl hT ⟨rfl, ?_⟩)
   conv => whnf
   refine branch_i (fun c2 => ?_) (fun c2 => ?_) <;> try rw [c2] <;> conv => whnf
   focus
    have c2' : ¬ mayE ev l = 0 := by simpa using c2
    simp only [if_neg c2'] at h;exact ⟨[], rfl, .sub _ _ (.tup (.cons (.agg (ev_subZ 0)) (VSubs.refl _))) (HSub.refl _) (.done [] rfl h)⟩
   focus
    have c2' : mayE ev l = 0 := by simpa using c2
    simp only [if_pos c2'] at h;exact ⟨[], rfl, .done [] rfl h⟩
  focus
   rw [hp] at h;simp only at h;cases hmi : pMiss 9 l s1 e1 <;> rw [hmi] at h <;> conv => whnf
   . exact ⟨[], rfl, .sub _ _ (.tup (.cons (.agg (ev_subZ 0)) (VSubs.refl _))) (HSub.refl _) (.done [] rfl h)⟩
   . exact ⟨[], rfl, .sub _ _ (.tup (.cons (.agg (ev_subZ 0)) (VSubs.refl _))) (HSub.refl _) (.done [] rfl h)⟩
 have n9 := dfZ q9;refine branch_i (fun q10 => ?_) (fun q10 => ?_) <;> try rw [q10] <;> conv => whnf
 focus
  have q' := dtZ q10;subst q';refine ACalls.sub _ _ rfl (VSubs.refl _) (.cons (.refl _) (.cons (.refl _) (.cons (.refl _) (.cons (.cells (ev_subZ _)) (HSub.refl _))))) (.call [2, 3, 1] 3 ⟨rfl, rfl, rfl⟩ (reads_num rfl (fun ev s' e' hp => ?_) (fun hp ev s' e' => ?_)))
  focus
   have hT := pEv_T hl (by omega) hp
   have hMi := pEv_miss hp;rw [hp, hMi] at h;simp only at h hT
   conv => whnf
   refine .call [1] 1 ⟨rfl, rfl, rfl⟩ (End_spec ?_);generalize endE s' e' = en at *
   conv => whnf
   refine branch_i (fun c1 => ?_) (fun c1 => ?_) <;> try rw [c1] <;> conv => whnf
   focus
    have c1' : ¬ en = 0 := by simpa using c1
    rw [if_neg c1'] at h;exact ⟨[], rfl, .sub _ _ (.tup (.cons (.agg (ev_subZ 0)) (VSubs.refl _))) (HSub.refl _) (.done [] rfl h)⟩
   have c1' : en = 0 := by simpa using c1
   rw [if_pos c1'] at h;refine .pure (EvMay_spec (e := ev) hl hT ⟨rfl, ?_⟩)
   conv => whnf
   refine branch_i (fun c2 => ?_) (fun c2 => ?_) <;> try rw [c2] <;> conv => whnf
   focus
    have c2' : ¬ mayE ev l = 0 := by simpa using c2
    simp only [if_neg c2'] at h;exact ⟨[], rfl, .sub _ _ (.tup (.cons (.agg (ev_subZ 0)) (VSubs.refl _))) (HSub.refl _) (.done [] rfl h)⟩
   focus
    have c2' : mayE ev l = 0 := by simpa using c2
    simp only [if_pos c2'] at h;exact ⟨[], rfl, .done [] rfl h⟩
  focus
   rw [hp] at h;simp only at h;cases hmi : pMiss 10 l s1 e1 <;> rw [hmi] at h <;> conv => whnf
   . exact ⟨[], rfl, .sub _ _ (.tup (.cons (.agg (ev_subZ 0)) (VSubs.refl _))) (HSub.refl _) (.done [] rfl h)⟩
   . exact ⟨[], rfl, .sub _ _ (.tup (.cons (.agg (ev_subZ 0)) (VSubs.refl _))) (HSub.refl _) (.done [] rfl h)⟩
 have n10 := dfZ q10;refine ⟨.nilf, ⟨_, _, rfl, rfl, rfl⟩, ?_⟩;have hp : pEv k l s1 e1 = none := by
  unfold pEv;have : numK k = false := by unfold numK; simp; omega
  rw [if_neg (by omega), if_neg (by omega), if_neg (by omega), if_neg (by rw [this]; decide)]
 have hmi : pMiss k l s1 e1 = false := by
  unfold pMiss;have : rowK k = false := by unfold rowK; simp; omega
  rw [this]; rfl
 rw [hp, hmi] at h;simp only at h
 conv => whnf
 exact ⟨[], rfl, .sub _ _ (.tup (.cons (.agg (ev_subZ 0)) (VSubs.refl _))) (HSub.refl _) (.done [] rfl h)⟩
end Go.Proofs.YtcdkklgeepkopaaGreatDoorPg
namespace Go.Proofs.YtcdkklgeepkopaaGreatDoorPg
open Go Go.RowKit
variable {Q : V -> List O -> Prop}
def itg (l : List Int) : List (List V) := l.map fun n => [fI n]
theorem itg_len (l : List Int) : (itg l).length = l.length := by simp [itg]
theorem itg_get {l : List Int} {i : Nat} {b : Int} (h : l[i]? = some b) : (itg l)[i]? = some [fI b] := by simp [itg, h]
theorem app_i {i j n : Nat} {f : Bool} {X : List Int} {w : Int} {H : List O} {K : V -> List O -> Prop} (hij : Nat.beq i j = false) (hX : getO H i = .buf (itg X)) (hn : n = X.length) (hs : X.length <= 1000000)
 (hK : copyH (setO H i .dead ++ [.buf (itg (X ++ [w]))]) fun H' => K (.ms 1 (setO H i .dead).length 0 (X ++ [w]).length false) H') :
 0 + 1 <= 1 /\ aapp 1 8 (.ms 1 i 0 n false) (.ms 1 j 0 1 f) [[fI w]] H K := by
 subst hn;refine ⟨Nat.le_refl 1, ?_⟩;have hlk := itg_len X;unfold aapp sameBuf;simp only [hij];unfold aappend;simp only [show Nat.beq 1 1 = true from rfl, hX, List.drop_zero]
 refine ⟨by rw [hlk]; rfl, ?_⟩
 rw [show itg X ++ [[fI w]] = itg (X ++ [w]) by simp [itg]]
 unfold newBuf;rw [itg_len];exact ⟨by rw [laZ, List.length_singleton]; omega, hK⟩
def bitN (B : List Nat) (i : Nat) : Int := if nulAt B i then 1 else 0
def bitL (B : List Nat) (k : Nat) : List Int := (List.range k).map (bitN B)
theorem bitL_len (B : List Nat) (k : Nat) : (bitL B k).length = k := by simp [bitL]
theorem bitL_get (B : List Nat) {k i : Nat} (h : i < k) : (bitL B k)[i]? = some (bitN B i) := by
 unfold bitL; rw [List.getElem?_map, List.getElem?_range h]; rfl
theorem bitL_snoc (B : List Nat) (k : Nat) : bitL B (k + 1) = bitL B k ++ [bitN B k] := by simp [bitL, List.range_succ]
theorem pad_down {y : Nat} (hy : y < 256) : ∀ d m, m + d = 8 -> (∀ u, m <= u -> u < 8 -> y / 2 ^ u % 2 = 0) -> y / 2 ^ m = 0
 | 0, m, h, _ => by have : m = 8 := by omega
                    subst this; exact Nat.div_eq_of_lt hy
 | d + 1, m, h, hb => by
  have h1 := pad_down hy d (m + 1) (by omega) (fun u h1 h2 => hb u (by omega) h2)
  have h2 := hb m (Nat.le_refl _) (by omega)
  rw [Nat.pow_succ, <- Nat.div_div_eq_div_mul] at h1;omega
theorem padOk_iff {B : List Nat} {n : Nat} (hn : 0 < n) (hB : ∀ q, B.getD q 0 < 256) : padOk B n = true ↔ ∀ q, n <= q -> q < 8 * ((n + 7) / 8) -> nulAt B q = false := by
 unfold padOk;rw [decide_eq_true_eq];have hj : (n - 1) / 8 = (n + 7) / 8 - 1 := by omega
 constructor
 . intro h q h1 h2;unfold nulAt;have hq : q / 8 = (n - 1) / 8 := by omega
   rw [hq];refine decide_eq_false ?_;have hsm : B.getD ((n - 1) / 8) 0 < 2 ^ ((n - 1) % 8 + 1) := by
    rcases Nat.div_eq_zero_iff.1 h with h | h
    . exact absurd h (Nat.ne_of_gt (Nat.two_pow_pos _))
    . exact h
   have hle : 2 ^ ((n - 1) % 8 + 1) <= 2 ^ (q % 8) := Nat.pow_le_pow_right (by decide) (by omega)
   rw [Nat.div_eq_of_lt (Nat.lt_of_lt_of_le hsm hle)];decide
 . intro h;refine pad_down (hB _) (8 - ((n - 1) % 8 + 1)) _ (by omega) fun u h1 h2 => ?_
   have := h (8 * ((n - 1) / 8) + u) (by omega) (by omega)
   unfold nulAt at this;rw [show (8 * ((n - 1) / 8) + u) / 8 = (n - 1) / 8 by omega, show (8 * ((n - 1) / 8) + u) % 8 = u by omega] at this
   have := dfZ this;omega
theorem RFits_eq {l : List Col} {keys : Int} {vs : List Val} {X : List (List V)} {f : Bool} (hX : X = vals vs) (hl : l.length <= 1000) (ht : TextsOk vs) (h : Q (.bool (fitsL l vs)) []) :
 ACall Tryz.prog 67 0 [sch l keys, .sl 3 X f] [] Q := by subst hX; exact RFits_spec hl ht h
def shN (y t : Nat) : Nat := y / 2 ^ t
theorem shN_s (y t : Nat) : shN y (t + 1) = shN y t / 2 := by unfold shN; rw [Nat.pow_succ, <- Nat.div_div_eq_div_mul]
set_option maxRecDepth 8000 in
set_option maxHeartbeats 16000000 in
theorem R5Read_spec {s : List UInt8} {f : Bool} {e : Int} {C : List Col} (h0 : C ≠ []) (hC : C.length <= 16) (hs : s.length <= 1000000000)
 (h : ∀ x s' e', Q (.tup [.sl 3 (vals ((rRow C s e).getD [])) false, .bool x]) [rdO s' f e']) :
 ACall Tryz.prog 114 1 [.ptr 0 0, .sl 3 (cols C) false] [rdO s f e] Q := by
 refine ACall.ret (by_body Tryz.func114 1 rfl (nbZ rfl) ?_);have hcl := cols_len C;have hcp := List.length_pos_iff.2 h0
 conv => whnf
 rw [hcl];refine ⟨by decide, ?_⟩
 rw [show (IntKind.i64.wrap ((C.length : Int) + 7)).tdiv 8 = (((C.length + 7) / 8 : Nat) : Int) by rw [wrapL (by omega), Int.tdiv_eq_ediv_of_nonneg (by omega)]; omega, wrapL (n := (((C.length + 7) / 8 : Nat) : Int)) (by omega)]
 conv => whnf
 obtain ⟨nb, hnb⟩ : ∃ nb, nb = (C.length + 7) / 8 := ⟨_, rfl⟩;rw [<- hnb];obtain ⟨B, hB⟩ : ∃ B, B = (rBs nb s e).1 := ⟨_, rfl⟩;have hB256 : ∀ q, B.getD q 0 < 256 := fun q => by
  rw [List.getD_eq_getElem?_getD];cases hq : B[q]? with
  | none => simp
  | some x => simp only [Option.getD_some]; rw [hB] at hq; exact rBs_lt _ _ _ x (List.mem_of_getElem? hq)
 refine ⟨⟨[0, 1, 6, 7, 8, 9], fun mm ws H => ∃ j : Nat, ws = [.ptr 0 0, .sl 3 (cols C) false, fI C.length, fI nb, .ms 1 1 0 (8 * j) false, fI j] /\ H = [rdO (rBs j s e).2.1 f (rBs j s e).2.2, .buf (itg (bitL B (8 * j)))] /\ j <= nb /\ mm = nb - j,
  .frz (nb + 1) (.adopt (.sub _ _ (.cons (.refl _) (.cons (.refl _) (.cons (.refl _) (.cons (.refl _) (.cons (VSub.ms0 1 1 0 false) (VSubs.refl _)))))) (HSub.refl _) (.go [0, 1] rfl nb (by omega) ⟨0, ?_, rfl, by omega, rfl⟩))), ?_⟩⟩
 focus
  rfl
 rintro mm ws H ⟨j, rfl, rfl, hj, rfl⟩
 conv => whnf
 refine branch_i (fun c1 => ?_) (fun c1 => ?_) <;> try rw [c1] <;> conv => whnf
 focus
  have c1' := dtZ c1;have hs1 : (rBs (j + 1) s e).2.1 = (rByt (rBs j s e).2.1 (rBs j s e).2.2).2.1 := rfl;have hs2 : (rBs (j + 1) s e).2.2 = (rByt (rBs j s e).2.1 (rBs j s e).2.2).2.2 := rfl;have hl := rBs_last j s e;have hgd := rBs_getD (k := nb) (j := j + 1) (q := j) s e (by omega) (by omega)
  rw [hl, <- hB] at hgd;have hbd := rByt_bd (rBs j s e).2.1 (rBs j s e).2.2;refine .call [0] 1 ⟨rfl, rfl, rfl⟩ (RByte_spec ?_);generalize (rByt (rBs j s e).2.1 (rBs j s e).2.2).1 = y0 at *;generalize (rByt (rBs j s e).2.1 (rBs j s e).2.2).2.1 = s2 at *;generalize (rByt (rBs j s e).2.1 (rBs j s e).2.2).2.2 = e2 at *;obtain ⟨y, rfl⟩ : ∃ y : Nat, y0 = y := ⟨y0.toNat, by omega⟩
  rw [Int.toNat_natCast] at hgd
  conv => whnf
  refine ⟨⟨[0, 1, 6, 7, 8, 9, 10, 11], fun mm ws H => ∃ t : Nat, ws = [.ptr 0 0, .sl 3 (cols C) false, fI C.length, fI nb, .ms 1 1 0 (8 * j + t) false, fI j, fI (shN y t), fI t] /\ H = [rdO s2 f e2, .buf (itg (bitL B (8 * j + t)))] /\ t <= 8 /\ mm = 8 - t,
   .frz 9 (.go [0, 1] rfl 8 (by omega) ⟨0, ?_, rfl, by omega, rfl⟩), ?_⟩⟩
  focus
   rw [show shN y 0 = y by unfold shN; simp]; rfl
  rintro mm ws H ⟨t, rfl, rfl, ht, rfl⟩
  conv => whnf
  refine branch_i (fun c2 => ?_) (fun c2 => ?_) <;> try rw [c2] <;> conv => whnf
  focus
   have c2' := dtZ c2;have ht8 : t < 8 := by omega
   have hbit : bitN B (8 * j + t) = ((shN y t % 2 : Nat) : Int) := by
    unfold bitN nulAt;rw [show (8 * j + t) / 8 = j by omega, show (8 * j + t) % 8 = t by omega, <- hgd]
    by_cases hb : shN y t % 2 = 1
    . rw [decide_eq_true (show y / 2 ^ t % 2 = 1 from hb), hb]; rfl
    . rw [decide_eq_false (show ¬ y / 2 ^ t % 2 = 1 from hb), show shN y t % 2 = 0 by omega]; rfl
   have hpw := shN_s y t;have hyb : shN y t <= 255 := Nat.le_trans (Nat.div_le_self _ _) (by omega)
   have hbl := bitL_len B (8 * j + t);refine ⟨by decide, ?_⟩
   rw [show ((shN y t : Nat) : Int).tmod 2 = ((shN y t % 2 : Nat) : Int) by rw [Int.tmod_eq_emod_of_nonneg (by omega)]; omega, <- hbit]
   conv => whnf
   refine app_i (X := bitL B (8 * j + t)) (w := bitN B (8 * j + t)) rfl rfl hbl.symm (by omega) ?_
   rw [<- bitL_snoc, bitL_len]
   conv => whnf
   refine ⟨by decide, ?_⟩
   rw [show ((shN y t : Nat) : Int).tdiv 2 = ((shN y (t + 1) : Nat) : Int) by rw [Int.tdiv_eq_ediv_of_nonneg (by omega), hpw]; omega]
   conv => whnf
   refine .go [0, 3] rfl (8 - (t + 1)) (by omega) ⟨t + 1, ?_, rfl, by omega, rfl⟩
   show [V.ptr 0 0, .sl 3 (cols C) false, fI C.length, fI nb, .ms 1 1 0 (8 * j + t + 1) false, fI j, .int .i64 (IntKind.i64.wrap ((shN y (t + 1) : Nat) : Int)), .int .i64 (IntKind.i64.wrap ((t : Int) + 1))] = _
   rw [wrapL (n := ((shN y (t + 1) : Nat) : Int)) (by omega), wrapL (by omega)]; rfl
  focus
   have c2' := dfZ c2;have ht8 : t = 8 := by omega
   subst ht8;refine .go [0, 1] rfl (nb - (j + 1)) (by omega) ⟨j + 1, ?_, ?_, by omega, rfl⟩
   . show [V.ptr 0 0, .sl 3 (cols C) false, fI C.length, fI nb, .ms 1 1 0 (8 * j + 8) false, .int .i64 (IntKind.i64.wrap ((j : Int) + 1))] = _
     rw [wrapL (by omega)]; rfl
   . show [rdO s2 f e2, .buf (itg (bitL B (8 * j + 8)))] = _
     rw [hs1, hs2]; rfl
 have c1' := dfZ c1;have hje : j = nb := by omega
 subst hje;unfold rRow at h;rw [<- hnb, <- hB] at h;have hs1 := rBs_suf j s e;generalize (rBs j s e).2.1 = s1 at *;generalize (rBs j s e).2.2 = e1 at *;obtain ⟨N, hN⟩ : ∃ N, N = nulAt B := ⟨_, rfl⟩;rw [<- hN] at h;have hpi := padOk_iff hcp hB256;rw [<- hnb] at hpi
 refine ⟨⟨[0, 1, 6, 8, 12, 13], fun mm ws H => ∃ (i m : Nat), m = min i C.length /\ ws = [.ptr 0 0, .sl 3 (cols C) false, fI C.length, .ms 1 1 0 (8 * j) false, .ms 3 2 0 m false, fI i] /\
  H = [rdO (rVls C N m s1 e1).2.1 f (rVls C N m s1 e1).2.2, .buf (itg (bitL B (8 * j))), .buf (vals (rVls C N m s1 e1).1)] /\ i <= 8 * j /\ (∀ q, C.length <= q -> q < i -> nulAt B q = false) /\ mm = 8 * j - i,
  .frz (8 * j + 1) (.adopt (.sub _ _ (.cons (.refl _) (.cons (.refl _) (.cons (.refl _) (.cons (.refl _) (.cons (ms0_row 3 2) (VSubs.refl _)))))) (HSub.refl _) (.go [0, 1, 2] rfl (8 * j) (by omega) ⟨0, 0, by omega, rfl, rfl, by omega, fun q h1 h2 => by omega, rfl⟩))), ?_⟩⟩
 rintro mm ws H ⟨i, m, hm, rfl, rfl, hi, hz, rfl⟩;have hvl := vals_len (rVls C N m s1 e1).1;rw [rVls_len] at hvl;have hbl := bitL_len B (8 * j);have hil := itg_len (bitL B (8 * j))
 conv => whnf
 refine branch_i (fun c1 => ?_) (fun c1 => ?_) <;> try rw [c1] <;> conv => whnf
 rotate_left
 focus
  have c1' := dfZ c1;have hie : i = 8 * j := by omega
  have hmC : m = C.length := by omega
  have hvs := rVls_suf C N m s1 e1;rw [hmC] at hvl hvs ⊢;rw [if_pos (hpi.2 (fun q h1 h2 => hz q h1 (by omega)))] at h
  generalize (rVls C N C.length s1 e1).1 = vs at *;generalize (rVls C N C.length s1 e1).2.1 = s2 at *;generalize (rVls C N C.length s1 e1).2.2 = e2 at *;refine .frz 2 rfl rfl (by repeat (first | exact trivial | refine And.intro (by rw [hvl, Nat.zero_add]; exact Nat.le_refl _) ?_)) ?_
  have htk : List.take C.length (List.drop 0 (vals vs)) = vals vs := by rw [List.drop_zero, <- hvl, List.take_length]
  refine .pure (RFits_eq (l := C) (keys := 0) (vs := vs) (X := List.take C.length (List.drop 0 (vals vs))) (f := false) htk (by omega) (fun v hv => by have := (hvs.2 v hv).1; omega) ⟨rfl, ?_⟩)
  conv => whnf
  refine branch_i (fun c2 => ?_) (fun c2 => ?_) <;> try rw [c2] <;> conv => whnf
  focus
   have c2' : ¬ e2 = 0 := by simpa using c2
   rw [if_neg (fun hx => c2' hx.1)] at h
   exact ⟨[0], rfl, .sub _ _ (.tup (.cons (nils_sl3 false) (VSubs.refl _))) (HSub.refl _) (.done [0] rfl (h _ _ _))⟩
  have c2' : e2 = 0 := by simpa using c2
  cases hf : fitsL C vs <;> conv => whnf
  focus
   rw [if_neg (fun hx => by rw [hf] at hx; cases hx.2)] at h
   exact ⟨[0], rfl, .sub _ _ (.tup (.cons (nils_sl3 false) (VSubs.refl _))) (HSub.refl _) (.done [0] rfl (h _ _ _))⟩
  focus
   rw [if_pos ⟨c2', hf⟩] at h;refine ⟨[0], rfl, .done [0] rfl ?_⟩;show Q (.tup [.sl 3 (List.take C.length (List.drop 0 (vals vs))) false, .bool true]) [rdO s2 f e2]
   rw [htk];exact h _ _ _
 have c1' := dtZ c1;have hbg := itg_get (bitL_get B (show i < 8 * j by omega))
 refine branch_i (fun c2 => ?_) (fun c2 => ?_) <;> try rw [c2] <;> conv => whnf
 focus
  have c2' := dtZ c2;refine ⟨⟨by omega, by omega⟩, ?_⟩
  conv => whnf
  refine ⟨_, hbg, ?_⟩
  conv => whnf
  unfold bitN;cases hNi : nulAt B i <;> conv => whnf
  focus
   have hmC : min (i + 1) C.length = m := by omega
   refine .go [0, 1, 2] rfl (8 * j - (i + 1)) (by omega) ⟨i + 1, m, by omega, ?_, rfl, by omega, fun q h1 h2 => ?_, rfl⟩
   . show [V.ptr 0 0, .sl 3 (cols C) false, fI C.length, .ms 1 1 0 (8 * j) false, .ms 3 2 0 m false, .int .i64 (IntKind.i64.wrap ((i : Int) + 1))] = _
     rw [wrapL (by omega)]; rfl
   . by_cases hq : q = i
     . rw [hq]; exact hNi
     . exact hz q h1 (by omega)
  focus
   have hpf : padOk B C.length = false := by
    cases hp : padOk B C.length with
    | false => rfl
    | true => have := hpi.1 hp i (by omega) (by omega); rw [hNi] at this; cases this
   rw [if_neg (by rw [hpf]; decide)] at h
   exact ⟨[0], rfl, .sub _ _ (.tup (.cons (nils_sl3 false) (VSubs.refl _))) (HSub.refl _) (.done [0] rfl (h _ _ _))⟩
 have c2' := dfZ c2;have hmi : m = i := by omega
 subst hmi;have hlt : m < C.length := by omega
 have hg : C[m]? = some C[m] := lgZ hlt;have hka := kAt_get hg;generalize C[m] = c at *;have hvs : rVls C N (m + 1) s1 e1 = ((rVls C N m s1 e1).1 ++ [(rVal (kAt C m) (N m) (rVls C N m s1 e1).2.1 (rVls C N m s1 e1).2.2).1], (rVal (kAt C m) (N m) (rVls C N m s1 e1).2.1 (rVls C N m s1 e1).2.2).2) := rfl;rw [hka] at hvs;have hln := rVls_len C N m s1 e1;generalize (rVls C N m s1 e1).1 = X at *;generalize (rVls C N m s1 e1).2.1 = s2 at *;generalize (rVls C N m s1 e1).2.2 = e2 at *
 have fin : ∀ (v : Val) (s3 : List UInt8) (e3 : Int), rVal c.k (N m) s2 e2 = (v, s3, e3) ->
  [rdO s3 f e3, .buf (itg (bitL B (8 * j))), .buf (vals (X ++ [v]))] = [rdO (rVls C N (m + 1) s1 e1).2.1 f (rVls C N (m + 1) s1 e1).2.2, .buf (itg (bitL B (8 * j))), .buf (vals (rVls C N (m + 1) s1 e1).1)] := fun v s3 e3 h => by
  rw [hvs, h]
 have nx : ∀ k : Nat, k = m + 1 -> [V.ptr 0 0, .sl 3 (cols C) false, fI C.length, .ms 1 1 0 (8 * j) false, .ms 3 2 0 k false, .int .i64 (IntKind.i64.wrap ((m : Int) + 1))] =
  [V.ptr 0 0, .sl 3 (cols C) false, fI C.length, .ms 1 1 0 (8 * j) false, .ms 3 2 0 (m + 1) false, fI (m + 1 : Nat)] := fun k h => by
  rw [h, wrapL (by omega)]; rfl
 refine ⟨⟨by omega, by omega⟩, ?_⟩
 conv => whnf
 refine ⟨_, hbg, ?_⟩
 conv => whnf
 unfold bitN;cases hNi : nulAt B m <;> conv => whnf
 focus
  have hNm : N m = false := by rw [hN]; exact hNi
  refine ⟨_, ⟨by omega, cols_get hg⟩, ?_⟩
  conv => whnf
  refine branch_i (fun k1 => ?_) (fun k1 => ?_) <;> try rw [k1] <;> conv => whnf
  focus
   have k1' := dtZ k1;refine .call [0] 1 ⟨rfl, rfl, rfl⟩ (RByte_spec ?_)
   conv => whnf
   refine app_v (X := X) (w := ⟨c.k, (rByt s2 e2).1, []⟩) rfl rfl hln.symm (by omega) ?_
   conv => whnf
   exact .go [0, 1, 5] rfl (8 * j - (m + 1)) (by omega) ⟨m + 1, m + 1, by omega, nx _ (by rw [laZ, hln]; rfl), fin _ _ _ (by rw [hNm]; unfold rVal; rw [if_neg (by decide), if_pos k1']), by omega, fun q h1 h2 => by omega, rfl⟩
  have k1' := dfZ k1;refine branch_i (fun k2 => ?_) (fun k2 => ?_) <;> try rw [k2] <;> conv => whnf
  focus
   have k2' := dtZ k2;refine .call [0] 1 ⟨rfl, rfl, rfl⟩ (RSigned_spec ?_)
   conv => whnf
   refine app_v (X := X) (w := ⟨c.k, (rSgn s2 e2).1, []⟩) rfl rfl hln.symm (by omega) ?_
   conv => whnf
   exact .go [0, 1, 5] rfl (8 * j - (m + 1)) (by omega) ⟨m + 1, m + 1, by omega, nx _ (by rw [laZ, hln]; rfl), fin _ _ _ (by rw [hNm]; unfold rVal; rw [if_neg (by decide), if_neg k1', if_pos k2']), by omega, fun q h1 h2 => by omega, rfl⟩
  focus
   have k2' := dfZ k2;refine .call [0] 1 ⟨rfl, rfl, rfl⟩ (RText_spec ?_)
   conv => whnf
   refine app_v (X := X) (w := ⟨c.k, 0, (rTxt 4096 s2 e2).1⟩) rfl rfl hln.symm (by omega) ?_
   conv => whnf
   exact .go [0, 1, 5] rfl (8 * j - (m + 1)) (by omega) ⟨m + 1, m + 1, by omega, nx _ (by rw [laZ, hln]; rfl), fin _ _ _ (by rw [hNm]; unfold rVal; rw [if_neg (by decide), if_neg k1', if_neg k2']), by omega, fun q h1 h2 => by omega, rfl⟩
 focus
  have hNm : N m = true := by rw [hN]; exact hNi
  refine app_v (X := X) (w := ⟨0, 0, []⟩) rfl rfl hln.symm (by omega) ?_
  conv => whnf
  exact .go [0, 1, 5] rfl (8 * j - (m + 1)) (by omega) ⟨m + 1, m + 1, by omega, nx _ (by rw [laZ, hln]; rfl), fin _ _ _ (by rw [hNm]; rfl), by omega, fun q h1 h2 => by omega, rfl⟩
end Go.Proofs.YtcdkklgeepkopaaGreatDoorPg
namespace Go.Proofs.YtcdkklgeepkopaaGreatDoorPg
open Go Go.RowKit
variable {Q : V -> List O -> Prop}
set_option maxRecDepth 8000 in
theorem R6col_spec {s : List UInt8} {f : Bool} {e : Int} (h : Q (colA (rC 4096 s e).g) [rdO (rC 4096 s e).s f (rC 4096 s e).e]) :
 ACall Tryz.prog 115 1 [.ptr 0 0] [rdO s f e] Q := by
 refine by_body Tryz.func115 1 rfl (nbZ rfl) ?_
 conv => whnf
 refine .call [0] 1 ⟨rfl, rfl, rfl⟩ (RText_spec ?_);unfold rC RC.g colA at h;simp only at h;generalize (rTxt 4096 s e).1 = t1 at *;generalize (rTxt 4096 s e).2.1 = s1 at *;generalize (rTxt 4096 s e).2.2 = e1 at *
 conv => whnf
 refine .call [0] 1 ⟨rfl, rfl, rfl⟩ (RByte_spec ?_);generalize (rByt s1 e1).1 = k1 at *;generalize (rByt s1 e1).2.1 = s2 at *;generalize (rByt s1 e1).2.2 = e2 at *
 conv => whnf
 refine .call [0] 1 ⟨rfl, rfl, rfl⟩ (RByte_spec ?_);generalize (rByt s2 e2).1 = o1 at *;generalize (rByt s2 e2).2.1 = s3 at *;generalize (rByt s2 e2).2.2 = e3 at *
 conv => whnf
 exact ⟨[0], rfl, h⟩
theorem chg_subN (k n ck : Int) (ct cn : List UInt8) (cks ckk : Int) (o : Bool) : VSub (.agg [.int .i64 k, .int .i64 n, .str [], .nils, .nils, .int .i64 ck, .str ct, .nils, .int .i64 cks, .str cn, .int .i64 ckk, .bool o]) (evA ⟨k, n, [], [], [], ⟨ck, ct, [], cks, ⟨cn, ckk, o⟩⟩⟩) :=
 .agg (.cons (.refl _) (.cons (.refl _) (.cons (.refl _) (.cons (nils_sl3 false) (.cons (nils_sl3 false) (.cons (.refl _) (.cons (.refl _) (.cons (nils_sl3 false) (VSubs.refl _)))))))))
theorem ev_msC {id : Nat} {v1 v2 v3 v4 v5 v6 v7 : V} {l : List V} : VSubs (v1 :: v2 :: v3 :: v4 :: v5 :: v6 :: v7 :: .nils :: l) (v1 :: v2 :: v3 :: v4 :: v5 :: v6 :: v7 :: .ms 3 id 0 0 false :: l) :=
 .cons (.refl _) (.cons (.refl _) (.cons (.refl _) (.cons (.refl _) (.cons (.refl _) (.cons (.refl _) (.cons (.refl _) (.cons (VSub.ms0 3 id 0 false) (VSubs.refl _))))))))
theorem gEv_none {m k : Int} {l : List Tb} {s s2 t : List UInt8} {e e2 : Int} (hk : k = 3 \/ k = 4 \/ k = 5) (h : rTxt m s e = (t, s2, e2)) (hf : findT l t = none) :
 gEv m k l s e = (⟨k, 0, t, [], [], chg0⟩, decide (e2 = 0)) := by
 unfold gEv sT;rw [if_pos hk];simp only [h, hf]
set_option maxRecDepth 8000 in
set_option maxHeartbeats 32000000 in
theorem Guess_spec {b : List UInt8} {f : Bool} {l : List Tb} (hl : TbsB l) (hb : b.length <= 1000000000)
 (h : Q (.tup [evA (gss b l).1, .bool (gss b l).2]) []) : ACall Tryz.prog 77 0 [.sl 1 (bs b) f, .sl 3 (tbs l) false] [] Q := by
 refine ACall.ret (by_body Tryz.func77 0 rfl (nbZ rfl) ?_);have hbl := bs_len b
 conv => whnf
 refine .call [1] 1 ⟨rfl, rfl, rfl⟩ (RByte_spec ?_);unfold gss at h;have hsl : (sB b 0).1.length <= b.length := (rByt_len b 0).1;unfold sB at h hsl;generalize (rByt b 0).1 = k at *;generalize (rByt b 0).2.1 = s1 at *;generalize (rByt b 0).2.2 = e1 at *
 conv => whnf
 refine branch_i (fun k3 => ?_) (fun k3 => ?_) <;> try rw [k3] <;> conv => whnf
 rotate_left
 have k3' := dfZ k3;refine branch_i (fun k4 => ?_) (fun k4 => ?_) <;> try rw [k4] <;> conv => whnf
 rotate_left
 have k4' := dfZ k4;refine branch_i (fun k5 => ?_) (fun k5 => ?_) <;> try rw [k5] <;> conv => whnf
 rotate_left
 focus
  have k5' := dfZ k5;unfold gEv at h;rw [if_neg (by omega)] at h
  refine branch_i (fun k6 => ?_) (fun k6 => ?_) <;> try rw [k6] <;> conv => whnf
  rotate_left
  focus
   have k6' := dfZ k6;rw [if_neg k6'] at h;refine .call [1] 1 ⟨rfl, rfl, rfl⟩ (RNumber_spec ?_);generalize (rNum s1 e1).1 = n1 at *
   conv => whnf
   exact ⟨[], rfl, .sub _ _ (.tup (.cons (may_subN _ _) (VSubs.refl _))) (HSub.refl _) (.done [] rfl h)⟩
  have k6' := dtZ k6;rw [if_pos k6'] at h;unfold gChg sB sT at h;refine .call [1] 1 ⟨rfl, rfl, rfl⟩ (RByte_spec ?_);generalize (rByt s1 e1).1 = ck at *;generalize (rByt s1 e1).2.1 = s2 at *;generalize (rByt s1 e1).2.2 = e2 at *
  conv => whnf
  rw [hbl];refine .call [1] 1 ⟨rfl, rfl, rfl⟩ (RText_spec ?_);generalize (rTxt b.length s2 e2).1 = ct at *;generalize (rTxt b.length s2 e2).2.1 = s3 at *;generalize (rTxt b.length s2 e2).2.2 = e3 at *
  conv => whnf
  unfold gTail at h;refine branch_i (fun c1 => ?_) (fun c1 => ?_) <;> try rw [c1] <;> conv => whnf
  focus
   have c1' := dtZ c1;rw [if_pos c1'] at h;unfold sB at h;refine .call [1] 1 ⟨rfl, rfl, rfl⟩ (RByte_spec ?_);generalize (rByt s3 e3).1 = ks at *;generalize (rByt s3 e3).2.1 = s4 at *;generalize (rByt s3 e3).2.2 = e4 at *
   conv => whnf
   refine .call [1] 1 ⟨rfl, rfl, rfl⟩ (RByte_spec ?_);have hbd := rByt_bd s4 e4;generalize (rByt s4 e4).1 = n0 at *;generalize (rByt s4 e4).2.1 = s5 at *;generalize (rByt s4 e4).2.2 = e5 at *;obtain ⟨n, rfl⟩ : ∃ n : Nat, n0 = n := ⟨n0.toNat, by omega⟩
   rw [Int.toNat_natCast] at h
   conv => whnf
   refine ⟨⟨[4, 6, 7, 10, 11], fun mm ws H => ∃ (i : Nat) (acc : List Col) (s' : List UInt8) (e' : Int), ws = [.ptr 0 0, .ptr 1 0, .ptr 2 0, fI n, fI i] /\
    H = [.cells [fI 0, fI 0, .str [], .nils, .nils, fI 0, .str [], .nils, fI 0, .str [], fI 0, .bool false], rdO s' f e', .cells [.int .i64 k, fI 0, .str [], .nils, .nils, .int .i64 ck, .str ct, .ms 3 3 0 acc.length false, .int .i64 ks, .str [], fI 0, .bool false], .buf (cols acc)] /\
    acc.length = i /\ i <= n /\ gColz (n - i) acc s' e' = gColz n [] s5 e5 /\ mm = n - i,
    .frz (n + 1) (.adopt (.sub _ _ (VSubs.refl _) (.cons (.refl _) (.cons (.refl _) (.cons (.cells (ev_msC (id := 3))) (HSub.refl _)))) (.go [0, 1, 2, 3] rfl n (by omega) ⟨0, [], s5, e5, rfl, rfl, rfl, by omega, rfl, rfl⟩))), ?_⟩⟩
   rintro mm ws H ⟨i, acc, s', e', rfl, rfl, hacc, hi, hp, rfl⟩;have hcl := cols_len acc;have done : gColz (n - i) acc s' e' = acc -> Q (.tup [.agg [.int .i64 k, fI 0, .str [], .sl 3 (vals []) false, .sl 3 (vals []) false, .int .i64 ck, .str ct, .sl 3 (List.take acc.length (List.drop 0 (cols acc))) false, .int .i64 ks, .str [], fI 0, .bool false], .bool false]) [] := fun hz => by
    rw [List.drop_zero, <- hcl, List.take_length];rw [<- hp, hz] at h;exact h
   conv => whnf
   refine branch_i (fun c2 => ?_) (fun c2 => ?_) <;> try rw [c2] <;> conv => whnf
   rotate_left
   focus
    have c2' := dfZ c2;exact ⟨[3], rfl, .frz 0 rfl (by repeat (first | exact trivial | refine And.intro (by rw [hcl, Nat.zero_add]; exact Nat.le_refl _) ?_)) (.sub _ _ (.tup (.cons (.agg (.cons (.refl _) (.cons (.refl _) (.cons (.refl _) (.cons (nils_sl3 false) (.cons (nils_sl3 false) (VSubs.refl _))))))) (VSubs.refl _))) (HSub.refl _) (.done [] rfl (done (by rw [show n - i = 0 by omega]; rfl))))⟩
   have c2' := dtZ c2;refine branch_i (fun c3 => ?_) (fun c3 => ?_) <;> try rw [c3] <;> conv => whnf
   rotate_left
   focus
    have c3' := dfZ c3;exact ⟨[3], rfl, .frz 0 rfl (by repeat (first | exact trivial | refine And.intro (by rw [hcl, Nat.zero_add]; exact Nat.le_refl _) ?_)) (.sub _ _ (.tup (.cons (.agg (.cons (.refl _) (.cons (.refl _) (.cons (.refl _) (.cons (nils_sl3 false) (.cons (nils_sl3 false) (VSubs.refl _))))))) (VSubs.refl _))) (HSub.refl _) (.done [] rfl (done (by rw [show n - i = (n - (i + 1)) + 1 by omega]; simp only [gColz]; rw [if_neg c3']))))⟩
   have c3' := dtZ c3;rw [show n - i = (n - (i + 1)) + 1 by omega] at hp
   simp only [gColz] at hp;rw [if_pos c3'] at hp;have hn255 := hbd.2;refine ⟨List.range 12, by kernel_rfl, by kernel_rfl, ?_⟩
   conv => whnf
   refine .call [1] 1 ⟨rfl, rfl, rfl⟩ (R6col_spec ?_);generalize rC 4096 s' e' = rc at *;unfold colA
   repeat (conv => whnf
           refine ⟨rfl, ?_⟩)
   conv => whnf
   refine app_c (X := acc) (w := rc.g) rfl rfl rfl (by omega) ?_
   repeat (conv => whnf
           refine ⟨rfl, ?_⟩)
   conv => whnf
   refine .go [0, 1, 2, 5] rfl (n - (i + 1)) (by omega) ⟨i + 1, acc ++ [rc.g], rc.s, rc.e, ?_, rfl, by rw [laZ, hacc]; rfl, by omega, hp, rfl⟩
   show [V.ptr 0 0, .ptr 1 0, .ptr 2 0, fI n, .int .i64 (IntKind.i64.wrap ((i : Int) + 1))] = _
   rw [wrapL (by omega)]; rfl
  have c1' := dfZ c1;rw [if_neg c1'] at h;refine branch_i (fun c3 => ?_) (fun c3 => ?_) <;> try rw [c3] <;> conv => whnf
  focus
   have c3' := dtZ c3;rw [if_pos (.inl c3')] at h;refine .call [1] 1 ⟨rfl, rfl, rfl⟩ (R6col_spec ?_);generalize rC 4096 s3 e3 = rc at *;unfold colA
   conv => whnf
   exact ⟨[], rfl, .sub _ _ (.tup (.cons (chg_subN _ _ _ _ _ _ _ _) (VSubs.refl _))) (HSub.refl _) (.done [] rfl h)⟩
  have c3' := dfZ c3;refine branch_i (fun c5 => ?_) (fun c5 => ?_) <;> try rw [c5] <;> conv => whnf
  focus
   have c5' := dtZ c5;rw [if_pos (.inr c5')] at h;refine .call [1] 1 ⟨rfl, rfl, rfl⟩ (R6col_spec ?_);generalize rC 4096 s3 e3 = rc at *;unfold colA
   conv => whnf
   exact ⟨[], rfl, .sub _ _ (.tup (.cons (chg_subN _ _ _ _ _ _ _ _) (VSubs.refl _))) (HSub.refl _) (.done [] rfl h)⟩
  have c5' := dfZ c5;rw [if_neg (by omega)] at h
  refine branch_i (fun c4 => ?_) (fun c4 => ?_) <;> try rw [c4] <;> conv => whnf
  focus
   have c4' := dtZ c4;rw [if_pos c4'] at h;rw [hbl];refine .call [1] 1 ⟨rfl, rfl, rfl⟩ (RText_spec ?_);generalize (rTxt b.length s3 e3).1 = t4 at *
   conv => whnf
   exact ⟨[], rfl, .sub _ _ (.tup (.cons (chg_subN _ _ _ _ _ _ _ _) (VSubs.refl _))) (HSub.refl _) (.done [] rfl h)⟩
  have c4' := dfZ c4;rw [if_neg c4'] at h;exact ⟨[], rfl, .sub _ _ (.tup (.cons (chg_subN _ _ _ _ _ _ _ _) (VSubs.refl _))) (HSub.refl _) (.done [] rfl h)⟩
 all_goals
  have hk : k = 3 \/ k = 4 \/ k = 5 := by
   first
   | exact .inl (dtZ k3)
   | exact .inr (.inl (dtZ k4))
   | exact .inr (.inr (dtZ k5))
  rw [hbl];refine .call [1] 1 ⟨rfl, rfl, rfl⟩ (RText_spec ?_);have hsl2 := (rTxt_len b.length s1 e1).1;obtain ⟨t, ht⟩ : ∃ t, (rTxt b.length s1 e1).1 = t := ⟨_, rfl⟩;obtain ⟨s2, hs2⟩ : ∃ t, (rTxt b.length s1 e1).2.1 = t := ⟨_, rfl⟩;obtain ⟨e2, he2⟩ : ∃ t, (rTxt b.length s1 e1).2.2 = t := ⟨_, rfl⟩;have hT : rTxt b.length s1 e1 = (t, s2, e2) := by rw [<- ht, <- hs2, <- he2]
  rw [ht, hs2, he2];rw [hs2] at hsl2
  conv => whnf
  refine .pure (EvRFind_spec (t := t) (by have := hl.few; omega) ⟨rfl, ?_⟩)
  unfold findR;cases hf : findT l t with
  | none =>
   rw [gEv_none hk hT hf] at h
   conv => whnf
   refine ⟨List.range 8, by kernel_rfl, by kernel_rfl, ?_⟩
   repeat (conv => whnf
           refine ⟨rfl, ?_⟩)
   conv => whnf
   exact ⟨[], rfl, .sub _ _ (.tup (.cons (row_sub0 _ _) (VSubs.refl _))) (HSub.refl _) (.done [] rfl h)⟩
  | some w =>
   obtain ⟨C, K⟩ := w;obtain ⟨hm, hC, kk, rfl, hkk⟩ := hl.found hf;have hb2 := may_bd hm;have hcl := cols_len C
   conv => whnf
   refine branch_i (fun q5 => ?_) (fun q5 => ?_) <;> try rw [q5] <;> conv => whnf
   focus
    have q5' := dtZ q5;subst q5';rw [gEv_del hT hf, Int.toNat_natCast] at h;have hne : C.take kk ≠ [] := fun e => by
     have := congrArg List.length e;rw [List.length_take, List.length_nil] at this;omega
    refine ⟨⟨by omega, by omega⟩, ?_⟩
    rw [show List.take (kk : Int).toNat (cols C) = cols (C.take kk) by rw [Int.toNat_natCast]; unfold cols; rw [List.map_take]]
    conv => whnf
    refine .call [1] 1 ⟨rfl, rfl, rfl⟩ (R5Read_spec (C := C.take kk) hne (by rw [List.length_take]; omega) (by omega) (fun x s' e' => ?_))
    conv => whnf
    exact ⟨[], rfl, .sub _ _ (.tup (.cons (row_sub5 _ _ _) (VSubs.refl _))) (HSub.refl _) (.done [] rfl h)⟩
   focus
    have q5' := dfZ q5;rw [gEv_ins (by omega) hT hf] at h
    refine .call [1] 1 ⟨rfl, rfl, rfl⟩ (R5Read_spec (C := C) (fun e => by rw [e] at hkk; simp at hkk; omega) (by omega) (by omega) (fun x s' e' => ?_))
    conv => whnf
    exact ⟨[], rfl, .sub _ _ (.tup (.cons (row_sub _ _ _) (VSubs.refl _))) (HSub.refl _) (.done [] rfl h)⟩
end Go.Proofs.YtcdkklgeepkopaaGreatDoorPg
namespace Go.Proofs.YtcdkklgeepkopaaGreatDoorPg
open Go Go.RowKit
variable {Q : V -> List O -> Prop}
theorem gColz_len : ∀ (m : Nat) (acc : List Col) (s : List UInt8) (e : Int), (gColz m acc s e).length <= acc.length + m
 | 0, acc, _, _ => Nat.le_refl _
 | m + 1, acc, s, e => by
  simp only [gColz];split
  . have := gColz_len m (acc ++ [(rC 4096 s e).g]) (rC 4096 s e).s (rC 4096 s e).e;rw [laZ, List.length_singleton] at this; omega
  . omega
theorem gTail_len (m k : Int) (t s : List UInt8) (e : Int) : (gTail m k t s e).c.length < 9223372036854775808 := by
 unfold gTail;split
 . have := gColz_len (rByt (sB s e).1 (sB s e).2).1.toNat [] (sB (sB s e).1 (sB s e).2).1 (sB (sB s e).1 (sB s e).2).2;have hb := rByt_bd (sB s e).1 (sB s e).2;simp only [List.length_nil] at this;simp only; omega
 split
 . simp
 split
 . simp
 . simp
theorem getD_row {C : List Col} {s : List UInt8} {e : Int} (hC : C.length <= 16) (hs : s.length <= 1000000000) :
 TextsOk ((rRow C s e).getD []) /\ ((rRow C s e).getD []).length < 9223372036854775808 /\ ∀ v ∈ (rRow C s e).getD [], I64 v.n := by
 cases h : rRow C s e with
 | none => exact ⟨textsOk_nil, by simp, fun v hv => by simp at hv⟩
 | some vs =>
  obtain ⟨h1, h2⟩ := row_T hC hs h;exact ⟨h1, h2, fun v hv => ((rRow_bd h).2 v hv).2⟩
theorem i64_0 : I64 0 := ⟨by decide, by decide⟩
theorem gss_T {b : List UInt8} {l : List Tb} (hl : TbsB l) (hb : b.length <= 1000000000) : EvtT (gss b l).1 /\ EvtN (gss b l).1 := by
 have hsl : (sB b 0).1.length <= b.length := (rByt_len b 0).1;unfold gss;generalize (rByt b 0).1 = k at *;generalize (sB b 0).1 = s at *;generalize (sB b 0).2 = e at *;by_cases hk : k = 3 \/ k = 4 \/ k = 5
 . have hsl2 := (rTxt_len b.length s e).1;obtain ⟨t, ht⟩ : ∃ t, (rTxt b.length s e).1 = t := ⟨_, rfl⟩;obtain ⟨s2, hs2⟩ : ∃ t, (rTxt b.length s e).2.1 = t := ⟨_, rfl⟩;obtain ⟨e2, he2⟩ : ∃ t, (rTxt b.length s e).2.2 = t := ⟨_, rfl⟩;have hT : rTxt b.length s e = (t, s2, e2) := by rw [<- ht, <- hs2, <- he2]
   rw [hs2] at hsl2;cases hf : findT l t with
   | none => rw [gEv_none hk hT hf]; exact ⟨evt0 _ _ _, ⟨i64_0, fun v hv => by simp at hv, fun v hv => by simp at hv⟩⟩
   | some w =>
    obtain ⟨C, K⟩ := w;obtain ⟨_, hC, _⟩ := hl.found hf;by_cases h5 : k = 5
    . subst h5;rw [gEv_del hT hf];obtain ⟨h1, h2, h3⟩ := getD_row (C := C.take K.toNat) (s := s2) (e := e2) (by rw [List.length_take]; omega) (by omega)
      exact ⟨⟨h1, textsOk_nil, h2, by simp, by simp [chg0]⟩, ⟨i64_0, h3, fun v hv => by simp at hv⟩⟩
    . rw [gEv_ins (by omega) hT hf]
      obtain ⟨h1, h2, h3⟩ := getD_row (C := C) (s := s2) (e := e2) (by omega) (by omega)
      exact ⟨⟨textsOk_nil, h1, by simp, h2, by simp [chg0]⟩, ⟨i64_0, fun v hv => by simp at hv, h3⟩⟩
 . unfold gEv;rw [if_neg hk];split
   . exact ⟨evt6 _ _ (gTail_len _ _ _ _ _), ⟨i64_0, fun v hv => by simp at hv, fun v hv => by simp at hv⟩⟩
   . have := rNum_nonneg s e;have := rNum_le s e;exact ⟨evt0 _ _ _, ⟨show I64 (rNum s e).1 from ⟨by omega, by omega⟩, fun v hv => by simp at hv, fun v hv => by simp at hv⟩⟩
theorem pEv_N {k : Int} {l : List Tb} {s : List UInt8} {e : Int} {x : Evt × List UInt8 × Int} (h : pEv k l s e = some x) : EvtN x.1 := by
 unfold pEv at h;split at h
 . split at h
   . rename_i hp;cases h;unfold pRow at hp;split at hp
     . cases hp
     split at hp
     . cases hp
     rename_i vs hr;simp only [Option.some.injEq, Prod.mk.injEq] at hp;obtain ⟨_, rfl, _⟩ := hp;exact ⟨i64_0, fun v hv => by simp at hv, fun v hv => ((rRow_bd hr).2 v hv).2⟩
   . cases h
 split at h
 . split at h
   . rename_i hp;cases h;unfold pKey at hp;split at hp
     . cases hp
     split at hp
     . cases hp
     rename_i vs hr;simp only [Option.some.injEq, Prod.mk.injEq] at hp;obtain ⟨_, rfl, _⟩ := hp;exact ⟨i64_0, fun v hv => ((rRow_bd hr).2 v hv).2, fun v hv => by simp at hv⟩
   . cases h
 split at h
 . split at h
   . cases h;exact ⟨i64_0, fun v hv => by simp at hv, fun v hv => by simp at hv⟩
   . cases h
 split at h
 . cases h;have h1 := rNum_nonneg s e;have h2 := rNum_le s e;exact ⟨show I64 (rNum s e).1 from ⟨by omega, by omega⟩, fun v hv => by simp at hv, fun v hv => by simp at hv⟩
 . cases h
def rdR (b : List UInt8) (l : List Tb) : Evt × Int :=
 if (gss b l).2 then (evtZ, 7) else if mayE (gss b l).1 l = 0 /\ evW (gss b l).1 = b then ((gss b l).1, 0) else (evtZ, 2)
set_option maxHeartbeats 8000000 in
theorem R6Read_spec {b : List UInt8} {f : Bool} {l : List Tb} (hl : TbsB l) (hb : b.length <= 1000000000)
 (h : Q (.tup [evA (rdR b l).1, fI (rdR b l).2]) []) : ACall Tryz.prog 45 0 [.sl 1 (bs b) f, .sl 3 (tbs l) false] [] Q := by
 refine ACall.ret (by_body Tryz.func45 0 rfl (nbZ rfl) ?_)
 conv => whnf
 refine .pure (Guess_spec hl hb ⟨rfl, ?_⟩);obtain ⟨hT, hN⟩ := gss_T hl hb;unfold rdR at h;generalize (gss b l).1 = g at *;cases hm : (gss b l).2 <;> rw [hm] at h <;> conv => whnf
 rotate_left
 focus
  exact ⟨[], rfl, .sub _ _ (.tup (.cons (.agg (ev_subZ 0)) (VSubs.refl _))) (HSub.refl _) (.done [] rfl h)⟩
 refine ⟨[0, 1, 2, 3, 4, 5, 6, 9, 10, 7, 8, 11, 12], by kernel_rfl, by kernel_rfl, ?_⟩
 conv => whnf
 refine .pure (EvRMay_spec (e := g) hl hT ⟨rfl, ?_⟩)
 repeat (conv => whnf
         refine ⟨rfl, ?_⟩)
 conv => whnf
 refine branch_i (fun c1 => ?_) (fun c1 => ?_) <;> try rw [c1] <;> conv => whnf
 focus
  have c1' : ¬ mayE g l = 0 := by simpa using c1
  rw [if_neg (by decide), if_neg (fun hx => c1' hx.1)] at h
  exact ⟨[], rfl, .sub _ _ (.tup (.cons (.agg (ev_subZ 0)) (VSubs.refl _))) (HSub.refl _) (.done [] rfl h)⟩
 have c1' : mayE g l = 0 := by simpa using c1
 refine ⟨b, bytesOfEs_bs _, ?_⟩
 conv => whnf
 refine .pure (R6Write_spec (e := g) hl hN c1' ⟨rfl, ?_⟩)
 repeat (conv => whnf
         first | (refine ⟨rfl, ?_⟩) | (refine ⟨⟨b, bytesOfEs_bs _, rfl⟩, ?_⟩))
 conv => whnf
 refine ⟨evW g, bytesOfEs_bs _, ?_⟩
 repeat (conv => whnf
         first | (refine ⟨rfl, ?_⟩) | (refine ⟨⟨_, bytesOfEs_bs _, rfl⟩, ?_⟩))
 conv => whnf
 refine branch_i (fun c2 => ?_) (fun c2 => ?_) <;> try rw [c2] <;> conv => whnf
 focus
  have c2' : ¬ evW g = b := by simpa using c2
  rw [if_neg (by decide), if_neg (fun hx => c2' hx.2)] at h
  exact ⟨[], rfl, .sub _ _ (.tup (.cons (.agg (ev_subZ 0)) (VSubs.refl _))) (HSub.refl _) (.done [] rfl h)⟩
 focus
  have c2' : evW g = b := by simpa using c2
  rw [if_neg (by decide), if_pos ⟨c1', c2'⟩] at h
  exact ⟨[], rfl, .done [] rfl h⟩
theorem reads_same {b : List UInt8} {l : List Tb} (hl : TbsB l) (hb : b.length <= 1000000000) : prdR b l = rdR b l := by
 obtain ⟨hT, hN⟩ := gss_T hl hb;have hmi : (gss b l).2 = pMiss (rByt b 0).1 l (sB b 0).1 (sB b 0).2 := by
  have hsl : (sB b 0).1.length <= b.length := (rByt_len b 0).1;unfold gss;exact miss_eq hl (by omega) (by omega)
 have bad : (¬ ∃ ev, prd b l = some ev /\ mayE ev l = 0) -> prdR b l = (evtZ, if pMiss (rByt b 0).1 l (sB b 0).1 (sB b 0).2 then 7 else 2) := fun hn => by
  unfold prdR;cases hp : prd b l with
  | none => rfl
  | some ev =>
   simp only;rw [if_neg (fun h0 => hn ⟨ev, hp, h0⟩)]
 by_cases hx : ∃ ev, prd b l = some ev /\ mayE ev l = 0
 . obtain ⟨ev, hp, h0⟩ := hx;have hw := prd_ok hl hp (mayE_inv h0);have hbN : EvtN ev := by
    unfold prd at hp;split at hp
    . split at hp
      . rename_i hpe hend;cases hp;exact pEv_N hpe
      . cases hp
    . cases hp
   have hg := gss_W hl (mayE_inv h0) hbN;rw [hw] at hg;unfold prdR rdR;rw [hp, hg];simp only [h0, hw];rfl
 . rw [bad hx];unfold rdR;rw [hmi];cases pMiss (rByt b 0).1 l (sB b 0).1 (sB b 0).2
   . rw [if_neg (by decide), if_neg (by decide), if_neg]
     rintro ⟨h0, hw⟩;refine hx ⟨(gss b l).1, ?_, h0⟩;have := prd_W hl (mayE_inv h0) hN;rw [hw] at this;exact this
   . rfl
end Go.Proofs.YtcdkklgeepkopaaGreatDoorPg
namespace Go.Proofs.YtcdkklgeepkopaaGreatDoorPg
open Go Go.RowKit
variable {Q : V -> List O -> Prop}
theorem insT_wrap {n : Int} (h : -9223372036854775808 <= n /\ n <= 9223372036854775807) : IntKind.i64.wrap n = n := by rw [IntKind.wrap_i64]; omega
theorem overlapsT_ext {H : List O} {i a n j b m : Nat} {f g : Bool} (hij : i ≠ j) (hi : IsBuf (getO H i)) (hj : IsBuf (getO H j)) : AExt Tryz.prog 155 [.ms 3 i a n f, .ms 3 j b m g] H (.bool false) := ⟨fun I ρ w us hst h => by
 obtain ⟨u0, l0, e0, h0, h⟩ := h.cons_inv;obtain ⟨u1, l1, e1, h1, h⟩ := h.cons_inv;have e2 : l1 = [] := List.eq_nil_of_length_eq_zero h.1.symm;have eu : us = #[u0, u1] := by
  apply Array.ext';rw [e0, e1, e2]
 subst eu;refine ⟨_, ?_, .bool _ _⟩;rw [run_callFunc_extern Tryz.func155 (by kernel_rfl) (by kernel_rfl) (by kernel_rfl) (e := Extern.SlicesOverlaps.overlaps #[36, 36] #[4]) (by kernel_rfl)]
 rw [overlaps_run Tryz.underlying36 (size := 3) Tryz.sizeOf88 hst (by decide) hij hi hj h0 h1]
 rfl⟩
theorem new_as {z b n B : Nat} {X Y : List (List V)} {H : List O} {K : V -> List O -> Prop} (hX : X = Y) (hn : Y.length = n) (hB : b <= B) (hs : n * B <= 70368744177664) (hK : copyH (H ++ [.buf Y]) fun H' => K (.ms z H.length 0 n false) H') : newBuf z b X H K := by
 subst hX;subst hn;exact ⟨Nat.le_trans (Nat.mul_le_mul_left _ hB) hs, hK⟩
theorem take_app1 {α : Type} (A B : List α) : List.take A.length (A ++ B) = A := by simp
theorem ins_rows {es Y Y1 Y2 : List (List V)} {x : List V} {i k m : Nat} (hlt : i <= es.length) (hk : k = 1) (hm : m = es.length - i) (hYl : Y.length = es.length + 1) (hYt : Y.take i = es.take i)
 (h1 : Y1 = List.take (i + 0) Y ++ List.take k (List.drop 0 [x]) ++ List.drop (i + 0 + k) Y) (h2 : Y2 = List.take (i + 1 + 0) Y1 ++ List.take m (List.drop (i + 0) es) ++ List.drop (i + 1 + 0 + m) Y1) :
 Y2 = es.take i ++ [x] ++ es.drop i := by
 subst hk;simp only [Nat.add_zero, List.drop_zero, hYt] at h1 h2;have e1 : List.take 1 [x] = [x] := rfl;rw [e1] at h1;have hl : (es.take i ++ [x]).length = i + 1 := by rw [laZ, List.length_take, List.length_singleton]; omega
 have e2 : List.take (i + 1) Y1 = es.take i ++ [x] := by rw [h1, <- hl]; exact take_app1 _ _
 have e3 : List.drop (i + 1 + m) Y1 = [] := by
  apply List.drop_eq_nil_of_le;rw [h1, laZ, hl, List.length_drop]; omega
 have e4 : List.take m (List.drop i es) = List.drop i es := List.take_of_length_le (by rw [List.length_drop]; omega)
 rw [h2, e2, e3, e4, List.append_nil]
theorem ins_rows2 {es E Y1 Y2 : List (List V)} {x : List V} {i k n m : Nat} (hlt : i < es.length) (hm : 0 < m) (hn : n = es.length - i) (hk : k = 1) (hE : E = es ++ List.replicate m [])
 (h1 : Y1 = List.take (i + 1 + 0) E ++ List.take n (List.drop (i + 0) E) ++ List.drop (i + 1 + 0 + n) E) (h2 : Y2 = List.take (i + 0) Y1 ++ List.take k (List.drop 0 [x]) ++ List.drop (i + 0 + k) Y1) :
 Y2 = es.take i ++ [x] ++ es.drop i ++ List.replicate (m - 1) [] := by
 subst hk;simp only [Nat.add_zero, List.drop_zero] at h1 h2;have e1 : List.take 1 [x] = [x] := rfl;rw [e1] at h2;have d1 : List.drop i E = es.drop i ++ List.replicate m [] := by rw [hE, List.drop_append_of_le_length (by omega)]
 have t1 : List.take n (List.drop i E) = es.drop i := by
  rw [d1, show n = (es.drop i).length by rw [List.length_drop]; exact hn]; exact take_app1 _ _
 have d2 : List.drop (i + 1 + n) E = List.replicate (m - 1) [] := by
  rw [hE, List.drop_append, List.drop_eq_nil_of_le (by omega), List.nil_append, List.drop_replicate]
  congr 1; omega
 rw [t1, d2] at h1;have l1 : (List.take (i + 1) E).length = i + 1 := by rw [List.length_take, hE, laZ, List.length_replicate]; omega
 have t2 : List.take i Y1 = es.take i := by
  rw [h1, List.append_assoc, List.take_append_of_le_length (by omega), List.take_take, show min i (i + 1) = i by omega, hE, List.take_append_of_le_length (by omega)]
 have d3 : List.drop (i + 1) Y1 = es.drop i ++ List.replicate (m - 1) [] := by
  rw [h1, List.append_assoc, List.drop_append_of_le_length (by omega), List.drop_eq_nil_of_le (by omega), List.nil_append]
 rw [h2, t2, d3, <- List.append_assoc]
set_option maxRecDepth 8000 in
set_option maxHeartbeats 16000000 in
theorem InsertT_spec {es : List (List V)} {x : List V} {i : Nat} (hl : es.length <= 1000) (hi : i <= es.length) (hne : ∀ r ∈ es, r ≠ []) (hx : x ≠ []) (h : Q (.ms 3 0 0 (es.length + 1) false) [.buf (es.take i ++ [x] ++ es.drop i)]) :
 ACall Tryz.prog 141 0 [.ms 3 0 0 es.length false, fI i, .ms 3 1 0 1 true] [.buf es, .buf [x]] Q := by
 refine ACall.ret (by_body Tryz.func141 0 rfl (nbZ rfl) ?_)
 conv => whnf
 refine ⟨⟨by omega, by omega⟩, ?_⟩
 conv => whnf
 refine branch_i (fun c1 => ?_) (fun c1 => ?_) <;> try rw [c1] <;> conv => whnf
 . have c1' := dtZ c1;have hin : i = es.length := by omega
   subst hin;refine ⟨Nat.le_refl 1, ?_⟩;refine app_gen rfl rfl rfl (Nat.le_trans (Nat.mul_le_mul_right _ (Nat.add_le_add hl (show 1 <= 1 by omega))) (show (1000 + 1) * 48 <= 70368744177664 by omega)) ?_
   conv => whnf
   refine ⟨[2], rfl, .done [0] rfl ?_⟩;rw [List.take_length, List.drop_length, List.append_nil] at h;exact h
 have c1' := dfZ c1;have hlt : i < es.length := by omega
 refine ⟨⟨by omega, by omega⟩, fun m => ?_⟩
 conv => whnf
 have hw1 : IntKind.i64.wrap ((es.length : Int) + ((1 : Nat) : Int)) = ((es.length + 1 : Nat) : Int) := by rw [insT_wrap (by omega)]; omega
 have hi1 : IntKind.i64.wrap ((i : Int) + 1) = ((i + 1 : Nat) : Int) := by rw [insT_wrap (by omega)]; omega
 have hi2 : IntKind.i64.wrap ((i : Int) + ((1 : Nat) : Int)) = ((i + 1 : Nat) : Int) := hi1;rw [hw1];refine branch_i (fun c2 => ?_) (fun c2 => ?_) <;> try rw [c2] <;> conv => whnf
 . have c2' := dtZ c2;have hm0 : m = 0 := by omega
   subst hm0;refine ⟨by omega, ?_⟩
   conv => whnf
   have hw3 : IntKind.i64.wrap (IntKind.i64.wrap ((es.length : Int) + ((1 : Nat) : Int)) - (i : Int)) = ((es.length + 1 - i : Nat) : Int) := by rw [hw1, insT_wrap (by omega)]; omega
   rw [hw3];refine ⟨⟨by omega, by omega, ?_, ?_, ?_⟩, ?_⟩
   all_goals try rw [show (es ++ List.replicate 0 []) = es from List.append_nil es]
   . omega
   . omega
   . intro r hr;exact hne r (List.mem_of_mem_take hr)
   obtain ⟨Y, hY⟩ : ∃ Y, Y = List.take i (List.drop 0 es) ++ List.replicate (es.length + 1 - i) ((cx Tryz.f141.ntmps 0).T 88).zero := ⟨_, rfl⟩;have hYl : Y.length = es.length + 1 := by rw [hY, laZ, List.length_take, List.length_replicate, List.drop_zero]; omega
   refine new_as (B := 48) (n := es.length + 1) (Y := Y) hY.symm hYl (by decide) (by omega) ?_
   conv => whnf
   refine ⟨by omega, ?_⟩
   conv => whnf
   have hm1 : min 1 (es.length + 1 - (i : Int).toNat) = 1 := by omega
   refine ⟨by omega, ⟨by omega, ?_⟩, ?_, ?_⟩
   . rw [hm1];exact Nat.le_refl 1
   . omega
   obtain ⟨Y1, hY1⟩ : ∃ Y1, Y1 = (List.take ((i : Int).toNat + 0) Y ++ List.take (min 1 (es.length + 1 - (i : Int).toNat)) (List.drop 0 [x]) ++ List.drop ((i : Int).toNat + 0 + min 1 (es.length + 1 - (i : Int).toNat)) Y) := ⟨_, rfl⟩;rw [<- hY1]
   conv => whnf
   refine ⟨[0, 1, 2, 3, 4, 5, 6, 7, 8], by kernel_rfl, by kernel_rfl, ?_⟩
   conv => whnf
   rw [hi2];refine ⟨by omega, ?_⟩
   conv => whnf
   refine ⟨by omega, ?_⟩
   conv => whnf
   have hY1l : Y1.length = es.length + 1 := by
    rw [hY1, hm1, laZ, laZ, List.length_take, List.length_drop, hYl, show (List.take 1 (List.drop 0 [x])).length = 1 from rfl]; omega
   have hm2 : min (es.length - (i : Int).toNat) (es.length + 1 - ((i + 1 : Nat) : Int).toNat) = es.length - i := by omega
   refine ⟨by omega, ⟨by omega, by omega, ?_⟩, by omega, ?_⟩
   . intro r hr;exact hne r (List.mem_of_mem_drop (List.mem_of_mem_take hr))
   obtain ⟨Y2, hY2⟩ : ∃ Y2, Y2 = (List.take (((i + 1 : Nat) : Int).toNat + 0) Y1 ++ List.take (min (es.length - (i : Int).toNat) (es.length + 1 - ((i + 1 : Nat) : Int).toNat)) (List.drop ((i : Int).toNat + 0) es) ++
    List.drop (((i + 1 : Nat) : Int).toNat + 0 + min (es.length - (i : Int).toNat) (es.length + 1 - ((i + 1 : Nat) : Int).toNat)) Y1) := ⟨_, rfl⟩
   rw [<- hY2]
   conv => whnf
   refine ⟨[2], rfl, .done [0] rfl ?_⟩;show Q (.ms 3 0 0 (es.length + 1) false) [.buf Y2]
   rw [ins_rows hi hm1 hm2 hYl ?_ hY1 hY2]
   . exact h
   rw [hY, List.drop_zero];have : i = (List.take i es).length := by rw [List.length_take]; omega
   conv => lhs; arg 1; rw [this]
   exact take_app1 _ _
 . have c2' := dfZ c2;rw [hw1];refine ⟨⟨by omega, .inr ⟨by omega, ?_⟩⟩, ?_⟩
   . show 0 + (es.length + 1) <= (es ++ List.replicate m []).length
     rw [laZ, List.length_replicate];omega
   conv => whnf
   rw [hi2];refine ⟨by omega, ?_⟩
   conv => whnf
   refine ⟨_, overlapsT_ext (by decide) (by simp [getO, IsBuf]) (by simp [getO, IsBuf]), ?_⟩
   conv => whnf
   refine ⟨[0, 1, 2, 3, 4, 5, 6, 7, 8], by kernel_rfl, by kernel_rfl, ?_⟩
   conv => whnf
   rw [hi2];refine ⟨by omega, ?_⟩
   conv => whnf
   refine ⟨by omega, ?_⟩
   conv => whnf
   have hm0 : 0 < m := by omega
   have hm2 : min (((es.length + 1 : Nat) : Int).toNat - (i : Int).toNat) (((es.length + 1 : Nat) : Int).toNat - ((i + 1 : Nat) : Int).toNat) = es.length - i := by omega
   have hEl : (es ++ List.replicate m ([] : List V)).length = es.length + m := by rw [laZ, List.length_replicate]
   refine ⟨by omega, ⟨by omega, by rw [hEl]; omega, ?_⟩, by rw [hEl]; omega, ?_⟩
   . intro r hr;rw [hm2, show ((i : Int).toNat + 0) = i from rfl, List.drop_append_of_le_length (by omega), show es.length - i = (es.drop i).length by rw [List.length_drop], take_app1] at hr
     exact hne r (List.mem_of_mem_drop hr)
   obtain ⟨Y1, hY1⟩ : ∃ Y1, Y1 = (List.take (((i + 1 : Nat) : Int).toNat + 0) (es ++ List.replicate m ([] : List V)) ++ List.take (min (((es.length + 1 : Nat) : Int).toNat - (i : Int).toNat) (((es.length + 1 : Nat) : Int).toNat - ((i + 1 : Nat) : Int).toNat)) (List.drop ((i : Int).toNat + 0) (es ++ List.replicate m ([] : List V))) ++
    List.drop (((i + 1 : Nat) : Int).toNat + 0 + min (((es.length + 1 : Nat) : Int).toNat - (i : Int).toNat) (((es.length + 1 : Nat) : Int).toNat - ((i + 1 : Nat) : Int).toNat)) (es ++ List.replicate m ([] : List V))) := ⟨_, rfl⟩
   rw [<- hY1]
   conv => whnf
   refine ⟨by omega, ?_⟩
   conv => whnf
   have hm3 : min 1 (((es.length + 1 : Nat) : Int).toNat - (i : Int).toNat) = 1 := by omega
   have hY1l : Y1.length = es.length + m := by
    rw [hY1, hm2, laZ, laZ, List.length_take, List.length_drop, List.length_take, List.length_drop, hEl]; omega
   refine ⟨by omega, ⟨by omega, by rw [hm3]; exact Nat.le_refl 1⟩, by rw [hY1l]; omega, ?_⟩
   obtain ⟨Y2, hY2⟩ : ∃ Y2, Y2 = (List.take ((i : Int).toNat + 0) Y1 ++ List.take (min 1 (((es.length + 1 : Nat) : Int).toNat - (i : Int).toNat)) (List.drop 0 [x]) ++ List.drop ((i : Int).toNat + 0 + min 1 (((es.length + 1 : Nat) : Int).toNat - (i : Int).toNat)) Y1) := ⟨_, rfl⟩;rw [<- hY2];have hr := ins_rows2 hlt hm0 hm2 hm3 rfl hY1 hY2
   conv => whnf
   refine ⟨[0], rfl, ?_⟩
   conv => whnf
   show ARet 0 Q (.ms 3 0 0 (es.length + 1) false) [.bufc Y2]
   have hzl : (es.take i ++ [x] ++ es.drop i).length = es.length + 1 := by
    rw [laZ, laZ, List.length_take, List.length_drop, List.length_singleton]; omega
   have hYt : Y2.take (es.length + 1) = es.take i ++ [x] ++ es.drop i := by
    rw [hr, <- hzl]; exact take_app1 _ _
   refine .sub _ _ (.refl _) (.cons (.bufc Y2 (es.length + 1) ?_ ?_) (HSub.refl _)) (.done [0] rfl ?_)
   . intro r hr;rw [hYt] at hr;simp only [List.mem_append, List.mem_singleton] at hr;rcases hr with (hr | hr) | hr
     . exact hne r (List.mem_of_mem_take hr)
     . rw [hr]; exact hx
     . exact hne r (List.mem_of_mem_drop hr)
   . intro h0;rw [h0] at hYt;have := congrArg List.length hYt;rw [hzl] at this;simp at this
   . show Q (.ms 3 0 0 (es.length + 1) false) [.buf (Y2.take (es.length + 1))]
     rw [hYt];exact h
end Go.Proofs.YtcdkklgeepkopaaGreatDoorPg
namespace Go.Proofs.YtcdkklgeepkopaaGreatDoorPg
open Go Go.RowKit
variable {Q : V -> List O -> Prop}
theorem CloneF_spec {l : List Col} {keys : Int} (hl : l.length < 1000000) (h : Q (sch l keys) []) : ACall Tryz.prog 83 0 [sch l keys] [] Q := by
 refine ACall.ret (Clone_spec hl (.frz 0 rfl (by repeat (first | exact trivial | refine And.intro (Nat.le_of_eq (by rw [cols_len, Nat.zero_add])) ?_)) (.done [] rfl ?_)))
 show Q (.agg [.sl 3 (List.take l.length (cols l)) false, fI keys]) []
 rw [List.take_of_length_le (by rw [cols_len]; exact Nat.le_refl _)]
 exact h
theorem app_tb {i j n : Nat} {f : Bool} {X : List Tb} {w : Tb} {H : List O} {K : V -> List O -> Prop} (hij : Nat.beq i j = false) (hX : getO H i = .buf (tbs X)) (hn : n = X.length) (hs : X.length <= 1000000)
 (hK : copyH (setO H i .dead ++ [.buf (tbs (X ++ [w]))]) fun H' => K (.ms 3 (setO H i .dead).length 0 (X ++ [w]).length false) H') :
 0 + 1 <= 1 /\ aapp 3 48 (.ms 3 i 0 n false) (.ms 3 j 0 1 f) [tbC w] H K := by
 subst hn;refine ⟨Nat.le_refl 1, ?_⟩;unfold aapp sameBuf;simp only [hij];unfold aappend;simp only [show Nat.beq 3 3 = true from rfl, hX, List.drop_zero]
 refine ⟨by rw [tbs_len]; rfl, ?_⟩
 rw [show tbs X ++ [tbC w] = tbs (X ++ [w]) by rw [tbs_app]; rfl]
 unfold newBuf;rw [tbs_len];exact ⟨by rw [laZ, List.length_singleton]; omega, hK⟩
set_option maxHeartbeats 4000000 in
theorem TClone_spec {l : List Tb} (hl : l.length <= 64) (hc : ∀ x ∈ l, x.c.length < 1000000) (h : Q (.ms 3 0 0 l.length false) [.buf (tbs l)]) : ACall Tryz.prog 109 0 [.sl 3 (tbs l) false] [] Q := by
 refine ACall.ret (by_body Tryz.func109 0 rfl (nbZ rfl) ?_)
 conv => whnf
 have hlv := tbs_len l;refine ⟨⟨[3, 6, 7, 8], fun m ws H => ∃ i : Nat, ws = [.ms 3 0 0 i false, .sl 3 (tbs l) false, fI (tbs l).length, fI i] /\ H = [.buf (tbs (l.take i))] /\ i <= l.length /\ m = l.length - i, ?_, ?_⟩⟩
 . refine .frz (l.length + 1) (.adopt (.sub _ _ (.cons (VSub.ms0 3 0 0 false) (VSubs.refl _)) (HSub.refl _) (.go [0] rfl l.length (by omega) ⟨0, rfl, rfl, by omega, rfl⟩)))
 rintro m ws H ⟨i, rfl, rfl, hi, rfl⟩
 conv => whnf
 refine branch_i (fun c1 => ?_) (fun c1 => ?_) <;> try rw [c1] <;> conv => whnf
 rotate_left
 focus
  have c1' := dfZ c1;have : i = l.length := by omega
  subst this;rw [List.take_length];exact ⟨[0], rfl, .done [0] rfl h⟩
 have c1' := dtZ c1;have hlt : i < l.length := by omega
 have hg : l[i]? = some l[i] := lgZ hlt;have hcw := hc l[i] (List.getElem_mem hlt);generalize l[i] = w at *;refine ⟨_, ⟨by omega, tbs_get hg⟩, ?_⟩
 conv => whnf
 refine ⟨List.range 10, by kernel_rfl, by kernel_rfl, ?_⟩
 conv => whnf
 refine .pure (CloneF_spec (l := w.c) (keys := w.k) hcw ⟨rfl, ?_⟩)
 repeat (conv => whnf
         refine ⟨rfl, ?_⟩)
 conv => whnf
 have hsn : l.take (i + 1) = l.take i ++ [w] := by rw [List.take_add_one, hg]; rfl
 refine app_tb (X := l.take i) (w := w) rfl rfl (by rw [List.length_take]; omega) (by rw [List.length_take]; omega) ?_
 rw [<- hsn];have hln : (l.take (i + 1)).length = i + 1 := by rw [List.length_take]; omega
 rw [hln]
 conv => whnf
 refine .go [3] rfl (l.length - (i + 1)) (by omega) ⟨i + 1, ?_, rfl, by omega, rfl⟩
 show [V.ms 3 0 0 (i + 1) false, .sl 3 (tbs l) false, fI (tbs l).length, V.int .i64 (IntKind.i64.wrap ((i : Int) + 1))] = _
 rw [wrapE (by omega)]; rfl
theorem tbs_ins (l : List Tb) (t : Tb) : (tbs l).take (posT l t.n) ++ [tbC t] ++ (tbs l).drop (posT l t.n) = tbs (insT l t) := by
 unfold insT tbs;simp [List.map_take, List.map_drop]
theorem tbs_ne {l : List Tb} : ∀ r ∈ tbs l, r ≠ [] := by
 intro r hr;unfold tbs at hr;obtain ⟨w, _, rfl⟩ := List.mem_map.1 hr;exact List.cons_ne_nil _ _
def creE (l : List Tb) (t : List UInt8) (cs : List Col) (ks : Int) : List Tb × Int :=
 if nameOk t = false then ([], 6) else if (atT l t).isSome then ([], 8) else if mayS cs ks = false then ([], 1) else if 64 <= l.length then ([], 13) else (insT l ⟨t, cs, ks⟩, 0)
set_option maxHeartbeats 16000000 in
theorem Create_spec {l : List Tb} {c : Chg} (hl : l.length <= 64) (hc : ∀ x ∈ l, x.c.length < 1000000) (h : Q (folR (creE l c.t c.c c.ks)) []) :
 ACall Tryz.prog 107 0 [.sl 3 (tbs l) false, fI (posT l c.t), .bool (atT l c.t).isSome, chA c] [] Q := by
 refine ACall.ret (by_body Tryz.func107 0 rfl (nbZ rfl) ?_)
 conv => whnf
 have hlv := tbs_len l;have hp := posT_le l c.t;unfold creE at h;refine .pure (Name_spec ⟨rfl, ?_⟩)
 conv => whnf
 cases hn : nameOk c.t <;> rw [hn] at h <;> conv => whnf
 . exact ⟨[], rfl, .sub _ _ (err_fol _) (HSub.refl _) (.done [] rfl h)⟩
 rw [if_neg (by simp)] at h
 cases ha : (atT l c.t).isSome <;> rw [ha] at h <;> conv => whnf
 rotate_left
 . exact ⟨[], rfl, .sub _ _ (err_fol _) (HSub.refl _) (.done [] rfl h)⟩
 rw [if_neg (by simp)] at h
 refine .pure (May_any (l := c.c) (keys := c.ks) ⟨rfl, ?_⟩)
 conv => whnf
 cases hm : mayS c.c c.ks <;> rw [hm] at h <;> conv => whnf
 . exact ⟨[], rfl, .sub _ _ (err_fol _) (HSub.refl _) (.done [] rfl h)⟩
 rw [if_neg (by simp)] at h
 refine branch_i (fun c1 => ?_) (fun c1 => ?_) <;> try rw [c1] <;> conv => whnf
 . have c1' := dtZ c1;rw [if_pos (by omega)] at h
   exact ⟨[], rfl, .sub _ _ (err_fol _) (HSub.refl _) (.done [] rfl h)⟩
 have c1' := dfZ c1;rw [if_neg (by omega)] at h
 have hb := may_bd hm;refine ⟨[0, 2, 3, 4, 5, 6, 1, 7, 8, 9, 10, 11, 12], by kernel_rfl, by kernel_rfl, ?_⟩
 conv => whnf
 refine .call [] 0 ⟨rfl, rfl, rfl⟩ (TClone_spec hl hc ?_)
 repeat (conv => whnf
         refine ⟨rfl, ?_⟩)
 conv => whnf
 refine .pure (CloneF_spec (l := c.c) (keys := c.ks) (by omega) ⟨rfl, ?_⟩)
 repeat (conv => whnf
         refine ⟨rfl, ?_⟩)
 conv => whnf
 refine .call [1, 2] 2 ⟨rfl, rfl, rfl⟩ (ACall.stay 2 rfl ?_);show ACall Tryz.prog 141 0 [.ms 3 0 0 l.length false, fI (posT l c.t), .ms 3 1 0 1 true] [.buf (tbs l), .buf [tbC ⟨c.t, c.c, c.ks⟩]] _
 rw [<- hlv];refine InsertT_spec (by omega) (by omega) tbs_ne (List.cons_ne_nil _ _) ?_
 have hti := tbs_ins l ⟨c.t, c.c, c.ks⟩;rw [show List.take (posT l c.t) (tbs l) ++ [tbC ⟨c.t, c.c, c.ks⟩] ++ List.drop (posT l c.t) (tbs l) = _ from hti]
 repeat (conv => whnf
         refine ⟨rfl, ?_⟩)
 conv => whnf
 refine fol_ret (j := 3) (L := insT l ⟨c.t, c.c, c.ks⟩) rfl (by rw [insT_len, tbs_len]) (show 3 < 4 by decide) h
theorem Follow1_spec {l : List Tb} {c : Chg} (hl : l.length <= 64) (hs : SortedT l) (hk : c.k = 1) (hc : ∀ x ∈ l, x.c.length < 1000000) (h : Q (folR (creE l c.t c.c c.ks)) []) :
 ACall Tryz.prog 74 0 [.sl 3 (tbs l) false, chA c] [] Q := by
 refine by_body Tryz.func74 0 rfl (nbZ rfl) ?_
 conv => whnf
 refine .pure (evat_spec (by omega) hs ⟨rfl, ?_⟩)
 conv => whnf
 rw [decide_eq_true hk]
 conv => whnf
 refine .pure (Create_spec hl hc ⟨rfl, ?_⟩);unfold folR
 conv => whnf
 exact ⟨[], rfl, h⟩
end Go.Proofs.YtcdkklgeepkopaaGreatDoorPg
namespace Go.Proofs.YtcdkklgeepkopaaGreatDoorPg
open Go Go.RowKit
variable {Q : V -> List O -> Prop}
theorem tbs_erase (l : List Tb) (i : Nat) : tbs (l.eraseIdx i) = (tbs l).take i ++ (tbs l).drop (i + 1) := by
 rw [List.eraseIdx_eq_take_drop_succ]; simp [tbs]
theorem del_ret {n : Nat} {C B : List (List V)} (hC : C.take n = B) (hn : n <= C.length) (h : Q (.sl 3 B false) []) : ARet 0 Q (.ms 3 0 0 n false) [.buf C] := by
 refine .frz 0 rfl (by repeat (first | exact trivial | refine And.intro (Nat.le_trans (Nat.le_of_eq (Nat.zero_add _)) hn) ?_)) (.done [] rfl ?_)
 show Q (.sl 3 (C.take n) false) []
 rw [hC]; exact h
set_option maxHeartbeats 4000000 in
theorem DeleteT_spec {l : List Tb} {i : Nat} (hl : l.length <= 64) (hi : i < l.length) (h : Q (.sl 3 (tbs (l.eraseIdx i)) false) []) :
 ACall Tryz.prog 108 0 [.mr 3 0 0 l.length, fI i, fI ((i + 1 : Nat) : Int)] [.buf (tbs l)] Q := by
 have hlk := tbs_len l;refine ACall.ret (by_body Tryz.func108 0 rfl (nbZ rfl) ?_)
 conv => whnf
 refine ⟨by omega, ?_⟩
 conv => whnf
 rw [show decide ((i : Int) = ((i + 1 : Nat) : Int)) = false by simp; omega]
 conv => whnf
 refine ⟨[0, 1, 2, 3, 4, 5, 6, 7], by kernel_rfl, by kernel_rfl, ?_⟩
 conv => whnf
 refine ⟨by omega, ?_⟩
 conv => whnf
 refine ⟨by omega, ?_⟩
 conv => whnf
 refine ⟨by omega, ?_⟩
 have hY : List.take (l.length - ((i + 1 : Nat) : Int).toNat) (List.drop (((i + 1 : Nat) : Int).toNat + 0) (tbs l)) = (tbs l).drop (i + 1) := by
  rw [Int.toNat_natCast, Nat.add_zero, List.take_of_length_le (by simp [hlk])]
 have hYl : ((tbs l).drop (i + 1)).length = l.length - (i + 1) := by rw [List.length_drop, hlk]
 have hE := tbs_erase l i;rw [hY];generalize hYY : (tbs l).drop (i + 1) = Y at *;refine ⟨fun hy => ?_, fun hy => ⟨?_, ?_⟩⟩
 . subst hy;rw [List.length_nil] at hYl;rw [List.append_nil] at hE
   conv => whnf
   refine ⟨⟨by omega, by omega, .inr (show 0 + l.length <= (tbs l).length by omega)⟩, ?_⟩
   conv => whnf
   refine ⟨by omega, ?_⟩
   conv => whnf
   have hti : (List.take i (tbs l)).length = i := by rw [List.length_take]; omega
   refine ⟨[0], rfl, .sub _ _ (VSub.mrMs _ _ _ _) (HSub.refl _) (del_ret (B := tbs (l.eraseIdx i)) ?_ ?_ h)⟩
   . rw [hE];show List.take i (List.take i (tbs l) ++ List.replicate (l.length - i) (tt 88).zero ++ List.drop (i + (l.length - i)) (tbs l)) = _
     rw [List.append_assoc]
     conv => lhs; arg 1; rw [<- hti]
     exact take_app1 _ _
   . show i <= (List.take i (tbs l) ++ List.replicate (l.length - i) (tt 88).zero ++ List.drop (i + (l.length - i)) (tbs l)).length
     rw [laZ, laZ, hti]; omega
 . omega
 . have hyp : 0 < Y.length := List.length_pos_iff.2 hy;have hti : (List.take (0 + i) (tbs l)).length = i := by rw [List.length_take]; omega
   obtain ⟨D, hD⟩ : ∃ D, D = (List.take (0 + (i : Int).toNat) (tbs l) ++ Y ++ List.drop (0 + (i : Int).toNat + Y.length) (tbs l)) := ⟨_, rfl⟩;have hDl : D.length = l.length := by rw [hD, Int.toNat_natCast, laZ, laZ, hti, List.length_drop]; omega
   have hDt : D.take (i + Y.length) = tbs (l.eraseIdx i) := by
    rw [hD, hE, Int.toNat_natCast, Nat.zero_add];have : (List.take i (tbs l) ++ Y).length = i + Y.length := by rw [laZ]; rw [Nat.zero_add] at hti; omega
    conv => lhs; arg 1; rw [<- this]
    exact take_app1 _ _
   conv => whnf
   refine ⟨⟨by omega, by omega, .inr ⟨by omega, ?_⟩⟩, ?_⟩
   . show 0 + l.length <= (List.take (0 + (i : Int).toNat) (tbs l) ++ Y ++ List.drop (0 + (i : Int).toNat + Y.length) (tbs l)).length
     rw [<- hD]; omega
   conv => whnf
   have hz : ((((i : Int).toNat + Y.length : Nat) : Int)).toNat = i + Y.length := by omega
   rw [<- hD, hz];refine ⟨⟨by omega, by omega⟩, ?_⟩
   conv => whnf
   have hDt' : (D.take (i + Y.length)).length = i + Y.length := by rw [List.length_take]; omega
   refine ⟨[0], rfl, del_ret (B := tbs (l.eraseIdx i)) ?_ ?_ h⟩
   . rw [<- hDt];show List.take (i + Y.length) (List.take (i + Y.length) D ++ List.replicate (l.length - (i + Y.length)) (tt 88).zero ++ List.drop (i + Y.length + (l.length - (i + Y.length))) D) = _
     rw [List.append_assoc]
     conv => lhs; arg 1; rw [<- hDt']
     exact take_app1 _ _
   . show i + Y.length <= (List.take (i + Y.length) D ++ List.replicate (l.length - (i + Y.length)) (tt 88).zero ++ List.drop (i + Y.length + (l.length - (i + Y.length))) D).length
     rw [laZ, laZ, hDt']; omega
theorem Follow2_spec {l : List Tb} {c : Chg} (hl : l.length <= 64) (hs : SortedT l) (hk : c.k = 2) (hc : ∀ x ∈ l, x.c.length < 1000000)
 (h : Q (folR (match atT l c.t with | none => ([], 7) | some i => (l.eraseIdx i, 0))) []) :
 ACall Tryz.prog 74 0 [.sl 3 (tbs l) false, chA c] [] Q := by
 refine ACall.ret (by_body Tryz.func74 0 rfl (nbZ rfl) ?_)
 conv => whnf
 refine .pure (evat_spec (by omega) hs ⟨rfl, ?_⟩)
 conv => whnf
 rw [decide_eq_false (show ¬ c.k = 1 by omega)]
 cases ha : atT l c.t with
 | none =>
  rw [ha] at h
  conv => whnf
  exact ⟨[], rfl, .sub _ _ (err_fol _) (HSub.refl _) (.done [] rfl h)⟩
 | some i =>
  rw [ha] at h
  conv => whnf
  rw [decide_eq_true hk]
  conv => whnf
  have hp := pos_of_at hs ha;obtain ⟨t, ht, _, hi⟩ := atT_get ha;rw [hp];refine .call [] 0 ⟨rfl, rfl, rfl⟩ (TClone_spec hl hc ?_)
  conv => whnf
  rw [wrapE (n := (i : Int) + 1) (by omega)]
  refine .call [1] 0 ⟨rfl, rfl, rfl⟩ (ACall.args (.cons (VSub.mr (by omega)) (VSubs.refl _)) (DeleteT_spec (i := i) hl hi ?_))
  conv => whnf
  exact ⟨[], rfl, .done [] rfl h⟩
end Go.Proofs.YtcdkklgeepkopaaGreatDoorPg
namespace Go.Proofs.YtcdkklgeepkopaaGreatDoorPg
open Go Go.RowKit
variable {Q : V -> List O -> Prop}
set_option maxHeartbeats 8000000 in
theorem Follow_spec {l : List Tb} {c : Chg} (hl : TbsB l) (h : Q (folR (folT l c.k c.t c.c c.ks c.col)) []) :
 ACall Tryz.prog 74 0 [.sl 3 (tbs l) false, chA c] [] Q := by
 have hs := hl.ok.sorted;have hf := hl.few;have hc : ∀ x ∈ l, x.c.length < 1000000 := fun x hx => by have := hl.cols x hx; omega
 unfold folT at h;by_cases h1 : c.k = 1
 . rw [if_pos h1] at h;exact Follow1_spec hf hs h1 hc h
 rw [if_neg h1] at h;by_cases h2 : c.k = 2
 . refine Follow2_spec hf hs h2 hc ?_;cases ha : atT l c.t with
   | none => rw [ha] at h; exact h
   | some i => rw [ha] at h; simp only [if_pos h2] at h; exact h
 refine ACall.ret (by_body Tryz.func74 0 rfl (nbZ rfl) ?_)
 conv => whnf
 refine .pure (evat_spec (by omega) hs ⟨rfl, ?_⟩)
 conv => whnf
 rw [decide_eq_false h1];cases ha : atT l c.t with
 | none =>
  rw [ha] at h
  conv => whnf
  exact ⟨[], rfl, .sub _ _ (err_fol _) (HSub.refl _) (.done [] rfl h)⟩
 | some i =>
  rw [ha] at h
  conv => whnf
  rw [decide_eq_false h2]
  conv => whnf
  have hp := pos_of_at hs ha;obtain ⟨t, ht, _, hi⟩ := atT_get ha;rw [hp];simp only [ht, if_neg h2] at h;have hm := may_bd (hl.ok.each t (List.mem_of_getElem? ht)).sch;refine ⟨List.range 13, by kernel_rfl, by kernel_rfl, ?_⟩
  conv => whnf
  refine ⟨_, ⟨by omega, tbs_get ht⟩, ?_⟩
  conv => whnf
  refine .pure (Apply_spec (l := t.c) (keys := t.k) (k := c.k) (c := c.col) (by omega) (by omega) ⟨rfl, ?_⟩)
  generalize hap : applyS t.c t.k c.k c.col = ap at *
  repeat (conv => whnf
          refine ⟨rfl, ?_⟩)
  conv => whnf
  refine branch_i (fun c1 => ?_) (fun c1 => ?_) <;> try rw [c1] <;> conv => whnf
  . have c1' : ap.2.2 ≠ 0 := by simpa using c1
    rw [if_pos c1'] at h;exact ⟨[], rfl, .sub _ _ (err_fol _) (HSub.refl _) (.done [] rfl h)⟩
  have c1' : ¬ ap.2.2 ≠ 0 := by simpa using c1
  rw [if_neg c1'] at h;refine .call [] 0 ⟨rfl, rfl, rfl⟩ (TClone_spec hf hc ?_)
  conv => whnf
  refine ⟨⟨by omega, by omega⟩, ?_⟩
  conv => whnf
  refine ⟨_, tbs_get ht, ?_⟩
  conv => whnf
  have e : (tbs l).set i [.str t.n, .sl 3 (cols ap.1) false, fI ap.2.1] = tbs (l.set i ⟨t.n, ap.1, ap.2.1⟩) := by
   unfold tbs; rw [List.map_set]; rfl
  exact fol_ret (j := 2) (L := l.set i ⟨t.n, ap.1, ap.2.1⟩) (congrArg O.buf e) (by rw [List.length_set]) (show 2 < 3 by decide) h
end Go.Proofs.YtcdkklgeepkopaaGreatDoorPg
namespace Go.Proofs.YtcdkklgeepkopaaGreatDoorPg
open Go Go.RowKit
def frm (b : List UInt8) : List UInt8 := numW (b.length : Int) ++ crcP b
def start : List UInt8 := frm [1, 1]
def nxtA (b : List UInt8) (at_ : Nat) : List UInt8 × Int × Int :=
 if (numL (b.drop at_)).2.2 ≠ 0 then ([], (at_ : Int), (numL (b.drop at_)).2.2)
 else if ((numL (b.drop at_)).2.1.length : Int) < (numL (b.drop at_)).1 + 4 then ([], (at_ : Int), 4)
 else if crcP ((numL (b.drop at_)).2.1.take (numL (b.drop at_)).1.toNat) = (numL (b.drop at_)).2.1.take ((numL (b.drop at_)).1.toNat + 4)
  then ((numL (b.drop at_)).2.1.take (numL (b.drop at_)).1.toNat, ((b.length - (numL (b.drop at_)).2.1.length + (numL (b.drop at_)).1.toNat + 4 : Nat) : Int), 0)
 else ([], (at_ : Int), 3)
def nxtL (b : List UInt8) (a : Int) : List UInt8 × Int × Int :=
 if a < 0 \/ (b.length : Int) < a then ([], a, 1) else if a = (b.length : Int) then ([], a, 7) else nxtA b a.toNat
theorem numW_len' (n : Int) : (numW n).length <= 10 := digW_len _
theorem frm_len (b : List UInt8) : (frm b).length = (numW (b.length : Int)).length + b.length + 4 := by unfold frm; rw [laZ, crcP_len]; omega
theorem nxtA_err (b : List UInt8) (a : Nat) (h : (nxtA b a).2.2 ≠ 0) : (nxtA b a).1 = [] /\ (nxtA b a).2.1 = a := by
 unfold nxtA at h ⊢;split
 . exact ⟨rfl, rfl⟩
 split
 . exact ⟨rfl, rfl⟩
 split
 . rename_i h1 h2 h3;rw [if_neg h1, if_neg h2, if_pos h3] at h;exact absurd rfl h
 . exact ⟨rfl, rfl⟩
theorem nxtL_err (b : List UInt8) (a : Int) (h : (nxtL b a).2.2 ≠ 0) : (nxtL b a).1 = [] /\ (nxtL b a).2.1 = a := by
 unfold nxtL at h ⊢;split
 . exact ⟨rfl, rfl⟩
 split
 . exact ⟨rfl, rfl⟩
 . rename_i h1 h2;rw [if_neg h1, if_neg h2] at h;have := nxtA_err _ _ h;exact ⟨this.1, by rw [this.2]; omega⟩
theorem nxtA_ok {b : List UInt8} {a : Nat} {x : List UInt8} {n : Int} (h : nxtA b a = (x, n, 0)) : ∃ r, b.drop a = frm x ++ r /\ n = ((b.length - r.length : Nat) : Int) := by
 unfold nxtA at h;split at h
 . simp only [Prod.mk.injEq] at h; rename_i h1; exact absurd h.2.2 h1
 rename_i h1;rw [Decidable.not_not] at h1;split at h
 . simp at h
 rename_i h2;split at h
 rotate_left
 . simp at h
 rename_i h3;have hb := numL_back (s := b.drop a) (r := (numL (b.drop a)).2.1) (v := (numL (b.drop a)).1) (by rw [<- h1])
 generalize (numL (b.drop a)).1 = v at *;generalize hr : (numL (b.drop a)).2.1 = r at *;obtain ⟨h4, h5, h6⟩ := hb;simp only [Prod.mk.injEq] at h;obtain ⟨rfl, rfl, _⟩ := h;have hxl : (r.take v.toNat).length = v.toNat := by rw [List.length_take]; omega
 refine ⟨r.drop (v.toNat + 4), ?_, ?_⟩
 . rw [h6];unfold frm;rw [hxl, show ((v.toNat : Nat) : Int) = v by omega, h3, List.append_assoc, List.take_append_drop]
 . rw [List.length_drop];have := congrArg List.length h6;rw [List.length_drop, laZ] at this;congr 1; omega
theorem nxtA_frm {b : List UInt8} {a : Nat} {x r : List UInt8} (hx : (x.length : Int) <= 9223372036854775807) (h : b.drop a = frm x ++ r) : nxtA b a = (x, ((b.length - r.length : Nat) : Int), 0) := by
 have hn : numL (b.drop a) = ((x.length : Int), crcP x ++ r, 0) := by
  rw [h]; unfold frm; rw [List.append_assoc];exact numL_W (by omega) hx _
 unfold nxtA;rw [hn];have hc := crcP_len x;have t1 : (crcP x ++ r).take x.length = x := by
  unfold crcP; rw [List.append_assoc, List.take_left]
 have t2 : (crcP x ++ r).take (x.length + 4) = crcP x := by
  rw [<- hc, List.take_left]
 simp only [Int.toNat_natCast, t1, t2];rw [if_neg (by simp), if_neg (by rw [laZ, hc]; omega)]
 simp only [if_true, Prod.mk.injEq, and_true, true_and];have := congrArg List.length h;rw [List.length_drop, laZ, frm_len] at this;rw [laZ, hc];congr 1; omega
theorem nxtL_frm {b : List UInt8} {a : Nat} {x r : List UInt8} (hx : (x.length : Int) <= 9223372036854775807) (h : b.drop a = frm x ++ r) : nxtL b (a : Int) = (x, ((b.length - r.length : Nat) : Int), 0) := by
 have := congrArg List.length h;rw [List.length_drop, laZ, frm_len] at this;unfold nxtL;rw [if_neg (by omega), if_neg (by omega), Int.toNat_natCast]
 exact nxtA_frm hx h
theorem nxtL_ok {b : List UInt8} {a : Int} {x : List UInt8} {n : Int} (h : nxtL b a = (x, n, 0)) : 0 <= a /\ ∃ r, b.drop a.toNat = frm x ++ r /\ n = ((b.length - r.length : Nat) : Int) /\ a < n /\ n <= b.length := by
 unfold nxtL at h;split at h
 . simp at h
 split at h
 . simp at h
 rename_i h1 h2;obtain ⟨r, hr, hn⟩ := nxtA_ok h;have := congrArg List.length hr;rw [List.length_drop, laZ, frm_len] at this;exact ⟨by omega, r, hr, hn, by omega, by omega⟩
theorem nxtL_more {b : List UInt8} {a : Int} {x : List UInt8} {n : Int} (m : List UInt8) (hb : (b.length : Int) <= 9223372036854775807) (h : nxtL b a = (x, n, 0)) : nxtL (b ++ m) a = (x, n, 0) := by
 obtain ⟨h0, r, hr, hn, h1, h2⟩ := nxtL_ok h;obtain ⟨k, rfl⟩ : ∃ k : Nat, a = k := ⟨a.toNat, by omega⟩
 rw [Int.toNat_natCast] at hr;have hl := congrArg List.length hr;rw [List.length_drop, laZ, frm_len] at hl;have hd : (b ++ m).drop k = frm x ++ (r ++ m) := by
  rw [List.drop_append_of_le_length (by omega), hr, List.append_assoc]
 rw [nxtL_frm (by omega) hd, hn]
 simp only [laZ, Prod.mk.injEq, and_true, true_and];congr 1; omega
structure Sc where
 a : Int
 l : List Tb
 h : List Tb
 x : Int
def sc0 : Sc := ⟨7, [], [], -1⟩
def mayX (x : Int) (e : Evt) : Bool :=
 if e.k = 2 \/ e.k = 9 \/ e.k = 10 then decide (x < 0) else if e.k = 7 \/ e.k = 8 then decide (0 <= x) && decide (e.n = x) else decide (0 <= x) && !decide (e.k = 1)
def takeX (s : Sc) (e : Evt) (n : Int) : Sc × Int :=
 if e.k = 2 then (⟨n, s.l, s.h, e.n⟩, 0)
 else if e.k = 7 then (⟨n, s.h, s.h, -1⟩, 0)
 else if e.k = 8 then (⟨n, s.l, s.l, -1⟩, 0)
 else if e.k = 6 then (if (folT s.h e.ch.k e.ch.t e.ch.c e.ch.ks e.ch.col).2 ≠ 0 then (s, (folT s.h e.ch.k e.ch.t e.ch.c e.ch.ks e.ch.col).2) else (⟨n, s.l, (folT s.h e.ch.k e.ch.t e.ch.c e.ch.ks e.ch.col).1, s.x⟩, 0))
 else (⟨n, s.l, s.h, s.x⟩, 0)
def stepE (s : Sc) (w : List UInt8) (n : Int) : Evt × Sc × Int :=
 if (prdR w s.h).2 ≠ 0 then (evtZ, s, (prdR w s.h).2)
 else if mayX s.x (prdR w s.h).1 = false then (evtZ, s, 14)
 else if (takeX s (prdR w s.h).1 n).2 ≠ 0 then (evtZ, s, (takeX s (prdR w s.h).1 n).2)
 else ((prdR w s.h).1, (takeX s (prdR w s.h).1 n).1, 0)
def stepS (b : List UInt8) (s : Sc) : Evt × Sc × Int :=
 if (nxtL b s.a).2.2 ≠ 0 then (evtZ, s, (nxtL b s.a).2.2) else stepE s (nxtL b s.a).1 (nxtL b s.a).2.1
structure ScOk (s : Sc) : Prop where
 l : TbsB s.l
 h : TbsB s.h
 c : s.x < 0 -> s.l = s.h
end Go.Proofs.YtcdkklgeepkopaaGreatDoorPg
namespace Go.Proofs.YtcdkklgeepkopaaGreatDoorPg
open Go Go.RowKit
theorem may_ok {l : List Col} {keys : Int} (h : mayS l keys = true) : SchOk l keys := by
 have hb := may_bd h;unfold mayS at h;rw [Bool.and_eq_true, List.all_eq_true] at h;have hf : ∀ (i : Nat) c, l[i]? = some c -> nameOk c.n = true /\ kindOk c.k = true /\ fnd c.n l 0 = (i : Int) /\ (keys <= (i : Int) \/ c.o = false) := fun i c hc => by
  have := h.2 i (List.mem_range.2 (liZ.1 hc).1);rw [hc] at this;simp only [mayC, Bool.and_eq_true, decide_eq_true_eq, Bool.not_eq_true', Bool.and_eq_false_iff, decide_eq_false_iff_not, Int.not_lt] at this;exact ⟨this.1, this.2.1, this.2.2.1, this.2.2.2⟩
 refine ⟨?_, fun d hd => ?_, hb.1, hb.2.1, hb.2.2.1, hb.2.2.2, fun i c hi hc => ?_⟩
 . unfold NamesOk;rw [List.pairwise_map];refine List.pairwise_iff_getElem.2 fun i j hi hj hij e => ?_
   have h1 := (hf i _ (lgZ hi)).2.2.1;have h2 := (hf j _ (lgZ hj)).2.2.1;rw [e, h2] at h1;omega
 . obtain ⟨i, hi⟩ := List.mem_iff_getElem?.1 hd;have := hf i d hi;exact ⟨this.1, this.2.1⟩
 . rcases (hf i c hc).2.2.2 with h1 | h1
   . omega
   . exact h1
theorem nws_set {l : List Tb} {i : Nat} {x : Tb} {C : List Col} {K : Int} (h : l[i]? = some x) : nws (l.set i ⟨x.n, C, K⟩) = nws l := by
 unfold nws;rw [List.map_set];refine List.ext_getElem? fun j => ?_
 rw [List.getElem?_set];split
 . rename_i e; subst e;rw [List.getElem?_map, h, List.length_map];rw [if_pos (liZ.1 h).1];rfl
 . rfl
theorem folT_ok {l : List Tb} {k : Int} {t : List UInt8} {cs : List Col} {ks : Int} {c : Col} (hl : TbsB l) (h : (folT l k t cs ks c).2 = 0) : TbsB (folT l k t cs ks c).1 := by
 unfold folT at h ⊢;by_cases h1 : k = 1
 . rw [if_pos h1] at h ⊢;split at h
   . simp at h
   rename_i c1;split at h
   . simp at h
   rename_i c2;split at h
   . simp at h
   rename_i c3;split at h
   . simp at h
   rename_i c4;rw [if_neg c1, if_neg c2, if_neg c3, if_neg c4];have hn : atT l t = none := by
    cases ha : atT l t with
    | none => rfl
    | some j => rw [ha] at c2; simp at c2
   exact ⟨insT_ok hl.ok ⟨by simpa using c1, by simpa using c3⟩ hn, by show (insT l _).length <= 64; rw [insT_len]; omega⟩
 rw [if_neg h1] at h ⊢;cases ha : atT l t with
 | none => rw [ha] at h; simp at h
 | some i =>
  rw [ha] at h;simp only at h ⊢;by_cases h2 : k = 2
  . rw [if_pos h2] at h ⊢;refine ⟨⟨?_, fun x hx => hl.ok.each x (List.mem_of_mem_eraseIdx hx)⟩, ?_⟩
    . have hs := hl.ok.sorted;unfold SortedT SortedW at hs ⊢;refine List.Pairwise.sublist ?_ hs;unfold nws;exact (List.eraseIdx_sublist l i).map _
    . have := hl.few;have h3 := List.length_eraseIdx_le (l := l) (i := i);simp only; omega
  rw [if_neg h2] at h ⊢;obtain ⟨x, hx, hxn, hi⟩ := atT_get ha;rw [hx] at h;simp only [hx] at h ⊢;split at h
  . rename_i c1; exact absurd h c1
  rename_i c1;rw [if_neg c1];rw [Decidable.not_not] at c1;have hox := hl.ok.each x (List.mem_of_getElem? hx);have hap := (apply_ok (may_ok hox.sch) c1).may;refine ⟨⟨?_, fun y hy => ?_⟩, by have := hl.few; simp only [List.length_set]; omega⟩
  . unfold SortedT;rw [nws_set hx];exact hl.ok.sorted
  . rcases List.mem_or_eq_of_mem_set hy with h3 | h3
    . exact hl.ok.each y h3
    . subst h3; exact ⟨hox.name, hap⟩
theorem prdR_ok {b : List UInt8} {l : List Tb} (h : (prdR b l).2 = 0) : prd b l = some (prdR b l).1 /\ mayE (prdR b l).1 l = 0 := by
 unfold prdR at h ⊢;cases hp : prd b l with
 | none =>
  rw [hp] at h;simp only at h;split at h <;> omega
 | some ev =>
  rw [hp] at h;simp only at h ⊢;by_cases hm : mayE ev l = 0
  . rw [if_pos hm]; exact ⟨rfl, hm⟩
  . rw [if_neg hm] at h;simp only at h;split at h <;> omega
theorem prdR_num {b : List UInt8} {l : List Tb} (h : (prdR b l).2 = 0) : 0 <= (prdR b l).1.n := by
 have hm := mayE_inv (prdR_ok h).2;generalize (prdR b l).1 = e at *;cases hm with
 | ins k t a C K hk hf hfit => exact Int.le_refl 0
 | del t b C K hf hfit hlen => exact Int.le_refl 0
 | alt c hc => exact Int.le_refl 0
 | num k n hk hn => exact hn
theorem stepS_err {b : List UInt8} {s : Sc} (h : (stepS b s).2.2 ≠ 0) : (stepS b s).1 = evtZ /\ (stepS b s).2.1 = s := by
 unfold stepS stepE at h ⊢
 repeat' split at h
 all_goals simp_all
theorem stepS_ok {b : List UInt8} {s : Sc} (h : (stepS b s).2.2 = 0) : ∃ w n, nxtL b s.a = (w, n, 0) /\ (prdR w s.h).2 = 0 /\ mayX s.x (prdR w s.h).1 = true /\ (takeX s (prdR w s.h).1 n).2 = 0 /\ stepS b s = ((prdR w s.h).1, (takeX s (prdR w s.h).1 n).1, 0) := by
 unfold stepS at h ⊢;split at h
 . rename_i h1; exact absurd h h1
 rename_i h1;rw [if_neg h1];rw [Decidable.not_not] at h1;refine ⟨(nxtL b s.a).1, (nxtL b s.a).2.1, by rw [<- h1], ?_⟩
 generalize (nxtL b s.a).1 = w at *;generalize (nxtL b s.a).2.1 = n at *;unfold stepE at h ⊢;split at h
 . rename_i h2; exact absurd h h2
 rename_i h2;rw [if_neg h2];rw [Decidable.not_not] at h2;split at h
 . simp at h
 rename_i h3;rw [if_neg h3];split at h
 . rename_i h4; exact absurd h h4
 rename_i h4;rw [if_neg h4];rw [Decidable.not_not] at h4;exact ⟨h2, by simpa using h3, h4, rfl⟩
theorem takeX_ok {s : Sc} {e : Evt} {n : Int} (hs : ScOk s) (hm : mayX s.x e = true) (h : (takeX s e n).2 = 0) : ScOk (takeX s e n).1 /\ (takeX s e n).1.a = n := by
 unfold takeX at h ⊢;unfold mayX at hm;split
 . rename_i h2;rw [if_pos (.inl h2), decide_eq_true_eq] at hm;exact ⟨⟨hs.l, hs.h, fun _ => hs.c hm⟩, rfl⟩
 split
 . exact ⟨⟨hs.h, hs.h, fun _ => rfl⟩, rfl⟩
 split
 . exact ⟨⟨hs.l, hs.l, fun _ => rfl⟩, rfl⟩
 split
 . rename_i h2 h7 h8 h6;rw [if_neg h2, if_neg h7, if_neg h8, if_pos h6] at h;rw [if_neg (by omega), if_neg (by omega), Bool.and_eq_true, decide_eq_true_eq] at hm
   split at h
   . rename_i c1; exact absurd h c1
   rename_i c1;rw [if_neg c1];rw [Decidable.not_not] at c1;exact ⟨⟨hs.l, folT_ok hs.h c1, fun hx => by have := hm.1; simp only at hx; omega⟩, rfl⟩
 . exact ⟨⟨hs.l, hs.h, hs.c⟩, rfl⟩
theorem stepS_inv {b : List UInt8} {s : Sc} (hs : ScOk s) (h : (stepS b s).2.2 = 0) : ScOk (stepS b s).2.1 /\ s.a < (stepS b s).2.1.a /\ (stepS b s).2.1.a <= (b.length : Int) := by
 obtain ⟨w, n, h1, h2, h3, h4, h5⟩ := stepS_ok h;obtain ⟨g0, r, g1, g2, g3, g4⟩ := nxtL_ok h1;obtain ⟨k1, k2⟩ := takeX_ok hs h3 h4;rw [h5];exact ⟨k1, by simp only [k2]; omega, by simp only [k2]; omega⟩
theorem stepS_any {b : List UInt8} {s : Sc} (hs : ScOk s) : ScOk (stepS b s).2.1 := by
 by_cases h : (stepS b s).2.2 = 0
 . exact (stepS_inv hs h).1
 . rw [(stepS_err h).2]; exact hs
theorem stepS_more {b : List UInt8} {s : Sc} (m : List UInt8) (hb : (b.length : Int) <= 9223372036854775807) (h : (stepS b s).2.2 = 0) : stepS (b ++ m) s = stepS b s := by
 obtain ⟨w, n, h1, h2, h3, h4, h5⟩ := stepS_ok h;have h6 := nxtL_more m hb h1;unfold stepS;rw [h1, h6]
inductive Run (b : List UInt8) : Sc -> List Evt -> Sc -> Prop
 | nil (s : Sc) : Run b s [] s
 | cons {s s2 : Sc} {es : List Evt} (h : (stepS b s).2.2 = 0) (t : Run b (stepS b s).2.1 es s2) : Run b s ((stepS b s).1 :: es) s2
theorem Run.snoc {b : List UInt8} {s s2 : Sc} {es : List Evt} (h : Run b s es s2) (h2 : (stepS b s2).2.2 = 0) : Run b s (es ++ [(stepS b s2).1]) (stepS b s2).2.1 := by
 induction h with
 | nil s => exact .cons h2 (.nil _)
 | cons h t ih => exact .cons h (ih h2)
theorem Run.more {b : List UInt8} {s s2 : Sc} {es : List Evt} (m : List UInt8) (hb : (b.length : Int) <= 9223372036854775807) (h : Run b s es s2) : Run (b ++ m) s es s2 := by
 induction h with
 | nil s => exact .nil s
 | cons h t ih =>
  have e := stepS_more m hb h;have := Run.cons (b := b ++ m) (by rw [e]; exact h) (by rw [e]; exact ih)
  rw [e] at this;exact this
theorem Run.app {b : List UInt8} {s s2 s3 : Sc} {es fs : List Evt} (h : Run b s es s2) (g : Run b s2 fs s3) : Run b s (es ++ fs) s3 := by
 induction h with
 | nil s => exact g
 | cons h t ih => exact .cons h (ih g)
theorem Run.ok {b : List UInt8} {s s2 : Sc} {es : List Evt} (h : Run b s es s2) (hs : ScOk s) : ScOk s2 /\ s.a + (es.length : Int) <= s2.a := by
 induction h with
 | nil s => exact ⟨hs, by simp⟩
 | cons h t ih =>
  obtain ⟨h1, h2, h3⟩ := stepS_inv hs h;obtain ⟨h4, h5⟩ := ih h1;exact ⟨h4, by simp only [List.length_cons]; omega⟩
def wayE (b : List UInt8) : Nat -> Sc -> List Evt × Sc × Int
 | 0, s => ([], s, 0)
 | f + 1, s => if (stepS b s).2.2 ≠ 0 then ([], s, (stepS b s).2.2) else ((stepS b s).1 :: (wayE b f (stepS b s).2.1).1, (wayE b f (stepS b s).2.1).2)
theorem wayE_run {b : List UInt8} : ∀ (f : Nat) {s : Sc}, ScOk s -> (b.length : Int) - s.a < (f : Int) -> 0 <= s.a -> s.a <= (b.length : Int) -> Run b s (wayE b f s).1 (wayE b f s).2.1 /\ (stepS b (wayE b f s).2.1).2.2 ≠ 0 /\ (wayE b f s).2.2 = (stepS b (wayE b f s).2.1).2.2
 | 0, s, hs, hf, h0, h1 => by simp at hf; omega
 | f + 1, s, hs, hf, h0, h1 => by
  rw [wayE];by_cases h : (stepS b s).2.2 = 0
  . rw [if_neg (by simpa using h)]
    obtain ⟨g1, g2, g3⟩ := stepS_inv hs h;obtain ⟨k1, k2, k3⟩ := wayE_run f g1 (by omega) (by omega) g3
    exact ⟨.cons h k1, k2, k3⟩
  . rw [if_pos h];exact ⟨.nil _, h, rfl⟩
theorem Run.uniq {b : List UInt8} {s s1 s2 : Sc} {es fs : List Evt} (h : Run b s es s1) (g : Run b s fs s2) (he : (stepS b s1).2.2 ≠ 0) (hg : (stepS b s2).2.2 ≠ 0) : es = fs /\ s1 = s2 := by
 induction h generalizing fs s2 with
 | nil s =>
  cases g with
  | nil => exact ⟨rfl, rfl⟩
  | cons h t => exact absurd h he
 | cons h t ih =>
  cases g with
  | nil => exact absurd h hg
  | cons h' t' =>
   obtain ⟨e1, e2⟩ := ih t' he hg;exact ⟨by rw [e1], e2⟩
def evS : Evt := ⟨1, 1, [], [], [], chg0⟩
def evsL (b : List UInt8) : List Evt × Int × Int :=
 if b.length < 7 \/ b.take 7 ≠ start then ([], 0, 2)
 else (evS :: (wayE b (b.length + 1) sc0).1, (wayE b (b.length + 1) sc0).2.1.a,
  if (wayE b (b.length + 1) sc0).2.2 = 7 /\ (wayE b (b.length + 1) sc0).2.1.a = (b.length : Int) /\ 0 <= (wayE b (b.length + 1) sc0).2.1.x then 4 else (wayE b (b.length + 1) sc0).2.2)
theorem tbsB_nil : TbsB [] := ⟨⟨List.Pairwise.nil, fun t h => (by cases h)⟩, by decide⟩
theorem sc0_ok : ScOk sc0 := ⟨tbsB_nil, tbsB_nil, fun _ => rfl⟩
end Go.Proofs.YtcdkklgeepkopaaGreatDoorPg
namespace Go.Proofs.YtcdkklgeepkopaaGreatDoorPg
open Go Go.RowKit
variable {Q : V -> List O -> Prop}
theorem BlFrame_spec {b body : List UInt8} {f g : Bool} (hb : b.length <= 899999980) (ho : body.length <= 900000000) (hs : b.length + body.length <= 999999970) (h : Q (.ms 1 0 0 (b ++ frm body).length false) [.buf (bs (b ++ frm body))]) :
 ACall Tryz.prog 11 0 [.sl 1 (bs b) f, .sl 1 (bs body) g] [] Q := by
 refine by_body Tryz.func11 0 rfl (nbZ rfl) ?_;have hlo := bs_len body
 conv => whnf
 rw [hlo];refine .call [] 0 ⟨rfl, rfl, rfl⟩ (WNumber_spec (n := (body.length : Int)) (by omega) (by omega) (by omega) ?_)
 have hnl := numW_len' (body.length : Int);have hbl : (b ++ numW (body.length : Int)).length <= b.length + 10 := by rw [laZ]; omega
 unfold frm at h;rw [<- List.append_assoc] at h;generalize b ++ numW (body.length : Int) = B at *;have hlB := bs_len B
 conv => whnf
 refine .call [0] 1 ⟨rfl, rfl, rfl⟩ (ACall.eat hlB.symm rfl (CrPut_spec (b := B) (own := body) (by omega) (by omega) (by omega) ?_))
 generalize B ++ crcP body = C at *
 conv => whnf
 exact ⟨[1], rfl, h⟩
theorem evSt_sub : VSub (.agg [fI 1, fI 1, .str [], .nils, .nils, fI 0, .str [], .nils, fI 0, .str [], fI 0, .bool false]) (evA evS) :=
 .agg (.cons (.refl _) (.cons (.refl _) (.cons (.refl _) (.cons (nils_sl3 false) (.cons (nils_sl3 false) (.cons (.refl _) (.cons (.refl _) (.cons (nils_sl3 false) (VSubs.refl _)))))))))
theorem evS_may (l : List Tb) : MayI l evS := .num 1 1 rfl (by decide)
theorem BlNew_spec (h : Q (.ms 1 0 0 start.length false) [.buf (bs start)]) : ACall Tryz.prog 38 0 [] [] Q := by
 refine by_body Tryz.func38 0 rfl (nbZ rfl) ?_
 conv => whnf
 refine .call [] 0 ⟨rfl, rfl, rfl⟩ (ACall.args (.cons evSt_sub (.cons (nils_sl3 false) (VSubs.refl _))) (EvWrite_spec (e := evS) (l := []) tbsB_nil (evt0 _ _ _) ⟨⟨by decide, by decide⟩, fun v hv => by simp [evS] at hv, fun v hv => by simp [evS] at hv⟩ ?_))
 rw [(evS_may []).e, if_pos rfl, show evW evS = [1, 1] by decide +kernel]
 conv => whnf
 refine .call [] 0 ⟨rfl, rfl, rfl⟩ (ACall.args (.cons (VSub.nils 1 false) (VSubs.refl _)) (BlFrame_spec (b := []) (body := [1, 1]) (by simp) (by simp) (by simp) ?_))
 rw [List.nil_append, show frm [1, 1] = start from rfl]
 generalize start = st at *
 conv => whnf
 exact ⟨[0], rfl, h⟩
theorem numL_suf {s : List UInt8} (h : (numL s).2.2 = 0) : ∃ k, k <= s.length /\ (numL s).2.1 = s.drop k := by
 unfold numL at h ⊢;split at h
 . rename_i h1;rw [if_pos h1];split at h
   . rename_i h2;rw [if_pos h2];obtain ⟨k, g1, g2, g3⟩ := digF_suf 10 0 0 s h1;exact ⟨k, g1, g3⟩
   . simp at h
 . rename_i h1; exact absurd h h1
theorem nil_tup3 (a e : V) : VSub (.tup [.nils, a, e]) (.tup [.sl 1 (bs []) false, a, e]) := .tup (.cons (VSub.nils 1 false) (VSubs.refl _))
set_option maxHeartbeats 4000000 in
theorem BlNext_spec {b : List UInt8} {f : Bool} {a : Int} (hb : b.length <= 900000000) (h : Q (.tup [.sl 1 (bs (nxtL b a).1) false, fI (nxtL b a).2.1, fI (nxtL b a).2.2]) []) : ACall Tryz.prog 13 0 [.sl 1 (bs b) f, fI a] [] Q := by
 refine ACall.ret (by_body Tryz.func13 0 rfl (nbZ rfl) ?_);have hlb := bs_len b;unfold nxtL at h
 conv => whnf
 refine branch_i (fun c1 => ?_) (fun c1 => ?_) <;> try rw [c1] <;> conv => whnf
 . have c1' := dtZ c1;rw [if_pos (.inl c1')] at h;exact ⟨[], rfl, .sub _ _ (nil_tup3 _ _) (HSub.refl _) (.done [] rfl h)⟩
 have c1' := dfZ c1;refine branch_i (fun c2 => ?_) (fun c2 => ?_) <;> try rw [c2] <;> conv => whnf
 . have c2' := dtZ c2;rw [if_pos (.inr (by omega))] at h
   exact ⟨[], rfl, .sub _ _ (nil_tup3 _ _) (HSub.refl _) (.done [] rfl h)⟩
 have c2' := dfZ c2;rw [if_neg (by omega)] at h
 refine branch_i (fun c3 => ?_) (fun c3 => ?_) <;> try rw [c3] <;> conv => whnf
 . have c3' := dtZ c3;rw [if_pos (by omega)] at h
   exact ⟨[], rfl, .sub _ _ (nil_tup3 _ _) (HSub.refl _) (.done [] rfl h)⟩
 have c3' := dfZ c3;rw [if_neg (by omega)] at h
 obtain ⟨k, rfl⟩ : ∃ k : Nat, a = k := ⟨a.toNat, by omega⟩
 rw [Int.toNat_natCast] at h;refine ⟨⟨by omega, by omega⟩, ?_⟩
 rw [bs_drop, Int.toNat_natCast]
 conv => whnf
 refine .call [] 0 ⟨rfl, rfl, rfl⟩ (Read_spec ?_)
 conv => whnf
 refine .call [0] 1 ⟨rfl, rfl, rfl⟩ (Number_spec ?_);rw [show rNum (b.drop k) 0 = numL (b.drop k) from if_pos rfl]
 conv => whnf
 refine .call [0] 1 ⟨rfl, rfl, rfl⟩ (Errno_spec ?_)
 conv => whnf
 unfold nxtA at h;have hsuf := fun h => numL_suf (s := b.drop k) h
 have hnn := numL_nonneg (b.drop k);have hnm := numL_le (b.drop k);generalize (numL (b.drop k)).2.2 = e at *;generalize (numL (b.drop k)).2.1 = r at *;generalize (numL (b.drop k)).1 = n at *;refine branch_i (fun c4 => ?_) (fun c4 => ?_) <;> try rw [c4] <;> conv => whnf
 . have c4' : e ≠ 0 := by simpa using c4
   rw [if_pos c4'] at h;exact ⟨[], rfl, .sub _ _ (nil_tup3 _ _) (HSub.refl _) (.done [] rfl h)⟩
 have c4' : e = 0 := by simpa using c4
 rw [if_neg (by simpa using c4')] at h
 obtain ⟨j, hj, hrd⟩ := hsuf c4';rw [List.length_drop] at hj;have hrl : r.length = b.length - k - j := by rw [hrd, List.length_drop, List.length_drop]
 have hdr : b.drop (k + j) = r := by rw [hrd, List.drop_drop]
 obtain ⟨m, rfl⟩ : ∃ m : Nat, n = m := ⟨n.toNat, by omega⟩
 rw [Int.toNat_natCast] at h;refine .call [0] 1 ⟨rfl, rfl, rfl⟩ (Left_spec ?_)
 conv => whnf
 refine branch_i (fun c5 => ?_) (fun c5 => ?_) <;> try rw [c5] <;> conv => whnf
 . have c5' := dtZ c5;rw [if_pos (by omega)] at h
   exact ⟨[], rfl, .sub _ _ (nil_tup3 _ _) (HSub.refl _) (.done [] rfl h)⟩
 have c5' := dfZ c5;refine .call [0] 1 ⟨rfl, rfl, rfl⟩ (Left_spec ?_)
 conv => whnf
 rw [wrapL (n := (r.length : Int) - 4) (by omega)]
 refine branch_i (fun c6 => ?_) (fun c6 => ?_) <;> try rw [c6] <;> conv => whnf
 . have c6' := dtZ c6;rw [if_pos (by omega)] at h
   exact ⟨[], rfl, .sub _ _ (nil_tup3 _ _) (HSub.refl _) (.done [] rfl h)⟩
 have c6' := dfZ c6;rw [if_neg (by omega)] at h
 refine .call [0] 1 ⟨rfl, rfl, rfl⟩ (Left_spec ?_)
 conv => whnf
 have e1 : IntKind.i64.wrap (((bs b).length : Int) - (r.length : Int)) = ((k + j : Nat) : Int) := by rw [wrapL (by omega)]; omega
 have e2 : IntKind.i64.wrap (IntKind.i64.wrap (((k + j : Nat) : Int) + (m : Int)) + 4) = ((k + j + (m + 4) : Nat) : Int) := by rw [wrapL (n := ((k + j : Nat) : Int) + (m : Int)) (by omega), wrapL (by omega)]; omega
 rw [e1, e2];refine ⟨⟨by omega, by omega, by omega⟩, ?_⟩
 have e3 : List.drop (((k + j : Nat) : Int)).toNat (List.take (((k + j + (m + 4) : Nat) : Int)).toNat (bs b)) = bs (r.take (m + 4)) := by
  rw [Int.toNat_natCast, Int.toNat_natCast, bs_take, bs_drop, List.drop_take, hdr, show k + j + (m + 4) - (k + j) = m + 4 by omega]
 rw [e3]
 conv => whnf
 refine .pure (CrTake_spec (b := r.take (m + 4)) (by rw [List.length_take]; omega) ⟨rfl, ?_⟩)
 unfold tkL;have htl : (r.take (m + 4)).length = m + 4 := by rw [List.length_take]; omega
 have htt : (r.take (m + 4)).take (m + 4 - 4) = r.take m := by rw [List.take_take]; congr 1; omega
 rw [if_neg (by omega), htl, htt]
 by_cases hc : crcP (r.take m) = r.take (m + 4)
 . rw [if_pos hc] at h ⊢
   conv => whnf
   rw [e2];rw [show b.length - r.length + m + 4 = k + j + (m + 4) by omega] at h
   exact ⟨[], rfl, .done [] rfl h⟩
 . rw [if_neg hc] at h ⊢
   conv => whnf
   exact ⟨[], rfl, .sub _ _ (nil_tup3 _ _) (HSub.refl _) (.done [] rfl h)⟩
theorem R7Frame_spec {body : List UInt8} {g : Bool} (ho : body.length <= 899999970) (h : Q (.ms 1 0 0 (frm body).length false) [.buf (bs (frm body))]) :
 ACall Tryz.prog 12 0 [.sl 1 (bs body) g] [] Q := by
 refine by_body Tryz.func12 0 rfl (nbZ rfl) ?_;have hlo := bs_len body
 conv => whnf
 rw [hlo];refine .call [] 0 ⟨rfl, rfl, rfl⟩ (RWNumber_spec (n := (body.length : Int)) (by omega) (by omega) ?_)
 have hnl := numW_len' (body.length : Int);unfold frm at h;generalize numW (body.length : Int) = B at *;have hlB := bs_len B
 conv => whnf
 refine .call [0] 1 ⟨rfl, rfl, rfl⟩ (ACall.eat hlB.symm rfl (RCrPut_spec (b := B) (own := body) (by omega) (by omega) (by omega) ?_))
 generalize B ++ crcP body = C at *
 conv => whnf
 exact ⟨[1], rfl, h⟩
theorem R7New_spec (h : Q (.ms 1 0 0 start.length false) [.buf (bs start)]) : ACall Tryz.prog 16 0 [] [] Q := by
 refine by_body Tryz.func16 0 rfl (nbZ rfl) ?_
 conv => whnf
 refine .call [0] 1 ⟨rfl, rfl, rfl⟩ (ACall.eat (es := bs [1, 1]) (full := true) rfl rfl (R7Frame_spec (body := [1, 1]) (by simp) ?_))
 rw [show frm [1, 1] = start from rfl]
 generalize start = st at *
 conv => whnf
 exact ⟨[1], rfl, h⟩
set_option maxHeartbeats 4000000 in
theorem R7Next_spec {b : List UInt8} {f : Bool} {a : Int} (hb : b.length <= 900000000) (h : Q (.tup [.sl 1 (bs (nxtL b a).1) false, fI (nxtL b a).2.1, fI (nxtL b a).2.2]) []) : ACall Tryz.prog 44 0 [.sl 1 (bs b) f, fI a] [] Q := by
 refine ACall.ret (by_body Tryz.func44 0 rfl (nbZ rfl) ?_);have hlb := bs_len b;unfold nxtL at h
 conv => whnf
 refine branch_i (fun c1 => ?_) (fun c1 => ?_) <;> try rw [c1] <;> conv => whnf
 . have c1' := dtZ c1;rw [if_pos (.inl c1')] at h;exact ⟨[], rfl, .sub _ _ (nil_tup3 _ _) (HSub.refl _) (.done [] rfl h)⟩
 have c1' := dfZ c1;refine branch_i (fun c2 => ?_) (fun c2 => ?_) <;> try rw [c2] <;> conv => whnf
 . have c2' := dtZ c2;rw [if_pos (.inr (by omega))] at h
   exact ⟨[], rfl, .sub _ _ (nil_tup3 _ _) (HSub.refl _) (.done [] rfl h)⟩
 have c2' := dfZ c2;rw [if_neg (by omega)] at h
 refine branch_i (fun c3 => ?_) (fun c3 => ?_) <;> try rw [c3] <;> conv => whnf
 . have c3' := dtZ c3;rw [if_pos (by omega)] at h
   exact ⟨[], rfl, .sub _ _ (nil_tup3 _ _) (HSub.refl _) (.done [] rfl h)⟩
 have c3' := dfZ c3;rw [if_neg (by omega)] at h
 obtain ⟨k, rfl⟩ : ∃ k : Nat, a = k := ⟨a.toNat, by omega⟩
 rw [Int.toNat_natCast] at h;refine ⟨⟨by omega, by omega⟩, ?_⟩
 rw [bs_drop, Int.toNat_natCast]
 conv => whnf
 refine .call [0] 1 ⟨rfl, rfl, rfl⟩ (RNumber_spec ?_);rw [show rNum (b.drop k) 0 = numL (b.drop k) from if_pos rfl]
 unfold nxtA at h;have hsuf := fun h => numL_suf (s := b.drop k) h
 have hnn := numL_nonneg (b.drop k);have hnm := numL_le (b.drop k);generalize (numL (b.drop k)).2.2 = e at *;generalize (numL (b.drop k)).2.1 = r at *;generalize (numL (b.drop k)).1 = n at *;have hlr := bs_len r
 conv => whnf
 refine branch_i (fun c4 => ?_) (fun c4 => ?_) <;> try rw [c4] <;> conv => whnf
 . have c4' : e ≠ 0 := by simpa using c4
   rw [if_pos c4'] at h;refine ⟨List.range 8, by kernel_rfl, by kernel_rfl, ?_⟩
   repeat (conv => whnf
           refine ⟨rfl, ?_⟩)
   conv => whnf
   exact ⟨[], rfl, .sub _ _ (nil_tup3 _ _) (HSub.refl _) (.done [] rfl h)⟩
 have c4' : e = 0 := by simpa using c4
 rw [if_neg (by simpa using c4')] at h
 obtain ⟨j, hj, hrd⟩ := hsuf c4';rw [List.length_drop] at hj;have hrl : r.length = b.length - k - j := by rw [hrd, List.length_drop, List.length_drop]
 obtain ⟨m, rfl⟩ : ∃ m : Nat, n = m := ⟨n.toNat, by omega⟩
 rw [Int.toNat_natCast] at h;refine branch_i (fun c5 => ?_) (fun c5 => ?_) <;> try rw [c5] <;> conv => whnf
 . have c5' := dtZ c5;rw [if_pos (by omega)] at h
   exact ⟨[], rfl, .sub _ _ (nil_tup3 _ _) (HSub.refl _) (.done [] rfl h)⟩
 have c5' := dfZ c5;have e4 : IntKind.i64.wrap ((m : Int) + 4) = ((m + 4 : Nat) : Int) := by rw [wrapL (by omega)]; omega
 rw [e4];refine branch_i (fun c6 => ?_) (fun c6 => ?_) <;> try rw [c6] <;> conv => whnf
 . have c6' := dtZ c6;rw [if_pos (by omega)] at h
   exact ⟨[], rfl, .sub _ _ (nil_tup3 _ _) (HSub.refl _) (.done [] rfl h)⟩
 have c6' := dfZ c6;rw [if_neg (by omega)] at h
 rw [e4];refine ⟨⟨by omega, by omega⟩, ?_⟩
 rw [Int.toNat_natCast, bs_take]
 conv => whnf
 refine .pure (RCrTake_spec (b := r.take (m + 4)) (by rw [List.length_take]; omega) ⟨rfl, ?_⟩)
 unfold tkL;have htl : (r.take (m + 4)).length = m + 4 := by rw [List.length_take]; omega
 have htt : (r.take (m + 4)).take (m + 4 - 4) = r.take m := by rw [List.take_take]; congr 1; omega
 rw [if_neg (by omega), htl, htt]
 by_cases hc : crcP (r.take m) = r.take (m + 4)
 . rw [if_pos hc] at h ⊢
   conv => whnf
   have e2 : IntKind.i64.wrap (IntKind.i64.wrap (IntKind.i64.wrap (((bs b).length : Int) - ((bs r).length : Int)) + (m : Int)) + 4) = ((b.length - r.length + m + 4 : Nat) : Int) := by
    rw [wrapL (n := ((bs b).length : Int) - ((bs r).length : Int)) (by omega), wrapL (n := ((bs b).length : Int) - ((bs r).length : Int) + (m : Int)) (by omega), wrapL (by omega)]; omega
   rw [e2];exact ⟨[], rfl, .done [] rfl h⟩
 . rw [if_neg hc] at h ⊢
   conv => whnf
   exact ⟨[], rfl, .sub _ _ (nil_tup3 _ _) (HSub.refl _) (.done [] rfl h)⟩
end Go.Proofs.YtcdkklgeepkopaaGreatDoorPg
namespace Go.Proofs.YtcdkklgeepkopaaGreatDoorPg
open Go Go.RowKit
variable {Q : V -> List O -> Prop}
theorem prdR_T {b : List UInt8} {l : List Tb} (hl : TbsB l) (hb : b.length <= 1000000000) : EvtT (prdR b l).1 := by
 have hsl : (sB b 0).1.length <= b.length := (rByt_len b 0).1;unfold prdR;cases hp : prd b l with
 | none => exact evt0 _ _ _
 | some ev =>
  simp only;split
  . unfold prd at hp;split at hp
    . split at hp
      . rename_i hpe _;cases hp;exact pEv_T hl (by omega) hpe
      . cases hp
    . cases hp
  . exact evt0 _ _ _
theorem i64_wrap (n : Int) : I64 (IntKind.i64.wrap n) := by unfold I64; rw [IntKind.wrap_i64]; omega
theorem rowV_n (c : Col) (v : Val) (h : I64 v.n) : I64 (rowV c v).n := by
 unfold rowV;split
 . exact i64_0
 unfold goodV;split
 . show I64 (if _ then 0 else 1)
   split
   . exact i64_0
   . exact ⟨by decide, by decide⟩
 split
 . exact h
 split
 . exact i64_0
 split
 . exact i64_0
 . exact i64_0
theorem rowL_n {C : List Col} {vs : List Val} (h : ∀ v ∈ vs, I64 v.n) : ∀ v ∈ rowL C vs, I64 v.n := fun v hv => by
 obtain ⟨i, hi⟩ := List.mem_iff_getElem?.1 hv;have hlt := (liZ.1 hi).1;rw [rowL_len] at hlt;rw [rowL_get C vs (lgZ hlt)] at hi;cases hi;refine rowV_n _ _ ?_;rw [List.getD_eq_getElem?_getD];cases hq : vs[i]? with
 | none => exact i64_0
 | some x => exact h x (List.mem_of_getElem? hq)
theorem evn0 (k n : Int) (t : List UInt8) (h : I64 n) : EvtN ⟨k, n, t, [], [], chg0⟩ := ⟨h, fun v hv => by simp at hv, fun v hv => by simp at hv⟩
theorem evn6 (k n : Int) (c : Chg) (h : I64 n) : EvtN ⟨k, n, [], [], [], c⟩ := ⟨h, fun v hv => by simp at hv, fun v hv => by simp at hv⟩
theorem evn3 (k : Int) (t : List UInt8) (C : List Col) (vs : List Val) (h : ∀ v ∈ vs, I64 v.n) : EvtN ⟨k, 0, t, [], rowL C vs, chg0⟩ := ⟨i64_0, fun v hv => by simp at hv, rowL_n h⟩
theorem evn5 (k : Int) (t : List UInt8) (C : List Col) (vs : List Val) (m : Nat) (h : ∀ v ∈ vs, I64 v.n) : EvtN ⟨k, 0, t, (rowL C vs).take m, [], chg0⟩ := ⟨i64_0, fun v hv => rowL_n h v (List.mem_of_mem_take hv), fun v hv => by simp at hv⟩
theorem chgW_len {c : Chg} (h : ChgI c) : (chgW c).length <= 100000 := by
 have hb := h.b;have ht := txtW_len c.t;have h1 := hb.t;have h2 := hb.few;have h3 := cols_w hb.names;have h4 := colW_len hb.col;have h5 := txtW_len c.col.n;have h6 := hb.col;have hc16 : c.c.length <= 16 := by
  cases h with
  | cre t cc ks g1 g2 => exact (may_bd g2).2.2.2
  | drop t g1 => simp
  | add k t col g1 gk g2 => simp
  | cut t n g1 g2 => simp
 unfold chgW;rw [List.length_cons, laZ];split
 . simp only [List.length_cons]; omega
 split
 . omega
 split
 . omega
 . simp only [List.length_nil]; omega
theorem evW_len {e : Evt} {l : List Tb} (hl : TbsB l) (h : MayI l e) (hn : EvtN e) : (evW e).length <= 1000000 := by
 have hm := h.e;by_cases hr : rowK e.k = true
 . obtain ⟨ht, C, k, hf, h5, h3⟩ := ev_row hl hn hm hr;have hrk := rowK_is hr;have htl := txtW_len e.t;unfold evW;rw [if_neg (by omega)]
   by_cases k5 : e.k = 5
   . obtain ⟨_, _, hb⟩ := h5 k5;have := rowW_len hb;rw [if_pos k5, List.length_cons, laZ]; omega
   . obtain ⟨_, hb⟩ := h3 k5;have := rowW_len hb;rw [if_neg k5, if_pos (by omega), List.length_cons, laZ]; omega
 . have hr' := rowK_not (by simpa using hr)
   unfold evW;by_cases k6 : e.k = 6
   . rw [if_pos k6, List.length_cons];cases h with
     | ins k t a C K hk hf hfit => simp only at k6; omega
     | del t b C K hf hfit hlen => simp only at k6; omega
     | alt c hc => have := chgW_len hc; simp only; omega
     | num k n hk hn => have := numK_is hk; simp only at k6; omega
   . rw [if_neg k6, if_neg (by omega), if_neg (by omega), List.length_cons]
     have := numW_len e.n;omega
end Go.Proofs.YtcdkklgeepkopaaGreatDoorPg
namespace Go.Proofs.YtcdkklgeepkopaaGreatDoorPg
open Go Go.RowKit
variable {Q : V -> List O -> Prop}
def scO (b : List UInt8) (s : Sc) (num : Int) : O := .cells [.sl 1 (bs b) false, fI s.a, .sl 3 (tbs s.l) false, .sl 3 (tbs s.h) false, fI num, .bool (decide (0 <= s.x))]
theorem BlAt_spec {b : List UInt8} {s : Sc} {num : Int} (h : Q (fI s.a) [scO b s num]) : ACall Tryz.prog 21 1 [.ptr 0 0] [scO b s num] Q := by
 refine by_body Tryz.func21 1 rfl (nbZ rfl) ?_
 conv => whnf
 exact ⟨[0], rfl, h⟩
theorem BlOpen_spec {b : List UInt8} {s : Sc} {num : Int} (h : Q (.bool (decide (0 <= s.x))) [scO b s num]) : ACall Tryz.prog 22 1 [.ptr 0 0] [scO b s num] Q := by
 refine by_body Tryz.func22 1 rfl (nbZ rfl) ?_
 conv => whnf
 exact ⟨[0], rfl, h⟩
theorem find_self {l : List Tb} (hl : TbsB l) {i : Nat} {t : Tb} (h : l[i]? = some t) : findT l t.n = some (t.c, t.k) := by
 have hm : nw t ∈ nws l := List.mem_of_getElem? (nws_get h);obtain ⟨j, hj, hg⟩ := at_mem hl.ok.sorted hm;have hj' : atT l t.n = some j := hj;obtain ⟨u, hu, hun, _⟩ := atT_get hj';have hij : i = j := by
  rcases Nat.lt_trichotomy i j with hlt | he | hlt
  . have := sorted_get hl.ok.sorted hlt (nws_get h) hg;rw [less_irrefl] at this; cases this
  . exact he
  . have := sorted_get hl.ok.sorted hlt hg (nws_get h);rw [less_irrefl] at this; cases this
 subst hij;rw [h] at hu; cases hu;exact find_some hj' h
set_option maxHeartbeats 8000000 in
theorem BlTables_spec {b : List UInt8} {s : Sc} {num : Int} (hl : TbsB s.h) (h : Q (.sl 3 (tbs s.h) false) [scO b s num]) :
 ACall Tryz.prog 24 1 [.ptr 0 0] [scO b s num] Q := by
 refine ACall.ret (by_body Tryz.func24 1 rfl (nbZ rfl) ?_);have hlt := tbs_len s.h;have hfew := hl.few
 conv => whnf
 refine ⟨⟨[0, 3, 11, 12, 13], fun m ws H => ∃ i : Nat, ws = [.ptr 0 0, .ms 3 1 0 i false, .sl 3 (tbs s.h) false, fI (tbs s.h).length, fI i] /\ H = [scO b s num, .buf (tbs (s.h.take i))] /\ i <= s.h.length /\ m = s.h.length - i, ?_, ?_⟩⟩
 . refine .frz (s.h.length + 1) (.adopt (.sub _ _ (.cons (.refl _) (.cons (VSub.ms0 3 1 0 false) (VSubs.refl _))) (HSub.refl _) (.go [0, 1] rfl s.h.length (by omega) ⟨0, rfl, rfl, by omega, rfl⟩)))
 rintro m ws H ⟨i, rfl, rfl, hi, rfl⟩
 conv => whnf
 refine branch_i (fun c1 => ?_) (fun c1 => ?_) <;> try rw [c1] <;> conv => whnf
 rotate_left
 focus
  have c1' := dfZ c1;have : i = s.h.length := by omega
  subst this;rw [List.take_length];refine ⟨[0, 1], rfl, .frz 1 rfl ⟨by rw [hlt]; omega, trivial⟩ (.done [0] rfl ?_)⟩
  show Q (.sl 3 (List.take s.h.length (List.drop 0 (tbs s.h))) false) [scO b s num]
  rw [List.drop_zero, <- hlt, List.take_length];exact h
 have c1' := dtZ c1;have hlti : i < s.h.length := by omega
 have hg : s.h[i]? = some s.h[i] := lgZ hlti;have hfs := find_self hl hg;generalize s.h[i] = t at *;refine ⟨_, ⟨by omega, tbs_get hg⟩, ?_⟩
 conv => whnf
 refine ⟨List.range 13, by kernel_rfl, by kernel_rfl, ?_⟩
 conv => whnf
 refine .pure (EvFind_spec (l := s.h) (t := t.n) (by omega) hl.ok.sorted (fun x hx => by have := hl.cols x hx; omega) ⟨rfl, ?_⟩)
 rw [hfs]
 repeat (conv => whnf
         refine ⟨rfl, ?_⟩)
 conv => whnf
 have hsn : s.h.take (i + 1) = s.h.take i ++ [t] := by rw [List.take_add_one, hg]; rfl
 refine app_tb (X := s.h.take i) (w := t) (i := 1) (j := 4) rfl rfl (by rw [List.length_take]; omega) (by rw [List.length_take]; omega) ?_
 rw [<- hsn];have hln : (s.h.take (i + 1)).length = i + 1 := by rw [List.length_take]; omega
 rw [hln]
 conv => whnf
 refine .go [0, 5] rfl (s.h.length - (i + 1)) (by omega) ⟨i + 1, ?_, rfl, by omega, rfl⟩
 show [V.ptr 0 0, V.ms 3 1 0 (i + 1) false, .sl 3 (tbs s.h) false, fI (tbs s.h).length, V.int .i64 (IntKind.i64.wrap ((i : Int) + 1))] = _
 rw [wrapE (by omega)]; rfl
theorem copyH_of {l l' : List O} {K : List O -> Prop} (e : l = l') (h : K l') : copyH l K := by subst e; exact (copyH_iff _ _).2 h
theorem VSub.eq {a b : V} (e : a = b) : VSub a b := by subst e; exact .refl _
set_option maxHeartbeats 8000000 in
theorem BlScan_spec {b : List UInt8} {f : Bool} {a : Int} {l : List Tb} (hb0 : b ≠ []) (hb : b.length <= 900000000) (hl : TbsB l) (h : Q (.ptr 0 0) [scO b ⟨a, l, l, -1⟩ 0]) :
 ACall Tryz.prog 17 0 [.sl 1 (bs b) f, fI a, .sl 3 (tbs l) false] [] Q := by
 refine ACall.ret (by_body Tryz.func17 0 rfl (nbZ rfl) ?_);have hlb := bs_len b;have hlp : 0 < b.length := List.length_pos_iff.2 hb0
 conv => whnf
 refine ⟨⟨by omega, by omega, (show (((bs b).length : Int)).toNat * 1 <= 70368744177664 by omega)⟩, ?_⟩
 conv => whnf
 refine ⟨by omega, ?_⟩
 conv => whnf
 have hmin : min (bs b).length (bs b).length = (bs b).length := Nat.min_self _;refine ⟨by omega, ?_⟩
 refine ⟨by rw [List.length_replicate]; omega, ?_⟩
 have hE : List.take 0 (List.replicate (bs b).length [V.int .u8 0]) ++ List.take (min (bs b).length (bs b).length) (bs b) ++ List.drop (0 + min (bs b).length (bs b).length) (List.replicate (bs b).length [V.int .u8 0]) = bs b := by
  rw [hmin, List.take_zero, List.nil_append, List.take_length, List.drop_of_length_le (by rw [List.length_replicate]; omega), List.append_nil]
 refine copyH_of (congrArg (fun z => [O.buf z, _]) hE) ?_
 conv => whnf
 have hT : List.take (bs b).length (List.drop 0 (bs b)) = bs b := by rw [List.drop_zero, List.take_length]
 refine ACalls.frz 0 rfl rfl (by repeat (first | exact trivial | refine And.intro (by omega) ?_)) (ACalls.sub _ [.dead, scO b ⟨a, [], l, -1⟩ 0] rfl (VSubs.refl _) ?_ ?_)
 . exact .cons (.refl _) (.cons (.cells (.cons (VSub.eq (congrArg (fun z => V.sl 1 z false) hT)) (.cons (.refl _) (.cons (nils_sl3 false) (VSubs.refl _))))) (HSub.refl _))
 refine .call [1] 1 ⟨rfl, rfl, rfl⟩ (BlTables_spec (b := b) (s := ⟨a, [], l, -1⟩) (num := 0) hl ?_)
 conv => whnf
 exact ⟨[1], rfl, .done [0] rfl h⟩
def numOk (s : Sc) (num : Int) : Prop := 0 <= s.x -> num = s.x
theorem BlMay_spec {b : List UInt8} {s : Sc} {num : Int} {e : Evt} (hn : numOk s num) (h : Q (.bool (mayX s.x e)) [scO b s num]) : ACall Tryz.prog 42 1 [.ptr 0 0, evA e] [scO b s num] Q := by
 refine by_body Tryz.func42 1 rfl (nbZ rfl) ?_;unfold mayX at h;have hlt : decide (s.x < 0) = !decide (0 <= s.x) := by rcases Int.lt_or_le s.x 0 with hx | hx <;> simp [hx, Int.not_le.2, Int.not_lt.2]
 rw [hlt] at h;unfold numOk at hn;unfold scO at h ⊢;rcases Decidable.em (0 <= s.x) with hx | hx
 all_goals
  first | rw [decide_eq_true hx] at h ⊢ | rw [decide_eq_false hx] at h ⊢
  conv => whnf
  refine branch_i (fun c1 => ?_) (fun c1 => ?_) <;> try rw [c1] <;> conv => whnf
  . have c1' := dtZ c1;rw [if_pos (by omega)] at h
    exact ⟨[0], rfl, h⟩
  have c1' := dfZ c1;refine branch_i (fun c2 => ?_) (fun c2 => ?_) <;> try rw [c2] <;> conv => whnf
  . have c2' := dtZ c2;rw [if_pos (by omega)] at h
    exact ⟨[0], rfl, h⟩
  have c2' := dfZ c2;refine branch_i (fun c3 => ?_) (fun c3 => ?_) <;> try rw [c3] <;> conv => whnf
  . have c3' := dtZ c3;rw [if_pos (by omega)] at h
    exact ⟨[0], rfl, h⟩
  have c3' := dfZ c3;rw [if_neg (by omega)] at h
  refine branch_i (fun c7 => ?_) (fun c7 => ?_) <;> try rw [c7] <;> conv => whnf
  . have c7' := dtZ c7;rw [if_pos (.inl c7')] at h;refine ⟨List.range 14, by kernel_rfl, by kernel_rfl, ?_⟩
    conv => whnf
    first
     | (rw [<- hn hx] at h; exact ⟨[0], rfl, h⟩)
     | exact ⟨[0], rfl, h⟩
     | (try dsimp [mergeO, mapO, idx, renO, renV, renL, renE, fogOf, fogE, back, forget, gather, getO, setO, Nat.beq, List.drop, List.take, frzH, frzO, frzV, frzL, frzE]); trace_state; sorry
  have c7' := dfZ c7;refine branch_i (fun c8 => ?_) (fun c8 => ?_) <;> try rw [c8] <;> conv => whnf
  . have c8' := dtZ c8;rw [if_pos (.inr c8')] at h;refine ⟨List.range 14, by kernel_rfl, by kernel_rfl, ?_⟩
    conv => whnf
    first
     | (rw [<- hn hx] at h; exact ⟨[0], rfl, h⟩)
     | exact ⟨[0], rfl, h⟩
     | (try dsimp [mergeO, mapO, idx, renO, renV, renL, renE, fogOf, fogE, back, forget, gather, getO, setO, Nat.beq, List.drop, List.take, frzH, frzO, frzV, frzL, frzE]); trace_state; sorry
  have c8' := dfZ c8;rw [if_neg (by omega)] at h
  first
   | exact ⟨[0], rfl, h⟩
   | (try dsimp [mergeO, mapO, idx, renO, renV, renL, renE, fogOf, fogE, back, forget, gather, getO, setO, Nat.beq, List.drop, List.take, frzH, frzO, frzV, frzL, frzE]); trace_state; sorry
theorem BlTake_spec {b : List UInt8} {s : Sc} {num : Int} {e : Evt} (hs : ScOk s) (hn : numOk s num) (hen : e.k = 2 -> 0 <= e.n) (h : ∀ num', numOk (takeX s e s.a).1 num' -> Q (fI (takeX s e s.a).2) [scO b (takeX s e s.a).1 num']) :
 ACall Tryz.prog 43 1 [.ptr 0 0, evA e] [scO b s num] Q := by
 refine by_body Tryz.func43 1 rfl (nbZ rfl) ?_;unfold takeX at h
 conv => whnf
 refine branch_i (fun c2 => ?_) (fun c2 => ?_) <;> try rw [c2] <;> conv => whnf
 . have c2' := dtZ c2;rw [if_pos c2'] at h;have h' := h e.n (fun _ => rfl)
   unfold scO at h';simp only at h';rw [decide_eq_true (hen c2')] at h';refine ⟨List.range 10, by kernel_rfl, by kernel_rfl, ?_⟩
   repeat (conv => whnf
           refine ⟨rfl, ?_⟩)
   conv => whnf
   exact ⟨[0], rfl, h'⟩
 rw [if_neg (dfZ c2)] at h;refine branch_i (fun c7 => ?_) (fun c7 => ?_) <;> try rw [c7] <;> conv => whnf
 . rw [if_pos (dtZ c7)] at h;exact ⟨[0], rfl, h num (fun hx => by simp only at hx; omega)⟩
 rw [if_neg (dfZ c7)] at h;refine branch_i (fun c8 => ?_) (fun c8 => ?_) <;> try rw [c8] <;> conv => whnf
 . rw [if_pos (dtZ c8)] at h;exact ⟨[0], rfl, h num (fun hx => by simp only at hx; omega)⟩
 rw [if_neg (dfZ c8)] at h;refine branch_i (fun c6 => ?_) (fun c6 => ?_) <;> try rw [c6] <;> conv => whnf
 rotate_left
 . rw [if_neg (dfZ c6)] at h;exact ⟨[0], rfl, h num hn⟩
 rw [if_pos (dtZ c6)] at h;refine ⟨List.range 12, by kernel_rfl, by kernel_rfl, ?_⟩
 conv => whnf
 refine .pure (Follow_spec (l := s.h) (c := e.ch) hs.h ⟨rfl, ?_⟩);generalize folT s.h e.ch.k e.ch.t e.ch.c e.ch.ks e.ch.col = fo at *
 repeat (conv => whnf
         refine ⟨rfl, ?_⟩)
 conv => whnf
 refine branch_i (fun c1 => ?_) (fun c1 => ?_) <;> try rw [c1] <;> conv => whnf
 . have c1' : fo.2 ≠ 0 := by simpa using c1
   rw [if_pos c1'] at h;exact ⟨[0], rfl, h num hn⟩
 . have c1' : ¬ fo.2 ≠ 0 := by simpa using c1
   rw [if_neg c1'] at h;exact ⟨[0], rfl, h num hn⟩
end Go.Proofs.YtcdkklgeepkopaaGreatDoorPg
namespace Go.Proofs.YtcdkklgeepkopaaGreatDoorPg
open Go Go.RowKit
variable {Q : V -> List O -> Prop}
theorem nxtL_len (b : List UInt8) (a : Int) : (nxtL b a).1.length <= b.length := by
 by_cases h : (nxtL b a).2.2 = 0
 . obtain ⟨h0, r, hr, _⟩ := nxtL_ok (b := b) (a := a) (x := (nxtL b a).1) (n := (nxtL b a).2.1) (by rw [<- h])
   have := congrArg List.length hr;rw [List.length_drop, laZ, frm_len] at this;omega
 . rw [(nxtL_err b a h).1]; simp
theorem takeX_at (s : Sc) (e : Evt) (n m : Int) : (takeX s e n).2 = (takeX s e m).2 /\ ((takeX s e m).2 = 0 -> (takeX s e n).1 = ⟨n, (takeX s e m).1.l, (takeX s e m).1.h, (takeX s e m).1.x⟩) := by
 unfold takeX;split
 . exact ⟨rfl, fun _ => rfl⟩
 split
 . exact ⟨rfl, fun _ => rfl⟩
 split
 . exact ⟨rfl, fun _ => rfl⟩
 split
 . split
   . rename_i hx; exact ⟨rfl, fun h => absurd h hx⟩
   . exact ⟨rfl, fun _ => rfl⟩
 . exact ⟨rfl, fun _ => rfl⟩
set_option maxHeartbeats 8000000 in
theorem BlSNext_spec {b : List UInt8} {s : Sc} {num : Int} (hb : b.length <= 900000000) (hs : ScOk s) (hn : numOk s num) (h : ∀ num', numOk (stepS b s).2.1 num' -> Q (.tup [evA (stepS b s).1, fI (stepS b s).2.2]) [scO b (stepS b s).2.1 num']) :
 ACall Tryz.prog 18 1 [.ptr 0 0] [scO b s num] Q := by
 refine ACall.ret (by_body Tryz.func18 1 rfl (nbZ rfl) ?_);unfold stepS at h
 conv => whnf
 refine ⟨List.range 16, by kernel_rfl, by kernel_rfl, ?_⟩
 conv => whnf
 refine .pure (BlNext_spec (b := b) (a := s.a) hb ⟨rfl, ?_⟩);have hwl := nxtL_len b s.a;generalize nxtL b s.a = N at *;obtain ⟨w, n, f⟩ := N;simp only at h hwl
 repeat (conv => whnf
         refine ⟨rfl, ?_⟩)
 conv => whnf
 refine branch_i (fun c1 => ?_) (fun c1 => ?_) <;> try rw [c1] <;> conv => whnf
 . have c1' : f ≠ 0 := by simpa using c1
   rw [if_pos c1'] at h;exact ⟨[0], rfl, .sub _ _ (.tup (.cons (.agg (ev_subZ 0)) (VSubs.refl _))) (HSub.refl _) (.done [0] rfl (h num hn))⟩
 have c1' : ¬ f ≠ 0 := by simpa using c1
 rw [if_neg c1'] at h;unfold stepE at h;have hnum := prdR_num (b := w) (l := s.h);refine .pure (EvRead_spec (b := w) (l := s.h) hs.h (by omega) ⟨rfl, ?_⟩)
 generalize prdR w s.h = E at *;obtain ⟨e, g⟩ := E;simp only at h hnum
 conv => whnf
 refine branch_i (fun c2 => ?_) (fun c2 => ?_) <;> try rw [c2] <;> conv => whnf
 rotate_left
 . have c2' := dfZ c2;rw [if_pos c2'] at h;rw [decide_eq_false c2']
   conv => whnf
   rw [decide_eq_false c2']
   conv => whnf
   exact ⟨[0], rfl, .sub _ _ (.tup (.cons (.agg (ev_subZ 0)) (VSubs.refl _))) (HSub.refl _) (.done [0] rfl (h num hn))⟩
 have c2' := dtZ c2;rw [if_neg (by simpa using c2')] at h
 subst c2';refine .call [0] 1 ⟨rfl, rfl, rfl⟩ (BlMay_spec (b := b) (s := s) (num := num) (e := e) hn ?_)
 conv => whnf
 cases hm : mayX s.x e <;> rw [hm] at h
 . rw [if_pos rfl] at h
   conv => whnf
   exact ⟨[0], rfl, .sub _ _ (.tup (.cons (.agg (ev_subZ 0)) (VSubs.refl _))) (HSub.refl _) (.done [0] rfl (h num hn))⟩
 rw [if_neg (by decide)] at h
 conv => whnf
 obtain ⟨ta1, ta2⟩ := takeX_at s e n s.a;refine .call [0] 1 ⟨rfl, rfl, rfl⟩ (BlTake_spec (b := b) (s := s) (num := num) (e := e) hs hn (fun _ => hnum rfl) fun num' hn' => ?_)
 rw [ta1] at h;generalize hT : takeX s e s.a = T at *;obtain ⟨s', er⟩ := T;simp only at ta1 ta2 hn' h ⊢
 conv => whnf
 refine branch_i (fun c3 => ?_) (fun c3 => ?_) <;> try rw [c3] <;> conv => whnf
 . have c3' : er ≠ 0 := by simpa using c3
   rw [if_pos c3'] at h;have hs' : s' = s := by
    have : (takeX s e s.a).1 = s := by
     have h2 : (takeX s e s.a).2 ≠ 0 := by rw [hT]; exact c3'
     unfold takeX at h2 ⊢
     repeat' split at h2
     all_goals simp_all
    rw [hT] at this; exact this
   subst hs';exact ⟨[0], rfl, .sub _ _ (.tup (.cons (.agg (ev_subZ 0)) (VSubs.refl _))) (HSub.refl _) (.done [0] rfl (h num' hn'))⟩
 . have c3' : er = 0 := by simpa using c3
   rw [if_neg (by simpa using c3'), ta2 c3'] at h
   exact ⟨[0], rfl, .done [0] rfl (h num' hn')⟩
end Go.Proofs.YtcdkklgeepkopaaGreatDoorPg
namespace Go.Proofs.YtcdkklgeepkopaaGreatDoorPg
open Go Go.RowKit
variable {Q : V -> List O -> Prop}
def scA (s : Sc) : V := .agg [fI s.a, .sl 3 (tbs s.l) false, .sl 3 (tbs s.h) false, fI s.x]
def stR (r : Evt × Sc × Int) : V := .tup [evA r.1, scA r.2.1, fI r.2.2]
theorem z_stR (s : Sc) (er : Int) : VSub (.tup [.agg [fI 0, fI 0, .str [], .nils, .nils, fI 0, .str [], .nils, fI 0, .str [], fI 0, .bool false], scA s, fI er]) (stR (evtZ, s, er)) := .tup (.cons (.agg (ev_subZ 0)) (VSubs.refl _))
set_option maxHeartbeats 16000000 in
theorem R7Step_spec {b : List UInt8} {f : Bool} {s : Sc} (hb : b.length <= 900000000) (hs : ScOk s) (h : Q (stR (stepS b s)) []) : ACall Tryz.prog 19 0 [.sl 1 (bs b) f, scA s] [] Q := by
 refine ACall.ret (by_body Tryz.func19 0 rfl (nbZ rfl) ?_);unfold stepS at h
 conv => whnf
 refine .pure (R7Next_spec (b := b) (a := s.a) hb ⟨rfl, ?_⟩);have hwl := nxtL_len b s.a;generalize nxtL b s.a = N at *;obtain ⟨w, n, g⟩ := N;simp only at h hwl
 conv => whnf
 refine branch_i (fun c1 => ?_) (fun c1 => ?_) <;> try rw [c1] <;> conv => whnf
 . have c1' : g ≠ 0 := by simpa using c1
   rw [if_pos c1'] at h;refine ⟨List.range 6, by kernel_rfl, by kernel_rfl, ?_⟩
   repeat (conv => whnf
           refine ⟨rfl, ?_⟩)
   conv => whnf
   exact ⟨[], rfl, .sub _ _ (z_stR s g) (HSub.refl _) (.done [] rfl h)⟩
 have c1' : ¬ g ≠ 0 := by simpa using c1
 rw [if_neg c1'] at h;unfold stepE at h;refine .pure (R6Read_spec (b := w) (l := s.h) hs.h (by omega) ⟨rfl, ?_⟩)
 rw [<- reads_same hs.h (by omega)]
 generalize prdR w s.h = E at *;obtain ⟨e, g⟩ := E;simp only at h
 conv => whnf
 refine branch_i (fun c2 => ?_) (fun c2 => ?_) <;> try rw [c2] <;> conv => whnf
 . have c2' : g ≠ 0 := by simpa using c2
   rw [if_pos c2'] at h;refine ⟨List.range 6, by kernel_rfl, by kernel_rfl, ?_⟩
   repeat (conv => whnf
           refine ⟨rfl, ?_⟩)
   conv => whnf
   exact ⟨[], rfl, .sub _ _ (z_stR s g) (HSub.refl _) (.done [] rfl h)⟩
 have c2' : ¬ g ≠ 0 := by simpa using c2
 rw [if_neg c2'] at h;have bad : mayX s.x e = false -> Q (stR (evtZ, s, 14)) [] := fun hm => by rw [if_pos hm] at h; exact h
 have good : mayX s.x e = true -> (takeX s e n).2 = 0 -> Q (stR (e, (takeX s e n).1, 0)) [] := fun hm ht => by rw [if_neg (by rw [hm]; decide), if_neg (by rw [ht]; decide)] at h; exact h
 have fail : mayX s.x e = true -> (takeX s e n).2 ≠ 0 -> Q (stR (evtZ, s, (takeX s e n).2)) [] := fun hm ht => by rw [if_neg (by rw [hm]; decide), if_pos ht] at h; exact h
 have hlt : decide (s.x < 0) = !decide (0 <= s.x) := by rcases Int.lt_or_le s.x 0 with hx | hx <;> simp [hx, Int.not_le.2, Int.not_lt.2]
 refine branch_i (fun k1 => ?_) (fun k1 => ?_) <;> try rw [k1] <;> conv => whnf
 focus
  have k1' : e.k = 1 := dtZ k1;refine ⟨List.range 5, by kernel_rfl, by kernel_rfl, ?_⟩
  repeat (conv => whnf
          refine ⟨rfl, ?_⟩)
  conv => whnf
  exact ⟨[], rfl, .sub _ _ (z_stR s 14) (HSub.refl _) (.done [] rfl (bad (by unfold mayX; rw [if_neg (by omega), if_neg (by omega), decide_eq_true k1']; simp)))⟩
 have k1' : ¬ e.k = 1 := dfZ k1;refine branch_i (fun k2 => ?_) (fun k2 => ?_) <;> try rw [k2] <;> conv => whnf
 focus
  have k2' : e.k = 2 := dtZ k2;rcases Decidable.em (0 <= s.x) with hx | hx
  . rw [decide_eq_true hx]
    conv => whnf
    refine ⟨List.range 5, by kernel_rfl, by kernel_rfl, ?_⟩
    repeat (conv => whnf
            refine ⟨rfl, ?_⟩)
    conv => whnf
    exact ⟨[], rfl, .sub _ _ (z_stR s 14) (HSub.refl _) (.done [] rfl (bad (by unfold mayX; rw [if_pos (.inl k2'), hlt, decide_eq_true hx]; rfl)))⟩
  . rw [decide_eq_false hx]
    conv => whnf
    have gd := good (by unfold mayX; rw [if_pos (.inl k2'), hlt, decide_eq_false hx]; rfl) (by unfold takeX; rw [if_pos k2'])
    unfold takeX at gd;rw [if_pos k2'] at gd;refine ⟨List.range 5, by kernel_rfl, by kernel_rfl, ?_⟩
    repeat (conv => whnf
            refine ⟨rfl, ?_⟩)
    conv => whnf
    exact ⟨[], rfl, .done [] rfl gd⟩
 have k2' : ¬ e.k = 2 := dfZ k2;refine branch_i (fun k6 => ?_) (fun k6 => ?_) <;> try rw [k6] <;> conv => whnf
 focus
  have k6' : e.k = 6 := dtZ k6;rcases Decidable.em (0 <= s.x) with hx | hx
  . rw [decide_eq_true hx]
    conv => whnf
    have hm : mayX s.x e = true := by unfold mayX; rw [if_neg (by omega), if_neg (by omega), decide_eq_true hx, decide_eq_false k1']; rfl
    have ht : takeX s e n = (if (folT s.h e.ch.k e.ch.t e.ch.c e.ch.ks e.ch.col).2 ≠ 0 then (s, (folT s.h e.ch.k e.ch.t e.ch.c e.ch.ks e.ch.col).2) else (⟨n, s.l, (folT s.h e.ch.k e.ch.t e.ch.c e.ch.ks e.ch.col).1, s.x⟩, 0)) := by
     unfold takeX; rw [if_neg k2', if_neg (by omega), if_neg (by omega), if_pos k6']
    rw [ht] at good fail;refine .pure (RFollow_spec (l := s.h) (k := e.ch.k) (t := e.ch.t) (cs := e.ch.c) (ks := e.ch.ks) (c := e.ch.col) hs.h.few (fun x hx => (hs.h.ok.each x hx).sch) ⟨rfl, ?_⟩)
    generalize folT s.h e.ch.k e.ch.t e.ch.c e.ch.ks e.ch.col = fo at *
    conv => whnf
    refine branch_i (fun c3 => ?_) (fun c3 => ?_) <;> try rw [c3] <;> conv => whnf
    . have c3' : fo.2 ≠ 0 := by simpa using c3
      rw [if_pos c3'] at fail;refine ⟨List.range 6, by kernel_rfl, by kernel_rfl, ?_⟩
      repeat (conv => whnf
              refine ⟨rfl, ?_⟩)
      conv => whnf
      exact ⟨[], rfl, .sub _ _ (z_stR s fo.2) (HSub.refl _) (.done [] rfl (fail hm c3'))⟩
    . have c3' : ¬ fo.2 ≠ 0 := by simpa using c3
      rw [if_neg c3'] at good;refine ⟨List.range 5, by kernel_rfl, by kernel_rfl, ?_⟩
      repeat (conv => whnf
              refine ⟨rfl, ?_⟩)
      conv => whnf
      exact ⟨[], rfl, .done [] rfl (good hm rfl)⟩
  . rw [decide_eq_false hx]
    conv => whnf
    refine ⟨List.range 5, by kernel_rfl, by kernel_rfl, ?_⟩
    repeat (conv => whnf
            refine ⟨rfl, ?_⟩)
    conv => whnf
    exact ⟨[], rfl, .sub _ _ (z_stR s 14) (HSub.refl _) (.done [] rfl (bad (by unfold mayX; rw [if_neg (by omega), if_neg (by omega), decide_eq_false hx]; rfl)))⟩
 have k6' : ¬ e.k = 6 := dfZ k6;refine branch_i (fun k7 => ?_) (fun k7 => ?_) <;> try rw [k7] <;> conv => whnf
 focus
  have k7' : e.k = 7 := dtZ k7;rcases Decidable.em (0 <= s.x) with hx | hx
  . rw [decide_eq_true hx]
    conv => whnf
    rcases Decidable.em (e.n = s.x) with hy | hy
    . rw [decide_eq_true hy]
      conv => whnf
      have gd := good (by unfold mayX; rw [if_neg (by omega), if_pos (.inl k7'), decide_eq_true hx, decide_eq_true hy]; rfl) (by unfold takeX; rw [if_neg k2', if_pos k7'])
      unfold takeX at gd;rw [if_neg k2', if_pos k7'] at gd;refine ⟨List.range 5, by kernel_rfl, by kernel_rfl, ?_⟩
      repeat (conv => whnf
              refine ⟨rfl, ?_⟩)
      conv => whnf
      exact ⟨[], rfl, .done [] rfl gd⟩
    . rw [decide_eq_false hy]
      conv => whnf
      refine ⟨List.range 5, by kernel_rfl, by kernel_rfl, ?_⟩
      repeat (conv => whnf
              refine ⟨rfl, ?_⟩)
      conv => whnf
      exact ⟨[], rfl, .sub _ _ (z_stR s 14) (HSub.refl _) (.done [] rfl (bad (by unfold mayX; rw [if_neg (by omega), if_pos (.inl k7'), decide_eq_false hy]; simp)))⟩
  . rw [decide_eq_false hx]
    conv => whnf
    refine ⟨List.range 5, by kernel_rfl, by kernel_rfl, ?_⟩
    repeat (conv => whnf
            refine ⟨rfl, ?_⟩)
    conv => whnf
    exact ⟨[], rfl, .sub _ _ (z_stR s 14) (HSub.refl _) (.done [] rfl (bad (by unfold mayX; rw [if_neg (by omega), if_pos (.inl k7'), decide_eq_false hx]; rfl)))⟩
 have k7' : ¬ e.k = 7 := dfZ k7;refine branch_i (fun k8 => ?_) (fun k8 => ?_) <;> try rw [k8] <;> conv => whnf
 focus
  have k8' : e.k = 8 := dtZ k8;rcases Decidable.em (0 <= s.x) with hx | hx
  . rw [decide_eq_true hx]
    conv => whnf
    rcases Decidable.em (e.n = s.x) with hy | hy
    . rw [decide_eq_true hy]
      conv => whnf
      have gd := good (by unfold mayX; rw [if_neg (by omega), if_pos (.inr k8'), decide_eq_true hx, decide_eq_true hy]; rfl) (by unfold takeX; rw [if_neg k2', if_neg k7', if_pos k8'])
      unfold takeX at gd;rw [if_neg k2', if_neg k7', if_pos k8'] at gd;refine ⟨List.range 5, by kernel_rfl, by kernel_rfl, ?_⟩
      repeat (conv => whnf
              refine ⟨rfl, ?_⟩)
      conv => whnf
      exact ⟨[], rfl, .done [] rfl gd⟩
    . rw [decide_eq_false hy]
      conv => whnf
      refine ⟨List.range 5, by kernel_rfl, by kernel_rfl, ?_⟩
      repeat (conv => whnf
              refine ⟨rfl, ?_⟩)
      conv => whnf
      exact ⟨[], rfl, .sub _ _ (z_stR s 14) (HSub.refl _) (.done [] rfl (bad (by unfold mayX; rw [if_neg (by omega), if_pos (.inr k8'), decide_eq_false hy]; simp)))⟩
  . rw [decide_eq_false hx]
    conv => whnf
    refine ⟨List.range 5, by kernel_rfl, by kernel_rfl, ?_⟩
    repeat (conv => whnf
            refine ⟨rfl, ?_⟩)
    conv => whnf
    exact ⟨[], rfl, .sub _ _ (z_stR s 14) (HSub.refl _) (.done [] rfl (bad (by unfold mayX; rw [if_neg (by omega), if_pos (.inr k8'), decide_eq_false hx]; rfl)))⟩
 have k8' : ¬ e.k = 8 := dfZ k8;refine branch_i (fun k9 => ?_) (fun k9 => ?_) <;> try rw [k9] <;> conv => whnf
 focus
  have k9' : e.k = 9 := dtZ k9;rcases Decidable.em (0 <= s.x) with hx | hx
  . rw [decide_eq_true hx]
    conv => whnf
    refine ⟨List.range 5, by kernel_rfl, by kernel_rfl, ?_⟩
    repeat (conv => whnf
            refine ⟨rfl, ?_⟩)
    conv => whnf
    exact ⟨[], rfl, .sub _ _ (z_stR s 14) (HSub.refl _) (.done [] rfl (bad (by unfold mayX; rw [if_pos (by omega), hlt, decide_eq_true hx]; rfl)))⟩
  . rw [decide_eq_false hx]
    conv => whnf
    have gd := good (by unfold mayX; rw [if_pos (by omega), hlt, decide_eq_false hx]; rfl) (by unfold takeX; rw [if_neg (by omega), if_neg (by omega), if_neg (by omega), if_neg (by omega)])
    unfold takeX at gd;rw [if_neg (by omega), if_neg (by omega), if_neg (by omega), if_neg (by omega)] at gd
    refine ⟨List.range 5, by kernel_rfl, by kernel_rfl, ?_⟩
    repeat (conv => whnf
            refine ⟨rfl, ?_⟩)
    conv => whnf
    exact ⟨[], rfl, .done [] rfl gd⟩
 have k9' : ¬ e.k = 9 := dfZ k9;refine branch_i (fun ka => ?_) (fun ka => ?_) <;> try rw [ka] <;> conv => whnf
 focus
  have ka' : e.k = 10 := dtZ ka;rcases Decidable.em (0 <= s.x) with hx | hx
  . rw [decide_eq_true hx]
    conv => whnf
    refine ⟨List.range 5, by kernel_rfl, by kernel_rfl, ?_⟩
    repeat (conv => whnf
            refine ⟨rfl, ?_⟩)
    conv => whnf
    exact ⟨[], rfl, .sub _ _ (z_stR s 14) (HSub.refl _) (.done [] rfl (bad (by unfold mayX; rw [if_pos (by omega), hlt, decide_eq_true hx]; rfl)))⟩
  . rw [decide_eq_false hx]
    conv => whnf
    have gd := good (by unfold mayX; rw [if_pos (by omega), hlt, decide_eq_false hx]; rfl) (by unfold takeX; rw [if_neg (by omega), if_neg (by omega), if_neg (by omega), if_neg (by omega)])
    unfold takeX at gd;rw [if_neg (by omega), if_neg (by omega), if_neg (by omega), if_neg (by omega)] at gd
    refine ⟨List.range 5, by kernel_rfl, by kernel_rfl, ?_⟩
    repeat (conv => whnf
            refine ⟨rfl, ?_⟩)
    conv => whnf
    exact ⟨[], rfl, .done [] rfl gd⟩
 have ka' : ¬ e.k = 10 := dfZ ka;rcases Decidable.em (0 <= s.x) with hx | hx
 . rw [decide_eq_true hx]
   conv => whnf
   have gd := good (by unfold mayX; rw [if_neg (by omega), if_neg (by omega), decide_eq_true hx, decide_eq_false k1']; rfl) (by unfold takeX; rw [if_neg (by omega), if_neg (by omega), if_neg (by omega), if_neg (by omega)])
   unfold takeX at gd;rw [if_neg (by omega), if_neg (by omega), if_neg (by omega), if_neg (by omega)] at gd
   refine ⟨List.range 5, by kernel_rfl, by kernel_rfl, ?_⟩
   repeat (conv => whnf
           refine ⟨rfl, ?_⟩)
   conv => whnf
   exact ⟨[], rfl, .done [] rfl gd⟩
 . rw [decide_eq_false hx]
   conv => whnf
   refine ⟨List.range 5, by kernel_rfl, by kernel_rfl, ?_⟩
   repeat (conv => whnf
           refine ⟨rfl, ?_⟩)
   conv => whnf
   exact ⟨[], rfl, .sub _ _ (z_stR s 14) (HSub.refl _) (.done [] rfl (bad (by unfold mayX; rw [if_neg (by omega), if_neg (by omega), decide_eq_false hx]; rfl)))⟩
end Go.Proofs.YtcdkklgeepkopaaGreatDoorPg
namespace Go.Proofs.YtcdkklgeepkopaaGreatDoorPg
open Go Go.RowKit
variable {Q : V -> List O -> Prop}
def evs (l : List Evt) : List (List V) := l.map evC
theorem evs_len (l : List Evt) : (evs l).length = l.length := by simp [evs]
theorem evs_get {l : List Evt} {i : Nat} {e : Evt} (h : l[i]? = some e) : (evs l)[i]? = some (evC e) := by simp [evs, h]
theorem evs_app (a b : List Evt) : evs (a ++ b) = evs a ++ evs b := by simp [evs]
theorem app_evF {i j n : Nat} {f : Bool} {X : List (List V)} {w : Evt} {H : List O} {K : V -> List O -> Prop} (hij : Nat.beq i j = false) (hX : getO H i = .buf X) (hn : n = X.length) (hs : X.length <= 1000000000)
 (hK : copyH (setO H i .dead ++ [.buf (X ++ [evC w])]) fun H' => K (.ms 12 (setO H i .dead).length 0 (X ++ [evC w]).length false) H') :
 0 + 1 <= 1 /\ aapp 12 (tt 49).bytes (.ms 12 i 0 n false) (.ms 12 j 0 1 f) [evC w] H K := by
 subst hn;refine ⟨Nat.le_refl 1, ?_⟩;unfold aapp sameBuf;simp only [hij];unfold aappend;simp only [show Nat.beq 12 12 = true from rfl, hX, List.drop_zero]
 refine ⟨rfl, ?_⟩;unfold newBuf;exact ⟨by rw [laZ, List.length_singleton, show (tt 49).bytes = 168 from rfl]; omega, hK⟩
theorem app_evT {i j n : Nat} {f : Bool} {X : List (List V)} {w : Evt} {H : List O} {K : V -> List O -> Prop} (hij : Nat.beq i j = false) (hX : getO H i = .buf X) (hn : n = X.length) (hs : X.length <= 1000000000)
 (hK : copyH (H ++ [.buf (X ++ [evC w])]) fun H' => K (.ms 12 H.length 0 (X ++ [evC w]).length false) H') :
 0 + 1 <= 1 /\ aapp 12 (tt 49).bytes (.ms 12 i 0 n true) (.ms 12 j 0 1 f) [evC w] H K := by
 subst hn;refine ⟨Nat.le_refl 1, ?_⟩;unfold aapp sameBuf;simp only;unfold aappend;simp only [show Nat.beq 12 12 = true from rfl, hX, List.drop_zero]
 refine ⟨by omega, fun e => by simp at e, fun _ => ?_⟩
 rw [List.take_length];unfold newBuf;exact ⟨by rw [laZ, List.length_singleton, show (tt 49).bytes = 168 from rfl]; omega, hK⟩
def ev0 : List V := [fI 1, fI 1, .str [], .nils, .nils, fI 0, .str [], .nils, fI 0, .str [], fI 0, .bool false]
theorem ev0_sub : VSubs ev0 (evC evS) := .cons (.refl _) (.cons (.refl _) (.cons (.refl _) (.cons (nils_sl3 false) (.cons (nils_sl3 false) (.cons (.refl _) (.cons (.refl _) (.cons (nils_sl3 false) (VSubs.refl _))))))))
theorem VSub.slRows {z : Nat} {es es' : List (List V)} {f : Bool} (hl : es.length = es'.length) (h : ∀ (i : Nat) e e', es[i]? = some e -> es'[i]? = some e' -> VSubs e e') : VSub (.sl z es f) (.sl z es' f) := fun I ρ u hr => by
 have hex : ∀ i e', es'[i]? = some e' -> ∃ e, es[i]? = some e /\ VSubs e e' := fun i e' he' => by
  have hi := (liZ.1 he').1;exact ⟨es[i], lgZ (by omega), h i _ _ (lgZ (by omega)) he'⟩
 have hc : ∀ (i : Nat) e' (j : Nat) c', es'[i]? = some e' -> e'[j]? = some c' -> ∃ e c, es[i]? = some e /\ e[j]? = some c /\ VSub c c' := fun i e' j c' he' hc' => by
  obtain ⟨e, he, hv⟩ := hex i e' he';have hj := (liZ.1 hc').1;have hj' : j < e.length := by rw [hv.1]; exact hj
  exact ⟨e, e[j], he, lgZ hj', hv.2 j _ _ (lgZ hj') hc'⟩
 cases hr with
 | sl _ _ _ _ b base cap u h1 h2 h3 h4 h5 h6 =>
  rw [hl] at h1 h2 ⊢;refine .sl _ _ _ _ _ _ _ u h1 h2 (fun i e' he' => ?_) (fun i e' j c' he' hc' => ?_) (fun i e' j c' he' hc' => ?_) (fun i e' j c' he' hc' => ?_)
  . obtain ⟨e, he, hv⟩ := hex i e' he';rw [<- hv.1]; exact h3 i e he
  . obtain ⟨e, c, he, hc1, _⟩ := hc i e' j c' he' hc';exact h4 i e j c he hc1
  . obtain ⟨e, c, he, hc1, _⟩ := hc i e' j c' he' hc';exact h5 i e j c he hc1
  . obtain ⟨e, c, he, hc1, hv⟩ := hc i e' j c' he' hc';exact hv _ _ _ (h6 i e j c he hc1)
 | slnil =>
  have : es' = [] := List.length_eq_zero_iff.1 (by rw [<- hl]; rfl)
  subst this;exact .slnil _ _ _ _
theorem ev0_rows (l : List Evt) (f : Bool) : VSub (.sl 12 (ev0 :: evs l) f) (.sl 12 (evs (evS :: l)) f) := VSub.slRows (by rw [List.length_cons, evs_len, evs_len, List.length_cons]) fun i e e' h1 h2 => by
 cases i with
 | zero => simp [evs] at h1 h2; subst h1 h2; exact ev0_sub
 | succ i => simp [evs] at h1 h2; obtain ⟨x, hx, rfl⟩ := h1; obtain ⟨y, hy, rfl⟩ := h2; rw [hx] at hy; cases hy; exact VSubs.refl _
theorem start_len : start.length = 7 := by decide +kernel
theorem Run.le {b : List UInt8} {s s2 : Sc} {es : List Evt} (h : Run b s es s2) (hs : ScOk s) (ha : s.a <= (b.length : Int)) : s2.a <= (b.length : Int) := by
 induction h with
 | nil s => exact ha
 | cons h t ih => exact ih (stepS_inv hs h).1 (stepS_inv hs h).2.2
theorem evs_way {b : List UInt8} {pre : List Evt} {s : Sc} (hb7 : ¬ (b.length < 7 \/ b.take 7 ≠ start)) (h : Run b sc0 pre s) (he : (stepS b s).2.2 ≠ 0) :
 evsL b = (evS :: pre, s.a, if (stepS b s).2.2 = 7 /\ s.a = (b.length : Int) /\ 0 <= s.x then 4 else (stepS b s).2.2) := by
 rw [not_or] at hb7;obtain ⟨g1, g2, g3⟩ := wayE_run (b := b) (b.length + 1) sc0_ok (by show (b.length : Int) - 7 < _; omega) (by decide) (by show (7 : Int) <= _; omega)
 obtain ⟨e1, e2⟩ := h.uniq g1 he g2;unfold evsL;rw [if_neg (by rw [not_or]; exact hb7), g3, <- e2, <- e1]
def evR (r : List Evt × Int × Int) : V := .tup [.sl 12 (evs r.1) false, fI r.2.1, fI r.2.2]
theorem nil_evR (a e : Int) : VSub (.tup [.nils, fI a, fI e]) (evR ([], a, e)) := .tup (.cons (VSub.nils 12 false) (VSubs.refl _))
theorem ev_ret {pre : List Evt} {fl : Bool} {a er : Int} (h : Q (evR (evS :: pre, a, er)) []) : ARet 0 Q (.tup [.ms 12 0 0 (ev0 :: evs pre).length fl, fI a, fI er]) [.buf (ev0 :: evs pre)] := by
 refine .frz 0 rfl ⟨by omega, trivial⟩ (.sub (evR (evS :: pre, a, er)) [.dead] ?_ (HSub.refl _) (.done [] rfl h))
 refine .tup (.cons (fun I ρ u hr => ev0_rows pre false I ρ u (VSub.room _ _ fl I ρ u ?_)) (VSubs.refl _))
 have hr' : VRel I ρ (.sl 12 (List.take (ev0 :: evs pre).length (List.drop 0 (ev0 :: evs pre))) fl) u := hr;rw [List.drop_zero, List.take_length] at hr';exact hr'
set_option maxHeartbeats 16000000 in
theorem R7Events_gen {b : List UInt8} {f : Bool} (hb : b.length <= 900000000) (hs : evsL b = ([], 0, 2) -> ARet 0 Q (.tup [.nils, fI 0, fI 2]) []) (hf : ∀ pre a er fl, evsL b = (evS :: pre, a, er) -> ARet 0 Q (.tup [.ms 12 0 0 (ev0 :: evs pre).length fl, fI a, fI er]) [.buf (ev0 :: evs pre)]) : ACall Tryz.prog 26 0 [.sl 1 (bs b) f] [] Q := by
 refine ACall.ret (by_body Tryz.func26 0 rfl (nbZ rfl) ?_);have hlb := bs_len b
 conv => whnf
 refine .call [] 0 ⟨rfl, rfl, rfl⟩ (R7New_spec ?_);have hway := fun pre s => evs_way (b := b) (pre := pre) (s := s)
 have hsh : (b.length < 7 \/ b.take 7 ≠ start) -> evsL b = ([], 0, 2) := fun hh => by unfold evsL; rw [if_pos hh]
 have hsl := start_len;generalize start = st at *;have hls := bs_len st
 conv => whnf
 rw [hsl];refine ⟨List.range 13, by kernel_rfl, by kernel_rfl, ?_⟩
 conv => whnf
 refine branch_i (fun c1 => ?_) (fun c1 => ?_) <;> try rw [c1] <;> conv => whnf
 . have c1' := dtZ c1;exact ⟨[], rfl, hs (hsh (.inl (by omega)))⟩
 have c1' := dfZ c1;refine ⟨⟨by omega, by omega⟩, ?_⟩
 rw [bs_take]
 conv => whnf
 refine ⟨_, bytesOfEs_bs _, ?_⟩
 conv => whnf
 refine ⟨by omega, st, ?_, ?_⟩
 . rw [List.drop_zero, show List.take 7 (bs st) = bs st by rw [<- hsl, <- hls, List.take_length]]; exact bytesOfEs_bs _
 conv => whnf
 refine branch_i (fun c2 => ?_) (fun c2 => ?_) <;> try rw [c2] <;> conv => whnf
 . have c2' : List.take 7 b ≠ st := by simpa using c2
   exact ⟨[], rfl, hs (hsh (.inr c2'))⟩
 have c2' : List.take 7 b = st := by simpa using c2
 have hb7 : ¬ (b.length < 7 \/ b.take 7 ≠ st) := by rw [not_or]; exact ⟨by omega, by simpa using c2'⟩
 refine ⟨⟨[0, 7, 8], fun mm ws H => ∃ (fl : Bool) (pre : List Evt) (s : Sc), ws = [.sl 1 (bs b) f, .ms 12 0 0 (ev0 :: evs pre).length fl, .ptr 1 0] /\ H = [.buf (ev0 :: evs pre), .cells [fI s.a, .sl 3 (tbs s.l) false, .sl 3 (tbs s.h) false, fI s.x]] /\ Run b sc0 pre s /\ mm = (b.length - s.a).toNat, ?_, ?_⟩⟩
 . refine .frz (b.length + 1) (.sub _ [.dead, .buf (ev0 :: evs []), .cells [fI 7, .sl 3 (tbs []) false, .sl 3 (tbs []) false, fI (-1)]] (VSubs.refl _) ?_ (.go [1, 2] rfl (b.length - 7) (by omega) ⟨true, [], sc0, rfl, rfl, .nil _, ?_⟩))
   . exact .cons (.dead _) (.cons (.refl _) (.cons (.cells (.cons (.refl _) (.cons (nils_sl3 false) (.cons (nils_sl3 false) (VSubs.refl _))))) (HSub.refl _)))
   . show b.length - 7 = ((b.length : Int) - 7).toNat
     omega
 rintro mm ws H ⟨fl, pre, s, rfl, rfl, hrun, rfl⟩;obtain ⟨hsok, hsl7⟩ := hrun.ok sc0_ok;have hle := hrun.le sc0_ok (by show (7 : Int) <= _; omega)
 have hsa : (7 : Int) + pre.length <= s.a := hsl7
 conv => whnf
 refine .pure (R7Step_spec (b := b) (s := s) hb hsok ⟨rfl, ?_⟩);have hway' := hway pre s hb7 hrun;have hsn := fun h => hrun.snoc (s2 := s) h
 have hinv := fun h => stepS_inv (b := b) hsok h
 generalize stepS b s = R at *;obtain ⟨e, s', g⟩ := R;simp only at hway' hsn hinv
 conv => whnf
 have hel := evs_len pre;have hR : ∀ er, evsL b = (evS :: pre, s.a, er) -> ARet 0 Q (.tup [.ms 12 0 0 (ev0 :: evs pre).length fl, fI s.a, fI er]) [.buf (ev0 :: evs pre)] := fun er he => hf _ _ _ _ he
 refine branch_i (fun c3 => ?_) (fun c3 => ?_) <;> try rw [c3] <;> conv => whnf
 focus
  have c3' := dtZ c3;subst c3';have hw7 := hway' (by decide)
  refine branch_i (fun c4 => ?_) (fun c4 => ?_) <;> try rw [c4] <;> conv => whnf
  focus
   have c4' := dtZ c4;refine branch_i (fun c5 => ?_) (fun c5 => ?_) <;> try rw [c5] <;> conv => whnf
   . have c5' := dtZ c5;rw [if_pos ⟨rfl, by omega, c5'⟩] at hw7
     refine ⟨List.range 7, by kernel_rfl, by kernel_rfl, ?_⟩
     repeat (conv => whnf
             refine ⟨rfl, ?_⟩)
     conv => whnf
     exact ⟨[0], rfl, hR 4 hw7⟩
   . have c5' := dfZ c5;rw [if_neg (fun hh => c5' hh.2.2)] at hw7
     refine ⟨List.range 7, by kernel_rfl, by kernel_rfl, ?_⟩
     repeat (conv => whnf
             refine ⟨rfl, ?_⟩)
     conv => whnf
     exact ⟨[0], rfl, hR 7 hw7⟩
  . have c4' := dfZ c4;rw [if_neg (fun hh => c4' (by omega))] at hw7
    refine ⟨List.range 7, by kernel_rfl, by kernel_rfl, ?_⟩
    repeat (conv => whnf
            refine ⟨rfl, ?_⟩)
    conv => whnf
    exact ⟨[0], rfl, hR 7 hw7⟩
 have c3' := dfZ c3;refine branch_i (fun c4 => ?_) (fun c4 => ?_) <;> try rw [c4] <;> conv => whnf
 . have c4' : g ≠ 0 := by simpa using c4
   have hw := hway' c4';rw [if_neg (fun hh => c3' hh.1)] at hw
   refine ⟨List.range 7, by kernel_rfl, by kernel_rfl, ?_⟩
   repeat (conv => whnf
           refine ⟨rfl, ?_⟩)
   conv => whnf
   exact ⟨[0], rfl, hR g hw⟩
 have c4' : g = 0 := by simpa using c4
 obtain ⟨i1, i2, i3⟩ := hinv c4';have hsn' := hsn c4';have hcat : ev0 :: evs pre ++ [evC e] = ev0 :: evs (pre ++ [e]) := by rw [evs_app]; rfl
 cases fl with
 | true =>
  refine app_evT (i := 0) (j := 4) (X := ev0 :: evs pre) (w := e) rfl rfl rfl (by simp only [List.length_cons]; omega) ?_
  rw [hcat]
  conv => whnf
  exact .go [5, 1] rfl (b.length - s'.a).toNat (by omega) ⟨false, pre ++ [e], s', rfl, rfl, hsn', rfl⟩
 | false =>
  refine app_evF (i := 0) (j := 4) (X := ev0 :: evs pre) (w := e) rfl rfl rfl (by simp only [List.length_cons]; omega) ?_
  rw [hcat]
  conv => whnf
  exact .go [5, 1] rfl (b.length - s'.a).toNat (by omega) ⟨false, pre ++ [e], s', rfl, rfl, hsn', rfl⟩
theorem R7EventsM_spec {b : List UInt8} {f : Bool} (hb : b.length <= 900000000) {pre : List Evt} {a er : Int} (he : evsL b = (evS :: pre, a, er)) (h : ∀ fl, Q (.tup [.ms 12 0 0 (ev0 :: evs pre).length fl, fI a, fI er]) [.buf (ev0 :: evs pre)]) : ACall Tryz.prog 26 0 [.sl 1 (bs b) f] [] Q :=
 R7Events_gen hb (fun he' => by rw [he] at he'; simp at he') (fun pre2 a2 er2 fl he' => by
  rw [he] at he';cases he';exact .done [0] rfl (h fl))
end Go.Proofs.YtcdkklgeepkopaaGreatDoorPg
namespace Go.Proofs.YtcdkklgeepkopaaGreatDoorPg
open Go Go.RowKit
variable {Q : V -> List O -> Prop}
def YieldT (P : Program) (ks : List Pl) (J : List (List V) -> List O -> Prop) (L : List (List V)) : Prop :=
 ∀ pre x post B, pre ++ x :: post = L -> AYield P 1 (.yld 0 :: x) [.res (packR (J pre) ks B) B] fun r H' => ∃ B', r = .bool true /\ H' = [.res (packR (J (pre ++ [x])) ks B') B']
theorem yieldT_intro {P : Program} {ks : List Pl} {J : List (List V) -> List O -> Prop} {L : List (List V)} (hL : ∀ x ∈ L, ∀ a ∈ x, ClosedV a)
 (h : ∀ pre x post Hs, pre ++ x :: post = L -> J pre Hs -> AYield P ks.length (.yld 0 :: x) Hs fun r Hs' => r = .bool true /\ J (pre ++ [x]) Hs') : YieldT P ks J L :=
 fun pre x post B hp => packed_yieldC (hL x (by rw [<- hp]; simp)) (fun Hs hJ => h pre x post Hs hp hJ) fun r Hs B' hr => by
  obtain ⟨rfl, h1⟩ := hr;exact ⟨⟨_, rfl⟩, _, h1, B', rfl, rfl⟩
theorem BlAll_spec {b : List UInt8} {s : Sc} {num e : Int} (h : Q (.fn (.func 84) [] [.ptr 2 0, .ptr 3 0]) [scO b s num, .cells [fI e], .cells [.ptr 0 0], .cells [.ptr 1 0]]) :
 ACall Tryz.prog 51 2 [.ptr 0 0, .ptr 1 0] [scO b s num, .cells [fI e]] Q := by
 refine by_body Tryz.func51 2 rfl (nbZ rfl) ?_
 conv => whnf
 exact ⟨[0, 1, 2, 3], rfl, h⟩
def evA1 (e : Evt) : List V := [evA e]
theorem BlAll1_spec {b : List UInt8} {s0 : Sc} {num0 e0 : Int} {es : List Evt} {s1 : Sc} {J : List (List V) -> List O -> Prop} {ks : List Pl} {B : List Nat}
 (hb : b.length <= 900000000) (hs : ScOk s0) (ha : s0.a <= (b.length : Int)) (ha0 : 0 <= s0.a) (hn : numOk s0 num0) (hrun : Run b s0 es s1) (hend : (stepS b s1).2.2 ≠ 0)
 (hy : YieldT Tryz.prog ks J (es.map evA1))
 (h : ∀ B' num1, numOk s1 num1 -> Q (.tup []) [.res (packR (J (es.map evA1)) ks B') B', scO b s1 num1, .cells [fI (stepS b s1).2.2], .cells [.ptr 1 0], .cells [.ptr 2 0]]) :
 ACall Tryz.prog 84 5 [.yld 0, .ptr 3 0, .ptr 4 0] [.res (packR (J []) ks B) B, scO b s0 num0, .cells [fI e0], .cells [.ptr 1 0], .cells [.ptr 2 0]] Q := by
 refine by_body Tryz.func84 5 rfl (nbZ rfl) ?_
 conv => whnf
 refine ⟨⟨[0, 1, 2], fun mm ws H => ∃ (pre : List Evt) (s : Sc) (num e : Int) (B : List Nat), ws = [.yld 0, .ptr 3 0, .ptr 4 0] /\ H = [.res (packR (J (pre.map evA1)) ks B) B, scO b s num, .cells [fI e], .cells [.ptr 1 0], .cells [.ptr 2 0]] /\ Run b s0 pre s /\ numOk s num /\ mm = (b.length - s.a).toNat,
  .at (b.length - s0.a).toNat ⟨[], s0, num0, e0, B, rfl, rfl, .nil _, hn, rfl⟩, ?_⟩⟩
 rintro mm ws H ⟨pre, s, num, e, B, rfl, rfl, hr, hnum, rfl⟩;obtain ⟨hsok, hsl⟩ := hr.ok hs;have hle := hr.le hs ha
 conv => whnf
 refine .call [1] 1 ⟨rfl, rfl, rfl⟩ (BlSNext_spec (b := b) (s := s) (num := num) hb hsok hnum fun num' hn' => ?_)
 have hsn := fun h => hr.snoc (s2 := s) h
 have hinv := fun h => stepS_inv (b := b) hsok h
 have herr := fun h => stepS_err (b := b) (s := s) h
 have hst : (stepS b s).2.2 ≠ 0 -> es = pre /\ s1 = s := fun hne => hrun.uniq hr hend hne
 have hyes : (stepS b s).2.2 = 0 -> ∃ post, pre ++ (stepS b s).1 :: post = es := fun h0 => by
  obtain ⟨g1, g2, g3⟩ := stepS_inv hsok h0;obtain ⟨k1, k2, k3⟩ := wayE_run (b := b) (b.length + 1) g1 (by omega) (by omega) g3
  obtain ⟨u1, _⟩ := ((hr.snoc h0).app k1).uniq hrun k2 hend;exact ⟨_, by rw [<- u1, List.append_assoc]; rfl⟩
 have hse := fun (e : s1 = s) => (show (stepS b s1).2.2 = (stepS b s).2.2 by rw [e])
 generalize hR : stepS b s = R at *;obtain ⟨ev, s', g⟩ := R;simp only at hsn hinv herr hst hyes hn' hse
 conv => whnf
 refine branch_i (fun c1 => ?_) (fun c1 => ?_) <;> try rw [c1] <;> conv => whnf
 . have c1' : g ≠ 0 := by simpa using c1
   obtain ⟨rfl, rfl⟩ := hst c1';obtain ⟨_, rfl⟩ := herr c1';have h' := h B num' hn';rw [hR] at h';exact ⟨[0, 1, 2, 3, 4], rfl, h'⟩
 have c1' : g = 0 := by simpa using c1
 obtain ⟨post, hp⟩ := hyes c1';obtain ⟨i1, i2, i3⟩ := hinv c1';refine .call [0] 1 ⟨rfl, rfl, rfl⟩ (AYield.mono (hy (pre.map evA1) (evA1 ev) (post.map evA1) B (by rw [<- hp]; simp)) ?_)
 rintro r H' ⟨B2, rfl, rfl⟩
 conv => whnf
 refine .go [0, 1, 2, 3, 4] rfl (b.length - s'.a).toNat (by omega) ⟨pre ++ [ev], s', num', g, B2, rfl, ?_, hsn c1', hn', rfl⟩
 show _ = [O.res (packR (J ((pre ++ [ev]).map evA1)) ks B2) B2, scO b s' num', .cells [fI g], .cells [.ptr 1 0], .cells [.ptr 2 0]]
 rw [List.map_append];rfl
def evJ (c : LoopC) (pre : List (List V)) (Hs : List O) : Prop :=
 ∃ (l : List Evt) (fl : Bool), pre = l.map evA1 /\ Hs = [.loop c .ready [(6, .ptr 1 0)], .cells [.ms 12 2 0 (ev0 :: evs l).length fl], .buf (ev0 :: evs l)]
theorem evA1_inj {l m : List Evt} (h : l.map evA1 = m.map evA1) : evs l = evs m := by
 unfold evs;have := congrArg (fun x => x.map fun y => match y with | [.agg c] => c | _ => []) h
 simp only [List.map_map] at this;exact this
set_option maxHeartbeats 16000000 in
theorem BlEvents_spec {b : List UInt8} {f : Bool} (hb : b.length <= 900000000) (h : Q (evR (evsL b)) []) : ACall Tryz.prog 25 0 [.sl 1 (bs b) f] [] Q := by
 refine ACall.ret (by_body Tryz.func25 0 rfl (nbZ rfl) ?_);have hlb := bs_len b
 conv => whnf
 refine .call [] 0 ⟨rfl, rfl, rfl⟩ (BlNew_spec ?_);have hway := fun pre s => evs_way (b := b) (pre := pre) (s := s)
 have hsh : (b.length < 7 \/ b.take 7 ≠ start) -> evsL b = ([], 0, 2) := fun hh => by unfold evsL; rw [if_pos hh]
 have hsl := start_len;generalize start = st at *;have hls := bs_len st
 conv => whnf
 refine ⟨List.range 15, by kernel_rfl, by kernel_rfl, ?_⟩
 conv => whnf
 rw [hsl];refine branch_i (fun c1 => ?_) (fun c1 => ?_) <;> try rw [c1] <;> conv => whnf
 . have c1' := dtZ c1;rw [hsh (.inl (by omega))] at h
   exact ⟨[], rfl, .sub _ _ (nil_evR _ _) (HSub.refl _) (.done [] rfl h)⟩
 have c1' := dfZ c1;refine ⟨⟨by omega, by omega⟩, ?_⟩
 rw [bs_take]
 conv => whnf
 refine ⟨_, bytesOfEs_bs _, ?_⟩
 conv => whnf
 refine ⟨by omega, st, ?_, ?_⟩
 . rw [List.drop_zero, show List.take 7 (bs st) = bs st by rw [<- hsl, <- hls, List.take_length]]; exact bytesOfEs_bs _
 conv => whnf
 refine branch_i (fun c2 => ?_) (fun c2 => ?_) <;> try rw [c2] <;> conv => whnf
 . have c2' : List.take 7 b ≠ st := by simpa using c2
   rw [hsh (.inr c2')] at h;exact ⟨[], rfl, .sub _ _ (nil_evR _ _) (HSub.refl _) (.done [] rfl h)⟩
 have c2' : List.take 7 b = st := by simpa using c2
 have hb7 : ¬ (b.length < 7 \/ b.take 7 ≠ st) := by rw [not_or]; exact ⟨by omega, by simpa using c2'⟩
 obtain ⟨w1, w2, w3⟩ := wayE_run (b := b) (b.length + 1) sc0_ok (by show (b.length : Int) - 7 < _; omega) (by decide) (by show (7 : Int) <= _; omega)
 generalize (wayE b (b.length + 1) sc0).1 = es at *;generalize (wayE b (b.length + 1) sc0).2.1 = s1 at *;have hfin := hway es s1 hb7 w1 w2;rw [hfin] at h;have hle := w1.le sc0_ok (by show (7 : Int) <= _; omega)
 obtain ⟨hsok, hlen7⟩ := w1.ok sc0_ok;have hel : (es.length : Int) + 7 <= s1.a := by have : (7 : Int) + es.length <= s1.a := hlen7; omega
 refine .call [] 0 ⟨rfl, rfl, rfl⟩ (ACall.args (.cons (.refl _) (.cons (.refl _) (.cons (nils_sl3 false) (VSubs.refl _)))) (BlScan_spec (b := b) (a := 7) (l := []) (fun e => hb7 (.inl (by rw [e]; decide))) hb tbsB_nil ?_))
 conv => whnf
 refine .call [3, 4] 2 ⟨rfl, rfl, rfl⟩ (BlAll_spec (b := b) (s := sc0) (num := 0) (e := 0) ?_)
 conv => whnf
 refine ⟨[6], fun c hc => .pack [7, 2, 1] [3, 4, 5, 6] 2 (evJ c []) (evJ c (es.map evA1)) rfl ⟨[], true, rfl, rfl⟩ fun ks B hks => ?_⟩
 refine BlAll1_spec (b := b) (s0 := sc0) (num0 := 0) (e0 := 0) (es := es) (s1 := s1) (J := evJ c) hb sc0_ok (by show (7 : Int) <= _; omega) (by decide) (fun hx => by simp [sc0] at hx) w1 w2 (yieldT_intro ?_ ?_) ?_
 . intro x hx a ha;obtain ⟨e, _, rfl⟩ := List.mem_map.1 hx;simp only [evA1, List.mem_singleton] at ha;subst ha;exact ClosedV.agg rfl
 . rintro pre x post Hs hp ⟨l, fl, rfl, rfl⟩;obtain ⟨e, rfl⟩ : ∃ e, x = evA1 e := by
    have hx : x ∈ es.map evA1 := by rw [<- hp]; simp
    obtain ⟨e, _, rfl⟩ := List.mem_map.1 hx;exact ⟨e, rfl⟩
   have hll : l.length < es.length := by have := congrArg List.length hp; simp at this; omega
   have hl1 := evs_len l;rw [hks];subst hc;refine ayield_intro (cx_ok 0 0) ?_;have hcat : ev0 :: evs l ++ [evC e] = ev0 :: evs (l ++ [e]) := by rw [evs_app]; rfl
   conv => whnf
   cases fl with
   | true =>
    refine app_evT (i := 2) (j := 4) (X := ev0 :: evs l) (w := e) rfl rfl rfl (by simp only [List.length_cons]; omega) ?_
    rw [hcat]
    conv => whnf
    exact .done [0, 1, 5] rfl ⟨rfl, l ++ [e], false, by simp, rfl⟩
   | false =>
    refine app_evF (i := 2) (j := 4) (X := ev0 :: evs l) (w := e) rfl rfl rfl (by simp only [List.length_cons]; omega) ?_
    rw [hcat]
    conv => whnf
    exact .done [0, 1, 5] rfl ⟨rfl, l ++ [e], false, by simp, rfl⟩
 . intro B' num1 hn1;refine ⟨B', _, rfl, rfl, ?_⟩;rintro Hs ⟨l, fl, hl, rfl⟩ _;have hle2 := evA1_inj hl;rw [<- hle2];generalize (stepS b s1).2.2 = g at *
   conv => whnf
   have h0 := h;clear h;refine branch_i (fun c3 => ?_) (fun c3 => ?_) <;> try rw [c3] <;> conv => whnf
   focus
    have c3' := dtZ c3;subst c3';refine .call [3] 1 ⟨rfl, rfl, rfl⟩ (BlOpen_spec (b := b) (s := s1) (num := num1) ?_)
    conv => whnf
    refine branch_i (fun c4 => ?_) (fun c4 => ?_) <;> try rw [c4] <;> conv => whnf
    focus
     have c4' := dtZ c4;refine .call [3] 1 ⟨rfl, rfl, rfl⟩ (BlAt_spec (b := b) (s := s1) (num := num1) ?_)
     conv => whnf
     refine branch_i (fun c5 => ?_) (fun c5 => ?_) <;> try rw [c5] <;> conv => whnf
     . have c5' := dtZ c5;have h := h0;rw [if_pos ⟨rfl, by omega, c4'⟩] at h
       refine ⟨[0, 1, 3, 2, 4, 5, 6], by kernel_rfl, by kernel_rfl, ?_⟩
       conv => whnf
       refine .call [3] 1 ⟨rfl, rfl, rfl⟩ (BlAt_spec ?_)
       repeat (conv => whnf
               refine ⟨rfl, ?_⟩)
       conv => whnf
       exact ⟨[1], rfl, ev_ret h⟩
     . have c5' := dfZ c5;have h := h0;rw [if_neg (fun hh => c5' (by omega))] at h
       refine ⟨[0, 1, 3, 2, 4, 5, 6], by kernel_rfl, by kernel_rfl, ?_⟩
       conv => whnf
       refine .call [3] 1 ⟨rfl, rfl, rfl⟩ (BlAt_spec ?_)
       repeat (conv => whnf
               refine ⟨rfl, ?_⟩)
       conv => whnf
       exact ⟨[1], rfl, ev_ret h⟩
    have c4' := dfZ c4;have h := h0;rw [if_neg (fun hh => c4' hh.2.2)] at h
    refine ⟨[0, 1, 3, 2, 4, 5, 6], by kernel_rfl, by kernel_rfl, ?_⟩
    conv => whnf
    refine .call [3] 1 ⟨rfl, rfl, rfl⟩ (BlAt_spec ?_)
    repeat (conv => whnf
            refine ⟨rfl, ?_⟩)
    conv => whnf
    exact ⟨[1], rfl, ev_ret h⟩
   have c3' := dfZ c3;have h := h0;rw [if_neg (fun hh => c3' hh.1)] at h
   refine ⟨[0, 1, 3, 2, 4, 5, 6], by kernel_rfl, by kernel_rfl, ?_⟩
   conv => whnf
   refine .call [3] 1 ⟨rfl, rfl, rfl⟩ (BlAt_spec ?_)
   repeat (conv => whnf
           refine ⟨rfl, ?_⟩)
   conv => whnf
   exact ⟨[1], rfl, ev_ret h⟩
end Go.Proofs.YtcdkklgeepkopaaGreatDoorPg
namespace Go.Proofs.YtcdkklgeepkopaaGreatDoorPg
open Go Go.RowKit
variable {Q : V -> List O -> Prop}
theorem evs_start : evsL start = ([evS], 7, 7) := by
 have hl := start_len;have hst : (stepS start sc0).2.2 = 7 := by
  have hn : nxtL start sc0.a = ([], 7, 7) := by
   unfold nxtL;rw [hl]; rfl
  unfold stepS;rw [hn]; rfl
 have := evs_way (b := start) (pre := []) (s := sc0) (by rw [not_or]; exact ⟨by omega, by rw [<- hl, List.take_length]; simp⟩) (.nil _) (by rw [hst]; decide)
 rw [this, hst];rw [if_neg (by rintro ⟨_, _, hx⟩; revert hx; decide)]
 rfl
theorem start_get : start[0]? = some 2 /\ start[1]? = some 1 /\ start[2]? = some 1 := by decide +kernel
set_option maxHeartbeats 4000000 in
theorem lives07_spec (h : Q (.bool true) []) : ACall Tryz.prog 14 0 [] [] Q := by
 refine by_body Tryz.func14 0 rfl (nbZ rfl) ?_
 conv => whnf
 have hE := evs_start;have hl := start_len;obtain ⟨g0, g1, g2⟩ := start_get;refine .call [] 0 ⟨rfl, rfl, rfl⟩ (BlNew_spec ?_);generalize start = st at *;have hls := bs_len st
 conv => whnf
 have hT : List.take st.length (List.drop 0 (bs st)) = bs st := by rw [List.drop_zero, <- hls, List.take_length]
 refine ACalls.frz 0 rfl rfl (by repeat (first | exact trivial | refine And.intro (by omega) ?_)) ?_
 refine ACalls.sub [.sl 1 (bs st) false] _ rfl (.cons (VSub.eq (congrArg (fun z => V.sl 1 z false) hT)) (VSubs.refl _)) (HSub.refl _) ?_
 refine .call [] 0 ⟨rfl, rfl, rfl⟩ (BlEvents_spec (b := st) (by omega) ?_)
 rw [hE]
 conv => whnf
 have hTl : (List.take st.length (List.drop 0 (bs st))).length = 7 := by rw [hT, hls, hl]
 have hb0 : ∀ (i : Nat) x, st[i]? = some x -> (List.take st.length (List.drop 0 (bs st)))[i]? = some [.int .u8 x.toNat] := fun i x hx => by rw [hT]; exact bs_at hx
 refine branch_i (fun c1 => ?_) (fun c1 => absurd (by omega) (dfZ c1)) <;> try rw [c1] <;> conv => whnf
 refine ⟨_, ⟨by omega, hb0 0 _ g0⟩, ?_⟩
 conv => whnf
 refine ⟨_, ⟨by omega, hb0 1 _ g1⟩, ?_⟩
 conv => whnf
 refine ⟨_, ⟨by omega, hb0 2 _ g2⟩, ?_⟩
 conv => whnf
 exact ⟨[], rfl, h⟩
end Go.Proofs.YtcdkklgeepkopaaGreatDoorPg
namespace Go.Proofs.YtcdkklgeepkopaaGreatDoorPg
open Go Go.RowKit
variable {Q : V -> List O -> Prop}
theorem app_nilms {j n : Nat} {f : Bool} {X : List UInt8} {H : List O} {K : V -> List O -> Prop} (hn : n = X.length) (hs : X.length <= 70368744177664)
 (hK : copyH (H ++ [.buf (bs X)]) fun H' => K (.ms 1 H.length 0 X.length false) H') :
 0 + n <= (bs X).length /\ aapp 1 1 .nils (.ms 1 j 0 n f) (List.take n (List.drop 0 (bs X))) H K := by
 subst hn;refine ⟨by rw [bs_len]; omega, ?_⟩
 unfold aapp sameBuf;simp only;unfold aappend;have e : List.take X.length (List.drop 0 (bs X)) = bs X := by rw [List.drop_zero, <- bs_len X, List.take_length]
 rw [e];unfold newBuf;rw [bs_len];exact ⟨by omega, hK⟩
end Go.Proofs.YtcdkklgeepkopaaGreatDoorPg
namespace Go.Proofs.YtcdkklgeepkopaaGreatDoorPg
open Go Go.RowKit
variable {Q : V -> List O -> Prop}
def simE0 (l : List Tb) (e e2 : Evt) : Prop := mayE e l = 0 -> mayE e2 l = 0 /\ e2.k = e.k /\ e2.n = e.n /\ e2.ch = e.ch
theorem sim_none {l : List Tb} {e e2 : Evt} (hf : findT l e.t = none) (hk : e.k = 3 \/ e.k = 4 \/ e.k = 5) : simE0 l e e2 := fun hm => by
 have hI := mayE_inv hm;cases hI with
 | ins k t a C K hk2 hf2 hfit => rw [hf2] at hf; cases hf
 | del t b C K hf2 hk2 hlen => rw [hf2] at hf; cases hf
 | alt c hc => simp only at hk; omega
 | num k n hk2 hn => have := numK_is hk2; simp only at hk; omega
theorem sim3 {l : List Tb} {e : Evt} {C : List Col} {K : Int} (hC : ∀ c ∈ C, 1 <= c.k /\ c.k <= 4) (hf : findT l e.t = some (C, K)) (hk : e.k = 3 \/ e.k = 4) : simE0 l e ⟨e.k, 0, e.t, [], rowL C e.a, chg0⟩ := fun hm => by
 have hI := mayE_inv hm;refine ⟨(MayI.ins e.k e.t (rowL C e.a) C K hk hf (row_fits hC e.a)).e, rfl, ?_⟩;cases hI with
 | ins k t a C K hk2 hf2 hfit => exact ⟨rfl, rfl⟩
 | del t b C K hf2 hk2 hlen => simp only at hk; omega
 | alt c hc => simp only at hk; omega
 | num k n hk2 hn => have := numK_is hk2; simp only at hk; omega
theorem key_take {C : List Col} {k : Nat} {vs : List Val} (h : fitsL C vs = true) (hk : k <= C.length) : keyOkL C k (vs.take k) = true := by
 have hl := fits_len' h;unfold fitsL at h;rw [Bool.and_eq_true, List.all_eq_true] at h;unfold keyOkL;rw [Bool.and_eq_true, List.all_eq_true, decide_eq_true_eq, List.length_take];refine ⟨by omega, fun i hi => ?_⟩
 have hik := List.mem_range.1 hi;have := h.2 i (List.mem_range.2 (by omega))
 unfold stAt at this ⊢;rw [List.getElem?_take, if_pos hik]; exact this
theorem sim5 {l : List Tb} {e : Evt} {C : List Col} {k : Nat} (hC : ∀ c ∈ C, 1 <= c.k /\ c.k <= 4) (hf : findT l e.t = some (C, (k : Int))) (hkC : k <= C.length) (hk : e.k = 5) : simE0 l e ⟨e.k, 0, e.t, (rowL C e.b).take k, [], chg0⟩ := fun hm => by
 have hI := mayE_inv hm;have hfit := row_fits hC e.b;have h1 := (MayI.del e.t ((rowL C e.b).take k) C (k : Int) hf (by rw [Int.toNat_natCast]; exact key_take hfit hkC) (by rw [List.length_take, rowL_len]; omega)).e
 rw [hk];refine ⟨h1, rfl, ?_⟩;cases hI with
 | ins k t a C K hk2 hf2 hfit => simp only at hk; omega
 | del t b C K hf2 hk2 hlen => exact ⟨rfl, rfl⟩
 | alt c hc => simp only at hk; omega
 | num k n hk2 hn => have := numK_is hk2; simp only at hk; omega
theorem sim6 {l : List Tb} {e : Evt} (hk : e.k = 6) : simE0 l e ⟨e.k, 0, [], [], [], e.ch⟩ := fun hm => by
 have hI := mayE_inv hm;cases hI with
 | ins k t a C K hk2 hf2 hfit => simp only at hk; omega
 | del t b C K hf2 hk2 hlen => simp only at hk; omega
 | alt c hc => exact ⟨hm, rfl, rfl, rfl⟩
 | num k n hk2 hn => have := numK_is hk2; simp only at hk; omega
theorem simN {l : List Tb} {e : Evt} {m : Int} (hk : ¬ (e.k = 3 \/ e.k = 4 \/ e.k = 5 \/ e.k = 6)) (hm : e.n < 0 \/ m = e.n) : simE0 l e ⟨e.k, m, [], [], [], chg0⟩ := fun hme => by
 have hI := mayE_inv hme;cases hI with
 | ins k t a C K hk2 hf2 hfit => simp only at hk; omega
 | del t b C K hf2 hk2 hlen => simp at hk
 | alt c hc => simp at hk
 | num k n hk2 hn =>
  simp only at hm;have : m = n := by omega
  subst this;exact ⟨hme, rfl, rfl, rfl⟩
def simE (l : List Tb) (e e2 : Evt) : Prop := e2.k = e.k /\ simE0 l e e2
set_option maxHeartbeats 32000000 in
theorem REventS_spec {e : Evt} {l : List Tb} (hl : TbsB l) (he : EvtT e) (hn : EvtN e) (h : ∀ e2, EvtT e2 -> EvtN e2 -> simE l e e2 -> Q (evA e2) []) : ACall Tryz.prog 39 0 [evA e, .sl 3 (tbs l) false] [] Q := by
 refine ACall.ret (by_body Tryz.func39 0 rfl (nbZ rfl) ?_);have h : ∀ e2, EvtT e2 -> EvtN e2 -> simE0 l e e2 -> (hk : e2.k = e.k := by rfl) -> Q (evA e2) [] := fun e2 h1 h2 h3 h4 => h e2 h1 h2 ⟨h4, h3⟩
 conv => whnf
 have hlv := tbs_len l;refine .pure (EvRFind_spec (by have := hl.few; omega) ⟨rfl, ?_⟩)
 unfold findR;rcases hf : findT l e.t with _ | ⟨C, K⟩ <;> conv => whnf
 focus
  refine branch_i (fun a1 => ?_) (fun a1 => ?_) <;> try rw [a1] <;> conv => whnf
  focus
   refine branch_i (fun a2 => ?_) (fun a2 => ?_) <;> try rw [a2] <;> conv => whnf
   focus
    refine branch_i (fun a3 => ?_) (fun a3 => ?_) <;> try rw [a3] <;> conv => whnf
    focus
     have a1' := dtZ a1;have hg : l[0]? = some l[0] := lgZ (by omega)
     have hm := (hl.ok.each l[0] (List.getElem_mem (by omega))).sch
     generalize l[0] = w at *;refine ⟨_, ⟨by omega, tbs_get hg⟩, ?_⟩
     conv => whnf
     refine ⟨_, ⟨by omega, tbs_get hg⟩, ?_⟩
     conv => whnf
     have hb := may_bd hm;have hrk : e.k = 3 \/ e.k = 4 \/ e.k = 5 := by have a2' := dtZ a2; have a3' := dtZ a3; omega
     have s3 : ∀ C : List Col, e.k = 3 \/ e.k = 4 -> simE0 l e ⟨e.k, 0, w.n, [], rowL C e.a, chg0⟩ := fun C _ => sim_none hf hrk
     have s5 : ∀ (C : List Col) (k : Nat), e.k = 5 -> simE0 l e ⟨e.k, 0, w.n, (rowL C e.b).take k, [], chg0⟩ := fun C k _ => sim_none hf hrk
     generalize w.c = C at *;generalize w.k = K at *;obtain ⟨k, rfl⟩ : ∃ k : Nat, K = k := ⟨K.toNat, by omega⟩
     have hk : k <= C.length := by omega
     have hC : C.length <= 16 := hb.2.2.2;have s3 := s3 C;have s5 := s5 C k
  rotate_left
  iterate 3
   focus
    refine branch_i (fun k3 => ?_) (fun k3 => ?_) <;> try rw [k3] <;> conv => whnf
    . exact ⟨[], rfl, .sub _ _ (row_sub0 _ _) (HSub.refl _) (.done [] rfl (h _ (evt0 _ _ _) (evn0 _ _ _ i64_0) (sim_none hf (.inl (dtZ k3)))))⟩
    refine branch_i (fun k4 => ?_) (fun k4 => ?_) <;> try rw [k4] <;> conv => whnf
    . exact ⟨[], rfl, .sub _ _ (row_sub0 _ _) (HSub.refl _) (.done [] rfl (h _ (evt0 _ _ _) (evn0 _ _ _ i64_0) (sim_none hf (.inr (.inl (dtZ k4))))))⟩
    refine branch_i (fun k5 => ?_) (fun k5 => ?_) <;> try rw [k5] <;> conv => whnf
    . exact ⟨[], rfl, .sub _ _ (row_sub0 _ _) (HSub.refl _) (.done [] rfl (h _ (evt0 _ _ _) (evn0 _ _ _ i64_0) (sim_none hf (.inr (.inr (dtZ k5))))))⟩
    refine branch_i (fun k6 => ?_) (fun k6 => ?_) <;> try rw [k6] <;> conv => whnf
    . exact ⟨[], rfl, .sub _ _ (may_sub6 _ _ _) (HSub.refl _) (.done [] rfl (h _ (evt6 _ _ he.lc) (evn6 _ _ _ i64_0) (sim6 (dtZ k6))))⟩
    have hkk : ¬ (e.k = 3 \/ e.k = 4 \/ e.k = 5 \/ e.k = 6) := by
     have k3' := dfZ k3; have k4' := dfZ k4; have k5' := dfZ k5; have k6' := dfZ k6; omega
    refine branch_i (fun k7 => ?_) (fun k7 => ?_) <;> try rw [k7] <;> conv => whnf
    . exact ⟨[], rfl, .sub _ _ (may_subN _ _) (HSub.refl _) (.done [] rfl (h _ (evt0 _ _ _) (evn0 _ _ _ (i64_wrap _)) (simN hkk (.inl (dtZ k7)))))⟩
    . exact ⟨[], rfl, .sub _ _ (may_subN _ _) (HSub.refl _) (.done [] rfl (h _ (evt0 _ _ _) (evn0 _ _ _ hn.n) (simN hkk (.inr rfl))))⟩
 rotate_left
 focus
  obtain ⟨hm, hC, k, rfl, hk⟩ := hl.found hf;have hko := kinds_ok (may_ok hm);have s3 : e.k = 3 \/ e.k = 4 -> simE0 l e ⟨e.k, 0, e.t, [], rowL C e.a, chg0⟩ := fun hx => sim3 hko hf hx
  have s5 : e.k = 5 -> simE0 l e ⟨e.k, 0, e.t, (rowL C e.b).take k, [], chg0⟩ := fun hx => sim5 hko hf hk hx
 all_goals
  have hki := may_kinds hm;refine branch_i (fun k3 => ?_) (fun k3 => ?_) <;> try rw [k3] <;> conv => whnf
  . refine .pure (Row_spec (l := C) (keys := (k : Int)) (vs := e.a) (by omega) hki ⟨rfl, ?_⟩)
    conv => whnf
    exact ⟨[], rfl, .sub _ _ (row_sub _ _ _) (HSub.refl _) (.done [] rfl (h _ (evt3 _ _ _ hC _) (evn3 _ _ _ _ hn.a) (s3 (.inl (dtZ k3)))))⟩
  refine branch_i (fun k4 => ?_) (fun k4 => ?_) <;> try rw [k4] <;> conv => whnf
  . refine .pure (Row_spec (l := C) (keys := (k : Int)) (vs := e.a) (by omega) hki ⟨rfl, ?_⟩)
    conv => whnf
    exact ⟨[], rfl, .sub _ _ (row_sub _ _ _) (HSub.refl _) (.done [] rfl (h _ (evt3 _ _ _ hC _) (evn3 _ _ _ _ hn.a) (s3 (.inr (dtZ k4)))))⟩
  refine branch_i (fun k5 => ?_) (fun k5 => ?_) <;> try rw [k5] <;> conv => whnf
  . refine ⟨[0, 1, 2, 4, 5, 3, 6, 7, 8], by kernel_rfl, by kernel_rfl, ?_⟩
    conv => whnf
    refine .pure (Row_spec (l := C) (keys := (k : Int)) (vs := e.b) (by omega) hki ⟨rfl, ?_⟩)
    have hrl : (vals (rowL C e.b)).length = C.length := by rw [vals_len, rowL_len]
    repeat (conv => whnf
            refine ⟨rfl, ?_⟩)
    conv => whnf
    refine ⟨⟨by omega, by omega⟩, ?_⟩
    conv => whnf
    rw [vals_take];exact ⟨[], rfl, .sub _ _ (row_sub5 _ _ _) (HSub.refl _) (.done [] rfl (h _ (evt5 _ _ _ hC _ _) (evn5 _ _ _ _ _ hn.b) (s5 (dtZ k5))))⟩
  refine branch_i (fun k6 => ?_) (fun k6 => ?_) <;> try rw [k6] <;> conv => whnf
  . exact ⟨[], rfl, .sub _ _ (may_sub6 _ _ _) (HSub.refl _) (.done [] rfl (h _ (evt6 _ _ he.lc) (evn6 _ _ _ i64_0) (sim6 (dtZ k6))))⟩
  have hkk : ¬ (e.k = 3 \/ e.k = 4 \/ e.k = 5 \/ e.k = 6) := by
   have k3' := dfZ k3; have k4' := dfZ k4; have k5' := dfZ k5; have k6' := dfZ k6; omega
  refine branch_i (fun k7 => ?_) (fun k7 => ?_) <;> try rw [k7] <;> conv => whnf
  . exact ⟨[], rfl, .sub _ _ (may_subN _ _) (HSub.refl _) (.done [] rfl (h _ (evt0 _ _ _) (evn0 _ _ _ (i64_wrap _)) (simN hkk (.inl (dtZ k7)))))⟩
  . exact ⟨[], rfl, .sub _ _ (may_subN _ _) (HSub.refl _) (.done [] rfl (h _ (evt0 _ _ _) (evn0 _ _ _ hn.n) (simN hkk (.inr rfl))))⟩
end Go.Proofs.YtcdkklgeepkopaaGreatDoorPg
