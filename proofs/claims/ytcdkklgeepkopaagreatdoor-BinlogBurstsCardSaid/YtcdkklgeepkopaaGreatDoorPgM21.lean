/- Own texts, laid together: Pg07ZDBlQ, Pg07ZDBlA, Pg07ZDIm15, Pg07ZDBlB, Pg07ZDBlC, Pg07ZDBlD, Pg07ZDBlE, Pg07ZDBlF, Pg07ZDBlG, Pg07ZDBlH. -/
import Derived.Test.YtcdkklgeepkopaaGreatDoorPgM20
import Derived.Test.YtcdkklgeepkopaaGreatDoorPgM19
import Derived.Test.YtcdkklgeepkopaaGreatDoorPgM15
/- Tables that follow stay such as may be; a scanner's steps: plain. -/
namespace Go.Proofs.YtcdkklgeepkopaaGreatDoorPg
open Go Go.RowKit
set_option linter.unusedSimpArgs false
set_option linter.unusedVariables false

theorem may_ok {l : List Col} {keys : Int} (h : mayS l keys = true) : SchOk l keys := by
  have hb := may_bd h
  unfold mayS at h
  rw [Bool.and_eq_true, List.all_eq_true] at h
  have hf : ∀ (i : Nat) c, l[i]? = some c → nameOk c.n = true ∧ kindOk c.k = true ∧ fnd c.n l 0 = (i : Int) ∧ (keys ≤ (i : Int) ∨ c.o = false) := fun i c hc => by
    have := h.2 i (List.mem_range.2 (List.getElem?_eq_some_iff.1 hc).1)
    rw [hc] at this
    simp only [mayC, Bool.and_eq_true, decide_eq_true_eq, Bool.not_eq_true', Bool.and_eq_false_iff, decide_eq_false_iff_not, Int.not_lt] at this
    exact ⟨this.1, this.2.1, this.2.2.1, this.2.2.2⟩
  refine ⟨?_, fun d hd => ?_, hb.1, hb.2.1, hb.2.2.1, hb.2.2.2, fun i c hi hc => ?_⟩
  · unfold NamesOk
    rw [List.pairwise_map]
    refine List.pairwise_iff_getElem.2 fun i j hi hj hij e => ?_
    have h1 := (hf i _ (List.getElem?_eq_getElem hi)).2.2.1
    have h2 := (hf j _ (List.getElem?_eq_getElem hj)).2.2.1
    rw [e, h2] at h1
    omega
  · obtain ⟨i, hi⟩ := List.mem_iff_getElem?.1 hd
    have := hf i d hi
    exact ⟨this.1, this.2.1⟩
  · rcases (hf i c hc).2.2.2 with h1 | h1
    · omega
    · exact h1

theorem nws_set {l : List Tb} {i : Nat} {x : Tb} {C : List Col} {K : Int} (h : l[i]? = some x) : nws (l.set i ⟨x.n, C, K⟩) = nws l := by
  unfold nws
  rw [List.map_set]
  refine List.ext_getElem? fun j => ?_
  rw [List.getElem?_set]
  split
  · rename_i e; subst e
    rw [List.getElem?_map, h, List.length_map]
    rw [if_pos (List.getElem?_eq_some_iff.1 h).1]
    rfl
  · rfl

theorem folT_ok {l : List Tb} {k : Int} {t : List UInt8} {cs : List Col} {ks : Int} {c : Col} (hl : TbsB l) (h : (folT l k t cs ks c).2 = 0) : TbsB (folT l k t cs ks c).1 := by
  unfold folT at h ⊢
  by_cases h1 : k = 1
  · rw [if_pos h1] at h ⊢
    split at h
    · simp at h
    rename_i c1
    split at h
    · simp at h
    rename_i c2
    split at h
    · simp at h
    rename_i c3
    split at h
    · simp at h
    rename_i c4
    rw [if_neg c1, if_neg c2, if_neg c3, if_neg c4]
    have hn : atT l t = none := by
      cases ha : atT l t with
      | none => rfl
      | some j => rw [ha] at c2; simp at c2
    exact ⟨insT_ok hl.ok ⟨by simpa using c1, by simpa using c3⟩ hn, by show (insT l _).length ≤ 64; rw [insT_len]; omega⟩
  rw [if_neg h1] at h ⊢
  cases ha : atT l t with
  | none => rw [ha] at h; simp at h
  | some i =>
    rw [ha] at h
    simp only at h ⊢
    by_cases h2 : k = 2
    · rw [if_pos h2] at h ⊢
      refine ⟨⟨?_, fun x hx => hl.ok.each x (List.mem_of_mem_eraseIdx hx)⟩, ?_⟩
      · have hs := hl.ok.sorted
        unfold SortedT SortedW at hs ⊢
        refine List.Pairwise.sublist ?_ hs
        unfold nws
        exact (List.eraseIdx_sublist l i).map _
      · have := hl.few
        have h3 := List.length_eraseIdx_le (l := l) (i := i)
        simp only; omega
    rw [if_neg h2] at h ⊢
    obtain ⟨x, hx, hxn, hi⟩ := atT_get ha
    rw [hx] at h
    simp only [hx] at h ⊢
    split at h
    · rename_i c1; exact absurd h c1
    rename_i c1
    rw [if_neg c1]
    rw [Decidable.not_not] at c1
    have hox := hl.ok.each x (List.mem_of_getElem? hx)
    have hap := (apply_ok (may_ok hox.sch) c1).may
    refine ⟨⟨?_, fun y hy => ?_⟩, by have := hl.few; simp only [List.length_set]; omega⟩
    · unfold SortedT
      rw [nws_set hx]
      exact hl.ok.sorted
    · rcases List.mem_or_eq_of_mem_set hy with h3 | h3
      · exact hl.ok.each y h3
      · subst h3; exact ⟨hox.name, hap⟩

theorem prdR_ok {b : List UInt8} {l : List Tb} (h : (prdR b l).2 = 0) : prd b l = some (prdR b l).1 ∧ mayE (prdR b l).1 l = 0 := by
  unfold prdR at h ⊢
  cases hp : prd b l with
  | none =>
    rw [hp] at h
    simp only at h
    split at h <;> omega
  | some ev =>
    rw [hp] at h
    simp only at h ⊢
    by_cases hm : mayE ev l = 0
    · rw [if_pos hm]; exact ⟨rfl, hm⟩
    · rw [if_neg hm] at h
      simp only at h
      split at h <;> omega

theorem prdR_num {b : List UInt8} {l : List Tb} (h : (prdR b l).2 = 0) : 0 ≤ (prdR b l).1.n := by
  have hm := mayE_inv (prdR_ok h).2
  generalize (prdR b l).1 = e at *
  cases hm with
  | ins k t a C K hk hf hfit => exact Int.le_refl 0
  | del t b C K hf hfit hlen => exact Int.le_refl 0
  | alt c hc => exact Int.le_refl 0
  | num k n hk hn => exact hn

theorem stepS_err {b : List UInt8} {s : Sc} (h : (stepS b s).2.2 ≠ 0) : (stepS b s).1 = evtZ ∧ (stepS b s).2.1 = s := by
  unfold stepS stepE at h ⊢
  repeat' split at h
  all_goals simp_all

theorem stepS_ok {b : List UInt8} {s : Sc} (h : (stepS b s).2.2 = 0) : ∃ w n, nxtL b s.a = (w, n, 0) ∧ (prdR w s.h).2 = 0 ∧ mayX s.x (prdR w s.h).1 = true ∧ (takeX s (prdR w s.h).1 n).2 = 0 ∧ stepS b s = ((prdR w s.h).1, (takeX s (prdR w s.h).1 n).1, 0) := by
  unfold stepS at h ⊢
  split at h
  · rename_i h1; exact absurd h h1
  rename_i h1
  rw [if_neg h1]
  rw [Decidable.not_not] at h1
  refine ⟨(nxtL b s.a).1, (nxtL b s.a).2.1, by rw [← h1], ?_⟩
  generalize (nxtL b s.a).1 = w at *
  generalize (nxtL b s.a).2.1 = n at *
  unfold stepE at h ⊢
  split at h
  · rename_i h2; exact absurd h h2
  rename_i h2
  rw [if_neg h2]
  rw [Decidable.not_not] at h2
  split at h
  · simp at h
  rename_i h3
  rw [if_neg h3]
  split at h
  · rename_i h4; exact absurd h h4
  rename_i h4
  rw [if_neg h4]
  rw [Decidable.not_not] at h4
  exact ⟨h2, by simpa using h3, h4, rfl⟩

theorem takeX_ok {s : Sc} {e : Evt} {n : Int} (hs : ScOk s) (hm : mayX s.x e = true) (h : (takeX s e n).2 = 0) : ScOk (takeX s e n).1 ∧ (takeX s e n).1.a = n := by
  unfold takeX at h ⊢
  unfold mayX at hm
  split
  · rename_i h2
    rw [if_pos (.inl h2), decide_eq_true_eq] at hm
    exact ⟨⟨hs.l, hs.h, fun _ => hs.c hm⟩, rfl⟩
  split
  · exact ⟨⟨hs.h, hs.h, fun _ => rfl⟩, rfl⟩
  split
  · exact ⟨⟨hs.l, hs.l, fun _ => rfl⟩, rfl⟩
  split
  · rename_i h2 h7 h8 h6
    rw [if_neg h2, if_neg h7, if_neg h8, if_pos h6] at h
    rw [if_neg (by omega), if_neg (by omega), Bool.and_eq_true, decide_eq_true_eq] at hm
    split at h
    · rename_i c1; exact absurd h c1
    rename_i c1
    rw [if_neg c1]
    rw [Decidable.not_not] at c1
    exact ⟨⟨hs.l, folT_ok hs.h c1, fun hx => by have := hm.1; simp only at hx; omega⟩, rfl⟩
  · exact ⟨⟨hs.l, hs.h, hs.c⟩, rfl⟩

theorem stepS_inv {b : List UInt8} {s : Sc} (hs : ScOk s) (h : (stepS b s).2.2 = 0) : ScOk (stepS b s).2.1 ∧ s.a < (stepS b s).2.1.a ∧ (stepS b s).2.1.a ≤ (b.length : Int) := by
  obtain ⟨w, n, h1, h2, h3, h4, h5⟩ := stepS_ok h
  obtain ⟨g0, r, g1, g2, g3, g4⟩ := nxtL_ok h1
  obtain ⟨k1, k2⟩ := takeX_ok hs h3 h4
  rw [h5]
  exact ⟨k1, by simp only [k2]; omega, by simp only [k2]; omega⟩

inductive Run (b : List UInt8) : Sc → List Evt → Sc → Prop
  | nil (s : Sc) : Run b s [] s
  | cons {s s2 : Sc} {es : List Evt} (h : (stepS b s).2.2 = 0) (t : Run b (stepS b s).2.1 es s2) : Run b s ((stepS b s).1 :: es) s2

theorem Run.snoc {b : List UInt8} {s s2 : Sc} {es : List Evt} (h : Run b s es s2) (h2 : (stepS b s2).2.2 = 0) : Run b s (es ++ [(stepS b s2).1]) (stepS b s2).2.1 := by
  induction h with
  | nil s => exact .cons h2 (.nil _)
  | cons h t ih => exact .cons h (ih h2)

theorem Run.app {b : List UInt8} {s s2 s3 : Sc} {es fs : List Evt} (h : Run b s es s2) (g : Run b s2 fs s3) : Run b s (es ++ fs) s3 := by
  induction h with
  | nil s => exact g
  | cons h t ih => exact .cons h (ih g)

theorem Run.ok {b : List UInt8} {s s2 : Sc} {es : List Evt} (h : Run b s es s2) (hs : ScOk s) : ScOk s2 ∧ s.a + (es.length : Int) ≤ s2.a := by
  induction h with
  | nil s => exact ⟨hs, by simp⟩
  | cons h t ih =>
    obtain ⟨h1, h2, h3⟩ := stepS_inv hs h
    obtain ⟨h4, h5⟩ := ih h1
    exact ⟨h4, by simp only [List.length_cons]; omega⟩

def wayE (b : List UInt8) : Nat → Sc → List Evt × Sc × Int
  | 0, s => ([], s, 0)
  | f + 1, s => if (stepS b s).2.2 ≠ 0 then ([], s, (stepS b s).2.2) else ((stepS b s).1 :: (wayE b f (stepS b s).2.1).1, (wayE b f (stepS b s).2.1).2)

theorem wayE_run {b : List UInt8} : ∀ (f : Nat) {s : Sc}, ScOk s → (b.length : Int) - s.a < (f : Int) → 0 ≤ s.a → s.a ≤ (b.length : Int) → Run b s (wayE b f s).1 (wayE b f s).2.1 ∧ (stepS b (wayE b f s).2.1).2.2 ≠ 0 ∧ (wayE b f s).2.2 = (stepS b (wayE b f s).2.1).2.2
  | 0, s, hs, hf, h0, h1 => by simp at hf; omega
  | f + 1, s, hs, hf, h0, h1 => by
    rw [wayE]
    by_cases h : (stepS b s).2.2 = 0
    · rw [if_neg (by simpa using h)]
      obtain ⟨g1, g2, g3⟩ := stepS_inv hs h
      obtain ⟨k1, k2, k3⟩ := wayE_run f g1 (by omega) (by omega) g3
      exact ⟨.cons h k1, k2, k3⟩
    · rw [if_pos h]
      exact ⟨.nil _, h, rfl⟩

theorem Run.uniq {b : List UInt8} {s s1 s2 : Sc} {es fs : List Evt} (h : Run b s es s1) (g : Run b s fs s2) (he : (stepS b s1).2.2 ≠ 0) (hg : (stepS b s2).2.2 ≠ 0) : es = fs ∧ s1 = s2 := by
  induction h generalizing fs s2 with
  | nil s =>
    cases g with
    | nil => exact ⟨rfl, rfl⟩
    | cons h t => exact absurd h he
  | cons h t ih =>
    cases g with
    | nil => exact absurd h hg
    | cons h' t' =>
      obtain ⟨e1, e2⟩ := ih t' he hg
      exact ⟨by rw [e1], e2⟩

def evS : Evt := ⟨1, 1, [], [], [], chg0⟩
def evsL (b : List UInt8) : List Evt × Int × Int :=
  if b.length < 7 ∨ b.take 7 ≠ start then ([], 0, 2)
  else (evS :: (wayE b (b.length + 1) sc0).1, (wayE b (b.length + 1) sc0).2.1.a,
    if (wayE b (b.length + 1) sc0).2.2 = 7 ∧ (wayE b (b.length + 1) sc0).2.1.a = (b.length : Int) ∧ 0 ≤ (wayE b (b.length + 1) sc0).2.1.x then 4 else (wayE b (b.length + 1) sc0).2.2)

theorem tbsB_nil : TbsB [] := ⟨⟨List.Pairwise.nil, fun t h => (by cases h)⟩, by decide⟩
theorem sc0_ok : ScOk sc0 := ⟨tbsB_nil, tbsB_nil, fun _ => rfl⟩

end Go.Proofs.YtcdkklgeepkopaaGreatDoorPg

/- Frames of a log: the program's functions. -/
namespace Go.Proofs.YtcdkklgeepkopaaGreatDoorPg
open Go Go.RowKit
set_option linter.unusedSimpArgs false
set_option linter.unusedVariables false

variable {Q : V → List O → Prop}

theorem BlFrame_spec {b body : List UInt8} {f g : Bool} (hb : b.length ≤ 899999980) (ho : body.length ≤ 900000000) (hs : b.length + body.length ≤ 999999970) (h : Q (.ms 1 0 0 (b ++ frm body).length false) [.buf (bs (b ++ frm body))]) :
    ACall Tryz.prog 11 0 [.sl 1 (bs b) f, .sl 1 (bs body) g] [] Q := by
  refine by_body Tryz.func11 0 rfl (Nat.le_of_ble_eq_true rfl) ?_
  have hlo := bs_len body
  conv => whnf
  rw [hlo]
  refine .call [] 0 ⟨rfl, rfl, rfl⟩ (WNumber_spec (n := (body.length : Int)) (by omega) (by omega) (by omega) ?_)
  have hnl := numW_len' (body.length : Int)
  have hbl : (b ++ numW (body.length : Int)).length ≤ b.length + 10 := by rw [List.length_append]; omega
  unfold frm at h
  rw [← List.append_assoc] at h
  generalize b ++ numW (body.length : Int) = B at *
  have hlB := bs_len B
  conv => whnf
  refine .call [0] 1 ⟨rfl, rfl, rfl⟩ (ACall.eat hlB.symm rfl (CrPut_spec (b := B) (own := body) (by omega) (by omega) (by omega) ?_))
  generalize B ++ crcP body = C at *
  conv => whnf
  exact ⟨[1], rfl, h⟩

theorem evSt_sub : VSub (.agg [fI 1, fI 1, .str [], .nils, .nils, fI 0, .str [], .nils, fI 0, .str [], fI 0, .bool false]) (evA evS) :=
  .agg (.cons (.refl _) (.cons (.refl _) (.cons (.refl _) (.cons (nils_sl3 false) (.cons (nils_sl3 false) (.cons (.refl _) (.cons (.refl _) (.cons (nils_sl3 false) (VSubs.refl _)))))))))

theorem evS_may (l : List Tb) : MayI l evS := .num 1 1 rfl (by decide)

theorem BlNew_spec (h : Q (.ms 1 0 0 start.length false) [.buf (bs start)]) : ACall Tryz.prog 38 0 [] [] Q := by
  refine by_body Tryz.func38 0 rfl (Nat.le_of_ble_eq_true rfl) ?_
  conv => whnf
  refine .call [] 0 ⟨rfl, rfl, rfl⟩ (ACall.args (.cons evSt_sub (.cons (nils_sl3 false) (VSubs.refl _))) (EvWrite_spec (e := evS) (l := []) tbsB_nil (evt0 _ _ _) ⟨⟨by decide, by decide⟩, fun v hv => by simp [evS] at hv, fun v hv => by simp [evS] at hv⟩ ?_))
  rw [(evS_may []).e, if_pos rfl, show evW evS = [1, 1] by decide +kernel]
  conv => whnf
  refine .call [] 0 ⟨rfl, rfl, rfl⟩ (ACall.args (.cons (VSub.nils 1 false) (VSubs.refl _)) (BlFrame_spec (b := []) (body := [1, 1]) (by simp) (by simp) (by simp) ?_))
  rw [List.nil_append, show frm [1, 1] = start from rfl]
  generalize start = st at *
  conv => whnf
  exact ⟨[0], rfl, h⟩

theorem numL_suf {s : List UInt8} (h : (numL s).2.2 = 0) : ∃ k, k ≤ s.length ∧ (numL s).2.1 = s.drop k := by
  unfold numL at h ⊢
  split at h
  · rename_i h1
    rw [if_pos h1]
    split at h
    · rename_i h2
      rw [if_pos h2]
      obtain ⟨k, g1, g2, g3⟩ := digF_suf 10 0 0 s h1
      exact ⟨k, g1, g3⟩
    · simp at h
  · rename_i h1; exact absurd h h1

theorem nil_tup3 (a e : V) : VSub (.tup [.nils, a, e]) (.tup [.sl 1 (bs []) false, a, e]) := .tup (.cons (VSub.nils 1 false) (VSubs.refl _))

set_option maxHeartbeats 4000000 in
theorem BlNext_spec {b : List UInt8} {f : Bool} {a : Int} (hb : b.length ≤ 900000000) (h : Q (.tup [.sl 1 (bs (nxtL b a).1) false, fI (nxtL b a).2.1, fI (nxtL b a).2.2]) []) : ACall Tryz.prog 13 0 [.sl 1 (bs b) f, fI a] [] Q := by
  refine ACall.ret (by_body Tryz.func13 0 rfl (Nat.le_of_ble_eq_true rfl) ?_)
  have hlb := bs_len b
  unfold nxtL at h
  conv => whnf
  refine branch_i (fun c1 => ?_) (fun c1 => ?_) <;> try rw [c1] <;> conv => whnf
  · have c1' := of_decide_eq_true c1
    rw [if_pos (.inl c1')] at h
    exact ⟨[], rfl, .sub _ _ (nil_tup3 _ _) (HSub.refl _) (.done [] rfl h)⟩
  have c1' := of_decide_eq_false c1
  refine branch_i (fun c2 => ?_) (fun c2 => ?_) <;> try rw [c2] <;> conv => whnf
  · have c2' := of_decide_eq_true c2
    rw [if_pos (.inr (by omega))] at h
    exact ⟨[], rfl, .sub _ _ (nil_tup3 _ _) (HSub.refl _) (.done [] rfl h)⟩
  have c2' := of_decide_eq_false c2
  rw [if_neg (by omega)] at h
  refine branch_i (fun c3 => ?_) (fun c3 => ?_) <;> try rw [c3] <;> conv => whnf
  · have c3' := of_decide_eq_true c3
    rw [if_pos (by omega)] at h
    exact ⟨[], rfl, .sub _ _ (nil_tup3 _ _) (HSub.refl _) (.done [] rfl h)⟩
  have c3' := of_decide_eq_false c3
  rw [if_neg (by omega)] at h
  obtain ⟨k, rfl⟩ : ∃ k : Nat, a = k := ⟨a.toNat, by omega⟩
  rw [Int.toNat_natCast] at h
  refine ⟨⟨by omega, by omega⟩, ?_⟩
  rw [bs_drop, Int.toNat_natCast]
  conv => whnf
  refine .call [] 0 ⟨rfl, rfl, rfl⟩ (Read_spec ?_)
  conv => whnf
  refine .call [0] 1 ⟨rfl, rfl, rfl⟩ (Number_spec ?_)
  rw [show rNum (b.drop k) 0 = numL (b.drop k) from if_pos rfl]
  conv => whnf
  refine .call [0] 1 ⟨rfl, rfl, rfl⟩ (Errno_spec ?_)
  conv => whnf
  unfold nxtA at h
  have hsuf := fun h => numL_suf (s := b.drop k) h
  have hnn := numL_nonneg (b.drop k)
  have hnm := numL_le (b.drop k)
  generalize (numL (b.drop k)).2.2 = e at *
  generalize (numL (b.drop k)).2.1 = r at *
  generalize (numL (b.drop k)).1 = n at *
  refine branch_i (fun c4 => ?_) (fun c4 => ?_) <;> try rw [c4] <;> conv => whnf
  · have c4' : e ≠ 0 := by simpa using c4
    rw [if_pos c4'] at h
    exact ⟨[], rfl, .sub _ _ (nil_tup3 _ _) (HSub.refl _) (.done [] rfl h)⟩
  have c4' : e = 0 := by simpa using c4
  rw [if_neg (by simpa using c4')] at h
  obtain ⟨j, hj, hrd⟩ := hsuf c4'
  rw [List.length_drop] at hj
  have hrl : r.length = b.length - k - j := by rw [hrd, List.length_drop, List.length_drop]
  have hdr : b.drop (k + j) = r := by rw [hrd, List.drop_drop]
  obtain ⟨m, rfl⟩ : ∃ m : Nat, n = m := ⟨n.toNat, by omega⟩
  rw [Int.toNat_natCast] at h
  refine .call [0] 1 ⟨rfl, rfl, rfl⟩ (Left_spec ?_)
  conv => whnf
  refine branch_i (fun c5 => ?_) (fun c5 => ?_) <;> try rw [c5] <;> conv => whnf
  · have c5' := of_decide_eq_true c5
    rw [if_pos (by omega)] at h
    exact ⟨[], rfl, .sub _ _ (nil_tup3 _ _) (HSub.refl _) (.done [] rfl h)⟩
  have c5' := of_decide_eq_false c5
  refine .call [0] 1 ⟨rfl, rfl, rfl⟩ (Left_spec ?_)
  conv => whnf
  rw [wrapL (n := (r.length : Int) - 4) (by omega)]
  refine branch_i (fun c6 => ?_) (fun c6 => ?_) <;> try rw [c6] <;> conv => whnf
  · have c6' := of_decide_eq_true c6
    rw [if_pos (by omega)] at h
    exact ⟨[], rfl, .sub _ _ (nil_tup3 _ _) (HSub.refl _) (.done [] rfl h)⟩
  have c6' := of_decide_eq_false c6
  rw [if_neg (by omega)] at h
  refine .call [0] 1 ⟨rfl, rfl, rfl⟩ (Left_spec ?_)
  conv => whnf
  have e1 : IntKind.i64.wrap (((bs b).length : Int) - (r.length : Int)) = ((k + j : Nat) : Int) := by rw [wrapL (by omega)]; omega
  have e2 : IntKind.i64.wrap (IntKind.i64.wrap (((k + j : Nat) : Int) + (m : Int)) + 4) = ((k + j + (m + 4) : Nat) : Int) := by rw [wrapL (n := ((k + j : Nat) : Int) + (m : Int)) (by omega), wrapL (by omega)]; omega
  rw [e1, e2]
  refine ⟨⟨by omega, by omega, by omega⟩, ?_⟩
  have e3 : List.drop (((k + j : Nat) : Int)).toNat (List.take (((k + j + (m + 4) : Nat) : Int)).toNat (bs b)) = bs (r.take (m + 4)) := by
    rw [Int.toNat_natCast, Int.toNat_natCast, bs_take, bs_drop, List.drop_take, hdr, show k + j + (m + 4) - (k + j) = m + 4 by omega]
  rw [e3]
  conv => whnf
  refine .pure (CrTake_spec (b := r.take (m + 4)) (by rw [List.length_take]; omega) ⟨rfl, ?_⟩)
  unfold tkL
  have htl : (r.take (m + 4)).length = m + 4 := by rw [List.length_take]; omega
  have htt : (r.take (m + 4)).take (m + 4 - 4) = r.take m := by rw [List.take_take]; congr 1; omega
  rw [if_neg (by omega), htl, htt]
  by_cases hc : crcP (r.take m) = r.take (m + 4)
  · rw [if_pos hc] at h ⊢
    conv => whnf
    rw [e2]
    rw [show b.length - r.length + m + 4 = k + j + (m + 4) by omega] at h
    exact ⟨[], rfl, .done [] rfl h⟩
  · rw [if_neg hc] at h ⊢
    conv => whnf
    exact ⟨[], rfl, .sub _ _ (nil_tup3 _ _) (HSub.refl _) (.done [] rfl h)⟩

end Go.Proofs.YtcdkklgeepkopaaGreatDoorPg

/- The laws EventReads and EventWrites. -/
namespace Go.Proofs.YtcdkklgeepkopaaGreatDoorPg
open Go Go.RowKit
set_option linter.unusedSimpArgs false
set_option linter.unusedVariables false

variable {Q : V → List O → Prop}

theorem u8_wf {k : Int} (h : (Lit.int .u8 k).wf = true) : 0 ≤ k ∧ k ≤ 255 := by
  have h' : (decide (IntKind.u8.min ≤ k) && decide (k ≤ IntKind.u8.max)) = true := h
  rw [Bool.and_eq_true] at h'
  exact ⟨of_decide_eq_true h'.1, of_decide_eq_true h'.2⟩

theorem bs_of : ∀ {es : List (List V)}, (∀ x ∈ es, ∃ n : Int, x = [.int .u8 n] ∧ 0 ≤ n ∧ n ≤ 255) → ∃ b : List UInt8, es = bs b
  | [], _ => ⟨[], rfl⟩
  | x :: es, h => by
    obtain ⟨n, rfl, h0, h1⟩ := h x (by simp)
    obtain ⟨b, rfl⟩ := bs_of (es := es) fun y hy => h y (by simp [hy])
    refine ⟨UInt8.ofNat n.toNat :: b, ?_⟩
    have : ((UInt8.ofNat n.toNat).toNat : Int) = n := by rw [ofNat_lt (by omega)]; omega
    show _ = [V.int .u8 ((UInt8.ofNat n.toNat).toNat : Int)] :: bs b
    rw [this]

theorem bytes_in {vs : List V} (h : Shp tt 8 22 vs) : ∃ b : List UInt8, argV tt 22 vs = .sl 1 (bs b) false := by
  obtain ⟨es, _, g1, rfl⟩ := h
  obtain ⟨b, rfl⟩ := bs_of fun x hx => by
    obtain ⟨n, hn, rfl⟩ := g1 x hx
    exact ⟨n, rfl, u8_wf hn⟩
  exact ⟨b, rfl⟩

end Go.Proofs.YtcdkklgeepkopaaGreatDoorPg

/- A scanner of a log: the program's functions. -/
namespace Go.Proofs.YtcdkklgeepkopaaGreatDoorPg
open Go Go.RowKit
set_option linter.unusedSimpArgs false
set_option linter.unusedVariables false

variable {Q : V → List O → Prop}

def scO (b : List UInt8) (s : Sc) (num : Int) : O := .cells [.sl 1 (bs b) false, fI s.a, .sl 3 (tbs s.l) false, .sl 3 (tbs s.h) false, fI num, .bool (decide (0 ≤ s.x))]

theorem BlAt_spec {b : List UInt8} {s : Sc} {num : Int} (h : Q (fI s.a) [scO b s num]) : ACall Tryz.prog 21 1 [.ptr 0 0] [scO b s num] Q := by
  refine by_body Tryz.func21 1 rfl (Nat.le_of_ble_eq_true rfl) ?_
  conv => whnf
  exact ⟨[0], rfl, h⟩

theorem BlOpen_spec {b : List UInt8} {s : Sc} {num : Int} (h : Q (.bool (decide (0 ≤ s.x))) [scO b s num]) : ACall Tryz.prog 22 1 [.ptr 0 0] [scO b s num] Q := by
  refine by_body Tryz.func22 1 rfl (Nat.le_of_ble_eq_true rfl) ?_
  conv => whnf
  exact ⟨[0], rfl, h⟩

theorem find_self {l : List Tb} (hl : TbsB l) {i : Nat} {t : Tb} (h : l[i]? = some t) : findT l t.n = some (t.c, t.k) := by
  have hm : nw t ∈ nws l := List.mem_of_getElem? (nws_get h)
  obtain ⟨j, hj, hg⟩ := at_mem hl.ok.sorted hm
  have hj' : atT l t.n = some j := hj
  obtain ⟨u, hu, hun, _⟩ := atT_get hj'
  have hij : i = j := by
    rcases Nat.lt_trichotomy i j with hlt | he | hlt
    · have := sorted_get hl.ok.sorted hlt (nws_get h) hg
      rw [less_irrefl] at this; cases this
    · exact he
    · have := sorted_get hl.ok.sorted hlt hg (nws_get h)
      rw [less_irrefl] at this; cases this
  subst hij
  rw [h] at hu; cases hu
  exact find_some hj' h

set_option maxHeartbeats 8000000 in
theorem BlTables_spec {b : List UInt8} {s : Sc} {num : Int} (hl : TbsB s.h) (h : Q (.sl 3 (tbs s.h) false) [scO b s num]) :
    ACall Tryz.prog 24 1 [.ptr 0 0] [scO b s num] Q := by
  refine ACall.ret (by_body Tryz.func24 1 rfl (Nat.le_of_ble_eq_true rfl) ?_)
  have hlt := tbs_len s.h
  have hfew := hl.few
  conv => whnf
  refine ⟨⟨[0, 3, 11, 12, 13], fun m ws H => ∃ i : Nat, ws = [.ptr 0 0, .ms 3 1 0 i false, .sl 3 (tbs s.h) false, fI (tbs s.h).length, fI i] ∧ H = [scO b s num, .buf (tbs (s.h.take i))] ∧ i ≤ s.h.length ∧ m = s.h.length - i, ?_, ?_⟩⟩
  · refine .frz (s.h.length + 1) (.adopt (.sub _ _ (.cons (.refl _) (.cons (VSub.ms0 3 1 0 false) (VSubs.refl _))) (HSub.refl _) (.go [0, 1] rfl s.h.length (by omega) ⟨0, rfl, rfl, by omega, rfl⟩)))
  rintro m ws H ⟨i, rfl, rfl, hi, rfl⟩
  conv => whnf
  refine branch_i (fun c1 => ?_) (fun c1 => ?_) <;> try rw [c1] <;> conv => whnf
  rotate_left
  focus
    have c1' := of_decide_eq_false c1
    have : i = s.h.length := by omega
    subst this
    rw [List.take_length]
    refine ⟨[0, 1], rfl, .frz 1 rfl ⟨by rw [hlt]; omega, trivial⟩ (.done [0] rfl ?_)⟩
    show Q (.sl 3 (List.take s.h.length (List.drop 0 (tbs s.h))) false) [scO b s num]
    rw [List.drop_zero, ← hlt, List.take_length]
    exact h
  have c1' := of_decide_eq_true c1
  have hlti : i < s.h.length := by omega
  have hg : s.h[i]? = some s.h[i] := List.getElem?_eq_getElem hlti
  have hfs := find_self hl hg
  generalize s.h[i] = t at *
  refine ⟨_, ⟨by omega, tbs_get hg⟩, ?_⟩
  conv => whnf
  refine ⟨List.range 13, by kernel_rfl, by kernel_rfl, ?_⟩
  conv => whnf
  refine .pure (EvFind_spec (l := s.h) (t := t.n) (by omega) hl.ok.sorted (fun x hx => by have := hl.cols x hx; omega) ⟨rfl, ?_⟩)
  rw [hfs]
  repeat (conv => whnf
          refine ⟨rfl, ?_⟩)
  conv => whnf
  have hsn : s.h.take (i + 1) = s.h.take i ++ [t] := by rw [List.take_add_one, hg]; rfl
  refine app_tb (X := s.h.take i) (w := t) (i := 1) (j := 4) rfl rfl (by rw [List.length_take]; omega) (by rw [List.length_take]; omega) ?_
  rw [← hsn]
  have hln : (s.h.take (i + 1)).length = i + 1 := by rw [List.length_take]; omega
  rw [hln]
  conv => whnf
  refine .go [0, 5] rfl (s.h.length - (i + 1)) (by omega) ⟨i + 1, ?_, rfl, by omega, rfl⟩
  show [V.ptr 0 0, V.ms 3 1 0 (i + 1) false, .sl 3 (tbs s.h) false, fI (tbs s.h).length, V.int .i64 (IntKind.i64.wrap ((i : Int) + 1))] = _
  rw [wrapE (by omega)]; rfl

theorem copyH_of {l l' : List O} {K : List O → Prop} (e : l = l') (h : K l') : copyH l K := by subst e; exact (copyH_iff _ _).2 h
theorem VSub.eq {a b : V} (e : a = b) : VSub a b := by subst e; exact .refl _

set_option maxHeartbeats 8000000 in
theorem BlScan_spec {b : List UInt8} {f : Bool} {a : Int} {l : List Tb} (hb0 : b ≠ []) (hb : b.length ≤ 900000000) (hl : TbsB l) (h : Q (.ptr 0 0) [scO b ⟨a, l, l, -1⟩ 0]) :
    ACall Tryz.prog 17 0 [.sl 1 (bs b) f, fI a, .sl 3 (tbs l) false] [] Q := by
  refine ACall.ret (by_body Tryz.func17 0 rfl (Nat.le_of_ble_eq_true rfl) ?_)
  have hlb := bs_len b
  have hlp : 0 < b.length := List.length_pos_iff.2 hb0
  conv => whnf
  refine ⟨⟨by omega, by omega, (show (((bs b).length : Int)).toNat * 1 ≤ 70368744177664 by omega)⟩, ?_⟩
  conv => whnf
  refine ⟨by omega, ?_⟩
  conv => whnf
  have hmin : min (bs b).length (bs b).length = (bs b).length := Nat.min_self _
  refine ⟨by omega, ?_⟩
  refine ⟨by rw [List.length_replicate]; omega, ?_⟩
  have hE : List.take 0 (List.replicate (bs b).length [V.int .u8 0]) ++ List.take (min (bs b).length (bs b).length) (bs b) ++ List.drop (0 + min (bs b).length (bs b).length) (List.replicate (bs b).length [V.int .u8 0]) = bs b := by
    rw [hmin, List.take_zero, List.nil_append, List.take_length, List.drop_of_length_le (by rw [List.length_replicate]; omega), List.append_nil]
  refine copyH_of (congrArg (fun z => [O.buf z, _]) hE) ?_
  conv => whnf
  have hT : List.take (bs b).length (List.drop 0 (bs b)) = bs b := by rw [List.drop_zero, List.take_length]
  refine ACalls.frz 0 rfl rfl (by repeat (first | exact trivial | refine And.intro (by omega) ?_)) (ACalls.sub _ [.dead, scO b ⟨a, [], l, -1⟩ 0] rfl (VSubs.refl _) ?_ ?_)
  · exact .cons (.refl _) (.cons (.cells (.cons (VSub.eq (congrArg (fun z => V.sl 1 z false) hT)) (.cons (.refl _) (.cons (nils_sl3 false) (VSubs.refl _))))) (HSub.refl _))
  refine .call [1] 1 ⟨rfl, rfl, rfl⟩ (BlTables_spec (b := b) (s := ⟨a, [], l, -1⟩) (num := 0) hl ?_)
  conv => whnf
  exact ⟨[1], rfl, .done [0] rfl h⟩

def numOk (s : Sc) (num : Int) : Prop := 0 ≤ s.x → num = s.x

theorem BlMay_spec {b : List UInt8} {s : Sc} {num : Int} {e : Evt} (hn : numOk s num) (h : Q (.bool (mayX s.x e)) [scO b s num]) : ACall Tryz.prog 42 1 [.ptr 0 0, evA e] [scO b s num] Q := by
  refine by_body Tryz.func42 1 rfl (Nat.le_of_ble_eq_true rfl) ?_
  unfold mayX at h
  have hlt : decide (s.x < 0) = !decide (0 ≤ s.x) := by rcases Int.lt_or_le s.x 0 with hx | hx <;> simp [hx, Int.not_le.2, Int.not_lt.2]
  rw [hlt] at h
  unfold numOk at hn
  unfold scO at h ⊢
  rcases Decidable.em (0 ≤ s.x) with hx | hx
  all_goals
    first | rw [decide_eq_true hx] at h ⊢ | rw [decide_eq_false hx] at h ⊢
    conv => whnf
    refine branch_i (fun c1 => ?_) (fun c1 => ?_) <;> try rw [c1] <;> conv => whnf
    · have c1' := of_decide_eq_true c1
      rw [if_pos (by omega)] at h
      exact ⟨[0], rfl, h⟩
    have c1' := of_decide_eq_false c1
    refine branch_i (fun c2 => ?_) (fun c2 => ?_) <;> try rw [c2] <;> conv => whnf
    · have c2' := of_decide_eq_true c2
      rw [if_pos (by omega)] at h
      exact ⟨[0], rfl, h⟩
    have c2' := of_decide_eq_false c2
    refine branch_i (fun c3 => ?_) (fun c3 => ?_) <;> try rw [c3] <;> conv => whnf
    · have c3' := of_decide_eq_true c3
      rw [if_pos (by omega)] at h
      exact ⟨[0], rfl, h⟩
    have c3' := of_decide_eq_false c3
    rw [if_neg (by omega)] at h
    refine branch_i (fun c7 => ?_) (fun c7 => ?_) <;> try rw [c7] <;> conv => whnf
    · have c7' := of_decide_eq_true c7
      rw [if_pos (.inl c7')] at h
      refine ⟨List.range 14, by kernel_rfl, by kernel_rfl, ?_⟩
      conv => whnf
      first
        | (rw [← hn hx] at h; exact ⟨[0], rfl, h⟩)
        | exact ⟨[0], rfl, h⟩
        | (try dsimp [mergeO, mapO, idx, renO, renV, renL, renE, fogOf, fogE, back, forget, gather, getO, setO, Nat.beq, List.drop, List.take, frzH, frzO, frzV, frzL, frzE]); trace_state; sorry
    have c7' := of_decide_eq_false c7
    refine branch_i (fun c8 => ?_) (fun c8 => ?_) <;> try rw [c8] <;> conv => whnf
    · have c8' := of_decide_eq_true c8
      rw [if_pos (.inr c8')] at h
      refine ⟨List.range 14, by kernel_rfl, by kernel_rfl, ?_⟩
      conv => whnf
      first
        | (rw [← hn hx] at h; exact ⟨[0], rfl, h⟩)
        | exact ⟨[0], rfl, h⟩
        | (try dsimp [mergeO, mapO, idx, renO, renV, renL, renE, fogOf, fogE, back, forget, gather, getO, setO, Nat.beq, List.drop, List.take, frzH, frzO, frzV, frzL, frzE]); trace_state; sorry
    have c8' := of_decide_eq_false c8
    rw [if_neg (by omega)] at h
    first
      | exact ⟨[0], rfl, h⟩
      | (try dsimp [mergeO, mapO, idx, renO, renV, renL, renE, fogOf, fogE, back, forget, gather, getO, setO, Nat.beq, List.drop, List.take, frzH, frzO, frzV, frzL, frzE]); trace_state; sorry

theorem BlTake_spec {b : List UInt8} {s : Sc} {num : Int} {e : Evt} (hs : ScOk s) (hn : numOk s num) (hen : e.k = 2 → 0 ≤ e.n) (h : ∀ num', numOk (takeX s e s.a).1 num' → Q (fI (takeX s e s.a).2) [scO b (takeX s e s.a).1 num']) :
    ACall Tryz.prog 43 1 [.ptr 0 0, evA e] [scO b s num] Q := by
  refine by_body Tryz.func43 1 rfl (Nat.le_of_ble_eq_true rfl) ?_
  unfold takeX at h
  conv => whnf
  refine branch_i (fun c2 => ?_) (fun c2 => ?_) <;> try rw [c2] <;> conv => whnf
  · have c2' := of_decide_eq_true c2
    rw [if_pos c2'] at h
    have h' := h e.n (fun _ => rfl)
    unfold scO at h'
    simp only at h'
    rw [decide_eq_true (hen c2')] at h'
    refine ⟨List.range 10, by kernel_rfl, by kernel_rfl, ?_⟩
    repeat (conv => whnf
            refine ⟨rfl, ?_⟩)
    conv => whnf
    exact ⟨[0], rfl, h'⟩
  rw [if_neg (of_decide_eq_false c2)] at h
  refine branch_i (fun c7 => ?_) (fun c7 => ?_) <;> try rw [c7] <;> conv => whnf
  · rw [if_pos (of_decide_eq_true c7)] at h
    exact ⟨[0], rfl, h num (fun hx => by simp only at hx; omega)⟩
  rw [if_neg (of_decide_eq_false c7)] at h
  refine branch_i (fun c8 => ?_) (fun c8 => ?_) <;> try rw [c8] <;> conv => whnf
  · rw [if_pos (of_decide_eq_true c8)] at h
    exact ⟨[0], rfl, h num (fun hx => by simp only at hx; omega)⟩
  rw [if_neg (of_decide_eq_false c8)] at h
  refine branch_i (fun c6 => ?_) (fun c6 => ?_) <;> try rw [c6] <;> conv => whnf
  rotate_left
  · rw [if_neg (of_decide_eq_false c6)] at h
    exact ⟨[0], rfl, h num hn⟩
  rw [if_pos (of_decide_eq_true c6)] at h
  refine ⟨List.range 12, by kernel_rfl, by kernel_rfl, ?_⟩
  conv => whnf
  refine .pure (Follow_spec (l := s.h) (c := e.ch) hs.h ⟨rfl, ?_⟩)
  generalize folT s.h e.ch.k e.ch.t e.ch.c e.ch.ks e.ch.col = fo at *
  repeat (conv => whnf
          refine ⟨rfl, ?_⟩)
  conv => whnf
  refine branch_i (fun c1 => ?_) (fun c1 => ?_) <;> try rw [c1] <;> conv => whnf
  · have c1' : fo.2 ≠ 0 := by simpa using c1
    rw [if_pos c1'] at h
    exact ⟨[0], rfl, h num hn⟩
  · have c1' : ¬ fo.2 ≠ 0 := by simpa using c1
    rw [if_neg c1'] at h
    exact ⟨[0], rfl, h num hn⟩

end Go.Proofs.YtcdkklgeepkopaaGreatDoorPg

/- A scanner of a log: the next event. -/
namespace Go.Proofs.YtcdkklgeepkopaaGreatDoorPg
open Go Go.RowKit
set_option linter.unusedSimpArgs false
set_option linter.unusedVariables false

variable {Q : V → List O → Prop}

theorem nxtL_len (b : List UInt8) (a : Int) : (nxtL b a).1.length ≤ b.length := by
  by_cases h : (nxtL b a).2.2 = 0
  · obtain ⟨h0, r, hr, _⟩ := nxtL_ok (b := b) (a := a) (x := (nxtL b a).1) (n := (nxtL b a).2.1) (by rw [← h])
    have := congrArg List.length hr
    rw [List.length_drop, List.length_append, frm_len] at this
    omega
  · rw [(nxtL_err b a h).1]; simp

theorem takeX_at (s : Sc) (e : Evt) (n m : Int) : (takeX s e n).2 = (takeX s e m).2 ∧ ((takeX s e m).2 = 0 → (takeX s e n).1 = ⟨n, (takeX s e m).1.l, (takeX s e m).1.h, (takeX s e m).1.x⟩) := by
  unfold takeX
  split
  · exact ⟨rfl, fun _ => rfl⟩
  split
  · exact ⟨rfl, fun _ => rfl⟩
  split
  · exact ⟨rfl, fun _ => rfl⟩
  split
  · split
    · rename_i hx; exact ⟨rfl, fun h => absurd h hx⟩
    · exact ⟨rfl, fun _ => rfl⟩
  · exact ⟨rfl, fun _ => rfl⟩

set_option maxHeartbeats 8000000 in
theorem BlSNext_spec {b : List UInt8} {s : Sc} {num : Int} (hb : b.length ≤ 900000000) (hs : ScOk s) (hn : numOk s num) (h : ∀ num', numOk (stepS b s).2.1 num' → Q (.tup [evA (stepS b s).1, fI (stepS b s).2.2]) [scO b (stepS b s).2.1 num']) :
    ACall Tryz.prog 18 1 [.ptr 0 0] [scO b s num] Q := by
  refine ACall.ret (by_body Tryz.func18 1 rfl (Nat.le_of_ble_eq_true rfl) ?_)
  unfold stepS at h
  conv => whnf
  refine ⟨List.range 16, by kernel_rfl, by kernel_rfl, ?_⟩
  conv => whnf
  refine .pure (BlNext_spec (b := b) (a := s.a) hb ⟨rfl, ?_⟩)
  have hwl := nxtL_len b s.a
  generalize nxtL b s.a = N at *
  obtain ⟨w, n, f⟩ := N
  simp only at h hwl
  repeat (conv => whnf
          refine ⟨rfl, ?_⟩)
  conv => whnf
  refine branch_i (fun c1 => ?_) (fun c1 => ?_) <;> try rw [c1] <;> conv => whnf
  · have c1' : f ≠ 0 := by simpa using c1
    rw [if_pos c1'] at h
    exact ⟨[0], rfl, .sub _ _ (.tup (.cons (.agg (ev_subZ 0)) (VSubs.refl _))) (HSub.refl _) (.done [0] rfl (h num hn))⟩
  have c1' : ¬ f ≠ 0 := by simpa using c1
  rw [if_neg c1'] at h
  unfold stepE at h
  have hnum := prdR_num (b := w) (l := s.h)
  refine .pure (EvRead_spec (b := w) (l := s.h) hs.h (by omega) ⟨rfl, ?_⟩)
  generalize prdR w s.h = E at *
  obtain ⟨e, g⟩ := E
  simp only at h hnum
  conv => whnf
  refine branch_i (fun c2 => ?_) (fun c2 => ?_) <;> try rw [c2] <;> conv => whnf
  rotate_left
  · have c2' := of_decide_eq_false c2
    rw [if_pos c2'] at h
    rw [decide_eq_false c2']
    conv => whnf
    rw [decide_eq_false c2']
    conv => whnf
    exact ⟨[0], rfl, .sub _ _ (.tup (.cons (.agg (ev_subZ 0)) (VSubs.refl _))) (HSub.refl _) (.done [0] rfl (h num hn))⟩
  have c2' := of_decide_eq_true c2
  rw [if_neg (by simpa using c2')] at h
  subst c2'
  refine .call [0] 1 ⟨rfl, rfl, rfl⟩ (BlMay_spec (b := b) (s := s) (num := num) (e := e) hn ?_)
  conv => whnf
  cases hm : mayX s.x e <;> rw [hm] at h
  · rw [if_pos rfl] at h
    conv => whnf
    exact ⟨[0], rfl, .sub _ _ (.tup (.cons (.agg (ev_subZ 0)) (VSubs.refl _))) (HSub.refl _) (.done [0] rfl (h num hn))⟩
  rw [if_neg (by decide)] at h
  conv => whnf
  obtain ⟨ta1, ta2⟩ := takeX_at s e n s.a
  refine .call [0] 1 ⟨rfl, rfl, rfl⟩ (BlTake_spec (b := b) (s := s) (num := num) (e := e) hs hn (fun _ => hnum rfl) fun num' hn' => ?_)
  rw [ta1] at h
  generalize hT : takeX s e s.a = T at *
  obtain ⟨s', er⟩ := T
  simp only at ta1 ta2 hn' h ⊢
  conv => whnf
  refine branch_i (fun c3 => ?_) (fun c3 => ?_) <;> try rw [c3] <;> conv => whnf
  · have c3' : er ≠ 0 := by simpa using c3
    rw [if_pos c3'] at h
    have hs' : s' = s := by
      have : (takeX s e s.a).1 = s := by
        have h2 : (takeX s e s.a).2 ≠ 0 := by rw [hT]; exact c3'
        unfold takeX at h2 ⊢
        repeat' split at h2
        all_goals simp_all
      rw [hT] at this; exact this
    subst hs'
    exact ⟨[0], rfl, .sub _ _ (.tup (.cons (.agg (ev_subZ 0)) (VSubs.refl _))) (HSub.refl _) (.done [0] rfl (h num' hn'))⟩
  · have c3' : er = 0 := by simpa using c3
    rw [if_neg (by simpa using c3'), ta2 c3'] at h
    exact ⟨[0], rfl, .done [0] rfl (h num' hn')⟩

end Go.Proofs.YtcdkklgeepkopaaGreatDoorPg

/- The document's scanner: the next event. -/
namespace Go.Proofs.YtcdkklgeepkopaaGreatDoorPg
open Go Go.RowKit
set_option linter.unusedSimpArgs false
set_option linter.unusedVariables false

variable {Q : V → List O → Prop}

end Go.Proofs.YtcdkklgeepkopaaGreatDoorPg

/- A log's events: the document's. -/
namespace Go.Proofs.YtcdkklgeepkopaaGreatDoorPg
open Go Go.RowKit
set_option linter.unusedSimpArgs false
set_option linter.unusedVariables false

variable {Q : V → List O → Prop}

def evs (l : List Evt) : List (List V) := l.map evC
theorem evs_len (l : List Evt) : (evs l).length = l.length := by simp [evs]
theorem evs_app (a b : List Evt) : evs (a ++ b) = evs a ++ evs b := by simp [evs]

theorem app_evF {i j n : Nat} {f : Bool} {X : List (List V)} {w : Evt} {H : List O} {K : V → List O → Prop} (hij : Nat.beq i j = false) (hX : getO H i = .buf X) (hn : n = X.length) (hs : X.length ≤ 1000000000)
    (hK : copyH (setO H i .dead ++ [.buf (X ++ [evC w])]) fun H' => K (.ms 12 (setO H i .dead).length 0 (X ++ [evC w]).length false) H') :
    0 + 1 ≤ 1 ∧ aapp 12 (tt 49).bytes (.ms 12 i 0 n false) (.ms 12 j 0 1 f) [evC w] H K := by
  subst hn
  refine ⟨Nat.le_refl 1, ?_⟩
  unfold aapp sameBuf
  simp only [hij]
  unfold aappend
  simp only [show Nat.beq 12 12 = true from rfl, hX, List.drop_zero]
  refine ⟨rfl, ?_⟩
  unfold newBuf
  exact ⟨by rw [List.length_append, List.length_singleton, show (tt 49).bytes = 168 from rfl]; omega, hK⟩

theorem app_evT {i j n : Nat} {f : Bool} {X : List (List V)} {w : Evt} {H : List O} {K : V → List O → Prop} (hij : Nat.beq i j = false) (hX : getO H i = .buf X) (hn : n = X.length) (hs : X.length ≤ 1000000000)
    (hK : copyH (H ++ [.buf (X ++ [evC w])]) fun H' => K (.ms 12 H.length 0 (X ++ [evC w]).length false) H') :
    0 + 1 ≤ 1 ∧ aapp 12 (tt 49).bytes (.ms 12 i 0 n true) (.ms 12 j 0 1 f) [evC w] H K := by
  subst hn
  refine ⟨Nat.le_refl 1, ?_⟩
  unfold aapp sameBuf
  simp only
  unfold aappend
  simp only [show Nat.beq 12 12 = true from rfl, hX, List.drop_zero]
  refine ⟨by omega, fun e => by simp at e, fun _ => ?_⟩
  rw [List.take_length]
  unfold newBuf
  exact ⟨by rw [List.length_append, List.length_singleton, show (tt 49).bytes = 168 from rfl]; omega, hK⟩

def ev0 : List V := [fI 1, fI 1, .str [], .nils, .nils, fI 0, .str [], .nils, fI 0, .str [], fI 0, .bool false]
theorem ev0_sub : VSubs ev0 (evC evS) := .cons (.refl _) (.cons (.refl _) (.cons (.refl _) (.cons (nils_sl3 false) (.cons (nils_sl3 false) (.cons (.refl _) (.cons (.refl _) (.cons (nils_sl3 false) (VSubs.refl _))))))))

theorem VSub.slRows {z : Nat} {es es' : List (List V)} {f : Bool} (hl : es.length = es'.length) (h : ∀ (i : Nat) e e', es[i]? = some e → es'[i]? = some e' → VSubs e e') : VSub (.sl z es f) (.sl z es' f) := fun I ρ u hr => by
  have hex : ∀ i e', es'[i]? = some e' → ∃ e, es[i]? = some e ∧ VSubs e e' := fun i e' he' => by
    have hi := (List.getElem?_eq_some_iff.1 he').1
    exact ⟨es[i], List.getElem?_eq_getElem (by omega), h i _ _ (List.getElem?_eq_getElem (by omega)) he'⟩
  have hc : ∀ (i : Nat) e' (j : Nat) c', es'[i]? = some e' → e'[j]? = some c' → ∃ e c, es[i]? = some e ∧ e[j]? = some c ∧ VSub c c' := fun i e' j c' he' hc' => by
    obtain ⟨e, he, hv⟩ := hex i e' he'
    have hj := (List.getElem?_eq_some_iff.1 hc').1
    have hj' : j < e.length := by rw [hv.1]; exact hj
    exact ⟨e, e[j], he, List.getElem?_eq_getElem hj', hv.2 j _ _ (List.getElem?_eq_getElem hj') hc'⟩
  cases hr with
  | sl _ _ _ _ b base cap u h1 h2 h3 h4 h5 h6 =>
    rw [hl] at h1 h2 ⊢
    refine .sl _ _ _ _ _ _ _ u h1 h2 (fun i e' he' => ?_) (fun i e' j c' he' hc' => ?_) (fun i e' j c' he' hc' => ?_) (fun i e' j c' he' hc' => ?_)
    · obtain ⟨e, he, hv⟩ := hex i e' he'
      rw [← hv.1]; exact h3 i e he
    · obtain ⟨e, c, he, hc1, _⟩ := hc i e' j c' he' hc'
      exact h4 i e j c he hc1
    · obtain ⟨e, c, he, hc1, _⟩ := hc i e' j c' he' hc'
      exact h5 i e j c he hc1
    · obtain ⟨e, c, he, hc1, hv⟩ := hc i e' j c' he' hc'
      exact hv _ _ _ (h6 i e j c he hc1)
  | slnil => 
    have : es' = [] := List.length_eq_zero_iff.1 (by rw [← hl]; rfl)
    subst this
    exact .slnil _ _ _ _

theorem ev0_rows (l : List Evt) (f : Bool) : VSub (.sl 12 (ev0 :: evs l) f) (.sl 12 (evs (evS :: l)) f) := VSub.slRows (by rw [List.length_cons, evs_len, evs_len, List.length_cons]) fun i e e' h1 h2 => by
  cases i with
  | zero => simp [evs] at h1 h2; subst h1 h2; exact ev0_sub
  | succ i => simp [evs] at h1 h2; obtain ⟨x, hx, rfl⟩ := h1; obtain ⟨y, hy, rfl⟩ := h2; rw [hx] at hy; cases hy; exact VSubs.refl _

theorem start_len : start.length = 7 := by decide +kernel

theorem Run.le {b : List UInt8} {s s2 : Sc} {es : List Evt} (h : Run b s es s2) (hs : ScOk s) (ha : s.a ≤ (b.length : Int)) : s2.a ≤ (b.length : Int) := by
  induction h with
  | nil s => exact ha
  | cons h t ih => exact ih (stepS_inv hs h).1 (stepS_inv hs h).2.2

theorem evs_way {b : List UInt8} {pre : List Evt} {s : Sc} (hb7 : ¬ (b.length < 7 ∨ b.take 7 ≠ start)) (h : Run b sc0 pre s) (he : (stepS b s).2.2 ≠ 0) :
    evsL b = (evS :: pre, s.a, if (stepS b s).2.2 = 7 ∧ s.a = (b.length : Int) ∧ 0 ≤ s.x then 4 else (stepS b s).2.2) := by
  rw [not_or] at hb7
  obtain ⟨g1, g2, g3⟩ := wayE_run (b := b) (b.length + 1) sc0_ok (by show (b.length : Int) - 7 < _; omega) (by decide) (by show (7 : Int) ≤ _; omega)
  obtain ⟨e1, e2⟩ := h.uniq g1 he g2
  unfold evsL
  rw [if_neg (by rw [not_or]; exact hb7), g3, ← e2, ← e1]

def evR (r : List Evt × Int × Int) : V := .tup [.sl 12 (evs r.1) false, fI r.2.1, fI r.2.2]

theorem nil_evR (a e : Int) : VSub (.tup [.nils, fI a, fI e]) (evR ([], a, e)) := .tup (.cons (VSub.nils 12 false) (VSubs.refl _))

theorem ev_ret {pre : List Evt} {fl : Bool} {a er : Int} (h : Q (evR (evS :: pre, a, er)) []) : ARet 0 Q (.tup [.ms 12 0 0 (ev0 :: evs pre).length fl, fI a, fI er]) [.buf (ev0 :: evs pre)] := by
  refine .frz 0 rfl ⟨by omega, trivial⟩ (.sub (evR (evS :: pre, a, er)) [.dead] ?_ (HSub.refl _) (.done [] rfl h))
  refine .tup (.cons (fun I ρ u hr => ev0_rows pre false I ρ u (VSub.room _ _ fl I ρ u ?_)) (VSubs.refl _))
  have hr' : VRel I ρ (.sl 12 (List.take (ev0 :: evs pre).length (List.drop 0 (ev0 :: evs pre))) fl) u := hr
  rw [List.drop_zero, List.take_length] at hr'
  exact hr'

end Go.Proofs.YtcdkklgeepkopaaGreatDoorPg

/- A log's events: the program's. -/
namespace Go.Proofs.YtcdkklgeepkopaaGreatDoorPg
open Go Go.RowKit
set_option linter.unusedSimpArgs false
set_option linter.unusedVariables false

variable {Q : V → List O → Prop}

def YieldT (P : Program) (ks : List Pl) (J : List (List V) → List O → Prop) (L : List (List V)) : Prop :=
  ∀ pre x post B, pre ++ x :: post = L → AYield P 1 (.yld 0 :: x) [.res (packR (J pre) ks B) B] fun r H' => ∃ B', r = .bool true ∧ H' = [.res (packR (J (pre ++ [x])) ks B') B']

theorem yieldT_intro {P : Program} {ks : List Pl} {J : List (List V) → List O → Prop} {L : List (List V)} (hL : ∀ x ∈ L, ∀ a ∈ x, ClosedV a)
    (h : ∀ pre x post Hs, pre ++ x :: post = L → J pre Hs → AYield P ks.length (.yld 0 :: x) Hs fun r Hs' => r = .bool true ∧ J (pre ++ [x]) Hs') : YieldT P ks J L :=
  fun pre x post B hp => packed_yieldC (hL x (by rw [← hp]; simp)) (fun Hs hJ => h pre x post Hs hp hJ) fun r Hs B' hr => by
    obtain ⟨rfl, h1⟩ := hr
    exact ⟨⟨_, rfl⟩, _, h1, B', rfl, rfl⟩

theorem BlAll_spec {b : List UInt8} {s : Sc} {num e : Int} (h : Q (.fn (.func 84) [] [.ptr 2 0, .ptr 3 0]) [scO b s num, .cells [fI e], .cells [.ptr 0 0], .cells [.ptr 1 0]]) :
    ACall Tryz.prog 51 2 [.ptr 0 0, .ptr 1 0] [scO b s num, .cells [fI e]] Q := by
  refine by_body Tryz.func51 2 rfl (Nat.le_of_ble_eq_true rfl) ?_
  conv => whnf
  exact ⟨[0, 1, 2, 3], rfl, h⟩

def evA1 (e : Evt) : List V := [evA e]

theorem BlAll1_spec {b : List UInt8} {s0 : Sc} {num0 e0 : Int} {es : List Evt} {s1 : Sc} {J : List (List V) → List O → Prop} {ks : List Pl} {B : List Nat}
    (hb : b.length ≤ 900000000) (hs : ScOk s0) (ha : s0.a ≤ (b.length : Int)) (ha0 : 0 ≤ s0.a) (hn : numOk s0 num0) (hrun : Run b s0 es s1) (hend : (stepS b s1).2.2 ≠ 0)
    (hy : YieldT Tryz.prog ks J (es.map evA1))
    (h : ∀ B' num1, numOk s1 num1 → Q (.tup []) [.res (packR (J (es.map evA1)) ks B') B', scO b s1 num1, .cells [fI (stepS b s1).2.2], .cells [.ptr 1 0], .cells [.ptr 2 0]]) :
    ACall Tryz.prog 84 5 [.yld 0, .ptr 3 0, .ptr 4 0] [.res (packR (J []) ks B) B, scO b s0 num0, .cells [fI e0], .cells [.ptr 1 0], .cells [.ptr 2 0]] Q := by
  refine by_body Tryz.func84 5 rfl (Nat.le_of_ble_eq_true rfl) ?_
  conv => whnf
  refine ⟨⟨[0, 1, 2], fun mm ws H => ∃ (pre : List Evt) (s : Sc) (num e : Int) (B : List Nat), ws = [.yld 0, .ptr 3 0, .ptr 4 0] ∧ H = [.res (packR (J (pre.map evA1)) ks B) B, scO b s num, .cells [fI e], .cells [.ptr 1 0], .cells [.ptr 2 0]] ∧ Run b s0 pre s ∧ numOk s num ∧ mm = (b.length - s.a).toNat,
    .at (b.length - s0.a).toNat ⟨[], s0, num0, e0, B, rfl, rfl, .nil _, hn, rfl⟩, ?_⟩⟩
  rintro mm ws H ⟨pre, s, num, e, B, rfl, rfl, hr, hnum, rfl⟩
  obtain ⟨hsok, hsl⟩ := hr.ok hs
  have hle := hr.le hs ha
  conv => whnf
  refine .call [1] 1 ⟨rfl, rfl, rfl⟩ (BlSNext_spec (b := b) (s := s) (num := num) hb hsok hnum fun num' hn' => ?_)
  have hsn := fun h => hr.snoc (s2 := s) h
  have hinv := fun h => stepS_inv (b := b) hsok h
  have herr := fun h => stepS_err (b := b) (s := s) h
  have hst : (stepS b s).2.2 ≠ 0 → es = pre ∧ s1 = s := fun hne => hrun.uniq hr hend hne
  have hyes : (stepS b s).2.2 = 0 → ∃ post, pre ++ (stepS b s).1 :: post = es := fun h0 => by
    obtain ⟨g1, g2, g3⟩ := stepS_inv hsok h0
    obtain ⟨k1, k2, k3⟩ := wayE_run (b := b) (b.length + 1) g1 (by omega) (by omega) g3
    obtain ⟨u1, _⟩ := ((hr.snoc h0).app k1).uniq hrun k2 hend
    exact ⟨_, by rw [← u1, List.append_assoc]; rfl⟩
  have hse := fun (e : s1 = s) => (show (stepS b s1).2.2 = (stepS b s).2.2 by rw [e])
  generalize hR : stepS b s = R at *
  obtain ⟨ev, s', g⟩ := R
  simp only at hsn hinv herr hst hyes hn' hse
  conv => whnf
  refine branch_i (fun c1 => ?_) (fun c1 => ?_) <;> try rw [c1] <;> conv => whnf
  · have c1' : g ≠ 0 := by simpa using c1
    obtain ⟨rfl, rfl⟩ := hst c1'
    obtain ⟨_, rfl⟩ := herr c1'
    have h' := h B num' hn'
    rw [hR] at h'
    exact ⟨[0, 1, 2, 3, 4], rfl, h'⟩
  have c1' : g = 0 := by simpa using c1
  obtain ⟨post, hp⟩ := hyes c1'
  obtain ⟨i1, i2, i3⟩ := hinv c1'
  refine .call [0] 1 ⟨rfl, rfl, rfl⟩ (AYield.mono (hy (pre.map evA1) (evA1 ev) (post.map evA1) B (by rw [← hp]; simp)) ?_)
  rintro r H' ⟨B2, rfl, rfl⟩
  conv => whnf
  refine .go [0, 1, 2, 3, 4] rfl (b.length - s'.a).toNat (by omega) ⟨pre ++ [ev], s', num', g, B2, rfl, ?_, hsn c1', hn', rfl⟩
  show _ = [O.res (packR (J ((pre ++ [ev]).map evA1)) ks B2) B2, scO b s' num', .cells [fI g], .cells [.ptr 1 0], .cells [.ptr 2 0]]
  rw [List.map_append]
  rfl

def evJ (c : LoopC) (pre : List (List V)) (Hs : List O) : Prop :=
  ∃ (l : List Evt) (fl : Bool), pre = l.map evA1 ∧ Hs = [.loop c .ready [(6, .ptr 1 0)], .cells [.ms 12 2 0 (ev0 :: evs l).length fl], .buf (ev0 :: evs l)]

theorem evA1_inj {l m : List Evt} (h : l.map evA1 = m.map evA1) : evs l = evs m := by
  unfold evs
  have := congrArg (fun x => x.map fun y => match y with | [.agg c] => c | _ => []) h
  simp only [List.map_map] at this
  exact this

set_option maxHeartbeats 16000000 in
theorem BlEvents_spec {b : List UInt8} {f : Bool} (hb : b.length ≤ 900000000) (h : Q (evR (evsL b)) []) : ACall Tryz.prog 25 0 [.sl 1 (bs b) f] [] Q := by
  refine ACall.ret (by_body Tryz.func25 0 rfl (Nat.le_of_ble_eq_true rfl) ?_)
  have hlb := bs_len b
  conv => whnf
  refine .call [] 0 ⟨rfl, rfl, rfl⟩ (BlNew_spec ?_)
  have hway := fun pre s => evs_way (b := b) (pre := pre) (s := s)
  have hsh : (b.length < 7 ∨ b.take 7 ≠ start) → evsL b = ([], 0, 2) := fun hh => by unfold evsL; rw [if_pos hh]
  have hsl := start_len
  generalize start = st at *
  have hls := bs_len st
  conv => whnf
  refine ⟨List.range 15, by kernel_rfl, by kernel_rfl, ?_⟩
  conv => whnf
  rw [hsl]
  refine branch_i (fun c1 => ?_) (fun c1 => ?_) <;> try rw [c1] <;> conv => whnf
  · have c1' := of_decide_eq_true c1
    rw [hsh (.inl (by omega))] at h
    exact ⟨[], rfl, .sub _ _ (nil_evR _ _) (HSub.refl _) (.done [] rfl h)⟩
  have c1' := of_decide_eq_false c1
  refine ⟨⟨by omega, by omega⟩, ?_⟩
  rw [bs_take]
  conv => whnf
  refine ⟨_, bytesOfEs_bs _, ?_⟩
  conv => whnf
  refine ⟨by omega, st, ?_, ?_⟩
  · rw [List.drop_zero, show List.take 7 (bs st) = bs st by rw [← hsl, ← hls, List.take_length]]; exact bytesOfEs_bs _
  conv => whnf
  refine branch_i (fun c2 => ?_) (fun c2 => ?_) <;> try rw [c2] <;> conv => whnf
  · have c2' : List.take 7 b ≠ st := by simpa using c2
    rw [hsh (.inr c2')] at h
    exact ⟨[], rfl, .sub _ _ (nil_evR _ _) (HSub.refl _) (.done [] rfl h)⟩
  have c2' : List.take 7 b = st := by simpa using c2
  have hb7 : ¬ (b.length < 7 ∨ b.take 7 ≠ st) := by rw [not_or]; exact ⟨by omega, by simpa using c2'⟩
  obtain ⟨w1, w2, w3⟩ := wayE_run (b := b) (b.length + 1) sc0_ok (by show (b.length : Int) - 7 < _; omega) (by decide) (by show (7 : Int) ≤ _; omega)
  generalize (wayE b (b.length + 1) sc0).1 = es at *
  generalize (wayE b (b.length + 1) sc0).2.1 = s1 at *
  have hfin := hway es s1 hb7 w1 w2
  rw [hfin] at h
  have hle := w1.le sc0_ok (by show (7 : Int) ≤ _; omega)
  obtain ⟨hsok, hlen7⟩ := w1.ok sc0_ok
  have hel : (es.length : Int) + 7 ≤ s1.a := by have : (7 : Int) + es.length ≤ s1.a := hlen7; omega
  refine .call [] 0 ⟨rfl, rfl, rfl⟩ (ACall.args (.cons (.refl _) (.cons (.refl _) (.cons (nils_sl3 false) (VSubs.refl _)))) (BlScan_spec (b := b) (a := 7) (l := []) (fun e => hb7 (.inl (by rw [e]; decide))) hb tbsB_nil ?_))
  conv => whnf
  refine .call [3, 4] 2 ⟨rfl, rfl, rfl⟩ (BlAll_spec (b := b) (s := sc0) (num := 0) (e := 0) ?_)
  conv => whnf
  refine ⟨[6], fun c hc => .pack [7, 2, 1] [3, 4, 5, 6] 2 (evJ c []) (evJ c (es.map evA1)) rfl ⟨[], true, rfl, rfl⟩ fun ks B hks => ?_⟩
  refine BlAll1_spec (b := b) (s0 := sc0) (num0 := 0) (e0 := 0) (es := es) (s1 := s1) (J := evJ c) hb sc0_ok (by show (7 : Int) ≤ _; omega) (by decide) (fun hx => by simp [sc0] at hx) w1 w2 (yieldT_intro ?_ ?_) ?_
  · intro x hx a ha
    obtain ⟨e, _, rfl⟩ := List.mem_map.1 hx
    simp only [evA1, List.mem_singleton] at ha
    subst ha
    exact ClosedV.agg rfl
  · rintro pre x post Hs hp ⟨l, fl, rfl, rfl⟩
    obtain ⟨e, rfl⟩ : ∃ e, x = evA1 e := by
      have hx : x ∈ es.map evA1 := by rw [← hp]; simp
      obtain ⟨e, _, rfl⟩ := List.mem_map.1 hx
      exact ⟨e, rfl⟩
    have hll : l.length < es.length := by have := congrArg List.length hp; simp at this; omega
    have hl1 := evs_len l
    rw [hks]
    subst hc
    refine ayield_intro (cx_ok 0 0) ?_
    have hcat : ev0 :: evs l ++ [evC e] = ev0 :: evs (l ++ [e]) := by rw [evs_app]; rfl
    conv => whnf
    cases fl with
    | true =>
      refine app_evT (i := 2) (j := 4) (X := ev0 :: evs l) (w := e) rfl rfl rfl (by simp only [List.length_cons]; omega) ?_
      rw [hcat]
      conv => whnf
      exact .done [0, 1, 5] rfl ⟨rfl, l ++ [e], false, by simp, rfl⟩
    | false =>
      refine app_evF (i := 2) (j := 4) (X := ev0 :: evs l) (w := e) rfl rfl rfl (by simp only [List.length_cons]; omega) ?_
      rw [hcat]
      conv => whnf
      exact .done [0, 1, 5] rfl ⟨rfl, l ++ [e], false, by simp, rfl⟩
  · intro B' num1 hn1
    refine ⟨B', _, rfl, rfl, ?_⟩
    rintro Hs ⟨l, fl, hl, rfl⟩ _
    have hle2 := evA1_inj hl
    rw [← hle2]
    generalize (stepS b s1).2.2 = g at *
    conv => whnf
    have h0 := h
    clear h
    refine branch_i (fun c3 => ?_) (fun c3 => ?_) <;> try rw [c3] <;> conv => whnf
    focus
      have c3' := of_decide_eq_true c3
      subst c3'
      refine .call [3] 1 ⟨rfl, rfl, rfl⟩ (BlOpen_spec (b := b) (s := s1) (num := num1) ?_)
      conv => whnf
      refine branch_i (fun c4 => ?_) (fun c4 => ?_) <;> try rw [c4] <;> conv => whnf
      focus
        have c4' := of_decide_eq_true c4
        refine .call [3] 1 ⟨rfl, rfl, rfl⟩ (BlAt_spec (b := b) (s := s1) (num := num1) ?_)
        conv => whnf
        refine branch_i (fun c5 => ?_) (fun c5 => ?_) <;> try rw [c5] <;> conv => whnf
        · have c5' := of_decide_eq_true c5
          have h := h0
          rw [if_pos ⟨rfl, by omega, c4'⟩] at h
          refine ⟨[0, 1, 3, 2, 4, 5, 6], by kernel_rfl, by kernel_rfl, ?_⟩
          conv => whnf
          refine .call [3] 1 ⟨rfl, rfl, rfl⟩ (BlAt_spec ?_)
          repeat (conv => whnf
                  refine ⟨rfl, ?_⟩)
          conv => whnf
          exact ⟨[1], rfl, ev_ret h⟩
        · have c5' := of_decide_eq_false c5
          have h := h0
          rw [if_neg (fun hh => c5' (by omega))] at h
          refine ⟨[0, 1, 3, 2, 4, 5, 6], by kernel_rfl, by kernel_rfl, ?_⟩
          conv => whnf
          refine .call [3] 1 ⟨rfl, rfl, rfl⟩ (BlAt_spec ?_)
          repeat (conv => whnf
                  refine ⟨rfl, ?_⟩)
          conv => whnf
          exact ⟨[1], rfl, ev_ret h⟩
      have c4' := of_decide_eq_false c4
      have h := h0
      rw [if_neg (fun hh => c4' hh.2.2)] at h
      refine ⟨[0, 1, 3, 2, 4, 5, 6], by kernel_rfl, by kernel_rfl, ?_⟩
      conv => whnf
      refine .call [3] 1 ⟨rfl, rfl, rfl⟩ (BlAt_spec ?_)
      repeat (conv => whnf
              refine ⟨rfl, ?_⟩)
      conv => whnf
      exact ⟨[1], rfl, ev_ret h⟩
    have c3' := of_decide_eq_false c3
    have h := h0
    rw [if_neg (fun hh => c3' hh.1)] at h
    refine ⟨[0, 1, 3, 2, 4, 5, 6], by kernel_rfl, by kernel_rfl, ?_⟩
    conv => whnf
    refine .call [3] 1 ⟨rfl, rfl, rfl⟩ (BlAt_spec ?_)
    repeat (conv => whnf
            refine ⟨rfl, ?_⟩)
    conv => whnf
    exact ⟨[1], rfl, ev_ret h⟩

end Go.Proofs.YtcdkklgeepkopaaGreatDoorPg

/- The document's example of a log; the laws BinlogFrames, BinlogBursts. -/
namespace Go.Proofs.YtcdkklgeepkopaaGreatDoorPg
open Go Go.RowKit
set_option linter.unusedSimpArgs false
set_option linter.unusedVariables false

variable {Q : V → List O → Prop}

theorem evs_start : evsL start = ([evS], 7, 7) := by
  have hl := start_len
  have hst : (stepS start sc0).2.2 = 7 := by
    have hn : nxtL start sc0.a = ([], 7, 7) := by
      unfold nxtL
      rw [hl]; rfl
    unfold stepS
    rw [hn]; rfl
  have := evs_way (b := start) (pre := []) (s := sc0) (by rw [not_or]; exact ⟨by omega, by rw [← hl, List.take_length]; simp⟩) (.nil _) (by rw [hst]; decide)
  rw [this, hst]
  rw [if_neg (by rintro ⟨_, _, hx⟩; revert hx; decide)]
  rfl

theorem start_get : start[0]? = some 2 ∧ start[1]? = some 1 ∧ start[2]? = some 1 := by decide +kernel

set_option maxHeartbeats 4000000 in
theorem lives07_spec (h : Q (.bool true) []) : ACall Tryz.prog 14 0 [] [] Q := by
  refine by_body Tryz.func14 0 rfl (Nat.le_of_ble_eq_true rfl) ?_
  conv => whnf
  have hE := evs_start
  have hl := start_len
  obtain ⟨g0, g1, g2⟩ := start_get
  refine .call [] 0 ⟨rfl, rfl, rfl⟩ (BlNew_spec ?_)
  generalize start = st at *
  have hls := bs_len st
  conv => whnf
  have hT : List.take st.length (List.drop 0 (bs st)) = bs st := by rw [List.drop_zero, ← hls, List.take_length]
  refine ACalls.frz 0 rfl rfl (by repeat (first | exact trivial | refine And.intro (by omega) ?_)) ?_
  refine ACalls.sub [.sl 1 (bs st) false] _ rfl (.cons (VSub.eq (congrArg (fun z => V.sl 1 z false) hT)) (VSubs.refl _)) (HSub.refl _) ?_
  refine .call [] 0 ⟨rfl, rfl, rfl⟩ (BlEvents_spec (b := st) (by omega) ?_)
  rw [hE]
  conv => whnf
  have hTl : (List.take st.length (List.drop 0 (bs st))).length = 7 := by rw [hT, hls, hl]
  have hb0 : ∀ (i : Nat) x, st[i]? = some x → (List.take st.length (List.drop 0 (bs st)))[i]? = some [.int .u8 x.toNat] := fun i x hx => by rw [hT]; exact bs_at hx
  refine branch_i (fun c1 => ?_) (fun c1 => absurd (by omega) (of_decide_eq_false c1)) <;> try rw [c1] <;> conv => whnf
  refine ⟨_, ⟨by omega, hb0 0 _ g0⟩, ?_⟩
  conv => whnf
  refine ⟨_, ⟨by omega, hb0 1 _ g1⟩, ?_⟩
  conv => whnf
  refine ⟨_, ⟨by omega, hb0 2 _ g2⟩, ?_⟩
  conv => whnf
  exact ⟨[], rfl, h⟩

theorem few07_spec {b : List UInt8} {f : Bool} {m : Nat} (h : ∀ g, Q (.sl 1 (bs (b.take m)) g) []) : ACall Tryz.prog 10 0 [.sl 1 (bs b) f, fI m] [] Q := by
  refine by_body Tryz.func10 0 rfl (Nat.le_of_ble_eq_true rfl) ?_
  have hlb := bs_len b
  conv => whnf
  refine branch_i (fun c1 => ?_) (fun c1 => ?_) <;> try rw [c1] <;> conv => whnf
  · have c1' := of_decide_eq_true c1
    refine ⟨⟨by omega, by omega⟩, ?_⟩
    rw [bs_take, Int.toNat_natCast]
    conv => whnf
    exact ⟨[], rfl, h _⟩
  · have c1' := of_decide_eq_false c1
    have h' := h f
    rw [List.take_of_length_le (by omega)] at h'
    exact ⟨[], rfl, h'⟩

end Go.Proofs.YtcdkklgeepkopaaGreatDoorPg

/- A burst of bits in a frame: the law BinlogBursts. -/
namespace Go.Proofs.YtcdkklgeepkopaaGreatDoorPg
open Go Go.RowKit
set_option linter.unusedSimpArgs false
set_option linter.unusedVariables false

variable {Q : V → List O → Prop}

theorem xorL_get : ∀ (a b : List UInt8) (i : Nat), (xorL a b)[i]? = (match a[i]?, b[i]? with | some x, some y => some (x ^^^ y) | _, _ => none)
  | [], b, i => by simp [xorL]
  | x :: a, [], i => by simp [xorL]
  | x :: a, y :: b, 0 => by simp [xorL]
  | x :: a, y :: b, i + 1 => by simp only [xorL, List.getElem?_cons_succ]; exact xorL_get a b i

theorem xorL_app : ∀ {a c : List UInt8} (b d : List UInt8), a.length = c.length → xorL (a ++ b) (c ++ d) = xorL a c ++ xorL b d
  | [], [], b, d, _ => rfl
  | x :: a, y :: c, b, d, h => by simp only [List.cons_append, xorL]; rw [xorL_app b d (by simpa using h)]

theorem xorL_zero : ∀ (a : List UInt8), xorL a (List.replicate a.length 0) = a
  | [] => rfl
  | x :: a => by simp only [List.length_cons, List.replicate_succ, xorL]; rw [xorL_zero a]; simp

def mskN (n k w i : Nat) : List UInt8 := List.replicate k 0 ++ (le4 w).take i ++ List.replicate (n - k - i) 0
theorem mskN_len {n k w i : Nat} (h : k + i ≤ n) (hi : i ≤ 4) : (mskN n k w i).length = n := by
  unfold mskN; rw [List.length_append, List.length_append, List.length_replicate, List.length_replicate, List.length_take, le4_len]; omega

theorem mskN_get {n k w i : Nat} (h : k + i ≤ n) (hi : i ≤ 4) (j : Nat) : (mskN n k w i)[j]? = if j < n then some (if k ≤ j ∧ j < k + i then (le4 w).getD (j - k) 0 else 0) else none := by
  unfold mskN
  have h4 : ∀ x, x < 4 → (le4 w)[x]? = some ((le4 w).getD x 0) := fun x hx => by
    have : x < (le4 w).length := by rw [le4_len]; exact hx
    rw [List.getD, List.getElem?_eq_getElem this]; rfl
  have hlA : (List.replicate k (0 : UInt8) ++ (le4 w).take i).length = k + i := by rw [List.length_append, List.length_replicate, List.length_take, le4_len]; omega
  rcases Nat.lt_or_ge j (k + i) with h1 | h1
  · rw [List.getElem?_append_left (by omega)]
    rcases Nat.lt_or_ge j k with h2 | h2
    · rw [List.getElem?_append_left (by rw [List.length_replicate]; exact h2), List.getElem?_replicate, if_pos h2, if_pos (by omega), if_neg (by omega)]
    · rw [List.getElem?_append_right (by rw [List.length_replicate]; exact h2), List.length_replicate, List.getElem?_take, if_pos (by omega), if_pos (by omega), if_pos ⟨h2, h1⟩, h4 _ (by omega)]
  · rw [List.getElem?_append_right (by omega), hlA, List.getElem?_replicate]
    by_cases hj : j < n
    · rw [if_pos (by omega), if_pos hj, if_neg (by omega)]
    · rw [if_neg (by omega), if_neg hj]

theorem msk_step {F : List UInt8} {k w i : Nat} {x : UInt8} (h : k + 4 ≤ F.length) (hi : i < 4) (hx : (xorL F (mskN F.length k w i))[k + i]? = some x) :
    (xorL F (mskN F.length k w i)).set (k + i) (x ^^^ (le4 w).getD i 0) = xorL F (mskN F.length k w (i + 1)) := by
  have hl1 := mskN_len (n := F.length) (k := k) (w := w) (i := i) (by omega) (by omega)
  refine List.ext_getElem? fun j => ?_
  rw [List.getElem?_set, xorL_get, xorL_get, mskN_get (by omega) (by omega), mskN_get (by omega) (by omega), xorL_len hl1.symm]
  rw [xorL_get, mskN_get (by omega) (by omega)] at hx
  split
  · rename_i e; subst e
    have hlt : k + i < F.length := by omega
    rw [List.getElem?_eq_getElem hlt] at hx ⊢
    rw [if_pos hlt, if_neg (by omega)] at hx
    rw [if_pos hlt, if_pos hlt, if_pos (by omega), Nat.add_sub_cancel_left]
    simp only [Option.some.injEq] at hx ⊢
    rw [← hx]; simp
  · rename_i hne
    by_cases hj : k ≤ j ∧ j < k + i
    · rw [if_pos hj, if_pos (show k ≤ j ∧ j < k + (i + 1) by omega)]
    · rw [if_neg hj, if_neg (show ¬ (k ≤ j ∧ j < k + (i + 1)) by omega)]

theorem leN_zero : ∀ n, leN (List.replicate n 0) = 0
  | 0 => rfl
  | n + 1 => by simp only [List.replicate_succ, leN]; rw [leN_zero n]; rfl

theorem nxt_burst {body : List UInt8} {w j : Nat} (hb : body.length ≤ 1000) (hw : w < 2 ^ 32) (hw0 : w ≠ 0) (hj : j ≤ body.length) :
    nxtL (xorL (frm body) (mskN (frm body).length ((numW (body.length : Int)).length + j) w 4)) 0 = ([], 0, 3) := by
  have hfl := frm_len body
  have hpos := numW_pos (body.length : Int)
  have hmk : mskN (frm body).length ((numW (body.length : Int)).length + j) w 4 = List.replicate (numW (body.length : Int)).length 0 ++ (List.replicate j 0 ++ (le4 w ++ List.replicate (body.length - j) 0)) := by
    unfold mskN
    rw [List.take_of_length_le (by rw [le4_len]; omega), ← List.replicate_append_replicate, show (frm body).length - ((numW (body.length : Int)).length + j) - 4 = body.length - j by omega]
    simp only [List.append_assoc]
  have hF : xorL (frm body) (mskN (frm body).length ((numW (body.length : Int)).length + j) w 4) = numW (body.length : Int) ++ xorL (crcP body) (List.replicate j 0 ++ (le4 w ++ List.replicate (body.length - j) 0)) := by
    rw [hmk]
    unfold frm
    rw [xorL_app _ _ (by rw [List.length_replicate]), xorL_zero]
  rw [hF]
  generalize hM : List.replicate j 0 ++ (le4 w ++ List.replicate (body.length - j) 0) = M at *
  have hMl : M.length = body.length + 4 := by rw [← hM, List.length_append, List.length_append, List.length_replicate, List.length_replicate, le4_len]; omega
  have hMn : leN M = 256 ^ j * w := by
    rw [← hM, leN_app, leN_zero, List.length_replicate, Nat.zero_add, leN_app, leN_zero, Nat.mul_zero, Nat.add_zero, leN_le4 hw]
  have hMs : M = M.take body.length ++ M.drop body.length := (List.take_append_drop _ _).symm
  have hm1 : (M.take body.length).length = body.length := by rw [List.length_take]; omega
  have hm2 : (M.drop body.length).length = 4 := by rw [List.length_drop]; omega
  have hx : xorL (crcP body) M = xorL body (M.take body.length) ++ xorL (le4 (crcS body)) (M.drop body.length) := by
    conv => lhs; rw [hMs]
    unfold crcP
    exact xorL_app _ _ hm1.symm
  have hbu := burst (body := body) (m1 := M.take body.length) (ck := le4 (crcS body)) (m2 := M.drop body.length) (w := w) (j := j) hm1 rfl hm2 hw hw0 hj (by rw [← hMs]; exact hMn)
  rw [hx]
  have hxl1 : (xorL body (M.take body.length)).length = body.length := xorL_len hm1.symm
  have hxl2 : (xorL (le4 (crcS body)) (M.drop body.length)).length = 4 := by rw [xorL_len (by rw [hm2]; rfl)]; rfl
  generalize xorL body (M.take body.length) = B at *
  generalize xorL (le4 (crcS body)) (M.drop body.length) = C at *
  have hn : numL (List.drop 0 (numW (body.length : Int) ++ (B ++ C))) = ((body.length : Int), B ++ C, 0) := by
    rw [List.drop_zero]; exact numL_W (by omega) (by omega) _
  unfold nxtL
  rw [if_neg (by rw [List.length_append]; omega), if_neg (by rw [List.length_append]; omega)]
  unfold nxtA
  rw [show Int.toNat 0 = 0 from rfl, hn]
  simp only
  rw [if_neg (by simp), if_neg (by rw [List.length_append]; omega), if_neg]
  · rfl
  · rw [Int.toNat_natCast, ← hxl1, List.take_left, hxl1, List.take_of_length_le (by rw [List.length_append]; omega)]
    intro he
    unfold crcP at he
    exact hbu (List.append_cancel_left he).symm

theorem app_nilms {j n : Nat} {f : Bool} {X : List UInt8} {H : List O} {K : V → List O → Prop} (hn : n = X.length) (hs : X.length ≤ 70368744177664)
    (hK : copyH (H ++ [.buf (bs X)]) fun H' => K (.ms 1 H.length 0 X.length false) H') :
    0 + n ≤ (bs X).length ∧ aapp 1 1 .nils (.ms 1 j 0 n f) (List.take n (List.drop 0 (bs X))) H K := by
  subst hn
  refine ⟨by rw [bs_len]; omega, ?_⟩
  unfold aapp sameBuf
  simp only
  unfold aappend
  have e : List.take X.length (List.drop 0 (bs X)) = bs X := by rw [List.drop_zero, ← bs_len X, List.take_length]
  rw [e]
  unfold newBuf
  rw [bs_len]
  exact ⟨by omega, hK⟩

theorem le4_code32 {s i : Nat} (hs : s < 2 ^ 32) (hi : i < 4) : IntKind.u8.wrap (Int.fdiv (s : Int) (2 ^ min (IntKind.i64.wrap (8 * (i : Int))).toNat IntKind.u32.bits)) = ((((le4 s).getD i 0).toNat : Nat) : Int) := by
  rw [← le4_code hs hi]
  have e0 : (IntKind.i64.wrap (8 * (i : Int))).toNat = 8 * i := by rw [IntKind.wrap_i64]; omega
  rw [e0, show min (8 * i) IntKind.u32.bits = 8 * i by show min (8 * i) 32 = _; omega, show min (8 * i) IntKind.i64.bits = 8 * i by show min (8 * i) 64 = _; omega]

theorem abs_i {n : Int} (h : I64 n) : ∃ m : Nat, IntKind.i64.wrap (0 - IntKind.i64.wrap (n + 1)) = (m : Int) ∨ ¬ n < 0 := by
  by_cases hn : n < 0
  · exact ⟨(-(n + 1)).toNat, .inl (by rw [wrapL (n := n + 1) (by have := h.1; omega), wrapL (by have := h.1; omega)]; omega)⟩
  · exact ⟨0, .inr hn⟩

set_option maxHeartbeats 8000000 in
theorem BinlogBursts_spec {body : List UInt8} {f1 : Bool} {a bits : Int} (ha : I64 a) : ACall Tryz.prog 7 0 [.sl 1 (bs body) f1, fI a, fI bits] [] (fun v _ => v = .bool true) := by
  refine by_body Tryz.func7 0 rfl (Nat.le_of_ble_eq_true rfl) ?_
  conv => whnf
  refine .pure (few07_spec (b := body) (m := 60) fun g2 => ⟨rfl, ?_⟩)
  have ho := List.length_take_le 60 body
  generalize body.take 60 = body at *
  have hlo := bs_len body
  conv => whnf
  refine .call [] 0 ⟨rfl, rfl, rfl⟩ (ACall.args (.cons (VSub.nils 1 false) (VSubs.refl _)) (BlFrame_spec (b := []) (body := body) (by simp) (by omega) (by simp; omega) ?_))
  rw [List.nil_append]
  have hfl := frm_len body
  have hnl := numW_len' (body.length : Int)
  have hnp := numW_pos (body.length : Int)
  have hbu := fun w j h1 h2 h3 => nxt_burst (body := body) (w := w) (j := j) (by omega) h1 h2 h3
  generalize hF : frm body = F at *
  generalize hh : (numW (body.length : Int)).length = hd at *
  have hlF := bs_len F
  conv => whnf
  have eh : IntKind.i64.wrap (IntKind.i64.wrap ((F.length : Int) - ((bs body).length : Int)) - 4) = (hd : Int) := by rw [wrapL (n := (F.length : Int) - ((bs body).length : Int)) (by omega), wrapL (by omega)]; omega
  rw [eh]
  refine branch_i (fun c1 => absurd (of_decide_eq_true c1) (by omega)) (fun c1 => ?_) <;> try rw [c1] <;> conv => whnf
  have hW0 : ∃ W : Nat, IntKind.u32.wrap bits = (W : Int) ∧ W < 2 ^ 32 := ⟨(IntKind.u32.wrap bits).toNat, by rw [wrap_u32]; omega, by rw [wrap_u32]; omega⟩
  obtain ⟨W, hW, hWl⟩ := hW0
  rw [hW]
  refine branch_i (fun c2 => ?_) (fun c2 => ?_) <;> try rw [c2] <;> conv => whnf
  focus
    refine branch_i (fun c3 => ?_) (fun c3 => absurd (by omega) (of_decide_eq_false c3)) <;> try rw [c3] <;> conv => whnf
    refine .pure (lives07_spec ⟨rfl, ?_⟩)
    conv => whnf
    exact ⟨[], rfl, rfl⟩
  have c2' := of_decide_eq_false c2
  have hW0 : W ≠ 0 := fun e => c2' (by rw [e]; rfl)
  refine branch_i (fun c4 => ?_) (fun c4 => ?_) <;> try rw [c4] <;> conv => whnf
  all_goals
    obtain ⟨A, hA⟩ := abs_i ha
    first
      | (have c4' := of_decide_eq_true c4
         have hA' : IntKind.i64.wrap (0 - IntKind.i64.wrap (a + 1)) = (A : Int) := hA.resolve_right (fun h => h c4')
         rw [hA']
         clear hA hA' c4 c4')
      | (have c4' := of_decide_eq_false c4
         clear hA
         obtain ⟨A, rfl⟩ : ∃ A : Nat, a = A := ⟨a.toNat, by omega⟩
         clear c4 c4')
    have e1 : IntKind.i64.wrap (((bs body).length : Int) + 1) = ((body.length + 1 : Nat) : Int) := by rw [wrapL (by omega)]; omega
    rw [e1]
    refine ⟨by omega, ?_⟩
    have e2 : Int.tmod (A : Int) ((body.length + 1 : Nat) : Int) = ((A % (body.length + 1) : Nat) : Int) := rfl
    have hjl : A % (body.length + 1) ≤ body.length := by have := Nat.mod_lt A (show 0 < body.length + 1 by omega); omega
    rw [e2]
    generalize A % (body.length + 1) = j at *
    conv => whnf
    have e3 : IntKind.i64.wrap ((hd : Int) + (j : Int)) = ((hd + j : Nat) : Int) := by rw [wrapL (by omega)]; omega
    rw [e3]
    refine app_nilms (X := F) (j := 0) rfl (by omega) ?_
    conv => whnf
    refine ⟨⟨[9, 10, 11, 12], fun mm ws H => ∃ i : Nat, ws = [.int .u32 (W : Int), fI (hd + j : Nat), .ms 1 0 0 F.length false, fI i] ∧ H = [.buf (bs (xorL F (mskN F.length (hd + j) W i)))] ∧ i ≤ 4 ∧ mm = 4 - i, .frz 5 (.go [1] rfl 4 (by omega) ⟨0, rfl, ?_, by omega, rfl⟩), ?_⟩⟩
    focus
      show [O.buf (bs F)] = _
      have : mskN F.length (hd + j) W 0 = List.replicate F.length 0 := by
        unfold mskN
        rw [List.take_zero, List.append_nil, List.replicate_append_replicate]
        congr 1; omega
      rw [this, xorL_zero]
    rintro mm ws H ⟨i, rfl, rfl, hi, rfl⟩
    have hxl : (xorL F (mskN F.length (hd + j) W i)).length = F.length := xorL_len (mskN_len (by omega) hi).symm
    conv => whnf
    refine branch_i (fun c5 => ?_) (fun c5 => ?_) <;> try rw [c5] <;> conv => whnf
    rotate_left
    focus
      have c5' := of_decide_eq_false c5
      have : i = 4 := by omega
      subst this
      have hbu' := hbu W j hWl hW0 hjl
      generalize xorL F (mskN F.length (hd + j) W 4) = T at *
      have hlT := bs_len T
      refine .call [0] 1 ⟨rfl, rfl, rfl⟩ (ACall.eat (by omega) rfl (BlNext_spec (b := T) (by omega) ?_))
      rw [hbu']
      conv => whnf
      refine .pure (lives07_spec ⟨rfl, ?_⟩)
      conv => whnf
      exact ⟨[], rfl, rfl⟩
    have c5' := of_decide_eq_true c5
    have hi4 : i < 4 := by omega
    have hst := fun x hx => msk_step (F := F) (k := hd + j) (w := W) (i := i) (x := x) (by omega) hi4 hx
    generalize hT : xorL F (mskN F.length (hd + j) W i) = T at *
    have hlT := bs_len T
    have hlt : hd + j + i < T.length := by omega
    have hg : T[hd + j + i]? = some T[hd + j + i] := List.getElem?_eq_getElem hlt
    have hst' := hst _ hg
    generalize T[hd + j + i] = x at *
    refine ⟨List.range 18, by kernel_rfl, by kernel_rfl, ?_⟩
    conv => whnf
    have e4 : IntKind.i64.wrap (((hd + j : Nat) : Int) + (i : Int)) = ((hd + j + i : Nat) : Int) := by rw [wrapL (by omega)]; omega
    rw [e4]
    have hlen : T.length = F.length := hxl
    refine ⟨⟨by omega, by omega⟩, ?_⟩
    conv => whnf
    refine ⟨_, bs_at hg, ?_⟩
    conv => whnf
    refine ⟨by rw [wrapL (by omega)]; omega, ?_⟩
    conv => whnf
    refine ⟨⟨by omega, by omega⟩, ?_⟩
    conv => whnf
    refine ⟨_, bs_at hg, ?_⟩
    conv => whnf
    refine .go [0] rfl (4 - (i + 1)) (by omega) ⟨i + 1, ?_, ?_, by omega, rfl⟩
    · show [V.int .u32 (W : Int), fI (hd + j : Nat), V.ms 1 0 0 F.length false, V.int .i64 (IntKind.i64.wrap ((i : Int) + 1))] = _
      rw [wrapL (by omega)]; rfl
    · have hb : (bs T).set (hd + j + i) [.int .u8 (IntKind.u8.wrap ↑(BitVec.ofInt IntKind.u8.bits (x.toNat : Int) ^^^ BitVec.ofInt IntKind.u8.bits (IntKind.u8.wrap (Int.fdiv (W : Int) (2 ^ min (IntKind.i64.wrap (8 * (i : Int))).toNat IntKind.u32.bits)))).toNat)] = bs (xorL F (mskN F.length (hd + j) W (i + 1))) := by
        rw [le4_code32 hWl hi4, xor8 x.toNat_lt (UInt8.toNat_lt _), ← UInt8.toNat_xor, bs_set, hst']
      exact congrArg (fun z => [O.buf z]) hb

end Go.Proofs.YtcdkklgeepkopaaGreatDoorPg
