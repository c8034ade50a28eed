/- Own texts, laid together: Pg11DCh15, Pg11DCh16, Pg11DInsW, Pg11DCh19, Pg11DCh17, Pg11DCh18, Pg11DCh20. -/
import Derived.Test.YtocjhaahifpnbaaDoorPgM22
import Derived.Test.YtocjhaahifpnbaaDoorPgM18
import Derived.Test.YtocjhaahifpnbaaDoorPgM15
/- Points: written as bytes, by the document. -/
namespace Go.Proofs.YtocjhaahifpnbaaDoorPg
open Go Go.RowKit
set_option linter.unusedSimpArgs false
set_option linter.unusedVariables false

variable {Q : V → List O → Prop}

def rwInv (a m c : Int) (l : List Wk) (k : Nat) (ws : List V) (H : List O) : Prop :=
  ∃ i : Nat, ws = [.ptr 0 0, .ms 1 1 0 ([a, m, c, (l.length : Int)].flatMap numW ++ wksW (l.take i)).length false, fI i] ∧ H = [ptC a m c l, .buf (bs ([a, m, c, (l.length : Int)].flatMap numW ++ wksW (l.take i)))] ∧ i ≤ l.length ∧ k = l.length - i

set_option maxRecDepth 8000 in
set_option maxHeartbeats 16000000 in
theorem RPWrite_spec {a m c : Int} {l : List Wk} (ha : 0 ≤ a ∧ I64V a) (hm : 0 ≤ m ∧ I64V m) (hc : 0 ≤ c ∧ I64V c) (hl : l.length ≤ 1000) (hs : SmallW l) (h : Q (.sl 1 (bs (ptW a m c l)) false) []) :
    ACall Tryd.prog 31 0 [pt a m c l] [] Q := by
  refine ACall.ret (by_body Tryd.func31 0 rfl (Nat.le_of_ble_eq_true rfl) ?_)
  conv => whnf
  have hlk := wks_len l
  refine .call [] 0 ⟨rfl, rfl, rfl⟩ (RWNumber_spec ha.1 ha.2.2 ?_)
  conv => whnf
  refine .call [] 0 ⟨rfl, rfl, rfl⟩ (RWNumber_spec hm.1 hm.2.2 ?_)
  conv => whnf
  have la := numW_len a
  have lm := numW_len m
  have lc := numW_len c
  have ll := numW_len (l.length : Int)
  refine app_bs (X := numW a) (Y := numW m) rfl rfl rfl rfl rfl (by omega) ?_
  conv => whnf
  refine .call [] 0 ⟨rfl, rfl, rfl⟩ (RWNumber_spec hc.1 hc.2.2 ?_)
  conv => whnf
  refine app_bs (X := numW a ++ numW m) (Y := numW c) rfl rfl rfl rfl rfl (by simp only [List.length_append]; omega) ?_
  conv => whnf
  rw [hlk]
  refine .call [] 0 ⟨rfl, rfl, rfl⟩ (RWNumber_spec (n := (l.length : Int)) (by omega) (by omega) ?_)
  conv => whnf
  refine app_bs (X := numW a ++ numW m ++ numW c) (Y := numW l.length) rfl rfl rfl rfl rfl (by simp only [List.length_append]; omega) ?_
  conv => whnf
  have hhead : numW a ++ numW m ++ numW c ++ numW (l.length : Int) = [a, m, c, (l.length : Int)].flatMap numW ++ wksW (l.take 0) := by simp [wksW]
  rw [hhead]
  refine ⟨⟨[1, 3, 4], rwInv a m c l, .frz (l.length + 1) (.go [0, 7] rfl l.length (by omega) ⟨0, rfl, rfl, by omega, rfl⟩), ?_⟩⟩
  clear hhead
  rintro k ws H ⟨i, rfl, rfl, hi2, rfl⟩
  have h40 := numsW_len [a, m, c, (l.length : Int)]
  have hwl := wksW_le (l := l.take i) fun w hw => hs w (List.mem_of_mem_take hw)
  have hti : (l.take i).length ≤ i := by rw [List.length_take]; omega
  have htot : ([a, m, c, (l.length : Int)].flatMap numW ++ wksW (l.take i)).length ≤ 40 + 2100 * 1000 := by
    rw [List.length_append]
    simp only [List.length_cons, List.length_nil] at h40
    omega
  conv => whnf
  rw [hlk]
  refine branch_i (fun c2 => ?_) (fun c2 => ?_) <;> try rw [c2] <;> conv => whnf
  rotate_left
  focus
    have c2' := of_decide_eq_false c2
    have : i = l.length := by omega
    subst this
    have e : [a, m, c, (l.length : Int)].flatMap numW ++ wksW (l.take l.length) = ptW a m c l := by
      rw [List.take_length]
      unfold ptW
      simp [List.append_assoc]
    rw [e]
    refine ⟨[0, 1], rfl, .frz 1 rfl ?_ (.done [] rfl ?_)⟩
    · repeat (first | exact trivial | refine And.intro (by rw [bs_len, Nat.zero_add]; exact Nat.le_refl _) ?_)
    · show Q (.sl 1 (List.take _ (List.drop 0 (bs (ptW a m c l)))) false) []
      rw [frz_bs _ _ rfl]; exact h
  have c2' := of_decide_eq_true c2
  have hlt : i < l.length := by omega
  have hg : l[i]? = some l[i] := List.getElem?_eq_getElem hlt
  have hsw := hs l[i] (List.getElem_mem hlt)
  have hnx := wksW_snoc hg
  generalize l[i] = w at *
  generalize hpre2 : [a, m, c, (l.length : Int)].flatMap numW ++ wksW (l.take i) = B at *
  have hw : IntKind.i64.wrap ((i : Int) + 1) = ((i + 1 : Nat) : Int) := by rw [wrapL (by omega)]; omega
  have hwt := txtW_len w.t
  have hwk := txtW_len w.k
  have hfin : B ++ txtW w.t ++ [if w.d then 1 else 0] ++ txtW w.k = [a, m, c, (l.length : Int)].flatMap numW ++ wksW (l.take (i + 1)) := by
    rw [hnx, ← hpre2]
    unfold wkW
    simp [List.append_assoc]
  refine ⟨_, ⟨by omega, wks_get hg⟩, ?_⟩
  conv => whnf
  refine .call [] 0 ⟨rfl, rfl, rfl⟩ (RWText_spec (by omega) ?_)
  conv => whnf
  refine app_bs (X := B) (Y := txtW w.t) rfl rfl rfl rfl rfl (by omega) ?_
  conv => whnf
  cases hd : w.d <;> rw [hd] at hfin <;> conv => whnf
  all_goals
    first
      | refine app_bs (X := B ++ txtW w.t) (Y := [0]) rfl rfl rfl rfl rfl (by simp only [List.length_append, List.length_cons, List.length_nil]; omega) ?_
      | refine app_bs (X := B ++ txtW w.t) (Y := [1]) rfl rfl rfl rfl rfl (by simp only [List.length_append, List.length_cons, List.length_nil]; omega) ?_
    conv => whnf
    refine .call [] 0 ⟨rfl, rfl, rfl⟩ (RWText_spec (by omega) ?_)
    conv => whnf
    first
      | refine app_bs (X := B ++ txtW w.t ++ [0]) (Y := txtW w.k) rfl rfl rfl rfl rfl (by simp only [List.length_append, List.length_cons, List.length_nil]; omega) ?_
      | refine app_bs (X := B ++ txtW w.t ++ [1]) (Y := txtW w.k) rfl rfl rfl rfl rfl (by simp only [List.length_append, List.length_cons, List.length_nil]; omega) ?_
    conv => whnf
    refine .go [0, 8] rfl (l.length - (i + 1)) (by omega) ⟨i + 1, ?_, ?_, by omega, rfl⟩
    · rw [hw, ← hfin]; rfl
    · rw [← hfin]; rfl

end Go.Proofs.YtocjhaahifpnbaaDoorPg

/- Points: read out of bytes. -/
namespace Go.Proofs.YtocjhaahifpnbaaDoorPg
open Go Go.RowKit
set_option linter.unusedSimpArgs false
set_option linter.unusedVariables false

variable {Q : V → List O → Prop}

def rdR (o : Option (Int × Int × Int × List Wk)) : V :=
  match o with
  | some (a, m, c, l) => .tup [pt a m c l, fI 0]
  | none => .tup [pt 0 0 0 [], fI 2]

structure RdI (b : List UInt8) (acc : List Wk) (s : List UInt8) (e : Int) : Prop where
  sm : ∀ w ∈ acc, w.t.length ≤ b.length ∧ w.k.length ≤ b.length
  sl : s.length ≤ b.length
  n : acc.length + s.length ≤ b.length + (if e = 0 then 0 else 1)

theorem RdI.next {b s : List UInt8} {acc : List Wk} (h : RdI b acc s 0) {B : Int} : RdI b (acc ++ [(workR B s 0).1]) (workR B s 0).2.2.1 (workR B s 0).2.2.2 := by
  obtain ⟨h1, h2, h3, h4⟩ := workR_bd (B := B) (s := s) (e := 0)
  have hn := h.n
  have hs := h.sl
  rw [if_pos rfl] at hn
  refine ⟨fun w hw => ?_, by omega, ?_⟩
  · rcases List.mem_append.1 hw with hw | hw
    · exact h.sm w hw
    · simp only [List.mem_singleton] at hw
      subst hw
      constructor <;> omega
  · rw [List.length_append]
    simp only [List.length_cons, List.length_nil]
    split
    · rename_i h0
      have := h4 h0; omega
    · omega

theorem RdI.small {b s : List UInt8} {acc : List Wk} {e : Int} (h : RdI b acc s e) (hb : b.length ≤ 900) : SmallW acc ∧ acc.length ≤ 901 := by
  refine ⟨fun w hw => by have := h.sm w hw; constructor <;> omega, ?_⟩
  have := h.n
  split at this <;> omega

theorem nil_pt : VSub (.tup [.agg [fI 0, fI 0, fI 0, .nils], fI 2]) (rdR none) :=
  .tup (.cons (.agg (.cons (.refl _) (.cons (.refl _) (.cons (.refl _) (.cons (nils_sl 3 false) (VSubs.refl _)))))) (VSubs.refl _))

theorem wks_snoc (l : List Wk) (w : Wk) : wks l ++ [wkC w] = wks (l ++ [w]) := by rw [wks_app]; rfl

theorem app_wk {i j n : Nat} {f : Bool} {X : List Wk} {w : Wk} {H : List O} {K : V → List O → Prop} (hij : Nat.beq i j = false) (hX : getO H i = .buf (wks X)) (hn : n = X.length) (hs : X.length ≤ 1000000)
    (hK : copyH (setO H i .dead ++ [.buf (wks (X ++ [w]))]) fun H' => K (.ms 3 (setO H i .dead).length 0 (X ++ [w]).length false) H') :
    0 + 1 ≤ 1 ∧ aapp 3 40 (.ms 3 i 0 n false) (.ms 3 j 0 1 f) [wkC w] H K := by
  subst hn
  refine ⟨Nat.le_refl 1, ?_⟩
  unfold aapp sameBuf
  simp only [hij]
  unfold aappend
  simp only [show Nat.beq 3 3 = true from rfl, hX]
  refine ⟨by rw [wks_len]; rfl, ?_⟩
  have e : List.drop 0 (wks X) ++ [wkC w] = wks (X ++ [w]) := by
    rw [List.drop_zero, wks_snoc]
  rw [e]
  refine ⟨by rw [wks_len, List.length_append]; simp only [List.length_cons, List.length_nil]; omega, ?_⟩
  rw [wks_len]
  exact hK

def prInv (b : List UInt8) (f : Bool) (a m c : Int) (W : Option (List Wk × List UInt8 × Int)) (k : Nat) (ws : List V) (H : List O) : Prop :=
  ∃ (n : Nat) (acc : List Wk) (s : List UInt8) (e : Int), ws = [.sl 1 (bs b) f, .ptr 0 0, .ptr 1 0, .ptr 2 0, fI n] ∧ H = [.cells [fI 0, fI 0, fI 0, .nils], rdO s f e, .cells [fI a, fI m, fI c, .ms 3 3 0 acc.length false], .buf (wks acc)] ∧
    worksP b.length n acc s e = W ∧ RdI b acc s e ∧ n ≤ 9223372036854775807 ∧ k = n


set_option maxRecDepth 8000 in
set_option maxHeartbeats 16000000 in
theorem PRead_spec {b : List UInt8} {f : Bool} (hb : b.length ≤ 900) (h : ∀ r, r = readP mayP b → Q (rdR r) []) : ACall Tryd.prog 27 0 [.sl 1 (bs b) f] [] Q := by
  refine ACall.ret (by_body Tryd.func27 0 rfl (Nat.le_of_ble_eq_true rfl) ?_)
  conv => whnf
  have hbl := bs_len b
  refine .call [] 0 ⟨rfl, rfl, rfl⟩ (Read_spec ?_)
  conv => whnf
  refine .call [1] 1 ⟨rfl, rfl, rfl⟩ (Number_spec ?_)
  conv => whnf
  refine .call [1] 1 ⟨rfl, rfl, rfl⟩ (Number_spec ?_)
  conv => whnf
  refine .call [1] 1 ⟨rfl, rfl, rfl⟩ (Number_spec ?_)
  conv => whnf
  refine .call [1] 1 ⟨rfl, rfl, rfl⟩ (Number_spec ?_)
  conv => whnf
  have h1e : rNum b 0 = hd1 b := rfl
  rw [h1e]
  have h2e : rNum (hd1 b).2.1 (hd1 b).2.2 = hd2 b := rfl
  rw [h2e]
  have h3e : rNum (hd2 b).2.1 (hd2 b).2.2 = hd3 b := rfl
  rw [h3e]
  have h4e : rNum (hd3 b).2.1 (hd3 b).2.2 = hd4 b := rfl
  rw [h4e]
  unfold readP at h
  have hnn : 0 ≤ (hd4 b).1 := rNum_nonneg _ _
  have hnl : (hd4 b).1 ≤ 9223372036854775807 := rNum_le _ _
  have hr1 : (hd1 b).2.1.length ≤ b.length := rNum_len _ _
  have hr2 : (hd2 b).2.1.length ≤ (hd1 b).2.1.length := rNum_len _ _
  have hr3 : (hd3 b).2.1.length ≤ (hd2 b).2.1.length := rNum_len _ _
  have hr4 : (hd4 b).2.1.length ≤ (hd3 b).2.1.length := rNum_len _ _
  have ia : I64V (hd1 b).1 := ⟨by have : 0 ≤ (hd1 b).1 := rNum_nonneg _ _; omega, rNum_le _ _⟩
  have im : I64V (hd2 b).1 := ⟨by have : 0 ≤ (hd2 b).1 := rNum_nonneg _ _; omega, rNum_le _ _⟩
  have ic : I64V (hd3 b).1 := ⟨by have : 0 ≤ (hd3 b).1 := rNum_nonneg _ _; omega, rNum_le _ _⟩
  clear h1e h2e h3e h4e
  generalize (hd1 b).1 = a at *
  generalize (hd2 b).1 = m at *
  generalize (hd3 b).1 = c at *
  generalize hs4 : hd4 b = N4 at *
  obtain ⟨n4, s4, e4⟩ := N4
  simp only at h hnn hnl hr4 ⊢
  obtain ⟨n4, rfl⟩ : ∃ k : Nat, n4 = (k : Int) := ⟨n4.toNat, by omega⟩
  rw [Int.toNat_natCast] at h
  generalize hW : worksP b.length n4 [] s4 e4 = W at *
  refine ⟨⟨[0, 2, 4, 5, 6], prInv b f a m c W, .frz (n4 + 1) (.adopt (.sub _ _ (VSubs.refl _) (.cons (.refl _) (.cons (.refl _) (.cons (.cells (.cons (VSub.refl _) (.cons (VSub.refl _) (.cons (VSub.refl _) (.cons (VSub.ms0 3 3 0 false) (VSubs.refl _)))))) (HSub.refl _)))) (.go [0, 1, 2, 3] rfl n4 (by omega) ⟨n4, [], s4, e4, rfl, rfl, hW, ⟨by simp, by omega, ?_⟩, by omega, rfl⟩))), ?_⟩⟩
  · simp only [List.length_nil]; split <;> omega
  rintro n ws H ⟨n', acc, s, e, rfl, rfl, hw, hI, hn, rfl⟩
  obtain ⟨hsm, hac⟩ := hI.small hb
  have hlk := wks_len acc
  -- the end of it
  have fin : (n = 0 ∨ e ≠ 0) → W = some (acc, s, e) := fun hne => by
    rw [← hw]
    rcases hne with rfl | hne
    · rfl
    · exact worksP_e hne
  have hcase : (0 < n ∧ e = 0) ∨ (n = 0 ∨ e ≠ 0) := by
    rcases Nat.eq_zero_or_pos n with h0 | h0
    · exact .inr (.inl h0)
    · by_cases he : e = 0
      · exact .inl ⟨h0, he⟩
      · exact .inr (.inr he)
  rcases hcase with ⟨h0, rfl⟩ | hend
  · conv => whnf
    rw [show decide ((0 : Int) < (n : Int)) = true from decide_eq_true (by omega)]
    conv => whnf
    refine .call [1] 1 ⟨rfl, rfl, rfl⟩ (Errno_spec ?_)
    conv => whnf
    refine .call [1] 1 ⟨rfl, rfl, rfl⟩ (Text_spec ?_)
    conv => whnf
    refine .call [1] 1 ⟨rfl, rfl, rfl⟩ (Byte_spec ?_)
    conv => whnf
    refine .call [1] 1 ⟨rfl, rfl, rfl⟩ (Text_spec ?_)
    conv => whnf
    obtain ⟨j, rfl⟩ : ∃ j, n = j + 1 := ⟨n - 1, by omega⟩
    rw [worksP, if_pos rfl] at hw
    have hnext := hI.next (B := b.length)
    rw [bs_len]
    have hwk : workR (b.length : Int) s 0 = (⟨(rTxt (b.length : Int) s 0).1, decide ((rByt (rTxt (b.length : Int) s 0).2.1 (rTxt (b.length : Int) s 0).2.2).1 = 1), (rTxt (b.length : Int) (rByt (rTxt (b.length : Int) s 0).2.1 (rTxt (b.length : Int) s 0).2.2).2.1 (rByt (rTxt (b.length : Int) s 0).2.1 (rTxt (b.length : Int) s 0).2.2).2.2).1⟩,
      (rByt (rTxt (b.length : Int) s 0).2.1 (rTxt (b.length : Int) s 0).2.2).1,
      (rTxt (b.length : Int) (rByt (rTxt (b.length : Int) s 0).2.1 (rTxt (b.length : Int) s 0).2.2).2.1 (rByt (rTxt (b.length : Int) s 0).2.1 (rTxt (b.length : Int) s 0).2.2).2.2).2.1,
      (rTxt (b.length : Int) (rByt (rTxt (b.length : Int) s 0).2.1 (rTxt (b.length : Int) s 0).2.2).2.1 (rByt (rTxt (b.length : Int) s 0).2.1 (rTxt (b.length : Int) s 0).2.2).2.2).2.2) := rfl
    rw [hwk] at hw hnext
    clear hwk
    generalize rTxt (b.length : Int) s 0 = T1 at *
    obtain ⟨x1, s1, e1⟩ := T1
    simp only at hw hnext ⊢
    generalize rByt s1 e1 = T2 at *
    obtain ⟨x2, s2, e2⟩ := T2
    simp only at hw hnext ⊢
    generalize rTxt (b.length : Int) s2 e2 = T3 at *
    obtain ⟨x3, s3, e3⟩ := T3
    simp only at hw hnext ⊢
    by_cases hd : 1 < x2
    · rw [if_pos hd] at hw
      rw [decide_eq_true hd]
      conv => whnf
      refine ⟨[], rfl, .sub _ _ nil_pt (HSub.refl _) (.done [] rfl (h none ?_))⟩
      rw [← hw]
    · rw [if_neg hd] at hw
      rw [decide_eq_false hd]
      conv => whnf
      refine app_wk (X := acc) (w := ⟨x1, decide (x2 = 1), x3⟩) rfl rfl rfl (by omega) ?_
      conv => whnf
      have hj : IntKind.i64.wrap (((j + 1 : Nat) : Int) - 1) = (j : Int) := by rw [wrapL (by omega)]; omega
      rw [hj]
      refine .go [0, 1, 2, 6] rfl j (by omega) ⟨j, acc ++ [⟨x1, decide (x2 = 1), x3⟩], s3, e3, rfl, ?_, hw, hnext, by omega, rfl⟩
      rfl
  · have hW2 := fin hend
    rw [hW2] at h
    rcases hend with rfl | he
    rotate_left
    focus
      conv => whnf
      refine branch_i (fun c1 => ?_) (fun c1 => ?_) <;> try rw [c1] <;> conv => whnf
      focus
        refine .call [1] 1 ⟨rfl, rfl, rfl⟩ (Errno_spec ?_)
        conv => whnf
        rw [show decide (e = 0) = false from decide_eq_false he]
    rotate_right
    focus conv => whnf
    all_goals
      conv => whnf
      refine .call [1] 1 ⟨rfl, rfl, rfl⟩ (End_spec ?_)
      conv => whnf
      have hend0 : endE s e = 0 ↔ e = 0 ∧ s = [] := by
        unfold endE
        split
        · rename_i hh; constructor
          · intro h2; omega
          · intro h2; exact absurd h2.2 hh.2
        · rename_i hh; constructor
          · intro h2
            subst h2
            refine ⟨rfl, ?_⟩
            cases s with
            | nil => rfl
            | cons x y => exact absurd ⟨rfl, by simp⟩ hh
          · exact fun h2 => h2.1
      by_cases hok : endE s e = 0
      rotate_left
      focus
        rw [show decide (endE s e = 0) = false from decide_eq_false hok]
        conv => whnf
        refine ⟨[], rfl, .sub _ _ nil_pt (HSub.refl _) (.done [] rfl (h none ?_))⟩
        simp only
        rw [if_neg (fun x => hok (hend0.2 ⟨x.1, x.2.1⟩))]
      rw [show decide (endE s e = 0) = true from decide_eq_true hok]
      conv => whnf
      have hse := hend0.1 hok
      have hfit : wks acc = List.take acc.length (List.drop 0 (wks acc)) := by rw [List.drop_zero, ← hlk, List.take_length]
      refine .frz 3 rfl rfl (by repeat (first | exact trivial | refine And.intro (by rw [hlk, Nat.zero_add]; exact Nat.le_refl _) ?_)) (.pure ?_)
      refine (show ACall _ _ 0 [.agg [fI a, fI m, fI c, .sl 3 (List.take acc.length (List.drop 0 (wks acc))) false]] [] _ from ?_)
      rw [← hfit]
      refine MayP_spec (a := a) (b := m) (c := c) (by omega) (fun w hw => (hsm w hw).2) ⟨rfl, ?_⟩
      cases hmay : mayP a m c acc <;> conv => whnf
      · refine ⟨[], rfl, .sub _ _ nil_pt (HSub.refl _) (.done [] rfl (h none ?_))⟩
        simp only
        rw [if_neg (fun x => by rw [hmay] at x; simp at x)]
      · refine ⟨[], rfl, .done [] rfl ?_⟩
        have := h (some (a, m, c, acc)) (by simp only; rw [if_pos ⟨hse.1, hse.2, hmay⟩])
        show Q (.tup [.agg [fI a, fI m, fI c, .sl 3 (List.take acc.length (List.drop 0 (wks acc))) false], fI 0]) []
        rw [← hfit]; exact this

end Go.Proofs.YtocjhaahifpnbaaDoorPg

/- slices.Insert of one element. -/
namespace Go.Proofs.YtocjhaahifpnbaaDoorPg
open Go Go.RowKit
set_option linter.unusedSimpArgs false
set_option linter.unusedVariables false

variable {Q : V → List O → Prop}

theorem insW_wrap {n : Int} (h : -9223372036854775808 ≤ n ∧ n ≤ 9223372036854775807) : IntKind.i64.wrap n = n := by rw [IntKind.wrap_i64]; omega

theorem overlapsW_ext {H : List O} {i a n j b m : Nat} {f g : Bool} (hij : i ≠ j) (hi : IsBuf (getO H i)) (hj : IsBuf (getO H j)) : AExt Tryd.prog 76 [.ms 3 i a n f, .ms 3 j b m g] H (.bool false) := ⟨fun I ρ w us hst h => by
  obtain ⟨u0, l0, e0, h0, h⟩ := h.cons_inv
  obtain ⟨u1, l1, e1, h1, h⟩ := h.cons_inv
  have e2 : l1 = [] := List.eq_nil_of_length_eq_zero h.1.symm
  have eu : us = #[u0, u1] := by
    apply Array.ext'
    rw [e0, e1, e2]
  subst eu
  refine ⟨_, ?_, .bool _ _⟩
  rw [run_callFunc_extern Tryd.func76 (by kernel_rfl) (by kernel_rfl) (by kernel_rfl) (e := Extern.SlicesOverlaps.overlaps #[22, 22] #[4]) (by kernel_rfl)]
  rw [overlaps_run Tryd.underlying22 (size := 3) Tryd.sizeOf38 hst (by decide) hij hi hj h0 h1]
  rfl⟩

theorem new_as {z b n B : Nat} {X Y : List (List V)} {H : List O} {K : V → List O → Prop} (hX : X = Y) (hn : Y.length = n) (hB : b ≤ B) (hs : n * B ≤ 70368744177664) (hK : copyH (H ++ [.buf Y]) fun H' => K (.ms z H.length 0 n false) H') : newBuf z b X H K := by
  subst hX
  subst hn
  exact ⟨Nat.le_trans (Nat.mul_le_mul_left _ hB) hs, hK⟩

theorem take_app1 {α : Type} (A B : List α) : List.take A.length (A ++ B) = A := by simp

/-- The rows of an insertion into a new buffer. -/
theorem ins_rows {es Y Y1 Y2 : List (List V)} {x : List V} {i k m : Nat} (hlt : i ≤ es.length) (hk : k = 1) (hm : m = es.length - i) (hYl : Y.length = es.length + 1) (hYt : Y.take i = es.take i)
    (h1 : Y1 = List.take (i + 0) Y ++ List.take k (List.drop 0 [x]) ++ List.drop (i + 0 + k) Y) (h2 : Y2 = List.take (i + 1 + 0) Y1 ++ List.take m (List.drop (i + 0) es) ++ List.drop (i + 1 + 0 + m) Y1) :
    Y2 = es.take i ++ [x] ++ es.drop i := by
  subst hk
  simp only [Nat.add_zero, List.drop_zero, hYt] at h1 h2
  have e1 : List.take 1 [x] = [x] := rfl
  rw [e1] at h1
  have hl : (es.take i ++ [x]).length = i + 1 := by rw [List.length_append, List.length_take, List.length_singleton]; omega
  have e2 : List.take (i + 1) Y1 = es.take i ++ [x] := by rw [h1, ← hl]; exact take_app1 _ _
  have e3 : List.drop (i + 1 + m) Y1 = [] := by
    apply List.drop_eq_nil_of_le
    rw [h1, List.length_append, hl, List.length_drop]; omega
  have e4 : List.take m (List.drop i es) = List.drop i es := List.take_of_length_le (by rw [List.length_drop]; omega)
  rw [h2, e2, e3, e4, List.append_nil]

/-- .. into the room behind it -/
theorem ins_rows2 {es E Y1 Y2 : List (List V)} {x : List V} {i k n m : Nat} (hlt : i < es.length) (hm : 0 < m) (hn : n = es.length - i) (hk : k = 1) (hE : E = es ++ List.replicate m [])
    (h1 : Y1 = List.take (i + 1 + 0) E ++ List.take n (List.drop (i + 0) E) ++ List.drop (i + 1 + 0 + n) E) (h2 : Y2 = List.take (i + 0) Y1 ++ List.take k (List.drop 0 [x]) ++ List.drop (i + 0 + k) Y1) :
    Y2 = es.take i ++ [x] ++ es.drop i ++ List.replicate (m - 1) [] := by
  subst hk
  simp only [Nat.add_zero, List.drop_zero] at h1 h2
  have e1 : List.take 1 [x] = [x] := rfl
  rw [e1] at h2
  have d1 : List.drop i E = es.drop i ++ List.replicate m [] := by rw [hE, List.drop_append_of_le_length (by omega)]
  have t1 : List.take n (List.drop i E) = es.drop i := by
    rw [d1, show n = (es.drop i).length by rw [List.length_drop]; exact hn]; exact take_app1 _ _
  have d2 : List.drop (i + 1 + n) E = List.replicate (m - 1) [] := by
    rw [hE, List.drop_append, List.drop_eq_nil_of_le (by omega), List.nil_append, List.drop_replicate]
    congr 1; omega
  rw [t1, d2] at h1
  have l1 : (List.take (i + 1) E).length = i + 1 := by rw [List.length_take, hE, List.length_append, List.length_replicate]; omega
  have t2 : List.take i Y1 = es.take i := by
    rw [h1, List.append_assoc, List.take_append_of_le_length (by omega), List.take_take, show min i (i + 1) = i by omega, hE, List.take_append_of_le_length (by omega)]
  have d3 : List.drop (i + 1) Y1 = es.drop i ++ List.replicate (m - 1) [] := by
    rw [h1, List.append_assoc, List.drop_append_of_le_length (by omega), List.drop_eq_nil_of_le (by omega), List.nil_append]
  rw [h2, t2, d3, ← List.append_assoc]

set_option maxRecDepth 8000 in
set_option maxHeartbeats 16000000 in
theorem InsertW_spec {es : List (List V)} {x : List V} {i : Nat} (hl : es.length ≤ 1000) (hi : i ≤ es.length) (hne : ∀ r ∈ es, r ≠ []) (hx : x ≠ []) (h : Q (.ms 3 0 0 (es.length + 1) false) [.buf (es.take i ++ [x] ++ es.drop i)]) :
    ACall Tryd.prog 59 0 [.ms 3 0 0 es.length false, fI i, .ms 3 1 0 1 true] [.buf es, .buf [x]] Q := by
  refine ACall.ret (by_body Tryd.func59 0 rfl (Nat.le_of_ble_eq_true rfl) ?_)
  conv => whnf
  refine ⟨⟨by omega, by omega⟩, ?_⟩
  conv => whnf
  refine branch_i (fun c1 => ?_) (fun c1 => ?_) <;> try rw [c1] <;> conv => whnf
  · have c1' := of_decide_eq_true c1
    have hin : i = es.length := by omega
    subst hin
    refine ⟨Nat.le_refl 1, ?_⟩
    refine app_gen rfl rfl rfl (Nat.le_trans (Nat.mul_le_mul_right _ (Nat.add_le_add hl (show 1 ≤ 1 by omega))) (show (1000 + 1) * 40 ≤ 70368744177664 by omega)) ?_
    conv => whnf
    refine ⟨[2], rfl, .done [0] rfl ?_⟩
    rw [List.take_length, List.drop_length, List.append_nil] at h
    exact h
  have c1' := of_decide_eq_false c1
  have hlt : i < es.length := by omega
  refine ⟨⟨by omega, by omega⟩, fun m => ?_⟩
  conv => whnf
  have hw1 : IntKind.i64.wrap ((es.length : Int) + ((1 : Nat) : Int)) = ((es.length + 1 : Nat) : Int) := by rw [insW_wrap (by omega)]; omega
  have hi1 : IntKind.i64.wrap ((i : Int) + 1) = ((i + 1 : Nat) : Int) := by rw [insW_wrap (by omega)]; omega
  have hi2 : IntKind.i64.wrap ((i : Int) + ((1 : Nat) : Int)) = ((i + 1 : Nat) : Int) := hi1
  rw [hw1]
  refine branch_i (fun c2 => ?_) (fun c2 => ?_) <;> try rw [c2] <;> conv => whnf
  · have c2' := of_decide_eq_true c2
    have hm0 : m = 0 := by omega
    subst hm0
    refine ⟨by omega, ?_⟩
    conv => whnf
    have hw3 : IntKind.i64.wrap (IntKind.i64.wrap ((es.length : Int) + ((1 : Nat) : Int)) - (i : Int)) = ((es.length + 1 - i : Nat) : Int) := by rw [hw1, insW_wrap (by omega)]; omega
    rw [hw3]
    refine ⟨⟨by omega, by omega, ?_, ?_, ?_⟩, ?_⟩
    all_goals try rw [show (es ++ List.replicate 0 []) = es from List.append_nil es]
    · omega
    · omega
    · intro r hr
      exact hne r (List.mem_of_mem_take hr)
    obtain ⟨Y, hY⟩ : ∃ Y, Y = List.take i (List.drop 0 es) ++ List.replicate (es.length + 1 - i) ((cx Tryd.f59.ntmps 0).T 38).zero := ⟨_, rfl⟩
    have hYl : Y.length = es.length + 1 := by rw [hY, List.length_append, List.length_take, List.length_replicate, List.drop_zero]; omega
    refine new_as (B := 40) (n := es.length + 1) (Y := Y) hY.symm hYl (by decide) (by omega) ?_
    conv => whnf
    refine ⟨by omega, ?_⟩
    conv => whnf
    have hm1 : min 1 (es.length + 1 - (i : Int).toNat) = 1 := by omega
    refine ⟨by omega, ⟨by omega, ?_⟩, ?_, ?_⟩
    · rw [hm1]
      exact Nat.le_refl 1
    · omega
    obtain ⟨Y1, hY1⟩ : ∃ Y1, Y1 = (List.take ((i : Int).toNat + 0) Y ++ List.take (min 1 (es.length + 1 - (i : Int).toNat)) (List.drop 0 [x]) ++ List.drop ((i : Int).toNat + 0 + min 1 (es.length + 1 - (i : Int).toNat)) Y) := ⟨_, rfl⟩
    rw [← hY1]
    conv => whnf
    refine ⟨[0, 1, 2, 3, 4, 5, 6, 7, 8], by kernel_rfl, by kernel_rfl, ?_⟩
    conv => whnf
    rw [hi2]
    refine ⟨by omega, ?_⟩
    conv => whnf
    refine ⟨by omega, ?_⟩
    conv => whnf
    have hY1l : Y1.length = es.length + 1 := by
      rw [hY1, hm1, List.length_append, List.length_append, List.length_take, List.length_drop, hYl, show (List.take 1 (List.drop 0 [x])).length = 1 from rfl]; omega
    have hm2 : min (es.length - (i : Int).toNat) (es.length + 1 - ((i + 1 : Nat) : Int).toNat) = es.length - i := by omega
    refine ⟨by omega, ⟨by omega, by omega, ?_⟩, by omega, ?_⟩
    · intro r hr
      exact hne r (List.mem_of_mem_drop (List.mem_of_mem_take hr))
    obtain ⟨Y2, hY2⟩ : ∃ Y2, Y2 = (List.take (((i + 1 : Nat) : Int).toNat + 0) Y1 ++ List.take (min (es.length - (i : Int).toNat) (es.length + 1 - ((i + 1 : Nat) : Int).toNat)) (List.drop ((i : Int).toNat + 0) es) ++
          List.drop (((i + 1 : Nat) : Int).toNat + 0 + min (es.length - (i : Int).toNat) (es.length + 1 - ((i + 1 : Nat) : Int).toNat)) Y1) := ⟨_, rfl⟩
    rw [← hY2]
    conv => whnf
    refine ⟨[2], rfl, .done [0] rfl ?_⟩
    show Q (.ms 3 0 0 (es.length + 1) false) [.buf Y2]
    rw [ins_rows hi hm1 hm2 hYl ?_ hY1 hY2]
    · exact h
    rw [hY, List.drop_zero]
    have : i = (List.take i es).length := by rw [List.length_take]; omega
    conv => lhs; arg 1; rw [this]
    exact take_app1 _ _
  · have c2' := of_decide_eq_false c2
    rw [hw1]
    refine ⟨⟨by omega, .inr ⟨by omega, ?_⟩⟩, ?_⟩
    · show 0 + (es.length + 1) ≤ (es ++ List.replicate m []).length
      rw [List.length_append, List.length_replicate]
      omega
    conv => whnf
    rw [hi2]
    refine ⟨by omega, ?_⟩
    conv => whnf
    refine ⟨_, overlapsW_ext (by decide) (by simp [getO, IsBuf]) (by simp [getO, IsBuf]), ?_⟩
    conv => whnf
    refine ⟨[0, 1, 2, 3, 4, 5, 6, 7, 8], by kernel_rfl, by kernel_rfl, ?_⟩
    conv => whnf
    rw [hi2]
    refine ⟨by omega, ?_⟩
    conv => whnf
    refine ⟨by omega, ?_⟩
    conv => whnf
    have hm0 : 0 < m := by omega
    have hm2 : min (((es.length + 1 : Nat) : Int).toNat - (i : Int).toNat) (((es.length + 1 : Nat) : Int).toNat - ((i + 1 : Nat) : Int).toNat) = es.length - i := by omega
    have hEl : (es ++ List.replicate m ([] : List V)).length = es.length + m := by rw [List.length_append, List.length_replicate]
    refine ⟨by omega, ⟨by omega, by rw [hEl]; omega, ?_⟩, by rw [hEl]; omega, ?_⟩
    · intro r hr
      rw [hm2, show ((i : Int).toNat + 0) = i from rfl, List.drop_append_of_le_length (by omega), show es.length - i = (es.drop i).length by rw [List.length_drop], take_app1] at hr
      exact hne r (List.mem_of_mem_drop hr)
    obtain ⟨Y1, hY1⟩ : ∃ Y1, Y1 = (List.take (((i + 1 : Nat) : Int).toNat + 0) (es ++ List.replicate m ([] : List V)) ++ List.take (min (((es.length + 1 : Nat) : Int).toNat - (i : Int).toNat) (((es.length + 1 : Nat) : Int).toNat - ((i + 1 : Nat) : Int).toNat)) (List.drop ((i : Int).toNat + 0) (es ++ List.replicate m ([] : List V))) ++
          List.drop (((i + 1 : Nat) : Int).toNat + 0 + min (((es.length + 1 : Nat) : Int).toNat - (i : Int).toNat) (((es.length + 1 : Nat) : Int).toNat - ((i + 1 : Nat) : Int).toNat)) (es ++ List.replicate m ([] : List V))) := ⟨_, rfl⟩
    rw [← hY1]
    conv => whnf
    refine ⟨by omega, ?_⟩
    conv => whnf
    have hm3 : min 1 (((es.length + 1 : Nat) : Int).toNat - (i : Int).toNat) = 1 := by omega
    have hY1l : Y1.length = es.length + m := by
      rw [hY1, hm2, List.length_append, List.length_append, List.length_take, List.length_drop, List.length_take, List.length_drop, hEl]; omega
    refine ⟨by omega, ⟨by omega, by rw [hm3]; exact Nat.le_refl 1⟩, by rw [hY1l]; omega, ?_⟩
    obtain ⟨Y2, hY2⟩ : ∃ Y2, Y2 = (List.take ((i : Int).toNat + 0) Y1 ++ List.take (min 1 (((es.length + 1 : Nat) : Int).toNat - (i : Int).toNat)) (List.drop 0 [x]) ++ List.drop ((i : Int).toNat + 0 + min 1 (((es.length + 1 : Nat) : Int).toNat - (i : Int).toNat)) Y1) := ⟨_, rfl⟩
    rw [← hY2]
    have hr := ins_rows2 hlt hm0 hm2 hm3 rfl hY1 hY2
    conv => whnf
    refine ⟨[0], rfl, ?_⟩
    conv => whnf
    show ARet 0 Q (.ms 3 0 0 (es.length + 1) false) [.bufc Y2]
    have hzl : (es.take i ++ [x] ++ es.drop i).length = es.length + 1 := by
      rw [List.length_append, List.length_append, List.length_take, List.length_drop, List.length_singleton]; omega
    have hYt : Y2.take (es.length + 1) = es.take i ++ [x] ++ es.drop i := by
      rw [hr, ← hzl]; exact take_app1 _ _
    refine .sub _ _ (.refl _) (.cons (.bufc Y2 (es.length + 1) ?_ ?_) (HSub.refl _)) (.done [0] rfl ?_)
    · intro r hr
      rw [hYt] at hr
      simp only [List.mem_append, List.mem_singleton] at hr
      rcases hr with (hr | hr) | hr
      · exact hne r (List.mem_of_mem_take hr)
      · rw [hr]; exact hx
      · exact hne r (List.mem_of_mem_drop hr)
    · intro h0
      rw [h0] at hYt
      have := congrArg List.length hYt
      rw [hzl] at this
      simp at this
    · show Q (.ms 3 0 0 (es.length + 1) false) [.buf (Y2.take (es.length + 1))]
      rw [hYt]
      exact h

end Go.Proofs.YtocjhaahifpnbaaDoorPg

/- Works of copying: Add in full, Drop (slices.DeleteFunc with a function that holds the table's name). -/
namespace Go.Proofs.YtocjhaahifpnbaaDoorPg
open Go Go.RowKit
set_option linter.unusedSimpArgs false
set_option linter.unusedVariables false

variable {Q : V → List O → Prop}

theorem wks_ins (l : List Wk) (t : List UInt8) : (wks l).take (posL l t) ++ [wkC ⟨t, false, []⟩] ++ (wks l).drop (posL l t) = wks (addL l t) := by
  unfold addL insW wks
  simp [List.map_take, List.map_drop]

theorem wks_ne {l : List Wk} : ∀ r ∈ wks l, r ≠ [] := by
  intro r hr
  unfold wks at hr
  obtain ⟨w, _, rfl⟩ := List.mem_map.1 hr
  exact List.cons_ne_nil _ _

set_option maxHeartbeats 8000000 in
theorem Add_spec {l : List Wk} {t : List UInt8} (hl : l.length ≤ 1000) (hs : SortedW l) (h : Q (.tup [.sl 3 (wks (addW l t)) false, fI (addE nameOk l t)]) []) : ACall Tryd.prog 33 0 [.sl 3 (wks l) false, .str t] [] Q := by
  unfold addW addE at h
  refine ACall.ret (by_body Tryd.func33 0 rfl (Nat.le_of_ble_eq_true rfl) ?_)
  conv => whnf
  refine .pure (at_spec (by omega) hs ⟨rfl, ?_⟩)
  conv => whnf
  refine .pure (Name_spec ⟨rfl, ?_⟩)
  conv => whnf
  cases hn : nameOk t <;> rw [hn] at h <;> conv => whnf
  · refine ⟨[], rfl, .sub _ _ (nil_tup _) (HSub.refl _) (.done [] rfl ?_)⟩
    exact h
  rw [if_neg (by simp : ¬ (true = false))] at h
  cases ha : (atL l t).isSome <;> rw [ha] at h <;> conv => whnf
  rotate_left
  · refine ⟨[], rfl, .sub _ _ (nil_tup _) (HSub.refl _) (.done [] rfl ?_)⟩
    exact h
  refine .call [] 0 ⟨rfl, rfl, rfl⟩ (WClone_spec (l := l) (by omega) ?_)
  conv => whnf
  have hlk := wks_len l
  have hp := pos_le l t
  refine .call [0, 1] 0 ⟨rfl, rfl, rfl⟩ ?_
  show ACall Tryd.prog 59 0 [.ms 3 0 0 l.length false, fI (posL l t), .ms 3 1 0 1 true] [.buf (wks l), .buf [wkC ⟨t, false, []⟩]] _
  rw [← hlk]
  refine InsertW_spec (by omega) (by omega) wks_ne (List.cons_ne_nil _ _) ?_
  rw [wks_ins]
  conv => whnf
  refine ⟨[0], rfl, .frz 0 rfl (by repeat (first | exact trivial | refine And.intro (Nat.le_of_eq (by rw [wks_len, wks_len]; unfold addL; rw [ins_len]; omega)) ?_)) (.done [] rfl ?_)⟩
  show Q (.tup [.sl 3 (List.take ((wks l).length + 1) (wks (addL l t))) false, fI 0]) []
  rw [List.take_of_length_le (by rw [wks_len, wks_len]; unfold addL; rw [ins_len]; omega)]
  exact h

/-! ### Drop -/
def dropL (l : List Wk) (t : List UInt8) : List Wk := l.filter fun w => !decide (w.t = t)

theorem Drop1_spec {w : Wk} {t : List UInt8} (h : Q (.bool (decide (w.t = t))) []) : ACall Tryd.prog 61 0 [wkA w, .ip [.str t] 0] [] Q := by
  refine by_body Tryd.func61 0 rfl (Nat.le_of_ble_eq_true rfl) ?_
  conv => whnf
  exact ⟨[], rfl, h⟩

theorem IndexFunc_spec {l : List Wk} {t : List UInt8} (hl : l.length < 4611686018427387904) (h : Q (.int .i64 (atI l t)) [.buf (wks l)]) :
    ACall Tryd.prog 78 1 [.ms 3 0 0 (wks l).length false, .fn (.func 61) [] [.ip [.str t] 0]] [.buf (wks l)] Q := by
  refine by_body Tryd.func78 1 rfl (Nat.le_of_ble_eq_true rfl) ?_
  conv => whnf
  have hlv := wks_len l
  refine ⟨⟨[0, 1, 7, 8], fun m ws H => ∃ i : Nat, ws = [.ms 3 0 0 (wks l).length false, .fn (.func 61) [] [.ip [.str t] 0], fI (wks l).length, fI i] ∧ H = [.buf (wks l)] ∧ NoneBefore l t i ∧ i ≤ l.length ∧ m = l.length - i,
    .at l.length ⟨0, rfl, rfl, fun j w hj => by omega, Nat.zero_le _, rfl⟩, ?_⟩⟩
  rintro m ws H ⟨i, rfl, rfl, hn, hi, rfl⟩
  conv => whnf
  refine branch_i (fun c1 => ?_) (fun c1 => ?_) <;> try rw [c1] <;> conv => whnf
  rotate_left
  focus
    have c1' := of_decide_eq_false c1
    have : i = l.length := by omega
    subst this
    unfold atI at h
    rw [at_none hn] at h
    exact ⟨[0], rfl, h⟩
  have c1' := of_decide_eq_true c1
  have hlt : i < l.length := by omega
  have hg : l[i]? = some l[i] := List.getElem?_eq_getElem hlt
  generalize l[i] = w at *
  refine ⟨by omega, ?_⟩
  conv => whnf
  refine ⟨_, wks_get hg, ?_⟩
  conv => whnf
  refine .pure (Drop1_spec (w := w) ⟨rfl, ?_⟩)
  conv => whnf
  refine branch_i (fun c2 => ?_) (fun c2 => ?_) <;> try rw [c2] <;> conv => whnf
  · unfold atI at h
    rw [at_some hn hg (of_decide_eq_true c2)] at h
    exact ⟨[0], rfl, h⟩
  · refine .go [0] rfl (l.length - (i + 1)) (by omega) ⟨i + 1, ?_, rfl, fun j x hj hx => ?_, by omega, rfl⟩
    · show [V.ms 3 0 0 (wks l).length false, V.fn (.func 61) [] [.ip [.str t] 0], fI (wks l).length, V.int .i64 (IntKind.i64.wrap ((i : Int) + 1))] = _
      rw [wrapI (by omega)]; rfl
    · rcases Nat.lt_or_ge j i with h1 | h1
      · exact hn j x h1 hx
      · have : j = i := by omega
        subst this
        rw [hg] at hx; cases hx
        exact of_decide_eq_false c2

structure DelAt (l : List Wk) (t : List UInt8) (j k : Nat) (B : List (List V)) : Prop where
  len : B.length = l.length
  le : j ≤ l.length
  lt : k < j
  cnt : k = (dropL (l.take j) t).length
  done : B.take k = wks (dropL (l.take j) t)
  rest : B.drop j = wks (l.drop j)
  rows : ∀ (i : Nat) (x : List V), B[i]? = some x → ∃ v : Wk, x = wkC v

theorem take_succ_get {α : Type} {l : List α} {j : Nat} {w : α} (h : l[j]? = some w) : l.take (j + 1) = l.take j ++ [w] := by
  rw [List.take_add_one, h]; rfl

theorem drop_none {l : List Wk} {t : List UInt8} (h : ∀ w ∈ l, w.t ≠ t) : dropL l t = l := by
  unfold dropL
  rw [List.filter_eq_self]
  intro w hw
  simp [h w hw]

theorem del_start {l : List Wk} {t : List UInt8} {i : Nat} (h : atL l t = some i) : DelAt l t (i + 1) i (wks l) := by
  unfold atL at h
  rw [List.findIdx?_eq_some_iff_getElem] at h
  obtain ⟨h1, h2, h3⟩ := h
  have hg : l[i]? = some l[i] := List.getElem?_eq_getElem h1
  have hd : dropL (l.take (i + 1)) t = l.take i := by
    rw [take_succ_get hg]
    unfold dropL
    rw [List.filter_append]
    have e1 : List.filter (fun w : Wk => !decide (w.t = t)) (l.take i) = l.take i := by
      refine drop_none fun w hw => ?_
      obtain ⟨j, hj⟩ := List.mem_iff_getElem?.1 hw
      have hjl := (List.getElem?_eq_some_iff.1 hj).1
      rw [List.length_take] at hjl
      rw [List.getElem?_take_of_lt (by omega)] at hj
      obtain ⟨g1, g2⟩ := List.getElem?_eq_some_iff.1 hj
      have := h3 j (by omega)
      rw [g2] at this
      simpa using this
    rw [e1]
    have : decide (l[i].t = t) = true := h2
    simp only [List.filter, this, Bool.not_true, List.append_nil]
  refine ⟨wks_len l, by omega, by omega, ?_, ?_, ?_, ?_⟩
  · rw [hd, List.length_take]; omega
  · rw [hd]; unfold wks; rw [List.map_take]
  · unfold wks; rw [List.map_drop]
  · intro n x hx
    unfold wks at hx
    rw [List.getElem?_map] at hx
    cases hn : l[n]? with
    | none => rw [hn] at hx; cases hx
    | some v => rw [hn] at hx; cases hx; exact ⟨v, rfl⟩

theorem del_step {l : List Wk} {t : List UInt8} {j k : Nat} {B : List (List V)} {w : Wk} (h : DelAt l t j k B) (hg : l[j]? = some w) :
    (w.t = t → DelAt l t (j + 1) k B) ∧ (w.t ≠ t → DelAt l t (j + 1) (k + 1) (B.set k (wkC w))) := by
  have hj := (List.getElem?_eq_some_iff.1 hg).1
  have hd : l.drop j = w :: l.drop (j + 1) := by
    obtain ⟨h1, h2⟩ := List.getElem?_eq_some_iff.1 hg
    rw [List.drop_eq_getElem_cons h1, h2]
  have hB : B.drop (j + 1) = wks (l.drop (j + 1)) := by
    have := h.rest
    rw [hd] at this
    have := congrArg (List.drop 1) this
    rw [List.drop_drop] at this
    exact this
  refine ⟨fun hw => ?_, fun hw => ?_⟩
  · have e : dropL (l.take (j + 1)) t = dropL (l.take j) t := by
      rw [take_succ_get hg]; unfold dropL; rw [List.filter_append]; simp [hw]
    exact ⟨h.len, by omega, by have := h.lt; omega, by rw [e]; exact h.cnt, by rw [e]; exact h.done, hB, h.rows⟩
  · have e : dropL (l.take (j + 1)) t = dropL (l.take j) t ++ [w] := by
      rw [take_succ_get hg]; unfold dropL; rw [List.filter_append]; simp [hw]
    have hlt := h.lt
    have hle := h.le
    refine ⟨by rw [List.length_set]; exact h.len, by omega, by omega, by rw [e, List.length_append, ← h.cnt]; rfl, ?_, ?_, ?_⟩
    · rw [e, take_succ_get (w := wkC w) (by rw [List.getElem?_set_self (by rw [h.len]; omega)]), List.take_set_of_le (Nat.le_refl _), h.done]
      simp [wks]
    · rw [List.drop_set_of_lt (by omega)]
      exact hB
    · intro n x hx
      rw [List.getElem?_set] at hx
      split at hx
      · split at hx
        · cases hx; exact ⟨w, rfl⟩
        · cases hx
      · exact h.rows n x hx

theorem del_get {l : List Wk} {t : List UInt8} {j k : Nat} {B : List (List V)} {w : Wk} (h : DelAt l t j k B) (hg : l[j]? = some w) : B[j]? = some (wkC w) := by
  have : (B.drop j)[0]? = (wks (l.drop j))[0]? := by rw [h.rest]
  rw [List.getElem?_drop, Nat.add_zero] at this
  rw [this]
  unfold wks
  rw [List.getElem?_map, List.getElem?_drop, Nat.add_zero, hg]
  rfl

theorem DeleteFunc_spec {l : List Wk} {t : List UInt8} (hl : l.length < 1000000) (h : Q (.sl 3 (wks (dropL l t)) false) []) :
    ACall Tryd.prog 60 0 [.ms 3 0 0 l.length false, .fn (.func 61) [] [.ip [.str t] 0]] [.buf (wks l)] Q := by
  refine ACall.ret (by_body Tryd.func60 0 rfl (Nat.le_of_ble_eq_true rfl) ?_)
  conv => whnf
  have hlv := wks_len l
  rw [← hlv]
  refine .call [0] 1 ⟨rfl, rfl, rfl⟩ (IndexFunc_spec (by omega) ?_)
  conv => whnf
  unfold atI
  cases ha : atL l t with
  | none =>
    conv => whnf
    refine ⟨[0], rfl, .frz 0 rfl (by repeat (first | exact trivial | refine And.intro (Nat.le_of_eq (Nat.zero_add _)) ?_)) (.done [] rfl ?_)⟩
    show Q (.sl 3 (List.take (wks l).length (wks l)) false) []
    rw [List.take_length]
    rw [drop_none] at h
    · exact h
    · intro w hw hwt
      unfold atL at ha
      rw [List.findIdx?_eq_none_iff] at ha
      have := ha w hw
      simp [hwt] at this
  | some i =>
    have hd := del_start ha
    have hi := hd.le
    rw [decide_eq_false (show ¬ ((i : Int) = -1) by omega)]
    conv => whnf
    rw [wrapI (n := (i : Int) + 1) (by omega)]
    refine ⟨⟨[0, 1, 5, 6], fun m ws H => ∃ (j k : Nat) (B : List (List V)), ws = [.ms 3 0 0 l.length false, .fn (.func 61) [] [.ip [.str t] 0], fI k, fI j] ∧ H = [.buf B] ∧ DelAt l t j k B ∧ m = l.length - j, ?_, ?_⟩⟩
    · refine .at (l.length - (i + 1)) ⟨i + 1, i, wks l, ?_, rfl, hd, rfl⟩
      show [V.ms 3 0 0 (wks l).length false, V.fn (.func 61) [] [.ip [.str t] 0], fI i, .int .i64 ((i : Int) + 1)] = _
      rw [hlv]
      rfl
    rintro m ws H ⟨j, k, B, rfl, rfl, hd, rfl⟩
    have hkj := hd.lt
    have hjl := hd.le
    have hBl := hd.len
    conv => whnf
    refine branch_i (fun c1 => ?_) (fun c1 => ?_) <;> try rw [c1] <;> conv => whnf
    rotate_left
    focus
      have c1' := of_decide_eq_false c1
      have : j = l.length := by omega
      subst this
      refine ⟨by omega, ?_⟩
      conv => whnf
      refine ⟨by omega, ?_⟩
      have hC : List.take k (List.take k B ++ List.replicate (l.length - k) (tt 38).zero ++ List.drop (k + (l.length - k)) B) = wks (dropL l t) := by
        have := hd.done
        rw [List.take_length] at this
        rw [← this, List.append_assoc]
        have hk : (List.take k B).length = k := by rw [List.length_take]; omega
        conv => lhs; arg 1; rw [← hk]
        exact take_app1 _ _
      have hCl : k ≤ (List.take k B ++ List.replicate (l.length - k) (tt 38).zero ++ List.drop (k + (l.length - k)) B).length := by
        rw [List.length_append, List.length_append, List.length_take]; omega
      obtain ⟨C, hCe⟩ : ∃ C, C = (List.take ((k : Int).toNat + 0) B ++ List.replicate (l.length - (k : Int).toNat) ((cx Tryd.f60.ntmps 0).T 38).zero ++ List.drop ((k : Int).toNat + 0 + (l.length - (k : Int).toNat)) B) := ⟨_, rfl⟩
      rw [← hCe]
      have hC' : List.take k C = wks (dropL l t) := by rw [hCe]; exact hC
      have hCl' : k ≤ C.length := by rw [hCe]; exact hCl
      conv => whnf
      refine ⟨by omega, ?_⟩
      conv => whnf
      refine ⟨[0], rfl, .frz 0 rfl (by repeat (first | exact trivial | refine And.intro (Nat.le_trans (Nat.le_of_eq (Nat.zero_add _)) hCl') ?_)) (.done [] rfl ?_)⟩
      show Q (.sl 3 (List.take k C) false) []
      rw [hC']
      exact h
    have c1' := of_decide_eq_true c1
    have hlt : j < l.length := by omega
    have hg : l[j]? = some l[j] := List.getElem?_eq_getElem hlt
    generalize l[j] = w at *
    refine ⟨by omega, ?_⟩
    conv => whnf
    refine ⟨_, del_get hd hg, ?_⟩
    conv => whnf
    refine .pure (Drop1_spec (w := w) ⟨rfl, ?_⟩)
    conv => whnf
    have hst := del_step hd hg
    cases hw : decide (w.t = t) <;> conv => whnf
    · refine ⟨by omega, ?_⟩
      conv => whnf
      have hkl : k < B.length := by omega
      obtain ⟨v, hv⟩ := hd.rows k _ (List.getElem?_eq_getElem hkl)
      have hv2 : B[k]? = some (wkC v) := by rw [List.getElem?_eq_getElem hkl, hv]
      refine ⟨wkC v, hv2, ?_⟩
      conv => whnf
      refine .go [0] rfl (l.length - (j + 1)) (by omega) ⟨j + 1, k + 1, B.set k (wkC w), ?_, rfl, hst.2 (of_decide_eq_false hw), rfl⟩
      show [V.ms 3 0 0 l.length false, V.fn (.func 61) [] [.ip [.str t] 0], V.int .i64 (IntKind.i64.wrap ((k : Int) + 1)), V.int .i64 (IntKind.i64.wrap ((j : Int) + 1))] = _
      rw [wrapI (n := (k : Int) + 1) (by omega), wrapI (by omega)]
      rfl
    · refine .go [0] rfl (l.length - (j + 1)) (by omega) ⟨j + 1, k, B, ?_, rfl, hst.1 (of_decide_eq_true hw), rfl⟩
      show [V.ms 3 0 0 l.length false, V.fn (.func 61) [] [.ip [.str t] 0], fI k, V.int .i64 (IntKind.i64.wrap ((j : Int) + 1))] = _
      rw [wrapI (by omega)]
      rfl


theorem Drop_spec {l : List Wk} {t : List UInt8} (hl : l.length < 1000000) (h : Q (.sl 3 (wks (dropL l t)) false) []) : ACall Tryd.prog 35 0 [.sl 3 (wks l) false, .str t] [] Q := by
  refine ACall.ret (by_body Tryd.func35 0 rfl (Nat.le_of_ble_eq_true rfl) ?_)
  conv => whnf
  refine .call [] 0 ⟨rfl, rfl, rfl⟩ (WClone_spec (l := l) (by omega) ?_)
  conv => whnf
  refine .frz 0 rfl rfl (by repeat (first | exact trivial | refine And.intro (Nat.le_refl _) ?_)) (.call [1] 0 ⟨rfl, rfl, rfl⟩ (DeleteFunc_spec (l := l) hl ?_))
  conv => whnf
  refine ⟨[], rfl, .done [] rfl ?_⟩
  exact h

theorem dropL_le (l : List Wk) (t : List UInt8) : (dropL l t).length ≤ l.length := List.length_filter_le _ _

theorem RDrop_spec {l : List Wk} {t : List UInt8} {f : Bool} (hl : l.length ≤ 1000) (h : Q (.sl 3 (wks (dropL l t)) false) []) : ACall Tryd.prog 36 0 [.sl 3 (wks l) f, .str t] [] Q := by
  refine ACall.ret (by_body Tryd.func36 0 rfl (Nat.le_of_ble_eq_true rfl) ?_)
  conv => whnf
  have hlv := wks_len l
  refine ⟨⟨[0, 1, 5, 6], fun m ws H => ∃ i : Nat, ws = [.sl 3 (wks l) f, .str t, .ms 3 0 0 (dropL (l.take i) t).length false, fI i] ∧ H = [.buf (wks (dropL (l.take i) t))] ∧ i ≤ l.length ∧ m = l.length - i, ?_, ?_⟩⟩
  · refine .frz (l.length + 1) (.adopt (.sub _ _ (.cons (VSub.refl _) (.cons (VSub.refl _) (.cons (VSub.ms0 3 0 0 false) (VSubs.refl _)))) (HSub.refl _) (.go [0] rfl l.length (by omega) ⟨0, rfl, rfl, by omega, rfl⟩)))
  rintro m ws H ⟨i, rfl, rfl, hi, rfl⟩
  conv => whnf
  refine branch_i (fun c1 => ?_) (fun c1 => ?_) <;> try rw [c1] <;> conv => whnf
  rotate_left
  focus
    have c1' := of_decide_eq_false c1
    have : i = l.length := by omega
    subst this
    rw [List.take_length]
    refine ⟨[0], rfl, .frz 0 rfl (by repeat (first | exact trivial | refine And.intro (Nat.le_of_eq (by rw [wks_len, Nat.zero_add])) ?_)) (.done [] rfl ?_)⟩
    show Q (.sl 3 (List.take (dropL l t).length (wks (dropL l t))) false) []
    rw [List.take_of_length_le (by rw [wks_len]; exact Nat.le_refl _)]
    exact h
  have c1' := of_decide_eq_true c1
  have hlt : i < l.length := by omega
  have hg : l[i]? = some l[i] := List.getElem?_eq_getElem hlt
  generalize l[i] = w at *
  refine ⟨_, ⟨by omega, wks_get hg⟩, ?_⟩
  conv => whnf
  have hsn : dropL (l.take (i + 1)) t = if w.t = t then dropL (l.take i) t else dropL (l.take i) t ++ [w] := by
    rw [take_succ_get hg]; unfold dropL; rw [List.filter_append]
    by_cases hw : w.t = t <;> simp [hw]
  refine branch_i (fun c2 => ?_) (fun c2 => ?_) <;> try rw [c2] <;> conv => whnf
  · have hw : ¬ w.t = t := by simpa using c2
    rw [if_neg hw] at hsn
    have hle := dropL_le (l.take i) t
    rw [List.length_take] at hle
    generalize dropL (l.take i) t = X at *
    refine ⟨_, ⟨by omega, wks_get hg⟩, ?_⟩
    conv => whnf
    refine app_wk (w := w) (X := X) rfl rfl rfl (by omega) ?_
    conv => whnf
    refine .go [2] rfl (l.length - (i + 1)) (by omega) ⟨i + 1, ?_, ?_, by omega, rfl⟩
    · rw [hsn]
      show [V.sl 3 (wks l) f, .str t, .ms 3 0 0 (X ++ [w]).length false, V.int .i64 (IntKind.i64.wrap ((i : Int) + 1))] = _
      rw [wrapI (by omega)]; rfl
    · rw [hsn]; rfl
  · have hw : w.t = t := by simpa using c2
    rw [if_pos hw] at hsn
    refine .go [0] rfl (l.length - (i + 1)) (by omega) ⟨i + 1, ?_, ?_, by omega, rfl⟩
    · rw [hsn]
      show [V.sl 3 (wks l) f, .str t, .ms 3 0 0 (dropL (l.take i) t).length false, V.int .i64 (IntKind.i64.wrap ((i : Int) + 1))] = _
      rw [wrapI (by omega)]; rfl
    · rw [hsn]; rfl

end Go.Proofs.YtocjhaahifpnbaaDoorPg

/- Points: read out of bytes, by the document. -/
namespace Go.Proofs.YtocjhaahifpnbaaDoorPg
open Go Go.RowKit
set_option linter.unusedSimpArgs false
set_option linter.unusedVariables false

variable {Q : V → List O → Prop}

def rrInv (b : List UInt8) (f : Bool) (a m c : Int) (n : Nat) (W : List Wk × List UInt8 × Int) (k : Nat) (ws : List V) (H : List O) : Prop :=
  ∃ (i : Nat) (acc : List Wk) (s : List UInt8) (e : Int), ws = [.sl 1 (bs b) f, .ptr 0 0, .ptr 1 0, .ptr 2 0, fI n, fI i] ∧ H = [.cells [fI 0, fI 0, fI 0, .nils], rdO s f e, .cells [fI a, fI m, fI c, .ms 3 3 0 acc.length false], .buf (wks acc)] ∧
    worksR b.length (n - i) acc s e = W ∧ RdI b acc s e ∧ i ≤ n ∧ k = n - i

theorem worksR_e {B : Int} {n : Nat} {acc : List Wk} {s : List UInt8} {e : Int} (h : e ≠ 0) : worksR B n acc s e = (acc, s, e) := by
  cases n with
  | zero => rfl
  | succ n => unfold worksR; rw [if_neg h]

set_option maxRecDepth 8000 in
set_option maxHeartbeats 16000000 in
theorem RPRead_spec {b : List UInt8} {f : Bool} (hb : b.length ≤ 900) (h : ∀ r, r = readR mayP b → Q (rdR r) []) : ACall Tryd.prog 28 0 [.sl 1 (bs b) f] [] Q := by
  refine ACall.ret (by_body Tryd.func28 0 rfl (Nat.le_of_ble_eq_true rfl) ?_)
  conv => whnf
  have hbl := bs_len b
  refine .call [1] 1 ⟨rfl, rfl, rfl⟩ (RNumber_spec (s := b) (e := 0) ?_)
  conv => whnf
  refine .call [1] 1 ⟨rfl, rfl, rfl⟩ (RNumber_spec ?_)
  conv => whnf
  refine .call [1] 1 ⟨rfl, rfl, rfl⟩ (RNumber_spec ?_)
  conv => whnf
  refine .call [1] 1 ⟨rfl, rfl, rfl⟩ (RNumber_spec ?_)
  conv => whnf
  have h1e : rNum b 0 = hd1 b := rfl
  rw [h1e]
  have h2e : rNum (hd1 b).2.1 (hd1 b).2.2 = hd2 b := rfl
  rw [h2e]
  have h3e : rNum (hd2 b).2.1 (hd2 b).2.2 = hd3 b := rfl
  rw [h3e]
  have h4e : rNum (hd3 b).2.1 (hd3 b).2.2 = hd4 b := rfl
  rw [h4e]
  unfold readR at h
  have hnn : 0 ≤ (hd4 b).1 := rNum_nonneg _ _
  have hnl : (hd4 b).1 ≤ 9223372036854775807 := rNum_le _ _
  have hr1 : (hd1 b).2.1.length ≤ b.length := rNum_len _ _
  have hr2 : (hd2 b).2.1.length ≤ (hd1 b).2.1.length := rNum_len _ _
  have hr3 : (hd3 b).2.1.length ≤ (hd2 b).2.1.length := rNum_len _ _
  have hr4 : (hd4 b).2.1.length ≤ (hd3 b).2.1.length := rNum_len _ _
  have ia : 0 ≤ (hd1 b).1 ∧ I64V (hd1 b).1 := ⟨rNum_nonneg _ _, by have : 0 ≤ (hd1 b).1 := rNum_nonneg _ _; omega, rNum_le _ _⟩
  have im : 0 ≤ (hd2 b).1 ∧ I64V (hd2 b).1 := ⟨rNum_nonneg _ _, by have : 0 ≤ (hd2 b).1 := rNum_nonneg _ _; omega, rNum_le _ _⟩
  have ic : 0 ≤ (hd3 b).1 ∧ I64V (hd3 b).1 := ⟨rNum_nonneg _ _, by have : 0 ≤ (hd3 b).1 := rNum_nonneg _ _; omega, rNum_le _ _⟩
  clear h1e h2e h3e h4e
  generalize (hd1 b).1 = a at *
  generalize (hd2 b).1 = m at *
  generalize (hd3 b).1 = c at *
  generalize hs4 : hd4 b = N4 at *
  obtain ⟨n4, s4, e4⟩ := N4
  simp only at h hnn hnl hr4 ⊢
  obtain ⟨n4, rfl⟩ : ∃ k : Nat, n4 = (k : Int) := ⟨n4.toNat, by omega⟩
  rw [Int.toNat_natCast] at h
  generalize hW : worksR b.length n4 [] s4 e4 = W at *
  refine ⟨⟨[0, 2, 4, 5, 6, 7], rrInv b f a m c n4 W, .frz (n4 + 1) (.adopt (.sub _ _ (VSubs.refl _) (.cons (.refl _) (.cons (.refl _) (.cons (.cells (.cons (VSub.refl _) (.cons (VSub.refl _) (.cons (VSub.refl _) (.cons (VSub.ms0 3 3 0 false) (VSubs.refl _)))))) (HSub.refl _)))) (.go [0, 1, 2, 3] rfl n4 (by omega) ⟨0, [], s4, e4, rfl, rfl, hW, ⟨by simp, by omega, ?_⟩, by omega, rfl⟩))), ?_⟩⟩
  · simp only [List.length_nil]; split <;> omega
  rintro k ws H ⟨i, acc, s, e, rfl, rfl, hw, hI, hn, rfl⟩
  obtain ⟨hsm, hac⟩ := hI.small hb
  have hlk := wks_len acc
  -- the end of it
  have fin : (i = n4 ∨ e ≠ 0) → W = (acc, s, e) := fun hne => by
    rw [← hw]
    rcases hne with rfl | hne
    · rw [Nat.sub_self]; rfl
    · exact worksR_e hne
  have hcase : (i < n4 ∧ e = 0) ∨ (i = n4 ∨ e ≠ 0) := by
    rcases Nat.lt_or_ge i n4 with h0 | h0
    · by_cases he : e = 0
      · exact .inl ⟨h0, he⟩
      · exact .inr (.inr he)
    · exact .inr (.inl (by omega))
  rcases hcase with ⟨h0, rfl⟩ | hend
  · conv => whnf
    rw [show decide ((i : Int) < (n4 : Int)) = true from decide_eq_true (by omega)]
    conv => whnf
    refine .call [1] 1 ⟨rfl, rfl, rfl⟩ (RText_spec ?_)
    conv => whnf
    refine .call [1] 1 ⟨rfl, rfl, rfl⟩ (RByte_spec ?_)
    conv => whnf
    refine .call [1] 1 ⟨rfl, rfl, rfl⟩ (RText_spec ?_)
    conv => whnf
    obtain ⟨j, hj⟩ : ∃ j, n4 - i = j + 1 := ⟨n4 - i - 1, by omega⟩
    rw [hj, worksR, if_pos rfl] at hw
    have hnext := hI.next (B := b.length)
    rw [bs_len]
    have hwk : workR (b.length : Int) s 0 = (⟨(rTxt (b.length : Int) s 0).1, decide ((rByt (rTxt (b.length : Int) s 0).2.1 (rTxt (b.length : Int) s 0).2.2).1 = 1), (rTxt (b.length : Int) (rByt (rTxt (b.length : Int) s 0).2.1 (rTxt (b.length : Int) s 0).2.2).2.1 (rByt (rTxt (b.length : Int) s 0).2.1 (rTxt (b.length : Int) s 0).2.2).2.2).1⟩,
      (rByt (rTxt (b.length : Int) s 0).2.1 (rTxt (b.length : Int) s 0).2.2).1,
      (rTxt (b.length : Int) (rByt (rTxt (b.length : Int) s 0).2.1 (rTxt (b.length : Int) s 0).2.2).2.1 (rByt (rTxt (b.length : Int) s 0).2.1 (rTxt (b.length : Int) s 0).2.2).2.2).2.1,
      (rTxt (b.length : Int) (rByt (rTxt (b.length : Int) s 0).2.1 (rTxt (b.length : Int) s 0).2.2).2.1 (rByt (rTxt (b.length : Int) s 0).2.1 (rTxt (b.length : Int) s 0).2.2).2.2).2.2) := rfl
    rw [hwk] at hw hnext
    clear hwk
    generalize rTxt (b.length : Int) s 0 = T1 at *
    obtain ⟨x1, s1, e1⟩ := T1
    simp only at hw hnext ⊢
    generalize rByt s1 e1 = T2 at *
    obtain ⟨x2, s2, e2⟩ := T2
    simp only at hw hnext ⊢
    generalize rTxt (b.length : Int) s2 e2 = T3 at *
    obtain ⟨x3, s3, e3⟩ := T3
    simp only at hw hnext ⊢
    refine app_wk (X := acc) (w := ⟨x1, decide (x2 = 1), x3⟩) rfl rfl rfl (by omega) ?_
    conv => whnf
    have hj1 : IntKind.i64.wrap ((i : Int) + 1) = ((i + 1 : Nat) : Int) := by rw [wrapL (by omega)]; omega
    rw [hj1]
    refine .go [0, 1, 2, 6] rfl (n4 - (i + 1)) (by omega) ⟨i + 1, acc ++ [⟨x1, decide (x2 = 1), x3⟩], s3, e3, rfl, rfl, by rw [show n4 - (i + 1) = j by omega]; exact hw, hnext, by omega, rfl⟩
  · have hW2 := fin hend
    rw [hW2] at h
    simp only at h
    rcases hend with rfl | he
    rotate_left
    focus
      conv => whnf
      refine branch_i (fun c1 => ?_) (fun c1 => ?_) <;> try rw [c1] <;> conv => whnf
      focus rw [show decide (e = 0) = false from decide_eq_false he]
    rotate_right
    focus
      conv => whnf
      rw [show decide ((i : Int) < (i : Int)) = false from decide_eq_false (by omega)]
    all_goals
      conv => whnf
      have hfit : wks acc = List.take acc.length (List.drop 0 (wks acc)) := by rw [List.drop_zero, ← hlk, List.take_length]
      refine .frz 3 rfl rfl (by repeat (first | exact trivial | refine And.intro (by rw [hlk, Nat.zero_add]; exact Nat.le_refl _) ?_)) (.pure ?_)
      refine (show ACall _ _ 0 [.agg [fI a, fI m, fI c, .sl 3 (List.take acc.length (List.drop 0 (wks acc))) false]] [] _ from ?_)
      rw [← hfit]
      refine RMayP_spec (a := a) (b := m) (c := c) (by omega) (fun w hw => (hsm w hw).2) ⟨rfl, ?_⟩
      cases hmay : mayP a m c acc <;> conv => whnf
      · refine ⟨[0, 1, 2, 3, 6, 7, 4, 5, 8, 9], by kernel_rfl, by kernel_rfl, ?_⟩
        conv => whnf
        refine ⟨[], rfl, .sub _ _ nil_pt (HSub.refl _) (.done [] rfl (h none ?_))⟩
        rw [if_neg (fun x => by have := x.1; rw [hmay] at this; cases this)]
      · refine ⟨[0, 1, 2, 3, 6, 7, 4, 5, 8, 9], by kernel_rfl, by kernel_rfl, ?_⟩
        conv => whnf
        refine ⟨_, bytesOfEs_bs _, ?_⟩
        conv => whnf
        refine .pure ?_
        refine (show ACall _ _ 0 [.agg [fI a, fI m, fI c, .sl 3 (List.take acc.length (List.drop 0 (wks acc))) false]] [] _ from ?_)
        rw [← hfit]
        refine RPWrite_spec ia im ic (by omega) hsm ⟨rfl, ?_⟩
        repeat (conv => whnf
                first | (refine ⟨rfl, ?_⟩) | (refine ⟨⟨_, bytesOfEs_bs _, rfl⟩, ?_⟩))
        conv => whnf
        refine ⟨_, bytesOfEs_bs _, ?_⟩
        conv => whnf
        by_cases heq : ptW a m c acc = b
        · rw [show decide (ptW a m c acc = b) = true from decide_eq_true heq]
          conv => whnf
          refine ⟨[], rfl, .done [] rfl ?_⟩
          have := h (some (a, m, c, acc)) (by rw [if_pos ⟨hmay, heq⟩])
          show Q (.tup [.agg [fI a, fI m, fI c, .sl 3 (List.take acc.length (List.drop 0 (wks acc))) false], fI 0]) []
          rw [← hfit]; exact this
        · rw [show decide (ptW a m c acc = b) = false from decide_eq_false heq]
          conv => whnf
          refine ⟨[], rfl, .sub _ _ nil_pt (HSub.refl _) (.done [] rfl (h none ?_))⟩
          rw [if_neg (fun x => heq x.2)]

end Go.Proofs.YtocjhaahifpnbaaDoorPg

/- Points: the same? The laws ChunkReads and ChunkPoints. -/
namespace Go.Proofs.YtocjhaahifpnbaaDoorPg
open Go Go.RowKit
set_option linter.unusedSimpArgs false
set_option linter.unusedVariables false

variable {Q : V → List O → Prop}

def swInv (la lb : List Wk) (f g : Bool) (k : Nat) (ws : List V) (H : List O) : Prop :=
  ∃ i : Nat, ws = [.sl 3 (wks la) f, .sl 3 (wks lb) g, fI i] ∧ H = [] ∧ i ≤ la.length ∧ la.take i = lb.take i ∧ k = la.length - i

theorem take_step {la lb : List Wk} {i : Nat} {v w : Wk} (h : la.take i = lb.take i) (hv : la[i]? = some v) (hw : lb[i]? = some w) (e : v = w) : la.take (i + 1) = lb.take (i + 1) := by
  rw [List.take_add_one, List.take_add_one, h, hv, hw, e]

theorem same_end {la lb : List Wk} (hl : la.length = lb.length) (h : la.take la.length = lb.take la.length) : la = lb := by
  rw [List.take_length, hl, List.take_length] at h; exact h

theorem wk_eq' (v w : Wk) : (decide (v.t = w.t) && ((v.d == w.d) && (decide (v.k = w.k) && true))) = decide (v = w) := wk_eq v w

set_option maxHeartbeats 8000000 in
theorem RSameWorks_spec {la lb : List Wk} {f g : Bool} (hl : la.length ≤ 1000000) (h : Q (.bool (decide (la = lb))) []) : ACall Tryd.prog 34 0 [.sl 3 (wks la) f, .sl 3 (wks lb) g] [] Q := by
  refine by_body Tryd.func34 0 rfl (Nat.le_of_ble_eq_true rfl) ?_
  conv => whnf
  rw [wks_len, wks_len]
  by_cases hn : (la.length : Int) = (lb.length : Int)
  rotate_left
  focus
    rw [show decide ((la.length : Int) = (lb.length : Int)) = false from decide_eq_false hn]
    conv => whnf
    rw [decide_eq_false (fun e => hn (by rw [e]))] at h
    exact ⟨[], rfl, h⟩
  rw [show decide ((la.length : Int) = (lb.length : Int)) = true from decide_eq_true hn]
  conv => whnf
  have hnn : la.length = lb.length := by omega
  refine ⟨⟨[0, 1, 5], swInv la lb f g, .at la.length ⟨0, rfl, rfl, Nat.zero_le _, rfl, rfl⟩, ?_⟩⟩
  rintro m ws H ⟨i, rfl, rfl, hi, hs, rfl⟩
  conv => whnf
  rw [wks_len]
  refine branch_i (fun c => ?_) (fun c => ?_) <;> try rw [c] <;> conv => whnf
  rotate_left
  focus
    have c' := of_decide_eq_false c
    have : i = la.length := by omega
    subst this
    rw [decide_eq_true (same_end hnn hs)] at h
    exact ⟨[], rfl, h⟩
  have c' := of_decide_eq_true c
  have hv : la[i]? = some la[i] := List.getElem?_eq_getElem (by omega)
  have hw : lb[i]? = some lb[i] := List.getElem?_eq_getElem (by omega)
  generalize la[i] = v at *
  generalize lb[i] = w at *
  refine ⟨List.range 9, by kernel_rfl, by kernel_rfl, ?_⟩
  conv => whnf
  refine ⟨_, ⟨by omega, wks_get hv⟩, ?_⟩
  conv => whnf
  refine ⟨_, ⟨by omega, wks_get hw⟩, ?_⟩
  conv => whnf
  rw [wk_eq']
  by_cases e : v = w
  · rw [decide_eq_true e]
    conv => whnf
    refine .go [] rfl (la.length - (i + 1)) (by omega) ⟨i + 1, ?_, rfl, by omega, take_step hs hv hw e, rfl⟩
    show [V.sl 3 (wks la) f, V.sl 3 (wks lb) g, V.int .i64 (IntKind.i64.wrap ((i : Int) + 1))] = _
    rw [wrapL (by omega)]; rfl
  · rw [decide_eq_false e]
    conv => whnf
    rw [decide_eq_false (fun x => e (by rw [x, hw] at hv; exact (Option.some.inj hv).symm))] at h
    exact ⟨[], rfl, h⟩

set_option maxHeartbeats 8000000 in
theorem SEqual_spec {la lb : List Wk} {f g : Bool} (hl : la.length ≤ 1000000) (h : Q (.bool (decide (la = lb))) []) : ACall Tryd.prog 58 0 [.sl 3 (wks la) f, .sl 3 (wks lb) g] [] Q := by
  refine by_body Tryd.func58 0 rfl (Nat.le_of_ble_eq_true rfl) ?_
  conv => whnf
  rw [wks_len, wks_len]
  by_cases hn : (la.length : Int) = (lb.length : Int)
  rotate_left
  focus
    rw [show decide ((la.length : Int) = (lb.length : Int)) = false from decide_eq_false hn]
    conv => whnf
    rw [decide_eq_false (fun e => hn (by rw [e]))] at h
    exact ⟨[], rfl, h⟩
  rw [show decide ((la.length : Int) = (lb.length : Int)) = true from decide_eq_true hn]
  conv => whnf
  have hnn : la.length = lb.length := by omega
  rw [wks_len]
  refine ⟨⟨[0, 1, 12, 13], fun m ws H => ∃ i : Nat, ws = [.sl 3 (wks la) f, .sl 3 (wks lb) g, fI la.length, fI i] ∧ H = [] ∧ i ≤ la.length ∧ la.take i = lb.take i ∧ m = la.length - i, .at la.length ⟨0, rfl, rfl, Nat.zero_le _, rfl, rfl⟩, ?_⟩⟩
  rintro m ws H ⟨i, rfl, rfl, hi, hs, rfl⟩
  conv => whnf
  refine branch_i (fun c => ?_) (fun c => ?_) <;> try rw [c] <;> conv => whnf
  rotate_left
  focus
    have c' := of_decide_eq_false c
    have : i = la.length := by omega
    subst this
    rw [decide_eq_true (same_end hnn hs)] at h
    exact ⟨[], rfl, h⟩
  have c' := of_decide_eq_true c
  have hv : la[i]? = some la[i] := List.getElem?_eq_getElem (by omega)
  have hw : lb[i]? = some lb[i] := List.getElem?_eq_getElem (by omega)
  generalize la[i] = v at *
  generalize lb[i] = w at *
  refine ⟨List.range 9, by kernel_rfl, by kernel_rfl, ?_⟩
  conv => whnf
  refine ⟨_, ⟨by omega, wks_get hv⟩, ?_⟩
  conv => whnf
  refine ⟨_, ⟨by omega, wks_get hw⟩, ?_⟩
  conv => whnf
  rw [wk_eq']
  by_cases e : v = w
  · rw [decide_eq_true e]
    conv => whnf
    refine .go [] rfl (la.length - (i + 1)) (by omega) ⟨i + 1, ?_, rfl, by omega, take_step hs hv hw e, rfl⟩
    show [V.sl 3 (wks la) f, V.sl 3 (wks lb) g, fI la.length, V.int .i64 (IntKind.i64.wrap ((i : Int) + 1))] = _
    rw [wrapL (by omega)]; rfl
  · rw [decide_eq_false e]
    conv => whnf
    rw [decide_eq_false (fun x => e (by rw [x, hw] at hv; exact (Option.some.inj hv).symm))] at h
    exact ⟨[], rfl, h⟩

theorem dI (x : Int) : decide (x = x) = true := decide_eq_true rfl

/-- a point and itself -/
theorem RSame_self {a m c : Int} {l : List Wk} (hl : l.length ≤ 1000000) (h : Q (.bool true) []) : ACall Tryd.prog 29 0 [pt a m c l, pt a m c l] [] Q := by
  refine by_body Tryd.func29 0 rfl (Nat.le_of_ble_eq_true rfl) ?_
  conv => whnf
  refine .pure (RSameWorks_spec hl ⟨rfl, ?_⟩)
  rw [decide_eq_true rfl]
  conv => whnf
  rw [dI]
  conv => whnf
  rw [dI]
  conv => whnf
  rw [dI]
  conv => whnf
  exact ⟨[], rfl, h⟩

theorem PSame_self {a m c : Int} {l : List Wk} (hl : l.length ≤ 1000000) (h : Q (.bool true) []) : ACall Tryd.prog 32 0 [pt a m c l, pt a m c l] [] Q := by
  refine by_body Tryd.func32 0 rfl (Nat.le_of_ble_eq_true rfl) ?_
  conv => whnf
  rw [dI]
  conv => whnf
  rw [dI]
  conv => whnf
  rw [dI]
  conv => whnf
  refine .pure (SEqual_spec hl ⟨rfl, ?_⟩)
  rw [decide_eq_true rfl]
  conv => whnf
  exact ⟨[], rfl, h⟩

theorem mayP_pos : ∀ a m c l, mayP a m c l = true → 0 ≤ a ∧ 0 ≤ m ∧ 0 ≤ c := fun a m c l h => by
  unfold mayP at h
  simp only [Bool.and_eq_true, decide_eq_true_eq] at h
  exact ⟨h.1, h.2.1, h.2.2.1⟩

theorem readP_len {b : List UInt8} {a m c : Int} {l : List Wk} (h : readP mayP b = some (a, m, c, l)) : l.length ≤ b.length := by
  obtain ⟨h1, _⟩ := readP_back h
  have := wksW_cnt l
  rw [h1]
  unfold ptW
  simp only [List.length_append]; omega

set_option maxHeartbeats 8000000 in
theorem ChunkReads_spec {b : List UInt8} : ACall Tryd.prog 6 0 [.sl 1 (bs b) false] [] (fun v _ => v = .bool true) := by
  refine by_body Tryd.func6 0 rfl (Nat.le_of_ble_eq_true rfl) ?_
  conv => whnf
  rw [bs_len]
  have tail : ∀ b : List UInt8, b.length ≤ 100 → ∃ r, (r = readP mayP b ∧ r = readR mayP b) ∧ ((∃ a m c l, r = some (a, m, c, l) ∧ l.length ≤ 100) ∨ r = none) := fun b hb => by
    refine ⟨readP mayP b, ⟨rfl, read_eq mayP_pos (by omega)⟩, ?_⟩
    cases hr : readP mayP b with
    | none => exact .inr rfl
    | some x =>
      obtain ⟨a, m, c, l⟩ := x
      exact .inl ⟨a, m, c, l, rfl, by have := readP_len hr; omega⟩
  refine branch_i (fun c => ?_) (fun c => ?_) <;> try rw [c] <;> conv => whnf
  · have c' := of_decide_eq_true c
    refine ⟨⟨by omega, by rw [bs_len]; omega⟩, ?_⟩
    conv => whnf
    rw [bs_take]
    have hB : (List.take (100 : Int).toNat b).length ≤ 100 := by rw [List.length_take]; exact Nat.min_le_left _ _
    generalize List.take (100 : Int).toNat b = B at *
    obtain ⟨r, ⟨hp, hr⟩, hc⟩ := tail _ hB
    refine .pure (PRead_spec (by omega) fun r1 h1 => ⟨rfl, ?_⟩)
    rw [h1, ← hp]
    clear h1 hp
    rcases hc with ⟨a, m, c, l, rfl, hl⟩ | rfl
    · conv => whnf
      refine .pure (RPRead_spec (by omega) fun r2 h2 => ⟨rfl, ?_⟩)
      rw [h2, ← hr]
      conv => whnf
      refine .pure (RSame_self (by omega) ⟨rfl, ?_⟩)
      conv => whnf
      refine .pure (lives11_spec ⟨rfl, ?_⟩)
      conv => whnf
      exact ⟨[], rfl, rfl⟩
    · conv => whnf
      refine .pure (RPRead_spec (by omega) fun r2 h2 => ⟨rfl, ?_⟩)
      rw [h2, ← hr]
      conv => whnf
      refine .pure (RSame_self (l := []) (by simp) ⟨rfl, ?_⟩)
      conv => whnf
      refine .pure (lives11_spec ⟨rfl, ?_⟩)
      conv => whnf
      exact ⟨[], rfl, rfl⟩
  · have c' := of_decide_eq_false c
    have hB : b.length ≤ 100 := by omega
    obtain ⟨r, ⟨hp, hr⟩, hc⟩ := tail _ hB
    refine .pure (PRead_spec (by omega) fun r1 h1 => ⟨rfl, ?_⟩)
    rw [h1, ← hp]
    clear h1 hp
    rcases hc with ⟨a, m, c, l, rfl, hl⟩ | rfl
    · conv => whnf
      refine .pure (RPRead_spec (by omega) fun r2 h2 => ⟨rfl, ?_⟩)
      rw [h2, ← hr]
      conv => whnf
      refine .pure (RSame_self (by omega) ⟨rfl, ?_⟩)
      conv => whnf
      refine .pure (lives11_spec ⟨rfl, ?_⟩)
      conv => whnf
      exact ⟨[], rfl, rfl⟩
    · conv => whnf
      refine .pure (RPRead_spec (by omega) fun r2 h2 => ⟨rfl, ?_⟩)
      rw [h2, ← hr]
      conv => whnf
      refine .pure (RSame_self (l := []) (by simp) ⟨rfl, ?_⟩)
      conv => whnf
      refine .pure (lives11_spec ⟨rfl, ?_⟩)
      conv => whnf
      exact ⟨[], rfl, rfl⟩

theorem wksW_leB {B : Nat} : ∀ {l : List Wk}, (∀ w ∈ l, w.t.length ≤ B ∧ w.k.length ≤ B) → (wksW l).length ≤ (2 * B + 21) * l.length
  | [], _ => by simp [wksW]
  | w :: l, h => by
    have hw := h w (by simp)
    have h1 := txtW_len w.t
    have h3 := txtW_len w.k
    have h2 := wksW_leB (B := B) (l := l) fun x hx => h x (by simp [hx])
    have e : wksW (w :: l) = wkW w ++ wksW l := by simp [wksW]
    have hwk : (wkW w).length ≤ 2 * B + 21 := by
      unfold wkW
      simp only [List.length_append, List.length_cons]; omega
    rw [e, List.length_append, List.length_cons, Nat.mul_add, Nat.mul_one]
    omega

set_option maxRecDepth 8000 in
set_option maxHeartbeats 16000000 in
theorem ChunkPoints_spec {a b c : Int} {l : List Wk} (ha : I64V a) (hb : I64V b) (hc : I64V c) : ACall Tryd.prog 7 0 [pt a b c l] [] (fun v _ => v = .bool true) := by
  refine by_body Tryd.func7 0 rfl (Nat.le_of_ble_eq_true rfl) ?_
  conv => whnf
  refine .pure (few_spec ⟨rfl, ?_⟩)
  conv => whnf
  have ht : ∀ w ∈ fewL l, w.t.length ≤ 40 := fun w hw => (few_t w hw).1
  have hts : SmallW (fewL l) := fun w hw => by have := few_t w hw; constructor <;> omega
  obtain ⟨hok, hg4⟩ := goodW_ok (nm := nameOk) ht
  have hsh := few_short l
  have hfl : (fewL l).length ≤ 6 := fewN_len l 6
  have hmay : mayP (natI a) (natI b) (natI c) (goodW nameOk (fewL l)) = true := by
    unfold mayP
    rw [decide_eq_true (natI_ge ha), decide_eq_true (natI_ge hb), decide_eq_true (natI_ge hc), ok_right hok]; rfl
  have hgt : ∀ w ∈ goodW nameOk (fewL l), w.t.length ≤ 40 ∧ w.k.length ≤ 40 := fun w hw => ⟨(hok.each w hw).tab, (hok.each w hw).short⟩
  generalize hge : goodW nameOk (fewL l) = g at *
  have hgs : SmallW g := fun w hw => by have := hgt w hw; constructor <;> omega
  have natI_bd : ∀ {x : Int}, I64V x → I64V (natI x) := fun {x} h => by
    obtain ⟨h1, h2⟩ := h
    unfold natI
    split
    · rw [wrapI (n := x + 1) (by omega), wrapI (by omega)]; unfold I64V; omega
    · exact ⟨h1, h2⟩
  have hwl := wksW_leB hgt
  have hpl : (ptW (natI a) (natI b) (natI c) g).length ≤ 900 := by
    have h1 := numW_len (natI a)
    have h2 := numW_len (natI b)
    have h3 := numW_len (natI c)
    have h4 := numW_len (g.length : Int)
    unfold ptW
    simp only [List.length_append]; omega
  have hread : readP mayP (ptW (natI a) (natI b) (natI c) g) = some (natI a, natI b, natI c, g) := readP_W ⟨natI_ge ha, (natI_bd ha).2⟩ ⟨natI_ge hb, (natI_bd hb).2⟩ ⟨natI_ge hc, (natI_bd hc).2⟩ (by omega) hmay
  refine .pure (RMayP_spec (a := a) (b := b) (c := c) (by omega) hsh ⟨rfl, ?_⟩)
  conv => whnf
  refine .pure (PWrite_spec ha hb hc (by omega) hts (fun h1 => ⟨rfl, ?_⟩) (fun h0 => ⟨rfl, ?_⟩))
  rotate_left
  focus rw [h0]
  rotate_left
  focus rw [h1]
  all_goals
    conv => whnf
    refine .pure (RPoint_spec (a := a) (b := b) (c := c) ht ⟨rfl, ?_⟩)
    rw [hge]
    conv => whnf
    refine .pure (PWrite_spec (natI_bd ha) (natI_bd hb) (natI_bd hc) (by omega) hgs (fun h2 => ⟨rfl, ?_⟩) (fun h2 => by rw [hmay] at h2; cases h2))
    conv => whnf
    refine .pure (PRead_spec hpl fun r hr => ⟨rfl, ?_⟩)
    rw [hr, hread]
    conv => whnf
    refine ⟨List.range 28, by kernel_rfl, by kernel_rfl, ?_⟩
    conv => whnf
    refine ⟨_, bytesOfEs_bs _, ?_⟩
    conv => whnf
    refine .pure (RPWrite_spec ⟨natI_ge ha, natI_bd ha⟩ ⟨natI_ge hb, natI_bd hb⟩ ⟨natI_ge hc, natI_bd hc⟩ (by omega) hgs ⟨rfl, ?_⟩)
    repeat (conv => whnf
            first | (refine ⟨rfl, ?_⟩) | (refine ⟨⟨_, bytesOfEs_bs _, rfl⟩, ?_⟩))
    conv => whnf
    refine ⟨_, bytesOfEs_bs _, ?_⟩
    conv => whnf
    rw [show ∀ x : List UInt8, decide (x = x) = true from fun x => decide_eq_true rfl]
    conv => whnf
    refine .pure (PSame_self (by omega) ⟨rfl, ?_⟩)
    repeat (conv => whnf
            first | (refine ⟨rfl, ?_⟩) | (refine ⟨⟨_, bytesOfEs_bs _, rfl⟩, ?_⟩))
    conv => whnf
    refine .pure (RSame_self (by omega) ⟨rfl, ?_⟩)
    repeat (conv => whnf
            first | (refine ⟨rfl, ?_⟩) | (refine ⟨⟨_, bytesOfEs_bs _, rfl⟩, ?_⟩))
    conv => whnf
    refine .pure (lives11_spec ⟨rfl, ?_⟩)
    repeat (conv => whnf
            first | (refine ⟨rfl, ?_⟩) | (refine ⟨⟨_, bytesOfEs_bs _, rfl⟩, ?_⟩))
    conv => whnf
    exact ⟨[], rfl, rfl⟩

theorem u8_wf {k : Int} (h : (Lit.int .u8 k).wf = true) : 0 ≤ k ∧ k ≤ 255 := by
  have h' : (decide (IntKind.u8.min ≤ k) && decide (k ≤ IntKind.u8.max)) = true := h
  rw [Bool.and_eq_true] at h'
  exact ⟨of_decide_eq_true h'.1, of_decide_eq_true h'.2⟩

theorem bs_of : ∀ {es : List (List V)}, (∀ x ∈ es, ∃ n : Int, x = [.int .u8 n] ∧ 0 ≤ n ∧ n ≤ 255) → ∃ b : List UInt8, es = bs b
  | [], _ => ⟨[], rfl⟩
  | x :: es, h => by
    obtain ⟨n, rfl, h0, h1⟩ := h x (by simp)
    obtain ⟨b, rfl⟩ := bs_of (es := es) fun y hy => h y (by simp [hy])
    refine ⟨UInt8.ofNat n.toNat :: b, ?_⟩
    have : ((UInt8.ofNat n.toNat).toNat : Int) = n := by rw [ofNat_lt (by omega)]; omega
    show _ = [V.int .u8 ((UInt8.ofNat n.toNat).toNat : Int)] :: bs b
    rw [this]

theorem bytes_in {vs : List V} (h : Shp tt 8 43 vs) : ∃ b : List UInt8, argV tt 43 vs = .sl 1 (bs b) false := by
  obtain ⟨es, _, g1, rfl⟩ := h
  obtain ⟨b, rfl⟩ := bs_of fun x hx => by
    obtain ⟨n, hn, rfl⟩ := g1 x hx
    exact ⟨n, rfl, u8_wf hn⟩
  exact ⟨b, rfl⟩

end Go.Proofs.YtocjhaahifpnbaaDoorPg

/- The law ChunkTurns. -/
namespace Go.Proofs.YtocjhaahifpnbaaDoorPg
open Go Go.RowKit
set_option linter.unusedSimpArgs false
set_option linter.unusedVariables false

variable {Q : V → List O → Prop}

theorem wksOk_nil : WksOk nameOk [] := ⟨List.Pairwise.nil, fun w hw => (by cases hw), by decide⟩

theorem addw_wok {g : List Wk} {t : List UInt8} (h : WksOk nameOk g) (hg : g.length ≤ 4) (ht : t.length ≤ 40) : WksOk nameOk (addW g t) := by
  unfold addW
  by_cases he : addE nameOk g t = 0
  · rw [if_pos he]
    obtain ⟨h1, h2⟩ := addE_ok he
    exact ins_ok h ⟨h1, .inl rfl, Nat.zero_le _, ht⟩ h2 (by omega)
  · rw [if_neg he]; exact wksOk_nil

theorem gow_wok {g : List Wk} {t last : List UInt8} {done : Bool} (h : WksOk nameOk g) (hl : last.length ≤ 40) : WksOk nameOk (goW g t last done) := by
  unfold goW
  by_cases he : goE g t last done = 0
  · rw [if_pos he]; exact go_wok h hl he
  · rw [if_neg he]; exact wksOk_nil

set_option maxHeartbeats 16000000 in
theorem ChunkTurns_spec {l : List Wk} {T X : List UInt8} {n : Int} {d f : Bool} : ACall Tryd.prog 9 0 [.sl 3 (wks l) f, .str T, .str X, .int .i64 n, .bool d] [] (fun v _ => v = .bool true) := by
  refine by_body Tryd.func9 0 rfl (Nat.le_of_ble_eq_true rfl) ?_
  conv => whnf
  refine .pure (few_spec ⟨rfl, ?_⟩)
  conv => whnf
  obtain ⟨hok, hg4⟩ := goodW_ok (nm := nameOk) (l := fewL l) fun w hw => (few_t w hw).1
  refine .pure (RGoodW_spec (fun w hw => (few_t w hw).1) ⟨rfl, ?_⟩)
  generalize hgg : goodW nameOk (fewL l) = g at *
  conv => whnf
  refine .pure (name40_spec ⟨rfl, ?_⟩)
  have hT : (List.take 40 T).length ≤ 40 := by rw [List.length_take]; omega
  generalize List.take 40 T = T at *
  conv => whnf
  refine .pure (name40_spec ⟨rfl, ?_⟩)
  have hX : (List.take 40 X).length ≤ 40 := by rw [List.length_take]; omega
  generalize List.take 40 X = X at *
  conv => whnf
  refine .pure (ikey_spec ⟨rfl, ?_⟩)
  have hK := ikey_len n
  generalize keyS [⟨2, n, []⟩] = K at *
  conv => whnf
  refine ⟨⟨[0, 4, 11, 12, 13, 14], fun mm ws H => ∃ i : Nat, ws = [.sl 3 (wks l) f, .bool d, .sl 3 (wks g) false, .ms 1 0 0 3 true, .ms 1 1 0 2 true, fI i] ∧ H = [.buf [[.str T], [.str [116]], [.str [117]]], .buf [[.str X], [.str K]]] ∧ i ≤ 3 ∧ mm = 3 - i,
    .frz 4 (.go [0, 1] rfl 3 (by omega) ⟨0, rfl, rfl, by omega, rfl⟩), ?_⟩⟩
  rintro mm ws H ⟨i, rfl, rfl, hi, rfl⟩
  conv => whnf
  have bb : ∀ b : Bool, (b == b) = true := fun b => by cases b <;> rfl
  refine branch_i (fun c1 => ?_) (fun c1 => ?_) <;> try rw [c1] <;> conv => whnf
  rotate_left
  focus
    refine .pure (few_spec ⟨rfl, ?_⟩)
    conv => whnf
    refine .pure (RGoodW_spec (fun w hw => (few_t w hw).1) ⟨rfl, ?_⟩)
    rw [hgg]
    conv => whnf
    refine .pure (RSameWorks_spec (by omega) ⟨rfl, ?_⟩)
    rw [decide_eq_true (rfl : g = g)]
    conv => whnf
    refine .pure (lives11_spec ⟨rfl, ?_⟩)
    conv => whnf
    exact ⟨[], rfl, rfl⟩
  have c1' := of_decide_eq_true c1
  obtain ⟨N, hN, hN4⟩ : ∃ N : List UInt8, [[V.str T], [V.str [116]], [V.str [117]]][i]? = some [.str N] ∧ N.length ≤ 40 := by
    obtain rfl | rfl | rfl : i = 0 ∨ i = 1 ∨ i = 2 := by omega
    · exact ⟨T, rfl, hT⟩
    · exact ⟨[116], rfl, by decide⟩
    · exact ⟨[117], rfl, by decide⟩
  refine ⟨by omega, ?_⟩
  conv => whnf
  refine ⟨_, hN, ?_⟩
  conv => whnf
  refine .pure (Add_spec (by omega) hok.sorted ⟨rfl, ?_⟩)
  conv => whnf
  refine ⟨by omega, ?_⟩
  conv => whnf
  refine ⟨_, hN, ?_⟩
  conv => whnf
  refine .pure (RAddF_spec (by omega) ⟨rfl, ?_⟩)
  conv => whnf
  have hA := addw_wok (t := N) hok hg4 hN4
  generalize addW g N = A at *
  generalize addE nameOk g N = e at *
  refine ⟨List.range 20 ++ [21, 22, 23, 24, 25, 20, 26, 27, 28, 29], by kernel_rfl, by kernel_rfl, ?_⟩
  conv => whnf
  refine .pure (RSameWorks_spec (by have := hA.few; omega) ⟨rfl, ?_⟩)
  rw [decide_eq_true (rfl : A = A)]
  repeat (conv => whnf
          first | (refine ⟨rfl, ?_⟩) | (refine ⟨⟨by decide, rfl⟩, ?_⟩) | (refine ⟨⟨⟨by omega, by omega⟩, rfl⟩, ?_⟩) | (refine ⟨⟨_, hN, rfl⟩, ?_⟩))
  conv => whnf
  rw [decide_eq_true (rfl : e = e)]
  conv => whnf
  refine .pure (Right_spec (by have := hA.few; omega) (fun w hw => by have := (hA.each w hw).short; omega) ⟨rfl, ?_⟩)
  rw [ok_right hA]
  repeat (conv => whnf
          first | (refine ⟨rfl, ?_⟩) | (refine ⟨⟨by decide, rfl⟩, ?_⟩) | (refine ⟨⟨⟨by omega, by omega⟩, rfl⟩, ?_⟩) | (refine ⟨⟨_, hN, rfl⟩, ?_⟩))
  conv => whnf
  refine ⟨by omega, ?_⟩
  conv => whnf
  refine ⟨_, hN, ?_⟩
  conv => whnf
  refine ⟨by omega, ?_⟩
  conv => whnf
  refine ⟨_, hN, ?_⟩
  conv => whnf
  refine .pure (Drop_spec (by omega) ⟨rfl, ?_⟩)
  repeat (conv => whnf
          first | (refine ⟨rfl, ?_⟩) | (refine ⟨⟨by decide, rfl⟩, ?_⟩) | (refine ⟨⟨⟨by omega, by omega⟩, rfl⟩, ?_⟩) | (refine ⟨⟨_, hN, rfl⟩, ?_⟩))
  conv => whnf
  refine .pure (RDrop_spec (by omega) ⟨rfl, ?_⟩)
  repeat (conv => whnf
          first | (refine ⟨rfl, ?_⟩) | (refine ⟨⟨by decide, rfl⟩, ?_⟩) | (refine ⟨⟨⟨by omega, by omega⟩, rfl⟩, ?_⟩) | (refine ⟨⟨_, hN, rfl⟩, ?_⟩))
  conv => whnf
  refine .pure (RSameWorks_spec (by have := dropL_le g N; omega) ⟨rfl, ?_⟩)
  rw [decide_eq_true (rfl : dropL g N = dropL g N)]
  repeat (conv => whnf
          first | (refine ⟨rfl, ?_⟩) | (refine ⟨⟨by decide, rfl⟩, ?_⟩) | (refine ⟨⟨⟨by omega, by omega⟩, rfl⟩, ?_⟩) | (refine ⟨⟨_, hN, rfl⟩, ?_⟩))
  conv => whnf
  refine ⟨⟨[0, 4, 11, 12, 13, 14, 19], fun mm ws H => ∃ k : Nat, ws = [.sl 3 (wks l) f, .bool d, .sl 3 (wks g) false, .ms 1 0 0 3 true, .ms 1 1 0 2 true, fI i, fI k] ∧ H = [.buf [[.str T], [.str [116]], [.str [117]]], .buf [[.str X], [.str K]]] ∧ k ≤ 2 ∧ mm = 2 - k,
    .frz 3 (.go [0, 1] rfl 2 (by omega) ⟨0, rfl, rfl, by omega, rfl⟩), ?_⟩⟩
  clear hA
  clear e A
  rintro mm ws H ⟨k, rfl, rfl, hk, rfl⟩
  conv => whnf
  refine branch_i (fun d1 => ?_) (fun d1 => ?_) <;> try rw [d1] <;> conv => whnf
  rotate_left
  focus
    refine .go [0, 1] rfl (3 - (i + 1)) (by omega) ⟨i + 1, ?_, rfl, by omega, rfl⟩
    show [V.sl 3 (wks l) f, .bool d, .sl 3 (wks g) false, .ms 1 0 0 3 true, .ms 1 1 0 2 true, V.int .i64 (IntKind.i64.wrap ((i : Int) + 1))] = _
    rw [wrapI (by omega)]; rfl
  have d1' := of_decide_eq_true d1
  obtain ⟨Y, hY, hY4⟩ : ∃ Y : List UInt8, [[V.str X], [V.str K]][k]? = some [.str Y] ∧ Y.length ≤ 40 := by
    obtain rfl | rfl : k = 0 ∨ k = 1 := by omega
    · exact ⟨X, rfl, hX⟩
    · exact ⟨K, rfl, by omega⟩
  refine ⟨List.range 16, by kernel_rfl, by kernel_rfl, ?_⟩
  conv => whnf
  refine ⟨by omega, ?_⟩
  conv => whnf
  refine ⟨_, hN, ?_⟩
  conv => whnf
  refine ⟨by omega, ?_⟩
  conv => whnf
  refine ⟨_, hY, ?_⟩
  conv => whnf
  refine .pure (Go_spec (by omega) hok.sorted (by omega) ⟨rfl, ?_⟩)
  repeat (conv => whnf
          first | (refine ⟨rfl, ?_⟩) | (refine ⟨⟨by decide, rfl⟩, ?_⟩) | (refine ⟨⟨⟨by omega, by omega⟩, rfl⟩, ?_⟩) | (refine ⟨⟨_, hN, rfl⟩, ?_⟩) | (refine ⟨⟨_, hY, rfl⟩, ?_⟩))
  conv => whnf
  refine ⟨List.range 16, by kernel_rfl, by kernel_rfl, ?_⟩
  conv => whnf
  refine ⟨by omega, ?_⟩
  conv => whnf
  refine ⟨_, hN, ?_⟩
  conv => whnf
  refine ⟨by omega, ?_⟩
  conv => whnf
  refine ⟨_, hY, ?_⟩
  conv => whnf
  refine .pure (RGoF_spec (by omega) (by omega) ⟨rfl, ?_⟩)
  repeat (conv => whnf
          first | (refine ⟨rfl, ?_⟩) | (refine ⟨⟨by decide, rfl⟩, ?_⟩) | (refine ⟨⟨⟨by omega, by omega⟩, rfl⟩, ?_⟩) | (refine ⟨⟨_, hN, rfl⟩, ?_⟩) | (refine ⟨⟨_, hY, rfl⟩, ?_⟩))
  conv => whnf
  have hB := gow_wok (t := N) (last := Y) (done := d) hok hY4
  generalize goW g N Y d = B at *
  generalize goE g N Y d = e at *
  refine .pure (RSameWorks_spec (by have := hB.few; omega) ⟨rfl, ?_⟩)
  rw [decide_eq_true (rfl : B = B)]
  conv => whnf
  rw [decide_eq_true (rfl : e = e)]
  conv => whnf
  refine .pure (RRight_spec (by have := hB.few; omega) (fun w hw => by have := (hB.each w hw).short; omega) ⟨rfl, ?_⟩)
  rw [ok_right hB]
  conv => whnf
  refine .go [0, 1] rfl (2 - (k + 1)) (by omega) ⟨k + 1, ?_, rfl, by omega, rfl⟩
  show [V.sl 3 (wks l) f, .bool d, .sl 3 (wks g) false, .ms 1 0 0 3 true, .ms 1 1 0 2 true, fI i, V.int .i64 (IntKind.i64.wrap ((k : Int) + 1))] = _
  rw [wrapI (by omega)]; rfl

end Go.Proofs.YtocjhaahifpnbaaDoorPg
