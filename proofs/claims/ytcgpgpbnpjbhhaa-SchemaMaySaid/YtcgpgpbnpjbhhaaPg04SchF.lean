/- Schemas: one that may be, made of any. -/
import Derived.Test.YtcgpgpbnpjbhhaaPg04SchE
import Derived.Test.YtcgpgpbnpjbhhaaPgSch2
namespace Go.Proofs.YtcgpgpbnpjbhhaaPg
open Go Go.RowKit
set_option linter.unusedVariables false

variable {Q : V → List O → Prop}

/-- Find, in columns that may still be written. -/
theorem RFindM_spec {l : List Col} {keys : Int} {name : List UInt8} (hl : l.length < 1000000) (h : Q (fI (fnd name l 0)) [.buf (cols l)]) :
    ACall Try.prog 18 1 [.agg [.ms 3 0 0 (cols l).length false, fI keys], .str name] [.buf (cols l)] Q := by
  refine by_body Try.func18 1 rfl (Nat.le_of_ble_eq_true rfl) ?_
  conv => whnf
  have hlk := cols_len l
  refine ⟨⟨[1, 2, 5], fun m vs H => ∃ i : Nat, vs = [.str name, .ptr 1 0, fI i] ∧ H = [.buf (cols l), .cells [.ms 3 0 0 (cols l).length false, fI keys]] ∧ (∀ c ∈ l.take i, c.n ≠ name) ∧ i ≤ l.length ∧ m = l.length - i, .at _ ⟨0, rfl, rfl, by simp, Nat.zero_le _, rfl⟩, ?_⟩⟩
  rintro m vs H ⟨i, rfl, rfl, hn, hi, rfl⟩
  conv => whnf
  refine branch_i (fun c => ?_) (fun c => ?_) <;> try rw [c] <;> conv => whnf
  · have c' := of_decide_eq_true c
    have hlt : i < l.length := by omega
    have hget : l[i]? = some l[i] := List.getElem?_eq_getElem hlt
    refine ⟨by omega, ?_⟩
    conv => whnf
    refine ⟨_, cols_get hget, ?_⟩
    conv => whnf
    refine branch_i (fun c2 => ?_) (fun c2 => ?_) <;> try rw [c2] <;> conv => whnf
    · rw [fnd_here hn hget (of_decide_eq_true c2)] at h
      exact ⟨[0], rfl, h⟩
    · refine .go [0, 1] rfl (l.length - (i + 1)) (by omega) ⟨i + 1, ?_, rfl, take_snoc hn hget (of_decide_eq_false c2), by omega, rfl⟩
      show [V.str name, V.ptr 1 0, V.int .i64 (IntKind.i64.wrap ((i : Int) + 1))] = _
      rw [show IntKind.i64.wrap ((i : Int) + 1) = ((i + 1 : Nat) : Int) by rw [IntKind.wrap_i64]; omega]
  · have c' := of_decide_eq_false c
    rw [List.take_of_length_le (by omega)] at hn
    rw [fnd_none hn] at h
    exact ⟨[0], rfl, h⟩

theorem pool_get {i : Nat} (h : i < 6) : poolS[i]? = some (poolS.getD i []) := by
  have : i < poolS.length := h
  simp [List.getD, List.getElem?_eq_getElem this]

def GInv (l : List Col) (keys : Int) (G : List Col) (K : Int) (m : Nat) (vs : List V) (H : List O) : Prop :=
  ∃ j : Nat, vs = [.ptr 0 0, .ptr 1 0, .ptr 2 0, fI j] ∧ H = [.cells [.sl 3 (cols l) false, fI keys], .cells [.nils, fI 0], .cells [.ms 3 3 0 (cols (clearK j G)).length false, fI K], .buf (cols (clearK j G))] ∧ j ≤ K.toNat ∧ m = K.toNat - j

set_option maxHeartbeats 4000000 in
theorem RGood_spec {l : List Col} {keys : Int} (hkr : -9223372036854775808 ≤ keys ∧ keys ≤ 9223372036854775807) (h : Q (sch (goodL nameOk l keys) (goodK nameOk l keys)) []) : ACall Try.prog 7 0 [sch l keys] [] Q := by
  refine ACall.ret (by_body Try.func7 0 rfl (Nat.le_of_ble_eq_true rfl) ?_)
  conv => whnf
  have hlk := cols_len l
  refine ⟨⟨[1, 2, 3, 4, 5], fun m vs H => ∃ i : Nat, vs = [.ptr 0 0, .ptr 1 0, .ptr 2 0, .sl 1 (poolS.map fun s => [.str s]) true, fI i] ∧
    H = [.cells [.sl 3 (cols l) false, fI keys], .cells [.nils, fI 0], .cells [.ms 3 3 0 (cols (gN nameOk l i)).length false, fI 0], .buf (cols (gN nameOk l i))] ∧ i ≤ l.length ∧ i ≤ 6 ∧ m = 6 - i,
    .frz 7 (.frz 3 rfl (by repeat (first | exact trivial | refine And.intro (Nat.le_of_eq (Nat.zero_add _)) ?_)) (.adopt (.sub _ _ (VSubs.refl _) (.cons (.refl _) (.cons (.refl _) (.cons (.cells (.cons (VSub.ms0 3 4 0 false) (VSubs.refl _))) (.cons (.refl _) (HSub.refl _))))) (.go [0, 1, 2, 4] rfl 6 (by omega) ⟨0, rfl, rfl, by omega, by omega, rfl⟩)))), ?_⟩⟩
  rintro m vs H ⟨i, rfl, rfl, hi, hi2, rfl⟩
  conv => whnf
  refine branch_i (fun c => ?_) (fun c => ?_) <;> try rw [c] <;> conv => whnf
  focus refine branch_i (fun c2 => ?_) (fun c2 => ?_) <;> try rw [c2] <;> conv => whnf
  focus
    have c' := of_decide_eq_true c
    have c2' := of_decide_eq_true c2
    have hlt : i < l.length := by omega
    have hget : l[i]? = some l[i] := List.getElem?_eq_getElem hlt
    generalize l[i] = d at *
    have hgN : gN nameOk l (i + 1) = stepG nameOk (gN nameOk l i) i d := by
      show (match l[i]? with | some c => stepG nameOk (gN nameOk l i) i c | none => gN nameOk l i) = _
      rw [hget]
    have hgl := gN_len nameOk l i
    have hwi : IntKind.i64.wrap ((i : Int) + 1) = ((i + 1 : Nat) : Int) := by rw [IntKind.wrap_i64]; omega
    have hpg : (poolS.map fun s => [V.str s])[i]? = some [.str (poolS.getD i [])] := by rw [List.getElem?_map, pool_get (by omega)]; rfl
    generalize hg : gN nameOk l i = g at *
    have hgc := cols_len g
    refine ⟨_, ⟨by omega, cols_get hget⟩, ?_⟩
    conv => whnf
    refine branch_i (fun c3 => ?_) (fun c3 => ?_) <;> try rw [c3] <;> conv => whnf
    all_goals
      refine ⟨by decide, ?_⟩
      conv => whnf
    focus
      rw [show IntKind.i64.wrap (1 + (IntKind.i64.wrap (0 - IntKind.i64.wrap (d.k + 1))).tmod 4) = gKind d.k by unfold gKind natI; rw [if_pos (of_decide_eq_true c3)]]
    rotate_left
    focus
      rw [show IntKind.i64.wrap (1 + d.k.tmod 4) = gKind d.k by unfold gKind natI; rw [if_neg (of_decide_eq_false c3)]]
    all_goals
      refine .call [] 0 ⟨rfl, rfl, rfl⟩ (RName_spec ?_)
      conv => whnf
      refine branch_i (fun c4 => ?_) (fun c4 => ?_) <;> try rw [c4] <;> conv => whnf
    all_goals first
      | (have hnm : gName nameOk g i d = poolS.getD i [] := by unfold gName; rw [if_pos (.inl (by simpa using c4))]
         refine ⟨[V.str (poolS.getD i [])], ⟨by omega, hpg⟩, ?_⟩
         conv => whnf)
      | (refine .call [3] 1 ⟨rfl, rfl, rfl⟩ (RFindM_spec (by omega) ?_)
         conv => whnf
         refine branch_i (fun c5 => ?_) (fun c5 => ?_) <;> try rw [c5] <;> conv => whnf
         focus
           have hnm : gName nameOk g i d = poolS.getD i [] := by unfold gName; rw [if_pos (.inr (of_decide_eq_true c5))]
           refine ⟨[V.str (poolS.getD i [])], ⟨by omega, hpg⟩, ?_⟩
           conv => whnf
         rotate_left
         have hnm : gName nameOk g i d = d.n := by
           unfold gName
           rw [if_neg]
           rintro (hx | hx)
           · simp [hx] at c4
           · exact of_decide_eq_false c5 hx)
    all_goals
      unfold stepG at hgN
      rw [hnm] at hgN
      refine .call [3] 1 ⟨rfl, rfl, rfl⟩ (RFindM_spec (by omega) ?_)
      conv => whnf
      refine branch_i (fun c6 => ?_) (fun c6 => ?_) <;> try rw [c6] <;> conv => whnf
      · rw [if_pos (of_decide_eq_true c6)] at hgN
        refine ⟨Nat.le_refl _, ?_⟩
        conv => whnf
        refine ⟨rfl, ?_⟩
        conv => whnf
        refine ⟨Nat.le_trans (Nat.mul_le_mul_right _ (by rw [List.length_append, List.length_take, List.drop_zero]; exact Nat.add_le_add (show (cols g).length ≤ i by omega) (Nat.min_le_left _ _))) (show (i + 1) * 32 ≤ 70368744177664 by omega), ?_⟩
        conv => whnf
        refine .go [0, 1, 2, 6] rfl (6 - (i + 1)) (by omega) ⟨i + 1, ?_, ?_, by omega, by omega, rfl⟩
        · show [V.ptr 0 0, V.ptr 1 0, V.ptr 2 0, V.sl 1 (poolS.map fun s => [V.str s]) true, V.int .i64 (IntKind.i64.wrap ((i : Int) + 1))] = _
          rw [hwi]
        · rw [hgN, cols_app]
          rfl
      · rw [if_neg (of_decide_eq_false c6)] at hgN
        refine .go [0, 1, 2, 3] rfl (6 - (i + 1)) (by omega) ⟨i + 1, ?_, ?_, by omega, by omega, rfl⟩
        · show [V.ptr 0 0, V.ptr 1 0, V.ptr 2 0, V.sl 1 (poolS.map fun s => [V.str s]) true, V.int .i64 (IntKind.i64.wrap ((i : Int) + 1))] = _
          rw [hwi]
        · rw [hgN]; rfl
  all_goals
    have hgi : gN nameOk l i = gN nameOk l (min l.length 6) := by
      congr 1
      first
        | (have c' := of_decide_eq_false c; omega)
        | (have c' := of_decide_eq_false c2; omega)
    have hG := gCols_len nameOk l
    have hGd : gCols nameOk l = match gN nameOk l i with | [] => [⟨[105, 100], 2, false⟩] | g => g := by rw [hgi]; rfl
    have hgl := gN_len nameOk l i
    clear hgi c
    try clear c2
    generalize gN nameOk l i = g at *
    have hmin : ∀ n : Nat, (if (3 : Int) < (n : Int) then (3 : Int) else (n : Int)) = ((min n 3 : Nat) : Int) := fun n => by split <;> omega
    have hneg : keys < 0 → natI keys = IntKind.i64.wrap (0 - IntKind.i64.wrap (keys + 1)) := fun h => by unfold natI; rw [if_pos h]
    have hpos : ¬ keys < 0 → natI keys = keys := fun h => by unfold natI; rw [if_neg h]
    rcases g with _ | ⟨x, r⟩
    focus
      simp only at hGd
      conv => whnf
      refine ⟨Nat.le_refl _, ?_⟩
      conv => whnf
      refine ⟨rfl, ?_⟩
      conv => whnf
      refine ⟨(show (1 : Nat) * 32 ≤ 70368744177664 by decide), ?_⟩
      conv => whnf
      refine branch_i (fun c3 => ?_) (fun c3 => ?_) <;> try rw [c3] <;> conv => whnf
      all_goals
        refine ⟨(show (1 : Int) ≠ 0 by decide), ?_⟩
        conv => whnf
        refine ⟨⟨[1, 2, 3, 10], GInv l keys (gCols nameOk l) (gKeys (gCols nameOk l).length keys), .frz ((gKeys (gCols nameOk l).length keys).toNat + 1) (.go [0, 1, 2, 5] rfl (gKeys (gCols nameOk l).length keys).toNat (by omega) ⟨0, rfl, ?_, Nat.zero_le _, rfl⟩), ?_⟩⟩
        focus
          first
            | (have hx := hneg (of_decide_eq_true c3)
               show [O.cells [.sl 3 (cols l) false, fI keys], .cells [.nils, fI 0], .cells [.ms 3 3 0 1 false, V.int .i64 (IntKind.i64.wrap (1 + (IntKind.i64.wrap (0 - IntKind.i64.wrap (keys + 1))).tmod 1))], .buf [[V.str [105, 100], V.int .i64 2, V.bool false]]] = _
               rw [← hx, hGd]; rfl)
            | (have hx := hpos (of_decide_eq_false c3)
               show [O.cells [.sl 3 (cols l) false, fI keys], .cells [.nils, fI 0], .cells [.ms 3 3 0 1 false, V.int .i64 (IntKind.i64.wrap (1 + keys.tmod 1))], .buf [[V.str [105, 100], V.int .i64 2, V.bool false]]] = _
               rw [hGd]; unfold gKeys; rw [hx]; rfl)
    rotate_left 2
    focus
      simp only at hGd
      conv => whnf
      refine branch_i (fun c3 => ?_) (fun c3 => ?_) <;> try rw [c3] <;> conv => whnf
      all_goals
        refine ⟨(show (if (3 : Int) < ((cols (x :: r)).length : Int) then (3 : Int) else ((cols (x :: r)).length : Int)) ≠ 0 by rw [hmin, cols_len]; simp), ?_⟩
        conv => whnf
        refine ⟨⟨[1, 2, 3, 10], GInv l keys (gCols nameOk l) (gKeys (gCols nameOk l).length keys), .frz ((gKeys (gCols nameOk l).length keys).toNat + 1) (.go [0, 1, 2, 3] rfl (gKeys (gCols nameOk l).length keys).toNat (by omega) ⟨0, rfl, ?_, Nat.zero_le _, rfl⟩), ?_⟩⟩
        focus
          first
            | (have hx := hneg (of_decide_eq_true c3)
               show [O.cells [.sl 3 (cols l) false, fI keys], .cells [.nils, fI 0], .cells [.ms 3 3 0 (cols (x :: r)).length false, V.int .i64 (IntKind.i64.wrap (1 + (IntKind.i64.wrap (0 - IntKind.i64.wrap (keys + 1))).tmod (if (3 : Int) < ((cols (x :: r)).length : Int) then (3 : Int) else ((cols (x :: r)).length : Int))))], .buf (cols (x :: r))] = _
               rw [← hx, hmin, show min (cols (x :: r)).length 3 = min (x :: r).length 3 by rw [cols_len], hGd]; rfl)
            | (have hx := hpos (of_decide_eq_false c3)
               show [O.cells [.sl 3 (cols l) false, fI keys], .cells [.nils, fI 0], .cells [.ms 3 3 0 (cols (x :: r)).length false, V.int .i64 (IntKind.i64.wrap (1 + keys.tmod (if (3 : Int) < ((cols (x :: r)).length : Int) then (3 : Int) else ((cols (x :: r)).length : Int))))], .buf (cols (x :: r))] = _
               rw [hmin, show min (cols (x :: r)).length 3 = min (x :: r).length 3 by rw [cols_len], hGd]; unfold gKeys; rw [hx]; rfl)
    all_goals
      have hKo := gKeys_ok hG.1 hkr
      clear hGd hneg hpos c3
      have hgood : goodL nameOk l keys = clearK (gKeys (gCols nameOk l).length keys).toNat (gCols nameOk l) := rfl
      have hgk : goodK nameOk l keys = gKeys (gCols nameOk l).length keys := rfl
      rw [hgood, hgk] at h
      clear hgood hgk
      generalize gKeys (gCols nameOk l).length keys = K at *
      generalize gCols nameOk l = G at *
      rintro m vs H ⟨j, rfl, rfl, hj, rfl⟩
      have hcl := clearK_len j G
      have hcc := cols_len (clearK j G)
      conv => whnf
      refine branch_i (fun c => ?_) (fun c => ?_) <;> try rw [c] <;> conv => whnf
      · have c' := of_decide_eq_true c
        have hlt : j < G.length := by omega
        have hget : G[j]? = some G[j] := List.getElem?_eq_getElem hlt
        generalize G[j] = d at *
        have hget2 : (clearK j G)[j]? = some d := by rw [clearK_get, hget]; simp
        have hsn := clearK_snoc hget
        refine ⟨by omega, ?_⟩
        conv => whnf
        refine ⟨_, cols_get hget2, ?_⟩
        conv => whnf
        have hset : cols (clearK (j + 1) G) = (cols (clearK j G)).set j [V.str d.n, V.int .i64 d.k, V.bool false] := by
          rw [← hsn]; simp [cols, List.map_set, colC]
        have hsl : (cols (clearK (j + 1) G)).length = (cols (clearK j G)).length := by rw [hset, List.length_set]
        refine .go [0, 1, 2, 3] rfl (K.toNat - (j + 1)) (by omega) ⟨j + 1, ?_, ?_, by omega, rfl⟩
        · show [V.ptr 0 0, V.ptr 1 0, V.ptr 2 0, V.int .i64 (IntKind.i64.wrap ((j : Int) + 1))] = _
          rw [show IntKind.i64.wrap ((j : Int) + 1) = ((j + 1 : Nat) : Int) by rw [IntKind.wrap_i64]; omega]
        · show [O.cells [.sl 3 (cols l) false, fI keys], .cells [.nils, fI 0], .cells [.ms 3 3 0 (cols (clearK j G)).length false, fI K], .buf ((cols (clearK j G)).set j [V.str d.n, V.int .i64 d.k, V.bool false])] = _
          rw [← hset, ← hsl]
      · have c' := of_decide_eq_false c
        have e : j = K.toNat := by omega
        subst e
        refine ⟨[3], rfl, .frz 0 rfl (by repeat (first | exact trivial | refine And.intro (Nat.le_of_eq (Nat.zero_add _)) ?_)) (.done [] rfl ?_)⟩
        show Q (.agg [.sl 3 (List.take (cols (clearK K.toNat G)).length (cols (clearK K.toNat G))) false, fI K]) []
        rw [List.take_length]; exact h

end Go.Proofs.YtcgpgpbnpjbhhaaPg
