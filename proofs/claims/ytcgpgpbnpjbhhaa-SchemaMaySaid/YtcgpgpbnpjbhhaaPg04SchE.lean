/- Schemas: few columns. -/
import Derived.Test.YtcgpgpbnpjbhhaaPg04SchD
namespace Go.Proofs.YtcgpgpbnpjbhhaaPg
open Go Go.RowKit
set_option linter.unusedVariables false

variable {Q : V → List O → Prop}

theorem cut_spec {l : List Col} {keys : Int} (h : Q (sch (cutL l) keys) []) : ACall Try.prog 8 0 [sch l keys] [] Q := by
  refine ACall.ret (by_body Try.func8 0 rfl (Nat.le_of_ble_eq_true rfl) ?_)
  conv => whnf
  have hlk := cols_len l
  refine ⟨⟨[1, 2, 3, 4], fun m vs H => ∃ i : Nat, vs = [.ptr 0 0, .ptr 1 0, .ptr 2 0, fI i] ∧
    H = [.cells [.sl 3 (cols l) false, fI keys], .cells [.nils, fI 0], .cells [.ms 3 3 0 (cols ((l.take i).map cutC)).length false, fI keys], .buf (cols ((l.take i).map cutC))] ∧ i ≤ l.length ∧ i ≤ 20 ∧ m = 20 - i,
    .frz 21 (.adopt (.sub _ _ (VSubs.refl _) (.cons (.refl _) (.cons (.refl _) (.cons (.cells (.cons (VSub.ms0 3 3 0 false) (VSubs.refl _))) (HSub.refl _)))) (.go [0, 1, 2, 3] rfl 20 (by omega) ⟨0, rfl, rfl, by omega, by omega, rfl⟩))), ?_⟩⟩
  rintro m vs H ⟨i, rfl, rfl, hi, hi2, rfl⟩
  conv => whnf
  refine branch_i (fun c => ?_) (fun c => ?_) <;> try rw [c] <;> conv => whnf
  focus refine branch_i (fun c2 => ?_) (fun c2 => ?_) <;> try rw [c2] <;> conv => whnf
  focus
    have c' := of_decide_eq_true c
    have c2' := of_decide_eq_true c2
    have hlt : i < l.length := by omega
    have hget : l[i]? = some l[i] := List.getElem?_eq_getElem hlt
    generalize l[i] = d at *
    have hsnoc : cols ((l.take (i + 1)).map cutC) = cols ((l.take i).map cutC) ++ [[V.str (d.n.take 40), V.int .i64 d.k, V.bool d.o]] := by
      rw [List.take_add_one, hget]
      simp [cols, cutC, colC]
    have hlen : (cols ((l.take i).map cutC)).length = i := by rw [cols_len, List.length_map, List.length_take]; omega
    refine ⟨_, ⟨by omega, cols_get hget⟩, ?_⟩
    conv => whnf
    refine branch_i (fun c3 => ?_) (fun c3 => ?_) <;> try rw [c3] <;> conv => whnf
    · have c3' := of_decide_eq_true c3
      refine ⟨⟨by decide, by omega⟩, ?_⟩
      conv => whnf
      refine ⟨Nat.le_refl _, ?_⟩
      conv => whnf
      refine ⟨rfl, ?_⟩
      conv => whnf
      refine ⟨Nat.le_trans (Nat.mul_le_mul_right _ (by rw [List.length_append, List.length_take, List.drop_zero, hlen]; exact Nat.add_le_add (Nat.le_refl i) (Nat.min_le_left _ _))) (show (i + 1) * 32 ≤ 70368744177664 by omega), ?_⟩
      conv => whnf
      refine .go [0, 1, 2, 6] rfl (20 - (i + 1)) (by omega) ⟨i + 1, ?_, ?_, by omega, by omega, rfl⟩
      · show [V.ptr 0 0, V.ptr 1 0, V.ptr 2 0, V.int .i64 (IntKind.i64.wrap ((i : Int) + 1))] = _
        rw [show IntKind.i64.wrap ((i : Int) + 1) = ((i + 1 : Nat) : Int) by rw [IntKind.wrap_i64]; omega]
      · show [O.cells [.sl 3 (cols l) false, fI keys], .cells [.nils, fI 0], .cells [.ms 3 3 0 (cols ((l.take i).map cutC) ++ [[V.str (d.n.take 40), V.int .i64 d.k, V.bool d.o]]).length false, fI keys], .buf (cols ((l.take i).map cutC) ++ [[V.str (d.n.take 40), V.int .i64 d.k, V.bool d.o]])] = _
        rw [hsnoc]
    · have c3' := of_decide_eq_false c3
      have e : d.n.take 40 = d.n := List.take_of_length_le (by omega)
      rw [e] at hsnoc
      refine ⟨Nat.le_refl _, ?_⟩
      conv => whnf
      refine ⟨rfl, ?_⟩
      conv => whnf
      refine ⟨Nat.le_trans (Nat.mul_le_mul_right _ (by rw [List.length_append, List.length_take, List.drop_zero, hlen]; exact Nat.add_le_add (Nat.le_refl i) (Nat.min_le_left _ _))) (show (i + 1) * 32 ≤ 70368744177664 by omega), ?_⟩
      conv => whnf
      refine .go [0, 1, 2, 6] rfl (20 - (i + 1)) (by omega) ⟨i + 1, ?_, ?_, by omega, by omega, rfl⟩
      · show [V.ptr 0 0, V.ptr 1 0, V.ptr 2 0, V.int .i64 (IntKind.i64.wrap ((i : Int) + 1))] = _
        rw [show IntKind.i64.wrap ((i : Int) + 1) = ((i + 1 : Nat) : Int) by rw [IntKind.wrap_i64]; omega]
      · show [O.cells [.sl 3 (cols l) false, fI keys], .cells [.nils, fI 0], .cells [.ms 3 3 0 (cols ((l.take i).map cutC) ++ [[V.str d.n, V.int .i64 d.k, V.bool d.o]]).length false, fI keys], .buf (cols ((l.take i).map cutC) ++ [[V.str d.n, V.int .i64 d.k, V.bool d.o]])] = _
        rw [hsnoc]
  all_goals
    have he : (l.take i).map cutC = cutL l := by
      unfold cutL
      congr 1
      first
        | (have c' := of_decide_eq_false c; rw [List.take_of_length_le (by omega), List.take_of_length_le (by omega)])
        | (have c' := of_decide_eq_false c2; rw [show i = 20 by omega])
    rw [he]
    refine ⟨[3], rfl, .frz 0 rfl (by repeat (first | exact trivial | refine And.intro (Nat.le_of_eq (Nat.zero_add _)) ?_)) (.done [] rfl ?_)⟩
    show Q (.agg [.sl 3 (List.take (cols (cutL l)).length (cols (cutL l))) false, fI keys]) []
    rw [List.take_length]; exact h

end Go.Proofs.YtcgpgpbnpjbhhaaPg
