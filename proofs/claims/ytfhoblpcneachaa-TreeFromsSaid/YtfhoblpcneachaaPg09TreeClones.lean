/- Chapter 09: TreeClones. -/
import Derived.Test.YtfhoblpcneachaaPg09TreePlays
namespace Go.Proofs.YtfhoblpcneachaaPg
open Go Go.RowKit
set_option linter.unusedVariables false

variable {Q : V → List O → Prop}

theorem TB.mono {t : Tr Int} {n : Int} {m m' : Nat} (h : TB t n m) (hm : m ≤ m') : TB t n m' := ⟨h.ok.mono hm, h.bal⟩

def refC (l : List KV) (id : Nat) : O := .cells [.sl 1 (strs (kL l)) false, .ms 1 id 0 (ints (vL l)).length false]
def F0 (t : Tr Int) (n : Int) (c : Tr Int) (m : Int) : List O := [treeO t n, .cells [.nils, .nils], treeO c m, refC (inL c) 4, .buf (ints (vL (inL c)))]
def F1 (t : Tr Int) (n : Int) (c : Tr Int) (m : Int) : List O := [treeO t n, refC (inL t) 5, treeO c m, refC (inL c) 4, .buf (ints (vL (inL c))), .buf (ints (vL (inL t)))]
def FS (H : List O) (t : Tr Int) (n : Int) (c : Tr Int) (m : Int) : Prop := (H = F0 t n c m ∧ t = .nil) ∨ H = F1 t n c m

set_option maxHeartbeats 4000000 in
theorem TreeClones_spec {es fs gs : List (List V)} (hes : Deeds es) (hfs : Deeds fs) (hgs : Deeds gs) :
    ACall Try.prog 8 0 [.sl 3 es false, .sl 3 fs false, .sl 3 gs false] [] (fun v _ => v = .bool true) := by
  refine by_body Try.func8 0 rfl (Nat.le_of_ble_eq_true rfl) ?_
  conv => whnf
  refine .call [] 0 ⟨rfl, rfl, rfl⟩ (TNew_spec ?_)
  conv => whnf
  refine ⟨⟨[0, 1, 2, 7, 8, 9], fun m vs H => ∃ (i : Nat) (t : Tr Int) (n : Int), vs = [.sl 3 es false, .sl 3 fs false, .sl 3 gs false, .ptr 0 0, .ptr 1 0, fI i] ∧ DS H t n ∧ TB t n i ∧ i ≤ 40 ∧ m = 40 - i, .at _ ⟨0, .nil, 0, rfl, .inl ⟨rfl, rfl⟩, TB.nil, by omega, rfl⟩, ?_⟩⟩
  rintro m vs H ⟨i, t, n, rfl, hD, hT, hi, rfl⟩
  have hwi : i < 40 → IntKind.i64.wrap ((i : Int) + 1) = ((i + 1 : Nat) : Int) := fun _ => by rw [IntKind.wrap_i64]; omega
  have hD0 := hD
  have hle := hT.ok.le
  rcases hD with ⟨rfl, rfl⟩ | rfl
  all_goals
    conv => whnf
    refine branch_i (fun c => ?_) (fun c => ?_) <;> try rw [c] <;> conv => whnf
    focus refine branch_i (fun c2 => ?_) (fun c2 => ?_) <;> try rw [c2] <;> conv => whnf
    focus
      have c' := of_decide_eq_true c
      have c2' := of_decide_eq_true c2
      have hlt : i < es.length := by omega
      obtain ⟨kd, nm, s, hget⟩ := hes.get hlt
      refine ⟨_, ⟨by omega, hget⟩, ?_⟩
      conv => whnf
      first
        | refine .call [0, 1] 2 ⟨rfl, rfl, rfl⟩ (does_spec hD0 hT (by omega) (fun t2 n2 H2 hD2 _ hT2 => ?_))
        | refine .call [0, 1, 2] 2 ⟨rfl, rfl, rfl⟩ (does_spec hD0 hT (by omega) (fun t2 n2 H2 hD2 _ hT2 => ?_))
      have hD3 := hD2
      rcases hD2 with ⟨rfl, rfl⟩ | rfl
    focus
      conv => whnf
      refine .go [0, 1] rfl (40 - (i + 1)) (by omega) ⟨i + 1, _, _, ?_, hD3, hT2, by omega, rfl⟩
      show [V.sl 3 es false, V.sl 3 fs false, V.sl 3 gs false, V.ptr 0 0, V.ptr 1 0, V.int .i64 (IntKind.i64.wrap ((i : Int) + 1))] = _
      rw [hwi (by omega)]
    focus
      conv => whnf
      refine .go [0, 1, 2] rfl (40 - (i + 1)) (by omega) ⟨i + 1, _, _, ?_, hD3, hT2, by omega, rfl⟩
      show [V.sl 3 es false, V.sl 3 fs false, V.sl 3 gs false, V.ptr 0 0, V.ptr 1 0, V.int .i64 (IntKind.i64.wrap ((i : Int) + 1))] = _
      rw [hwi (by omega)]
    all_goals
      have hT40 := hT.mono hi
      refine .call [0] 1 ⟨rfl, rfl, rfl⟩ (TClone_spec ?_)
      conv => whnf
      refine ⟨List.range 13, by kernel_rfl, by kernel_rfl, ?_⟩
      conv => whnf
      first
        | refine ⟨(show ([] : List (List V)).length * 16 ≤ 70368744177664 by decide), ?_⟩
        | refine ⟨(show (strs (kL (inL t))).length * 16 ≤ 70368744177664 by rw [strs_len, List.length_map]; omega), ?_⟩
      conv => whnf
      repeat (refine ⟨rfl, ?_⟩)
      conv => whnf
      refine ⟨List.range 13, by kernel_rfl, by kernel_rfl, ?_⟩
      conv => whnf
      first
        | refine ⟨(show ([] : List (List V)).length * 8 ≤ 70368744177664 by decide), ?_⟩
        | (refine ⟨(by omega), ?_⟩
           rw [show List.take (ints (vL (inL t))).length (List.drop 0 (ints (vL (inL t)))) = ints (vL (inL t)) by rw [List.drop_zero, List.take_length]]
           conv => whnf
           refine ⟨(show (ints (vL (inL t))).length * 8 ≤ 70368744177664 by rw [ints_len, List.length_map]; omega), ?_⟩)
      conv => whnf
      repeat (refine ⟨rfl, ?_⟩)
      conv => whnf
      refine ⟨⟨[1, 2, 7, 8, 10, 11, 12], fun m vs H => ∃ (i : Nat) (t : Tr Int) (n : Int) (c : Tr Int) (k : Int), vs = [.sl 3 fs false, .sl 3 gs false, .ptr 0 0, .ptr 1 0, .ptr 2 0, .ptr 3 0, fI i] ∧ FS H t n c k ∧ TB t n (40 + i) ∧ TB c k (40 + i) ∧ i ≤ 20 ∧ m = 20 - i, ?_, ?_⟩⟩
      focus
        first
          | (refine .frz 21 (.frz 4 rfl ?_ (.go [0, 1, 2, 3, 5] rfl 20 (by omega) ⟨0, .nil, n, .nil, n, rfl, .inl ⟨?_, rfl⟩, hT40, hT40, by omega, rfl⟩))
             · repeat (first | exact trivial | refine And.intro (Nat.le_of_eq (Nat.zero_add _)) ?_)
             · rfl)
          | (refine .frz 21 (.frz 5 rfl ?_ (.go [0, 1, 3, 4, 6, 2] rfl 20 (by omega) ⟨0, t, n, t, n, rfl, .inr ?_, hT40, hT40, by omega, rfl⟩))
             · repeat (first | exact trivial | refine And.intro (Nat.le_of_eq (Nat.zero_add _)) ?_)
             · show [treeO t n, refC (inL t) 5, treeO t n, O.cells [.sl 1 (List.take (strs (kL (inL t))).length (strs (kL (inL t)))) false, .ms 1 4 0 (ints (vL (inL t))).length false], .buf (ints (vL (inL t))), .buf (ints (vL (inL t)))] = _
               rw [List.take_length]; rfl)
      clear hD0 hT hT40 hle
      rintro m vs H ⟨i, t, n, d, k, rfl, hF, hT, hU, hi, rfl⟩
      have hwi : i < 20 → IntKind.i64.wrap ((i : Int) + 1) = ((i + 1 : Nat) : Int) := fun _ => by rw [IntKind.wrap_i64]; omega
      rcases hF with ⟨rfl, rfl⟩ | rfl
      all_goals
        conv => whnf
        refine branch_i (fun c => ?_) (fun c => ?_) <;> try rw [c] <;> conv => whnf
        focus
          have c' := of_decide_eq_true c
          refine branch_i (fun c2 => ?_) (fun c2 => ?_) <;> try rw [c2] <;> conv => whnf
          focus
            have c2' := of_decide_eq_true c2
            have hlt : i < fs.length := by omega
            obtain ⟨kd, nm, s, hget⟩ := hfs.get hlt
            refine ⟨_, ⟨by omega, hget⟩, ?_⟩
            conv => whnf
            first
              | refine .call [0, 1] 2 ⟨rfl, rfl, rfl⟩ (does_spec (t := .nil) (.inl ⟨rfl, rfl⟩) hT (by omega) (fun t2 n2 H2 hD2 _ hT2 => ?_))
              | refine .call [0, 1, 5] 2 ⟨rfl, rfl, rfl⟩ (does_spec (t := t) (.inr rfl) hT (by omega) (fun t2 n2 H2 hD2 _ hT2 => ?_))
            rcases hD2 with ⟨rfl, rfl⟩ | rfl
          all_goals
            try conv => whnf
            refine branch_i (fun c3 => ?_) (fun c3 => ?_) <;> try rw [c3] <;> conv => whnf
            focus
              have c3' := of_decide_eq_true c3
              have hlt3 : i < gs.length := by omega
              obtain ⟨kd3, nm3, s3, hget3⟩ := hgs.get hlt3
              refine ⟨_, ⟨by omega, hget3⟩, ?_⟩
              conv => whnf
              refine .call [2, 3, 4] 2 ⟨rfl, rfl, rfl⟩ (does_spec (t := d) (.inr rfl) hU (by omega) (fun d2 k2 H3 hD3 hK3 hU2 => ?_))
              have hH3 := hK3 rfl
              subst hH3
              conv => whnf
            all_goals
              have hT5 := hT.mono (show 40 + i ≤ 40 + (i + 1) by omega)
              have hU5 := hU.mono (show 40 + i ≤ 40 + (i + 1) by omega)
              first
                | refine .go [0, 1, 2, 3, 4, 5] rfl (20 - (i + 1)) (by omega) ⟨i + 1, _, _, _, _, ?_, .inr rfl, ?_, ?_, by omega, rfl⟩
                | refine .go [0, 1, 2, 3, 4] rfl (20 - (i + 1)) (by omega) ⟨i + 1, _, _, _, _, ?_, .inl ⟨rfl, rfl⟩, ?_, ?_, by omega, rfl⟩
              · show [V.sl 3 fs false, V.sl 3 gs false, V.ptr 0 0, V.ptr 1 0, V.ptr 2 0, V.ptr 3 0, V.int .i64 (IntKind.i64.wrap ((i : Int) + 1))] = _
                rw [hwi (by omega)]
              · first | exact hT2 | exact hT5
              · first | exact hU2 | exact hU5
        focus
          first
            | refine .call [0, 1] 2 ⟨rfl, rfl, rfl⟩ (like_spec (t := .nil) (.inl ⟨rfl, rfl⟩) hT (by omega) ?_)
            | refine .call [0, 1, 5] 2 ⟨rfl, rfl, rfl⟩ (like_spec (t := t) (.inr rfl) hT (by omega) ?_)
          conv => whnf
          refine .call [2, 3, 4] 2 ⟨rfl, rfl, rfl⟩ (like_spec (t := d) (.inr rfl) hU (by omega) ?_)
          conv => whnf
          refine .call [] 0 ⟨rfl, rfl, rfl⟩ (lives_spec ?_)
          conv => whnf
          exact ⟨[], rfl, rfl⟩

end Go.Proofs.YtfhoblpcneachaaPg
