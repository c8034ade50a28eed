/- Chapter 09: TreePlays. -/
import Derived.Test.YtfhoblpcneachaaPg09TreeLike
namespace Go.Proofs.YtfhoblpcneachaaPg
open Go Go.RowKit
set_option linter.unusedVariables false

variable {Q : V → List O → Prop}

/-- A row of deeds. -/
def Deeds (es : List (List V)) : Prop := ∀ x ∈ es, ∃ k n s, x = [fI k, fI n, .str s]

theorem Deeds.get {es : List (List V)} (h : Deeds es) {i : Nat} (hi : i < es.length) : ∃ k n s, es[i]? = some [fI k, fI n, .str s] := by
  obtain ⟨k, n, s, e⟩ := h es[i] (List.getElem_mem hi)
  exact ⟨k, n, s, by rw [List.getElem?_eq_getElem hi, e]⟩

theorem TB.nil : TB .nil 0 0 := ⟨.nil, trivial⟩

theorem TreePlays_spec {es : List (List V)} (hes : Deeds es) :
    ACall Try.prog 6 0 [.sl 3 es false] [] (fun v _ => v = .bool true) := by
  refine by_body Try.func6 0 rfl (Nat.le_of_ble_eq_true rfl) ?_
  conv => whnf
  refine .call [] 0 ⟨rfl, rfl, rfl⟩ (TNew_spec ?_)
  conv => whnf
  refine ⟨⟨[0, 3, 4, 5], fun m vs H => ∃ (i : Nat) (t : Tr Int) (n : Int), vs = [.sl 3 es false, .ptr 0 0, .ptr 1 0, fI i] ∧ DS H t n ∧ TB t n i ∧ i ≤ 80 ∧ m = 80 - i, .at _ ⟨0, .nil, 0, rfl, .inl ⟨rfl, rfl⟩, TB.nil, by omega, rfl⟩, ?_⟩⟩
  rintro m vs H ⟨i, t, n, rfl, hD, hT, hi, rfl⟩
  have hwi : i < 80 → IntKind.i64.wrap ((i : Int) + 1) = ((i + 1 : Nat) : Int) := fun _ => by rw [IntKind.wrap_i64]; omega
  have hD0 := hD
  rcases hD with ⟨rfl, rfl⟩ | rfl
  all_goals
    conv => whnf
    refine branch_i (fun c => ?_) (fun c => ?_) <;> try rw [c] <;> conv => whnf
    focus refine branch_i (fun c2 => ?_) (fun c2 => ?_) <;> try rw [c2] <;> conv => whnf
    focus
      have c' := of_decide_eq_true c
      have c2' := of_decide_eq_true c2
      have hlt : i < es.length := by omega
      obtain ⟨kd, nm, s, hget⟩ := hes.get hlt
      refine ⟨_, ⟨by omega, hget⟩, ?_⟩
      conv => whnf
      first
        | refine .call [0, 1] 2 ⟨rfl, rfl, rfl⟩ (does_spec hD0 hT (by omega) (fun t2 n2 H2 hD2 _ hT2 => ?_))
        | refine .call [0, 1, 2] 2 ⟨rfl, rfl, rfl⟩ (does_spec hD0 hT (by omega) (fun t2 n2 H2 hD2 _ hT2 => ?_))
      have hD3 := hD2
      rcases hD2 with ⟨rfl, rfl⟩ | rfl
    focus
      conv => whnf
      refine .call [0, 1] 2 ⟨rfl, rfl, rfl⟩ (like_spec hD3 hT2 (by omega) ?_)
      conv => whnf
      refine .go [0, 1] rfl (80 - (i + 1)) (by omega) ⟨i + 1, _, _, ?_, hD3, hT2, by omega, rfl⟩
      show [V.sl 3 es false, V.ptr 0 0, V.ptr 1 0, V.int .i64 (IntKind.i64.wrap ((i : Int) + 1))] = _
      rw [hwi (by omega)]
    focus
      conv => whnf
      refine .call [0, 1, 2] 2 ⟨rfl, rfl, rfl⟩ (like_spec hD3 hT2 (by omega) ?_)
      conv => whnf
      refine .go [0, 1, 2] rfl (80 - (i + 1)) (by omega) ⟨i + 1, _, _, ?_, hD3, hT2, by omega, rfl⟩
      show [V.sl 3 es false, V.ptr 0 0, V.ptr 1 0, V.int .i64 (IntKind.i64.wrap ((i : Int) + 1))] = _
      rw [hwi (by omega)]
    all_goals
      refine .call [] 0 ⟨rfl, rfl, rfl⟩ (lives_spec ?_)
      conv => whnf
      exact ⟨[], rfl, rfl⟩

end Go.Proofs.YtfhoblpcneachaaPg
