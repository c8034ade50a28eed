/- Chapter 09: what the laws have in common. -/
import Derived.Test.YtfhoblpcneachaaPg09Keys
import Derived.Test.YtfhoblpcneachaaPgTr2
namespace Go.Proofs.YtfhoblpcneachaaPg
open Go Go.RowKit
set_option linter.unusedVariables false

variable {Q : V → List O → Prop}

theorem few_spec {s : List UInt8} (h : Q (.str (s.take 8)) []) : ACall Try.prog 11 0 [.str s] [] Q := by
  refine by_body Try.func11 0 rfl (Nat.le_of_ble_eq_true rfl) ?_
  conv => whnf
  refine branch_i (fun c => ?_) (fun c => ?_) <;> try rw [c] <;> conv => whnf
  · have c' := of_decide_eq_true c
    refine ⟨⟨by decide, by omega⟩, ?_⟩
    conv => whnf
    exact ⟨[], rfl, h⟩
  · have c' := of_decide_eq_false c
    rw [List.take_of_length_le (by omega)] at h
    exact ⟨[], rfl, h⟩

/-- A row of texts that nobody writes. -/
def IsStrs (v : V) (l : List (List UInt8)) : Prop := (v = .nils ∧ l = []) ∨ ∃ f, v = .sl 1 (strs l) f

theorem IsStrs.sl (l : List (List UInt8)) (f : Bool) : IsStrs (.sl 1 (strs l) f) l := .inr ⟨f, rfl⟩

theorem frz_strs {f : Nat → Option Nat} {id : Nat} {E : List (List V)} {l : List (List UInt8)} (h : E = strs l) : IsStrs (renV f (frzV id (.buf E) (.ms 1 id 0 E.length false))) l := by
  rw [frz_ms_eq, h]; exact .inr ⟨false, rfl⟩

theorem strs_get {l : List (List UInt8)} {i : Nat} {s : List UInt8} (h : l[i]? = some s) : (strs l)[i]? = some [.str s] := by simp [strs, h]

theorem Same_spec {va vb : V} {la lb : List (List UInt8)} (ha : IsStrs va la) (hb : IsStrs vb lb) (hl : la.length < 4611686018427387904) (h : Q (.bool (decide (la = lb))) []) : ACall Try.prog 13 0 [va, vb] [] Q := by
  have key : ∀ fa fb, ACall Try.prog 13 0 [.sl 1 (strs la) fa, .sl 1 (strs lb) fb] [] Q := by
    intro fa fb
    refine by_body Try.func13 0 rfl (Nat.le_of_ble_eq_true rfl) ?_
    conv => whnf
    have la' := strs_len la
    have lb' := strs_len lb
    refine branch_i (fun c => ?_) (fun c => ?_) <;> try rw [c] <;> conv => whnf
    · have hne : la ≠ lb := by
        intro e
        subst e
        simp at c
      rw [show decide (la = lb) = false by simp [hne]] at h
      exact ⟨[], rfl, h⟩
    · have hlen : la.length = lb.length := by
        simp at c
        omega
      refine ⟨⟨[0, 1, 5], fun m vs H => H = [] ∧ ∃ i : Nat, vs = [.sl 1 (strs la) fa, .sl 1 (strs lb) fb, fI i] ∧ i ≤ la.length ∧ la.take i = lb.take i ∧ m = la.length - i, .at _ ⟨rfl, 0, rfl, Nat.zero_le _, rfl, rfl⟩, ?_⟩⟩
      rintro m vs H ⟨rfl, i, rfl, hi, hp, rfl⟩
      conv => whnf
      refine branch_i (fun c => ?_) (fun c => ?_) <;> try rw [c] <;> conv => whnf
      · have c' := of_decide_eq_true c
        rw [la'] at c'
        have hlt : i < la.length := by omega
        have g1 : la[i]? = some la[i] := List.getElem?_eq_getElem hlt
        have g2 : lb[i]? = some lb[i] := List.getElem?_eq_getElem (by omega)
        refine ⟨List.range 9, by kernel_rfl, by kernel_rfl, ?_⟩
        conv => whnf
        refine ⟨_, ⟨by omega, by simpa using strs_get g1⟩, ?_⟩
        conv => whnf
        refine ⟨_, ⟨by omega, by simpa using strs_get g2⟩, ?_⟩
        conv => whnf
        by_cases e : la[i] = lb[i]
        · rw [show decide (la[i] = lb[i]) = true by simp [e]]
          conv => whnf
          refine .go [] rfl (la.length - (i + 1)) (by omega) ⟨rfl, i + 1, ?_, by omega, ?_, rfl⟩
          · show [V.sl 1 (strs la) fa, V.sl 1 (strs lb) fb, V.int .i64 (IntKind.i64.wrap ((i : Int) + 1))] = _
            rw [show IntKind.i64.wrap ((i : Int) + 1) = ((i + 1 : Nat) : Int) by rw [IntKind.wrap_i64]; omega]
          · rw [List.take_add_one, List.take_add_one, hp, g1, g2, e]
        · rw [show decide (la[i] = lb[i]) = false by simp [e]]
          conv => whnf
          have hne : la ≠ lb := fun e' => e (by subst e'; rfl)
          rw [show decide (la = lb) = false by simp [hne]] at h
          exact ⟨[], rfl, h⟩
      · have c' := of_decide_eq_false c
        rw [la'] at c'
        rw [List.take_of_length_le (by omega), List.take_of_length_le (by omega)] at hp
        rw [show decide (la = lb) = true by simp [hp]] at h
        exact ⟨[], rfl, h⟩
  rcases ha with ⟨rfl, rfl⟩ | ⟨fa, rfl⟩ <;> rcases hb with ⟨rfl, rfl⟩ | ⟨fb, rfl⟩
  · exact ACall.args (.cons (VSub.nils 1 false) (.cons (VSub.nils 1 false) .nil)) (key false false)
  · exact ACall.args (.cons (VSub.nils 1 false) (.cons (.refl _) .nil)) (key false fb)
  · exact ACall.args (.cons (.refl _) (.cons (VSub.nils 1 false) .nil)) (key fa false)
  · exact key fa fb

theorem lives_spec (h : Q (.bool true) []) : ACall Try.prog 15 0 [] [] Q := by
  refine by_body Try.func15 0 rfl (Nat.le_of_ble_eq_true rfl) ?_
  conv => whnf
  refine .call [] 0 ⟨rfl, rfl, rfl⟩ (TNew_spec ?_)
  conv => whnf
  refine .call [0] 1 ⟨rfl, rfl, rfl⟩ (Put_spec (by decide) ?_)
  conv => whnf
  refine .call [0] 1 ⟨rfl, rfl, rfl⟩ (Put_spec (by decide) ?_)
  conv => whnf
  refine .call [0] 1 ⟨rfl, rfl, rfl⟩ (Put_spec (by decide) ?_)
  conv => whnf
  refine .call [0] 1 ⟨rfl, rfl, rfl⟩ (Keys_spec (by decide) ?_)
  rw [show keysT [97] 5 (putT [99] (3 : Int) (putT [97] 2 (putT [98] 1 .nil))) = [[98], [99]] by rfl]
  conv => whnf
  refine ⟨_, ⟨by decide, rfl⟩, ?_⟩
  conv => whnf
  refine ⟨_, ⟨by decide, rfl⟩, ?_⟩
  conv => whnf
  refine .call [0] 1 ⟨rfl, rfl, rfl⟩ (Len_spec ?_)
  conv => whnf
  exact ⟨[], rfl, h⟩

end Go.Proofs.YtfhoblpcneachaaPg
