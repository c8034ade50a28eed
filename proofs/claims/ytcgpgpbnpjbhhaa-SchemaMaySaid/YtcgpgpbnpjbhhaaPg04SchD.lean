/- Schemas: which are the same, and copies. -/
import Derived.Test.YtcgpgpbnpjbhhaaPg04SchC
namespace Go.Proofs.YtcgpgpbnpjbhhaaPg
open Go Go.RowKit
set_option linter.unusedVariables false

variable {Q : V → List O → Prop}

def sameS (l : List Col) (k : Int) (l2 : List Col) (k2 : Int) : Bool := decide (k = k2) && decide (l = l2)

theorem col_eq (d e : Col) : (decide (d.n = e.n) && (decide (d.k = e.k) && (d.o == e.o && true))) = decide (d = e) := by
  cases d; cases e
  rename_i n k o n2 k2 o2
  cases o <;> cases o2 <;> simp [Col.mk.injEq]

theorem SEqual_spec {l l2 : List Col} (hl : l.length < 1000000) (h : Q (.bool (decide (l = l2))) []) :
    ACall Try.prog 35 0 [.sl 3 (cols l) false, .sl 3 (cols l2) false] [] Q := by
  refine by_body Try.func35 0 rfl (Nat.le_of_ble_eq_true rfl) ?_
  conv => whnf
  have h1 := cols_len l
  have h2 := cols_len l2
  refine branch_i (fun c => ?_) (fun c => ?_) <;> try rw [c] <;> conv => whnf
  focus
    have hne : l ≠ l2 := fun e => by subst e; simp at c
    rw [show decide (l = l2) = false by simp [hne]] at h
    exact ⟨[], rfl, h⟩
  have hlen : l.length = l2.length := by simp at c; omega
  clear c
  refine ⟨⟨[0, 1, 12, 13], fun m vs H => ∃ i : Nat, vs = [.sl 3 (cols l) false, .sl 3 (cols l2) false, fI (cols l).length, fI i] ∧ H = [] ∧ l.take i = l2.take i ∧ i ≤ l.length ∧ m = l.length - i, .at _ ⟨0, rfl, rfl, rfl, Nat.zero_le _, rfl⟩, ?_⟩⟩
  rintro m vs H ⟨i, rfl, rfl, hn, hi, rfl⟩
  conv => whnf
  refine branch_i (fun c => ?_) (fun c => ?_) <;> try rw [c] <;> conv => whnf
  · have c' := of_decide_eq_true c
    have hlt : i < l.length := by omega
    have g1 : l[i]? = some l[i] := List.getElem?_eq_getElem hlt
    have g2 : l2[i]? = some l2[i] := List.getElem?_eq_getElem (by omega)
    generalize l[i] = d at *
    generalize l2[i] = d2 at *
    refine ⟨List.range 9, by kernel_rfl, by kernel_rfl, ?_⟩
    conv => whnf
    refine ⟨_, ⟨by omega, cols_get g1⟩, ?_⟩
    conv => whnf
    refine ⟨_, ⟨by omega, cols_get g2⟩, ?_⟩
    conv => whnf
    rw [col_eq]
    by_cases e : d = d2
    · rw [show decide (d = d2) = true by simp [e]]
      conv => whnf
      refine .go [] rfl (l.length - (i + 1)) (by omega) ⟨i + 1, ?_, rfl, ?_, by omega, rfl⟩
      · show [V.sl 3 (cols l) false, V.sl 3 (cols l2) false, fI (cols l).length, V.int .i64 (IntKind.i64.wrap ((i : Int) + 1))] = _
        rw [show IntKind.i64.wrap ((i : Int) + 1) = ((i + 1 : Nat) : Int) by rw [IntKind.wrap_i64]; omega]
      · rw [List.take_add_one, List.take_add_one, hn, g1, g2, e]
    · rw [show decide (d = d2) = false by simp [e]]
      conv => whnf
      have hne : l ≠ l2 := fun e' => by subst e'; rw [g1] at g2; cases g2; exact e rfl
      rw [show decide (l = l2) = false by simp [hne]] at h
      exact ⟨[], rfl, h⟩
  · have c' := of_decide_eq_false c
    rw [List.take_of_length_le (by omega), List.take_of_length_le (by omega)] at hn
    rw [show decide (l = l2) = true by simp [hn]] at h
    exact ⟨[], rfl, h⟩

theorem Same_spec' {l l2 : List Col} {k k2 : Int} (hl : l.length < 1000000) (h : Q (.bool (sameS l k l2 k2)) []) :
    ACall Try.prog 20 0 [sch l k, sch l2 k2] [] Q := by
  refine by_body Try.func20 0 rfl (Nat.le_of_ble_eq_true rfl) ?_
  conv => whnf
  unfold sameS at h
  refine branch_i (fun c => ?_) (fun c => ?_) <;> rw [c] at h <;> try rw [c] <;> conv => whnf
  · refine .call [] 0 ⟨rfl, rfl, rfl⟩ (SEqual_spec hl ?_)
    conv => whnf
    exact ⟨[], rfl, h⟩
  · exact ⟨[], rfl, h⟩

theorem RSame_spec {l l2 : List Col} {k k2 : Int} (hl : l.length < 1000000) (h : Q (.bool (sameS l k l2 k2)) []) :
    ACall Try.prog 11 0 [sch l k, sch l2 k2] [] Q := by
  refine by_body Try.func11 0 rfl (Nat.le_of_ble_eq_true rfl) ?_
  conv => whnf
  unfold sameS at h
  have h1 := cols_len l
  have h2 := cols_len l2
  by_cases ck : k = k2
  rotate_left
  focus
    rw [show decide (k = k2) = false by simp [ck]] at h ⊢
    conv => whnf
    exact ⟨[], rfl, h⟩
  rw [show decide (k = k2) = true by simp [ck]] at h ⊢
  conv => whnf
  refine branch_i (fun c => ?_) (fun c => ?_) <;> try rw [c] <;> conv => whnf
  focus
    have hne : l ≠ l2 := fun e => by subst e; simp at c
    rw [show decide (l = l2) = false by simp [hne]] at h
    exact ⟨[], rfl, h⟩
  have hlen : l.length = l2.length := by simp at c; omega
  clear c
  refine ⟨⟨[2, 3, 5], fun m vs H => ∃ i : Nat, vs = [.ptr 0 0, .ptr 1 0, fI i] ∧ H = [.cells [.sl 3 (cols l) false, fI k], .cells [.sl 3 (cols l2) false, fI k2]] ∧ l.take i = l2.take i ∧ i ≤ l.length ∧ m = l.length - i, .at _ ⟨0, rfl, rfl, rfl, Nat.zero_le _, rfl⟩, ?_⟩⟩
  rintro m vs H ⟨i, rfl, rfl, hn, hi, rfl⟩
  conv => whnf
  refine branch_i (fun c => ?_) (fun c => ?_) <;> try rw [c] <;> conv => whnf
  · have c' := of_decide_eq_true c
    have hlt : i < l.length := by omega
    have g1 : l[i]? = some l[i] := List.getElem?_eq_getElem hlt
    have g2 : l2[i]? = some l2[i] := List.getElem?_eq_getElem (by omega)
    generalize l[i] = d at *
    generalize l2[i] = d2 at *
    refine ⟨List.range 11, by kernel_rfl, by kernel_rfl, ?_⟩
    conv => whnf
    refine ⟨_, ⟨by omega, cols_get g1⟩, ?_⟩
    conv => whnf
    refine ⟨_, ⟨by omega, cols_get g2⟩, ?_⟩
    conv => whnf
    rw [col_eq]
    by_cases e : d = d2
    · rw [show decide (d = d2) = true by simp [e]]
      conv => whnf
      refine .go [0, 1] rfl (l.length - (i + 1)) (by omega) ⟨i + 1, ?_, rfl, ?_, by omega, rfl⟩
      · show [V.ptr 0 0, V.ptr 1 0, V.int .i64 (IntKind.i64.wrap ((i : Int) + 1))] = _
        rw [show IntKind.i64.wrap ((i : Int) + 1) = ((i + 1 : Nat) : Int) by rw [IntKind.wrap_i64]; omega]
      · rw [List.take_add_one, List.take_add_one, hn, g1, g2, e]
    · rw [show decide (d = d2) = false by simp [e]]
      conv => whnf
      have hne : l ≠ l2 := fun e' => by subst e'; rw [g1] at g2; cases g2; exact e rfl
      rw [show decide (l = l2) = false by simp [hne]] at h
      exact ⟨[], rfl, h⟩
  · have c' := of_decide_eq_false c
    rw [List.take_of_length_le (by omega), List.take_of_length_le (by omega)] at hn
    rw [show decide (l = l2) = true by simp [hn]] at h
    exact ⟨[], rfl, h⟩

theorem SClone_spec {l : List Col} (hl : l.length < 1000000) (h : Q (.ms 3 0 0 l.length false) [.buf (cols l)]) :
    ACall Try.prog 34 0 [.sl 3 (cols l) false] [] Q := by
  have hlk := cols_len l
  cases l with
  | nil =>
    refine ACall.sub (ACall.sel (ACall.adopt (by_body Try.func34 0 rfl (Nat.le_of_ble_eq_true rfl) ?_)))
    conv => whnf
    refine ⟨?_, ?_⟩
    · conv => whnf
      exact ⟨[], rfl, [0], rfl, _, _, VSub.ms0 3 0 0 false, HSub.refl _, h⟩
    · conv => whnf
      refine ⟨by decide, fun _ => ?_, fun e => absurd rfl e⟩
      conv => whnf
      exact ⟨[0], rfl, [0], rfl, _, _, VSub.msRoom 3 0 0, HSub.refl _, h⟩
  | cons c r =>
    refine by_body Try.func34 0 rfl (Nat.le_of_ble_eq_true rfl) ?_
    conv => whnf
    refine ⟨by decide, fun e => by simp [cols] at e, fun _ => ?_⟩
    conv => whnf
    refine ⟨(show (cols (c :: r)).length * 32 ≤ 70368744177664 by rw [hlk]; omega), ?_⟩
    conv => whnf
    exact ⟨[1], rfl, by rw [← hlk] at h; exact h⟩

theorem Clone_spec {l : List Col} {keys : Int} (hl : l.length < 1000000) (h : Q (.agg [.ms 3 0 0 l.length false, fI keys]) [.buf (cols l)]) :
    ACall Try.prog 19 0 [sch l keys] [] Q := by
  refine by_body Try.func19 0 rfl (Nat.le_of_ble_eq_true rfl) ?_
  conv => whnf
  refine ⟨[0, 1, 3, 4, 2, 5, 6], by kernel_rfl, by kernel_rfl, ?_⟩
  conv => whnf
  refine .call [] 0 ⟨rfl, rfl, rfl⟩ (SClone_spec hl ?_)
  repeat (refine ⟨rfl, ?_⟩)
  conv => whnf
  exact ⟨[2], rfl, h⟩

end Go.Proofs.YtcgpgpbnpjbhhaaPg
