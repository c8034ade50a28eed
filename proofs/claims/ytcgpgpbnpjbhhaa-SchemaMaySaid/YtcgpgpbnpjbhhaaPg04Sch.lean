/- Schemas: the functions. -/
import Derived.Test.YtcgpgpbnpjbhhaaPg04Names
import Derived.Test.YtcgpgpbnpjbhhaaPgSch1
namespace Go.Proofs.YtcgpgpbnpjbhhaaPg
open Go Go.RowKit
set_option linter.unusedVariables false

variable {Q : V → List O → Prop}

theorem take_snoc {α : Type} {P : α → Prop} {l : List α} {i : Nat} {x : α} (h : ∀ c ∈ l.take i, P c) (hx : l[i]? = some x) (hp : P x) : ∀ c ∈ l.take (i + 1), P c := by
  intro c hc
  rw [List.take_add_one, hx] at hc
  rcases List.mem_append.1 hc with hc | hc
  · exact h c hc
  · simp at hc; subst hc; exact hp

theorem Find1_spec {c : Col} {name : List UInt8} (h : Q (.bool (decide (c.n = name))) [.cells [.str name]]) : ACall Try.prog 33 1 [.agg [.str c.n, fI c.k, .bool c.o], .ptr 0 0] [.cells [.str name]] Q := by
  refine by_body Try.func33 1 rfl (Nat.le_of_ble_eq_true rfl) ?_
  conv => whnf
  exact ⟨[0], rfl, h⟩

theorem IndexFunc_spec {l : List Col} {name : List UInt8} (hl : l.length < 1000000) (h : Q (fI (fnd name l 0)) [.cells [.str name]]) :
    ACall Try.prog 32 1 [.sl 3 (cols l) false, .fn (.func 33) [] [.ptr 0 0]] [.cells [.str name]] Q := by
  refine by_body Try.func32 1 rfl (Nat.le_of_ble_eq_true rfl) ?_
  conv => whnf
  have hlk := cols_len l
  refine ⟨⟨[0, 1, 7, 8], fun m vs H => ∃ i : Nat, vs = [.sl 3 (cols l) false, .fn (.func 33) [] [.ptr 0 0], fI (cols l).length, fI i] ∧ H = [.cells [.str name]] ∧ (∀ c ∈ l.take i, c.n ≠ name) ∧ i ≤ l.length ∧ m = l.length - i, .at _ ⟨0, rfl, rfl, by simp, Nat.zero_le _, rfl⟩, ?_⟩⟩
  rintro m vs H ⟨i, rfl, rfl, hn, hi, rfl⟩
  conv => whnf
  refine branch_i (fun c => ?_) (fun c => ?_) <;> try rw [c] <;> conv => whnf
  · have c' := of_decide_eq_true c
    have hlt : i < l.length := by omega
    have hget : l[i]? = some l[i] := List.getElem?_eq_getElem hlt
    refine ⟨_, ⟨by omega, cols_get hget⟩, ?_⟩
    conv => whnf
    refine .call [0] 1 ⟨rfl, rfl, rfl⟩ (Find1_spec ?_)
    conv => whnf
    refine branch_i (fun c2 => ?_) (fun c2 => ?_) <;> try rw [c2] <;> conv => whnf
    · rw [fnd_here hn hget (of_decide_eq_true c2)] at h
      exact ⟨[0], rfl, h⟩
    · refine .go [0] rfl (l.length - (i + 1)) (by omega) ⟨i + 1, ?_, rfl, take_snoc hn hget (of_decide_eq_false c2), by omega, rfl⟩
      show [V.sl 3 (cols l) false, V.fn (.func 33) [] [.ptr 0 0], fI (cols l).length, V.int .i64 (IntKind.i64.wrap ((i : Int) + 1))] = _
      rw [show IntKind.i64.wrap ((i : Int) + 1) = ((i + 1 : Nat) : Int) by rw [IntKind.wrap_i64]; omega]
  · have c' := of_decide_eq_false c
    rw [List.take_of_length_le (by omega)] at hn
    rw [fnd_none hn] at h
    exact ⟨[0], rfl, h⟩

theorem Find_spec {l : List Col} {keys : Int} {name : List UInt8} (hl : l.length < 1000000) (h : Q (fI (fnd name l 0)) []) :
    ACall Try.prog 17 0 [sch l keys, .str name] [] Q := by
  refine by_body Try.func17 0 rfl (Nat.le_of_ble_eq_true rfl) ?_
  conv => whnf
  refine .call [1] 1 ⟨rfl, rfl, rfl⟩ (IndexFunc_spec hl ?_)
  conv => whnf
  exact ⟨[], rfl, h⟩

theorem RFind_spec {l : List Col} {keys : Int} {name : List UInt8} (hl : l.length < 1000000) (h : Q (fI (fnd name l 0)) []) :
    ACall Try.prog 18 0 [sch l keys, .str name] [] Q := by
  refine by_body Try.func18 0 rfl (Nat.le_of_ble_eq_true rfl) ?_
  conv => whnf
  have hlk := cols_len l
  refine ⟨⟨[1, 2, 5], fun m vs H => ∃ i : Nat, vs = [.str name, .ptr 0 0, fI i] ∧ H = [.cells [.sl 3 (cols l) false, fI keys]] ∧ (∀ c ∈ l.take i, c.n ≠ name) ∧ i ≤ l.length ∧ m = l.length - i, .at _ ⟨0, rfl, rfl, by simp, Nat.zero_le _, rfl⟩, ?_⟩⟩
  rintro m vs H ⟨i, rfl, rfl, hn, hi, rfl⟩
  conv => whnf
  refine branch_i (fun c => ?_) (fun c => ?_) <;> try rw [c] <;> conv => whnf
  · have c' := of_decide_eq_true c
    have hlt : i < l.length := by omega
    have hget : l[i]? = some l[i] := List.getElem?_eq_getElem hlt
    refine ⟨_, ⟨by omega, cols_get hget⟩, ?_⟩
    conv => whnf
    refine branch_i (fun c2 => ?_) (fun c2 => ?_) <;> try rw [c2] <;> conv => whnf
    · rw [fnd_here hn hget (of_decide_eq_true c2)] at h
      exact ⟨[], rfl, h⟩
    · refine .go [0] rfl (l.length - (i + 1)) (by omega) ⟨i + 1, ?_, rfl, take_snoc hn hget (of_decide_eq_false c2), by omega, rfl⟩
      show [V.str name, V.ptr 0 0, V.int .i64 (IntKind.i64.wrap ((i : Int) + 1))] = _
      rw [show IntKind.i64.wrap ((i : Int) + 1) = ((i + 1 : Nat) : Int) by rw [IntKind.wrap_i64]; omega]
  · have c' := of_decide_eq_false c
    rw [List.take_of_length_le (by omega)] at hn
    rw [fnd_none hn] at h
    exact ⟨[], rfl, h⟩

end Go.Proofs.YtcgpgpbnpjbhhaaPg
