/- Chapter 09: the document's list, with nothing in it yet. -/
import Derived.Test.YtfhoblpcneachaaPg09TreeRef
namespace Go.Proofs.YtfhoblpcneachaaPg
open Go Go.RowKit
set_option linter.unusedVariables false

variable {Q : V → List O → Prop}

def R0 : List O := [.cells [.nils, .nils]]

theorem at0_spec {key : List UInt8} (h : Q (.tup [fI 0, .bool false]) R0) :
    ACall Try.prog 34 1 [.ptr 0 0, .str key] R0 Q := by
  refine by_body Try.func34 1 rfl (Nat.le_of_ble_eq_true rfl) ?_
  conv => whnf
  refine ⟨⟨[0, 1, 6], fun m vs H => H = R0 ∧ vs = [.ptr 0 0, .str key, fI 0] ∧ m = 0, .at _ ⟨rfl, rfl, rfl⟩, ?_⟩⟩
  rintro m vs H ⟨rfl, rfl, rfl⟩
  conv => whnf
  refine ⟨[0, 1, 2, 3, 4, 5, 6, 7, 8, 9, 10, 11, 12, 13, 14, 15, 16, 17, 18, 19, 20], by kernel_rfl, by kernel_rfl, ?_⟩
  conv => whnf
  iterate 3 (repeat (refine ⟨rfl, ?_⟩)); conv => whnf
  exact ⟨[0], rfl, h⟩

theorem RPut0_spec {key : List UInt8} {v : Int} (h : Q (.bool false) (RO [(key, v)])) :
    ACall Try.prog 25 1 [.ptr 0 0, .str key, fI v] R0 Q := by
  refine ACall.ret (by_body Try.func25 1 rfl (Nat.le_of_ble_eq_true rfl) ?_)
  conv => whnf
  refine .call [0] 1 ⟨rfl, rfl, rfl⟩ (at0_spec ?_)
  conv => whnf
  refine ⟨rfl, ?_⟩
  conv => whnf
  refine ⟨(by decide : (0 : Nat) * 16 ≤ 70368744177664), ?_⟩
  conv => whnf
  refine ⟨Nat.le_refl _, ?_⟩
  conv => whnf
  refine ⟨rfl, ?_⟩
  conv => whnf
  refine ⟨(by decide : (1 : Nat) * 16 ≤ 70368744177664), ?_⟩
  conv => whnf
  refine ⟨rfl, ?_⟩
  conv => whnf
  refine ⟨(by decide : (0 : Nat) * 8 ≤ 70368744177664), ?_⟩
  conv => whnf
  refine ⟨Nat.le_refl _, ?_⟩
  conv => whnf
  refine ⟨rfl, ?_⟩
  conv => whnf
  refine ⟨(by decide : (1 : Nat) * 8 ≤ 70368744177664), ?_⟩
  conv => whnf
  refine ⟨rfl, ?_⟩
  conv => whnf
  refine ⟨rfl, ?_⟩
  conv => whnf
  refine ⟨(by decide : (1 : Nat) * 16 ≤ 70368744177664), ?_⟩
  conv => whnf
  refine ⟨rfl, ?_⟩
  conv => whnf
  refine ⟨rfl, ?_⟩
  conv => whnf
  refine ⟨(by decide : (1 : Nat) * 8 ≤ 70368744177664), ?_⟩
  conv => whnf
  exact ⟨[0, 8, 7], rfl, .frz 2 rfl (And.intro (Nat.le_of_eq (Nat.zero_add _)) trivial) (.done [0, 1] rfl h)⟩

theorem RCut0_spec {key : List UInt8} (h : Q (.bool false) R0) :
    ACall Try.prog 26 1 [.ptr 0 0, .str key] R0 Q := by
  refine by_body Try.func26 1 rfl (Nat.le_of_ble_eq_true rfl) ?_
  conv => whnf
  refine .call [0] 1 ⟨rfl, rfl, rfl⟩ (at0_spec ?_)
  conv => whnf
  exact ⟨[0], rfl, h⟩

theorem RGet0_spec {key : List UInt8} (h : Q (.tup [fI 0, .bool false]) R0) :
    ACall Try.prog 27 1 [.ptr 0 0, .str key] R0 Q := by
  refine by_body Try.func27 1 rfl (Nat.le_of_ble_eq_true rfl) ?_
  conv => whnf
  refine .call [0] 1 ⟨rfl, rfl, rfl⟩ (at0_spec ?_)
  conv => whnf
  exact ⟨[0], rfl, h⟩

theorem Behind0_spec {after : List UInt8} {most : Int} (h : Q .nils R0) :
    ACall Try.prog 28 1 [.ptr 0 0, .str after, fI most] R0 Q := by
  refine by_body Try.func28 1 rfl (Nat.le_of_ble_eq_true rfl) ?_
  conv => whnf
  refine ⟨⟨[0, 1, 2, 7, 8], fun m vs H => vs = [.ptr 0 0, .str after, fI most, .nils, fI 0] ∧ H = R0 ∧ m = 0, .at _ ⟨rfl, rfl, rfl⟩, ?_⟩⟩
  rintro m vs H ⟨rfl, rfl, rfl⟩
  conv => whnf
  exact ⟨[0], rfl, h⟩

end Go.Proofs.YtfhoblpcneachaaPg
