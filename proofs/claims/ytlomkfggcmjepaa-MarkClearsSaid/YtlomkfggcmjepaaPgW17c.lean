/- Seat 17: Low, the document's example, the laws that need no reference. -/
import Derived.Test.YtlomkfggcmjepaaPgW17b
namespace Go.Proofs.YtlomkfggcmjepaaPg
open Go Go.RowKit
set_option linter.unusedVariables false

section
variable {ph nu la : Int} {ta : List UInt8} {ins : Bool} {Q : V → List O → Prop}

theorem Low_spec {n : Int} {tb : List UInt8} (h0 : ph = 0 → nameOk tb = true → la < n → Q (.int .i64 0) [mark 1 n n tb ins]) (h1 : ph = 0 → ¬ (nameOk tb = true ∧ la < n) → Q (.int .i64 1) [mark ph nu la ta ins])
    (h2 : ph ≠ 0 → Q (.int .i64 14) [mark ph nu la ta ins]) : ACall Try.prog 9 1 [.ptr 0 0, .int .i64 n, .str tb] [mark ph nu la ta ins] Q := by
  refine by_body Try.func9 1 rfl (Nat.le_of_ble_eq_true rfl) ?_
  conv => whnf
  refine branch_i (fun c => ?_) (fun c => ?_) <;> try rw [c] <;> conv => whnf
  · have hp : ph = 0 := of_decide_eq_true c
    subst hp
    refine ⟨[], 0, ⟨rfl, rfl, rfl⟩, Name_spec ?_⟩
    cases hn : nameOk tb
    · conv => whnf
      exact ⟨[0], rfl, h1 rfl (by simp [hn])⟩
    · conv => whnf
      refine branch_i (fun c => ?_) (fun c => ?_) <;> try rw [c] <;> conv => whnf
      · exact ⟨[0], rfl, h1 rfl (by simp at c; omega)⟩
      · refine ⟨[0], 1, ⟨rfl, rfl, rfl⟩, leads_spec (fun _ => ?_) (fun hx => absurd rfl hx)⟩
        conv => whnf
        exact ⟨[0], rfl, h0 rfl hn (by simp at c; omega)⟩
  · have hp : ph ≠ 0 := of_decide_eq_false c
    refine ⟨[0], 1, ⟨rfl, rfl, rfl⟩, leads_spec (fun hx => absurd hx hp) (fun _ => ?_)⟩
    conv => whnf
    exact ⟨[0], rfl, h2 hp⟩
end

theorem lives_spec {Q : V → List O → Prop} (h : Q (.bool true) []) : ACall Try.prog 11 0 [] [] Q := by
  refine by_body Try.func11 0 rfl (Nat.le_of_ble_eq_true rfl) ?_
  conv => whnf
  refine ⟨[], 0, ⟨rfl, rfl, rfl⟩, New_spec ?_⟩
  conv => whnf
  refine ⟨[0], 1, ⟨rfl, rfl, rfl⟩, Low_spec (fun _ _ _ => ?_) (fun _ hx => absurd (by decide) hx) (fun hx => absurd rfl hx)⟩
  conv => whnf
  refine ⟨[0], 1, ⟨rfl, rfl, rfl⟩, Meet_spec fun r hr => ?_⟩
  obtain rfl : r = (1, 1, false) := by rw [← hr]; rfl
  conv => whnf
  refine ⟨[0], 1, ⟨rfl, rfl, rfl⟩, Select_spec (fun _ => ?_) (fun hx => absurd rfl hx)⟩
  conv => whnf
  refine ⟨[0], 1, ⟨rfl, rfl, rfl⟩, Meet_spec fun r hr => ?_⟩
  obtain rfl : r = (0, 2, true) := by rw [← hr]; rfl
  conv => whnf
  refine ⟨[0], 1, ⟨rfl, rfl, rfl⟩, Inside_spec ?_⟩
  conv => whnf
  refine ⟨[0], 1, ⟨rfl, rfl, rfl⟩, Phase_spec ?_⟩
  conv => whnf
  exact ⟨[], rfl, h⟩

theorem MarkNumbers_spec {es : List (List V)} (hes : ∀ x ∈ es, ∃ v, x = [.int .i64 v]) : ACall Try.prog 3 0 [.sl 1 es false] [] (fun v _ => v = .bool true) := by
  refine by_body Try.func3 0 rfl (Nat.le_of_ble_eq_true rfl) ?_
  conv => whnf
  refine ⟨[], 0, ⟨rfl, rfl, rfl⟩, New_spec ?_⟩
  conv => whnf
  refine ⟨⟨[0, 3, 4, 5], fun n vs H => ∃ (i : Nat) (nu la : Int) (ta : List UInt8) (ins : Bool), n = 20 - i ∧ vs = [.sl 1 es false, .ptr 0 0, .int .i64 la, .int .i64 i] ∧ H = [mark 0 nu la ta ins], ⟨20, 0, 0, -1, [], false, rfl, rfl, rfl⟩, ?_⟩⟩
  rintro n vs H ⟨i, nu, la, ta, ins, rfl, rfl, rfl⟩
  conv => whnf
  refine branch_i (fun c => ?_) (fun c => ?_) <;> try rw [c] <;> conv => whnf
  focus refine branch_i (fun c2 => ?_) (fun c2 => ?_) <;> try rw [c2] <;> conv => whnf
  · have hlt : i < es.length := by simpa using c
    have hi : i < 20 := by simp at c2; omega
    have hw : IntKind.i64.wrap ((i : Int) + 1) = ((i + 1 : Nat) : Int) := by rw [wrap_i64 (by omega) (by omega)]; omega
    obtain ⟨v, hv⟩ := hes _ (List.getElem_mem hlt)
    have hget : es[((i : Int)).toNat]? = some [.int .i64 v] := by rw [Int.toNat_natCast, List.getElem?_eq_getElem hlt, hv]
    refine ⟨_, ⟨by omega, hget⟩, ?_⟩
    conv => whnf
    refine ⟨[0], 1, ⟨rfl, rfl, rfl⟩, Low_spec (fun _ _ hl => ?_) (fun _ hl => ?_) (fun hx => absurd rfl hx)⟩
    · conv => whnf
      refine ⟨_, ⟨by omega, hget⟩, ?_⟩
      conv => whnf
      refine branch_i (fun c => ?_) (fun c => ?_) <;> try rw [c] <;> conv => whnf
      · simp [hl] at c
      · refine ⟨_, ⟨by omega, hget⟩, ?_⟩
        conv => whnf
        refine ⟨[0], 1, ⟨rfl, rfl, rfl⟩, Clear_spec ?_⟩
        conv => whnf
        exact ⟨[0], rfl, 20 - (i + 1), by omega, i + 1, v, v, [116], false, rfl, by rw [← hw]; rfl, rfl⟩
    · have hl' : ¬ la < v := fun hx => hl ⟨by decide, hx⟩
      conv => whnf
      refine ⟨_, ⟨by omega, hget⟩, ?_⟩
      conv => whnf
      refine branch_i (fun c => ?_) (fun c => ?_) <;> try rw [c] <;> conv => whnf
      · simp [hl'] at c
      · refine ⟨[0], 1, ⟨rfl, rfl, rfl⟩, Clear_spec ?_⟩
        conv => whnf
        exact ⟨[0], rfl, 20 - (i + 1), by omega, i + 1, nu, la, ta, false, rfl, by rw [← hw]; rfl, rfl⟩
  · refine ⟨[], 0, ⟨rfl, rfl, rfl⟩, lives_spec ?_⟩
    conv => whnf
    exact ⟨[], rfl, rfl⟩
  · refine ⟨[], 0, ⟨rfl, rfl, rfl⟩, lives_spec ?_⟩
    conv => whnf
    exact ⟨[], rfl, rfl⟩

end Go.Proofs.YtlomkfggcmjepaaPg
