/- Seat 17: MarkGoes. -/
import Derived.Test.YtlomkfggcmjepaaPgW17c
namespace Go.Proofs.YtlomkfggcmjepaaPg
open Go Go.RowKit
set_option linter.unusedVariables false

theorem xor_ne {x : Int} (h0 : 0 ≤ x) (h1 : x < 9223372036854775808) : IntKind.i64.wrap (BitVec.ofInt IntKind.i64.bits x ^^^ BitVec.ofInt IntKind.i64.bits 1).toNat ≠ x := by
  intro h
  rw [IntKind.wrap_i64] at h
  have hb := (BitVec.ofInt IntKind.i64.bits x ^^^ BitVec.ofInt IntKind.i64.bits 1).isLt
  have h64 : (2 : Nat) ^ IntKind.i64.bits = 18446744073709551616 := by decide
  rw [h64] at hb
  have hm : ((BitVec.ofInt IntKind.i64.bits x ^^^ BitVec.ofInt IntKind.i64.bits 1).toNat : Int) = x := by omega
  have ha : (BitVec.ofInt IntKind.i64.bits x).toNat = x.toNat := by
    rw [BitVec.toNat_ofInt]
    simp only [h64]
    omega
  have he : BitVec.ofInt IntKind.i64.bits x ^^^ BitVec.ofInt IntKind.i64.bits 1 = BitVec.ofInt IntKind.i64.bits x := by
    apply BitVec.eq_of_toNat_eq
    omega
  have h2 : BitVec.ofInt IntKind.i64.bits x ^^^ (BitVec.ofInt IntKind.i64.bits x ^^^ BitVec.ofInt IntKind.i64.bits 1) = BitVec.ofInt IntKind.i64.bits x ^^^ BitVec.ofInt IntKind.i64.bits x := by rw [he]
  rw [← BitVec.xor_assoc, BitVec.xor_self, BitVec.zero_xor] at h2
  exact absurd h2 (by decide)

theorem meet_other {ph nu : Int} {ins : Bool} {kd nn : Int} (h : ph = 0 ∨ nn ≠ nu) : meet ph nu ins kd nn = (0, ph, ins) := by
  unfold meet
  rw [if_neg (by rintro ⟨a, b, _⟩; rcases h with h | h; exact a h; exact h b), if_neg (by rintro ⟨a, b, _⟩; rcases h with h | h; omega; exact h b)]

/-- Where MarkGoes stands ahead of a phase. -/
def goesAt (x : Int) (es : List (List V)) (n : Nat) (vs : List V) (H : List O) : Prop :=
  (n = 4 ∧ vs = [.int .i64 x, .sl 1 es false, .ptr 0 0, .int .i64 0] ∧ H = [mark 0 0 (-1) [] false]) ∨
  (n = 3 ∧ vs = [.int .i64 x, .sl 1 es false, .ptr 0 0, .int .i64 1] ∧ H = [mark 1 x x [116] false]) ∨
  (n = 2 ∧ vs = [.int .i64 x, .sl 1 es false, .ptr 0 0, .int .i64 2] ∧ H = [mark 2 x x [116] false]) ∨
  (n = 1 ∧ vs = [.int .i64 x, .sl 1 es false, .ptr 0 0, .int .i64 3] ∧ H = [mark 3 x x [116] false]) ∨
  (n = 0 ∧ vs = [.int .i64 x, .sl 1 es false, .ptr 0 0, .int .i64 4] ∧ H = [mark 3 x x [116] false])

theorem MarkGoes_spec {n : Int} (hn : (Lit.int .i64 n).wf = true) {es : List (List V)} (hes : ∀ x ∈ es, ∃ v, x = [.int .i64 v]) : ACall Try.prog 4 0 [.int .i64 n, .sl 1 es false] [] (fun v _ => v = .bool true) := by
  have hr : -9223372036854775808 ≤ n ∧ n < 9223372036854775808 := by
    simp [Lit.wf, IntKind.min, IntKind.max, IntKind.bits, IntKind.signed] at hn; omega
  refine by_body Try.func4 0 rfl (Nat.le_of_ble_eq_true rfl) ?_
  conv => whnf
  refine ⟨[], 0, ⟨rfl, rfl, rfl⟩, New_spec ?_⟩
  conv => whnf
  refine branch_i (fun c => ?_) (fun c => ?_) <;> try rw [c] <;> conv => whnf
  focus
    have h1 : n < 0 := of_decide_eq_true c
    have hw : IntKind.i64.wrap (0 - (IntKind.i64.wrap (n + 1))) = -(n + 1) := by rw [wrap_i64 (x := n + 1) (by omega) (by omega), wrap_i64 (by omega) (by omega)]; omega
    refine ⟨⟨[0, 1, 5, 6], fun n vs H => ∃ x : Int, 0 ≤ x ∧ x < 9223372036854775808 ∧ goesAt x es n vs H, ⟨4, -(n + 1), by omega, by omega, .inl ⟨rfl, by rw [← hw]; rfl, rfl⟩⟩, ?_⟩⟩
  rotate_left
  focus
    have h1 : ¬ n < 0 := of_decide_eq_false c
    refine ⟨⟨[0, 1, 5, 6], fun n vs H => ∃ x : Int, 0 ≤ x ∧ x < 9223372036854775808 ∧ goesAt x es n vs H, ⟨4, n, by omega, by omega, .inl ⟨rfl, rfl, rfl⟩⟩, ?_⟩⟩
  all_goals
    clear c hr hn
    rintro n vs H ⟨x, x0, x1, hx⟩
    rcases hx with ⟨rfl, rfl, rfl⟩ | ⟨rfl, rfl, rfl⟩ | ⟨rfl, rfl, rfl⟩ | ⟨rfl, rfl, rfl⟩ | ⟨rfl, rfl, rfl⟩
    · conv => whnf
      refine ⟨⟨[0, 1, 5, 6, 7], fun n vs H => ∃ i : Nat, n = 10 - i ∧ vs = [.int .i64 x, .sl 1 es false, .ptr 0 0, .int .i64 0, .int .i64 i] ∧ H = [mark 0 0 (-1) [] false], ⟨10, 0, rfl, rfl, rfl⟩, ?_⟩⟩
      rintro n vs H ⟨i, rfl, rfl, rfl⟩
      conv => whnf
      refine branch_i (fun c => ?_) (fun c => ?_) <;> try rw [c] <;> conv => whnf
      focus refine branch_i (fun c2 => ?_) (fun c2 => ?_) <;> try rw [c2] <;> conv => whnf
      · have hlt : i < es.length := by simpa using c
        have hi : i < 10 := by simp at c2; omega
        obtain ⟨v, hv⟩ := hes _ (List.getElem_mem hlt)
        have hget : es[((i : Int)).toNat]? = some [.int .i64 v] := by rw [Int.toNat_natCast, List.getElem?_eq_getElem hlt, hv]
        have hw : IntKind.i64.wrap ((i : Int) + 1) = ((i + 1 : Nat) : Int) := by rw [wrap_i64 (by omega) (by omega)]; omega
        refine ⟨_, ⟨by omega, hget⟩, ?_⟩
        conv => whnf
        refine ⟨[0], 1, ⟨rfl, rfl, rfl⟩, Meet_spec fun r hr => ?_⟩
        obtain rfl : r = (0, 0, false) := by
          rw [← hr]
          first
            | exact meet_other (.inl rfl)
            | exact meet_other (.inr (xor_ne x0 x1))
        conv => whnf
        refine ⟨[0], 1, ⟨rfl, rfl, rfl⟩, Phase_spec ?_⟩
        conv => whnf
        exact ⟨[0], rfl, 10 - (i + 1), by omega, i + 1, rfl, by rw [← hw]; rfl, rfl⟩
      all_goals
        refine ⟨[0], 1, ⟨rfl, rfl, rfl⟩, Low_spec (fun _ _ hl => ?_) (fun _ hl => absurd ⟨by decide, by omega⟩ hl) (fun hx => absurd rfl hx)⟩
        conv => whnf
        exact ⟨[0], rfl, 3, by omega, x, x0, x1, .inr (.inl ⟨rfl, rfl, rfl⟩)⟩
    · conv => whnf
      refine ⟨⟨[0, 1, 5, 6, 7], fun n vs H => ∃ i : Nat, n = 10 - i ∧ vs = [.int .i64 x, .sl 1 es false, .ptr 0 0, .int .i64 1, .int .i64 i] ∧ H = [mark 1 x x [116] false], ⟨10, 0, rfl, rfl, rfl⟩, ?_⟩⟩
      rintro n vs H ⟨i, rfl, rfl, rfl⟩
      conv => whnf
      refine branch_i (fun c => ?_) (fun c => ?_) <;> try rw [c] <;> conv => whnf
      focus refine branch_i (fun c2 => ?_) (fun c2 => ?_) <;> try rw [c2] <;> conv => whnf
      · have hlt : i < es.length := by simpa using c
        have hi : i < 10 := by simp at c2; omega
        obtain ⟨v, hv⟩ := hes _ (List.getElem_mem hlt)
        have hget : es[((i : Int)).toNat]? = some [.int .i64 v] := by rw [Int.toNat_natCast, List.getElem?_eq_getElem hlt, hv]
        have hw : IntKind.i64.wrap ((i : Int) + 1) = ((i + 1 : Nat) : Int) := by rw [wrap_i64 (by omega) (by omega)]; omega
        refine ⟨_, ⟨by omega, hget⟩, ?_⟩
        conv => whnf
        refine ⟨[0], 1, ⟨rfl, rfl, rfl⟩, Meet_spec fun r hr => ?_⟩
        obtain rfl : r = (0, 1, false) := by
          rw [← hr]
          first
            | exact meet_other (.inl rfl)
            | exact meet_other (.inr (xor_ne x0 x1))
        conv => whnf
        refine ⟨[0], 1, ⟨rfl, rfl, rfl⟩, Phase_spec ?_⟩
        conv => whnf
        exact ⟨[0], rfl, 10 - (i + 1), by omega, i + 1, rfl, by rw [← hw]; rfl, rfl⟩
      all_goals
        refine ⟨[0], 1, ⟨rfl, rfl, rfl⟩, Select_spec (fun _ => ?_) (fun hx => absurd rfl hx)⟩
        conv => whnf
        exact ⟨[0], rfl, 2, by omega, x, x0, x1, .inr (.inr (.inl ⟨rfl, rfl, rfl⟩))⟩
    · conv => whnf
      refine ⟨⟨[0, 1, 5, 6, 7], fun n vs H => ∃ i : Nat, n = 10 - i ∧ vs = [.int .i64 x, .sl 1 es false, .ptr 0 0, .int .i64 2, .int .i64 i] ∧ H = [mark 2 x x [116] false], ⟨10, 0, rfl, rfl, rfl⟩, ?_⟩⟩
      rintro n vs H ⟨i, rfl, rfl, rfl⟩
      conv => whnf
      refine branch_i (fun c => ?_) (fun c => ?_) <;> try rw [c] <;> conv => whnf
      focus refine branch_i (fun c2 => ?_) (fun c2 => ?_) <;> try rw [c2] <;> conv => whnf
      · have hlt : i < es.length := by simpa using c
        have hi : i < 10 := by simp at c2; omega
        obtain ⟨v, hv⟩ := hes _ (List.getElem_mem hlt)
        have hget : es[((i : Int)).toNat]? = some [.int .i64 v] := by rw [Int.toNat_natCast, List.getElem?_eq_getElem hlt, hv]
        have hw : IntKind.i64.wrap ((i : Int) + 1) = ((i + 1 : Nat) : Int) := by rw [wrap_i64 (by omega) (by omega)]; omega
        refine ⟨_, ⟨by omega, hget⟩, ?_⟩
        conv => whnf
        refine ⟨[0], 1, ⟨rfl, rfl, rfl⟩, Meet_spec fun r hr => ?_⟩
        obtain rfl : r = (0, 2, false) := by
          rw [← hr]
          first
            | exact meet_other (.inl rfl)
            | exact meet_other (.inr (xor_ne x0 x1))
        conv => whnf
        refine ⟨[0], 1, ⟨rfl, rfl, rfl⟩, Phase_spec ?_⟩
        conv => whnf
        exact ⟨[0], rfl, 10 - (i + 1), by omega, i + 1, rfl, by rw [← hw]; rfl, rfl⟩
      all_goals
        refine ⟨[0], 1, ⟨rfl, rfl, rfl⟩, High_spec (fun _ => ?_) (fun hx => absurd rfl hx)⟩
        conv => whnf
        exact ⟨[0], rfl, 1, by omega, x, x0, x1, .inr (.inr (.inr (.inl ⟨rfl, rfl, rfl⟩)))⟩
    · conv => whnf
      refine ⟨⟨[0, 1, 5, 6, 7], fun n vs H => ∃ i : Nat, n = 10 - i ∧ vs = [.int .i64 x, .sl 1 es false, .ptr 0 0, .int .i64 3, .int .i64 i] ∧ H = [mark 3 x x [116] false], ⟨10, 0, rfl, rfl, rfl⟩, ?_⟩⟩
      rintro n vs H ⟨i, rfl, rfl, rfl⟩
      conv => whnf
      refine branch_i (fun c => ?_) (fun c => ?_) <;> try rw [c] <;> conv => whnf
      focus refine branch_i (fun c2 => ?_) (fun c2 => ?_) <;> try rw [c2] <;> conv => whnf
      · have hlt : i < es.length := by simpa using c
        have hi : i < 10 := by simp at c2; omega
        obtain ⟨v, hv⟩ := hes _ (List.getElem_mem hlt)
        have hget : es[((i : Int)).toNat]? = some [.int .i64 v] := by rw [Int.toNat_natCast, List.getElem?_eq_getElem hlt, hv]
        have hw : IntKind.i64.wrap ((i : Int) + 1) = ((i + 1 : Nat) : Int) := by rw [wrap_i64 (by omega) (by omega)]; omega
        refine ⟨_, ⟨by omega, hget⟩, ?_⟩
        conv => whnf
        refine ⟨[0], 1, ⟨rfl, rfl, rfl⟩, Meet_spec fun r hr => ?_⟩
        obtain rfl : r = (0, 3, false) := by
          rw [← hr]
          first
            | exact meet_other (.inl rfl)
            | exact meet_other (.inr (xor_ne x0 x1))
        conv => whnf
        refine ⟨[0], 1, ⟨rfl, rfl, rfl⟩, Phase_spec ?_⟩
        conv => whnf
        exact ⟨[0], rfl, 10 - (i + 1), by omega, i + 1, rfl, by rw [← hw]; rfl, rfl⟩
      all_goals
        exact ⟨[0], rfl, 0, by omega, x, x0, x1, .inr (.inr (.inr (.inr ⟨rfl, rfl, rfl⟩)))⟩
    · conv => whnf
      refine ⟨[0], 1, ⟨rfl, rfl, rfl⟩, Meet_spec fun r hr => ?_⟩
      obtain rfl : r = (0, 3, true) := by rw [← hr]; simp [meet]
      conv => whnf
      refine ⟨[0], 1, ⟨rfl, rfl, rfl⟩, Inside_spec ?_⟩
      conv => whnf
      refine ⟨[0], 1, ⟨rfl, rfl, rfl⟩, Meet_spec fun r hr => ?_⟩
      obtain rfl : r = (2, 0, false) := by rw [← hr]; simp [meet]
      conv => whnf
      refine ⟨[0], 1, ⟨rfl, rfl, rfl⟩, Phase_spec ?_⟩
      conv => whnf
      refine ⟨[], 0, ⟨rfl, rfl, rfl⟩, lives_spec ?_⟩
      conv => whnf
      exact ⟨[], rfl, rfl⟩

end Go.Proofs.YtlomkfggcmjepaaPg
