/- Seat 17: MarkShuts. -/
import Derived.Test.YtlomkfggcmjepaaPgW17c
namespace Go.Proofs.YtlomkfggcmjepaaPg
open Go Go.RowKit
set_option linter.unusedVariables false

theorem meet_shut {ph nu : Int} {ins : Bool} {kd nn : Int} : ((meet ph nu ins kd nn).1 = 2 ↔ ph = 3 ∧ kd = 10 ∧ nn = nu) ∧ ((meet ph nu ins kd nn).1 = 2 → (meet ph nu ins kd nn).2.1 = 0) ∧ ((meet ph nu ins kd nn).1 ≠ 2 → (meet ph nu ins kd nn).2.1 = ph) := by
  unfold meet
  split
  · split <;> simp <;> omega
  · split
    · simp; omega
    · simp; omega

theorem MarkShuts_spec {es : List (List V)} (hes : ∀ x ∈ es, ∃ a b c s, x = [.int .i64 a, .int .i64 b, .int .i64 c, .str s]) : ACall Try.prog 5 0 [.sl 4 es false] [] (fun v _ => v = .bool true) := by
  refine by_body Try.func5 0 rfl (Nat.le_of_ble_eq_true rfl) ?_
  conv => whnf
  refine ⟨[], 0, ⟨rfl, rfl, rfl⟩, New_spec ?_⟩
  conv => whnf
  refine ⟨⟨[0, 3, 4, 5], fun n vs H => ∃ (i : Nat) (ph nu la : Int) (ta : List UInt8) (ins : Bool), (0 ≤ ph ∧ ph ≤ 3 ∧ -1 ≤ la ∧ (ph ≠ 0 → 0 ≤ nu)) ∧ n = 40 - i ∧ vs = [.sl 4 es false, .ptr 0 0, .int .i64 ph, .int .i64 i] ∧ H = [mark ph nu la ta ins], ⟨40, 0, 0, 0, -1, [], false, by omega, rfl, rfl, rfl⟩, ?_⟩⟩
  rintro n vs H ⟨i, ph, nu, la, ta, ins, ⟨p0, p1, p2, p3⟩, rfl, rfl, rfl⟩
  conv => whnf
  refine branch_i (fun c => ?_) (fun c => ?_) <;> try rw [c] <;> conv => whnf
  focus refine branch_i (fun c2 => ?_) (fun c2 => ?_) <;> try rw [c2] <;> conv => whnf
  · have hlt : i < es.length := by simpa using c
    have hi : i < 40 := by simp at c2; omega
    have hw : IntKind.i64.wrap ((i : Int) + 1) = ((i + 1 : Nat) : Int) := by rw [wrap_i64 (by omega) (by omega)]; omega
    obtain ⟨k, dn, ev, tb, hv⟩ := hes _ (List.getElem_mem hlt)
    have hget : es[((i : Int)).toNat]? = some [.int .i64 k, .int .i64 dn, .int .i64 ev, .str tb] := by rw [Int.toNat_natCast, List.getElem?_eq_getElem hlt, hv]
    refine ⟨_, ⟨by omega, hget⟩, ?_⟩
    conv => whnf
    have hp4 : ph = 0 ∨ ph = 1 ∨ ph = 2 ∨ ph = 3 := by omega
    rcases hp4 with rfl | rfl | rfl | rfl
    all_goals
      refine branch_i (fun c => ?_) (fun c => ?_) <;> try rw [c] <;> conv => whnf
      focus
        refine ⟨[0], 1, ⟨rfl, rfl, rfl⟩, Low_spec (fun hp _ hl => ?_) (fun hp hl => ?_) (fun hp => ?_)⟩
        all_goals try (exfalso; revert hp; decide)
        all_goals conv => whnf
        all_goals
          refine ⟨[0], 1, ⟨rfl, rfl, rfl⟩, Phase_spec ?_⟩
          conv => whnf
          refine ⟨[0], 1, ⟨rfl, rfl, rfl⟩, Number_spec ?_⟩
          conv => whnf
          try (refine branch_i (fun c => ?_) (fun c => ?_) <;> try rw [c] <;> conv => whnf)
          all_goals first
            | exact ⟨[0], rfl, 40 - (i + 1), by omega, i + 1, _, _, _, _, _, by (try dsimp only); omega, rfl, by rw [← hw]; rfl, rfl⟩
            | (exfalso; simp at *; omega)
  
      refine branch_i (fun c => ?_) (fun c => ?_) <;> try rw [c] <;> conv => whnf
      focus
        refine ⟨[0], 1, ⟨rfl, rfl, rfl⟩, Select_spec (fun hp => ?_) (fun hp => ?_)⟩
        all_goals try (exfalso; revert hp; decide)
        all_goals conv => whnf
        all_goals
          refine ⟨[0], 1, ⟨rfl, rfl, rfl⟩, Phase_spec ?_⟩
          conv => whnf
          refine ⟨[0], 1, ⟨rfl, rfl, rfl⟩, Number_spec ?_⟩
          conv => whnf
          try (refine branch_i (fun c => ?_) (fun c => ?_) <;> try rw [c] <;> conv => whnf)
          all_goals first
            | exact ⟨[0], rfl, 40 - (i + 1), by omega, i + 1, _, _, _, _, _, by (try dsimp only); omega, rfl, by rw [← hw]; rfl, rfl⟩
            | (exfalso; simp at *; omega)
      refine branch_i (fun c => ?_) (fun c => ?_) <;> try rw [c] <;> conv => whnf
      focus
        refine ⟨[0], 1, ⟨rfl, rfl, rfl⟩, High_spec (fun hp => ?_) (fun hp => ?_)⟩
        all_goals try (exfalso; revert hp; decide)
        all_goals conv => whnf
        all_goals
          refine ⟨[0], 1, ⟨rfl, rfl, rfl⟩, Phase_spec ?_⟩
          conv => whnf
          refine ⟨[0], 1, ⟨rfl, rfl, rfl⟩, Number_spec ?_⟩
          conv => whnf
          try (refine branch_i (fun c => ?_) (fun c => ?_) <;> try rw [c] <;> conv => whnf)
          all_goals first
            | exact ⟨[0], rfl, 40 - (i + 1), by omega, i + 1, _, _, _, _, _, by (try dsimp only); omega, rfl, by rw [← hw]; rfl, rfl⟩
            | (exfalso; simp at *; omega)
      refine branch_i (fun c => ?_) (fun c => ?_) <;> try rw [c] <;> conv => whnf
      focus
        refine ⟨[0], 1, ⟨rfl, rfl, rfl⟩, Number_spec ?_⟩
        conv => whnf
        refine ⟨[0], 1, ⟨rfl, rfl, rfl⟩, Meet_spec fun r hr => ?_⟩
        obtain ⟨m1, m2, m3⟩ := @meet_shut _ nu ins ev dn
        rw [hr] at m1 m2 m3
        obtain ⟨ra, rb, rc⟩ := r
        simp only at m1 m2 m3
        clear hr
        by_cases h2 : ra = 2
        · have h4 := m2 h2
          have h5 := m1.1 h2
          clear m1 m2 m3
          first
            | (exfalso; omega)
            | (obtain ⟨_, rfl, rfl⟩ := h5
               subst h2 h4
               conv => whnf
               try (refine branch_i (fun c => ?_) (fun c => ?_) <;> try rw [c] <;> conv => whnf)
               all_goals try (refine branch_i (fun c => ?_) (fun c => ?_) <;> try rw [c] <;> conv => whnf)
               all_goals try (exfalso; simp at c; done)
               try (exfalso; simp at c; done)
               refine ⟨[0], 1, ⟨rfl, rfl, rfl⟩, Phase_spec ?_⟩
               conv => whnf
               refine ⟨[0], 1, ⟨rfl, rfl, rfl⟩, Number_spec ?_⟩
               conv => whnf
               try (refine branch_i (fun c => ?_) (fun c => ?_) <;> try rw [c] <;> conv => whnf)
               all_goals exact ⟨[0], rfl, 40 - (i + 1), by omega, i + 1, _, _, _, _, _, by (try dsimp only); omega, rfl, by rw [← hw]; rfl, rfl⟩)
        · have h4 := m3 h2
          have h5 := mt m1.2 h2
          clear m1 m2 m3
          subst h4
          have h2' : decide (ra = 2) = false := decide_eq_false h2
          conv => whnf
          try (refine branch_i (fun c => ?_) (fun c => ?_) <;> try rw [c] <;> conv => whnf)
          all_goals try (refine branch_i (fun c => ?_) (fun c => ?_) <;> try rw [c] <;> conv => whnf)
          all_goals try (refine branch_i (fun c => ?_) (fun c => ?_) <;> try rw [c] <;> conv => whnf)
          all_goals try (exfalso; simp_all; done)
          all_goals
            refine ⟨[0], 1, ⟨rfl, rfl, rfl⟩, Phase_spec ?_⟩
            conv => whnf
            refine ⟨[0], 1, ⟨rfl, rfl, rfl⟩, Number_spec ?_⟩
            conv => whnf
            try (refine branch_i (fun c => ?_) (fun c => ?_) <;> try rw [c] <;> conv => whnf)
            all_goals first
              | exact ⟨[0], rfl, 40 - (i + 1), by omega, i + 1, _, _, _, _, _, by (try dsimp only); omega, rfl, by rw [← hw]; rfl, rfl⟩
              | (exfalso; simp at *; omega)
      refine ⟨[0], 1, ⟨rfl, rfl, rfl⟩, Clear_spec ?_⟩
      conv => whnf
      refine ⟨[0], 1, ⟨rfl, rfl, rfl⟩, Phase_spec ?_⟩
      conv => whnf
      refine ⟨[0], 1, ⟨rfl, rfl, rfl⟩, Number_spec ?_⟩
      conv => whnf
      try (refine branch_i (fun c => ?_) (fun c => ?_) <;> try rw [c] <;> conv => whnf)
      all_goals first
        | exact ⟨[0], rfl, 40 - (i + 1), by omega, i + 1, _, _, _, _, _, by (try dsimp only); omega, rfl, by rw [← hw]; rfl, rfl⟩
        | (exfalso; simp at *; omega)
  · refine ⟨[], 0, ⟨rfl, rfl, rfl⟩, lives_spec ?_⟩
    conv => whnf
    exact ⟨[], rfl, rfl⟩
  · refine ⟨[], 0, ⟨rfl, rfl, rfl⟩, lives_spec ?_⟩
    conv => whnf
    exact ⟨[], rfl, rfl⟩

end Go.Proofs.YtlomkfggcmjepaaPg
