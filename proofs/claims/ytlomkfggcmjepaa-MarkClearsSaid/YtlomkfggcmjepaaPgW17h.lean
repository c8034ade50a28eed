/- Seat 17: a deed, of both; MarkPlays, MarkClears. -/
import Derived.Test.YtlomkfggcmjepaaPgW17d
import Derived.Test.YtlomkfggcmjepaaPgW17f
namespace Go.Proofs.YtlomkfggcmjepaaPg
open Go Go.RowKit
set_option linter.unusedVariables false

/-- A marker, and the document's. -/
def Alike (ph nu la : Int) (ta : List UInt8) (ins : Bool) (b : Int) (tc : List UInt8) : Prop :=
  0 ≤ ph ∧ ph ≤ 3 ∧ -1 ≤ la ∧ (ph = 0 → b = -1 ∧ tc = [] ∧ ins = false) ∧ (ph ≠ 0 → b = nu ∧ tc = ta ∧ 0 ≤ nu)

section
variable {ph nu la b : Int} {ta tc : List UInt8} {ins : Bool} {Q : V → List O → Prop}

theorem Table_spec (h : Q (.str (if ph = 0 then [] else ta)) [mark ph nu la ta ins]) : ACall Try.prog 21 1 [.ptr 0 0] [mark ph nu la ta ins] Q := by
  refine by_body Try.func21 1 rfl (Nat.le_of_ble_eq_true rfl) ?_
  conv => whnf
  refine branch_i (fun c => ?_) (fun c => ?_)
  · conv => whnf
    rw [if_pos (of_decide_eq_true c)] at h
    exact ⟨[0], rfl, h⟩
  · conv => whnf
    rw [if_neg (of_decide_eq_false c)] at h
    exact ⟨[0], rfl, h⟩

theorem like_spec (R : Alike ph nu la ta ins b tc) (h : Q (.bool true) [mark ph nu la ta ins]) : ACall Try.prog 20 1 [.ptr 0 0, rv ph b tc la ins] [mark ph nu la ta ins] Q := by
  refine by_body Try.func20 1 rfl (Nat.le_of_ble_eq_true rfl) ?_
  conv => whnf
  refine ⟨[0, 2, 3, 1, 4, 5, 6, 8, 9, 7, 10, 11, 12, 13, 15, 16, 14, 17, 18, 19, 20, 22, 23, 21, 24, 25, 26], by kernel_rfl, by kernel_rfl, ?_⟩
  conv => whnf
  refine ⟨[0], 1, ⟨rfl, rfl, rfl⟩, Phase_spec ?_⟩
  conv => whnf
  refine ⟨rfl, ?_⟩
  conv => whnf
  refine branch_i (fun c => ?_) (fun c => ?_) <;> try rw [c] <;> conv => whnf
  rotate_left
  · simp at c
  obtain ⟨r0, r1, r2, r3, r4⟩ := R
  have hb : (if ph = 0 then -1 else nu) = b := by
    split
    · rename_i h0; exact (r3 h0).1.symm
    · rename_i h0; exact (r4 h0).1.symm
  have ht : (if ph = 0 then [] else ta) = tc := by
    split
    · rename_i h0; exact (r3 h0).2.1.symm
    · rename_i h0; exact (r4 h0).2.1.symm
  refine ⟨[0], 1, ⟨rfl, rfl, rfl⟩, Number_spec ?_⟩
  conv => whnf
  refine ⟨rfl, ?_⟩
  conv => whnf
  refine branch_i (fun c => ?_) (fun c => ?_) <;> try rw [c] <;> conv => whnf
  rotate_left
  · simp [hb] at c
  refine ⟨[0], 1, ⟨rfl, rfl, rfl⟩, Table_spec ?_⟩
  conv => whnf
  refine ⟨rfl, ?_⟩
  conv => whnf
  refine branch_i (fun c => ?_) (fun c => ?_) <;> try rw [c] <;> conv => whnf
  rotate_left
  · simp [ht] at c
  refine ⟨[0], 1, ⟨rfl, rfl, rfl⟩, Inside_spec ?_⟩
  conv => whnf
  refine ⟨rfl, ?_⟩
  conv => whnf
  cases ins
  · conv => whnf
    exact ⟨[0], rfl, h⟩
  · conv => whnf
    exact ⟨[0], rfl, h⟩

theorem meet_zero {b : Int} {ins : Bool} {kd nn : Int} : meet 0 b ins kd nn = (0, 0, ins) := meet_other (.inl rfl)

theorem meet_three (ph nu : Int) (ins : Bool) (kd nn : Int) : (meet ph nu ins kd nn).1 = 0 ∨ (meet ph nu ins kd nn).1 = 1 ∨ (meet ph nu ins kd nn).1 = 2 := by
  unfold meet
  split
  · split <;> simp
  · split <;> simp

theorem Alike.meets (R : Alike ph nu la ta ins b tc) {kd nn : Int} {r : Int × Int × Bool} (h : meet ph nu ins kd nn = r) :
    Alike r.2.1 nu la ta r.2.2 (if r.1 = 2 then -1 else b) (if r.1 = 2 then [] else tc) ∧ meet ph b ins kd nn = r ∧ (r.1 = 2 → r.2.1 = 0 ∧ r.2.2 = false) := by
  obtain ⟨r0, r1, r2, r3, r4⟩ := R
  have e : meet ph b ins kd nn = r := by
    by_cases h0 : ph = 0
    · subst h0; rw [← h, meet_zero, meet_zero]
    · rw [(r4 h0).1]; exact h
  subst h
  refine ⟨?_, e, ?_⟩
  · clear e
    unfold meet Alike
    split
    · rename_i h0
      split
      · exact ⟨r0, r1, r2, r3, r4⟩
      · exact ⟨r0, r1, r2, fun hx => absurd hx h0.1, r4⟩
    · split
      · exact ⟨by simp, by simp, r2, fun _ => ⟨rfl, rfl, rfl⟩, fun hx => absurd rfl hx⟩
      · exact ⟨r0, r1, r2, r3, r4⟩
  · unfold meet
    split
    · split <;> simp
    · split <;> simp

theorem does_spec (R : Alike ph nu la ta ins b tc) {k dn ev : Int} {tb : List UInt8} (h : ∀ ph' nu' la' ta' ins' b' c', Alike ph' nu' la' ta' ins' b' c' → Q (.tup [rv ph' b' c' la' ins', .bool true]) [mark ph' nu' la' ta' ins']) :
    ACall Try.prog 19 1 [.ptr 0 0, rv ph b tc la ins, .agg [.int .i64 k, .int .i64 dn, .int .i64 ev, .str tb]] [mark ph nu la ta ins] Q := by
  refine by_body Try.func19 1 rfl (Nat.le_of_ble_eq_true rfl) ?_
  conv => whnf
  refine branch_i (fun c => ?_) (fun c => ?_) <;> try rw [c] <;> conv => whnf
  focus
    refine ⟨by simp at c; omega, ?_⟩
    conv => whnf
  all_goals
    clear c
    refine branch_i (fun c => ?_) (fun c => ?_) <;> try rw [c] <;> conv => whnf
    focus
      clear c
      refine ⟨[], 0, ⟨rfl, rfl, rfl⟩, RLow_spec (fun h0 h1 => ?_) (fun h0 h1 => ?_) (fun h0 => ?_)⟩
      all_goals conv => whnf
      all_goals refine ⟨[0, 1, 2, 3, 4, 6, 5, 7, 8, 9], by kernel_rfl, by kernel_rfl, ?_⟩
      all_goals conv => whnf
      · obtain rfl : ins = false := (R.2.2.2.1 h0).2.2
        refine ⟨[0], 1, ⟨rfl, rfl, rfl⟩, Low_spec (fun g0 g1 g2 => ?_) (fun g0 g1 => absurd ⟨h1.1, h1.2.2⟩ g1) (fun g0 => absurd h0 g0)⟩
        conv => whnf
        refine ⟨rfl, ?_⟩
        conv => whnf
        exact ⟨[0], rfl, h _ _ _ _ _ _ _ ⟨by omega, by omega, by omega, fun hx => absurd hx (by omega), fun _ => ⟨rfl, rfl, by omega⟩⟩⟩
      · refine ⟨[0], 1, ⟨rfl, rfl, rfl⟩, Low_spec (fun g0 g1 g2 => absurd ⟨g1, by have := R.2.2.1; omega, g2⟩ h1) (fun g0 g1 => ?_) (fun g0 => absurd h0 g0)⟩
        conv => whnf
        refine ⟨rfl, ?_⟩
        conv => whnf
        exact ⟨[0], rfl, h _ _ _ _ _ _ _ R⟩
      · refine ⟨[0], 1, ⟨rfl, rfl, rfl⟩, Low_spec (fun g0 g1 g2 => absurd g0 h0) (fun g0 g1 => absurd g0 h0) (fun g0 => ?_)⟩
        conv => whnf
        refine ⟨rfl, ?_⟩
        conv => whnf
        exact ⟨[0], rfl, h _ _ _ _ _ _ _ R⟩
    refine branch_i (fun c => ?_) (fun c => ?_) <;> try rw [c] <;> conv => whnf
    focus
      clear c
      refine ⟨[], 0, ⟨rfl, rfl, rfl⟩, ROn_spec (fun h0 => ?_) (fun h0 => ?_)⟩
      all_goals conv => whnf
      all_goals refine ⟨[0, 1, 3, 2, 4, 5, 6], by kernel_rfl, by kernel_rfl, ?_⟩
      all_goals conv => whnf
      · refine ⟨[0], 1, ⟨rfl, rfl, rfl⟩, Select_spec (fun g0 => ?_) (fun g0 => absurd h0 g0)⟩
        conv => whnf
        refine ⟨rfl, ?_⟩
        conv => whnf
        exact ⟨[0], rfl, h _ _ _ _ _ _ _ ⟨by decide, by decide, R.2.2.1, fun hx => absurd hx (by decide), fun _ => R.2.2.2.2 (by omega)⟩⟩
      · refine ⟨[0], 1, ⟨rfl, rfl, rfl⟩, Select_spec (fun g0 => absurd g0 h0) (fun g0 => ?_)⟩
        conv => whnf
        refine ⟨rfl, ?_⟩
        conv => whnf
        exact ⟨[0], rfl, h _ _ _ _ _ _ _ R⟩
    refine branch_i (fun c => ?_) (fun c => ?_) <;> try rw [c] <;> conv => whnf
    focus
      clear c
      refine ⟨[], 0, ⟨rfl, rfl, rfl⟩, ROn_spec (fun h0 => ?_) (fun h0 => ?_)⟩
      all_goals conv => whnf
      all_goals refine ⟨[0, 1, 3, 2, 4, 5, 6], by kernel_rfl, by kernel_rfl, ?_⟩
      all_goals conv => whnf
      · refine ⟨[0], 1, ⟨rfl, rfl, rfl⟩, High_spec (fun g0 => ?_) (fun g0 => absurd h0 g0)⟩
        conv => whnf
        refine ⟨rfl, ?_⟩
        conv => whnf
        exact ⟨[0], rfl, h _ _ _ _ _ _ _ ⟨by decide, by decide, R.2.2.1, fun hx => absurd hx (by decide), fun _ => R.2.2.2.2 (by omega)⟩⟩
      · refine ⟨[0], 1, ⟨rfl, rfl, rfl⟩, High_spec (fun g0 => absurd g0 h0) (fun g0 => ?_)⟩
        conv => whnf
        refine ⟨rfl, ?_⟩
        conv => whnf
        exact ⟨[0], rfl, h _ _ _ _ _ _ _ R⟩
    refine branch_i (fun c => ?_) (fun c => ?_) <;> try rw [c] <;> conv => whnf
    focus
      clear c
      refine ⟨[], 0, ⟨rfl, rfl, rfl⟩, RMeet_spec fun r hr => ?_⟩
      obtain ⟨A, e, z⟩ := R.meets (kd := ev) (nn := dn) rfl
      rw [e] at hr
      rw [hr] at A z
      clear e
      have h3 := meet_three ph nu ins ev dn
      rw [hr] at h3
      obtain ⟨ra, rb, rc⟩ := r
      simp only at h3 A z ⊢
      rcases h3 with rfl | rfl | rfl
      all_goals first
        | rw [if_pos rfl]
        | rw [if_neg (by decide)]
      all_goals first
        | rw [if_pos rfl, if_pos rfl] at A
        | rw [if_neg (by decide), if_neg (by decide)] at A
      all_goals try (obtain ⟨rfl, rfl⟩ := z rfl)
      all_goals conv => whnf
      all_goals refine ⟨[0, 1, 2, 4, 3, 5, 6, 7], by kernel_rfl, by kernel_rfl, ?_⟩
      all_goals conv => whnf
      all_goals refine ⟨[0], 1, ⟨rfl, rfl, rfl⟩, Meet_spec fun r2 hr2 => ?_⟩
      all_goals obtain rfl := hr.symm.trans hr2
      all_goals conv => whnf
      all_goals refine ⟨rfl, ?_⟩
      all_goals conv => whnf
      all_goals exact ⟨[0], rfl, h _ _ _ _ _ _ _ A⟩
    refine ⟨[0], 1, ⟨rfl, rfl, rfl⟩, Clear_spec ?_⟩
    conv => whnf
    refine ⟨[], 0, ⟨rfl, rfl, rfl⟩, RClear_spec ?_⟩
    conv => whnf
    exact ⟨[0], rfl, h _ _ _ _ _ _ _ ⟨by decide, by decide, R.2.2.1, fun _ => ⟨rfl, rfl, rfl⟩, fun hx => absurd rfl hx⟩⟩

end
end Go.Proofs.YtlomkfggcmjepaaPg
