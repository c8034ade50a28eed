/- Seat 17: MarkPlays, MarkClears. -/
import Derived.Test.YtlomkfggcmjepaaPgW17h
namespace Go.Proofs.YtlomkfggcmjepaaPg
open Go Go.RowKit
set_option linter.unusedVariables false

abbrev rvO (a b : Int) (c : List UInt8) (d : Int) (e : Bool) : O := .cells [.int .i64 a, .int .i64 b, .str c, .int .i64 d, .bool e]

theorem alike_new : Alike 0 0 (-1) [] false (-1) [] := ⟨by decide, by decide, by decide, fun _ => ⟨rfl, rfl, rfl⟩, fun h => absurd rfl h⟩

theorem MarkPlays_spec {es : List (List V)} (hes : ∀ x ∈ es, ∃ a b c s, x = [.int .i64 a, .int .i64 b, .int .i64 c, .str s]) : ACall Try.prog 6 0 [.sl 4 es false] [] (fun v _ => v = .bool true) := by
  refine by_body Try.func6 0 rfl (Nat.le_of_ble_eq_true rfl) ?_
  conv => whnf
  refine ⟨[], 0, ⟨rfl, rfl, rfl⟩, New_spec ?_⟩
  conv => whnf
  refine ⟨[], 0, ⟨rfl, rfl, rfl⟩, RNew_spec ?_⟩
  conv => whnf
  refine ⟨⟨[0, 3, 4, 5], fun n vs H => ∃ (i : Nat) (ph nu la : Int) (ta : List UInt8) (ins : Bool) (b : Int) (tc : List UInt8), Alike ph nu la ta ins b tc ∧ n = 40 - i ∧ vs = [.sl 4 es false, .ptr 0 0, .ptr 1 0, .int .i64 i] ∧ H = [mark ph nu la ta ins, rvO ph b tc la ins],
    ⟨40, 0, 0, 0, -1, [], false, -1, [], alike_new, rfl, rfl, rfl⟩, ?_⟩⟩
  rintro n vs H ⟨i, ph, nu, la, ta, ins, b, tc, R, rfl, rfl, rfl⟩
  conv => whnf
  refine branch_i (fun c => ?_) (fun c => ?_) <;> try rw [c] <;> conv => whnf
  focus refine branch_i (fun c2 => ?_) (fun c2 => ?_) <;> try rw [c2] <;> conv => whnf
  · have hlt : i < es.length := by simpa using c
    have hi : i < 40 := by simp at c2; omega
    have hw : IntKind.i64.wrap ((i : Int) + 1) = ((i + 1 : Nat) : Int) := by rw [wrap_i64 (by omega) (by omega)]; omega
    obtain ⟨k, dn, ev, tb, hv⟩ := hes _ (List.getElem_mem hlt)
    have hget : es[((i : Int)).toNat]? = some [.int .i64 k, .int .i64 dn, .int .i64 ev, .str tb] := by rw [Int.toNat_natCast, List.getElem?_eq_getElem hlt, hv]
    refine ⟨List.range 13, by kernel_rfl, by kernel_rfl, ?_⟩
    conv => whnf
    refine ⟨_, ⟨by omega, hget⟩, ?_⟩
    conv => whnf
    refine ⟨[0], 1, ⟨rfl, rfl, rfl⟩, does_spec R fun ph' nu' la' ta' ins' b' c' R' => ?_⟩
    conv => whnf
    repeat (refine ⟨rfl, ?_⟩; conv => whnf)
    refine ⟨[0], 1, ⟨rfl, rfl, rfl⟩, like_spec R' ?_⟩
    conv => whnf
    exact ⟨[0, 1], rfl, 40 - (i + 1), by omega, i + 1, _, _, _, _, _, _, _, R', rfl, by rw [← hw]; rfl, rfl⟩
  all_goals
    refine ⟨[], 0, ⟨rfl, rfl, rfl⟩, lives_spec ?_⟩
    conv => whnf
    exact ⟨[], rfl, rfl⟩

theorem MarkClears_spec {kd n : Int} {es : List (List V)} (hes : ∀ x ∈ es, ∃ a b c s, x = [.int .i64 a, .int .i64 b, .int .i64 c, .str s]) : ACall Try.prog 7 0 [.sl 4 es false, .int .i64 kd, .int .i64 n] [] (fun v _ => v = .bool true) := by
  refine by_body Try.func7 0 rfl (Nat.le_of_ble_eq_true rfl) ?_
  conv => whnf
  refine ⟨[], 0, ⟨rfl, rfl, rfl⟩, New_spec ?_⟩
  conv => whnf
  refine ⟨[], 0, ⟨rfl, rfl, rfl⟩, RNew_spec ?_⟩
  conv => whnf
  refine ⟨⟨[0, 1, 2, 7, 8, 9], fun m vs H => ∃ (i : Nat) (ph nu la : Int) (ta : List UInt8) (ins : Bool) (b : Int) (tc : List UInt8), Alike ph nu la ta ins b tc ∧ m = 20 - i ∧ vs = [.sl 4 es false, .int .i64 kd, .int .i64 n, .ptr 0 0, .ptr 1 0, .int .i64 i] ∧ H = [mark ph nu la ta ins, rvO ph b tc la ins],
    ⟨20, 0, 0, 0, -1, [], false, -1, [], alike_new, rfl, rfl, rfl⟩, ?_⟩⟩
  rintro m vs H ⟨i, ph, nu, la, ta, ins, b, tc, R, rfl, rfl, rfl⟩
  conv => whnf
  refine branch_i (fun c => ?_) (fun c => ?_) <;> try rw [c] <;> conv => whnf
  focus refine branch_i (fun c2 => ?_) (fun c2 => ?_) <;> try rw [c2] <;> conv => whnf
  · have hlt : i < es.length := by simpa using c
    have hi : i < 20 := by simp at c2; omega
    have hw : IntKind.i64.wrap ((i : Int) + 1) = ((i + 1 : Nat) : Int) := by rw [wrap_i64 (by omega) (by omega)]; omega
    obtain ⟨k, dn, ev, tb, hv⟩ := hes _ (List.getElem_mem hlt)
    have hget : es[((i : Int)).toNat]? = some [.int .i64 k, .int .i64 dn, .int .i64 ev, .str tb] := by rw [Int.toNat_natCast, List.getElem?_eq_getElem hlt, hv]
    refine ⟨List.range 13, by kernel_rfl, by kernel_rfl, ?_⟩
    conv => whnf
    refine ⟨_, ⟨by omega, hget⟩, ?_⟩
    conv => whnf
    refine ⟨[0], 1, ⟨rfl, rfl, rfl⟩, does_spec R fun ph' nu' la' ta' ins' b' c' R' => ?_⟩
    conv => whnf
    repeat (refine ⟨rfl, ?_⟩; conv => whnf)
    exact ⟨[0, 1], rfl, 20 - (i + 1), by omega, i + 1, _, _, _, _, _, _, _, R', rfl, by rw [← hw]; rfl, rfl⟩
  all_goals
    refine ⟨[0], 1, ⟨rfl, rfl, rfl⟩, Clear_spec ?_⟩
    conv => whnf
    refine ⟨[0], 1, ⟨rfl, rfl, rfl⟩, Meet_spec fun r hr => ?_⟩
    obtain rfl : r = (0, 0, false) := by rw [← hr]; exact meet_zero
    conv => whnf
    refine ⟨[0], 1, ⟨rfl, rfl, rfl⟩, Phase_spec ?_⟩
    conv => whnf
    refine ⟨[0], 1, ⟨rfl, rfl, rfl⟩, Number_spec ?_⟩
    conv => whnf
    refine ⟨[0], 1, ⟨rfl, rfl, rfl⟩, Table_spec ?_⟩
    conv => whnf
    refine ⟨[0], 1, ⟨rfl, rfl, rfl⟩, Inside_spec ?_⟩
    conv => whnf
    refine ⟨[], 0, ⟨rfl, rfl, rfl⟩, lives_spec ?_⟩
    conv => whnf
    exact ⟨[], rfl, rfl⟩

end Go.Proofs.YtlomkfggcmjepaaPg
