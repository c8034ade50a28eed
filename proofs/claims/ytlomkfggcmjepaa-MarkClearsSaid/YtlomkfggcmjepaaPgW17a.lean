/- Seat 17: the marker's functions. -/
import Derived.Test.YtlomkfggcmjepaaPgT17
namespace Go.Proofs.YtlomkfggcmjepaaPg
open Go Go.RowKit
set_option linter.unusedVariables false

/-- A function of this program, by its body. -/
theorem by_body {f : FuncId} {fn : Func} (hf : Try.prog.funcs[f]? = some fn) (k : Nat) {args : List V} {H : List O} {Q : V → List O → Prop} (hb : fn.body = some (fn.body.getD .skip)) (hl : args.length ≤ fn.ntmps)
    (h : abody (cx fn.ntmps k) fn (fn.body.getD .skip) args H Q) : ACall Try.prog f k args H Q :=
  acall_intro (cx_ok fn.ntmps k) hf hb rfl rfl hl h

abbrev mark (ph nu la : Int) (ta : List UInt8) (ins : Bool) : O := .cells [.int .i64 ph, .int .i64 nu, .int .i64 la, .str ta, .bool ins]

theorem New_spec {Q : V → List O → Prop} (h : Q (.ptr 0 0) [mark 0 0 (-1) [] false]) : ACall Try.prog 8 0 [] [] Q := by
  refine by_body Try.func8 0 rfl (Nat.le_of_ble_eq_true rfl) ?_
  conv => whnf
  refine ⟨[0], rfl, ?_⟩
  exact h

section
variable {ph nu la : Int} {ta : List UInt8} {ins : Bool} {Q : V → List O → Prop}

theorem Phase_spec (h : Q (.int .i64 ph) [mark ph nu la ta ins]) : ACall Try.prog 13 1 [.ptr 0 0] [mark ph nu la ta ins] Q := by
  refine by_body Try.func13 1 rfl (Nat.le_of_ble_eq_true rfl) ?_
  conv => whnf
  exact ⟨[0], rfl, h⟩

theorem Inside_spec (h : Q (.bool ins) [mark ph nu la ta ins]) : ACall Try.prog 16 1 [.ptr 0 0] [mark ph nu la ta ins] Q := by
  refine by_body Try.func16 1 rfl (Nat.le_of_ble_eq_true rfl) ?_
  conv => whnf
  exact ⟨[0], rfl, h⟩

theorem Number_spec (h : Q (.int .i64 (if ph = 0 then -1 else nu)) [mark ph nu la ta ins]) : ACall Try.prog 17 1 [.ptr 0 0] [mark ph nu la ta ins] Q := by
  refine by_body Try.func17 1 rfl (Nat.le_of_ble_eq_true rfl) ?_
  conv => whnf
  refine branch_i (fun c => ?_) (fun c => ?_)
  · conv => whnf
    rw [if_pos (of_decide_eq_true c)] at h
    exact ⟨[0], rfl, h⟩
  · conv => whnf
    rw [if_neg (of_decide_eq_false c)] at h
    exact ⟨[0], rfl, h⟩

theorem Clear_spec (h : Q (.tup []) [mark 0 nu la ta false]) : ACall Try.prog 10 1 [.ptr 0 0] [mark ph nu la ta ins] Q := by
  refine by_body Try.func10 1 rfl (Nat.le_of_ble_eq_true rfl) ?_
  conv => whnf
  exact ⟨[0], rfl, h⟩

theorem leads_spec {fr : Int} (h0 : ph = fr → Q (.int .i64 0) [mark (IntKind.i64.wrap (ph + 1)) nu la ta ins]) (h1 : ph ≠ fr → Q (.int .i64 14) [mark ph nu la ta ins]) : ACall Try.prog 23 1 [.ptr 0 0, .int .i64 fr] [mark ph nu la ta ins] Q := by
  refine by_body Try.func23 1 rfl (Nat.le_of_ble_eq_true rfl) ?_
  conv => whnf
  refine branch_i (fun c => ?_) (fun c => ?_)
  · conv => whnf
    exact ⟨[0], rfl, h1 (by simpa using c)⟩
  · conv => whnf
    exact ⟨[0], rfl, h0 (by simpa using c)⟩

theorem Select_spec (h0 : ph = 1 → Q (.int .i64 0) [mark 2 nu la ta ins]) (h1 : ph ≠ 1 → Q (.int .i64 14) [mark ph nu la ta ins]) : ACall Try.prog 14 1 [.ptr 0 0] [mark ph nu la ta ins] Q := by
  refine by_body Try.func14 1 rfl (Nat.le_of_ble_eq_true rfl) ?_
  conv => whnf
  refine ⟨[0], 1, ⟨rfl, rfl, rfl⟩, leads_spec (fun c => ?_) (fun c => ?_)⟩
  · subst c
    conv => whnf
    exact ⟨[0], rfl, h0 rfl⟩
  · conv => whnf
    exact ⟨[0], rfl, h1 c⟩

theorem High_spec (h0 : ph = 2 → Q (.int .i64 0) [mark 3 nu la ta ins]) (h1 : ph ≠ 2 → Q (.int .i64 14) [mark ph nu la ta ins]) : ACall Try.prog 15 1 [.ptr 0 0] [mark ph nu la ta ins] Q := by
  refine by_body Try.func15 1 rfl (Nat.le_of_ble_eq_true rfl) ?_
  conv => whnf
  refine ⟨[0], 1, ⟨rfl, rfl, rfl⟩, leads_spec (fun c => ?_) (fun c => ?_)⟩
  · subst c
    conv => whnf
    exact ⟨[0], rfl, h0 rfl⟩
  · conv => whnf
    exact ⟨[0], rfl, h1 c⟩

/-- What a marker answers to an event, and what it has then. -/
def meet (ph nu : Int) (ins : Bool) (kd nn : Int) : Int × Int × Bool :=
  if ph ≠ 0 ∧ nn = nu ∧ kd = 9 then (if ph = 1 then (1, ph, ins) else (0, ph, true))
  else if ph = 3 ∧ nn = nu ∧ kd = 10 then (2, 0, false)
  else (0, ph, ins)

theorem Meet_spec {kd nn : Int} {x1 x2 x3 x4 x5 x6 x7 x8 x9 x10 : V} (h : ∀ r, meet ph nu ins kd nn = r → Q (.int .i64 r.1) [mark r.2.1 nu la ta r.2.2]) :
    ACall Try.prog 12 1 [.ptr 0 0, .agg [.int .i64 kd, .int .i64 nn, x1, x2, x3, x4, x5, x6, x7, x8, x9, x10]] [mark ph nu la ta ins] Q := by
  refine by_body Try.func12 1 rfl (Nat.le_of_ble_eq_true rfl) ?_
  conv => whnf
  refine ⟨List.range 15, by kernel_rfl, by kernel_rfl, ?_⟩
  conv => whnf
  refine branch_i (fun c => ?_) (fun c => ?_) <;> try rw [c] <;> conv => whnf
  all_goals try (refine branch_i (fun c => ?_) (fun c => ?_) <;> try rw [c] <;> conv => whnf)
  all_goals try (refine branch_i (fun c => ?_) (fun c => ?_) <;> try rw [c] <;> conv => whnf)
  all_goals try (refine branch_i (fun c => ?_) (fun c => ?_) <;> try rw [c] <;> conv => whnf)
  all_goals try (refine branch_i (fun c => ?_) (fun c => ?_) <;> try rw [c] <;> conv => whnf)
  all_goals try (refine branch_i (fun c => ?_) (fun c => ?_) <;> try rw [c] <;> conv => whnf)
  all_goals try (refine ⟨[0], 1, ⟨rfl, rfl, rfl⟩, Clear_spec ?_⟩; conv => whnf)
  all_goals first
    | exact ⟨[0], rfl, h (1, ph, ins) (by simp_all [meet])⟩
    | exact ⟨[0], rfl, h (0, ph, true) (by simp_all [meet])⟩
    | exact ⟨[0], rfl, h (0, ph, ins) (by simp_all [meet])⟩
    | exact ⟨[0], rfl, h (2, 0, false) (by simp_all [meet])⟩
    | (exfalso; simp_all; done)
    | (exfalso; simp_all; omega)
end

end Go.Proofs.YtlomkfggcmjepaaPg
