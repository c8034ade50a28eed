/- Seat 17: the document's marker. -/
import Derived.Test.YtlomkfggcmjepaaPgW17c
namespace Go.Proofs.YtlomkfggcmjepaaPg
open Go Go.RowKit
set_option linter.unusedVariables false

section
variable {Q : V → List O → Prop}

theorem nameOk_of {s : List UInt8} (h1 : s.all okByte = true) (h2 : s.length ≤ 32) {b : UInt8} {l : List UInt8} (hs : s = b :: l) (h3 : okHead b = true) : nameOk s = true := by
  subst hs
  unfold nameOk
  rw [h1, decide_eq_true h2]
  exact h3

theorem byte_facts : ∀ n : Nat, n < 256 → okByte n.toUInt8 = (decide (97 ≤ n ∧ n ≤ 122) || (decide (48 ≤ n ∧ n ≤ 57) || decide (n = 95))) ∧ okHead n.toUInt8 = decide (97 ≤ n ∧ n ≤ 122) := by decide +kernel

theorem okByte_iff (b : UInt8) : okByte b = true ↔ (97 ≤ b.toNat ∧ b.toNat ≤ 122) ∨ (48 ≤ b.toNat ∧ b.toNat ≤ 57) ∨ b.toNat = 95 := by
  have := (byte_facts b.toNat b.toNat_lt).1
  rw [show b.toNat.toUInt8 = b by simp] at this
  rw [this]; simp

theorem okHead_iff (b : UInt8) : okHead b = true ↔ 97 ≤ b.toNat ∧ b.toNat ≤ 122 := by
  have := (byte_facts b.toNat b.toNat_lt).2
  rw [show b.toNat.toUInt8 = b by simp] at this
  rw [this]; simp

theorem RName_spec {s : List UInt8} (h : Q (.bool (nameOk s)) []) : ACall Try.prog 30 0 [.str s] [] Q := by
  refine by_body Try.func30 0 rfl (Nat.le_of_ble_eq_true rfl) ?_
  conv => whnf
  refine branch_i (fun c => ?_) (fun c => ?_) <;> try rw [c] <;> conv => whnf
  · have e : s = [] := List.eq_nil_of_length_eq_zero (by simp at c; omega)
    subst e
    exact ⟨[], rfl, h⟩
  refine branch_i (fun c => ?_) (fun c => ?_) <;> try rw [c] <;> conv => whnf
  · have e : nameOk s = false := by
      unfold nameOk
      rw [decide_eq_false (show ¬ s.length ≤ 32 by simp at c; omega)]
      simp
    rw [e] at h
    exact ⟨[], rfl, h⟩
  rename_i c1
  have hlen : s.length ≤ 32 := by simp at c; omega
  cases hs : s with
  | nil => subst hs; simp at c1
  | cons b l =>
    rw [← hs]
    have hb : s[(0 : Int).toNat]? = some b := by rw [hs]; rfl
    have hmem : b ∈ s := by rw [hs]; simp
    have hd : okHead b = false → nameOk s = false := fun hx => by
      rw [hs]; unfold nameOk; simp only [hx]; simp
    clear c1 c
    refine ⟨b, ⟨by decide, hb⟩, ?_⟩
    conv => whnf
    refine branch_i (fun c => ?_) (fun c => ?_) <;> try rw [c] <;> conv => whnf
    · rw [hd (by rw [← Bool.not_eq_true, okHead_iff]; simp at c; omega)] at h
      exact ⟨[], rfl, h⟩
    refine ⟨b, ⟨by decide, hb⟩, ?_⟩
    conv => whnf
    refine branch_i (fun c => ?_) (fun c => ?_) <;> try rw [c] <;> conv => whnf
    · rw [hd (by rw [← Bool.not_eq_true, okHead_iff]; simp at c; omega)] at h
      exact ⟨[], rfl, h⟩
    rename_i c0
    have hhead : okHead b = true := by rw [okHead_iff]; simp at c0 c; omega
    clear c c0 hd
    refine ⟨⟨[0, 3], fun n vs H => ∃ i : Nat, i ≤ s.length ∧ n = s.length - i ∧ vs = [.str s, .int .i64 i] ∧ H = [] ∧ (s.take i).all okByte = true, ⟨s.length - 0, 0, by omega, rfl, rfl, rfl, rfl⟩, ?_⟩⟩
    rintro n vs H ⟨i, hi, rfl, rfl, rfl, hall⟩
    conv => whnf
    refine branch_i (fun c => ?_) (fun c => ?_) <;> try rw [c] <;> conv => whnf
    · have hlt : i < s.length := by simpa using c
      have hw : IntKind.i64.wrap ((i : Int) + 1) = ((i + 1 : Nat) : Int) := by rw [wrap_i64 (by omega) (by omega)]; omega
      obtain ⟨x, hx⟩ : ∃ x, s[i]? = some x := ⟨_, List.getElem?_eq_getElem hlt⟩
      have hxm : x ∈ s := List.mem_of_getElem? hx
      refine ⟨x, ⟨by omega, by rw [Int.toNat_natCast]; exact hx⟩, ?_⟩
      conv => whnf
      refine branch_i (fun c => ?_) (fun c => ?_) <;> try rw [c] <;> conv => whnf
      all_goals try (refine branch_i (fun c => ?_) (fun c => ?_) <;> try rw [c] <;> conv => whnf)
      all_goals try (refine branch_i (fun c => ?_) (fun c => ?_) <;> try rw [c] <;> conv => whnf)
      all_goals try (refine branch_i (fun c => ?_) (fun c => ?_) <;> try rw [c] <;> conv => whnf)
      all_goals try (refine branch_i (fun c => ?_) (fun c => ?_) <;> try rw [c] <;> conv => whnf)
      all_goals first
        | exact ⟨[], rfl, by
            rw [nameOk_false hxm (by rw [← Bool.not_eq_true, okByte_iff]; simp at *; omega)] at h
            exact h⟩
        | (have hok : okByte x = true := by rw [okByte_iff]; simp at *; omega
           refine ⟨[], rfl, s.length - (i + 1), by omega, i + 1, by omega, rfl, by rw [← hw]; rfl, rfl, ?_⟩
           rw [List.take_add_one, List.all_append, hall, hx]
           simp [hok])
    · have hle : s.length ≤ i := by simp at c; omega
      rw [List.take_of_length_le hle] at hall
      rw [nameOk_of hall hlen hs hhead] at h
      exact ⟨[], rfl, h⟩

/-! ### the document's marker, by definition -/
abbrev rv (a b : Int) (c : List UInt8) (d : Int) (e : Bool) : V := .agg [.int .i64 a, .int .i64 b, .str c, .int .i64 d, .bool e]

variable {a b d : Int} {c : List UInt8} {e : Bool}

theorem RNew_spec (h : Q (rv 0 (-1) [] (-1) false) []) : ACall Try.prog 18 0 [] [] Q := by
  refine by_body Try.func18 0 rfl (Nat.le_of_ble_eq_true rfl) ?_
  conv => whnf
  exact ⟨[], rfl, h⟩

theorem RClear_spec (h : Q (rv 0 (-1) [] d false) []) : ACall Try.prog 27 0 [rv a b c d e] [] Q := by
  refine by_body Try.func27 0 rfl (Nat.le_of_ble_eq_true rfl) ?_
  conv => whnf
  exact ⟨[], rfl, h⟩

theorem ROn_spec {fr : Int} (h0 : a = fr → Q (.tup [rv (IntKind.i64.wrap (fr + 1)) b c d e, .int .i64 0]) []) (h1 : a ≠ fr → Q (.tup [rv a b c d e, .int .i64 14]) []) : ACall Try.prog 25 0 [rv a b c d e, .int .i64 fr] [] Q := by
  refine by_body Try.func25 0 rfl (Nat.le_of_ble_eq_true rfl) ?_
  conv => whnf
  refine branch_i (fun c => ?_) (fun c => ?_) <;> try rw [c] <;> conv => whnf
  · exact ⟨[], rfl, h1 (by simpa using c)⟩
  · exact ⟨[], rfl, h0 (by simpa using c)⟩

theorem RLow_spec {n : Int} {tb : List UInt8} (h0 : a = 0 → nameOk tb = true ∧ 0 ≤ n ∧ d < n → Q (.tup [rv 1 n tb n false, .int .i64 0]) []) (h1 : a = 0 → ¬ (nameOk tb = true ∧ 0 ≤ n ∧ d < n) → Q (.tup [rv a b c d e, .int .i64 1]) [])
    (h2 : a ≠ 0 → Q (.tup [rv a b c d e, .int .i64 14]) []) : ACall Try.prog 24 0 [rv a b c d e, .int .i64 n, .str tb] [] Q := by
  refine by_body Try.func24 0 rfl (Nat.le_of_ble_eq_true rfl) ?_
  conv => whnf
  refine ⟨[], 0, ⟨rfl, rfl, rfl⟩, RName_spec ?_⟩
  cases hn : nameOk tb
  all_goals conv => whnf
  all_goals (refine branch_i (fun c => ?_) (fun c => ?_) <;> try rw [c] <;> conv => whnf)
  all_goals try (refine branch_i (fun c => ?_) (fun c => ?_) <;> try rw [c] <;> conv => whnf)
  all_goals try (refine branch_i (fun c => ?_) (fun c => ?_) <;> try rw [c] <;> conv => whnf)
  all_goals first
    | exact ⟨[], rfl, h2 (by simp_all)⟩
    | exact ⟨[], rfl, h1 (by simp_all) (by simp_all; try omega)⟩
    | exact ⟨[], rfl, h0 (by simp_all) (by simp_all)⟩

theorem RMeet_spec {kd nn : Int} {x1 x2 x3 x4 x5 x6 x7 x8 x9 x10 : V} (h : ∀ r, meet a b e kd nn = r → Q (.tup [if r.1 = 2 then rv 0 (-1) [] d false else rv r.2.1 b c d r.2.2, .int .i64 r.1]) []) :
    ACall Try.prog 26 0 [rv a b c d e, .agg [.int .i64 kd, .int .i64 nn, x1, x2, x3, x4, x5, x6, x7, x8, x9, x10]] [] Q := by
  refine by_body Try.func26 0 rfl (Nat.le_of_ble_eq_true rfl) ?_
  conv => whnf
  refine branch_i (fun c => ?_) (fun c => ?_) <;> try rw [c] <;> conv => whnf
  all_goals try (refine branch_i (fun c => ?_) (fun c => ?_) <;> try rw [c] <;> conv => whnf)
  all_goals try (refine branch_i (fun c => ?_) (fun c => ?_) <;> try rw [c] <;> conv => whnf)
  all_goals try (refine branch_i (fun c => ?_) (fun c => ?_) <;> try rw [c] <;> conv => whnf)
  all_goals try (refine branch_i (fun c => ?_) (fun c => ?_) <;> try rw [c] <;> conv => whnf)
  all_goals try (refine branch_i (fun c => ?_) (fun c => ?_) <;> try rw [c] <;> conv => whnf)
  all_goals try (refine ⟨[], 0, ⟨rfl, rfl, rfl⟩, RClear_spec ?_⟩; conv => whnf)
  all_goals first
    | exact ⟨[], rfl, h (1, a, e) (by simp_all [meet])⟩
    | exact ⟨[], rfl, h (0, a, true) (by simp_all [meet])⟩
    | exact ⟨[], rfl, h (0, a, e) (by simp_all [meet])⟩
    | exact ⟨[], rfl, h (2, 0, false) (by simp_all [meet])⟩
    | (exfalso; simp_all; done)
    | (exfalso; simp_all; omega)

end
end Go.Proofs.YtlomkfggcmjepaaPg
