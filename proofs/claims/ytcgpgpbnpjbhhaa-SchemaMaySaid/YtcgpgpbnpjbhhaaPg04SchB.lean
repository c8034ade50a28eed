/- Schemas: which may be. -/
import Derived.Test.YtcgpgpbnpjbhhaaPg04Sch
namespace Go.Proofs.YtcgpgpbnpjbhhaaPg
open Go Go.RowKit
set_option linter.unusedVariables false

variable {Q : V → List O → Prop}

def kindOk (k : Int) : Bool := decide (1 ≤ k) && decide (k ≤ 4)

theorem kind_spec {k : Int} (h : Q (.bool (kindOk k)) []) : ACall Try.prog 31 0 [fI k] [] Q := by
  refine by_body Try.func31 0 rfl (Nat.le_of_ble_eq_true rfl) ?_
  conv => whnf
  unfold kindOk at h
  refine branch_i (fun c => ?_) (fun c => ?_) <;> rw [c] at h <;> try rw [c] <;> conv => whnf
  · exact ⟨[], rfl, h⟩
  · exact ⟨[], rfl, h⟩

theorem Rkind_spec {k : Int} (h : Q (.bool (kindOk k)) []) : ACall Try.prog 28 0 [fI k] [] Q := by
  refine by_body Try.func28 0 rfl (Nat.le_of_ble_eq_true rfl) ?_
  conv => whnf
  unfold kindOk at h
  refine branch_i (fun c => ?_) (fun c => ?_) <;> rw [c] at h <;> try rw [c] <;> conv => whnf
  · exact ⟨[], rfl, h⟩
  · exact ⟨[], rfl, h⟩

/-- the document's words for a byte of a name -/
def okB (n : Int) : Bool := !(((decide (n < 97) || decide (122 < n)) && (decide (n < 48) || decide (57 < n))) && !decide (n = 95))
def okH (n : Int) : Bool := !(decide (n < 97) || decide (122 < n))

theorem okB_eq : ∀ n : Fin 256, okB (n.val : Int) = okByte (UInt8.ofNat n.val) := by decide +kernel
theorem okH_eq : ∀ n : Fin 256, okH (n.val : Int) = okHead (UInt8.ofNat n.val) := by decide +kernel

theorem okB_byte (b : UInt8) : okB (b.toNat : Int) = okByte b := by
  have := okB_eq ⟨b.toNat, b.toNat_lt⟩
  simpa using this
theorem okH_byte (b : UInt8) : okH (b.toNat : Int) = okHead b := by
  have := okH_eq ⟨b.toNat, b.toNat_lt⟩
  simpa using this

theorem RName_spec {s : List UInt8} (h : Q (.bool (nameOk s)) []) : ACall Try.prog 15 0 [.str s] [] Q := by
  refine by_body Try.func15 0 rfl (Nat.le_of_ble_eq_true rfl) ?_
  conv => whnf
  cases s with
  | nil => exact ⟨[], rfl, h⟩
  | cons b r =>
    rw [show decide (((b :: r).length : Int) < 1) = false by simp; omega]
    conv => whnf
    refine branch_i (fun c1 => ?_) (fun c1 => ?_) <;> try rw [c1] <;> conv => whnf
    focus
      have e : nameOk (b :: r) = false := by unfold nameOk; rw [show decide ((b :: r).length ≤ 32) = false by simp at c1; simp; omega]; simp
      rw [e] at h
      exact ⟨[], rfl, h⟩
    have hl : decide ((b :: r).length ≤ 32) = true := by simp at c1; simp; omega
    have hho := okH_byte b
    unfold okH at hho
    refine ⟨b, ⟨by decide, rfl⟩, ?_⟩
    conv => whnf
    refine branch_i (fun c2 => ?_) (fun c2 => ?_) <;> try rw [c2] <;> conv => whnf
    focus
      rw [c2] at hho
      have e : nameOk (b :: r) = false := by unfold nameOk; simp [← hho]
      rw [e] at h
      exact ⟨[], rfl, h⟩
    refine ⟨b, ⟨by decide, rfl⟩, ?_⟩
    conv => whnf
    refine branch_i (fun c3 => ?_) (fun c3 => ?_) <;> try rw [c3] <;> conv => whnf
    focus
      rw [c2, c3] at hho
      have e : nameOk (b :: r) = false := by unfold nameOk; simp [← hho]
      rw [e] at h
      exact ⟨[], rfl, h⟩
    rw [c2, c3] at hho
    have e : nameOk (b :: r) = (b :: r).all okByte := by unfold nameOk; rw [hl]; simp [← hho]
    rw [e] at h
    have hlen := of_decide_eq_true hl
    clear e hl c1 c2 c3 hho
    generalize b :: r = s at *
    refine ⟨⟨[0, 3], fun m vs H => ∃ i : Nat, vs = [.str s, fI i] ∧ H = [] ∧ (∀ c ∈ s.take i, okByte c = true) ∧ i ≤ s.length ∧ m = s.length - i, .at _ ⟨0, rfl, rfl, by simp, Nat.zero_le _, rfl⟩, ?_⟩⟩
    rintro m vs H ⟨i, rfl, rfl, hn, hi, rfl⟩
    conv => whnf
    refine branch_i (fun c => ?_) (fun c => ?_) <;> try rw [c] <;> conv => whnf
    · have c' := of_decide_eq_true c
      have hlt : i < s.length := by omega
      have hget : s[i]? = some s[i] := List.getElem?_eq_getElem hlt
      refine ⟨s[i], ⟨by omega, hget⟩, ?_⟩
      have hob := okB_byte s[i]
      have hmem : s[i] ∈ s := List.getElem_mem hlt
      generalize s[i] = b at *
      conv => whnf
      refine branch_i (fun c => ?_) (fun c => ?_) <;> try rw [c] <;> conv => whnf
      all_goals try (refine branch_i (fun c => ?_) (fun c => ?_) <;> try rw [c] <;> conv => whnf)
      all_goals try (refine branch_i (fun c => ?_) (fun c => ?_) <;> try rw [c] <;> conv => whnf)
      all_goals try (refine branch_i (fun c => ?_) (fun c => ?_) <;> try rw [c] <;> conv => whnf)
      all_goals try (refine branch_i (fun c => ?_) (fun c => ?_) <;> try rw [c] <;> conv => whnf)
      all_goals simp only [decide_eq_true_eq, decide_eq_false_iff_not, Bool.not_eq_true', Bool.not_eq_false'] at *
      all_goals first
        | (have hb : okByte b = true := by rw [← hob]; simp [okB]; omega
           refine .go [] rfl (s.length - (i + 1)) (by omega) ⟨i + 1, ?_, rfl, take_snoc hn hget hb, by omega, rfl⟩
           show [V.str s, V.int .i64 (IntKind.i64.wrap ((i : Int) + 1))] = _
           rw [show IntKind.i64.wrap ((i : Int) + 1) = ((i + 1 : Nat) : Int) by rw [IntKind.wrap_i64]; omega])
        | (have hb : okByte b = false := by rw [← hob]; simp [okB]; omega
           have e : s.all okByte = false := by
             cases hx : s.all okByte with
             | false => rfl
             | true => rw [List.all_eq_true.1 hx b hmem] at hb; cases hb
           rw [e] at h
           exact ⟨[], rfl, h⟩)
    · have c' := of_decide_eq_false c
      rw [List.take_of_length_le (by omega)] at hn
      rw [show s.all okByte = true by simpa using hn] at h
      exact ⟨[], rfl, h⟩

end Go.Proofs.YtcgpgpbnpjbhhaaPg
