/- Schemas: which may be. -/
import Derived.Test.YtcgpgpbnpjbhhaaPg04SchB
namespace Go.Proofs.YtcgpgpbnpjbhhaaPg
open Go Go.RowKit
set_option linter.unusedVariables false

variable {Q : V → List O → Prop}

def mayC (l : List Col) (keys : Int) (i : Nat) (c : Col) : Bool := nameOk c.n && (kindOk c.k && (decide (fnd c.n l 0 = (i : Int)) && !(decide ((i : Int) < keys) && c.o)))
def mayH (l : List Col) (keys : Int) : Bool := decide (1 ≤ keys) && (decide (keys ≤ 4) && (decide (keys ≤ (l.length : Int)) && decide (l.length ≤ 16)))
def mayS (l : List Col) (keys : Int) : Bool := mayH l keys && (List.range l.length).all fun i => match l[i]? with
  | some c => mayC l keys i c
  | none => true

theorem mayS_head {l : List Col} {keys : Int} (h : mayH l keys = false) : mayS l keys = false := by unfold mayS; rw [h]; rfl
theorem mayS_no {l : List Col} {keys : Int} {i : Nat} {c : Col} (hc : l[i]? = some c) (h : mayC l keys i c = false) : mayS l keys = false := by
  unfold mayS
  have : ((List.range l.length).all fun i => match l[i]? with | some c => mayC l keys i c | none => true) = false := by
    rw [List.all_eq_false]
    refine ⟨i, by rw [List.mem_range]; exact (List.getElem?_eq_some_iff.1 hc).1, ?_⟩
    rw [hc]; simp [h]
  rw [this, Bool.and_false]
theorem mayS_yes {l : List Col} {keys : Int} (h0 : mayH l keys = true) (h : ∀ i c, l[i]? = some c → mayC l keys i c = true) : mayS l keys = true := by
  unfold mayS
  rw [h0, Bool.true_and, List.all_eq_true]
  intro i hi
  cases hc : l[i]? with
  | none => rfl
  | some c => exact h i c hc

theorem all_snoc {l : List Col} {P : Nat → Col → Prop} {i : Nat} {c : Col} (h : ∀ j c, j < i → l[j]? = some c → P j c) (hc : l[i]? = some c) (hp : P i c) : ∀ j c, j < i + 1 → l[j]? = some c → P j c := by
  intro j d hj hd
  by_cases e : j = i
  · subst e; rw [hc] at hd; cases hd; exact hp
  · exact h j d (by omega) hd

theorem May_spec {l : List Col} {keys : Int} (hl : l.length < 1000000) (h : Q (.bool (mayS l keys)) []) : ACall Try.prog 16 0 [sch l keys] [] Q := by
  refine by_body Try.func16 0 rfl (Nat.le_of_ble_eq_true rfl) ?_
  conv => whnf
  have hlk := cols_len l
  refine branch_i (fun c1 => ?_) (fun c1 => ?_) <;> try rw [c1] <;> conv => whnf
  focus
    rw [mayS_head (by unfold mayH; simp at c1 ⊢; omega)] at h
    exact ⟨[], rfl, h⟩
  refine branch_i (fun c2 => ?_) (fun c2 => ?_) <;> try rw [c2] <;> conv => whnf
  focus
    rw [mayS_head (by unfold mayH; simp at c2 ⊢; omega)] at h
    exact ⟨[], rfl, h⟩
  refine branch_i (fun c3 => ?_) (fun c3 => ?_) <;> try rw [c3] <;> conv => whnf
  focus
    have c3' := of_decide_eq_true c3
    simp only at c3'
    rw [mayS_head (by unfold mayH; simp at c1 c2 ⊢; split at c3' <;> omega)] at h
    exact ⟨[], rfl, h⟩
  have c3' := of_decide_eq_false c3
  simp only at c3'
  have hh : mayH l keys = true := by unfold mayH; simp at c1 c2 ⊢; split at c3' <;> omega
  clear c1 c2 c3 c3'
  refine ⟨⟨[1, 24, 25, 26], fun m vs H => ∃ i : Nat, vs = [.ptr 0 0, .sl 3 (cols l) false, fI (cols l).length, fI i] ∧ H = [.cells [.sl 3 (cols l) false, fI keys]] ∧ (∀ j c, j < i → l[j]? = some c → mayC l keys j c = true) ∧ i ≤ l.length ∧ m = l.length - i, .at _ ⟨0, rfl, rfl, fun j c hj => by omega, Nat.zero_le _, rfl⟩, ?_⟩⟩
  rintro m vs H ⟨i, rfl, rfl, hn, hi, rfl⟩
  conv => whnf
  refine branch_i (fun c => ?_) (fun c => ?_) <;> try rw [c] <;> conv => whnf
  · have c' := of_decide_eq_true c
    have hlt : i < l.length := by omega
    have hget : l[i]? = some l[i] := List.getElem?_eq_getElem hlt
    generalize l[i] = d at *
    have hno := mayS_no (l := l) (keys := keys) hget
    have hyes : mayC l keys i d = true → (∀ j c, j < i + 1 → l[j]? = some c → mayC l keys j c = true) := all_snoc hn hget
    unfold mayC at hno hyes
    have hret : mayS l keys = false → Q (.bool false) [] := fun e => by rw [e] at h; exact h
    refine ⟨_, ⟨by omega, cols_get hget⟩, ?_⟩
    conv => whnf
    refine .call [] 0 ⟨rfl, rfl, rfl⟩ (Name_spec ?_)
    conv => whnf
    refine branch_i (fun c1 => ?_) (fun c1 => ?_) <;> try rw [c1] <;> conv => whnf
    focus
      exact ⟨[], rfl, hret (hno (by simp at c1; rw [c1]; rfl))⟩
    refine .call [] 0 ⟨rfl, rfl, rfl⟩ (kind_spec ?_)
    conv => whnf
    refine branch_i (fun c2 => ?_) (fun c2 => ?_) <;> try rw [c2] <;> conv => whnf
    focus
      exact ⟨[], rfl, hret (hno (by simp at c2; rw [c2]; simp))⟩
    refine .call [] 0 ⟨rfl, rfl, rfl⟩ (Find_spec hl ?_)
    conv => whnf
    refine branch_i (fun c3 => ?_) (fun c3 => ?_) <;> try rw [c3] <;> conv => whnf
    focus
      exact ⟨[], rfl, hret (hno (by simp at c3; simp [c3]))⟩
    simp at c1 c2 c3
    refine branch_i (fun c4 => ?_) (fun c4 => ?_) <;> try rw [c4] <;> conv => whnf
    focus
      refine branch_i (fun c5 => ?_) (fun c5 => ?_) <;> try rw [c5] <;> conv => whnf
      focus
        exact ⟨[], rfl, hret (hno (by rw [c4, c5]; simp))⟩
    all_goals
      refine .go [0] rfl (l.length - (i + 1)) (by omega) ⟨i + 1, ?_, rfl, hyes (by first | (rw [c1, c2, c3, c4, c5]; simp; done) | (rw [c1, c2, c3, c4]; simp; done)), by omega, rfl⟩
      show [V.ptr 0 0, V.sl 3 (cols l) false, fI (cols l).length, V.int .i64 (IntKind.i64.wrap ((i : Int) + 1))] = _
      rw [show IntKind.i64.wrap ((i : Int) + 1) = ((i + 1 : Nat) : Int) by rw [IntKind.wrap_i64]; omega]
  · have c' := of_decide_eq_false c
    rw [mayS_yes hh fun j c hc => hn j c (by have := (List.getElem?_eq_some_iff.1 hc).1; omega) hc] at h
    exact ⟨[], rfl, h⟩

theorem RMay_spec {l : List Col} {keys : Int} (hl : l.length < 1000000) (h : Q (.bool (mayS l keys)) []) : ACall Try.prog 12 0 [sch l keys] [] Q := by
  refine by_body Try.func12 0 rfl (Nat.le_of_ble_eq_true rfl) ?_
  conv => whnf
  have hlk := cols_len l
  refine branch_i (fun c1 => ?_) (fun c1 => ?_) <;> try rw [c1] <;> conv => whnf
  focus
    rw [mayS_head (by unfold mayH; simp at c1 ⊢; omega)] at h
    exact ⟨[], rfl, h⟩
  refine branch_i (fun c2 => ?_) (fun c2 => ?_) <;> try rw [c2] <;> conv => whnf
  focus
    rw [mayS_head (by unfold mayH; simp at c2 ⊢; omega)] at h
    exact ⟨[], rfl, h⟩
  refine branch_i (fun c3 => ?_) (fun c3 => ?_) <;> try rw [c3] <;> conv => whnf
  focus
    rw [mayS_head (by unfold mayH; simp at c3 ⊢; omega)] at h
    exact ⟨[], rfl, h⟩
  refine branch_i (fun c4 => ?_) (fun c4 => ?_) <;> try rw [c4] <;> conv => whnf
  focus
    rw [mayS_head (by unfold mayH; simp at c4 ⊢; omega)] at h
    exact ⟨[], rfl, h⟩
  refine branch_i (fun c5 => ?_) (fun c5 => ?_) <;> try rw [c5] <;> conv => whnf
  focus
    rw [mayS_head (by unfold mayH; simp at c5 ⊢; omega)] at h
    exact ⟨[], rfl, h⟩
  have hh : mayH l keys = true := by unfold mayH; simp at c1 c2 c3 c4 c5 ⊢; omega
  clear c1 c2 c3 c4 c5
  refine ⟨⟨[1, 3, 4], fun m vs H => ∃ i : Nat, vs = [.ptr 0 0, fI (cols l).length, fI i] ∧ H = [.cells [.sl 3 (cols l) false, fI keys]] ∧ (∀ j c, j < i → l[j]? = some c → mayC l keys j c = true) ∧ i ≤ l.length ∧ m = l.length - i, .at _ ⟨0, rfl, rfl, fun j c hj => by omega, Nat.zero_le _, rfl⟩, ?_⟩⟩
  rintro m vs H ⟨i, rfl, rfl, hn, hi, rfl⟩
  conv => whnf
  refine branch_i (fun c => ?_) (fun c => ?_) <;> try rw [c] <;> conv => whnf
  · have c' := of_decide_eq_true c
    have hlt : i < l.length := by omega
    have hget : l[i]? = some l[i] := List.getElem?_eq_getElem hlt
    generalize l[i] = d at *
    have hno := mayS_no (l := l) (keys := keys) hget
    have hyes : mayC l keys i d = true → (∀ j c, j < i + 1 → l[j]? = some c → mayC l keys j c = true) := all_snoc hn hget
    unfold mayC at hno hyes
    have hret : mayS l keys = false → Q (.bool false) [] := fun e => by rw [e] at h; exact h
    refine ⟨_, ⟨by omega, cols_get hget⟩, ?_⟩
    conv => whnf
    refine .call [] 0 ⟨rfl, rfl, rfl⟩ (RName_spec ?_)
    conv => whnf
    refine branch_i (fun c1 => ?_) (fun c1 => ?_) <;> try rw [c1] <;> conv => whnf
    focus
      exact ⟨[], rfl, hret (hno (by simp at c1; rw [c1]; rfl))⟩
    refine branch_i (fun c2 => ?_) (fun c2 => ?_) <;> try rw [c2] <;> conv => whnf
    focus
      exact ⟨[], rfl, hret (hno (by unfold kindOk; simp at c2; simp; omega))⟩
    refine branch_i (fun c3 => ?_) (fun c3 => ?_) <;> try rw [c3] <;> conv => whnf
    focus
      exact ⟨[], rfl, hret (hno (by unfold kindOk; simp at c3; simp; omega))⟩
    have hk : kindOk d.k = true := by unfold kindOk; simp at c2 c3 ⊢; omega
    simp at c1
    clear c2 c3
    refine branch_i (fun c4 => ?_) (fun c4 => ?_) <;> try rw [c4] <;> conv => whnf
    focus
      refine branch_i (fun c5 => ?_) (fun c5 => ?_) <;> try rw [c5] <;> conv => whnf
      focus
        exact ⟨[], rfl, hret (hno (by rw [c4, c5]; simp))⟩
    all_goals
      refine ⟨⟨[1, 3, 4, 5, 7], fun m vs H => ∃ (k : Nat) (bo : Bool), vs = [.ptr 0 0, fI (cols l).length, fI i, .ptr 1 0, fI k] ∧ H = [.cells [.sl 3 (cols l) false, fI keys], .cells [.str d.n, fI d.k, .bool bo]] ∧ (∀ c ∈ l.take k, c.n ≠ d.n) ∧ k ≤ i ∧ m = i - k, .at _ ⟨0, _, rfl, rfl, by simp, Nat.zero_le _, rfl⟩, ?_⟩⟩
      rintro m vs H ⟨k, bo, rfl, rfl, hnk, hk2, rfl⟩
      conv => whnf
      refine branch_i (fun c6 => ?_) (fun c6 => ?_) <;> try rw [c6] <;> conv => whnf
      · have c6' := of_decide_eq_true c6
        have hget2 : l[k]? = some l[k] := List.getElem?_eq_getElem (by omega)
        generalize l[k] = x at *
        refine ⟨List.range 9, by kernel_rfl, by kernel_rfl, ?_⟩
        conv => whnf
        refine ⟨_, ⟨by omega, cols_get hget2⟩, ?_⟩
        conv => whnf
        refine branch_i (fun c7 => ?_) (fun c7 => ?_) <;> try rw [c7] <;> conv => whnf
        · have hf := fnd_here hnk hget2 (of_decide_eq_true c7)
          exact ⟨[], rfl, hret (hno (by rw [hf]; simp; intro _ _ e; omega))⟩
        · refine .go [0, 1] rfl (i - (k + 1)) (by omega) ⟨k + 1, bo, ?_, rfl, take_snoc hnk hget2 (of_decide_eq_false c7), by omega, rfl⟩
          show [V.ptr 0 0, fI (cols l).length, fI i, V.ptr 1 0, V.int .i64 (IntKind.i64.wrap ((k : Int) + 1))] = _
          rw [show IntKind.i64.wrap ((k : Int) + 1) = ((k + 1 : Nat) : Int) by rw [IntKind.wrap_i64]; omega]
      · have c6' := of_decide_eq_false c6
        have hki : k = i := by omega
        subst hki
        have hf := fnd_here hnk hget rfl
        refine .go [0] rfl (l.length - (k + 1)) (by omega) ⟨k + 1, ?_, rfl, hyes (by first | (rw [c1, hk, hf, c4, c5]; simp; done) | (rw [c1, hk, hf, c4]; simp; done)), by omega, rfl⟩
        show [V.ptr 0 0, fI (cols l).length, V.int .i64 (IntKind.i64.wrap ((k : Int) + 1))] = _
        rw [show IntKind.i64.wrap ((k : Int) + 1) = ((k + 1 : Nat) : Int) by rw [IntKind.wrap_i64]; omega]
  · have c' := of_decide_eq_false c
    rw [mayS_yes hh fun j c hc => hn j c (by have := (List.getElem?_eq_some_iff.1 hc).1; omega) hc] at h
    exact ⟨[], rfl, h⟩

end Go.Proofs.YtcgpgpbnpjbhhaaPg
