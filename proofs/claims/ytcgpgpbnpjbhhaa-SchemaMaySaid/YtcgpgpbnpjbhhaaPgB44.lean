/- A slice is made. -/
import Derived.Test.YtcgpgpbnpjbhhaaPgB42
import Derived.Laws.MakeOwn
namespace Go.Proofs.YtcgpgpbnpjbhhaaPg
open Go Go.RowKit
variable [Globs]
set_option linter.unusedVariables false
set_option linter.unusedSimpArgs false

variable {P : Program} {T : Nat → TI} {I : Imm} {ρ : List Pl} {H : List O} {w : World} {e : Env}

theorem madeCells_eq (z : Array Value) (n : Nat) : madeCells z n = rangeZero z n := rfl

theorem e_makeSlice (hT : TIok P T) {k : Nat} {o : Oper} {t : TypeId} {l c : Operand} (ho : o.op = .makeSlice t l c) {K : V → Env → List O → Prop}
    (h : aMakeSl T t (aevo e l) (aevo e c) H fun v H' => K v e H') : ESem P k o e H K := by
  unfold aMakeSl at h
  split at h <;> try exact h.elim
  rename_i q hk'
  split at h <;> try exact h.elim
  rename_i hq
  split at h <;> try exact h.elim
  rename_i kl n kc m hl hc
  obtain ⟨⟨h0, hnm, hroom⟩, h⟩ := h
  rw [copyH_iff] at h
  obtain ⟨i, z, g1, g2, g3, g4, g5, g6, g7, g8, hgd⟩ := okElem_all hT hq
  obtain ⟨i', z', d, f1, f2, f3, f4, f5⟩ := ti_good hT hgd
  rw [g1] at f1; cases f1
  rw [g2] at f2; cases f2
  have hzero : (T q).zero = z.cells.toList.map ofVal1 := by rw [f4]
  have hlz : (T q).zero.length = (T q).size := by rw [hzero, g3]; simp [g8]
  have hu := ty_sl hT hk'
  rw [g4] at hroom
  have hm1 : m.toNat ≤ m.toNat * i.bytes := Nat.le_mul_of_pos_right _ g5
  refine esem_value (by simp [ho]) fun I ρ w a hst he hk => ?_
  have r1 := aevo_rel he l
  rw [hl] at r1
  have e1 := vr_int r1
  have r2 := aevo_rel he c
  rw [hc] at r2
  have e2 := vr_int r2
  have hb : (i.bytes : Int) * m ≤ 281474976710656 := by
    have e3 : m = (m.toNat : Int) := by omega
    rw [e3, ← Int.natCast_mul, Nat.mul_comm]
    omega
  have hrun := run_make (P := P) w t q i z hu g1 g2 kl kc n m h0 hnm hb (by omega)
  rw [madeCells_eq] at hrun
  have hal : AllLen i.size (List.replicate n.toNat (T q).zero) := rep_len (by rw [hlz, g3]) _
  have hget : ∀ (j : Nat) (u : Value), (rangeZero z.cells (m.toNat * i.size))[j]? = some u → z.cells[j % z.cells.size]? = some u := by
    intro j u hu
    have hjl : j < m.toNat * z.cells.size := by
      have := (Array.getElem?_eq_some_iff.1 hu).1
      simp [rangeZero] at this; rw [g8]; exact this
    have hz0 := rangeZero_get hjl
    rw [← g8, hz0.1] at hu
    exact hu
  have hflat : VRels I [] (List.replicate n.toNat (T q).zero).flatten ((rangeZero z.cells (m.toNat * i.size)).toList.take ((List.replicate n.toNat (T q).zero).length * i.size)) := by
    have hmul : n.toNat * i.size ≤ m.toNat * i.size := Nat.mul_le_mul_right _ (by omega)
    refine ⟨by rw [flat_len hal]; simp only [rangeZero, List.length_replicate, List.length_take, Array.length_toList, Array.size_map, Array.size_range]; omega, fun j x u hx hu => ?_⟩
    have hu0 : (rangeZero z.cells (m.toNat * i.size)).toList[j]? = some u := by
      have := (List.getElem?_eq_some_iff.1 hu).1
      rw [List.getElem?_take_of_lt (by simp at this ⊢; omega)] at hu
      exact hu
    have hu' := hget j u (by simpa using hu0)
    obtain ⟨y, h1, h2, h3, h4⟩ := flat_inv hal hx
    have hy : y = (T q).zero := (List.mem_replicate.1 (List.mem_of_getElem? h1)).2
    subst hy
    rw [← g8] at h2
    exact (ofVals_rel z.cells).2 (j % z.cells.size) x u (by rw [← hzero]; exact h2) (by simpa using hu')
  obtain ⟨s1, s2⟩ := new_buf hst k hk (es := List.replicate n.toNat (T q).zero) (sz := i.size) (tot := m.toNat) (us := rangeZero z.cells (m.toNat * i.size)) hal hflat
    (fun j u _ hu => ofVals_one f5 _ u (hget j u hu)) (by simp; omega) (by simp [rangeZero]) q w rfl rfl rfl rfl
  refine ⟨.slice (some ⟨w.heap.size, 0, none⟩) n.toNat m.toNat, _, I, _, e, _, _, .inl ?_, h, s1, ?_, he.mono (ILe.refl _) (PLe.append _ _), s2⟩
  · simp [execOp, ho, e1, e2, hrun]
  · have := VRel.ms (I := I) (ρ ++ [⟨w.heap.size, 0, i.size, m.toNat⟩]) H.length 0 n.toNat m.toNat false ⟨w.heap.size, 0, i.size, m.toNat⟩ (by rw [← hst.len]; simp) (by omega) (by simp) (by simp) (by simp)
    rw [g3]
    simpa using this

end Go.Proofs.YtcgpgpbnpjbhhaaPg
