/- Cells of a slice are cleared. -/
import Derived.Test.YtcgpgpbnpjbhhaaPgB41
namespace Go.Proofs.YtcgpgpbnpjbhhaaPg
open Go Go.RowKit
variable [Globs]
set_option linter.unusedVariables false

variable {P : Program} {T : Nat → TI} {I : Imm} {ρ : List Pl} {H : List O} {w : World} {e : Env}

theorem run_clear' {t ty q : TypeId} {i : TypeInfo} {z : Value} (hu : P.underlying t = some (.slice q)) (hi : P.info? q = some i) (hz : i.zero = some z) {b o n c : Nat} (hn : 0 < n)
    (hc : ∀ j, j < n * z.cells.size → (w.cell? ⟨b, o + j, none⟩).isSome = true) (hf : ∀ j, j < n * z.cells.size → w.frozen? ⟨b, o + j, none⟩ = false) (h1 : ∀ v ∈ (rangeZero z.cells (n * z.cells.size)).toList, v.oneCell' = true) :
    (Builtin.clear_ #[t] ty #[.slice (some ⟨b, o, none⟩) n c]).run P w = .ok (.tuple #[]) (w.setCells b o (rangeZero z.cells (n * z.cells.size)).toList) := by
  have hl : (rangeZero z.cells (n * z.cells.size)).toList.length = n * z.cells.size := by simp [rangeZero]
  have hst := run_storeCells_cells (P := P) b o (rangeZero z.cells (n * z.cells.size)).toList 0 w (by rw [hl]; simpa using hc) (by rw [hl]; simpa using hf) h1
  simp only [Nat.add_zero] at hst
  obtain ⟨m, rfl⟩ : ∃ m, n = m + 1 := ⟨n - 1, by omega⟩
  have hzc : Builtin.zeroCells z.cells (m + 1) = rangeZero z.cells ((m + 1) * z.cells.size) := rfl
  have hzv : (zeroValue q).run P w = .ok z w := by
    simp [zeroValue, typeInfo, run_program, hi, hz]
  simp [Builtin.clear_, run_underlying' hu, hzv, hzc, hst]

theorem e_clear (hT : TIok P T) {k : Nat} {o : Oper} {c : Call} (ho : o.op = .call c) (hc : c.callee = .builtin .clear) {K : V → Env → List O → Prop} {s : Operand} (ha : c.args.toList = [s]) {t : TypeId} (hat : c.argTypes.toList = [t])
    {q : TypeId} (hk' : (T t).kind = .sl q) (hq : okElem (T q) = true) {id off len : Nat} {full : Bool} {es : List (List V)} (hs : aevo e s = .ms (T q).size id off len full) (hg : getO H id = .buf es) (hpos : 0 < len) (hin : off + len ≤ es.length)
    (h : K (.tup []) e (H.set id (.buf (es.take off ++ List.replicate len (T q).zero ++ es.drop (off + len))))) : ESem P k o e H K := by
  obtain ⟨i, z, g1, g2, g3, g4, g5, g6, g7, g8, hgd⟩ := okElem_all hT hq
  obtain ⟨i', z', d, f1, f2, f3, f4, f5⟩ := ti_good hT hgd
  rw [g1] at f1; cases f1
  rw [g2] at f2; cases f2
  have hzero : (T q).zero = z.cells.toList.map ofVal1 := by rw [f4]
  have hlz : (T q).zero.length = (T q).size := by rw [hzero, g3]; simp [g8]
  have hu := ty_sl hT hk'
  refine esem_value (by simp [ho]) fun I ρ w a hst he hkk => ?_
  have hrs := aevo_rel he s
  rw [hs] at hrs
  have hH : H[id]? = some (.buf es) := getO_some hg (by simp)
  generalize hau : a.eval s = u at hrs
  generalize hsz : (T q).size = sz at hrs
  cases hrs with
  | ms0 => omega
  | ms _ _ _ _ cap _ p hp m1 m2 m3 m4 =>
  have hpsz : p.sz = i.size := by rw [← hsz, g3]
  rcases hst.obj id p _ hp hH with ⟨h0, _⟩ | ⟨o1, o2, o3⟩
  · subst h0; simp at hin; omega
  have htot : p.tot ≠ 0 := by omega
  have hnl : (rangeZero z.cells (len * z.cells.size)).toList.length = len * p.sz := by simp [rangeZero, g8, hpsz]
  have hmul : p.base + off * p.sz + (rangeZero z.cells (len * z.cells.size)).toList.length ≤ p.base + p.tot * p.sz := by
    rw [hnl, Nat.add_assoc, ← Nat.add_mul]
    have := Nat.mul_le_mul_right p.sz (show off + len ≤ p.tot by omega)
    omega
  have hflat : VRels I [] (List.replicate len (T q).zero).flatten (rangeZero z.cells (len * z.cells.size)).toList := by
    refine ⟨by rw [flat_len (rep_len hlz len), g3]; simp [rangeZero, g8], fun j x u hx hu => ?_⟩
    have hjl : j < len * z.cells.size := by
      have := (List.getElem?_eq_some_iff.1 hu).1
      simpa [rangeZero] using this
    have hz0 := rangeZero_get hjl
    have hu' : (rangeZero z.cells (len * z.cells.size))[j]? = some u := by simpa using hu
    rw [hz0.1] at hu'
    obtain ⟨y, h1, h2, h3, h4⟩ := flat_inv (rep_len hlz len) hx
    have hy : y = (T q).zero := (List.mem_replicate.1 (List.mem_of_getElem? h1)).2
    subst hy
    rw [g3, ← g8] at h2
    exact (ofVals_rel z.cells).2 (j % z.cells.size) x u (by rw [← hzero]; exact h2) (by simpa using hu')
  have hone : ∀ v ∈ (rangeZero z.cells (len * z.cells.size)).toList, v.oneCell' = true := by
    intro u hu
    obtain ⟨j, hj⟩ := List.getElem?_of_mem hu
    have hjl : j < len * z.cells.size := by
      have := (List.getElem?_eq_some_iff.1 hj).1
      simpa [rangeZero] using this
    have hz0 := rangeZero_get hjl
    have hu' : (rangeZero z.cells (len * z.cells.size))[j]? = some u := by simpa using hj
    rw [hz0.1] at hu'
    exact ofVals_one f5 _ u hu'
  have hrun := run_clear' (ty := o.type) (c := cap) hu g1 g2 (b := p.b) (o := p.base + off * p.sz) hpos (w := w) (fun j hj => o2.cell (by rw [hnl] at hmul; rw [g8, ← hpsz] at hj; omega)) (fun j hj => by
    obtain ⟨c', t', fr, c1, c2, c3⟩ := o2
    exact c3 _ (by omega) (by rw [hnl] at hmul; rw [g8, ← hpsz] at hj; omega)) hone
  have hys : (List.replicate len (T q).zero).length = len := by simp
  have hl' : (es.take off ++ List.replicate len (T q).zero ++ es.drop (off + len)).length = es.length := by simp; omega
  have horel : ORel I ρ (w.setCells p.b (p.base + off * p.sz) (rangeZero z.cells (len * z.cells.size)).toList) p (.buf (es.take off ++ List.replicate len (T q).zero ++ es.drop (off + len))) := by
    refine .inr ⟨by rw [hl']; exact o1, o2.setCells _ _, fun j y hy => ?_⟩
    have hy' : (es.take off ++ List.replicate len (T q).zero ++ es.drop (off + (List.replicate len (T q).zero).length))[j]? = some y := by rw [hys]; exact hy
    rcases within_get (by rw [hys]; exact hin) hy' with ⟨h1, h2⟩ | ⟨h1, h2, h3⟩ | ⟨h1, h2⟩
    · obtain ⟨c1, c2⟩ := o3 j y h2
      refine ⟨c1, c2.apart _ (.inl ?_)⟩
      have := Nat.mul_le_mul_right p.sz (show j + 1 ≤ off by omega)
      rw [Nat.add_mul] at this
      rw [c1]; omega
    · have hyl := rep_len hlz len y (List.mem_of_getElem? h3)
      refine ⟨by rw [hyl, g3, hpsz], ?_⟩
      refine CellsAt.written o2 hmul hone (d := (j - off) * p.sz) ?_ (fun j' v hv => ?_)
      · rw [Nat.add_assoc, ← Nat.add_mul]
        congr 2; omega
      · have hf := flat_get (rep_len hlz len) h3 hv
        rw [g3, ← hpsz] at hf
        have hlt := (List.getElem?_eq_some_iff.1 hf).1
        rw [hflat.1] at hlt
        exact ⟨_, List.getElem?_eq_getElem hlt, hflat.2 _ v _ hf (List.getElem?_eq_getElem hlt)⟩
    · obtain ⟨c1, c2⟩ := o3 j y h2
      refine ⟨c1, c2.apart _ (.inr ?_)⟩
      rw [hys] at h1
      rw [hnl, Nat.add_assoc, ← Nat.add_mul]
      have := Nat.mul_le_mul_right p.sz h1
      omega
  obtain ⟨s1, s2⟩ := st_write hst k hkk hp hH htot (o' := .buf (es.take off ++ List.replicate len (T q).zero ++ es.drop (off + len))) htot horel
  refine ⟨.tuple #[], .tup [], I, ρ, e, _, _, .inl ?_, h, s1, .tup _ _ _ rfl (fun i a u hx => by simp at hx), he, s2⟩
  obtain ⟨callee, args, argTypes⟩ := c
  obtain ⟨args⟩ := args
  obtain ⟨argTypes⟩ := argTypes
  simp only at hc ha hat
  subst hc; subst ha; subst hat
  simp [execOp, ho, resolve, invoke, builtin, hau, hrun]

end Go.Proofs.YtcgpgpbnpjbhhaaPg
