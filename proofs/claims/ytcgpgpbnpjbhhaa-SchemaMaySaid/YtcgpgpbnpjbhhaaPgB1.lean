/- The effects, one by one. -/
import Derived.Test.YtcgpgpbnpjbhhaaPgA9
namespace Go.Proofs.YtcgpgpbnpjbhhaaPg
open Go Go.RowKit
variable [Globs]
set_option linter.unusedVariables false
set_option linter.unusedSimpArgs false

variable {P : Program} {T : Nat → TI} {I : Imm} {ρ : List Pl} {H : List O} {w : World} {e : Env}

/-- A fence that shuts out nothing. -/
def Wide (F : Fence) : Prop := F = Fence.wide ∨ ∃ l, F = Fence.wide.inRound l

theorem Wide.fn {F : Fence} (h : Wide F) (f : FuncId) : F.fn f := by rcases h with rfl | ⟨l, rfl⟩ <;> trivial
theorem Wide.depth {F : Fence} (h : Wide F) : F.depth = none := by rcases h with rfl | ⟨l, rfl⟩ <;> rfl
theorem wide_wide : Wide Fence.wide := .inl rfl
theorem Wide.inRound {F : Fence} (h : Wide F) (l : Nat) : Wide (F.inRound l) := by rcases h with rfl | ⟨l', rfl⟩ <;> exact .inr ⟨l, rfl⟩

/-- What an operation with an effect comes to: a value, or nothing. -/
def ESem (P : Program) (k : Nat) (o : Oper) (e : Env) (H : List O) (K : V → Env → List O → Prop) : Prop :=
  ∀ (I : Imm) (ρ : List Pl) (w : World) (a : Act), St I ρ H w → ERel I ρ e a.tmps → k ≤ ρ.length → ∀ (F : Fence) (n : Nat), Wide F → ∀ (next : Act → World → Prop) (Q : Exit → Act → World → Prop),
    (∀ u v I' ρ' e' H' w', K v e' H' → St I' ρ' H' w' → VRel I' ρ' v u → ERel I' ρ' e' a.tmps → Step k I ρ H w I' ρ' H' w' → next (a.put o.dst u) w') → o.wpIn F n P a w next Q

theorem semAt_of (ro : Option Nat) (ρ' : Operand → Value) (o : Oper) (h : ∀ c, o.op ≠ .defer c) : o.semAt ro ρ' = execOp ρ' o := by
  unfold Oper.semAt
  split
  · rename_i l c ho; exact absurd ho (h c)
  · rfl

/-- An operation that yields a value in a new world. -/
theorem esem_value {k : Nat} {o : Oper} {K : V → Env → List O → Prop} (hd : ∀ c, o.op ≠ .defer c)
    (h : ∀ (I : Imm) (ρ : List Pl) (w : World) (a : Act), St I ρ H w → ERel I ρ e a.tmps → k ≤ ρ.length → ∃ u v I' ρ' e' H' w',
      (((execOp a.eval o).run P w = .ok (.value u) w') ∨ ((execOp a.eval o).run P w = .ok .skip w' ∧ u = undef)) ∧ K v e' H' ∧ St I' ρ' H' w' ∧ VRel I' ρ' v u ∧ ERel I' ρ' e' a.tmps ∧ Step k I ρ H w I' ρ' H' w') : ESem P k o e H K := by
  intro I ρ w a hst he hk F n hF next Q hn
  obtain ⟨u, v, I', ρ', e', H', w', hrun, h1, h2, h3, h4, h5⟩ := h I ρ w a hst he hk
  refine ⟨fun f _ => hF.fn f, ?_⟩
  rw [semAt_of _ _ _ hd]
  rcases hrun with hrun | ⟨hrun, rfl⟩
  · rw [hrun]; exact hn u v I' ρ' e' H' w' h1 h2 h3 h4 h5
  · rw [hrun]; exact hn undef v I' ρ' e' H' w' h1 h2 h3 h4 h5

theorem cells_new {I : Imm} {ρ : List Pl} {w : World} {cs : List V} {us : Array Value} {t : TypeId} (h : VRels I ρ cs us.toList) (h1 : ∀ (i : Nat) (u : Value), us[i]? = some u → u.oneCell' = true) {b : Nat} (hb : w.heap[b]? = some (.cells us t (0, 0))) : 
    (∃ c t' fr, w.heap[b]? = some (.cells c t' fr) ∧ c.size = cs.length) ∧ Open w b 0 cs.length ∧ CellsAt I ρ w b 0 cs := by
  have hl : us.size = cs.length := by have := h.1; simp at this; exact this.symm
  refine ⟨⟨us, t, (0, 0), hb, hl⟩, ⟨us, t, (0, 0), hb, by omega, fun o _ _ => by simp [World.frozen?, hb]⟩, fun i v hv => ?_⟩
  have hlt : i < us.size := by rw [hl]; exact (List.getElem?_eq_some_iff.1 hv).1
  refine ⟨us[i], by simp [World.cell?, hb, hlt], h1 i _ (by simp [hlt]), h.2 i v _ hv (by simp [hlt])⟩

/-- A new row of cells. -/
theorem new_cells (hst : St I ρ H w) (k : Nat) (hk : k ≤ ρ.length) {cs : List V} {us : Array Value} (h : VRels I ρ cs us.toList) (h1 : ∀ (i : Nat) (u : Value), us[i]? = some u → u.oneCell' = true) (t : TypeId) :
    St I (ρ ++ [⟨w.heap.size, 0, 0, 0⟩]) (H ++ [.cells cs]) { w with heap := w.heap.push (.cells us t) } ∧
    VRel I (ρ ++ [⟨w.heap.size, 0, 0, 0⟩]) (.ptr H.length 0) (.pointer (some ⟨w.heap.size, 0, none⟩)) ∧ Step k I ρ H w I (ρ ++ [⟨w.heap.size, 0, 0, 0⟩]) (H ++ [.cells cs]) { w with heap := w.heap.push (.cells us t) } := by
  have hb : (w.heap.push (.cells us t))[w.heap.size]? = some (.cells us t (0, 0)) := by simp
  obtain ⟨c1, c2, c3⟩ := cells_new (I := I) (ρ := ρ ++ [⟨w.heap.size, 0, 0, 0⟩]) (w := { w with heap := w.heap.push (.cells us t) }) (h.mono (ILe.refl _) (PLe.append _ _)) h1 hb
  obtain ⟨s1, s2⟩ := hst.push k hk (.cells us t) ⟨w.heap.size, 0, 0, 0⟩ (.cells cs) rfl { w with heap := w.heap.push (.cells us t) } rfl rfl rfl rfl ⟨rfl, c1, c2, c3⟩
  refine ⟨s1, ?_, s2⟩
  have := VRel.ptr (I := I) (ρ ++ [⟨w.heap.size, 0, 0, 0⟩]) H.length 0 ⟨w.heap.size, 0, 0, 0⟩ (by rw [← hst.len]; simp)
  simpa using this

theorem e_alloc (hT : TIok P T) {k : Nat} {o : Oper} {t : TypeId} (ho : o.op = .alloc t) {K : V → Env → List O → Prop} (hg : (T t).good = true) (h : K (.ptr H.length 0) e (H ++ [.cells (T t).zero])) : ESem P k o e H K := by
  obtain ⟨i, z, d, g1, g2, g3, g4, g5⟩ := ti_good hT hg
  refine esem_value (by simp [ho]) fun I ρ w a hst he hk => ?_
  have hz : VRels I ρ (T t).zero z.cells.toList := by rw [g4]; exact ofVals_rel z.cells
  obtain ⟨s1, s2, s3⟩ := new_cells hst k hk hz (ofVals_one g5) t
  refine ⟨_, _, I, _, e, _, _, .inl ?_, h, s1, s2, he.mono (ILe.refl _) (PLe.append _ _), s3⟩
  simp [execOp, ho, Instr.alloc, zeroValue, typeInfo, g1, g2, newVar, newRow]

theorem e_box {k : Nat} {o : Oper} {t : TypeId} {x : Operand} (ho : o.op = .box t x) {K : V → Env → List O → Prop} {cs : List V} (hc : cellsOf (aeval e x) = some cs) (h : K (.ptr H.length 0) e (H ++ [.cells cs])) : ESem P k o e H K := by
  refine esem_value (by simp [ho]) fun I ρ w a hst he hk => ?_
  obtain ⟨c1, c2, c3, c4⟩ := cellsOf_rel hc (aeval_rel he x)
  obtain ⟨s1, s2, s3⟩ := new_cells hst k hk c2 c4 t
  refine ⟨_, _, I, _, e, _, _, .inl ?_, h, s1, s2, he.mono (ILe.refl _) (PLe.append _ _), s3⟩
  simp [execOp, ho, Instr.box, newVar, newRow]

theorem e_range (hT : TIok P T) {k : Nat} {o : Oper} {t : TypeId} {x : Operand} (ho : o.op = .range t x) {K : V → Env → List O → Prop} (hk' : (T t).kind = .str) {s : List UInt8} (hx : aeval e x = .str s) (h : K (.ptr H.length 0) e (H ++ [.iter s 0])) : ESem P k o e H K := by
  refine esem_value (by simp [ho]) fun I ρ w a hst he hk => ?_
  have hr := aeval_rel he x
  rw [hx] at hr
  obtain ⟨b, hb, e1⟩ := vr_str hr
  have hnew : ({ w with heap := w.heap.push (.stringIter b 0) } : World).heap[w.heap.size]? = some (.stringIter b 0) := by simp
  obtain ⟨s1, s2⟩ := hst.push k hk (.stringIter b 0) ⟨w.heap.size, 0, 0, 0⟩ (.iter s 0) rfl { w with heap := w.heap.push (.stringIter b 0) } rfl rfl rfl rfl ⟨rfl, b, hb, hnew⟩
  refine ⟨.pointer (some ⟨w.heap.size, 0, none⟩), _, I, _, e, _, _, .inl ?_, h, s1, ?_, he.mono (ILe.refl _) (PLe.append _ _), s2⟩
  · simp [execOp, ho, e1, Instr.range, run_underlying' (ty_str hT hk')]
  · have := VRel.ptr (I := I) (ρ ++ [⟨w.heap.size, 0, 0, 0⟩]) H.length 0 ⟨w.heap.size, 0, 0, 0⟩ (by rw [← hst.len]; simp)
    simpa using this

end Go.Proofs.YtcgpgpbnpjbhhaaPg
