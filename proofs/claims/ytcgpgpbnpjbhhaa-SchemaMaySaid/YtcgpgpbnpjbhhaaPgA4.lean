/- The quiet operations: what the abstract run says of them the model does. -/
import Derived.Test.YtcgpgpbnpjbhhaaPgA3
import Derived.Laws.Cells
import Derived.Laws.Slices
import Derived.Laws.Strings
import Derived.Laws.BytesArg
import Derived.Laws.Pointers
import Derived.Laws.Cover3
import Derived.ChangeKeysEq
namespace Go.Proofs.YtcgpgpbnpjbhhaaPg
open Go Go.RowKit
variable [Globs]
set_option linter.unusedVariables false
set_option linter.unusedSimpArgs false

variable {P : Program} {T : Nat → TI} {I : Imm} {ρ : List Pl} {H : List O} {w : World} {e : Env}

theorem ofVal1_rel (v : Value) : VRel I ρ (ofVal1 v) v := by
  unfold ofVal1
  split <;> first | exact .any _ _ | exact .bool _ _ | exact .int _ _ _ | exact .str _ _ | exact .nilp _ | exact .nils _ | exact .nilf _ | exact .nili _ | exact .nilm _

theorem ofVals_rel (vs : Array Value) : VRels I ρ (vs.toList.map ofVal1) vs.toList := by
  refine ⟨by simp, fun i a u ha hu => ?_⟩
  rw [List.getElem?_map, hu] at ha
  cases ha
  exact ofVal1_rel u

theorem rels_arr {as : List V} {us : Array Value} (h : VRels I ρ as us.toList) : as.length = us.size ∧ ∀ (i : Nat) (a : V) (u : Value), as[i]? = some a → us[i]? = some u → VRel I ρ a u :=
  ⟨by simpa using h.1, fun i a u ha hu => h.2 i a u ha (by simpa using hu)⟩

theorem ofVal1_one {v : Value} (h : notAny (ofVal1 v) = true) : v.oneCell' = true := by
  cases v <;> simp [ofVal1, notAny] at h <;> rfl

theorem ofVals_one {vs : Array Value} (h : (vs.toList.map ofVal1).all notAny = true) : ∀ (i : Nat) (u : Value), vs[i]? = some u → u.oneCell' = true := fun i u hu => by
  rw [List.all_eq_true] at h
  refine ofVal1_one (h _ (List.mem_map.2 ⟨u, ?_, rfl⟩))
  exact List.mem_of_getElem? (i := i) (by simpa using hu)

theorem ofVal_rel (v : Value) : VRel I ρ (ofVal v) v := by
  unfold ofVal
  split
  case h_9 cs =>
    obtain ⟨h1, h2⟩ := rels_arr (I := I) (ρ := ρ) (ofVals_rel cs)
    split
    · rename_i ha; exact .agg _ _ _ h1 (ofVals_one ha) h2
    · exact .any _ _
  case h_10 cs => obtain ⟨h1, h2⟩ := rels_arr (I := I) (ρ := ρ) (ofVals_rel cs); exact .tup _ _ _ h1 h2
  all_goals first | exact .any _ _ | exact .bool _ _ | exact .int _ _ _ | exact .str _ _ | exact .nilp _ | exact .nils _ | exact .nilf _ | exact .nili _ | exact .nilm _

def ERel (I : Imm) (ρ : List Pl) (e : Env) (tmps : Array Value) : Prop := ∀ t, VRel I ρ (Env.get e t) (tmps.getD t undef)

theorem ERel.mono {I' : Imm} {ρ' : List Pl} {tmps : Array Value} (h : ERel I ρ e tmps) (hI : ILe I I') (hp : PLe ρ ρ') : ERel I' ρ' e tmps := fun t => (h t).mono hI hp

theorem aeval_rel {a : Act} (h : ERel I ρ e a.tmps) (x : Operand) : VRel I ρ (aeval e x) (a.eval x) := by
  cases x with
  | tmp t => exact h t
  | const v => exact ofVal_rel v
  | global g => exact .glob _ g
  | func f => exact .fn _ _ _ _ _ _ rfl rfl (fun i a u h => by simp at h) (fun i a u h => by simp at h)

theorem open_rel {v : V} {u : Value} (h : VRel I ρ v u) : VRel I ρ (open1 v) u := by
  cases h <;> simp only [open1]
  case im v h1 h2 => exact h2.mono (ILe.refl _) (PLe.nil _)
  all_goals (constructor <;> assumption)

theorem aevo_rel {a : Act} (h : ERel I ρ e a.tmps) (x : Operand) : VRel I ρ (aevo e x) (a.eval x) := open_rel (aeval_rel h x)

/-! ### types -/
theorem ti_all (hT : TIok P T) {t : TypeId} (h : T t ≠ TI.bad) : ∃ i z d, P.info? t = some i ∧ i.zero = some z ∧ P.underlying t = some d ∧ T t = ⟨kindOf d, i.size, i.bytes, z.cells.toList.map ofVal1, true, eqOf P t d⟩ ∧ (z.cells.toList.map ofVal1).all notAny = true := by
  rcases hT t with e | e
  · unfold tiOf at e
    cases hi : P.info? t with
    | none => simp only [hi] at e; exact absurd e h
    | some i =>
      cases hz : i.zero with
      | none => simp only [hi, hz] at e; exact absurd e h
      | some z =>
        cases hd : P.underlying t with
        | none => simp only [hi, hz, hd] at e; exact absurd e h
        | some d =>
          cases ha : (z.cells.toList.map ofVal1).all notAny with
          | false => simp only [hi, hz, hd, ha] at e; exact absurd e h
          | true => simp only [hi, hz, hd, ha] at e; exact ⟨i, z, d, rfl, hz, rfl, e, ha⟩
  · exact absurd e h

theorem ti_good (hT : TIok P T) {t : TypeId} (h : (T t).good = true) : ∃ i z d, P.info? t = some i ∧ i.zero = some z ∧ P.underlying t = some d ∧ T t = ⟨kindOf d, i.size, i.bytes, z.cells.toList.map ofVal1, true, eqOf P t d⟩ ∧ (z.cells.toList.map ofVal1).all notAny = true :=
  ti_all hT fun e => by rw [e] at h; cases h

theorem ti_kind (hT : TIok P T) {t : TypeId} {k : TK} (h : (T t).kind = k) (hk : k ≠ .other) : ∃ d, P.underlying t = some d ∧ kindOf d = k := by
  obtain ⟨i, z, d, h1, h2, h3, h4, _⟩ := ti_all hT (t := t) fun e => by rw [e] at h; exact hk h.symm
  exact ⟨d, h3, by rw [h4] at h; exact h⟩

theorem kind_int {d : TypeDesc} {k : IntKind} (h : kindOf d = .int k) : d = .int k := by cases d <;> simp [kindOf] at h; rw [h]
theorem kind_bool {d : TypeDesc} (h : kindOf d = .bool) : d = .bool := by cases d <;> simp [kindOf] at h; rfl
theorem kind_str {d : TypeDesc} (h : kindOf d = .str) : d = .string := by cases d <;> simp [kindOf] at h; rfl
theorem kind_ptr {d : TypeDesc} {q : TypeId} (h : kindOf d = .ptr q) : d = .pointer q := by cases d <;> simp [kindOf] at h; rw [h]
theorem kind_sl {d : TypeDesc} {q : TypeId} (h : kindOf d = .sl q) : d = .slice q := by cases d <;> simp [kindOf] at h; rw [h]
theorem kind_fn {d : TypeDesc} (h : kindOf d = .fn) : ∃ a b c, d = .func a b c := by cases d <;> simp [kindOf] at h; exact ⟨_, _, _, rfl⟩
theorem kind_struct {d : TypeDesc} {fs : List (Nat × TypeId)} (h : kindOf d = .struct fs) : ∃ fa, d = .struct fa ∧ fs = fa.toList.map fun f => (f.offset, f.type) := by
  cases d <;> simp [kindOf] at h; exact ⟨_, rfl, h.symm⟩
theorem kind_arr {d : TypeDesc} {n : Nat} {q : TypeId} (h : kindOf d = .arr n q) : d = .array n q := by cases d <;> simp [kindOf] at h; rw [h.1, h.2]
theorem kind_map {d : TypeDesc} {n : TypeId} {q : TypeId} (h : kindOf d = .map n q) : d = .map n q := by cases d <;> simp [kindOf] at h; rw [h.1, h.2]

theorem ty_int (hT : TIok P T) {t : TypeId} {k : IntKind} (h : (T t).kind = .int k) : P.underlying t = some (.int k) := by
  obtain ⟨d, h1, h2⟩ := ti_kind hT h (by simp); rw [h1, kind_int h2]
theorem ty_bool (hT : TIok P T) {t : TypeId} (h : (T t).kind = .bool) : P.underlying t = some .bool := by
  obtain ⟨d, h1, h2⟩ := ti_kind hT h (by simp); rw [h1, kind_bool h2]
theorem ty_str (hT : TIok P T) {t : TypeId} (h : (T t).kind = .str) : P.underlying t = some .string := by
  obtain ⟨d, h1, h2⟩ := ti_kind hT h (by simp); rw [h1, kind_str h2]
theorem ty_ptr (hT : TIok P T) {t q : TypeId} (h : (T t).kind = .ptr q) : P.underlying t = some (.pointer q) := by
  obtain ⟨d, h1, h2⟩ := ti_kind hT h (by simp); rw [h1, kind_ptr h2]
theorem ty_sl (hT : TIok P T) {t q : TypeId} (h : (T t).kind = .sl q) : P.underlying t = some (.slice q) := by
  obtain ⟨d, h1, h2⟩ := ti_kind hT h (by simp); rw [h1, kind_sl h2]
theorem ty_fn (hT : TIok P T) {t : TypeId} (h : (T t).kind = .fn) : ∃ a b c, P.underlying t = some (.func a b c) := by
  obtain ⟨d, h1, h2⟩ := ti_kind hT h (by simp); obtain ⟨a, b, c, rfl⟩ := kind_fn h2; exact ⟨a, b, c, h1⟩
theorem ty_struct (hT : TIok P T) {t : TypeId} {fs : List (Nat × TypeId)} (h : (T t).kind = .struct fs) : ∃ fa, P.underlying t = some (.struct fa) ∧ fs = fa.toList.map fun f => (f.offset, f.type) := by
  obtain ⟨d, h1, h2⟩ := ti_kind hT h (by simp); obtain ⟨fa, rfl, h3⟩ := kind_struct h2; exact ⟨fa, h1, h3⟩
theorem ty_arr (hT : TIok P T) {t : TypeId} {n : Nat} {q : TypeId} (h : (T t).kind = .arr n q) : P.underlying t = some (.array n q) := by
  obtain ⟨d, h1, h2⟩ := ti_kind hT h (by simp); rw [h1, kind_arr h2]

theorem run_underlying' {t : TypeId} {d : TypeDesc} (h : P.underlying t = some d) (w : World) : (underlying t).run P w = .ok d w := by
  simp [underlying, h]
theorem run_sizeOf' {t : TypeId} {i : TypeInfo} (h : P.info? t = some i) (w : World) : (sizeOf t).run P w = .ok i.size w := by
  simp [sizeOf, typeInfo, h]
theorem run_isAgg' (hT : TIok P T) {t : TypeId} (h : (T t).good = true) (w : World) : (isAgg t).run P w = .ok (T t).kind.isAgg w := by
  obtain ⟨i, z, d, h1, h2, h3, h4, _⟩ := ti_good hT h
  rw [h4]
  cases d <;> simp [kindOf, TK.isAgg, isAgg, run_underlying' h3]

/-! ### the operations, one by one -/
/-- An operation that only computes. -/
def QOk (P : Program) (o : Oper) (e : Env) (H : List O) (v : V) : Prop :=
  ∀ (I : Imm) (ρ : List Pl) (w : World) (a : Act), St I ρ H w → ERel I ρ e a.tmps → ∃ u, (execOp a.eval o).run P w = .ok (.value u) w ∧ VRel I ρ v u

theorem run_v {o : Oper} {a : Act} {w : World} {s : Sem Value} {u : Value} (h : execOp a.eval o = (do pure (.value (← s)))) (hs : s.run P w = .ok u w) : (execOp a.eval o).run P w = .ok (.value u) w := by
  rw [h]; simp [hs]

/-- Cells that read as these values can be loaded as a variable of this type. -/
theorem loadV_sound (hT : TIok P T) {t : TypeId} {cs : List V} {off : Nat} {K : V → Prop} (h : loadV (T t) cs off K) :
    ∃ v, K v ∧ ∀ (I : Imm) (ρ : List Pl) (w : World) (b base : Nat), CellsAt I ρ w b base cs → ∃ u, (loadVar t ⟨b, base + off, none⟩).run P w = .ok u w ∧ VRel I ρ v u := by
  unfold loadV at h
  cases hg : (T t).good with
  | false => rw [hg] at h; exact h.elim
  | true =>
    rw [hg] at h
    obtain ⟨i, z, d, h1, h2, h3, h4, _⟩ := ti_good hT hg
    cases ha : (T t).kind.isAgg with
    | true =>
      rw [ha] at h
      cases hb : Nat.ble (off + (T t).size) cs.length with
      | false => simp only [hb] at h
      | true =>
        simp only [hb, copyL_iff] at h
        refine ⟨_, h, fun I ρ w b base hc => ?_⟩
        have hle : off + i.size ≤ cs.length := by have := Nat.le_of_ble_eq_true hb; rw [h4] at this; exact this
        have hsz : (T t).size = i.size := by rw [h4]
        have hex : ∀ j, j < i.size → ∃ u, w.cell? ⟨b, base + off + j, none⟩ = some u ∧ u.oneCell' = true ∧ VRel I ρ (cs.getD (off + j) .any) u := fun j hj => by
          have hlt : off + j < cs.length := by omega
          obtain ⟨u, hu, ho, hv⟩ := hc (off + j) cs[off + j] (List.getElem?_eq_getElem hlt)
          exact ⟨u, by rw [← hu]; congr 2; omega, ho, by simpa [List.getD, List.getElem?_eq_getElem hlt] using hv⟩
        obtain ⟨f, hf⟩ : ∃ f : Nat → Value, ∀ j, j < i.size → w.cell? ⟨b, base + off + j, none⟩ = some (f j) ∧ (f j).oneCell' = true ∧ VRel I ρ (cs.getD (off + j) .any) (f j) :=
          ⟨fun j => if hj : j < i.size then (hex j hj).choose else default, fun j hj => by simp only [hj, dif_pos]; exact (hex j hj).choose_spec⟩
        refine ⟨.agg ((List.range i.size).map f).toArray, ?_, ?_⟩
        · have := run_loadCells (P := P) w ⟨b, base + off, none⟩ i.size f (fun j hj => by
            have := (hf j hj).1
            unfold Addr.add
            by_cases h0 : j = 0
            · subst h0; simpa using this
            · rw [if_neg h0]; exact this)
          simp [loadVar, run_isAgg' hT hg, ha, run_sizeOf' h1, this]
        · rw [hsz]
          refine .agg _ _ _ (by simp; omega) (fun j u hu => by
            have hj : j < i.size := by have := (Array.getElem?_eq_some_iff.1 hu).1; simpa using this
            simp [hj] at hu; subst hu; exact (hf j hj).2.1) (fun j x u hx hu => ?_)
          have hj : j < i.size := by
            have := (List.getElem?_eq_some_iff.1 hx).1; simp at this; omega
          have e1 : x = cs.getD (off + j) .any := by
            rw [List.getElem?_take_of_lt hj, List.getElem?_drop] at hx
            simp [List.getD, hx]
          have e2 : u = f j := by
            simp [hj] at hu; exact hu.symm
          subst e1; subst e2; exact (hf j hj).2.2
    | false =>
      rw [ha] at h
      cases hv : cs[off]? with
      | none => simp only [hv] at h
      | some v =>
        simp only [hv, force_iff] at h
        refine ⟨v, h, fun I ρ w b base hc => ?_⟩
        obtain ⟨u, hu, _, hr⟩ := hc off v hv
        exact ⟨u, by simp [loadVar, run_isAgg' hT hg, ha, hu], hr⟩

theorem St.cells {H : List O} (hst : St I ρ H w) {id : Nat} {cs : List V} (h : getO H id = .cells cs) {p : Pl} (hp : ρ[id]? = some p) : p.base = 0 ∧ Open w p.b 0 cs.length ∧ CellsAt I ρ w p.b 0 cs := by
  have hlt : id < H.length := by have := (List.getElem?_eq_some_iff.1 hp).1; rw [hst.len] at this; exact this
  have ho : H[id]? = some (.cells cs) := by
    rw [List.getElem?_eq_getElem hlt]
    simp [getO, List.getD, List.getElem?_eq_getElem hlt] at h
    rw [h]
  have := hst.obj id p _ hp ho
  exact ⟨this.1, this.2.2⟩

theorem getO_some {H : List O} {id : Nat} {o : O} (h : getO H id = o) (hd : o ≠ .dead) : H[id]? = some o := by
  unfold getO List.getD at h
  cases hx : H[id]? with
  | none => rw [hx] at h; exact absurd h.symm hd
  | some y => rw [hx] at h; simp at h; rw [h]

theorem imm_cells {b base : Nat} {cs : List V} {u : Nat → Value} (hst : St I ρ H w) (h1 : ∀ (i : Nat) (c : V), cs[i]? = some c → I b (base + i) = some (u i))
    (h1' : ∀ (i : Nat) (c : V), cs[i]? = some c → (u i).oneCell' = true) (h2 : ∀ (i : Nat) (c : V), cs[i]? = some c → VRel I [] c (u i)) : CellsAt I ρ w b base cs :=
  fun i v hv => ⟨u i, hst.imm _ _ _ (h1 i v hv), h1' i v hv, (h2 i v hv).mono (ILe.refl _) (PLe.nil _)⟩

end Go.Proofs.YtcgpgpbnpjbhhaaPg
