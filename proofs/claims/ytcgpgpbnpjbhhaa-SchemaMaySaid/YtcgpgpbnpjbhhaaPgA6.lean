/- The quiet operations, further. -/
import Derived.Test.YtcgpgpbnpjbhhaaPgA5
import Derived.Laws.StructEq
namespace Go.Proofs.YtcgpgpbnpjbhhaaPg
open Go Go.RowKit
variable [Globs]
set_option linter.unusedVariables false
set_option linter.unusedSimpArgs false

variable {P : Program} {T : Nat → TI} {I : Imm} {ρ : List Pl} {H : List O} {w : World} {e : Env}

/-- One way to say that an operation yields v. -/
theorem qok {o : Oper} {v : V} {K : V → Prop} (hK : K v) (h : ∀ (I : Imm) (ρ : List Pl) (w : World) (a : Act), St I ρ H w → (∀ x, VRel I ρ (aeval e x) (a.eval x)) → ∃ u, (execOp a.eval o).run P w = .ok (.value u) w ∧ VRel I ρ v u) : ∃ v, K v ∧ QOk P o e H v :=
  ⟨v, hK, fun I ρ w a hst he => h I ρ w a hst (aeval_rel he)⟩

theorem qoko {o : Oper} {v : V} {K : V → Prop} (hK : K v) (h : ∀ (I : Imm) (ρ : List Pl) (w : World) (a : Act), St I ρ H w → (∀ x, VRel I ρ (aevo e x) (a.eval x)) → ∃ u, (execOp a.eval o).run P w = .ok (.value u) w ∧ VRel I ρ v u) : ∃ v, K v ∧ QOk P o e H v :=
  ⟨v, hK, fun I ρ w a hst he => h I ρ w a hst (aevo_rel he)⟩

theorem data_append (a b : ByteArray) : (a ++ b).data.toList = a.data.toList ++ b.data.toList := by simp

theorem q_binStr {o : Oper} {op : BinOp} {t : TypeId} {x y : Operand} {yt : TypeId} (ho : o.op = .binOp op t x y yt) {m n : List UInt8}
    (hx : aevo e x = .str m) (hy : aevo e y = .str n) {K : V → Prop} (h : abinStr op m n K) : ∃ v, K v ∧ QOk P o e H v := by
  have key : ∀ r : V, K r → (∀ (w : World) (a b : ByteArray), a.data.toList = m → b.data.toList = n → ∃ u, (binOp op t (.string a) (.string b)).run P w = .ok u w ∧ ∀ (I : Imm) (ρ : List Pl), VRel I ρ r u) → ∃ v, K v ∧ QOk P o e H v := fun r hK hr =>
    qoko hK fun I ρ w a hst he => by
      have h1 := he x
      have h2 := he y
      rw [hx] at h1; rw [hy] at h2
      obtain ⟨s, hs, e1⟩ := vr_str h1
      obtain ⟨q, hq, e2⟩ := vr_str h2
      obtain ⟨u, hu, hv⟩ := hr w s q hs hq
      exact ⟨u, run_bin ho e1 e2 (by simp) (by simp) hu, hv I ρ⟩
  have heq : ∀ a b : ByteArray, a.data.toList = m → b.data.toList = n → (a.toList == b.toList) = decide (m = n) := by
    intro a b ha hb; subst ha; subst hb; exact str_eq a b
  have hlt : ∀ a b : ByteArray, a.data.toList = m → b.data.toList = n → Op.bytesLess a.toList b.toList = Op.bytesLess m n := by
    intro a b ha hb; subst ha; subst hb; rw [ByteArray.toList_eq, ByteArray.toList_eq]
  cases op <;> simp only [abinStr] at h <;> try exact h.elim
  case add =>
    refine key _ h.2 fun w a b ha hb => ⟨.string (a ++ b), ?_, fun I ρ => vr_str' _ (by rw [data_append, ha, hb])⟩
    have e1 : a.size = m.length := by rw [← ha]; rfl
    have e2 : b.size = n.length := by rw [← hb]; rfl
    have h1 := h.1
    simp only [binOp, Op.stringOp]
    rw [if_neg]
    · rfl
    · rw [show IntKind.i64.max = 9223372036854775807 from by decide]
      rw [e1, e2]; omega
  case eql => exact key _ h fun w a b ha hb => ⟨_, by simp only [binOp, Op.stringOp]; rfl, fun I ρ => by rw [heq a b ha hb]; exact .bool _ _⟩
  case neq => exact key _ h fun w a b ha hb => ⟨_, by simp only [binOp, Op.stringOp]; rfl, fun I ρ => by rw [heq a b ha hb]; exact .bool _ _⟩
  case lss => exact key _ h fun w a b ha hb => ⟨_, by simp only [binOp, Op.stringOp]; rfl, fun I ρ => by rw [hlt a b ha hb]; exact .bool _ _⟩
  case leq => exact key _ h fun w a b ha hb => ⟨_, by simp only [binOp, Op.stringOp]; rfl, fun I ρ => by rw [heq a b ha hb, hlt a b ha hb]; exact .bool _ _⟩
  case gtr => exact key _ h fun w a b ha hb => ⟨_, by simp only [binOp, Op.stringOp]; rfl, fun I ρ => by rw [heq a b ha hb, hlt a b ha hb]; exact .bool _ _⟩
  case geq => exact key _ h fun w a b ha hb => ⟨_, by simp only [binOp, Op.stringOp]; rfl, fun I ρ => by rw [hlt a b ha hb]; exact .bool _ _⟩

/-- '==' and '!=' of two values that 'Op.equal' tells apart. -/
theorem q_eqn {o : Oper} {op : BinOp} {t : TypeId} {x y : Operand} {yt : TypeId} (ho : o.op = .binOp op t x y yt) {b : Bool} {K : V → Prop} (h : aeqn op b K)
    (hr : ∀ (I : Imm) (ρ : List Pl) (w : World) (a : Act), (∀ x, VRel I ρ (aevo e x) (a.eval x)) → (Op.equal t (a.eval x) (a.eval y)).run P w = .ok b w ∧ a.eval x ≠ .nilIface ∧ (∀ c, a.eval x ≠ .agg c) ∧
      (∀ k n, a.eval x ≠ .int k n) ∧ (∀ s, a.eval x ≠ .string s) ∧ (∀ k n, a.eval x ≠ .float k n) ∧ (∀ k m n, a.eval x ≠ .complex k m n)) : ∃ v, K v ∧ QOk P o e H v := by
  have key : ∀ (w : World) (u v : Value), (Op.equal t u v).run P w = .ok b w → u ≠ .nilIface → (∀ c, u ≠ .agg c) → (∀ k n, u ≠ .int k n) → (∀ s, u ≠ .string s) → (∀ k n, u ≠ .float k n) → (∀ k m n, u ≠ .complex k m n) →
      (binOp .eql t u v).run P w = .ok (.bool b) w ∧ (binOp .neq t u v).run P w = .ok (.bool (!b)) w := by
    intro w u v h1 h2 h3 h4 h5 h6 h7
    constructor <;> (unfold binOp; split <;> first | (exfalso; first | exact h4 _ _ rfl | exact h5 _ rfl | exact h6 _ _ rfl | exact h7 _ _ _ rfl | contradiction) | (simp [h1]))
  cases op <;> simp only [aeqn] at h <;> try exact h.elim
  case eql =>
    refine qoko h fun I ρ w a hst he => ?_
    obtain ⟨h1, h2, h3, h4, h5, h6, h7⟩ := hr I ρ w a he
    exact ⟨_, run_bin ho rfl rfl h2 h3 (key w _ _ h1 h2 h3 h4 h5 h6 h7).1, .bool _ _⟩
  case neq =>
    refine qoko h fun I ρ w a hst he => ?_
    obtain ⟨h1, h2, h3, h4, h5, h6, h7⟩ := hr I ρ w a he
    exact ⟨_, run_bin ho rfl rfl h2 h3 (key w _ _ h1 h2 h3 h4 h5 h6 h7).2, .bool _ _⟩

theorem equal_ptr {t q : TypeId} (h : P.underlying t = some (.pointer q)) (p : Option Addr) (w : World) : (Op.equal t (.pointer p) (.pointer none)).run P w = .ok p.isNone w := by
  show (Op.equalIn (9999 + 1) t _ _).run P w = _
  rw [Op.equalIn]
  cases p <;> simp [run_underlying' h]
theorem equal_sl {t q : TypeId} (h : P.underlying t = some (.slice q)) (p : Option Addr) (l c : Nat) (w : World) : (Op.equal t (.slice p l c) (.slice none 0 0)).run P w = .ok p.isNone w := by
  show (Op.equalIn (9999 + 1) t _ _).run P w = _
  rw [Op.equalIn]
  cases p <;> simp [run_underlying' h]
theorem equal_bool {t : TypeId} (h : P.underlying t = some .bool) (x y : Bool) (w : World) : (Op.equal t (.bool x) (.bool y)).run P w = .ok (x == y) w := by
  show (Op.equalIn (9999 + 1) t _ _).run P w = _
  rw [Op.equalIn]
  simp [run_underlying' h]
theorem equal_fn {t : TypeId} {a b c} (h : P.underlying t = some (.func a b c)) (v : Value) (hv : v = .nilFunc ∨ ∃ f x y, v = .func f x y) (w : World) : (Op.equal t v .nilFunc).run P w = .ok (match v with | .nilFunc => true | _ => false) w := by
  show (Op.equalIn (9999 + 1) t _ _).run P w = _
  rw [Op.equalIn]
  rcases hv with rfl | ⟨f, x, y, rfl⟩ <;> simp [run_underlying' h]

theorem vr_leaf {k : TK} {x y : V} {K : Bool → Prop} (h : leafEq k x y K) {d : Nat} {t : TypeId} (hT : TIok P T) (hk : (T t).kind = k) : ∃ b, K b ∧ ∀ (I : Imm) (ρ : List Pl) (u v : Value) (w : World), VRel I ρ x u → VRel I ρ y v → (Op.equalIn (d + 1) t u v).run P w = .ok b w := by
  unfold leafEq at h
  split at h
  · split at h <;> try exact h.elim
    rename_i k1 a k2 b
    cases hd : decide (k1 = k2) <;> simp only [hd] at h
    have := of_decide_eq_true hd
    subst this
    refine ⟨_, h, fun I ρ u v w h1 h2 => ?_⟩
    rw [vr_int h1, vr_int h2, run_equalIn_int w d t _ _ a b (ty_int hT hk), beq_dec]
  · split at h <;> try exact h.elim
    rename_i a b
    refine ⟨_, h, fun I ρ u v w h1 h2 => ?_⟩
    rw [vr_bool h1, vr_bool h2, run_equalIn_bool' w d t a b (ty_bool hT hk)]
  · split at h <;> try exact h.elim
    rename_i a b
    refine ⟨_, h, fun I ρ u v w h1 h2 => ?_⟩
    obtain ⟨s, hs, e1⟩ := vr_str h1
    obtain ⟨q, hq, e2⟩ := vr_str h2
    subst hs; subst hq
    rw [e1, e2, run_equalIn_string w d t s q (ty_str hT hk), str_eq]
  · exact h.elim

theorem leafEq_kind {k : TK} {x y : V} {K : Bool → Prop} (h : leafEq k x y K) : k.isAgg = false := by
  unfold leafEq at h; split at h <;> first | rfl | exact h.elim

theorem leafEq_good (hT : TIok P T) {t : TypeId} {x y : V} {K : Bool → Prop} (h : leafEq (T t).kind x y K) : (T t).good = true := by
  have hne : T t ≠ TI.bad := fun e => by rw [e] at h; exact h
  obtain ⟨i, z, d, _, _, _, h4, _⟩ := ti_all hT hne
  rw [h4]

theorem run_part (hT : TIok P T) {t : TypeId} (hg : (T t).good = true) (ha : (T t).kind.isAgg = false) {cs : Array Value} {o : Nat} {v : Value} (h : cs[o]? = some v) (w : World) : (part t cs o).run P w = .ok v w := by
  simp [part, run_isAgg' hT hg, ha, h]

theorem fieldsEq_sound (hT : TIok P T) (d : Nat) : ∀ (fs : List Field) {xs ys : List V} {K : Bool → Prop}, (∀ f ∈ fs, f.name ≠ "_") → fieldsEq T xs ys (fs.map fun f => (f.offset, f.type)) K → ∃ b, K b ∧ ∀ (I : Imm) (ρ : List Pl) (us vs : Array Value) (w : World),
    (xs.length = us.size ∧ ∀ (i : Nat) (a : V) (u : Value), xs[i]? = some a → us[i]? = some u → VRel I ρ a u) → (ys.length = vs.size ∧ ∀ (i : Nat) (a : V) (u : Value), ys[i]? = some a → vs[i]? = some u → VRel I ρ a u) →
    (Op.eqFields (d + 1) us vs fs).run P w = .ok b w
  | [], xs, ys, K, _, h => ⟨true, h, fun I ρ us vs w _ _ => by simp [Op.eqFields]⟩
  | f :: fs, xs, ys, K, hn, h => by
    simp only [List.map_cons, fieldsEq] at h
    split at h <;> try exact h.elim
    rename_i x y hsz hx hy
    obtain ⟨b, hb, hr⟩ := vr_leaf (d := d) h hT rfl
    obtain ⟨c, hc, hr2⟩ := fieldsEq_sound hT d fs (fun f hf => hn f (by simp [hf])) hb
    refine ⟨_, hc, fun I ρ us vs w h1 h2 => ?_⟩
    have hg := leafEq_good hT h
    have ha := leafEq_kind h
    have l1 := (List.getElem?_eq_some_iff.1 hx).1
    have l2 := (List.getElem?_eq_some_iff.1 hy).1
    obtain ⟨u, hu⟩ : ∃ u, us[f.offset]? = some u := ⟨_, Array.getElem?_eq_getElem (by omega)⟩
    obtain ⟨v, hv⟩ : ∃ v, vs[f.offset]? = some v := ⟨_, Array.getElem?_eq_getElem (by omega)⟩
    have hnm := hn f (by simp)
    simp only [Op.eqFields, if_pos hnm, Sem.run_bind, run_part hT hg ha hu, run_part hT hg ha hv, Result.andThen_ok, hr I ρ u v w (h1.2 _ _ _ hx hu) (h2.2 _ _ _ hy hv)]
    cases b with
    | false => simp
    | true => simp [hr2 I ρ us vs w h1 h2]

theorem q_eqAgg (hT : TIok P T) {o : Oper} {op : BinOp} {t : TypeId} {x y : Operand} {yt : TypeId} (ho : o.op = .binOp op t x y yt) {xs ys : List V} (hx : aevo e x = .agg xs) (hy : aevo e y = .agg ys) {fs : List (Nat × TypeId)} (hk : (T t).kind = .struct fs) (hq : (T t).eqok = true) {K : V → Prop}
    (h : fieldsEq T xs ys fs fun b => aeqn op b K) : ∃ v, K v ∧ QOk P o e H v := by
  have hne : T t ≠ TI.bad := fun e => by rw [e] at hk; cases hk
  obtain ⟨i, z, d, h1, h2, h3, h4, _⟩ := ti_all hT hne
  rw [h4] at hk hq
  simp only at hk hq
  obtain ⟨fa, rfl, rfl⟩ := kind_struct hk
  simp only [eqOf, Bool.and_eq_true, List.all_eq_true, Bool.not_eq_true', bne_iff_ne] at hq
  obtain ⟨q1, q2, q3⟩ := hq
  obtain ⟨b, hb, hr⟩ := fieldsEq_sound hT 9998 fa.toList (fun f hf => (q1 f hf).2) h
  have hf : P.fieldsOf t = fa := by simp [Program.fieldsOf, h3]
  have h3' : P.underlying t = some (.struct (P.fieldsOf t)) := by rw [hf]; exact h3
  have key : ∀ (I : Imm) (ρ : List Pl) (w : World) (us vs : Array Value), VRel I ρ (.agg xs) (.agg us) → VRel I ρ (.agg ys) (.agg vs) → (Op.equalIn 10000 t (.agg us) (.agg vs)).run P w = .ok b w := by
    intro I ρ w us vs g1 g2
    obtain ⟨us', e1, a1, _, a3⟩ := vr_agg g1
    cases e1
    obtain ⟨vs', e2, b1, _, b3⟩ := vr_agg g2
    cases e2
    rw [run_equalIn_agg w 9999 t us vs h3' q2, hf]
    exact hr I ρ us vs w ⟨a1, a3⟩ ⟨b1, b3⟩
  cases op <;> simp only [aeqn] at hb <;> try exact hb.elim
  case eql =>
    refine qoko hb fun I ρ w a hst he => ?_
    have g1 := he x; have g2 := he y
    rw [hx] at g1; rw [hy] at g2
    obtain ⟨us, e1, _⟩ := vr_agg g1
    obtain ⟨vs, e2, _⟩ := vr_agg g2
    rw [e1] at g1; rw [e2] at g2
    refine ⟨.bool b, ?_, .bool _ _⟩
    have := key I ρ w us vs g1 g2
    simp [execOp, ho, e1, e2, run_eqGuard_agg w .eql t x y us vs q3, run_eql_struct, this]
  case neq =>
    refine qoko hb fun I ρ w a hst he => ?_
    have g1 := he x; have g2 := he y
    rw [hx] at g1; rw [hy] at g2
    obtain ⟨us, e1, _⟩ := vr_agg g1
    obtain ⟨vs, e2, _⟩ := vr_agg g2
    rw [e1] at g1; rw [e2] at g2
    refine ⟨.bool (!b), ?_, .bool _ _⟩
    have := key I ρ w us vs g1 g2
    simp [execOp, ho, e1, e2, run_eqGuard_agg w .neq t x y us vs q3, run_neq_struct, this]

theorem q_bin (hT : TIok P T) {o : Oper} {op : BinOp} {t : TypeId} {x y : Operand} {yt : TypeId} (ho : o.op = .binOp op t x y yt) {K : V → Prop} (h : abin T op t (aevo e x) (aevo e y) K) : ∃ v, K v ∧ QOk P o e H v := by
  unfold abin at h
  split at h
  · rename_i k a k' b hx hy
    split at h
    · refine qoko h.2 fun I ρ w c hst he => ?_
      have h1 := he x; have h2 := he y
      rw [hx] at h1; rw [hy] at h2
      exact ⟨_, run_bin ho (vr_int h1) (vr_int h2) (by simp) (by simp) (by simp [binOp, Op.shift, Int.not_lt.2 h.1]), .int _ _ _⟩
    · refine qoko h.2 fun I ρ w c hst he => ?_
      have h1 := he x; have h2 := he y
      rw [hx] at h1; rw [hy] at h2
      exact ⟨_, run_bin ho (vr_int h1) (vr_int h2) (by simp) (by simp) (by simp [binOp, Op.shift, Int.not_lt.2 h.1]), .int _ _ _⟩
    · cases hk : decide (k = k') with
      | false => simp only [hk] at h
      | true =>
        simp only [hk] at h
        have := of_decide_eq_true hk
        subst this
        exact q_binInt ho hx hy h
  · rename_i a b hx hy
    exact q_binStr ho hx hy h
  · rename_i a b hx hy
    cases hk : (T t).kind <;> simp only [hk] at h
    refine q_eqn ho h fun I ρ w c he => ?_
    have h1 := he x; have h2 := he y
    rw [hx] at h1; rw [hy] at h2
    rw [vr_bool h1, vr_bool h2]
    exact ⟨equal_bool (ty_bool hT hk) _ _ _, by simp⟩
  all_goals first | exact h.elim | skip
  all_goals
    cases hk : (T t).kind <;> simp only [hk] at h
  · rename_i hx hy q
    rw [hx] at h
    refine q_eqn ho h fun I ρ w c he => ?_
    have h1 := he x; have h2 := he y
    rw [hx] at h1; rw [hy] at h2
    rw [vr_nilp h1, vr_nilp h2]
    exact ⟨equal_ptr (ty_ptr hT hk) _ _, by simp⟩
  · rename_i i o hx hy q
    rw [hx] at h
    refine q_eqn ho h fun I ρ w c he => ?_
    have h1 := he x; have h2 := he y
    rw [hx] at h1; rw [hy] at h2
    obtain ⟨p, _, e1⟩ := vr_ptr h1
    rw [e1, vr_nilp h2]
    exact ⟨equal_ptr (ty_ptr hT hk) _ _, by simp⟩
  · rename_i i o hx hy q
    rw [hx] at h
    refine q_eqn ho h fun I ρ w c he => ?_
    have h1 := he x; have h2 := he y
    rw [hx] at h1; rw [hy] at h2
    obtain ⟨b, base, f, _, _, _, e1⟩ := vr_ip h1
    rw [e1, vr_nilp h2]
    exact ⟨equal_ptr (ty_ptr hT hk) _ _, by simp⟩
  · rename_i i j o hx hy q
    rw [hx] at h
    refine q_eqn ho h fun I ρ w c he => ?_
    have h1 := he x; have h2 := he y
    rw [hx] at h1; rw [hy] at h2
    obtain ⟨p, _, e1⟩ := vr_ep h1
    rw [e1, vr_nilp h2]
    exact ⟨equal_ptr (ty_ptr hT hk) _ _, by simp⟩
  · rename_i g hx hy q
    rw [hx] at h
    refine q_eqn ho h fun I ρ w c he => ?_
    have h1 := he x; have h2 := he y
    rw [hx] at h1; rw [hy] at h2
    rw [vr_glob h1, vr_nilp h2]
    exact ⟨equal_ptr (ty_ptr hT hk) _ _, by simp⟩
  · rename_i hx hy q
    rw [hx] at h
    refine q_eqn ho h fun I ρ w c he => ?_
    have h1 := he x; have h2 := he y
    rw [hx] at h1; rw [hy] at h2
    rw [vr_nils h1, vr_nils h2]
    exact ⟨equal_sl (ty_sl hT hk) _ _ _ _, by simp⟩
  · rename_i sz d l f hx hy q
    rw [hx] at h
    refine q_eqn ho h fun I ρ w c he => ?_
    have h1 := he x; have h2 := he y
    rw [hx] at h1; rw [hy] at h2
    rw [vr_nils h2]
    revert h1
    generalize c.eval x = u
    intro h1
    cases h1
    exact ⟨equal_sl (ty_sl hT hk) _ _ _ _, by simp⟩
  · rename_i xs ys hx hy fs
    split at h <;> try exact h.elim
    rename_i hkk hq
    cases hkk
    exact q_eqAgg hT ho hx hy hk hq h
  · rename_i sz i j l f hx hy q
    refine q_eqn ho h.2 fun I ρ w c he => ?_
    have h1 := he x; have h2 := he y
    rw [hx] at h1; rw [hy] at h2
    rw [vr_nils h2]
    have hl := h.1
    revert h1
    generalize c.eval x = u
    intro h1
    cases h1 with
    | ms => exact ⟨equal_sl (ty_sl hT hk) _ _ _ _, by simp⟩
    | ms0 => exact absurd hl (by omega)
  · rename_i hx hy
    rw [hx] at h
    obtain ⟨p, q, r, hu⟩ := ty_fn hT hk
    refine q_eqn ho h fun I ρ w c he => ?_
    have h1 := he x; have h2 := he y
    rw [hx] at h1; rw [hy] at h2
    rw [vr_nilf h1, vr_nilf h2]
    exact ⟨equal_fn hu _ (.inl rfl) _, by simp⟩
  · rename_i g as bs hx hy
    rw [hx] at h
    obtain ⟨p, q, r, hu⟩ := ty_fn hT hk
    refine q_eqn ho h fun I ρ w c he => ?_
    have h1 := he x; have h2 := he y
    rw [hx] at h1; rw [hy] at h2
    obtain ⟨us, ws, e1, _, _⟩ := vr_fn h1
    rw [e1, vr_nilf h2]
    exact ⟨equal_fn hu _ (.inr ⟨_, _, _, rfl⟩) _, by simp⟩

theorem q_un {o : Oper} {op : UnOp} {t : TypeId} {x : Operand} (ho : o.op = .unOp op t x) {K : V → Prop} (h : aun op (aevo e x) K) : ∃ v, K v ∧ QOk P o e H v := by
  unfold aun at h
  split at h
  · rename_i k n hx
    refine qoko h fun I ρ w a hst he => ?_
    have h1 := he x
    rw [hx] at h1
    exact ⟨_, by simp [execOp, ho, vr_int h1, Op.unary, Op.intArith], .int _ _ _⟩
  · rename_i k n hx
    refine qoko h fun I ρ w a hst he => ?_
    have h1 := he x
    rw [hx] at h1
    exact ⟨.int k (k.wrap (BitVec.ofInt k.bits (if k.signed then -1 else k.max) ^^^ BitVec.ofInt k.bits n).toNat), run_v (s := Op.unary .xor (.int k n)) (by rw [← vr_int h1]; simp [execOp, ho]) rfl, .int _ _ _⟩
  · rename_i b hx
    refine qoko h fun I ρ w a hst he => ?_
    have h1 := he x
    rw [hx] at h1
    exact ⟨_, by simp [execOp, ho, vr_bool h1, Op.unary], .bool _ _⟩
  · exact h.elim

theorem q_extract {o : Oper} {x : Operand} {i : Nat} (ho : o.op = .extract x i) {K : V → Prop} (h : qExtract (aeval e x) i K) : ∃ v, K v ∧ QOk P o e H v := by
  unfold qExtract at h
  cases hx : aeval e x <;> simp only [hx] at h
  rename_i vs
  cases hv : vs[i]? <;> simp only [hv, force_iff] at h
  rename_i v
  refine qok h fun I ρ w a hst he => ?_
  have h1 := he x
  rw [hx] at h1
  obtain ⟨us, e1, hl, hr⟩ := vr_tup h1
  have hlt : i < us.size := by rw [← hl]; exact (List.getElem?_eq_some_iff.1 hv).1
  refine ⟨us[i], ?_, hr i v _ hv (by simp [hlt])⟩
  simp [execOp, ho, e1, Instr.extract, hlt]

theorem q_iface (hT : TIok P T) {o : Oper} {t : TypeId} {x : Operand} (ho : o.op = .makeInterface t x) {K : V → Prop} (h : qIface T t (aeval e x) K) : ∃ v, K v ∧ QOk P o e H v := by
  unfold qIface at h
  have key : force (aeval e x) (fun v => K (.iface t v)) → (∃ d, P.underlying t = some d ∧ ∀ m, d ≠ .interface m) → ∃ v, K v ∧ QOk P o e H v := by
    intro hf ⟨d, hd, hn⟩
    rw [force_iff] at hf
    refine qok hf fun I ρ w a hst he => ⟨_, ?_, .iface _ _ _ _ (he x)⟩
    cases d <;> simp [execOp, ho, Instr.makeInterface, run_underlying' hd] at hn ⊢
  have und : ∀ k, (T t).kind = k → k ≠ .other → k ≠ .iface → ∃ d, P.underlying t = some d ∧ ∀ m, d ≠ .interface m := by
    intro k hk h1 h2
    obtain ⟨d, hd, hkd⟩ := ti_kind hT hk h1
    exact ⟨d, hd, fun m e => by subst e; exact h2 hkd.symm⟩
  cases hk : (T t).kind <;> simp only [hk] at h
  all_goals exact key h (und _ hk (by simp) (by simp))

theorem q_field (hT : TIok P T) {o : Oper} {s : TypeId} {f : Nat} {x : Operand} (ho : o.op = .field s x f) {K : V → Prop} (h : qField T s f (aevo e x) K) : ∃ v, K v ∧ QOk P o e H v := by
  unfold qField at h
  cases hf : fieldAt T s f <;> simp only [hf] at h
  rename_i ft
  obtain ⟨fo, ft⟩ := ft
  cases hx : aevo e x <;> simp only [hx] at h
  rename_i cs
  unfold fieldAt at hf
  cases hk : (T s).kind <;> simp only [hk] at hf <;> try (cases hf; done)
  rename_i fs
  obtain ⟨fa, hu, hfs⟩ := ty_struct hT hk
  subst hfs
  have hfa : ∃ fd, fa[f]? = some fd ∧ fd.offset = fo ∧ fd.type = ft := by
    rw [List.getElem?_map] at hf
    cases hq : fa.toList[f]? with
    | none => rw [hq] at hf; simp at hf
    | some fd => rw [hq] at hf; simp at hf; exact ⟨fd, by simpa using hq, hf.1, hf.2⟩
  obtain ⟨fd, hfd, rfl, rfl⟩ := hfa
  unfold loadV at h
  cases hg : (T fd.type).good with
  | false => simp only [hg] at h
  | true =>
    simp only [hg] at h
    obtain ⟨i, z, d, h1, h2, h3, h4, _⟩ := ti_good hT hg
    have hsz : (T fd.type).size = i.size := by rw [h4]
    cases ha : (T fd.type).kind.isAgg with
    | true =>
      simp only [ha] at h
      cases hb : Nat.ble (fd.offset + (T fd.type).size) cs.length with
      | false => simp only [hb] at h
      | true =>
        simp only [hb, copyL_iff] at h
        refine qoko h fun I ρ w a hst he => ?_
        have hr := he x
        rw [hx] at hr
        obtain ⟨us, e1, hl, hone, hr⟩ := vr_agg hr
        refine ⟨.agg (us.extract fd.offset (fd.offset + i.size)), ?_, ?_⟩
        · simp [execOp, ho, e1, Instr.field, run_underlying' hu, hfd, part, asAgg, run_isAgg' hT hg, ha, run_sizeOf' h1]
        · have hle := Nat.le_of_ble_eq_true hb
          rw [hsz] at hle ⊢
          refine .agg _ _ _ (by simp; omega) (fun j u hu' => by
            rw [Array.getElem?_extract] at hu'
            split at hu'
            · exact hone _ _ hu'
            · cases hu') (fun j c u hc hu' => ?_)
          have hj : j < i.size := by have := (List.getElem?_eq_some_iff.1 hc).1; simp at this; omega
          refine hr (fd.offset + j) c u ?_ ?_
          · rw [List.getElem?_take_of_lt hj, List.getElem?_drop] at hc; exact hc
          · rw [Array.getElem?_extract] at hu'
            split at hu'
            · exact hu'
            · cases hu'
    | false =>
      simp only [ha] at h
      cases hv : cs[fd.offset]? <;> simp only [hv, force_iff] at h
      rename_i v
      refine qoko h fun I ρ w a hst he => ?_
      have hr := he x
      rw [hx] at hr
      obtain ⟨us, e1, hl, _, hr⟩ := vr_agg hr
      have hlt : fd.offset < us.size := by rw [← hl]; exact (List.getElem?_eq_some_iff.1 hv).1
      refine ⟨us[fd.offset], ?_, hr _ v _ hv (by simp [hlt])⟩
      simp [execOp, ho, e1, Instr.field, run_underlying' hu, hfd, part, asAgg, run_isAgg' hT hg, ha, hlt]

theorem run_fieldPlace {ft : Field} {i : TypeInfo} (hi : P.info? ft.type = some i) (h0 : i.size ≠ 0) (a : Addr) (w : World) : (fieldPlace a ft).run P w = .ok (a.add ft.offset) w := by
  simp [fieldPlace, run_sizeOf' hi, h0]

theorem addr_add (b o n : Nat) : (⟨b, o, none⟩ : Addr).add n = ⟨b, o + n, none⟩ := by
  unfold Addr.add
  by_cases h : n = 0
  · subst h; simp
  · simp [h]

theorem q_fieldAddr (hT : TIok P T) {o : Oper} {s : TypeId} {f : Nat} {x : Operand} (ho : o.op = .fieldAddr s x f) {K : V → Prop} (h : qFieldAddr T s f (aevo e x) K) : ∃ v, K v ∧ QOk P o e H v := by
  unfold qFieldAddr at h
  cases hf : fieldAt T s f <;> simp only [hf] at h
  rename_i ft
  obtain ⟨fo, ft⟩ := ft
  unfold fieldAt at hf
  cases hk : (T s).kind <;> simp only [hk] at hf <;> try (cases hf; done)
  rename_i fs
  obtain ⟨fa, hu, hfs⟩ := ty_struct hT hk
  subst hfs
  have hfa : ∃ fd, fa[f]? = some fd ∧ fd.offset = fo ∧ fd.type = ft := by
    rw [List.getElem?_map] at hf
    cases hq : fa.toList[f]? with
    | none => rw [hq] at hf; simp at hf
    | some fd => rw [hq] at hf; simp at hf; exact ⟨fd, by simpa using hq, hf.1, hf.2⟩
  obtain ⟨fd, hfd, rfl, rfl⟩ := hfa
  cases hg : (T fd.type).good <;> simp only [hg] at h
  obtain ⟨i, z, d, h1, h2, h3, h4, _⟩ := ti_good hT hg
  cases hs : (T fd.type).size <;> simp only [hs] at h
  rename_i sz
  have hsz : i.size ≠ 0 := by rw [h4] at hs; simp at hs; omega
  have run : ∀ (a : Act) (w : World) (b o' : Nat), a.eval x = .pointer (some ⟨b, o', none⟩) → (execOp a.eval o).run P w = .ok (.value (.pointer (some ⟨b, o' + fd.offset, none⟩))) w := by
    intro a w b o' ha
    simp [execOp, ho, ha, Instr.fieldAt, Instr.sureAddr, run_underlying' hu, hfd, run_fieldPlace h1 hsz, addr_add]
  cases hx : aevo e x <;> simp only [hx] at h
  case ptr id off =>
    refine qoko h fun I ρ w a hst he => ?_
    have hr := he x
    rw [hx] at hr
    obtain ⟨p, hp, e1⟩ := vr_ptr hr
    exact ⟨_, run a w _ _ e1, by rw [Nat.add_assoc]; exact .ptr _ _ _ _ hp⟩
  case ep id j k =>
    refine qoko h fun I ρ w a hst he => ?_
    have hr := he x
    rw [hx] at hr
    obtain ⟨p, hp, e1⟩ := vr_ep hr
    exact ⟨_, run a w _ _ e1, by rw [Nat.add_assoc, Nat.add_assoc]; exact .ep _ _ _ _ _ hp⟩
  case ip cs off =>
    refine qoko h fun I ρ w a hst he => ?_
    have hr := he x
    rw [hx] at hr
    obtain ⟨b, base, g, g1, g1', g2, e1⟩ := vr_ip hr
    exact ⟨_, run a w _ _ e1, by rw [Nat.add_assoc]; exact .ip _ _ _ _ _ g g1 g1' g2⟩

end Go.Proofs.YtcgpgpbnpjbhhaaPg
