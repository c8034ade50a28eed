/- The quiet operations, all. -/
import Derived.Test.YtcgpgpbnpjbhhaaPgA4
namespace Go.Proofs.YtcgpgpbnpjbhhaaPg
open Go Go.RowKit
variable [Globs]
set_option linter.unusedVariables false
set_option linter.unusedSimpArgs false

variable {P : Program} {T : Nat → TI} {I : Imm} {ρ : List Pl} {H : List O} {w : World} {e : Env}

theorem vr_ptr {id off : Nat} {u : Value} (h : VRel I ρ (.ptr id off) u) : ∃ p, ρ[id]? = some p ∧ u = .pointer (some ⟨p.b, p.base + off, none⟩) := by cases h; exact ⟨_, ‹_›, rfl⟩
theorem vr_ep {id i j : Nat} {u : Value} (h : VRel I ρ (.ep id i j) u) : ∃ p, ρ[id]? = some p ∧ u = .pointer (some ⟨p.b, p.base + (i * p.sz + j), none⟩) := by cases h; exact ⟨_, ‹_›, rfl⟩
theorem vr_ip {cs : List V} {off : Nat} {u : Value} (h : VRel I ρ (.ip cs off) u) : ∃ (b base : Nat) (f : Nat → Value), (∀ (i : Nat) (c : V), cs[i]? = some c → I b (base + i) = some (f i)) ∧ (∀ (i : Nat) (c : V), cs[i]? = some c → (f i).oneCell' = true) ∧ (∀ (i : Nat) (c : V), cs[i]? = some c → VRel I [] c (f i)) ∧ u = .pointer (some ⟨b, base + off, none⟩) := by
  cases h; exact ⟨_, _, _, ‹_›, ‹_›, ‹_›, rfl⟩
theorem vr_int {k : IntKind} {n : Int} {u : Value} (h : VRel I ρ (.int k n) u) : u = .int k n := by cases h; rfl
theorem vr_bool {b : Bool} {u : Value} (h : VRel I ρ (.bool b) u) : u = .bool b := by cases h; rfl
theorem vr_str {s : List UInt8} {u : Value} (h : VRel I ρ (.str s) u) : ∃ b : ByteArray, b.data.toList = s ∧ u = .string b := by cases h; exact ⟨_, rfl, rfl⟩
theorem vr_nilp {u : Value} (h : VRel I ρ .nilp u) : u = .pointer none := by cases h; rfl
theorem vr_nils {u : Value} (h : VRel I ρ .nils u) : u = .slice none 0 0 := by cases h; rfl
theorem vr_nilf {u : Value} (h : VRel I ρ .nilf u) : u = .nilFunc := by cases h; rfl
theorem vr_glob {g : Nat} {u : Value} (h : VRel I ρ (.glob g) u) : u = .pointer (some ⟨g, 0, none⟩) := by cases h; rfl
theorem vr_agg {cs : List V} {u : Value} (h : VRel I ρ (.agg cs) u) : ∃ us, u = .agg us ∧ cs.length = us.size ∧ (∀ (i : Nat) (u : Value), us[i]? = some u → u.oneCell' = true) ∧ ∀ (i : Nat) (a : V) (u : Value), cs[i]? = some a → us[i]? = some u → VRel I ρ a u := by cases h; exact ⟨_, rfl, ‹_›, ‹_›, ‹_›⟩
theorem vr_tup {cs : List V} {u : Value} (h : VRel I ρ (.tup cs) u) : ∃ us, u = .tuple us ∧ cs.length = us.size ∧ ∀ (i : Nat) (a : V) (u : Value), cs[i]? = some a → us[i]? = some u → VRel I ρ a u := by cases h; exact ⟨_, rfl, ‹_›, ‹_›⟩
theorem vr_fn {f : Fn} {as bs : List V} {u : Value} (h : VRel I ρ (.fn f as bs) u) : ∃ us ws, u = .func f us ws ∧ VRels I ρ as us.toList ∧ VRels I ρ bs ws.toList := by
  cases h with
  | fn _ _ _ _ us ws h1 h2 h3 h4 => exact ⟨us, ws, rfl, ⟨by simpa using h1, fun i a u ha hu => h3 i a u ha (by simpa using hu)⟩, ⟨by simpa using h2, fun i a u ha hu => h4 i a u ha (by simpa using hu)⟩⟩
theorem vr_str' (s : ByteArray) {l : List UInt8} (h : s.data.toList = l) : VRel I ρ (.str l) (.string s) := by subst h; exact .str _ s

theorem size_bytes (b : ByteArray) : b.data.toList.length = b.size := rfl

theorem ep_cells {id i : Nat} {es : List (List V)} {x : List V} {p : Pl} (hst : St I ρ H w) (hp : ρ[id]? = some p) (hb : getO H id = .buf es) (hx : es[i]? = some x) :
    x.length = p.sz ∧ CellsAt I [] w p.b (p.base + i * p.sz) x ∧ es.length ≤ p.tot ∧ Open w p.b p.base (p.base + p.tot * p.sz) := by
  have := hst.obj id p _ hp (getO_some hb (by simp))
  rcases this with ⟨h0, _⟩ | ⟨h1, h2, h3⟩
  · subst h0; simp at hx
  · exact ⟨(h3 i x hx).1, (h3 i x hx).2, h1, h2⟩

theorem CellsAt.up {b base : Nat} {cs : List V} (h : CellsAt I [] w b base cs) : CellsAt I ρ w b base cs := fun i v hv => by
  obtain ⟨u, h1, ho, h2⟩ := h i v hv
  exact ⟨u, h1, ho, h2.mono (ILe.refl _) (PLe.nil _)⟩

theorem q_load (hT : TIok P T) {o : Oper} {t : TypeId} {x : Operand} (ho : o.op = .load t x) {K : V → Prop} (h : qLoad T H t (aevo e x) K) : ∃ v, K v ∧ QOk P o e H v := by
  unfold qLoad at h
  cases hx : aevo e x <;> simp only [hx] at h
  case ptr id off =>
    cases hg : getO H id <;> simp only [hg] at h
    rename_i cs
    obtain ⟨v, hK, hl⟩ := loadV_sound hT h
    refine ⟨v, hK, fun I ρ w a hst he => ?_⟩
    have hr := aevo_rel he x
    rw [hx] at hr
    obtain ⟨p, hp, hu⟩ := vr_ptr hr
    obtain ⟨hb0, _, hc⟩ := hst.cells hg hp
    obtain ⟨u, hrun, hv⟩ := hl I ρ w p.b 0 hc
    refine ⟨u, ?_, hv⟩
    rw [Nat.zero_add] at hrun
    simp only [execOp, ho, hu, Instr.loadAt, Instr.sureAddr, hb0, Nat.zero_add]
    simp [hrun]
  case ep id i j =>
    cases hg : getO H id <;> simp only [hg] at h
    rename_i es
    obtain ⟨y, hy, h⟩ := h
    obtain ⟨v, hK, hl⟩ := loadV_sound hT h
    refine ⟨v, hK, fun I ρ w a hst he => ?_⟩
    have hr := aevo_rel he x
    rw [hx] at hr
    obtain ⟨p, hp, hu⟩ := vr_ep hr
    obtain ⟨_, hc, _, _⟩ := ep_cells hst hp hg hy
    obtain ⟨u, hrun, hv⟩ := hl I ρ w p.b _ hc.up
    refine ⟨u, ?_, hv⟩
    simp only [execOp, ho, hu, Instr.loadAt, Instr.sureAddr]
    rw [← Nat.add_assoc]
    simp [hrun]
  case ip cs off =>
    obtain ⟨v, hK, hl⟩ := loadV_sound hT h
    refine ⟨v, hK, fun I ρ w a hst he => ?_⟩
    have hr := aevo_rel he x
    rw [hx] at hr
    obtain ⟨b, base, f, h1, h1', h2, hu⟩ := vr_ip hr
    obtain ⟨u, hrun, hv⟩ := hl I ρ w b base (imm_cells hst h1 h1' h2)
    refine ⟨u, ?_, hv⟩
    simp only [execOp, ho, hu, Instr.loadAt, Instr.sureAddr]
    simp [hrun]

theorem q_move {o : Oper} {x : Operand} (ho : o.op = .move x ∨ o.op = .assign x) {K : V → Prop} (h : force (aeval e x) K) : ∃ v, K v ∧ QOk P o e H v := by
  rw [force_iff] at h
  refine ⟨_, h, fun I ρ w a hst he => ⟨a.eval x, ?_, aeval_rel he x⟩⟩
  rcases ho with ho | ho <;> simp [execOp, ho]

theorem q_pick {o : Oper} {c x y : Operand} (ho : o.op = .pick c x y) {K : V → Prop} (h : qPick (aeval e c) (aeval e x) (aeval e y) K) : ∃ v, K v ∧ QOk P o e H v := by
  unfold qPick at h
  cases hx : aeval e c <;> (try (simp only [hx] at h; done))
  case bool b =>
  cases b <;> simp only [hx, force_iff] at h
  · refine ⟨_, h, fun I ρ w a hst he => ⟨a.eval y, ?_, aeval_rel he y⟩⟩
    have hr := aeval_rel he c
    rw [hx] at hr
    simp [execOp, ho, vr_bool hr, asBool]
  · refine ⟨_, h, fun I ρ w a hst he => ⟨a.eval x, ?_, aeval_rel he x⟩⟩
    have hr := aeval_rel he c
    rw [hx] at hr
    simp [execOp, ho, vr_bool hr, asBool]

theorem q_nilCheck {o : Oper} {x : Operand} (ho : o.op = .nilCheck x) {K : V → Prop} (h : qNil (aevo e x) K) : ∃ v, K v ∧ QOk P o e H v := by
  unfold qNil at h
  cases hx : aevo e x <;> simp only [hx] at h
  case ptr id off =>
    refine ⟨_, h, fun I ρ w a hst he => ?_⟩
    have hr := aevo_rel he x
    rw [hx] at hr
    obtain ⟨p, hp, hu⟩ := vr_ptr hr
    exact ⟨a.eval x, by simp [execOp, ho, hu], by rw [hu]; exact .ptr _ _ _ _ hp⟩
  case ep id i j =>
    refine ⟨_, h, fun I ρ w a hst he => ?_⟩
    have hr := aevo_rel he x
    rw [hx] at hr
    obtain ⟨p, hp, hu⟩ := vr_ep hr
    exact ⟨a.eval x, by simp [execOp, ho, hu], by rw [hu]; exact .ep _ _ _ _ _ hp⟩
  case ip cs off =>
    refine ⟨_, h, fun I ρ w a hst he => ?_⟩
    have hr := aevo_rel he x
    rw [hx] at hr
    have hr' := hr
    obtain ⟨b, base, f, h1, h1', h2, hu⟩ := vr_ip hr
    exact ⟨a.eval x, by simp [execOp, ho, hu], hr'⟩
  case fn g as bs =>
    cases g <;> simp only at h
    refine ⟨_, h, fun I ρ w a hst he => ?_⟩
    have hr := aevo_rel he x
    rw [hx] at hr
    have hr' := hr
    obtain ⟨us, ws, hu, _, _⟩ := vr_fn hr
    exact ⟨a.eval x, by simp [execOp, ho, hu], hr'⟩

theorem eqGuard_ok {op : BinOp} {t : TypeId} {x y : Operand} {a b : Value} (h1 : a ≠ .nilIface) (h2 : ∀ c, a ≠ .agg c) : (eqGuard op t x y a b).run P w = .ok () w := by
  unfold eqGuard
  cases op <;> simp
  all_goals
    cases a <;> simp at h1 h2 ⊢

theorem run_bin {o : Oper} {op : BinOp} {t : TypeId} {x y : Operand} {yt : TypeId} (ho : o.op = .binOp op t x y yt) {a : Act} {w : World} {u v r : Value} (hx : a.eval x = u) (hy : a.eval y = v)
    (h1 : u ≠ .nilIface) (h2 : ∀ c, u ≠ .agg c) (hr : (binOp op t u v).run P w = .ok r w) : (execOp a.eval o).run P w = .ok (.value r) w := by
  subst hx; subst hy
  simp [execOp, ho, eqGuard_ok h1 h2, hr]

theorem beq_dec (x y : Int) : (x == y) = decide (x = y) := by
  by_cases h : x = y <;> simp [h]
theorem bne_dec (x y : Int) : (x != y) = !decide (x = y) := by
  by_cases h : x = y <;> simp [h, bne]

theorem q_binInt {o : Oper} {op : BinOp} {t : TypeId} {x y : Operand} {yt : TypeId} (ho : o.op = .binOp op t x y yt) {k : IntKind} {m n : Int}
    (hx : aevo e x = .int k m) (hy : aevo e y = .int k n) {K : V → Prop} (h : abinInt op k m n K) : ∃ v, K v ∧ QOk P o e H v := by
  have key : ∀ r : V, K r → (∀ w : World, ∃ u, (binOp op t (.int k m) (.int k n)).run P w = .ok u w ∧ ∀ (I : Imm) (ρ : List Pl), VRel I ρ r u) → ∃ v, K v ∧ QOk P o e H v := fun r hK hr =>
    ⟨r, hK, fun I ρ w a hst he => by
      have h1 := aevo_rel he x
      have h2 := aevo_rel he y
      rw [hx] at h1; rw [hy] at h2
      obtain ⟨u, hu, hv⟩ := hr w
      exact ⟨u, run_bin ho (vr_int h1) (vr_int h2) (by simp) (by simp) hu, hv I ρ⟩⟩
  cases op <;> simp only [abinInt] at h <;> try exact h.elim
  case add => exact key _ h fun w => ⟨_, by simp [binOp, Op.intArith], fun _ _ => .int _ _ _⟩
  case sub => exact key _ h fun w => ⟨_, by simp [binOp, Op.intArith], fun _ _ => .int _ _ _⟩
  case mul => exact key _ h fun w => ⟨_, by simp [binOp, Op.intArith], fun _ _ => .int _ _ _⟩
  case quo => exact key _ h.2 fun w => ⟨_, by simp [binOp, Op.intDiv, h.1], fun _ _ => .int _ _ _⟩
  case rem => exact key _ h.2 fun w => ⟨_, by simp [binOp, Op.intDiv, h.1], fun _ _ => .int _ _ _⟩
  case and => exact key _ h fun w => ⟨.int k (k.wrap (BitVec.ofInt k.bits m &&& BitVec.ofInt k.bits n).toNat), by simp only [binOp, Op.intBits]; rw [if_neg (by simp)]; rfl, fun _ _ => .int _ _ _⟩
  case or => exact key _ h fun w => ⟨.int k (k.wrap (BitVec.ofInt k.bits m ||| BitVec.ofInt k.bits n).toNat), by simp only [binOp, Op.intBits]; rw [if_neg (by simp)]; rfl, fun _ _ => .int _ _ _⟩
  case xor => exact key _ h fun w => ⟨.int k (k.wrap (BitVec.ofInt k.bits m ^^^ BitVec.ofInt k.bits n).toNat), by simp only [binOp, Op.intBits]; rw [if_neg (by simp)]; rfl, fun _ _ => .int _ _ _⟩
  case andNot => exact key _ h fun w => ⟨.int k (k.wrap (BitVec.ofInt k.bits m &&& ~~~ BitVec.ofInt k.bits n).toNat), by simp only [binOp, Op.intBits]; rw [if_neg (by simp)]; rfl, fun _ _ => .int _ _ _⟩
  case eql => exact key _ h fun w => ⟨.bool (m == n), by simp [binOp, Op.intCmp], fun _ _ => by rw [beq_dec]; exact .bool _ _⟩
  case neq => exact key _ h fun w => ⟨.bool (m != n), by simp [binOp, Op.intCmp], fun _ _ => by rw [bne_dec]; exact .bool _ _⟩
  case lss => exact key _ h fun w => ⟨.bool (decide (m < n)), by simp [binOp, Op.intCmp], fun _ _ => .bool _ _⟩
  case leq => exact key _ h fun w => ⟨.bool (decide (m ≤ n)), by simp [binOp, Op.intCmp], fun _ _ => .bool _ _⟩
  case gtr => exact key _ h fun w => ⟨.bool (decide (n < m)), by simp [binOp, Op.intCmp], fun _ _ => .bool _ _⟩
  case geq => exact key _ h fun w => ⟨.bool (decide (n ≤ m)), by simp [binOp, Op.intCmp], fun _ _ => .bool _ _⟩

theorem str_eq (a b : ByteArray) : (a.toList == b.toList) = decide (a.data.toList = b.data.toList) := by
  simp only [ByteArray.toList_eq]
  generalize a.data.toList = x; generalize b.data.toList = y
  by_cases h : x = y <;> simp [h]

end Go.Proofs.YtcgpgpbnpjbhhaaPg
