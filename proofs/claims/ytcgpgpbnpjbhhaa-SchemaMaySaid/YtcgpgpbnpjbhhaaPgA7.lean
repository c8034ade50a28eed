/- The quiet operations, the rest; all together. -/
import Derived.Test.YtcgpgpbnpjbhhaaPgA6
namespace Go.Proofs.YtcgpgpbnpjbhhaaPg
open Go Go.RowKit
variable [Globs]
set_option linter.unusedVariables false
set_option linter.unusedSimpArgs false

variable {P : Program} {T : Nat → TI} {I : Imm} {ρ : List Pl} {H : List O} {w : World} {e : Env}

theorem q_indexAddr (hT : TIok P T) {o : Oper} {t : TypeId} {x i : Operand} (ho : o.op = .indexAddr t x i) {K : V → Prop} (h : qIndexAddr T t (aevo e x) (aevo e i) K) : ∃ v, K v ∧ QOk P o e H v := by
  unfold qIndexAddr at h
  cases hk : (T t).kind <;> simp only [hk] at h
  rename_i q
  have hu := ty_sl hT hk
  cases hg : (T q).good <;> simp only [hg] at h
  obtain ⟨ti, z, d, h1, h2, h3, h4, _⟩ := ti_good hT hg
  have hsz : (T q).size = ti.size := by rw [h4]
  cases hi : aevo e i <;> simp only [hi] at h
  rename_i k n
  have run : ∀ (a : Act) (w : World) (b o' len cap : Nat), a.eval x = .slice (some ⟨b, o', none⟩) len cap → a.eval i = .int k n → 0 ≤ n → n < len → (execOp a.eval o).run P w = .ok (.value (.pointer (some ⟨b, o' + n.toNat * ti.size, none⟩))) w := by
    intro a w b o' len cap hx hi' h0 hl
    simp [execOp, ho, hx, hi', Instr.indexAt, asIntOf, run_underlying' hu, h0, hl, run_sizeOf' h1, addr_add]
  cases hx : aevo e x <;> simp only [hx] at h
  case sl sz es full =>
    cases hb : Nat.beq sz (T q).size <;> simp only [hb] at h
    have e0 : sz = ti.size := by rw [← hsz]; exact Nat.eq_of_beq_eq_true hb
    obtain ⟨c, ⟨h0, hc⟩, hK⟩ := h
    have hlt : n.toNat < es.length := (List.getElem?_eq_some_iff.1 hc).1
    refine qoko hK fun I ρ w a hst he => ?_
    have hr := he x; have hri := he i
    rw [hx] at hr; rw [hi] at hri
    generalize hq : a.eval x = u at hr
    cases hr with
    | sl _ _ _ _ b base cap f g1 g2 g3 g4 g4' g5 =>
      refine ⟨_, run a w _ _ _ _ hq (vr_int hri) h0 (by omega), ?_⟩
      rw [← e0]
      have := VRel.ip (I := I) ρ c 0 b (base + n.toNat * sz) (fun j => f n.toNat j) (fun j d hd => by rw [Nat.add_assoc]; exact g4 _ _ _ _ hc hd) (fun j d hd => g4' _ _ _ _ hc hd) (fun j d hd => g5 _ _ _ _ hc hd)
      exact this
    | slnil => simp at hlt
  case ms sz id off len full =>
    cases hb : Nat.beq sz (T q).size <;> simp only [hb] at h
    have e0 : sz = ti.size := by rw [← hsz]; exact Nat.eq_of_beq_eq_true hb
    obtain ⟨⟨h0, hl⟩, hK⟩ := h
    refine qoko hK fun I ρ w a hst he => ?_
    have hr := he x; have hri := he i
    rw [hx] at hr; rw [hi] at hri
    generalize hq : a.eval x = u at hr
    cases hr with
    | ms _ _ _ _ cap _ p hp g1 g2 g3 g4 =>
      refine ⟨_, run a w _ _ _ _ hq (vr_int hri) h0 (by omega), ?_⟩
      have := VRel.ep (I := I) ρ id (off + n.toNat) 0 p hp
      rw [← e0, Nat.add_comm n.toNat off]
      rw [Nat.add_assoc, ← Nat.add_mul]
      exact this
    | ms0 => omega

theorem q_index (hT : TIok P T) {o : Oper} {t : TypeId} {x i : Operand} (ho : o.op = .index t x i) {K : V → Prop} (h : qIndex T t (aevo e x) (aevo e i) K) : ∃ v, K v ∧ QOk P o e H v := by
  unfold qIndex at h
  cases hk : (T t).kind <;> simp only [hk] at h
  have hu := ty_str hT hk
  cases hx : aevo e x <;> simp only [hx] at h
  rename_i s
  cases hi : aevo e i <;> simp only [hi] at h
  rename_i k n
  obtain ⟨c, ⟨h0, hc⟩, hK⟩ := h
  refine qoko hK fun I ρ w a hst he => ?_
  have hr := he x; have hri := he i
  rw [hx] at hr; rw [hi] at hri
  obtain ⟨b, hb, e1⟩ := vr_str hr
  refine ⟨.int .u8 c.toNat, ?_, .int _ _ _⟩
  have hlt : n.toNat < b.size := by rw [show b.size = s.length by rw [← hb]; rfl]; exact (List.getElem?_eq_some_iff.1 hc).1
  have hbn : b[n.toNat]? = some c := by
    rw [← hb] at hc
    have : b[n.toNat]? = some b[n.toNat] := by rw [getElem?_pos]
    rw [this]
    congr 1
    have h2 : b.data.toList[n.toNat]? = some b[n.toNat] := by
      rw [List.getElem?_eq_getElem (by simpa using hlt)]; rfl
    rw [h2] at hc; exact Option.some.inj hc
  simp [execOp, ho, e1, vr_int hri, Instr.index, asIntOf, run_underlying' hu, h0, hbn]

/-! ### slicing -/
theorem run_sliceBound' (k : IntKind) (i : Int) (y : Nat) (code : BoundsCode) (h0 : 0 ≤ i) (h1 : i ≤ y) (w : World) : (Instr.sliceBound (.int k i) y code).run P w = .ok i.toNat w := by
  simp [Instr.sliceBound, asIntOf, h0, h1]

/-- A bound as a value, and as a number. -/
def BRel (x : Option Value) (l : Option Int) : Prop := (x = none ∧ l = none) ∨ ∃ k n, x = some (.int k n) ∧ l = some n

theorem bound_rel {lo : Option Operand} {l : Option Int} (h : boundV (lo.map (aevo e)) = some l) {a : Act} (he : ∀ x, VRel I ρ (aevo e x) (a.eval x)) : BRel (lo.map a.eval) l := by
  cases lo with
  | none => simp [boundV] at h; exact .inl ⟨rfl, h.symm⟩
  | some x =>
    have hr := he x
    simp only [Option.map_some, boundV] at h
    cases hx : aevo e x <;> simp only [hx] at h <;> try (cases h; done)
    rename_i k n
    rw [hx] at hr
    cases h
    exact .inr ⟨k, n, by simp [vr_int hr], rfl⟩

theorem run_bounds {isSlice : Bool} {len cap : Nat} {lo hi mx : Option Value} {l h m : Option Int} (hl : BRel lo l) (hh : BRel hi h) (hm : BRel mx m) (hc : len ≤ cap)
    (b0 : 0 ≤ l.getD 0) (b1 : l.getD 0 ≤ h.getD len) (b2 : h.getD len ≤ m.getD cap) (b3 : m.getD cap ≤ cap) (b4 : m.isSome = true → h.isSome = true) (w : World) :
    (Instr.sliceBounds isSlice len cap lo hi mx).run P w = .ok ((l.getD 0).toNat, (h.getD len).toNat, (m.getD cap).toNat) w := by
  rcases hm with ⟨rfl, rfl⟩ | ⟨km, m, rfl, rfl⟩
  · rcases hh with ⟨rfl, rfl⟩ | ⟨kh, h, rfl, rfl⟩
    · rcases hl with ⟨rfl, rfl⟩ | ⟨kl, l, rfl, rfl⟩
      · simp [Instr.sliceBounds]
      · simp at b0 b1 b2 b3
        simp [Instr.sliceBounds, run_sliceBound', b0, b1]
    · rcases hl with ⟨rfl, rfl⟩ | ⟨kl, l, rfl, rfl⟩
      · simp at b0 b1 b2 b3
        simp [Instr.sliceBounds, run_sliceBound', b0, b1, b2]
      · simp at b0 b1 b2 b3
        have : 0 ≤ h := by omega
        have e : (h.toNat : Int) = h := Int.toNat_of_nonneg this
        simp [Instr.sliceBounds, run_sliceBound', b0, b1, b2, this, e]
  · rcases hh with ⟨rfl, rfl⟩ | ⟨kh, h, rfl, rfl⟩
    · simp at b4
    · rcases hl with ⟨rfl, rfl⟩ | ⟨kl, l, rfl, rfl⟩
      · simp at b0 b1 b2 b3
        have h1 : 0 ≤ m := by omega
        have e1 : (m.toNat : Int) = m := Int.toNat_of_nonneg h1
        simp [Instr.sliceBounds, run_sliceBound', b0, b1, b2, b3, h1, e1]
      · simp at b0 b1 b2 b3
        have h1 : 0 ≤ m := by omega
        have e1 : (m.toNat : Int) = m := Int.toNat_of_nonneg h1
        have h2 : 0 ≤ h := by omega
        have e2 : (h.toNat : Int) = h := Int.toNat_of_nonneg h2
        simp [Instr.sliceBounds, run_sliceBound', b0, b1, b2, b3, h1, h2, e1, e2]

theorem run_slice_op {o : Oper} {t : TypeId} {x : Operand} {lo hi mx : Option Operand} (ho : o.op = .slice t x lo hi mx) {q : TypeId} (hu : P.underlying t = some (.slice q)) {i : TypeInfo} (hi' : P.info? q = some i)
    {a : Act} {w : World} {A : Option Addr} {len cap : Nat} (hx : a.eval x = .slice A len cap) {l h m : Option Int} (hl : BRel (lo.map a.eval) l) (hh : BRel (hi.map a.eval) h) (hm : BRel (mx.map a.eval) m) (hc : len ≤ cap)
    (b0 : 0 ≤ l.getD 0) (b1 : l.getD 0 ≤ h.getD len) (b2 : h.getD len ≤ m.getD cap) (b3 : m.getD cap ≤ cap) (b4 : m.isSome = true → h.isSome = true) :
    (execOp a.eval o).run P w = .ok (.value (sliced A (l.getD 0).toNat (h.getD len).toNat (m.getD cap).toNat i.size)) w := by
  have := run_bounds (P := P) (isSlice := true) hl hh hm hc b0 b1 b2 b3 b4 w
  simp [execOp, ho, hx, Instr.sliceAt, run_underlying' hu, Instr.slice, this, run_sizeOf' hi', sliced]

theorem sub_sl {sz : Nat} {es : List (List V)} {full full' : Bool} {A : Option Addr} {len cap : Nat} (hr : VRel I ρ (.sl sz es full) (.slice A len cap)) {l h m : Nat} (h1 : l ≤ h) (h2 : h ≤ es.length) (h3 : h ≤ m) (h4 : m ≤ cap)
    (hf : full' = true → m = h) : VRel I ρ (.sl sz ((es.take h).drop l) full') (sliced A l h m sz) := by
  have hlen : ((es.take h).drop l).length = h - l := by simp; omega
  cases hr with
  | sl _ _ _ _ b base _ f g1 g2 g3 g4 g4' g5 =>
    by_cases hm : m = l
    · have : h = l := by omega
      subst this
      have e0 : (es.take h).drop h = [] := by apply List.eq_nil_of_length_eq_zero; simp
      rw [e0]
      simp only [sliced, hm, if_pos]
      have := VRel.sl (I := I) ρ sz [] full' b base 0 f (by simp) (fun _ => rfl) (fun i x hx => by simp at hx) (fun i x j c hx => by simp at hx) (fun i x j c hx => by simp at hx) (fun i x j c hx => by simp at hx)
      simpa using this
    · simp only [sliced, hm, if_false, Option.map_some, addr_add]
      have get : ∀ (i : Nat) (x : List V), ((es.take h).drop l)[i]? = some x → es[l + i]? = some x := fun i x hx => by
        rw [List.getElem?_drop] at hx
        have hlt := (List.getElem?_eq_some_iff.1 hx).1
        rw [List.getElem?_take_of_lt (by simp at hlt; omega)] at hx
        exact hx
      have := VRel.sl (I := I) ρ sz ((es.take h).drop l) full' b (base + l * sz) (m - l) (fun i j => f (l + i) j) (by omega) (fun hq => by rw [hf hq, hlen])
        (fun i x hx => g3 _ _ (get i x hx)) (fun i x j c hx hc => by rw [show base + l * sz + (i * sz + j) = base + ((l + i) * sz + j) by rw [Nat.add_mul]; omega]; exact g4 _ _ _ _ (get i x hx) hc)
        (fun i x j c hx hc => g4' _ _ _ _ (get i x hx) hc) (fun i x j c hx hc => g5 _ _ _ _ (get i x hx) hc)
      rw [hlen] at this
      exact this
  | slnil =>
    have : h = 0 := by simpa using h2
    subst this
    have : m = 0 := by omega
    subst this
    have : l = 0 := by omega
    subst this
    simp only [sliced]
    exact .slnil _ _ _ _

theorem sub_ms {sz id off len : Nat} {full full' : Bool} {A : Option Addr} {len' cap : Nat} (hr : VRel I ρ (.ms sz id off len full) (.slice A len' cap)) {l h m : Nat} (h1 : l ≤ h) (h2 : len = 0 → h = 0) (h3 : h ≤ m) (h4 : m ≤ cap)
    (hf : full' = true → m = h) (hf2 : full' = false → full = false ∧ m = cap) : VRel I ρ (.ms sz id (off + l) (h - l) full') (sliced A l h m sz) := by
  cases hr with
  | ms _ _ _ _ _ _ p hp g1 g2 g3 g4 =>
    by_cases hm : m = l
    · have : h = l := by omega
      subst this
      simp only [sliced, hm, if_pos, Nat.sub_self]
      exact .ms0 _ _ _ _ _ _
    · simp only [sliced, hm, if_false, Option.map_some, addr_add]
      have := VRel.ms (I := I) ρ id (off + l) (h - l) (m - l) full' p hp (by omega) (by omega) (fun hq => by rw [hf hq]) (fun hq => by have h1 := (hf2 hq).2; have h2 := g4 (hf2 hq).1; omega)
      rw [Nat.add_mul, ← Nat.add_assoc] at this
      exact this
  | ms0 =>
    have : h = 0 := h2 rfl
    subst this
    have : m = 0 := by omega
    subst this
    have : l = 0 := by omega
    subst this
    simp [sliced]
    exact .ms0 _ _ _ _ _ _

theorem qs_sl {o : Oper} {t : TypeId} {x : Operand} {lo hi mx : Option Operand} (ho : o.op = .slice t x lo hi mx) {q : TypeId} (hu : P.underlying t = some (.slice q)) {i : TypeInfo} (hi' : P.info? q = some i)
    {a : Act} {w : World} {es : List (List V)} {full full' : Bool} (hr : VRel I ρ (.sl i.size es full) (a.eval x)) {l h m : Option Int} (hl : BRel (lo.map a.eval) l) (hh : BRel (hi.map a.eval) h) (hm : BRel (mx.map a.eval) m)
    (b0 : 0 ≤ l.getD 0) (b1 : l.getD 0 ≤ h.getD es.length) (b2 : h.getD es.length ≤ es.length) (b3 : ∀ k, m = some k → h = some k) (b4 : full' = true → m.isSome = true ∨ (full = true ∧ h.getD es.length = es.length)) :
    ∃ u, (execOp a.eval o).run P w = .ok (.value u) w ∧ VRel I ρ (.sl i.size ((es.take (h.getD es.length).toNat).drop (l.getD 0).toNat) full') u := by
  have hsh : ∃ A cap, a.eval x = .slice A es.length cap ∧ es.length ≤ cap ∧ (full = true → cap = es.length) := by
    revert hr; generalize a.eval x = u; intro hr
    cases hr with
    | sl _ _ _ _ b base cap f g1 g2 => exact ⟨_, _, rfl, g1, g2⟩
    | slnil => exact ⟨_, _, rfl, Nat.le_refl _, fun _ => rfl⟩
  obtain ⟨A, cap, hx, hcap, hfull⟩ := hsh
  have hM : (h.getD es.length : Int) ≤ m.getD cap ∧ (m.getD cap : Int) ≤ cap ∧ (m.isSome = true → m.getD cap = h.getD es.length ∧ h.isSome = true) := by
    cases m with
    | none => simp; omega
    | some k => rw [b3 k rfl] at b2 ⊢; simp at b2 ⊢; omega
  refine ⟨_, run_slice_op ho hu hi' hx hl hh hm hcap b0 b1 hM.1 hM.2.1 (fun hs => (hM.2.2 hs).2), ?_⟩
  rw [hx] at hr
  refine sub_sl hr (by omega) (by omega) (by omega) (by omega) (fun hf => ?_)
  rcases b4 hf with hs | ⟨h1, h2⟩
  · rw [(hM.2.2 hs).1]
  · cases m with
    | none => simp only [Option.getD_none]; rw [h2, hfull h1]
    | some k => rw [(hM.2.2 rfl).1]

theorem qs_ms {o : Oper} {t : TypeId} {x : Operand} {lo hi mx : Option Operand} (ho : o.op = .slice t x lo hi mx) {q : TypeId} (hu : P.underlying t = some (.slice q)) {i : TypeInfo} (hi' : P.info? q = some i)
    {a : Act} {w : World} {id off len : Nat} {full full' : Bool} (hr : VRel I ρ (.ms i.size id off len full) (a.eval x)) {l h m : Option Int} (hl : BRel (lo.map a.eval) l) (hh : BRel (hi.map a.eval) h) (hm : BRel (mx.map a.eval) m)
    (b0 : 0 ≤ l.getD 0) (b1 : l.getD 0 ≤ h.getD len) (b2 : h.getD len ≤ len ∨ (0 < len ∧ ∀ A cap, a.eval x = .slice A len cap → h.getD len ≤ cap)) (b3 : ∀ k, m = some k → h = some k) (b4 : full' = true → m.isSome = true ∨ (full = true ∧ h.getD len = len)) (b5 : full' = false → full = false ∧ m = none) :
    ∃ u, (execOp a.eval o).run P w = .ok (.value u) w ∧ VRel I ρ (.ms i.size id (off + (l.getD 0).toNat) ((h.getD len).toNat - (l.getD 0).toNat) full') u := by
  have hsh : ∃ A cap, a.eval x = .slice A len cap ∧ len ≤ cap ∧ (full = true → cap = len) := by
    revert hr; generalize a.eval x = u; generalize hz : i.size = sz; intro hr
    cases hr with
    | ms _ _ _ _ cap _ p hp g1 g2 g3 g4 => exact ⟨_, _, rfl, g1, g3⟩
    | ms0 => exact ⟨_, _, rfl, Nat.le_refl _, fun _ => rfl⟩
  obtain ⟨A, cap, hx, hcap, hfull⟩ := hsh
  have hM : (h.getD len : Int) ≤ m.getD cap ∧ (m.getD cap : Int) ≤ cap ∧ (m.isSome = true → m.getD cap = h.getD len ∧ h.isSome = true) := by
    have hb2 : h.getD len ≤ (cap : Int) := by
      rcases b2 with b2 | ⟨_, b2⟩
      · omega
      · exact b2 A cap hx
    cases m with
    | none => simp; omega
    | some k => rw [b3 k rfl] at hb2 ⊢; simp at hb2 ⊢; omega
  refine ⟨_, run_slice_op ho hu hi' hx hl hh hm hcap b0 b1 hM.1 hM.2.1 (fun hs => (hM.2.2 hs).2), ?_⟩
  rw [hx] at hr
  refine sub_ms hr (by omega) (fun h0 => by rcases b2 with b2 | ⟨b2, _⟩ <;> omega) (by omega) (by omega) (fun hf => ?_) (fun hf => ⟨(b5 hf).1, by rw [(b5 hf).2]; simp⟩)
  rcases b4 hf with hs | ⟨h1, h2⟩
  · rw [(hM.2.2 hs).1]
  · cases m with
    | none => simp only [Option.getD_none]; rw [h2, hfull h1]
    | some k => rw [(hM.2.2 rfl).1]

theorem qs_nils {o : Oper} {t : TypeId} {x : Operand} {lo hi mx : Option Operand} (ho : o.op = .slice t x lo hi mx) {q : TypeId} (hu : P.underlying t = some (.slice q)) {i : TypeInfo} (hi' : P.info? q = some i)
    {a : Act} {w : World} (hr : VRel I ρ .nils (a.eval x)) {l h m : Option Int} (hl : BRel (lo.map a.eval) l) (hh : BRel (hi.map a.eval) h) (hm : BRel (mx.map a.eval) m)
    (b0 : l.getD 0 = 0) (b1 : h.getD 0 = 0) (b2 : m.getD 0 = 0) (b3 : m.isSome = true → h.isSome = true) :
    ∃ u, (execOp a.eval o).run P w = .ok (.value u) w ∧ VRel I ρ .nils u := by
  have hx := vr_nils hr
  have h0 : ∀ z : Option Int, z.getD 0 = 0 → z.getD ((0 : Nat) : Int) = 0 := fun z hz => hz
  refine ⟨_, run_slice_op ho hu hi' hx hl hh hm (Nat.le_refl _) (by omega) (by have := h0 h b1; omega) (by have := h0 h b1; have := h0 m b2; omega) (by have := h0 m b2; omega) b3, ?_⟩
  have e1 : (l.getD 0).toNat = 0 := by omega
  have e2 : (h.getD ((0 : Nat) : Int)).toNat = 0 := by have := h0 h b1; omega
  have e3 : (m.getD ((0 : Nat) : Int)).toNat = 0 := by have := h0 m b2; omega
  rw [e1, e2, e3]
  simp [sliced]
  exact .nils _

theorem qs_str {o : Oper} {t : TypeId} {x : Operand} {lo hi mx : Option Operand} (ho : o.op = .slice t x lo hi mx) (hu : P.underlying t = some .string)
    {a : Act} {w : World} {s : List UInt8} (hr : VRel I ρ (.str s) (a.eval x)) {l h : Option Int} (hl : BRel (lo.map a.eval) l) (hh : BRel (hi.map a.eval) h) (hm : BRel (mx.map a.eval) none)
    (b0 : 0 ≤ l.getD 0) (b1 : l.getD 0 ≤ h.getD s.length) (b2 : h.getD s.length ≤ s.length) :
    ∃ u, (execOp a.eval o).run P w = .ok (.value u) w ∧ VRel I ρ (.str ((s.take (h.getD s.length).toNat).drop (l.getD 0).toNat)) u := by
  obtain ⟨b, hb, hx⟩ := vr_str hr
  have hsz : b.size = s.length := by rw [← hb]; rfl
  have hn : mx.map a.eval = none := by
    rcases hm with ⟨h1, _⟩ | ⟨_, _, _, h1⟩
    · exact h1
    · cases h1
  refine ⟨.string (b.extract (l.getD 0).toNat (h.getD s.length).toNat), ?_, vr_str' _ ?_⟩
  · have := run_bounds (P := P) (isSlice := false) (len := b.size) (cap := b.size) hl hh (.inl ⟨rfl, rfl⟩) (Nat.le_refl _) b0 (by rw [hsz]; exact b1) (by rw [hsz]; exact b2) (by simp) (by simp) w
    rw [hsz] at this
    simp [execOp, ho, hx, Instr.sliceAt, run_underlying' hu, Instr.slice, hn, this, hsz]
  · rw [ByteArray.data_extract, Array.toList_extract, hb]
    simp only [List.extract, List.drop_take]

theorem tl {α : Type} (l : List α) : l.take ((l.length : Int)).toNat = l := by simp

theorem q_slice (hT : TIok P T) {o : Oper} {t : TypeId} {x : Operand} {lo hi mx : Option Operand} (ho : o.op = .slice t x lo hi mx) {K : V → Prop}
    {HB : List O} (hHB : ∀ v, bufLen HB v ≤ bufLen H v) (h : qSlice T HB t (aevo e x) (lo.map (aevo e)) (hi.map (aevo e)) (mx.map (aevo e)) K) : ∃ v, K v ∧ QOk P o e H v := by
  unfold qSlice at h
  cases el : boundV (lo.map (aevo e)) <;> simp only [el] at h
  rename_i l
  cases eh : boundV (hi.map (aevo e)) <;> simp only [eh] at h
  rename_i hh
  cases em : boundV (mx.map (aevo e)) <;> simp only [em] at h
  rename_i m
  cases hk : (T t).kind <;> simp only [hk] at h
  · -- a string
    have hu := ty_str hT hk
    cases hx : aevo e x <;> simp only [hx] at h
    rename_i s
    unfold aslice at h
    cases m <;> simp only at h
    have fin : ∀ (r : List UInt8), K (.str r) → (0 ≤ l.getD 0 ∧ l.getD 0 ≤ hh.getD s.length ∧ hh.getD s.length ≤ s.length) → r = (s.take (hh.getD s.length).toNat).drop (l.getD 0).toNat → ∃ v, K v ∧ QOk P o e H v := by
      intro r hK hb hr
      refine qoko hK fun I ρ w a hst he => ?_
      have h1 := he x
      rw [hx] at h1
      rw [hr]
      exact qs_str ho hu h1 (bound_rel el he) (bound_rel eh he) (bound_rel em he) hb.1 hb.2.1 hb.2.2
    cases l <;> cases hh <;> simp only at h
    · exact fin _ h (by simp) (by simp)
    · exact fin _ h.2 (by simp; omega) (by simp)
    · exact fin _ h.2 (by simp; omega) (by simp)
    · exact fin _ h.2 (by simp; omega) (by simp)
  · rename_i q
    have hu := ty_sl hT hk
    cases hg : (T q).good <;> simp only [hg] at h
    obtain ⟨ti, z, d, h1, h2, h3, h4, _⟩ := ti_good hT hg
    have hsz : (T q).size = ti.size := by rw [h4]
    rw [hsz] at h
    cases hx : aevo e x <;> simp only [hx] at h <;> unfold aslice at h <;> try exact h.elim
    case sl sz es full =>
      cases hb : Nat.beq sz ti.size <;> simp only [hb] at h
      have e0 := Nat.eq_of_beq_eq_true hb
      subst e0
      have fin : ∀ (r : List (List V)) (full' : Bool), K (.sl ti.size r full') → (0 ≤ l.getD 0 ∧ l.getD 0 ≤ hh.getD es.length ∧ hh.getD es.length ≤ es.length) → (∀ k, m = some k → hh = some k) → (full' = true → m.isSome = true ∨ (full = true ∧ hh.getD es.length = es.length)) →
          r = (es.take (hh.getD es.length).toNat).drop (l.getD 0).toNat → ∃ v, K v ∧ QOk P o e H v := by
        intro r full' hK hb hm hf hr
        refine qoko hK fun I ρ w a hst he => ?_
        have h1' := he x
        rw [hx] at h1'
        rw [hr]
        exact qs_sl ho hu h1 h1' (bound_rel el he) (bound_rel eh he) (bound_rel em he) hb.1 hb.2.1 hb.2.2 hm hf
      cases m <;> cases l <;> cases hh <;> simp only at h
      · exact fin _ _ h (by simp) (by simp) (by simp) (by simp)
      · exact fin _ _ h.2 (by simp; omega) (by simp) (by simp) (by simp)
      · exact fin _ _ h.2 (by simp; omega) (by simp) (by simp) (by simp)
      · exact fin _ _ h.2 (by simp; omega) (by simp) (by simp) (by simp)
      · exact fin _ _ h.2 (by simp; omega) (by simp; omega) (by simp) (by simp)
      · exact fin _ _ h.2 (by simp; omega) (by simp; omega) (by simp) (by simp)
    case ms sz id off len full =>
      cases hb : Nat.beq sz ti.size <;> simp only [hb] at h
      have e0 := Nat.eq_of_beq_eq_true hb
      subst e0
      have fin : ∀ (off' len' : Nat) (full' : Bool), K (.ms ti.size id off' len' full') → (0 ≤ l.getD 0 ∧ l.getD 0 ≤ hh.getD len ∧ (hh.getD len ≤ len ∨ (full = false ∧ 0 < len ∧ off + (hh.getD len).toNat ≤ bufLen H (.ms ti.size id off len full)))) → (∀ k, m = some k → hh = some k) → (full' = true → m.isSome = true ∨ (full = true ∧ hh.getD len = len)) → (full' = false → full = false ∧ m = none) →
          off' = off + (l.getD 0).toNat → len' = (hh.getD len).toNat - (l.getD 0).toNat → ∃ v, K v ∧ QOk P o e H v := by
        intro off' len' full' hK hb hm hf hf2 hr1 hr2
        refine qoko hK fun I ρ w a hst he => ?_
        have h1' := he x
        rw [hx] at h1'
        rw [hr1, hr2]
        refine qs_ms ho hu h1 h1' (bound_rel el he) (bound_rel eh he) (bound_rel em he) hb.1 hb.2.1 ?_ hm hf hf2
        rcases hb.2.2 with hb3 | ⟨hf3, hb4, hb5⟩
        · exact .inl hb3
        · refine .inr ⟨hb4, fun A cap hax => ?_⟩
          rw [hax] at h1'
          generalize hsz : ti.size = sz at h1'
          cases h1' with
          | ms0 => omega
          | ms _ _ _ _ _ _ p hp g1 g2 g3 g4 =>
            have hcap := g4 hf3
            unfold bufLen at hb5
            cases hob : getO H id <;> simp only [hob] at hb5
            case buf es =>
              have hH := getO_some hob (by simp)
              rcases hst.obj id p _ hp hH with ⟨e0, _⟩ | ⟨o1, _, _⟩
              · subst e0; simp at hb5; omega
              · omega
            all_goals omega
      cases m <;> cases l <;> cases hh <;> cases full <;> simp only at h
      · exact fin _ _ _ h (by simp) (by simp) (by simp) (by simp) (by simp <;> omega) (by simp)
      · exact fin _ _ _ h (by simp) (by simp) (by simp) (by simp) (by simp <;> omega) (by simp)
      · exact fin _ _ _ h.2 (by simp; omega) (by simp) (by simp) (by simp) (by simp <;> omega) (by simp)
      · exact fin _ _ _ h.2 (by simp; omega) (by simp) (by simp; omega) (by simp) (by simp <;> omega) (by simp)
      · exact fin _ _ _ h.2 (by simp; omega) (by simp) (by simp) (by simp) (by simp <;> omega) (by simp)
      · exact fin _ _ _ h.2 (by simp; omega) (by simp) (by simp) (by simp) (by simp <;> omega) (by simp)
      · exact fin _ _ _ h.2 ⟨h.1.1, h.1.2.1, by rcases h.1.2.2 with g | ⟨g1, g2⟩; exact .inl g; exact .inr ⟨rfl, g1, Nat.le_trans (by simpa using g2) (hHB _)⟩⟩ (by simp) (by simp) (by simp) (by simp <;> omega) (by simp)
      · exact fin _ _ _ h.2 (by simp; omega) (by simp) (by simp; omega) (by simp) (by simp <;> omega) (by simp)
      · exact fin _ _ _ h.2 (by simp; omega) (by simp; omega) (by simp) (by simp) (by simp <;> omega) (by simp)
      · exact fin _ _ _ h.2 (by simp; omega) (by simp; omega) (by simp) (by simp) (by simp <;> omega) (by simp)
      all_goals
        split at h
        · exact fin _ _ _ h.2 (by simp; omega) (by simp; omega) (by simp) (by simp) (by simp <;> omega) (by simp)
        · refine qoko h.2 fun I ρ w a hst he => ?_
          have h1' := he x
          rw [hx] at h1'
          have hsh : ∃ A cap, a.eval x = .slice A len cap ∧ len ≤ cap := by
            revert h1'; generalize a.eval x = u; generalize hz : ti.size = sz; intro hr
            cases hr with
            | ms _ _ _ _ cap _ p hp g1 g2 g3 => exact ⟨_, _, rfl, g1⟩
            | ms0 => exact ⟨_, _, rfl, Nat.le_refl _⟩
          obtain ⟨A, cap, hxx, hcap⟩ := hsh
          exact ⟨_, run_slice_op ho hu h1 hxx (bound_rel el he) (bound_rel eh he) (bound_rel em he) hcap (by simp; omega) (by simp; omega) (by simp; omega) (by simp; omega) (by simp), .any _ _⟩
    case nils =>
      have fin : K .nils → l.getD 0 = 0 → hh.getD 0 = 0 → m.getD 0 = 0 → (m.isSome = true → hh.isSome = true) → ∃ v, K v ∧ QOk P o e H v := by
        intro hK b0 b1 b2 b3
        refine qoko hK fun I ρ w a hst he => ?_
        have h1' := he x
        rw [hx] at h1'
        exact qs_nils ho hu h1 h1' (bound_rel el he) (bound_rel eh he) (bound_rel em he) b0 b1 b2 b3
      cases m <;> cases l <;> cases hh <;> simp only at h
      · exact fin h rfl rfl rfl (by simp)
      · exact fin h.2 rfl h.1 rfl (by simp)
      · exact fin h.2 h.1 rfl rfl (by simp)
      · exact fin h.2 h.1.1 h.1.2 rfl (by simp)
      · exact fin h.2 rfl h.1.1 h.1.2 (by simp)
      · exact fin h.2 h.1.1 h.1.2.1 h.1.2.2 (by simp)

end Go.Proofs.YtcgpgpbnpjbhhaaPg
