/- An append within the cells of one buffer. -/
import Derived.Test.YtcgpgpbnpjbhhaaPgB4
namespace Go.Proofs.YtcgpgpbnpjbhhaaPg
open Go Go.RowKit
variable [Globs]
set_option linter.unusedVariables false

variable {P : Program} {T : Nat → TI} {I : Imm} {ρ : List Pl} {H : List O} {w : World} {e : Env}

theorem within_get {α : Type} {es ys : List α} {n j : Nat} (hn : n + ys.length ≤ es.length) {y : α} (h : (es.take n ++ ys ++ es.drop (n + ys.length))[j]? = some y) :
    (j < n ∧ es[j]? = some y) ∨ (n ≤ j ∧ j < n + ys.length ∧ ys[j - n]? = some y) ∨ (n + ys.length ≤ j ∧ es[j]? = some y) := by
  have hl : (es.take n).length = n := by simp; omega
  by_cases h1 : j < n
  · rw [List.append_assoc, List.getElem?_append_left (by omega), List.getElem?_take_of_lt h1] at h
    exact .inl ⟨h1, h⟩
  · by_cases h2 : j < n + ys.length
    · rw [List.getElem?_append_left (by simp; omega), List.getElem?_append_right (by omega), hl] at h
      exact .inr (.inl ⟨by omega, h2, h⟩)
    · rw [List.getElem?_append_right (by simp; omega), List.getElem?_drop] at h
      simp only [List.length_append, hl] at h
      rw [show n + ys.length + (j - (n + ys.length)) = j by omega] at h
      exact .inr (.inr ⟨by omega, h⟩)

theorem app_within {k : Nat} {t t2 ty q : TypeId} {i : TypeInfo} (ht : P.underlying t = some (.slice q)) {d2 : TypeDesc} (ht2 : P.underlying t2 = some d2) (hd2 : d2 = .string ∨ ∃ q2, d2 = .slice q2) (hi : P.info? q = some i)
    (hst : St I ρ H w) (hk : k ≤ ρ.length) {id off len cap : Nat} {p : Pl} (hp : ρ[id]? = some p) (hsz : p.sz = i.size) {es ys : List (List V)} (hg : getO H id = .buf es) (hpos : 0 < len) (hin : off + len + ys.length ≤ es.length) (g2 : off + cap = p.tot)
    {x : Value} (hE : Elems P I w x i.size ys)
    {K : V → List O → Prop} (hK : K (.ms i.size id off (len + ys.length) false) (H.set id (.buf (es.take (off + len) ++ ys ++ es.drop (off + len + ys.length))))) : AppOk P k I ρ H w K t t2 ty (.slice (some ⟨p.b, p.base + off * p.sz, none⟩) len cap) x := by
  obtain ⟨news, n1, n2, n3, n4⟩ := hE.out
  have hH : H[id]? = some (.buf es) := getO_some hg (by simp)
  have hor := hst.obj id p _ hp hH
  rcases hor with ⟨h0, _⟩ | ⟨o1, o2, o3⟩
  · subst h0; simp at hin; omega
  have hroom : len + ys.length ≤ cap := by omega
  have hl2 : news.length = ys.length * i.size := by rw [← n3.1, flat_len n2]
  have hmul : p.base + off * p.sz + len * i.size + news.length ≤ p.base + p.tot * p.sz := by
    rw [hl2, hsz, Nat.add_assoc, Nat.add_assoc, ← Nat.add_mul, ← Nat.add_mul]
    have := Nat.mul_le_mul_right i.size (show off + (len + ys.length) ≤ p.tot by omega)
    omega
  have hrun := run_append_room' (ty := ty) ht ht2 hd2 hi (b := p.b) (o := p.base + off * p.sz) n1 hroom (fun j hj => o2.cell (by omega)) (fun j hj => by
    obtain ⟨c, t', fr, c1, c2, c3⟩ := o2
    exact c3 _ (by omega) (by omega)) n4
  have hX : p.base + off * p.sz + len * i.size = p.base + (off + len) * p.sz := by rw [hsz, Nat.add_mul]; omega
  rw [hX] at hrun hmul
  have htot : p.tot ≠ 0 := by omega
  have hl' : (es.take (off + len) ++ ys ++ es.drop (off + len + ys.length)).length = es.length := by simp; omega
  have horel : ORel I ρ (w.setCells p.b (p.base + (off + len) * p.sz) news) p (.buf (es.take (off + len) ++ ys ++ es.drop (off + len + ys.length))) := by
    refine .inr ⟨by rw [hl']; exact o1, o2.setCells _ _, fun j y hy => ?_⟩
    rcases within_get hin hy with ⟨h1, h2⟩ | ⟨h1, h2, h3⟩ | ⟨h1, h2⟩
    · obtain ⟨c1, c2⟩ := o3 j y h2
      refine ⟨c1, c2.apart news (.inl ?_)⟩
      have := Nat.mul_le_mul_right p.sz (show j + 1 ≤ off + len by omega)
      rw [Nat.add_mul] at this
      rw [c1]; omega
    · have hyl := n2 y (List.mem_of_getElem? h3)
      refine ⟨by rw [hsz]; exact hyl, ?_⟩
      refine CellsAt.written o2 hmul n4 (d := (j - (off + len)) * i.size) ?_ (fun j' v hv => ?_)
      · rw [hsz, Nat.add_assoc, ← Nat.add_mul]
        congr 2; omega
      · have hf := flat_get n2 h3 hv
        have hlt := (List.getElem?_eq_some_iff.1 hf).1
        rw [n3.1] at hlt
        exact ⟨news[(j - (off + len)) * i.size + j'], List.getElem?_eq_getElem hlt, n3.2 _ v _ hf (List.getElem?_eq_getElem hlt)⟩
    · obtain ⟨c1, c2⟩ := o3 j y h2
      refine ⟨c1, c2.apart news (.inr ?_)⟩
      rw [hl2, hsz, Nat.add_assoc, ← Nat.add_mul]
      have := Nat.mul_le_mul_right i.size h1
      omega
  obtain ⟨s1, s2⟩ := st_write hst k hk hp hH htot (o' := .buf (es.take (off + len) ++ ys ++ es.drop (off + len + ys.length))) htot horel
  refine ⟨_, _, _, _, _, hrun, hK, s1, ?_, PLe.refl _, s2⟩
  have := VRel.ms (I := I) ρ id off (len + ys.length) cap false p hp hroom (by omega) (fun h => by cases h) (fun _ => g2)
  rw [hsz] at this ⊢
  exact this

theorem aapp_sound {k : Nat} {t t2 ty q : TypeId} {i : TypeInfo} {z : Value} (ht : P.underlying t = some (.slice q)) {d2 : TypeDesc} (ht2 : P.underlying t2 = some d2) (hd2 : d2 = .string ∨ ∃ q2, d2 = .slice q2) (hi : P.info? q = some i) (hz : i.zero = some z)
    (hb0 : 0 < i.bytes) (hb1 : i.bytes ≤ 65536) (hzs : z.cells.size = i.size) (hs0 : 0 < i.size) (hst : St I ρ H w) (hk : k ≤ ρ.length) {s xv : V} {u x : Value} (hs : VRel I ρ s u) {ys : List (List V)} (hE : Elems P I w x i.size ys)
    {K : V → List O → Prop} (h : aapp i.size i.bytes s xv ys H K) : AppOk P k I ρ H w K t t2 ty u x := by
  unfold aapp at h
  cases hsb : sameBuf s xv with
  | false => simp only [hsb] at h; exact aappend_sound ht ht2 hd2 hi hz hb0 hb1 hzs hs0 hst hk hs hE h
  | true =>
    simp only [hsb] at h
    unfold awithin at h
    unfold sameBuf at hsb
    split at hsb <;> try (cases hsb; done)
    rename_i z1 id off len z2 id2 off2 len2 f2
    simp only at h
    cases hb : Nat.beq z1 i.size <;> simp only [hb] at h
    have e0 := Nat.eq_of_beq_eq_true hb
    cases hg : getO H id <;> simp only [hg] at h
    rename_i es
    obtain ⟨⟨hpos, hin⟩, hK⟩ := h
    rw [copyH_iff, setO_eq] at hK
    subst e0
    generalize hsz : i.size = sz at hs
    cases hs with
    | ms _ _ _ _ cap _ p hp g1 g2 g3 g4 => exact app_within ht ht2 hd2 hi hst hk hp hsz.symm hg hpos hin (g4 rfl) hE hK
    | ms0 => omega

theorem e_append (hT : TIok P T) {k : Nat} {o : Oper} {c : Call} (ho : o.op = .call c) (hc : c.callee = .builtin .append) {K : V → Env → List O → Prop} {s x : Operand} (ha : c.args.toList = [s, x]) {t t2 : TypeId} (hat : c.argTypes.toList = [t, t2])
    {q : TypeId} (hk' : (T t).kind = .sl q) (hq : okElem (T q) = true) (ht2 : (match (T t2).kind with | .sl _ => true | .str => true | _ => false) = true)
    (h : elemsV (T q).size (aevo e x) H fun ys => aapp (T q).size (T q).bytes (aevo e s) (aevo e x) ys H fun v H' => K v e H') : ESem P k o e H K := by
  obtain ⟨i, z, g1, g2, g3, g4, g5, g6, g7, g8, _⟩ := okElem_all hT hq
  rw [g3, g4] at h
  have hu := ty_sl hT hk'
  have hu2 : ∃ d2, P.underlying t2 = some d2 ∧ (d2 = .string ∨ ∃ q2, d2 = .slice q2) := by
    cases hk2 : (T t2).kind <;> simp only [hk2] at ht2 <;> try (cases ht2; done)
    · exact ⟨_, ty_str hT hk2, .inl rfl⟩
    · exact ⟨_, ty_sl hT hk2, .inr ⟨_, rfl⟩⟩
  obtain ⟨d2, hd2, hd2'⟩ := hu2
  obtain ⟨ys, hK, hE⟩ := elemsV_sound (P := P) h
  refine esem_value (by simp [ho]) fun I ρ w a hst he hk => ?_
  have hrs := aevo_rel he s
  have hrx := aevo_rel he x
  obtain ⟨u, w', v, ρ', H', r1, r2, r3, r4, r5, r6⟩ := aapp_sound (ty := o.type) (k := k) hu hd2 hd2' g1 g2 g5 g6 g8 g7 hst hk hrs (hE I ρ w _ hst hrx) hK
  refine ⟨u, v, I, ρ', e, H', w', .inl ?_, r2, r3, r4, he.mono (ILe.refl _) r5, r6⟩
  obtain ⟨callee, args, argTypes⟩ := c
  obtain ⟨args⟩ := args
  obtain ⟨argTypes⟩ := argTypes
  simp only at hc ha hat
  subst hc; subst ha; subst hat
  simp [execOp, ho, resolve, invoke, builtin, r1]


end Go.Proofs.YtcgpgpbnpjbhhaaPg
