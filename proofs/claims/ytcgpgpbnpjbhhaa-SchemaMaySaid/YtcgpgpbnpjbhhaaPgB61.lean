/- The next code point of a text; functions without a body. -/
import Derived.Test.YtcgpgpbnpjbhhaaPgB6
namespace Go.Proofs.YtcgpgpbnpjbhhaaPg
open Go Go.RowKit
variable [Globs]
set_option linter.unusedVariables false
set_option linter.unusedSimpArgs false

variable {P : Program} {T : Nat → TI} {I : Imm} {ρ : List Pl} {H : List O} {w : World} {e : Env}

theorem st_turn (hst : St I ρ H w) (k : Nat) (hk : k ≤ ρ.length) {id : Nat} {p : Pl} {o o' : O} (hp : ρ[id]? = some p) (ho : H[id]? = some o) (hh : o.has p) (hh' : o'.has p) {w' : World} (hoth : ∀ b, b ≠ p.b → w'.heap[b]? = w.heap[b]?)
    (m1 : w'.os = w.os) (m2 : w'.tape = w.tape) (m3 : w'.output = w.output) (m4 : w'.heap.size = w.heap.size) (horel : ORel I ρ w' p o') :
    St I ρ (H.set id o') w' ∧ Step k I ρ H w I ρ (H.set id o') w' := by
  have hlt := (List.getElem?_eq_some_iff.1 ho).1
  have e2 : (H.set id o')[id]? = some o' := by rw [List.getElem?_set_self hlt]
  have e3 : ∀ (i : Nat) (x : O), i ≠ id → (H.set id o')[i]? = some x → x = .dead ∨ H[i]? = some x := fun i x hi hx => .inr (by rwa [List.getElem?_set_ne (by omega)] at hx)
  have hown : Owned ρ H p.b := ⟨id, p, o, hp, ho, hh.owns⟩
  exact ⟨hst.one id p o' (by simp [hst.len]) (PLe.refl _) hp e2 e3 (fun _ _ _ h => h) (fun b _ hb => hoth b hb) (fun hn => absurd hh' hn) (fun _ i q x hi hq hx hhx => by
      rcases e3 i x hi hx with rfl | hx'
      · exact hhx.1
      · exact hi (hst.inj i id q p x o p.b hq hx' hhx hp ho hh.owns)) (fun _ => hst.sep _ hown) horel (hh'.one),
    Step.one id p o' k hk (PLe.refl _) hp e2 e3 (fun _ _ _ h => h) (fun b _ hb => hoth b hb) (fun hn => absurd hh' hn) (fun _ => .inl hown) m1 m2 m3 (by rw [m4]; exact Nat.le_refl _) (hh'.one)⟩

theorem byte_at (s : ByteArray) (i k : Nat) : s.get! (i + k) = (s.data.toList.drop i).getD k 0 := by
  unfold ByteArray.get!
  rw [List.getD_eq_getElem?_getD, List.getElem?_drop, Array.getElem?_toList]
  show s.data.getD (i + k) default = _
  rw [Array.getD_eq_getD_getElem?]
  rfl

theorem dec_eq (s : ByteArray) (i : Nat) : Utf8.decode s i = decL (s.data.toList.drop i) := by
  unfold Utf8.decode decL
  have h1 : ∀ k, decide (i + k < s.size) = decide (k < (s.data.toList.drop i).length) := fun k => by
    have : s.size = s.data.toList.length := by rw [Array.length_toList]; rfl
    rw [List.length_drop, this]
    congr 1
    apply propext
    omega
  simp only [byte_at, h1]

theorem vr_iter {id off : Nat} {u : Value} (h : VRel I ρ (.ptr id off) u) : ∃ p, ρ[id]? = some p ∧ u = .pointer (some ⟨p.b, p.base + off, none⟩) := vr_ptr h

theorem e_next {k : Nat} {o : Oper} {x : Operand} (ho : o.op = .next x true) {K : V → Env → List O → Prop} {id pos : Nat} {s : List UInt8} (hx : aeval e x = .ptr id 0) (hob : getO H id = .iter s pos)
    (h0 : s.drop pos = [] → K (.tup [.bool false]) e H)
    (h1 : ∀ b r, s.drop pos = b :: r → K (.tup [.bool true, .int .i64 (Int.ofNat pos), .int .i32 (Int.ofNat (decL (b :: r)).1)]) e (H.set id (.iter s (pos + (decL (b :: r)).2)))) : ESem P k o e H K := by
  refine esem_value (by simp [ho]) fun I ρ w a hst he hk => ?_
  have hrx := aeval_rel he x
  rw [hx] at hrx
  obtain ⟨p, hp, hu⟩ := vr_ptr hrx
  have hH := getO_some hob (by simp)
  obtain ⟨hb0, ba, hba, hblk⟩ := hst.obj id p _ hp hH
  rw [hb0] at hu
  have hlen : ba.size = s.length := by rw [← hba, Array.length_toList]; rfl
  have hget : (getObj p.b).run P w = .ok (.stringIter ba pos) w := by simp [getObj, Sem.run, hblk]
  cases hd : s.drop pos with
  | nil =>
    have hle : s.length ≤ pos := List.drop_eq_nil_iff.1 hd
    refine ⟨.tuple #[.bool false], _, I, ρ, e, H, w, .inl ?_, h0 hd, hst, .tup _ _ _ rfl (fun i a u ha hu => ?_), he, Step.refl _ _ _ _ _⟩
    · have : ¬ pos < ba.size := by omega
      simp [execOp, ho, Instr.next, hu, hget, this]
    · cases i with
      | zero => simp at ha hu; subst ha; subst hu; exact .bool _ _
      | succ i => simp at ha
  | cons b r =>
    have hlt : pos < ba.size := by
      rcases Nat.lt_or_ge pos s.length with h | h
      · omega
      · rw [List.drop_eq_nil_iff.2 h] at hd; cases hd
    have hdec : Utf8.decode ba pos = decL (b :: r) := by rw [dec_eq, hba, hd]
    let w' : World := { w with heap := w.heap.setIfInBounds p.b (.stringIter ba (pos + (decL (b :: r)).2)) }
    have hset : (setObj p.b (.stringIter ba (pos + (decL (b :: r)).2))).run P w = .ok () w' := by simp [setObj, Sem.run, hblk, w']
    have hbl : p.b < w.heap.size := (Array.getElem?_eq_some_iff.1 hblk).1
    have hnew : w'.heap[p.b]? = some (.stringIter ba (pos + (decL (b :: r)).2)) := by simp [w', hbl]
    obtain ⟨s1, s2⟩ := st_turn hst k hk hp hH (o' := .iter s (pos + (decL (b :: r)).2)) trivial trivial (w' := w') (fun b' hb' => by simp [w', Array.getElem?_setIfInBounds_ne (Ne.symm hb')]) rfl rfl rfl (by simp [w']) ⟨hb0, ba, hba, hnew⟩
    refine ⟨.tuple #[.bool true, goInt pos, .int .i32 (decL (b :: r)).1], _, I, ρ, e, _, w', .inl ?_, h1 b r hd, s1, .tup _ _ _ rfl (fun i a u ha hu => ?_), he, s2⟩
    · simp [execOp, ho, Instr.next, hu, hget, hlt, hdec, hset]
    · match i, ha, hu with
      | 0, ha, hu => simp at ha hu; subst ha; subst hu; exact .bool _ _
      | 1, ha, hu => simp at ha hu; subst ha; subst hu; exact .int _ _ _
      | 2, ha, hu => simp at ha hu; subst ha; subst hu; exact .int _ _ _
      | i + 3, ha, hu => simp at ha

theorem e_ext {k : Nat} {o : Oper} {c : Call} (ho : o.op = .call c) {g : Operand} (hc : c.callee = .value g) {f : FuncId} {as bs : List V} (hg : aeval e g = .fn (.func f) as bs) {K : V → Env → List O → Prop} {r : V}
    (hx : AExt P f (as ++ (c.args.toList.map (aeval e) ++ bs)) r) (h : K r e H) : ESem P k o e H K := by
  refine esem_value (by simp [ho]) fun I ρ w a hst he hk => ?_
  have hrg := aeval_rel he g
  rw [hg] at hrg
  obtain ⟨us, ws, eg, hus, hws⟩ := vr_fn hrg
  have hargs : VRels I ρ (as ++ (c.args.toList.map (aeval e) ++ bs)) (us ++ c.args.map a.eval ++ ws).toList := by
    have := hus.append ((rels_map (aeval_rel he) c.args.toList).append hws)
    simpa [List.append_assoc] using this
  obtain ⟨u, hrun, hr⟩ := hx.out I ρ w _ hargs
  refine ⟨u, r, I, ρ, e, H, w, .inl ?_, h, hst, hr, he, Step.refl _ _ _ _ _⟩
  obtain ⟨callee, args, argTypes⟩ := c
  simp only at hc
  subst hc
  simp [execOp, ho, resolve, eg, Deferred.ofValue, invoke]
  simpa using hrun

end Go.Proofs.YtcgpgpbnpjbhhaaPg
