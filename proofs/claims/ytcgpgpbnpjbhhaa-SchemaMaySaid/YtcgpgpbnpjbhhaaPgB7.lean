/- Calls; operations; regions. -/
import Derived.Test.YtcgpgpbnpjbhhaaPgB61
import Derived.Test.YtcgpgpbnpjbhhaaPgB42
import Derived.Test.YtcgpgpbnpjbhhaaPgB43
import Derived.Test.YtcgpgpbnpjbhhaaPgB44
import Derived.Test.YtcgpgpbnpjbhhaaPgE1
import Derived.Test.YtcgpgpbnpjbhhaaPgE61
namespace Go.Proofs.YtcgpgpbnpjbhhaaPg
open Go Go.RowKit
variable [Globs]
set_option linter.unusedVariables false
set_option linter.unusedSimpArgs false

variable {P : Program} {T : Nat → TI} {I : Imm} {ρ : List Pl} {H : List O} {w : World} {e : Env}

/-- What the program must be for a context. -/
structure CtxOk (X : Ctx) : Prop where
  T : TIok X.P X.T
  fns : ∀ f ∈ X.fns, ∀ args w, (callFunc f args).run X.P w = .ok (.enter f args) w
  mixed : X.P.follows .mixedOrders = true

theorem callsIn_of {F : Fence} (hF : Wide F) {n : Nat} {f : FuncId} {args : Array Value} {w : World} {R : Ending → World → Prop} (h : Calls P f args w R) : CallsIn F n P f args w R := by
  have := (callsIn_wide (n := n)).2 h
  rcases hF with rfl | ⟨l, rfl⟩
  · exact this
  · exact CallsIn.inRound l this

/-- A call of a function, or of 'yield', in the model. -/
def CallsC (P : Program) (f : Option FuncId) (us : List Value) (w : World) (R : Ending → World → Prop) : Prop :=
  match f with
  | some f => Calls P f us.toArray w R
  | none => ∃ l us', us = .func (.yield l) #[] #[] :: us' ∧ YieldAt Fence.wide 0 P l us'.toArray w R

theorem CallsC.mono {P : Program} {f : Option FuncId} {us : List Value} {w : World} {R R' : Ending → World → Prop} (h : CallsC P f us w R) (hr : ∀ e w', R e w' → R' e w') : CallsC P f us w R' := by
  cases f with
  | some f => exact Calls.mono h hr
  | none =>
    obtain ⟨l, us', h1, fn, tmps, asg, body, h2, h3⟩ := h
    exact ⟨l, us', h1, fn, tmps, asg, body, h2, h3.mono hr⟩

theorem acal_out {P : Program} {f : Option FuncId} {k : Nat} {args : List V} {H : List O} {Q : V → List O → Prop} (h : ACal P f k args H Q) (I : Imm) (ρ : List Pl) (w : World) (us : List Value) (hst : St I ρ H w) (hk : k ≤ H.length) (ha : VRels I ρ args us) :
    CallsC P f us w fun en w' => ∃ v r I' ρ' H', en = .returned v ∧ St I' ρ' H' w' ∧ VRel I' ρ' r v ∧ Step k I ρ H w I' ρ' H' w' ∧ Q r H' := by
  cases f with
  | some f => exact h.out I ρ w us.toArray hst hk (by simpa using ha)
  | none => exact h.out I ρ w us hst hk ha

mutual
theorem renV_some : ∀ v, renV some v = v
  | .ptr _ _ => rfl
  | .ep _ _ _ => rfl
  | .ms _ _ _ _ _ => rfl
  | .map _ => rfl
  | .yld _ => rfl
  | .fn g a b => by simp [renV, renL_some a, renL_some b]
  | .agg a => by simp [renV, renL_some a]
  | .tup a => by simp [renV, renL_some a]
  | .iface t v => by simp [renV, renV_some v]
  | .bool _ | .int _ _ | .str _ | .ip _ _ | .nilp | .sl _ _ _ | .nils | .nilf | .nilm | .nili | .glob _ | .im _ | .any => rfl
theorem renL_some : ∀ l, renL some l = l
  | [] => rfl
  | v :: l => by simp [renL, renV_some v, renL_some l]
end

theorem renKV_some : ∀ l, renKV some l = l
  | [] => rfl
  | (a, b) :: l => by simp [renKV, renV_some, renKV_some l]

theorem renE_some : ∀ l, renE some l = l
  | [] => rfl
  | (a, b) :: l => by simp [renE, renV_some, renE_some l]

theorem renO_some (o : O) : renO some o = o := by
  cases o <;> simp [renO, renL_some, renKV_some, renE_some]

theorem mergeO_none (n : Nat) : ∀ (i : Nat) (H : List O), mergeO [] n some [] i H = H
  | _, [] => rfl
  | i, o :: H => by
    have := mergeO_none n (i + 1) H
    simp only [mergeO, idx, renO_some]
    rw [this]

theorem acalls_sound {X : Ctx} {f : Option FuncId} {K : V → Env → List O → Prop} {args : List V} {e : Env} {H : List O} (h : ACalls X f K args e H) :
    ∀ (I : Imm) (ρ : List Pl) (w : World) (us : List Value) (a : Act), St I ρ H w → ERel I ρ e a.tmps → VRels I ρ args us → X.k ≤ ρ.length → CallsC X.P f us w fun en w' =>
      ∃ v r I' ρ' e' H', en = .returned v ∧ K r e' H' ∧ St I' ρ' H' w' ∧ VRel I' ρ' r v ∧ ERel I' ρ' e' a.tmps ∧ Step X.k I ρ H w I' ρ' H' w' := by
  induction h with
  | call is k' hok h =>
    obtain ⟨hok, hge, _⟩ := hok
    simp only [isOk, Bool.and_eq_true] at hok
    obtain ⟨⟨hl, hn⟩, hkl⟩ := hok
    have hk' : k' ≤ is.length := Nat.le_of_ble_eq_true hkl
    intro I ρ w us a hst he hargs hk
    obtain ⟨hsub, hfit, _⟩ := handover hst hl hn
    refine (acal_out h I (subP is ρ) w us hsub (by simp [gather_map]; exact hk') (hargs.ren hfit)).mono ?_
    rintro en w' ⟨v, r, I', ρ', H', rfl, s1, s2, s3, s4⟩
    obtain ⟨t1, t2, t3, t4, t5⟩ := takeback hst hl hn hk' hge hk s1 s3
    exact ⟨v, _, I', _, _, _, rfl, s4, t1, s2.ren t2, fun t => fogE_get is k' _ t t3 s3.ile (he t) t4, t5⟩
  | pure h =>
    intro I ρ w us a hst he hargs hk
    obtain ⟨hsub, hfit, _⟩ := handover hst (is := []) rfl rfl
    refine (acal_out h I (subP [] ρ) w us hsub (Nat.zero_le _) (hargs.ren hfit)).mono ?_
    rintro en w' ⟨v, r, I', ρ', H', rfl, s1, s2, s3, rfl, s4⟩
    have hρ : ρ' = [] := List.eq_nil_of_length_eq_zero s1.len
    subst hρ
    obtain ⟨t1, t2, t3, t4, t5⟩ := takeback hst (is := []) rfl rfl (Nat.zero_le _) rfl hk s1 s3
    have hf : fogOf [] 0 = some := rfl
    rw [hf, mergeO_none] at t1 t5
    have hm : PLe ρ (mergeP [] ρ []) := t4 rfl
    exact ⟨v, r, I', _, _, _, rfl, s4, t1, s2.mono (ILe.refl _) (PLe.nil _), he.mono s3.ile hm, t5⟩
  | frz id hs hok hfit h ih =>
    intro I ρ w us a hst he hargs hk
    rename_i as0 e0 H
    have hne : getO H id ≠ .dead := fun e => by rw [e] at hok; cases hok
    have ho := getO_some (H := H) (id := id) rfl hne
    have hlt : id < ρ.length := by rw [hst.len]; exact (List.getElem?_eq_some_iff.1 ho).1
    obtain ⟨I2, g1, g2, g3⟩ := frz_st hst (List.getElem?_eq_getElem hlt) ho hok (frzFit_h hfit) X.k
    refine (ih I2 ρ w us a g1 (fun t => by rw [frzE_get]; exact g3 _ _ (frzFit_e hfit t) (he t)) ⟨by rw [frzL_map]; simpa using hargs.1, fun i v u hv hu => ?_⟩ hk).mono ?_
    · rw [frzL_map, List.getElem?_map] at hv
      cases hx : as0[i]? with
      | none => rw [hx] at hv; cases hv
      | some z => rw [hx] at hv; cases hv; exact g3 _ _ (frzFit_v hfit (List.mem_of_getElem? hx)) (hargs.2 i z u hx hu)
    · rintro en w' ⟨v, r, I', ρ', e', H', h1, h2, h3, h4, h5, h6⟩
      exact ⟨v, r, I', ρ', e', H', h1, h2, h3, h4, h5, g2.trans h6⟩
  | sub args' H2 hs hv hH h ih =>
    intro I ρ w us a hst he hargs hk
    refine (ih I ρ w us a (hH.st hst) he ⟨by rw [← hv.1]; exact hargs.1, fun i b u hb hu => ?_⟩ hk).mono ?_
    · obtain ⟨c, hc, hsub⟩ := hv.get hb
      exact hsub I ρ u (hargs.2 i c u hc hu)
    · rintro en w' ⟨v, r, I', ρ', e', H', h1, h2, h3, h4, h5, h6⟩
      exact ⟨v, r, I', ρ', e', H', h1, h2, h3, h4, h5, (hH.step X.k).trans h6⟩
  | adopt hs h ih =>
    intro I ρ w us a hst he hargs hk
    refine (ih I _ w us a (adopt_st hst).1 (fun t => (he t).mono (ILe.refl _) (PLe.append _ _)) (hargs.mono (ILe.refl _) (PLe.append _ _)) (by simp; omega)).mono ?_
    rintro en w' ⟨v, r, I', ρ', e', H', h1, h2, h3, h4, h5, h6⟩
    exact ⟨v, r, I', ρ', e', H', h1, h2, h3, h4, h5, (adopt_step hst hk).trans h6⟩

theorem e_call {X : Ctx} (hX : CtxOk X) {o : Oper} {c : Call} (ho : o.op = .call c) {g : Operand} (hc : c.callee = .value g) {f : FuncId} {as bs : List V} (hg : aeval e g = .fn (.func f) as bs) (hf : memN f X.fns = true) {K : V → Env → List O → Prop}
    (h : acall X (some f) (as ++ (c.args.toList.map (aeval e) ++ bs)) e H K) : ESem X.P X.k o e H K := by
  intro I ρ w a hst he hk F n hF next Q hnext
  have hrg := aeval_rel he g
  rw [hg] at hrg
  obtain ⟨us, ws, eg, hus, hws⟩ := vr_fn hrg
  have hargs : VRels I ρ (as ++ (c.args.toList.map (aeval e) ++ bs)) (us ++ c.args.map a.eval ++ ws).toList := by
    have := hus.append ((rels_map (aeval_rel he) c.args.toList).append hws)
    simpa [List.append_assoc] using this
  have hcall : Calls X.P f (us ++ c.args.map a.eval ++ ws).toList.toArray w _ := acalls_sound h I ρ w (us ++ c.args.map a.eval ++ ws).toList a hst he hargs hk
  rw [Array.toArray_toList] at hcall
  have hrun : (execOp a.eval o).run X.P w = .ok (.enter f (us ++ c.args.map a.eval ++ ws)) w := by
    have h1 := hX.fns f (memN_mem hf) (us ++ c.args.map a.eval ++ ws) w
    obtain ⟨callee, args, argTypes⟩ := c
    simp only at hc
    subst hc
    simp [execOp, ho, resolve, eg, Deferred.ofValue, invoke]
    simpa using h1
  refine ⟨fun f _ => hF.fn f, ?_⟩
  rw [semAt_of _ _ _ (by simp [ho]), hrun, Oper.uponIn_enter]
  refine ⟨fun hd => by rw [hF.depth] at hd; simp at hd, callsIn_of hF (hcall.mono ?_)⟩
  rintro en w' ⟨v, r, I', ρ', e', H', rfl, h1, h2, h3, h4, h5⟩
  exact hnext v _ I' _ _ _ w' h1 h2 h3 h4 h5

theorem vr_yld {id : Nat} {u : Value} (h : VRel I ρ (.yld id) u) : ∃ p, ρ[id]? = some p ∧ u = .func (.yield p.b) #[] #[] := by cases h; exact ⟨_, ‹_›, rfl⟩

theorem roundIn_of {F : Fence} (hF : Wide F) {n : Nat} {l : Nat} {f : FuncId} {tmps : Array Value} {asg body : Code} {w : World} {R : Ending → World → Prop} (h : RoundIn Fence.wide 0 P l f tmps asg body w R) : RoundIn F n P l f tmps asg body w R := by
  obtain ⟨_, h⟩ := h
  rcases hF with rfl | ⟨l', rfl⟩
  · exact ⟨trivial, fun c cs _ => h c cs (room_wide _)⟩
  · exact ⟨trivial, fun c cs _ => h c cs (room_wide _)⟩

theorem e_yield {X : Ctx} {o : Oper} {c : Call} (ho : o.op = .call c) {g : Operand} (hc : c.callee = .value g) {id : Nat} (hg : aeval e g = .yld id) {K : V → Env → List O → Prop}
    (h : acall X none (.yld id :: c.args.toList.map (aeval e)) e H K) : ESem X.P X.k o e H K := by
  intro I ρ w a hst he hk F n hF next Q hnext
  have hrg := aeval_rel he g
  rw [hg] at hrg
  obtain ⟨p, hp, eg⟩ := vr_yld hrg
  have hargs : VRels I ρ (.yld id :: c.args.toList.map (aeval e)) (.func (.yield p.b) #[] #[] :: c.args.toList.map a.eval) := VRels.cons (.yld _ _ _ hp) (rels_map (aeval_rel he) c.args.toList)
  obtain ⟨l, us', e1, fn, tmps, asg, body, hrun, hround⟩ := acalls_sound h I ρ w _ a hst he hargs hk
  simp only [List.cons.injEq, Value.func.injEq, Fn.yield.injEq, and_true] at e1
  obtain ⟨rfl, rfl⟩ := e1
  have hrun : (execOp a.eval o).run X.P w = .ok (.round p.b fn tmps asg body) w := by
    obtain ⟨callee, args, argTypes⟩ := c
    simp only at hc
    subst hc
    have hl : (List.map a.eval args.toList).toArray = args.map a.eval := by apply Array.ext'; simp
    rw [hl] at hrun
    simp [execOp, ho, resolve, eg, Deferred.ofValue, invoke]
    simpa using hrun
  refine ⟨fun f _ => hF.fn f, ?_⟩
  rw [semAt_of _ _ _ (by simp [ho]), hrun, Oper.uponIn_round]
  refine ⟨fun hd => by rw [hF.depth] at hd; simp at hd, roundIn_of hF (hround.mono ?_)⟩
  rintro en w' ⟨v, r, I', ρ', e', H', rfl, h1, h2, h3, h4, h5⟩
  exact hnext v _ I' _ _ _ w' h1 h2 h3 h4 h5

/-! ### an operation of a region -/
/-- What an operation comes to, its result put away. -/
def OpSem (X : Ctx) (o : Oper) (e : Env) (H : List O) (K : Env → List O → Prop) : Prop :=
  ∀ (I : Imm) (ρ : List Pl) (w : World) (a : Act), St I ρ H w → ERel I ρ e a.tmps → X.k ≤ ρ.length → a.tmps.size = X.n → ∀ (F : Fence) (n : Nat), Wide F → ∀ (next : Act → World → Prop) (Q : Exit → Act → World → Prop),
    (∀ I' ρ' e' H' w' (a' : Act), K e' H' → St I' ρ' H' w' → ERel I' ρ' e' a'.tmps → a'.tmps.size = X.n → a'.defers = a.defers → Step X.k I ρ H w I' ρ' H' w' → next a' w') → o.wpIn F n X.P a w next Q

theorem put_rel {I : Imm} {ρ : List Pl} {n : Nat} {dst : Option Nat} {v : V} {e : Env} {K : Env → Prop} (h : putE n dst v e K) {a : Act} (he : ERel I ρ e a.tmps) (hs : a.tmps.size = n) {u : Value} (hv : VRel I ρ v u) :
    ∃ e', K e' ∧ ERel I ρ e' (a.put dst u).tmps ∧ (a.put dst u).tmps.size = n ∧ (a.put dst u).defers = a.defers := by
  unfold putE at h
  cases dst with
  | none => exact ⟨e, h, he, hs, rfl⟩
  | some d =>
    simp only at h
    cases hb : Nat.blt d n with
    | false => simp only [hb] at h
    | true =>
      simp only [hb] at h
      have hd : d < n := Nat.le_of_ble_eq_true hb
      refine ⟨_, h, fun t => ?_, by simp [Act.put, hs], rfl⟩
      simp only [Env.get, Act.put]
      cases ht : Nat.beq d t with
      | true =>
        have := Nat.eq_of_beq_eq_true ht
        subst this
        simp only
        rw [show (a.tmps.setIfInBounds d u).getD d undef = u by simp [hs, hd]]
        exact hv
      | false =>
        have hne := Nat.ne_of_beq_eq_false ht
        simp only
        rw [show (a.tmps.setIfInBounds d u).getD t undef = a.tmps.getD t undef by simp [Array.getElem?_setIfInBounds_ne hne]]
        exact he t

theorem opSem_of_esem {X : Ctx} {o : Oper} {K : Env → List O → Prop} (h : ESem X.P X.k o e H fun v e' H' => putE X.n o.dst v e' fun e'' => K e'' H') : OpSem X o e H K := by
  intro I ρ w a hst he hk hs F n hF next Q hnext
  refine h I ρ w a hst he hk F n hF next Q fun u v I' ρ' e' H' w' hK h1 h2 h3 h4 => ?_
  obtain ⟨e'', g1, g2, g3, g4⟩ := put_rel hK h3 hs h2
  exact hnext I' ρ' e'' H' w' _ g1 h1 g2 g3 g4 h4

theorem opSem_ok {X : Ctx} {o : Oper} (hd : ∀ c, o.op ≠ .defer c) {K : Env → List O → Prop} {v : V} (hK : putE X.n o.dst v e fun e' => K e' H) (hv : QOk X.P o e H v) : OpSem X o e H K := by
  intro I ρ w a hst he hk hs F n hF next Q hnext
  obtain ⟨u, hrun, hr⟩ := hv I ρ w a hst he
  obtain ⟨e', g1, g2, g3, g4⟩ := put_rel hK he hs hr
  refine ⟨fun f _ => hF.fn f, ?_⟩
  rw [semAt_of _ _ _ hd, hrun]
  exact hnext I ρ e' H w _ g1 hst g2 g3 g4 (Step.refl _ _ _ _ _)

theorem opSem_quiet {X : Ctx} (hX : CtxOk X) {o : Oper} (hd : ∀ c, o.op ≠ .defer c) {K : Env → List O → Prop} (h : aq X.T o.op e H fun v => putE X.n o.dst v e fun e' => K e' H) : OpSem X o e H K := by
  obtain ⟨v, hK, hv⟩ := aq_sound hX.T o h
  intro I ρ w a hst he hk hs F n hF next Q hnext
  obtain ⟨u, hrun, hr⟩ := hv I ρ w a hst he
  obtain ⟨e', g1, g2, g3, g4⟩ := put_rel hK he hs hr
  refine ⟨fun f _ => hF.fn f, ?_⟩
  rw [semAt_of _ _ _ hd, hrun]
  exact hnext I ρ e' H w _ g1 hst g2 g3 g4 (Step.refl _ _ _ _ _)

theorem ae_sound {X : Ctx} (hX : CtxOk X) {o : Oper} {K : V → Env → List O → Prop} (h : ae X o.op e H K) : ESem X.P X.k o e H K := by
  unfold ae at h
  split at h
  · rename_i t ho
    cases hg : (X.T t).good <;> simp only [hg, copyL_iff, copyH_iff] at h
    exact e_alloc hX.T ho hg h
  · rename_i t x ho
    cases hc : cellsOf (aeval e x) <;> simp only [hc, copyL_iff, copyH_iff] at h
    exact e_box ho hc h
  · rename_i t len parts ho
    cases hk : (X.T t).kind <;> simp only [hk] at h
    rename_i q
    cases hq : okElem (X.T q) <;> simp only [hq] at h
    cases hb : Nat.ble (len * (X.T q).size) 16777216 <;> simp only [hb, copyH_iff] at h
    exact e_buildSlice hX.T ho hk hq (Nat.le_of_ble_eq_true hb) h
  · rename_i t x y ho
    split at h <;> try exact h.elim
    rename_i cs hc hg
    cases hb : Nat.beq cs.length (X.T t).size <;> simp only [hb] at h
    have hsz := Nat.eq_of_beq_eq_true hb
    cases hx : aeval e x <;> simp only [hx] at h
    · rename_i id off
      cases ho' : getO H id <;> simp only [ho'] at h
      rename_i old
      cases hle : Nat.ble (off + cs.length) old.length <;> simp only [hle, copyL_iff, copyH_iff, setO_eq] at h
      exact e_store_ptr hX.T ho hg hc hsz hx ho' (Nat.le_of_ble_eq_true hle) h
    · rename_i id i j
      split at h <;> try exact h.elim
      rename_i es ho' hp
      obtain ⟨old, hes, h⟩ := h
      cases hle : Nat.ble (j + cs.length) old.length <;> simp only [hle, copyL_iff, copyH_iff, setO_eq] at h
      exact e_store_ep hX.T ho hg hc hsz hx ho' hp hes (Nat.le_of_ble_eq_true hle) h
  · rename_i t x ho
    split at h <;> try exact h.elim
    rename_i s hk hx
    simp only [copyH_iff] at h
    exact e_range hX.T ho hk hx h
  · rename_i x ho
    split at h <;> try exact h.elim
    rename_i id hx
    split at h <;> try exact h.elim
    rename_i s pos hob
    simp only [copyH_iff, setO_eq] at h
    exact e_next ho hx hob h.1 h.2
  · rename_i c ho
    split at h
    · rename_i g hc
      split at h <;> try exact h.elim
      · rename_i f as bs hg
        cases hm : memN f X.fns <;> simp only [hm] at h
        · obtain ⟨r, hr, h⟩ := h
          exact e_ext ho hc hg hr h
        · exact e_call hX ho hc hg hm h
      · rename_i id hg
        exact e_yield ho hc hg h
    · rename_i hc
      split at h <;> try exact h.elim
      rename_i s x t t2 ha hat
      cases hk : (X.T t).kind <;> simp only [hk] at h
      rename_i q
      split at h <;> try exact h.elim
      rename_i hq ht2
      exact e_append hX.T ho hc ha hat hk hq ht2 h
    · rename_i hc
      split at h <;> try exact h.elim
      rename_i s t ha hat
      cases hk : (X.T t).kind <;> simp only [hk] at h
      rename_i q
      cases hq : okElem (X.T q) <;> simp only [hq] at h
      split at h <;> try exact h.elim
      rename_i z id off len full hs
      split at h <;> try exact h.elim
      rename_i es hz hg
      obtain ⟨⟨hpos, hin⟩, h⟩ := h
      rw [copyH_iff, setO_eq] at h
      have e0 := Nat.eq_of_beq_eq_true hz
      subst e0
      exact e_clear hX.T ho hc ha hat hk hq hs hg hpos hin h
    · exact h.elim
  · rename_i t ho
    exact e_makeMap hX.T ho h
  · rename_i t m k x ho
    exact e_mapUpdate hX.T (.inl ho) h
  · rename_i t m k x ho
    exact e_mapUpdate hX.T (.inr ho) h
  · rename_i t m k ok ho
    exact e_lookup hX.T ho h
  · rename_i t l c ho
    exact e_makeSlice hX.T ho h
  · exact h.elim

theorem isNilS_eq {y : Operand} (h : isNilS y = true) (a : Act) : a.eval y = .slice none 0 0 := by
  unfold isNilS at h
  split at h
  · rfl
  · cases h

theorem nilEmp_sound {X : Ctx} (hX : CtxOk X) {o : Oper} {op : BinOp} (hn : nilEmp X.T o.op e = some op) {K : V → Prop} (h1 : aeqn op true K) (h2 : aeqn op false K) : ESem X.P X.k o e H fun v e' H' => K v ∧ e' = e ∧ H' = H := by
  unfold nilEmp at hn
  split at hn <;> try (cases hn; done)
  rename_i op' t x y yt ho
  split at hn <;> try (cases hn; done)
  rename_i hy
  split at hn <;> try (cases hn; done)
  rename_i z f hx
  split at hn <;> try (cases hn; done)
  rename_i q hk
  cases hn
  refine esem_value (fun c hc => by rw [hc] at ho; cases ho) fun I ρ w a hst he hkl => ?_
  have hr := aevo_rel he x
  rw [hx] at hr
  obtain ⟨p, l, c, hu⟩ : ∃ p l c, a.eval x = .slice p l c := by
    revert hr
    generalize a.eval x = u
    intro hr
    cases hr with
    | sl => exact ⟨_, _, _, rfl⟩
    | slnil => exact ⟨_, _, _, rfl⟩
  have hyv := isNilS_eq hy a
  have heq := equal_sl (ty_sl hX.T hk) p l c w
  have hb : ∀ b : Bool, p.isNone = b → ((binOp .eql t (.slice p l c) (.slice none 0 0)).run X.P w = .ok (.bool b) w ∧ (binOp .neq t (.slice p l c) (.slice none 0 0)).run X.P w = .ok (.bool (!b)) w) := by
    intro b hb
    subst hb
    constructor <;> (unfold binOp; split <;> first | contradiction | (simp [heq]))
  have hK : aeqn op p.isNone K := by cases p.isNone <;> assumption
  cases op <;> simp only [aeqn] at hK <;> try exact hK.elim
  · exact ⟨_, _, I, ρ, e, H, w, .inl (run_bin ho hu hyv (by simp) (by simp) (hb _ rfl).1), ⟨hK, rfl, rfl⟩, hst, .bool _ _, he, Step.refl _ _ _ _ _⟩
  · exact ⟨_, _, I, ρ, e, H, w, .inl (run_bin ho hu hyv (by simp) (by simp) (hb _ rfl).2), ⟨hK, rfl, rfl⟩, hst, .bool _ _, he, Step.refl _ _ _ _ _⟩

theorem ESem.mono {P : Program} {k : Nat} {o : Oper} {K K' : V → Env → List O → Prop} (h : ESem P k o e H K) (hK : ∀ v e' H', K v e' H' → K' v e' H') : ESem P k o e H K' := by
  intro I ρ w a hst he hkl F n hF next Q hn
  exact h I ρ w a hst he hkl F n hF next Q fun u v I' ρ' e' H' w' g => hn u v I' ρ' e' H' w' (hK _ _ _ g)

theorem aop_sound {X : Ctx} (hX : CtxOk X) {o : Oper} {K : Env → List O → Prop} (h : aop X o e H K) : OpSem X o e H K := by
  unfold aop at h
  cases hb : isEff o.op with
  | true => simp only [hb] at h; exact opSem_of_esem (ae_sound hX h)
  | false =>
    simp only [hb] at h
    have quiet : (aq X.T o.op e H fun v => putE X.n o.dst v e fun e'' => K e'' H) → OpSem X o e H K := fun h => opSem_quiet hX (fun c hc => by rw [hc] at h; simp [aq] at h) h
    cases hs : X.stab with
    | true => simp only [hs] at h; exact quiet h
    | false =>
      simp only [hs] at h
      cases hn : nilEmp X.T o.op e with
      | none =>
        simp only [hn] at h
        split at h
        · rename_i t x lo hi mx ho
          obtain ⟨v, hK, hv⟩ := q_slice hX.T ho (HB := H) (fun _ => Nat.le_refl _) h
          exact opSem_ok (fun c hc => by rw [hc] at ho; cases ho) hK hv
        · exact quiet h
      | some op =>
        simp only [hn] at h
        exact opSem_of_esem ((nilEmp_sound hX hn h.1 h.2).mono fun v e' H' ⟨g, e1, e2⟩ => by subst e1; subst e2; exact g)

end Go.Proofs.YtcgpgpbnpjbhhaaPg
