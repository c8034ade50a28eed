/- Calls; operations; regions. -/
import Derived.Test.YtfhoblpcneachaaPgB61
import Derived.Test.YtfhoblpcneachaaPgE1
namespace Go.Proofs.YtfhoblpcneachaaPg
open Go Go.RowKit
set_option linter.unusedVariables false
set_option linter.unusedSimpArgs false

variable {P : Program} {T : Nat → TI} {I : Imm} {ρ : List Pl} {H : List O} {w : World} {e : Env}

/-- What the program must be for a context. -/
structure CtxOk (X : Ctx) : Prop where
  T : TIok X.P X.T
  fns : ∀ f ∈ X.fns, ∀ args w, (callFunc f args).run X.P w = .ok (.enter f args) w
  mixed : X.P.follows .mixedOrders = true

theorem callsIn_of {F : Fence} (hF : Wide F) {n : Nat} {f : FuncId} {args : Array Value} {w : World} {R : Ending → World → Prop} (h : Calls P f args w R) : CallsIn F n P f args w R := by
  have := (callsIn_wide (n := n)).2 h
  rcases hF with rfl | ⟨l, rfl⟩
  · exact this
  · exact CallsIn.inRound l this

/-- A call of a function, or of 'yield', in the model. -/
def CallsC (P : Program) (f : Option FuncId) (us : List Value) (w : World) (R : Ending → World → Prop) : Prop :=
  match f with
  | some f => Calls P f us.toArray w R
  | none => ∃ l us', us = .func (.yield l) #[] #[] :: us' ∧ YieldAt Fence.wide 0 P l us'.toArray w R

theorem CallsC.mono {P : Program} {f : Option FuncId} {us : List Value} {w : World} {R R' : Ending → World → Prop} (h : CallsC P f us w R) (hr : ∀ e w', R e w' → R' e w') : CallsC P f us w R' := by
  cases f with
  | some f => exact Calls.mono h hr
  | none =>
    obtain ⟨l, us', h1, fn, tmps, asg, body, h2, h3⟩ := h
    exact ⟨l, us', h1, fn, tmps, asg, body, h2, h3.mono hr⟩

theorem acal_out {P : Program} {f : Option FuncId} {k : Nat} {args : List V} {H : List O} {Q : V → List O → Prop} (h : ACal P f k args H Q) (I : Imm) (ρ : List Pl) (w : World) (us : List Value) (hst : St I ρ H w) (hk : k ≤ H.length) (ha : VRels I ρ args us) :
    CallsC P f us w fun en w' => ∃ v r I' ρ' H', en = .returned v ∧ St I' ρ' H' w' ∧ VRel I' ρ' r v ∧ Step k I ρ H w I' ρ' H' w' ∧ Q r H' := by
  cases f with
  | some f => exact h.out I ρ w us.toArray hst hk (by simpa using ha)
  | none => exact h.out I ρ w us hst hk ha

theorem acalls_sound {X : Ctx} {f : Option FuncId} {K : V → Env → List O → Prop} {args : List V} {e : Env} {H : List O} (h : ACalls X f K args e H) :
    ∀ (I : Imm) (ρ : List Pl) (w : World) (us : List Value) (a : Act), St I ρ H w → ERel I ρ e a.tmps → VRels I ρ args us → X.k ≤ ρ.length → CallsC X.P f us w fun en w' =>
      ∃ v r I' ρ' e' H', en = .returned v ∧ K r e' H' ∧ St I' ρ' H' w' ∧ VRel I' ρ' r v ∧ ERel I' ρ' e' a.tmps ∧ Step X.k I ρ H w I' ρ' H' w' := by
  induction h with
  | call is k' hok h =>
    obtain ⟨hok, hge, _⟩ := hok
    simp only [isOk, Bool.and_eq_true] at hok
    obtain ⟨⟨hl, hn⟩, hkl⟩ := hok
    have hk' : k' ≤ is.length := Nat.le_of_ble_eq_true hkl
    intro I ρ w us a hst he hargs hk
    obtain ⟨hsub, hfit, _⟩ := handover hst hl hn
    refine (acal_out h I (subP is ρ) w us hsub (by simp [gather_map]; exact hk') (hargs.ren hfit)).mono ?_
    rintro en w' ⟨v, r, I', ρ', H', rfl, s1, s2, s3, s4⟩
    obtain ⟨t1, t2, t3, t4, t5⟩ := takeback hst hl hn hk' hge hk s1 s3
    exact ⟨v, _, I', _, _, _, rfl, s4, t1, s2.ren t2, fun t => fogE_get is k' _ t t3 s3.ile (he t) t4, t5⟩
  | frz id hs hok hfit h ih =>
    intro I ρ w us a hst he hargs hk
    rename_i as0 e0 H
    have hne : getO H id ≠ .dead := fun e => by rw [e] at hok; cases hok
    have ho := getO_some (H := H) (id := id) rfl hne
    have hlt : id < ρ.length := by rw [hst.len]; exact (List.getElem?_eq_some_iff.1 ho).1
    obtain ⟨I2, g1, g2, g3⟩ := frz_st hst (List.getElem?_eq_getElem hlt) ho hok (frzFit_h hfit) X.k
    refine (ih I2 ρ w us a g1 (fun t => by rw [frzE_get]; exact g3 _ _ (frzFit_e hfit t) (he t)) ⟨by rw [frzL_map]; simpa using hargs.1, fun i v u hv hu => ?_⟩ hk).mono ?_
    · rw [frzL_map, List.getElem?_map] at hv
      cases hx : as0[i]? with
      | none => rw [hx] at hv; cases hv
      | some z => rw [hx] at hv; cases hv; exact g3 _ _ (frzFit_v hfit (List.mem_of_getElem? hx)) (hargs.2 i z u hx hu)
    · rintro en w' ⟨v, r, I', ρ', e', H', h1, h2, h3, h4, h5, h6⟩
      exact ⟨v, r, I', ρ', e', H', h1, h2, h3, h4, h5, g2.trans h6⟩

theorem e_call {X : Ctx} (hX : CtxOk X) {o : Oper} {c : Call} (ho : o.op = .call c) {g : Operand} (hc : c.callee = .value g) {f : FuncId} {as bs : List V} (hg : aeval e g = .fn (.func f) as bs) (hf : memN f X.fns = true) {K : V → Env → List O → Prop}
    (h : acall X (some f) (as ++ (c.args.toList.map (aeval e) ++ bs)) e H K) : ESem X.P X.k o e H K := by
  intro I ρ w a hst he hk F n hF next Q hnext
  have hrg := aeval_rel he g
  rw [hg] at hrg
  obtain ⟨us, ws, eg, hus, hws⟩ := vr_fn hrg
  have hargs : VRels I ρ (as ++ (c.args.toList.map (aeval e) ++ bs)) (us ++ c.args.map a.eval ++ ws).toList := by
    have := hus.append ((rels_map (aeval_rel he) c.args.toList).append hws)
    simpa [List.append_assoc] using this
  have hcall : Calls X.P f (us ++ c.args.map a.eval ++ ws).toList.toArray w _ := acalls_sound h I ρ w (us ++ c.args.map a.eval ++ ws).toList a hst he hargs hk
  rw [Array.toArray_toList] at hcall
  have hrun : (execOp a.eval o).run X.P w = .ok (.enter f (us ++ c.args.map a.eval ++ ws)) w := by
    have h1 := hX.fns f (memN_mem hf) (us ++ c.args.map a.eval ++ ws) w
    obtain ⟨callee, args, argTypes⟩ := c
    simp only at hc
    subst hc
    simp [execOp, ho, resolve, eg, Deferred.ofValue, invoke]
    simpa using h1
  refine ⟨fun f _ => hF.fn f, ?_⟩
  rw [semAt_of _ _ _ (by simp [ho]), hrun, Oper.uponIn_enter]
  refine ⟨fun hd => by rw [hF.depth] at hd; simp at hd, callsIn_of hF (hcall.mono ?_)⟩
  rintro en w' ⟨v, r, I', ρ', e', H', rfl, h1, h2, h3, h4, h5⟩
  exact hnext v _ I' _ _ _ w' h1 h2 h3 h4 h5

theorem vr_yld {id : Nat} {u : Value} (h : VRel I ρ (.yld id) u) : ∃ p, ρ[id]? = some p ∧ u = .func (.yield p.b) #[] #[] := by cases h; exact ⟨_, ‹_›, rfl⟩

theorem roundIn_of {F : Fence} (hF : Wide F) {n : Nat} {l : Nat} {f : FuncId} {tmps : Array Value} {asg body : Code} {w : World} {R : Ending → World → Prop} (h : RoundIn Fence.wide 0 P l f tmps asg body w R) : RoundIn F n P l f tmps asg body w R := by
  obtain ⟨_, h⟩ := h
  rcases hF with rfl | ⟨l', rfl⟩
  · exact ⟨trivial, fun c cs _ => h c cs (room_wide _)⟩
  · exact ⟨trivial, fun c cs _ => h c cs (room_wide _)⟩

theorem e_yield {X : Ctx} {o : Oper} {c : Call} (ho : o.op = .call c) {g : Operand} (hc : c.callee = .value g) {id : Nat} (hg : aeval e g = .yld id) {K : V → Env → List O → Prop}
    (h : acall X none (.yld id :: c.args.toList.map (aeval e)) e H K) : ESem X.P X.k o e H K := by
  intro I ρ w a hst he hk F n hF next Q hnext
  have hrg := aeval_rel he g
  rw [hg] at hrg
  obtain ⟨p, hp, eg⟩ := vr_yld hrg
  have hargs : VRels I ρ (.yld id :: c.args.toList.map (aeval e)) (.func (.yield p.b) #[] #[] :: c.args.toList.map a.eval) := VRels.cons (.yld _ _ _ hp) (rels_map (aeval_rel he) c.args.toList)
  obtain ⟨l, us', e1, fn, tmps, asg, body, hrun, hround⟩ := acalls_sound h I ρ w _ a hst he hargs hk
  simp only [List.cons.injEq, Value.func.injEq, Fn.yield.injEq, and_true] at e1
  obtain ⟨rfl, rfl⟩ := e1
  have hrun : (execOp a.eval o).run X.P w = .ok (.round p.b fn tmps asg body) w := by
    obtain ⟨callee, args, argTypes⟩ := c
    simp only at hc
    subst hc
    have hl : (List.map a.eval args.toList).toArray = args.map a.eval := by apply Array.ext'; simp
    rw [hl] at hrun
    simp [execOp, ho, resolve, eg, Deferred.ofValue, invoke]
    simpa using hrun
  refine ⟨fun f _ => hF.fn f, ?_⟩
  rw [semAt_of _ _ _ (by simp [ho]), hrun, Oper.uponIn_round]
  refine ⟨fun hd => by rw [hF.depth] at hd; simp at hd, roundIn_of hF (hround.mono ?_)⟩
  rintro en w' ⟨v, r, I', ρ', e', H', rfl, h1, h2, h3, h4, h5⟩
  exact hnext v _ I' _ _ _ w' h1 h2 h3 h4 h5

/-! ### an operation of a region -/
/-- What an operation comes to, its result put away. -/
def OpSem (X : Ctx) (o : Oper) (e : Env) (H : List O) (K : Env → List O → Prop) : Prop :=
  ∀ (I : Imm) (ρ : List Pl) (w : World) (a : Act), St I ρ H w → ERel I ρ e a.tmps → X.k ≤ ρ.length → a.tmps.size = X.n → ∀ (F : Fence) (n : Nat), Wide F → ∀ (next : Act → World → Prop) (Q : Exit → Act → World → Prop),
    (∀ I' ρ' e' H' w' (a' : Act), K e' H' → St I' ρ' H' w' → ERel I' ρ' e' a'.tmps → a'.tmps.size = X.n → a'.defers = a.defers → Step X.k I ρ H w I' ρ' H' w' → next a' w') → o.wpIn F n X.P a w next Q

theorem put_rel {I : Imm} {ρ : List Pl} {n : Nat} {dst : Option Nat} {v : V} {e : Env} {K : Env → Prop} (h : putE n dst v e K) {a : Act} (he : ERel I ρ e a.tmps) (hs : a.tmps.size = n) {u : Value} (hv : VRel I ρ v u) :
    ∃ e', K e' ∧ ERel I ρ e' (a.put dst u).tmps ∧ (a.put dst u).tmps.size = n ∧ (a.put dst u).defers = a.defers := by
  unfold putE at h
  cases dst with
  | none => exact ⟨e, h, he, hs, rfl⟩
  | some d =>
    simp only at h
    cases hb : Nat.blt d n with
    | false => simp only [hb] at h
    | true =>
      simp only [hb] at h
      have hd : d < n := Nat.le_of_ble_eq_true hb
      refine ⟨_, h, fun t => ?_, by simp [Act.put, hs], rfl⟩
      simp only [Env.get, Act.put]
      cases ht : Nat.beq d t with
      | true =>
        have := Nat.eq_of_beq_eq_true ht
        subst this
        simp only
        rw [show (a.tmps.setIfInBounds d u).getD d undef = u by simp [hs, hd]]
        exact hv
      | false =>
        have hne := Nat.ne_of_beq_eq_false ht
        simp only
        rw [show (a.tmps.setIfInBounds d u).getD t undef = a.tmps.getD t undef by simp [Array.getElem?_setIfInBounds_ne hne]]
        exact he t

theorem opSem_of_esem {X : Ctx} {o : Oper} {K : Env → List O → Prop} (h : ESem X.P X.k o e H fun v e' H' => putE X.n o.dst v e' fun e'' => K e'' H') : OpSem X o e H K := by
  intro I ρ w a hst he hk hs F n hF next Q hnext
  refine h I ρ w a hst he hk F n hF next Q fun u v I' ρ' e' H' w' hK h1 h2 h3 h4 => ?_
  obtain ⟨e'', g1, g2, g3, g4⟩ := put_rel hK h3 hs h2
  exact hnext I' ρ' e'' H' w' _ g1 h1 g2 g3 g4 h4

theorem opSem_quiet {X : Ctx} (hX : CtxOk X) {o : Oper} (hd : ∀ c, o.op ≠ .defer c) {K : Env → List O → Prop} (h : aq X.T o.op e H fun v => putE X.n o.dst v e fun e' => K e' H) : OpSem X o e H K := by
  obtain ⟨v, hK, hv⟩ := aq_sound hX.T o h
  intro I ρ w a hst he hk hs F n hF next Q hnext
  obtain ⟨u, hrun, hr⟩ := hv I ρ w a hst he
  obtain ⟨e', g1, g2, g3, g4⟩ := put_rel hK he hs hr
  refine ⟨fun f _ => hF.fn f, ?_⟩
  rw [semAt_of _ _ _ hd, hrun]
  exact hnext I ρ e' H w _ g1 hst g2 g3 g4 (Step.refl _ _ _ _ _)

theorem ae_sound {X : Ctx} (hX : CtxOk X) {o : Oper} {K : V → Env → List O → Prop} (h : ae X o.op e H K) : ESem X.P X.k o e H K := by
  unfold ae at h
  split at h
  · rename_i t ho
    cases hg : (X.T t).good <;> simp only [hg, copyL_iff, copyH_iff] at h
    exact e_alloc hX.T ho hg h
  · rename_i t x ho
    cases hc : cellsOf (aeval e x) <;> simp only [hc, copyL_iff, copyH_iff] at h
    exact e_box ho hc h
  · rename_i t len parts ho
    cases hk : (X.T t).kind <;> simp only [hk] at h
    rename_i q
    cases hq : okElem (X.T q) <;> simp only [hq] at h
    cases hb : Nat.ble (len * (X.T q).size) 16777216 <;> simp only [hb, copyH_iff] at h
    exact e_buildSlice hX.T ho hk hq (Nat.le_of_ble_eq_true hb) h
  · rename_i t x y ho
    split at h <;> try exact h.elim
    rename_i cs hc hg
    cases hb : Nat.beq cs.length (X.T t).size <;> simp only [hb] at h
    have hsz := Nat.eq_of_beq_eq_true hb
    cases hx : aeval e x <;> simp only [hx] at h
    · rename_i id off
      cases ho' : getO H id <;> simp only [ho'] at h
      rename_i old
      cases hle : Nat.ble (off + cs.length) old.length <;> simp only [hle, copyL_iff, copyH_iff, setO_eq] at h
      exact e_store_ptr hX.T ho hg hc hsz hx ho' (Nat.le_of_ble_eq_true hle) h
    · rename_i id i j
      split at h <;> try exact h.elim
      rename_i es ho' hp
      obtain ⟨old, hes, h⟩ := h
      cases hle : Nat.ble (j + cs.length) old.length <;> simp only [hle, copyL_iff, copyH_iff, setO_eq] at h
      exact e_store_ep hX.T ho hg hc hsz hx ho' hp hes (Nat.le_of_ble_eq_true hle) h
  · rename_i t x ho
    split at h <;> try exact h.elim
    rename_i s hk hx
    simp only [copyH_iff] at h
    exact e_range hX.T ho hk hx h
  · rename_i x ho
    split at h <;> try exact h.elim
    rename_i id hx
    split at h <;> try exact h.elim
    rename_i s pos hob
    simp only [copyH_iff, setO_eq] at h
    exact e_next ho hx hob h.1 h.2
  · rename_i c ho
    split at h
    · rename_i g hc
      split at h <;> try exact h.elim
      · rename_i f as bs hg
        cases hm : memN f X.fns <;> simp only [hm] at h
        · obtain ⟨r, hr, h⟩ := h
          exact e_ext ho hc hg hr h
        · exact e_call hX ho hc hg hm h
      · rename_i id hg
        exact e_yield ho hc hg h
    · rename_i hc
      split at h <;> try exact h.elim
      rename_i s x t t2 ha hat
      cases hk : (X.T t).kind <;> simp only [hk] at h
      rename_i q
      split at h <;> try exact h.elim
      rename_i hq ht2
      exact e_append hX.T ho hc ha hat hk hq ht2 h
    · exact h.elim
  · exact h.elim

theorem aop_sound {X : Ctx} (hX : CtxOk X) {o : Oper} {K : Env → List O → Prop} (h : aop X o e H K) : OpSem X o e H K := by
  unfold aop at h
  cases hb : isEff o.op with
  | true => simp only [hb] at h; exact opSem_of_esem (ae_sound hX h)
  | false =>
    simp only [hb] at h
    refine opSem_quiet hX (fun c hc => ?_) h
    rw [hc] at h; simp [aq] at h

end Go.Proofs.YtfhoblpcneachaaPg
