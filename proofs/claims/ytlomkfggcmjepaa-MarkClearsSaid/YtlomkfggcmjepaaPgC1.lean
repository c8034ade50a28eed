/- Code, and functions. -/
import Derived.Test.YtlomkfggcmjepaaPgC01
import Derived.Scope
namespace Go.Proofs.YtlomkfggcmjepaaPg
open Go Go.RowKit
set_option linter.unusedVariables false
set_option linter.unusedSimpArgs false

variable {P : Program} {T : Nat → TI} {I : Imm} {ρ : List Pl} {H : List O} {w : World} {e : Env}

theorem CPost.step {X : Ctx} {Q : AEx → Env → List O → Prop} {I I1 : Imm} {ρ ρ1 : List Pl} {H H1 : List O} {w w1 : World} {a a1 : Act} {ex : Exit} {a' : Act} {w' : World} (h : CPost X Q I1 ρ1 H1 w1 a1 ex a' w') (hs : Step X.k I ρ H w I1 ρ1 H1 w1) (hd : a1.defers = a.defers) : CPost X Q I ρ H w a ex a' w' := by
  obtain ⟨x, e', H', I', ρ', h1, h2, h3, h4, h5, h6, h7⟩ := h
  exact ⟨x, e', H', I', ρ', h1, h2, h3, h4, h5, h6.trans hd, hs.trans h7⟩

theorem CPost.mk {X : Ctx} {Q : AEx → Env → List O → Prop} {a : Act} {x : AEx} {ex : Exit} (hx : AEx.is x ex) (hQ : Q x e H) (hst : St I ρ H w) (he : ERel I ρ e a.tmps) (hs : a.tmps.size = X.n) : CPost X Q I ρ H w a ex a w :=
  ⟨x, e, H, I, ρ, hx, hQ, hst, he, hs, rfl, Step.refl _ _ _ _ _⟩

/-- Some objects are let go, the others named anew. -/
theorem sel_step {k : Nat} {I I' : Imm} {ρ ρ' : List Pl} {H H' : List O} {w w' : World} {sel : List Nat} (h3 : St I' ρ' H' w') (hsel : selOk sel H'.length k = true) (h7 : Step k I ρ H w I' ρ' H' w') :
    St I' (subP sel ρ') (gather (idx sel) H' sel) w' ∧ Fits (idx sel) ρ' (subP sel ρ') ∧ Step k I ρ H w I' (subP sel ρ') (gather (idx sel) H' sel) w' := by
  simp only [selOk, Bool.and_eq_true] at hsel
  obtain ⟨⟨q1, q2⟩, q3⟩ := hsel
  obtain ⟨r1, r2, r3⟩ := handover h3 q1 q2
  refine ⟨r1, r2, ⟨h7.ile, fun i hi => ?_, h7.os, h7.tape, h7.output, h7.size, h7.frame, fun b hb => ?_, h7.imm⟩⟩
  · have q3' := eq_of_beq q3
    have hsi : sel[i]? = some i := by
      have : (sel.take k)[i]? = some i := by rw [q3']; simp [hi]
      rwa [List.getElem?_take_of_lt hi] at this
    rw [← h7.take i hi]
    have hlt : ∀ i ∈ sel, i < ρ'.length := fun j hj => by rw [h3.len]; exact allLt_lt q1 j hj
    have hil := hlt i (List.mem_of_getElem? hsi)
    rw [List.getElem?_eq_getElem hil]
    exact (subP_get hlt).2 ⟨i, hsi, List.getElem?_eq_getElem hil⟩
  · obtain ⟨i, _, p, o, g1, g2, g3, g4⟩ := r3 b hb
    exact h7.own b ⟨i, p, o, g1, g2, g3, g4⟩

theorem stepR_scope' {b : Frame} {a : Act} {k : List Item} {cs : List Frame} {c : Code} : step P (lone (b.atR a (.code (.scope c) :: k)) cs w) = .next (lone (b.atR a (.code c :: .inScope c :: k)) cs w) :=
  step_lone_go (by simp [stepG, stepG.exec, Frame.atR])
theorem stepR_inScope' {b : Frame} {a : Act} {k : List Item} {cs : List Frame} {c : Code} : step P (lone (b.atR a (.inScope c :: k)) cs w) = .next (lone (b.atR a k) cs w) :=
  step_lone_go (by simp [stepG, stepG.exec, Frame.atR])

theorem wpIn_scope_straight {F : Fence} {n : Nat} {Q : Exit → Act → World → Prop} {a : Act} {c : Code} (h : c.wpIn F n P (Exit.noGoto Q) a w) : (Code.scope c).wpIn F n P Q a w := by
  intro b k cs hro hb hr
  have h0 : (lone (b.atR a (.code (.scope c) :: k)) cs w).fenced P F := fenced_calm hb hr rfl
  obtain ⟨e, a₁, w₁, hq, harr⟩ := h b (.inScope c :: k) cs hro hb hr
  cases e with
  | normal => exact ⟨.normal, a₁, w₁, hq, .head h0 stepR_scope' (StepsIn.trans harr (.one (fenced_calm hb hr rfl) stepR_inScope'))⟩
  | exit id =>
    have hx : exitTo id (.inScope c :: k) = exitTo id k := by simp [exitTo]
    exact ⟨.exit id, a₁, w₁, hq, fun k' hk => .head h0 stepR_scope' (harr.1 k' (by rw [hx]; exact hk)),
      fun hr' hk => let ⟨k₁, h1, h2⟩ := harr.2 hr' (by rw [hx]; exact hk); ⟨k₁, h1, .head h0 stepR_scope' h2⟩⟩
  | goto l => exact hq.elim
  | ret => exact ⟨_, a₁, w₁, hq, .of_steps (.one h0 stepR_scope') harr⟩
  | panic ch => exact ⟨_, a₁, w₁, hq, .of_steps (.one h0 stepR_scope') harr⟩
  | outgrown => exact ⟨_, a₁, w₁, hq, .of_steps (.one h0 stepR_scope') harr⟩

theorem awp_sound {X : Ctx} (hX : CtxOk X) : ∀ (c : Code) {Q : AEx → Env → List O → Prop} {e : Env} {H : List O}, awp X c Q e H → CSem X c Q e H := by
  intro c
  induction c with
  | skip =>
    intro Q e H h I ρ w a hst he hk hs F n hF
    exact wpIn_skip (CPost.mk (x := .normal) trivial h hst he hs)
  | region id ops draw =>
    intro Q e H h I ρ w a hst he hk hs F n hF
    cases draw with
    | false =>
      simp only [awp] at h
      refine wpIn_region ?_
      have := aops_sound hX ops.toList 0 (by simp) e H h I ρ w a hst he hk hs F n hF (CPost X Q I ρ H w a) (fun I' ρ' e' H' w' a' hK h1 h2 h3 h4 h5 => ⟨.normal, e', H', I', ρ', trivial, hK, h1, h2, h3, h4, h5⟩)
      rw [List.range_eq_range']
      simpa using this
    | true =>
      simp only [awp] at h
      exact adraw_sound hX h hst he hk hs hF (fun I' ρ' e' H' w' a' hK h1 h2 h3 h4 h5 => ⟨.normal, e', H', I', ρ', trivial, hK, h1, h2, h3, h4, h5⟩)
  | seq x y ihx ihy =>
    intro Q e H h I ρ w a hst he hk hs F n hF
    simp only [awp] at h
    refine wpIn_seq (wpIn_mono (ihx h I ρ w a hst he hk hs F n hF) ?_)
    rintro ex a' w' ⟨x', e', H', I', ρ', h1, h2, h3, h4, h5, h6, h7⟩
    cases x' <;> cases ex <;> simp only [AEx.is] at h1 <;> simp only [Exit.then]
    · simp only [AEx.seq] at h2
      refine wpIn_mono (ihy h2 I' ρ' w' a' h3 h4 (h7.klen hk) h5 F n hF) fun ex2 a2 w2 g => g.step h7 h6
    · subst h1
      exact ⟨.exit _, e', H', I', ρ', rfl, h2, h3, h4, h5, h6, h7⟩
    · exact ⟨.ret, e', H', I', ρ', trivial, h2, h3, h4, h5, h6, h7⟩
  | cond c x y ihx ihy =>
    intro Q e H h I ρ w a hst he hk hs F n hF
    simp only [awp] at h
    cases hc : aeval e c <;> simp only [hc] at h
    rename_i b
    have hr := aeval_rel he c
    rw [hc] at hr
    refine wpIn_cond (vr_bool hr) ?_
    cases b with
    | true => exact ihx h I ρ w a hst he hk hs F n hF
    | false => exact ihy h I ρ w a hst he hk hs F n hF
  | block id c ih =>
    intro Q e H h I ρ w a hst he hk hs F n hF
    simp only [awp] at h
    refine wpIn_block (wpIn_mono (ih h I ρ w a hst he hk hs F n hF) ?_)
    rintro ex a' w' ⟨x', e', H', I', ρ', h1, h2, h3, h4, h5, h6, h7⟩
    cases x' <;> cases ex <;> simp only [AEx.is] at h1 <;> simp only [Exit.inBlock]
    · exact ⟨.normal, e', H', I', ρ', trivial, h2, h3, h4, h5, h6, h7⟩
    · rename_i i j
      subst h1
      simp only [AEx.block] at h2
      cases hb : Nat.beq i id with
      | true =>
        have := Nat.eq_of_beq_eq_true hb
        subst this
        simp only [hb] at h2
        rw [if_pos rfl]
        exact ⟨.normal, e', H', I', ρ', trivial, h2, h3, h4, h5, h6, h7⟩
      | false =>
        simp only [hb] at h2
        rw [if_neg (Nat.ne_of_beq_eq_false hb)]
        exact ⟨.exit i, e', H', I', ρ', rfl, h2, h3, h4, h5, h6, h7⟩
    · exact ⟨.ret, e', H', I', ρ', trivial, h2, h3, h4, h5, h6, h7⟩
  | loop c ih =>
    intro Q e H h I ρ w a hst he hk hs F n hF
    simp only [awp] at h
    obtain ⟨ts, Inv, ⟨m0, hI0⟩, hround⟩ := h.out
    -- the relation on the concrete side
    let Rel : Nat → Act → World → Prop := fun m a1 w1 => ∃ vs H1 I1 ρ1, Inv m vs H1 ∧ vs.length = ts.length ∧ St I1 ρ1 H1 w1 ∧ ERel I1 ρ1 (ts.zip vs) a1.tmps ∧ a1.tmps.size = X.n ∧ a1.defers = a.defers ∧ Step X.k I ρ H w I1 ρ1 H1 w1
    intro b k cs hro hb hr
    have key : ∀ m a1 w1, Rel m a1 w1 → ∃ ex a' w', CPost X Q I ρ H w a ex a' w' ∧ ArrivesIn (Machine.fenced X.P F) X.P (lone (b.atR a1 (.code c :: .inLoop c :: k)) cs w1) b k cs ex a' w' := by
      intro m
      induction m using Nat.strongRecOn with
      | _ m ihm =>
        rintro a1 w1 ⟨vs, H1, I1, ρ1, hI, hlen, g1, g2, g3, g4, g5⟩
        obtain ⟨ex, a2, w2, hq, harr⟩ := ih (hround m vs H1 hI) I1 ρ1 w1 a1 g1 g2 (g5.klen hk) g3 F n hF b (.inLoop c :: k) cs hro hb hr
        obtain ⟨x, e2, H2, I2, ρ2, p1, p2, p3, p4, p5, p6, p7⟩ := hq
        cases x <;> cases ex <;> simp only [AEx.is] at p1
        · obtain ⟨sel, hsel, m', hm', hI'⟩ := p2
          obtain ⟨z1, z2, z3⟩ := sel_step p3 hsel p7
          obtain ⟨ex3, a3, w3, hq3, harr3⟩ := ihm m' hm' a2 w2 ⟨_, _, I2, _, hI', by simp, z1, erel_zip (fun i t v ht hv => by rw [List.getElem?_map, ht] at hv; cases hv; exact (p4 t).ren z2), p5, p6.trans g4, g5.trans z3⟩
          exact ⟨ex3, a3, w3, hq3, .of_steps (StepsIn.trans harr (.one (fenced_calm hb hr rfl) stepR_inLoop)) harr3⟩
        · subst p1
          exact ⟨Exit.exit _, a2, w2, ⟨.exit _, e2, H2, I2, ρ2, rfl, p2, p3, p4, p5, p6.trans g4, g5.trans p7⟩, .pass (x := .inLoop c) rfl (fun _ _ => .inl (by simp)) harr⟩
        · exact ⟨Exit.ret, a2, w2, ⟨.ret, e2, H2, I2, ρ2, trivial, p2, p3, p4, p5, p6.trans g4, g5.trans p7⟩, .pass (x := .inLoop c) rfl (fun _ _ => .inl (by simp)) harr⟩
    obtain ⟨ex, a', w', hq, harr⟩ := key m0 a w ⟨ts.map (Env.get e), H, I, ρ, hI0, by simp, hst, erel_zip (fun i t v ht hv => by rw [List.getElem?_map, ht] at hv; cases hv; exact he t), hs, rfl, Step.refl _ _ _ _ _⟩
    exact ⟨ex, a', w', hq, .of_steps (.one (fenced_calm hb hr rfl) stepR_loop) harr⟩
  | rangeFunc f params assign body ih1 ih2 => intro Q e H h; simp only [awp] at h
  | exit id =>
    intro Q e H h I ρ w a hst he hk hs F n hF
    exact wpIn_exit (CPost.mk (x := .exit id) rfl h hst he hs)
  | scope body ih =>
    intro Q e H h I ρ w a hst he hk hs F n hF
    simp only [awp] at h
    refine wpIn_scope_straight (wpIn_mono (ih h I ρ w a hst he hk hs F n hF) ?_)
    rintro ex a' w' ⟨x', e', H', I', ρ', h1, h2, h3, h4, h5, h6, h7⟩
    cases x' <;> cases ex <;> simp only [AEx.is] at h1 <;> simp only [Exit.noGoto]
    · exact ⟨.normal, e', H', I', ρ', trivial, h2, h3, h4, h5, h6, h7⟩
    · exact ⟨.exit _, e', H', I', ρ', h1, h2, h3, h4, h5, h6, h7⟩
    · exact ⟨.ret, e', H', I', ρ', trivial, h2, h3, h4, h5, h6, h7⟩
  | label l =>
    intro Q e H h I ρ w a hst he hk hs F n hF
    exact wpIn_label (CPost.mk (x := .normal) trivial h hst he hs)
  | goto l => intro Q e H h; simp only [awp] at h
  | ret =>
    intro Q e H h I ρ w a hst he hk hs F n hF
    exact wpIn_ret (CPost.mk (x := .ret) trivial h hst he hs)
  | refuse why => intro Q e H h; simp only [awp] at h

/-! ### functions -/
def retVal : List Value → Value
  | [u] => u
  | us => .tuple us.toArray

def rsem (tmps : Array Value) : ResultVar → Sem Value
  | .tmp t => pure (tmps.getD t undef)
  | .cell a t => do loadVar t (← asAddr (tmps.getD a undef))

theorem results_eq (fn : Func) (tmps : Array Value) : results fn tmps = (do let vs ← fn.results.mapM (rsem tmps); pure (if h : vs.size = 1 then vs[0] else .tuple vs)) := by
  unfold results
  congr 1

theorem ares_sound {X : Ctx} (hX : CtxOk X) : ∀ (rs : List ResultVar) {e : Env} {H : List O} {K : List V → Prop}, ares X.T e H rs K → ∃ l, K l ∧ ∀ (I : Imm) (ρ : List Pl) (w : World) (tmps : Array Value), St I ρ H w → ERel I ρ e tmps →
    ∃ us, (rs.mapM (rsem tmps)).run X.P w = .ok us w ∧ VRels I ρ l us := by
  intro rs
  induction rs with
  | nil => intro e H K h; exact ⟨[], h, fun I ρ w tmps hst he => ⟨[], by simp, .nil _ _⟩⟩
  | cons r rs ih =>
    intro e H K h
    cases r with
    | tmp t =>
      simp only [ares, force_iff] at h
      obtain ⟨l, hK, hl⟩ := ih h
      refine ⟨_, hK, fun I ρ w tmps hst he => ?_⟩
      obtain ⟨us, h1, h2⟩ := hl I ρ w tmps hst he
      exact ⟨tmps.getD t undef :: us, by simp [List.mapM_cons, rsem, h1], .cons (he t) h2⟩
    | cell a t =>
      simp only [ares] at h
      cases hx : Env.get e a <;> simp only [hx] at h
      rename_i id off
      cases hg : getO H id <;> simp only [hg] at h
      rename_i cs
      obtain ⟨v, h', hl⟩ := loadV_sound hX.T h
      obtain ⟨l, hK, hl2⟩ := ih h'
      refine ⟨_, hK, fun I ρ w tmps hst he => ?_⟩
      have hr := he a
      rw [hx] at hr
      obtain ⟨p, hp, hu⟩ := vr_ptr hr
      obtain ⟨hb0, _, hc⟩ := hst.cells hg hp
      obtain ⟨u, hrun, hv⟩ := hl I ρ w p.b 0 hc
      obtain ⟨us, h1, h2⟩ := hl2 I ρ w tmps hst he
      rw [Nat.zero_add] at hrun
      refine ⟨u :: us, ?_, .cons hv h2⟩
      rw [hb0, Nat.zero_add] at hu
      simp only [List.mapM_cons, rsem, hu, asAddr]
      simp [hrun, h1]

theorem results_run {X : Ctx} {fn : Func} {tmps : Array Value} {w : World} {us : List Value} (h : (fn.results.toList.mapM (rsem tmps)).run X.P w = .ok us w) :
    (results fn tmps).run X.P w = .ok (retVal us) w := by
  rw [results_eq, Array.mapM_eq_mapM_toList]
  simp only [Sem.run_bind, Sem.run_map, h, Result.andThen_ok, Sem.run_pure]
  congr 1
  match us with
  | [] => simp [retVal]
  | [u] => simp [retVal]
  | u :: v :: r => simp [retVal]

theorem resV_rel {l : List V} {us : List Value} (h : VRels I ρ l us) : VRel I ρ (resV l) (retVal us) := by
  match l, us, h with
  | [], [], h => exact .tup _ _ _ rfl (fun i a u ha => by simp at ha)
  | [v], [u], h => exact h.2 0 v u (by simp) (by simp)
  | v :: v' :: l, u :: u' :: us, h => exact .tup _ _ _ (by simpa using h.1) (fun i a x ha hx => h.2 i a x ha (by simpa using hx))
  | [], u :: us, h => have := h.1; simp at this
  | v :: l, [], h => have := h.1; simp at this
  | [v], u :: u' :: us, h => have := h.1; simp at this
  | v :: v' :: l, [u], h => have := h.1; simp at this

theorem args2env_rel : ∀ (args : List V) (i : Nat) (pre us : List Value) (m : Nat), pre.length = i → VRels I ρ args us → ERel I ρ (args2env i args) (pre ++ us ++ List.replicate m undef).toArray
  | [], i, pre, us, m, hi, h => fun t => by simp [args2env, Env.get]; exact .any _ _
  | v :: args, i, pre, us, m, hi, h => by
    obtain ⟨u, us', rfl, h1, h2⟩ := h.cons_inv
    intro t
    simp only [args2env, Env.get]
    cases ht : Nat.beq i t with
    | true =>
      have := Nat.eq_of_beq_eq_true ht
      subst this
      simp only
      have : ((pre ++ u :: us' ++ List.replicate m undef).toArray).getD i undef = u := by
        simp [List.append_assoc, List.getElem?_append_right, hi]
      rw [this]; exact h1
    | false =>
      have := args2env_rel args (i + 1) (pre ++ [u]) us' m (by simp [hi]) h2 t
      simpa [List.append_assoc] using this

/-- A FUNCTION BY ITS BODY. -/
theorem acall_intro {X : Ctx} (hX : CtxOk X) {f : FuncId} {fn : Func} {c : Code} (hf : X.P.funcs[f]? = some fn) (hb : fn.body = some c) (hn : fn.ntmps = X.n) (hst : X.stab = false) {args : List V} {H : List O} {Q : V → List O → Prop} (hl : args.length ≤ X.n)
    (h : abody X fn c args H Q) : ACall X.P f X.k args H Q := by
  refine ⟨fun I ρ w us hst hk hargs => ?_⟩
  refine calls_of_wp hf hb ?_
  have hlen : us.size ≤ X.n := by have := hargs.1; simp at this; omega
  have he : ERel I ρ (args2env 0 args) (us ++ Array.replicate (fn.ntmps - us.size) undef) := by
    have := args2env_rel (I := I) (ρ := ρ) args 0 [] us.toList (fn.ntmps - us.size) rfl hargs
    have e1 : (([] : List Value) ++ us.toList ++ List.replicate (fn.ntmps - us.size) undef).toArray = us ++ Array.replicate (fn.ntmps - us.size) undef := by
      apply Array.ext'
      simp
    rw [e1] at this
    exact this
  have hs : (us ++ Array.replicate (fn.ntmps - us.size) undef).size = X.n := by simp; omega
  have hwp := awp_sound hX c h I ρ w { tmps := us ++ Array.replicate (fn.ntmps - us.size) undef, defers := [] } hst he (by rw [hst.len]; exact hk) hs Fence.wide 0 wide_wide
  refine wp_mono ((wpIn_wide).1 hwp) ?_
  rintro ex a' w' ⟨x, e', H', I', ρ', h1, h2, h3, h4, h5, h6, h7⟩
  have fin : ares X.T e' H' fn.results.toList (fun l => ∃ sel, selOk sel H'.length X.k = true ∧ Q (renV (idx sel) (resV l)) (gather (idx sel) H' sel)) → 
      ∃ v, (results fn a'.tmps).run X.P w' = .ok v w' ∧ ∃ v_1 r I'_1 ρ'_1 H'_1, Ending.returned v = .returned v_1 ∧ St I'_1 ρ'_1 H'_1 w' ∧ VRel I'_1 ρ'_1 r v_1 ∧ Step X.k I ρ H w I'_1 ρ'_1 H'_1 w' ∧ Q r H'_1 := by
    intro ha
    obtain ⟨l, ⟨sel, hsel, hQ⟩, hl⟩ := ares_sound hX fn.results.toList ha
    obtain ⟨us', hrun, hrel⟩ := hl I' ρ' w' a'.tmps h3 h4
    refine ⟨_, results_run hrun, _, _, I', subP sel ρ', _, rfl, ?_, (resV_rel hrel).ren ?_, ?_, hQ⟩
    · exact (sel_step h3 hsel h7).1
    · exact (sel_step h3 hsel h7).2.1
    · exact (sel_step h3 hsel h7).2.2
  cases x <;> cases ex <;> simp only [AEx.is] at h1 <;> simp only at h2
  · obtain ⟨v, g1, g2⟩ := fin h2
    exact ⟨h6, v, g1, g2⟩
  · obtain ⟨v, g1, g2⟩ := fin h2
    exact ⟨h6, v, g1, g2⟩

end Go.Proofs.YtlomkfggcmjepaaPg
