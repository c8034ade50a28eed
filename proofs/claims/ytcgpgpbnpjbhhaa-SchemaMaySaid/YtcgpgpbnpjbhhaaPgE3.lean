/- A round of a loop over a function. -/
import Derived.Test.YtcgpgpbnpjbhhaaPgE2
namespace Go.Proofs.YtcgpgpbnpjbhhaaPg
open Go Go.RowKit
variable [Globs]
set_option linter.unusedVariables false
set_option linter.unusedSimpArgs false

variable {P : Program} {T : Nat → TI} {I : Imm} {ρ : List Pl} {H : List O} {w : World} {e : Env}

theorem aret_sound {k : Nat} {Q : V → List O → Prop} {r : V} {H' : List O} (h : ARet k Q r H') : ∀ {I I' : Imm} {ρ ρ' : List Pl} {H : List O} {w w' : World} {u : Value}, k ≤ ρ'.length → St I' ρ' H' w' → VRel I' ρ' r u → Step k I ρ H w I' ρ' H' w' →
    ∃ r3 I3 ρ3 H3, Q r3 H3 ∧ St I3 ρ3 H3 w' ∧ VRel I3 ρ3 r3 u ∧ Step k I ρ H w I3 ρ3 H3 w' := by
  induction h with
  | done sel hsel h =>
    intro I I' ρ ρ' H w w' u hk hst hr hs
    obtain ⟨z1, z2, z3⟩ := sel_step hst hsel hs
    exact ⟨_, I', _, _, h, z1, hr.ren z2, z3⟩
  | frz id hok hfit h ih =>
    intro I I' ρ ρ' H w w' u hk hst hr hs
    rename_i r0 H0
    have hne : getO H0 id ≠ .dead := fun e => by rw [e] at hok; cases hok
    have ho := getO_some (H := H0) (id := id) rfl hne
    have hlt : id < ρ'.length := by rw [hst.len]; exact (List.getElem?_eq_some_iff.1 ho).1
    obtain ⟨I2, g1, g2, g3⟩ := frz_st hst (List.getElem?_eq_getElem hlt) ho hok (frzFit_h hfit) k
    exact ih hk g1 (g3 _ _ (frzFit_v hfit (by simp)) hr) (hs.trans g2)
  | sub r' H2 hv hH h ih =>
    intro I I' ρ ρ' H w w' u hk hst hr hs
    exact ih hk (hH.st hst) (hv _ _ _ hr) (hs.trans (hH.step k))
  | adopt h ih =>
    intro I I' ρ ρ' H w w' u hk hst hr hs
    exact ih (by simp; omega) (adopt_st hst).1 (hr.mono (ILe.refl _) (PLe.append _ _)) (hs.trans (adopt_step hst hk))

theorem putArgs_rel : ∀ (ps : List Nat) (vs : List V) (us : List Value) (e : Env) (tmps : Array Value), ps.length = vs.length → VRels I ρ vs us → (∀ p ∈ ps, p < tmps.size) → ERel I ρ e tmps →
    ERel I ρ (putArgs ps vs e) ((ps.zip us).foldl (fun t (x : Nat × Value) => t.setIfInBounds x.1 x.2) tmps) ∧ ((ps.zip us).foldl (fun t (x : Nat × Value) => t.setIfInBounds x.1 x.2) tmps).size = tmps.size
  | [], vs, us, e, tmps, hl, hr, hp, he => by
    cases vs with
    | nil => exact ⟨by simpa [putArgs] using he, by simp⟩
    | cons v vs => simp at hl
  | p :: ps, vs, us, e, tmps, hl, hr, hp, he => by
    cases vs with
    | nil => simp at hl
    | cons v vs =>
      obtain ⟨u, us', rfl, h1, h2⟩ := hr.cons_inv
      simp only [putArgs, List.zip_cons_cons, List.foldl_cons]
      have hpl := hp p (by simp)
      obtain ⟨g1, g2⟩ := putArgs_rel ps vs us' ((p, v) :: e) (tmps.setIfInBounds p u) (by simpa using hl) h2 (fun q hq => by simpa using hp q (by simp [hq])) (fun t => by
        simp only [Env.get]
        cases ht : Nat.beq p t with
        | true =>
          have := Nat.eq_of_beq_eq_true ht
          subst this
          simp only
          rw [show (tmps.setIfInBounds p u).getD p undef = u by simp [hpl]]
          exact h1
        | false =>
          have hne := Nat.ne_of_beq_eq_false ht
          simp only
          rw [show (tmps.setIfInBounds p u).getD t undef = tmps.getD t undef by simp [Array.getElem?_setIfInBounds_ne hne]]
          exact he t)
      exact ⟨g1, by rw [g2]; simp⟩

theorem CtxOk.turn {X : Ctx} (hX : CtxOk X) (n k : Nat) (r : Option Nat) : CtxOk { X with n := n, k := k, stab := false, round := r } := ⟨hX.T, hX.fns, hX.mixed⟩

/-- A CALL OF yield, BY THE LOOP'S BODY. -/
theorem ayield_intro {X : Ctx} (hX : CtxOk X) {k id : Nat} {vs : List V} {H : List O} {Q : V → List O → Prop} (h : around X k id vs H Q) : AYield X.P k (.yld id :: vs) H Q := by
  refine ⟨fun I ρ w us hst hk ha => ?_⟩
  obtain ⟨u0, us', rfl, h0, hvs⟩ := ha.cons_inv
  obtain ⟨p, hp, rfl⟩ := vr_yld h0
  refine ⟨p.b, us', rfl, ?_⟩
  unfold around at h
  split at h <;> try exact h.elim
  rename_i c e hg
  obtain ⟨ho, r, hl, hrel⟩ := loop_at hst hp hg
  obtain ⟨r1, r2, r3, r4, r5, r6, r7⟩ := hrel
  split at h <;> try exact h.elim
  rename_i hc
  simp only [Bool.and_eq_true] at hc
  obtain ⟨hc1, hc2, hc3⟩ := hc
  have hc1 := Nat.eq_of_beq_eq_true hc1
  have hid : id < k := Nat.le_of_ble_eq_true hc3
  have hps : ∀ q ∈ c.ps.toList, q < c.n := fun q hq => Nat.le_of_ble_eq_true (List.all_eq_true.1 hc2 q hq)
  have hul := hvs.1
  refine ⟨r.fn, _, r.assign, r.body, run_yield hl (by rw [r1]; simp; omega), roundIn_of_wpIn trivial ?_⟩
  have hfold : (r.params.zip us'.toArray).foldl (fun tmps (x : Tmp × Value) => tmps.setIfInBounds x.1 x.2) r.tmps = (c.ps.toList.zip us').foldl (fun t (x : Nat × Value) => t.setIfInBounds x.1 x.2) r.tmps := by
    rw [r1, ← Array.foldl_toList]
    simp
  obtain ⟨a1, a2⟩ := putArgs_rel (I := I) (ρ := ρ) c.ps.toList vs us' e r.tmps (by simp; omega) hvs (fun q hq => by rw [r4]; exact hps q hq) r7
  have hX' := hX.turn c.n k (some id)
  have hF : FOk { X with n := c.n, k := k, stab := false, round := some id } (Fence.wide.inRound p.b) ρ := .inr ⟨id, p, rfl, hid, hp, rfl⟩
  have hkl : k ≤ ρ.length := by rw [hst.len]; exact hk
  have hw1 := awp_sound hX' c.asg h I ρ w { tmps := (c.ps.toList.zip us').foldl (fun t (x : Nat × Value) => t.setIfInBounds x.1 x.2) r.tmps, defers := [] } hst a1 hkl (by rw [a2, r4]) .nil (Fence.wide.inRound p.b) 0 hF
  rw [r2, r3]
  have hfold' : (Array.foldl (fun tmps x => match x with | (t, a) => tmps.setIfInBounds t a) r.tmps (r.params.zip us'.toArray)) = (c.ps.toList.zip us').foldl (fun t (x : Nat × Value) => t.setIfInBounds x.1 x.2) r.tmps := hfold
  rw [hfold']
  refine wpIn_mono hw1 ?_
  rintro ex act1 w1 ⟨x, e1, H1, I1, ρ1, p1, p2, p3, p4, p5, ⟨p6, _⟩, p7⟩
  cases x <;> cases ex <;> simp only [AEx.is] at p1 <;> simp only at p2
  simp only [Exit.then]
  split at p2 <;> try exact p2.elim
  rename_i c1 e0 hg1
  have hp1 : ρ1[id]? = some p := by rw [p7.take id hid]; exact hp
  obtain ⟨ho1, q, hl1, q1, q2, q3, q4, q5, q6, q7⟩ := loop_at p3 hp1 hg1
  have hk1 : k ≤ ρ1.length := p7.klen hkl
  obtain ⟨t1, t2⟩ := loop_turn p3 k hk1 hp1 ho1 hl1 .busy (r' := { q with state := .busy }) ⟨q1, q2, q3, q4, rfl, q6, q7⟩
  refine ⟨_, run_beginRound hl1 (by rw [q5]; rfl), ?_⟩
  simp only [copyH_iff, setO_eq] at p2
  have hw2 := awp_sound hX' c.body p2 I1 ρ1 _ act1 t1 p4 hk1 p5 (p6.step t2 rfl) (Fence.wide.inRound p.b) 0 ((hF.step p7).step t2)
  refine wpIn_mono hw2 ?_
  rintro ex act2 w2 ⟨x, e2, H2, I2, ρ2, s1, s2, s3, s4, s5, ⟨s6, _⟩, s7⟩
  have hp2 : ρ2[id]? = some p := by rw [s7.take id hid]; exact hp1
  unfold aroundEnd at s2
  split at s2 <;> try exact s2.elim
  rename_i c2 e3 hg2
  obtain ⟨ho2, v, hl2, v1, v2, v3, v4, v5, v6, v7⟩ := loop_at s3 hp2 hg2
  have hk2 : k ≤ ρ2.length := s7.klen hk1
  have fin : ∀ (st : LSt) (jump : Option Code), st.state = (if jump.isNone then .ready else .done) → st.pend = jump → ARet k Q (.bool jump.isNone) (H2.set id (.loop c2 st e3)) →
      ∃ v w', (Instr.endRound p.b jump).run X.P w2 = .ok v w' ∧ ∃ v_1 r I' ρ' H', Ending.returned v = .returned v_1 ∧ St I' ρ' H' w' ∧ VRel I' ρ' r v_1 ∧ Step k I ρ H w I' ρ' H' w' ∧ Q r H' := by
    intro st jump hs1 hs2 hR
    obtain ⟨x1, x2⟩ := loop_turn s3 k hk2 hp2 ho2 hl2 st (r' := { v with state := if jump.isNone then .ready else .done, pending := jump }) ⟨v1, v2, v3, v4, hs1.symm, hs2.symm, v7⟩
    obtain ⟨r3, I3, ρ3, H3, y1, y2, y3, y4⟩ := aret_sound hR hk2 x1 (.bool _ _) (p7.trans (t2.trans (s7.trans x2)))
    exact ⟨_, _, run_endRound jump hl2, _, r3, I3, ρ3, H3, rfl, y2, y3, y4, y1⟩
  cases x <;> cases ex <;> simp only [AEx.is] at s1 <;> simp only [copyH_iff, setO_eq] at s2 <;> simp only [roundPost]
  · exact fin .ready none rfl rfl s2
  · subst s1; exact fin (.exit _) (some (.exit _)) rfl rfl s2
  · exact fin .ret (some .ret) rfl rfl s2

end Go.Proofs.YtcgpgpbnpjbhhaaPg
