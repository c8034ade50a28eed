/- Regions whose order is drawn: any order comes to the same. -/
import Derived.Test.YtcgpgpbnpjbhhaaPgB9
namespace Go.Proofs.YtcgpgpbnpjbhhaaPg
open Go Go.RowKit
variable [Globs]
set_option linter.unusedVariables false
set_option linter.unusedSimpArgs false

variable {P : Program} {T : Nat → TI} {I : Imm} {ρ : List Pl} {H : List O} {w : World} {e : Env}

theorem St.heap {w' : World} (h : St I ρ H w) (hh : w'.heap = w.heap) : St I ρ H w' := by
  refine ⟨h.len, fun i p o hp ho => (h.obj i p o hp ho).keep (fun _ _ => by rw [hh]) (ILe.refl _) (PLe.refl _), h.inj, ⟨fun b o v hv => ?_, h.imm.glob⟩, h.sep⟩
  rw [← h.imm b o v hv]
  exact World.cell?_of_block (w := w) (by rw [hh])

/-! ### what comes ahead -/
theorem testBit_or_pow (j k m : Nat) (h : Nat.testBit (2 ^ j ||| m) k = true) : k = j ∨ Nat.testBit m k = true := by
  rw [Nat.testBit_or, Bool.or_eq_true, Nat.testBit_two_pow] at h
  rcases h with h | h
  · exact .inl (of_decide_eq_true h).symm
  · exact .inr h

theorem maskOf_bit : ∀ (l D : List Nat) (k : Nat), Nat.testBit (maskOf l D) k = true → ∃ j ∈ l, k = j ∨ Nat.testBit (D.getD j 0) k = true
  | [], D, k, h => by simp [maskOf] at h
  | j :: l, D, k, h => by
    simp only [maskOf] at h
    rw [Nat.testBit_or, Bool.or_eq_true] at h
    rcases h with h | h
    · rcases testBit_or_pow _ _ _ h with h | h
      · exact ⟨j, by simp, .inl h⟩
      · exact ⟨j, by simp, .inr h⟩
    · obtain ⟨j', h1, h2⟩ := maskOf_bit l D k h
      exact ⟨j', by simp [h1], h2⟩

theorem clos_get : ∀ (ops : List Oper) (D : List Nat) (i : Nat), i < D.length → (clos ops D)[i]? = D[i]?
  | [], D, i, h => rfl
  | o :: ops, D, i, h => by
    rw [clos, clos_get ops _ i (by simp; omega), List.getElem?_append_left h]

theorem clos_step : ∀ (ops : List Oper) (D : List Nat) (i : Nat) (o : Oper), ops[i]? = some o → (clos ops D)[D.length + i]? = some (maskOf (edgesOf o) ((clos ops D).take (D.length + i)))
  | [], D, i, o, h => by simp at h
  | x :: ops, D, 0, o, h => by
    simp at h; subst h
    rw [clos, Nat.add_zero, clos_get ops _ _ (by simp)]
    have : ((clos ops (D ++ [maskOf (edgesOf x) D])).take D.length) = D := by
      apply List.ext_getElem?
      intro j
      by_cases hj : j < D.length
      · rw [List.getElem?_take_of_lt hj, clos_get ops _ j (by simp; omega), List.getElem?_append_left hj]
      · rw [List.getElem?_eq_none (by simp; omega), List.getElem?_eq_none (by omega)]
    rw [this]; simp
  | x :: ops, D, i + 1, o, h => by
    have := clos_step ops (D ++ [maskOf (edgesOf x) D]) i o (by simpa using h)
    rw [clos]
    simp only [List.length_append, List.length_singleton] at this
    rw [show D.length + (i + 1) = D.length + 1 + i by omega]
    exact this

/-- What a mask names has been listed where the operation may come. -/
theorem clos_listed {ops : List Oper} {S : Nat → Prop} (hS : ∀ (i : Nat) (o : Oper), ops[i]? = some o → S i → ∀ k ∈ edgesOf o, S k) : ∀ (i : Nat) (o : Oper), ops[i]? = some o → (∀ k ∈ edgesOf o, S k) → ∀ j, Nat.testBit ((clos ops []).getD i 0) j = true → S j := by
  intro i
  induction i using Nat.strongRecOn with
  | _ i ih =>
    intro o ho he j hj
    have hc := clos_step ops [] i o ho
    simp only [List.length_nil, Nat.zero_add] at hc
    rw [List.getD, hc] at hj
    simp only [Option.getD_some] at hj
    obtain ⟨k, hk, h⟩ := maskOf_bit _ _ _ hj
    rcases h with rfl | h
    · exact he _ hk
    · by_cases hki : k < i
      · have e1 : ((clos ops []).take i).getD k 0 = (clos ops []).getD k 0 := by
          simp [List.getD, List.getElem?_take_of_lt hki]
        rw [e1] at h
        cases hok : ops[k]? with
        | none =>
          exfalso
          have : (clos ops [])[k]? = none := by
            apply List.getElem?_eq_none
            have hlen : ∀ (ops : List Oper) (D : List Nat), (clos ops D).length = D.length + ops.length := by
              intro ops
              induction ops with
              | nil => intro D; rfl
              | cons x ops ihl => intro D; rw [clos, ihl]; simp; omega
            rw [hlen]; simp
            exact List.getElem?_eq_none_iff.1 hok
          simp [List.getD, this] at h
        | some ok => exact ih k hki ok hok (fun m hm => hS k ok hok (he k hk) m hm) j h
      · have : ((clos ops []).take i).getD k 0 = 0 := by
          simp [List.getD, List.getElem?_eq_none (show ((clos ops []).take i).length ≤ k by simp; omega)]
        rw [this] at h; simp at h

theorem binds_edges {o : Oper} {e : Edge} (he : e ∈ o.after) (hb : Region.binds .any e = true) : e.on ∈ edgesOf o := by
  unfold edgesOf
  rw [List.mem_filterMap]
  refine ⟨e, by simpa using he, ?_⟩
  unfold Region.binds at hb
  cases hg : e.ground <;> rw [hg] at hb <;> simp at hb ⊢

theorem edges_binds {o : Oper} {k : Nat} (h : k ∈ edgesOf o) : ∃ e ∈ o.after, Region.binds .any e = true ∧ e.on = k := by
  unfold edgesOf at h
  rw [List.mem_filterMap] at h
  obtain ⟨e, h1, h2⟩ := h
  refine ⟨e, by simpa using h1, ?_⟩
  unfold Region.binds
  cases hg : e.ground <;> rw [hg] at h2 <;> simp at h2 ⊢ <;> exact h2

theorem ready_iff {ops : Array Oper} {listed : Array Bool} (hs : listed.size = ops.size) {i : Nat} : i ∈ Region.ready .any ops listed ↔ ∃ o, ops[i]? = some o ∧ listed.getD i false = false ∧ ∀ k ∈ edgesOf o, listed.getD k false = true := by
  unfold Region.ready
  rw [List.mem_filter, List.mem_range]
  constructor
  · rintro ⟨h1, h2⟩
    have ho : ops[i]? = some ops[i] := by simp [h1]
    rw [ho] at h2
    simp only [Option.map_some, Option.getD_some, Bool.and_eq_true, Bool.not_eq_true'] at h2
    refine ⟨_, ho, ?_, fun k hk => ?_⟩
    · have := h2.1
      simp [hs, h1] at this ⊢; exact this
    · obtain ⟨e, he, hb, rfl⟩ := edges_binds hk
      have := h2.2
      rw [Array.all_eq_true'] at this
      have := this e he
      rw [hb] at this
      simpa using this
  · rintro ⟨o, h1, h2, h3⟩
    have hlt : i < ops.size := (Array.getElem?_eq_some_iff.1 h1).1
    refine ⟨hlt, ?_⟩
    rw [h1]
    simp only [Option.map_some, Option.getD_some, Bool.and_eq_true, Bool.not_eq_true']
    refine ⟨?_, ?_⟩
    · simp [hs, hlt] at h2 ⊢; exact h2
    · rw [Array.all_eq_true']
      intro e he
      cases hb : Region.binds .any e with
      | false => rfl
      | true =>
        have := h3 _ (binds_edges he hb)
        simpa using this

/-! ### an effect, its slots apart -/
theorem ACall.mono {P : Program} {f : FuncId} {k : Nat} {args : List V} {H : List O} {Q Q' : V → List O → Prop} (h : ACall P f k args H Q) (hq : ∀ r H', Q r H' → Q' r H') : ACall P f k args H Q' :=
  ⟨fun I ρ w us hst hk ha => (h.out I ρ w us hst hk ha).mono fun en w' ⟨v, r, I', ρ', H', h1, h2, h3, h4, h5⟩ => ⟨v, r, I', ρ', H', h1, h2, h3, h4, hq _ _ h5⟩⟩

theorem AYield.mono {P : Program} {k : Nat} {args : List V} {H : List O} {Q Q' : V → List O → Prop} (h : AYield P k args H Q) (hq : ∀ r H', Q r H' → Q' r H') : AYield P k args H Q' := by
  refine ⟨fun I ρ w us hst hk ha => ?_⟩
  obtain ⟨l, us', h1, fn, tmps, asg, body, h2, h3⟩ := h.out I ρ w us hst hk ha
  refine ⟨l, us', h1, fn, tmps, asg, body, h2, h3.mono ?_⟩
  rintro en w' ⟨v, r, I', ρ', H', h1, h2, h3, h4, h5⟩
  exact ⟨v, r, I', ρ', H', h1, h2, h3, h4, hq _ _ h5⟩

theorem acal_mono {P : Program} {f : Option FuncId} {k : Nat} {args : List V} {H : List O} {Q Q' : V → List O → Prop} (h : ACal P f k args H Q) (hq : ∀ r H', Q r H' → Q' r H') : ACal P f k args H Q' := by
  cases f with
  | some f => exact ACall.mono h hq
  | none => exact AYield.mono h hq

theorem acall_swap {X : Ctx} (hs : X.stab = true) {f : Option FuncId} {args : List V} {e e2 : Env} {K : V → Env → List O → Prop} (h : acall X f args e H K) : acall X f args e2 H (fun v e1 H' => e1 = e2 ∧ K v e H') := by
  unfold acall at h ⊢
  cases h with
  | frz id hs' _ _ _ => rw [hs] at hs'; cases hs'
  | sub _ _ hs' _ _ _ => rw [hs] at hs'; cases hs'
  | adopt hs' _ => rw [hs] at hs'; cases hs'
  | pure hA => exact .pure (acal_mono hA fun r H' ⟨g1, g2⟩ => ⟨g1, rfl, g2⟩)
  | call is k hok hA =>
  obtain ⟨h1, h2, h3⟩ := hok
  refine .call is k ⟨h1, h2, h3⟩ (acal_mono hA ?_)
  intro r H' g5
  have hk : k = is.length := by
    rw [hs] at h3
    simp at h3
    exact Nat.eq_of_beq_eq_true (by simpa using h3)
  have e0 : ∀ e, fogE is k e = e := fun e => by
    unfold fogE
    rw [hk, List.drop_length]
  rw [e0] at g5
  exact ⟨e0 e2, g5⟩

theorem fillS_mono {sz : Nat} {K K' : List (List V) → Prop} (h : ∀ l, K l → K' l) : ∀ (ps : List (Nat × V)) (es : List (List V)), fillS sz es ps K → fillS sz es ps K'
  | [], es, hh => h _ hh
  | (i, v) :: ps, es, hh => by
    unfold fillS at hh ⊢
    cases hc : cellsOf v <;> simp only [hc] at hh ⊢
    split at hh <;> try exact hh.elim
    rw [copyL_iff] at hh ⊢
    exact fillS_mono h ps _ hh

theorem newBuf_mono {sz bytes : Nat} {es : List (List V)} {K K' : V → List O → Prop} (h : ∀ v l, K v l → K' v l) (hh : newBuf sz bytes es H K) : newBuf sz bytes es H K' := by
  unfold newBuf at hh ⊢
  rw [copyH_iff] at hh ⊢
  exact ⟨hh.1, h _ _ hh.2⟩

theorem aappend_mono {sz bytes : Nat} {s : V} {ys : List (List V)} {K K' : V → List O → Prop} (h : ∀ v l, K v l → K' v l) (hh : aappend sz bytes s ys H K) : aappend sz bytes s ys H K' := by
  unfold aappend at hh ⊢
  split at hh
  · exact newBuf_mono h hh
  · split at hh
    · exact hh.elim
    · rename_i z es hb
      try simp only [hb]
      split at hh
      · exact newBuf_mono h hh
      · exact ⟨fun h0 => h _ _ (hh.1 h0), fun h0 => newBuf_mono h (hh.2 h0)⟩
  · split at hh
    · exact hh.elim
    · rename_i z id off len full hb
      try simp only [hb]
      split at hh <;> try exact hh.elim
      rename_i es hes
      try simp only [hes]
      split at hh
      · exact ⟨hh.1, newBuf_mono h hh.2⟩
      · exact ⟨hh.1, fun h0 => h _ _ (hh.2.1 h0), fun h0 => newBuf_mono h (hh.2.2 h0)⟩
  · exact hh.elim

theorem aapp_mono {sz bytes : Nat} {s x : V} {ys : List (List V)} {K K' : V → List O → Prop} (h : ∀ v l, K v l → K' v l) (hh : aapp sz bytes s x ys H K) : aapp sz bytes s x ys H K' := by
  unfold aapp at hh ⊢
  split at hh
  · unfold awithin at hh ⊢
    split at hh <;> try exact hh.elim
    split at hh <;> try exact hh.elim
    split at hh <;> try exact hh.elim
    refine ⟨hh.1, ?_⟩
    have := hh.2
    rw [copyH_iff] at this ⊢
    exact h _ _ this
  · exact aappend_mono h hh

theorem elemsV_mono {sz : Nat} {x : V} {K K' : List (List V) → Prop} (h : ∀ l, K l → K' l) (hh : elemsV sz x H K) : elemsV sz x H K' := by
  unfold elemsV at hh ⊢
  split at hh
  · split at hh
    · exact h _ hh
    · exact hh.elim
  · exact h _ hh
  · split at hh
    · split at hh
      · exact ⟨hh.1, h _ hh.2⟩
      · exact hh.elim
    · exact hh.elim
  · split at hh
    · exact h _ hh
    · exact hh.elim
  · exact hh.elim

theorem afind_mono {x : V} {K K' : Option (Nat × V) → Prop} (h : ∀ r, K r → K' r) : ∀ (kvs : List (V × V)) (i : Nat), afind x kvs i K → afind x kvs i K'
  | [], i, g => h _ g
  | (y, v) :: r, i, g => by
    unfold afind at g ⊢
    split at g
    · rename_i b hb
      cases b with
      | true => exact h _ g
      | false => exact afind_mono h r (i + 1) g
    · exact g.elim

theorem aMakeMap_mono {T : Nat → TI} {t : TypeId} {H : List O} {K K' : V → List O → Prop} (h : ∀ v l, K v l → K' v l) (g : aMakeMap T t H K) : aMakeMap T t H K' := by
  unfold aMakeMap at g ⊢
  split at g <;> try exact g.elim
  simp only [copyH_iff] at g ⊢
  exact h _ _ g

theorem aMapUpd_mono {T : Nat → TI} {t : TypeId} {m k x : V} {H : List O} {K K' : V → List O → Prop} (h : ∀ v l, K v l → K' v l) (g : aMapUpd T t m k x H K) : aMapUpd T t m k x H K' := by
  unfold aMapUpd at g ⊢
  split at g <;> try exact g.elim
  split at g <;> try exact g.elim
  split at g <;> try exact g.elim
  split at g <;> try exact g.elim
  refine afind_mono (fun r hr => ?_) _ _ g
  split at hr <;> simp only [copyH_iff] at hr ⊢ <;> exact h _ _ hr

theorem aLookup_mono {P : Program} {T : Nat → TI} {t : TypeId} {m k : V} {ok : Bool} {H : List O} {K K' : V → List O → Prop} (h : ∀ v l, K v l → K' v l) (g : aLookup P T t m k ok H K) : aLookup P T t m k ok H K' := by
  unfold aLookup at g ⊢
  split at g <;> try exact g.elim
  split at g <;> try exact g.elim
  split at g <;> try exact g.elim
  · split at g <;> try exact g.elim
    refine afind_mono (fun r hr => ?_) _ _ g
    split at hr
    · simp only [force_iff] at hr ⊢; exact h _ _ hr
    · obtain ⟨z, hz, hr⟩ := hr; exact ⟨z, hz, h _ _ hr⟩
  · obtain ⟨z, hz, hr⟩ := g; exact ⟨z, hz, h _ _ hr⟩

theorem aMakeSl_mono {T : Nat → TI} {t : TypeId} {l c : V} {H : List O} {K K' : V → List O → Prop} (h : ∀ v l, K v l → K' v l) (g : aMakeSl T t l c H K) : aMakeSl T t l c H K' := by
  unfold aMakeSl at g ⊢
  split at g <;> try exact g.elim
  split at g <;> try exact g.elim
  split at g <;> try exact g.elim
  refine ⟨g.1, ?_⟩
  have := g.2
  simp only [copyH_iff] at this ⊢
  exact h _ _ this

theorem ae_swap {X : Ctx} (hs : X.stab = true) {o : Op} {e e2 : Env} (h : ∀ x ∈ o.operands, aeval e x = aeval e2 x) {K : V → Env → List O → Prop} (hh : ae X o e H K) : ae X o e2 H (fun v e1 H' => e1 = e2 ∧ K v e H') := by
  have hm : ∀ l : List Operand, (∀ x ∈ l, aeval e x = aeval e2 x) → l.map (aeval e) = l.map (aeval e2) := fun l hl => List.map_congr_left hl
  cases o <;> simp only [Op.operands] at h <;> simp only [ae] at hh ⊢ <;> try exact hh.elim
  case alloc t =>
    split at hh
    · rename_i hg
      simp only [copyL_iff, copyH_iff] at hh ⊢
      exact ⟨trivial, hh⟩
    · exact hh.elim
  case box t x =>
    rw [← h x (by simp)]
    split at hh
    · simp only [copyL_iff, copyH_iff] at hh ⊢
      exact ⟨trivial, hh⟩
    · exact hh.elim
  case buildSlice t n ps =>
    have : (ps.toList.map fun p => (p.1, aeval e p.2)) = ps.toList.map fun p => (p.1, aeval e2 p.2) := List.map_congr_left fun p hp => by
      rw [h p.2 (by simp; exact ⟨p.1, by simpa using hp⟩)]
    rw [← this]
    split at hh <;> try exact hh.elim
    split at hh <;> try exact hh.elim
    split at hh <;> try exact hh.elim
    exact fillS_mono (fun l hl => by simp only [copyH_iff] at hl ⊢; exact ⟨trivial, hl⟩) _ _ hh
  case store t x y =>
    rw [← h x (by simp), ← h y (by simp)]
    split at hh <;> try exact hh.elim
    split at hh <;> try exact hh.elim
    split at hh <;> try exact hh.elim
    · split at hh <;> try exact hh.elim
      split at hh <;> try exact hh.elim
      simp only [copyL_iff, copyH_iff] at hh ⊢
      exact ⟨trivial, hh⟩
    · split at hh <;> try exact hh.elim
      obtain ⟨z, hz, hh⟩ := hh
      refine ⟨z, hz, ?_⟩
      split at hh <;> try exact hh.elim
      simp only [copyL_iff, copyH_iff] at hh ⊢
      exact ⟨trivial, hh⟩
  case range t x =>
    rw [← h x (by simp)]
    split at hh <;> try exact hh.elim
    simp only [copyH_iff] at hh ⊢
    exact ⟨trivial, hh⟩
  case next x b =>
    cases b <;> simp only at hh ⊢
    rw [← h x (by simp)]
    split at hh <;> try exact hh.elim
    split at hh <;> try exact hh.elim
    simp only [copyH_iff] at hh ⊢
    exact ⟨fun h0 => ⟨trivial, hh.1 h0⟩, fun b r hb => ⟨trivial, hh.2 b r hb⟩⟩
  case call c =>
    have hargs : c.args.toList.map (aeval e) = c.args.toList.map (aeval e2) := hm _ (fun x hx => h x (by simp [Call.operands]; exact .inr (by simpa using hx)))
    cases hc : c.callee with
    | value g =>
      have hg : aeval e g = aeval e2 g := h g (by simp [Call.operands, hc])
      simp only [hc] at hh ⊢
      rw [← hg, ← hargs]
      split at hh <;> try exact hh.elim
      · split at hh
        · exact acall_swap hs hh
        · obtain ⟨r, hr, hh⟩ := hh
          exact ⟨r, hr, trivial, hh⟩
      · exact acall_swap hs hh
    | invoke r m => simp only [hc] at hh
    | builtin b =>
      simp only [hc] at hh ⊢
      cases b <;> simp only at hh ⊢
      case append =>
        split at hh <;> try exact hh.elim
        rename_i s x t t2 ha hat
        have e1 : aevo e s = aevo e2 s := by unfold aevo; rw [h s (by simp [Call.operands, hc]; rw [show s ∈ c.args ↔ s ∈ c.args.toList by simp, ha]; simp)]
        have e2' : aevo e x = aevo e2 x := by unfold aevo; rw [h x (by simp [Call.operands, hc]; rw [show x ∈ c.args ↔ x ∈ c.args.toList by simp, ha]; simp)]
        rw [← e1, ← e2']
        split at hh <;> try exact hh.elim
        split at hh <;> try exact hh.elim
        exact elemsV_mono (fun ys hy => aapp_mono (fun v l hl => ⟨trivial, hl⟩) hy) hh
      case clear =>
        split at hh <;> try exact hh.elim
        rename_i s t ha hat
        have e1 : aevo e s = aevo e2 s := by unfold aevo; rw [h s (by simp [Call.operands, hc]; rw [show s ∈ c.args ↔ s ∈ c.args.toList by simp, ha]; simp)]
        rw [← e1]
        split at hh <;> try exact hh.elim
        split at hh <;> try exact hh.elim
        split at hh <;> try exact hh.elim
        split at hh <;> try exact hh.elim
        refine ⟨hh.1, ?_⟩
        have := hh.2
        rw [copyH_iff] at this ⊢
        exact ⟨trivial, this⟩
  case makeMap t r =>
    cases r <;> simp only at hh ⊢
    exact aMakeMap_mono (fun v l hl => ⟨trivial, hl⟩) hh
  case mapUpdate t m k x =>
    rw [show aevo e2 m = aevo e m by unfold aevo; rw [h m (by simp)], show aevo e2 k = aevo e k by unfold aevo; rw [h k (by simp)], show aeval e2 x = aeval e x from (h x (by simp)).symm]
    exact aMapUpd_mono (fun v l hl => ⟨trivial, hl⟩) hh
  case insert t m k x =>
    rw [show aevo e2 m = aevo e m by unfold aevo; rw [h m (by simp)], show aevo e2 k = aevo e k by unfold aevo; rw [h k (by simp)], show aeval e2 x = aeval e x from (h x (by simp)).symm]
    exact aMapUpd_mono (fun v l hl => ⟨trivial, hl⟩) hh
  case lookup t m k ok =>
    rw [show aevo e2 m = aevo e m by unfold aevo; rw [h m (by simp)], show aevo e2 k = aevo e k by unfold aevo; rw [h k (by simp)]]
    exact aLookup_mono (fun v l hl => ⟨trivial, hl⟩) hh
  case makeSlice t l c =>
    rw [show aevo e2 l = aevo e l by unfold aevo; rw [h l (by simp)], show aevo e2 c = aevo e c by unfold aevo; rw [h c (by simp)]]
    exact aMakeSl_mono (fun v l hl => ⟨trivial, hl⟩) hh

end Go.Proofs.YtcgpgpbnpjbhhaaPg
