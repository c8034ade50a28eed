/- Regions in the order of the text; code. -/
import Derived.Test.YtcgpgpbnpjbhhaaPgB7
namespace Go.Proofs.YtcgpgpbnpjbhhaaPg
open Go Go.RowKit
variable [Globs]
set_option linter.unusedVariables false
set_option linter.unusedSimpArgs false

variable {P : Program} {T : Nat → TI} {I : Imm} {ρ : List Pl} {H : List O} {w : World} {e : Env}

/-- An operation with its guard. -/
def GSem (X : Ctx) (ops : Array Oper) (o : Oper) (e : Env) (H : List O) (K : Env → List O → Prop) : Prop :=
  ∀ (I : Imm) (ρ : List Pl) (w : World) (a : Act), St I ρ H w → ERel I ρ e a.tmps → X.k ≤ ρ.length → a.tmps.size = X.n → ∀ (F : Fence) (n : Nat), Wide F → ∀ (next : Act → World → Prop) (Q : Exit → Act → World → Prop),
    (∀ I' ρ' e' H' w' (a' : Act), K e' H' → St I' ρ' H' w' → ERel I' ρ' e' a'.tmps → a'.tmps.size = X.n → a'.defers = a.defers → Step X.k I ρ H w I' ρ' H' w' → next a' w') →
    if Region.wanted o (yielded ops a.tmps) then o.wpIn F n X.P a w next Q else (∀ f, o.about X.P w a.eval = some f → F.fn f) ∧ next (a.put o.dst undef) w

theorem GSem.skip {X : Ctx} {ops : Array Oper} {o : Oper} {K : Env → List O → Prop} (h : putE X.n o.dst (.tup []) e fun e' => K e' H)
    (hw : ∀ (I : Imm) (ρ : List Pl) (a : Act), ERel I ρ e a.tmps → a.tmps.size = X.n → Region.wanted o (yielded ops a.tmps) = false) : GSem X ops o e H K := by
  intro I ρ w a hst he hk hs F n hF next Q hnext
  rw [hw I ρ a he hs, if_neg (by simp)]
  obtain ⟨e', g1, g2, g3, g4⟩ := put_rel h he hs (u := undef) (.tup _ _ _ rfl (fun i a u ha => by simp at ha))
  exact ⟨fun f _ => hF.fn f, hnext I ρ e' H w _ g1 hst g2 g3 g4 (Step.refl _ _ _ _ _)⟩

theorem GSem.take {X : Ctx} {ops : Array Oper} {o : Oper} {K : Env → List O → Prop} (h : OpSem X o e H K)
    (hw : ∀ (I : Imm) (ρ : List Pl) (a : Act), ERel I ρ e a.tmps → a.tmps.size = X.n → Region.wanted o (yielded ops a.tmps) = true) : GSem X ops o e H K := by
  intro I ρ w a hst he hk hs F n hF next Q hnext
  rw [hw I ρ a he hs, if_pos rfl]
  exact h I ρ w a hst he hk hs F n hF next Q hnext

theorem GSem.env {X : Ctx} {ops : Array Oper} {o : Oper} {K : Env → List O → Prop} {e' : Env} (h : GSem X ops o e' H K) (he' : ∀ I ρ (tmps : Array Value), ERel I ρ e tmps → ERel I ρ e' tmps) : GSem X ops o e H K :=
  fun I ρ w a hst he hk hs F n hF next Q hnext => h I ρ w a hst (he' I ρ a.tmps he) hk hs F n hF next Q hnext

theorem erel_set {d : Nat} {v : V} (hd : Env.get e d = v) {tmps : Array Value} (h : ERel I ρ e tmps) : ERel I ρ ((d, v) :: e) tmps := fun t => by
  simp only [Env.get]
  cases ht : Nat.beq d t with
  | true => have := Nat.eq_of_beq_eq_true ht; subst this; rw [← hd]; exact h d
  | false => exact h t

theorem yielded_of {ops : Array Oper} {j d : Nat} (hd : (ops[j]?).bind (·.dst) = some d) {b : Bool} (he : Env.get e d = .bool b) {tmps : Array Value} (h : ERel I ρ e tmps) : yielded ops tmps j = some b := by
  have := h d
  rw [he] at this
  have h1 := vr_bool this
  have hlt : tmps[d]? = some (.bool b) := by
    cases hx : tmps[d]? with
    | none => simp [hx, undef] at h1
    | some u => simp [hx] at h1; rw [h1]
  simp [yielded, hd, hlt]

theorem yielded_undef {ops : Array Oper} {j d : Nat} (hd : (ops[j]?).bind (·.dst) = some d) (he : Env.get e d = .tup []) {tmps : Array Value} (h : ERel I ρ e tmps) : yielded ops tmps j = none := by
  have := h d
  rw [he] at this
  obtain ⟨us, h1, _⟩ := vr_tup this
  cases hx : tmps[d]? with
  | none => simp [yielded, hd, hx]
  | some u => simp [hx] at h1; subst h1; simp [yielded, hd, hx]

theorem aguard_sound {X : Ctx} (hX : CtxOk X) {ops : Array Oper} {o : Oper} {K : Env → List O → Prop} (h : aguard X ops.toList o e H K) : GSem X ops o e H K := by
  unfold aguard at h
  cases hg : o.guard with
  | none =>
    simp only [hg] at h
    exact GSem.take (aop_sound hX h) fun I ρ a _ _ => by simp [Region.wanted, hg]
  | some jw =>
    obtain ⟨j, want⟩ := jw
    simp only [hg] at h
    cases hd : (ops.toList[j]?).bind (·.dst) with
    | none => simp only [hd] at h
    | some d =>
      simp only [hd] at h
      have hd' : (ops[j]?).bind (·.dst) = some d := by simpa using hd
      split at h
      · rename_i b hb
        have hy : ∀ (I : Imm) (ρ : List Pl) (a : Act), ERel I ρ e a.tmps → yielded ops a.tmps j = some b := fun I ρ a he => yielded_of hd' hb he
        cases b with
        | true =>
          simp only [branch] at h
          refine GSem.env (e' := (d, .bool true) :: e) ?_ (fun I ρ tmps he => erel_set hb he)
          have hb' : Env.get ((d, V.bool true) :: e) d = .bool true := by simp [Env.get, show Nat.beq d d = true from Nat.beq_refl d]
          have hy' : ∀ (I : Imm) (ρ : List Pl) (a : Act), ERel I ρ ((d, .bool true) :: e) a.tmps → yielded ops a.tmps j = some true := fun I ρ a he => yielded_of hd' hb' he
          cases want with
          | true => exact GSem.take (aop_sound hX h) fun I ρ a he _ => by simp [Region.wanted, hg, hy' I ρ a he]
          | false => exact GSem.skip h fun I ρ a he _ => by simp [Region.wanted, hg, hy' I ρ a he]
        | false =>
          simp only [branch] at h
          refine GSem.env (e' := (d, .bool false) :: e) ?_ (fun I ρ tmps he => erel_set hb he)
          have hb' : Env.get ((d, V.bool false) :: e) d = .bool false := by simp [Env.get, show Nat.beq d d = true from Nat.beq_refl d]
          have hy' : ∀ (I : Imm) (ρ : List Pl) (a : Act), ERel I ρ ((d, .bool false) :: e) a.tmps → yielded ops a.tmps j = some false := fun I ρ a he => yielded_of hd' hb' he
          cases want with
          | false => exact GSem.take (aop_sound hX h) fun I ρ a he _ => by simp [Region.wanted, hg, hy' I ρ a he]
          | true => exact GSem.skip h fun I ρ a he _ => by simp [Region.wanted, hg, hy' I ρ a he]
      · rename_i hb
        exact GSem.skip h fun I ρ a he _ => by simp [Region.wanted, hg, yielded_undef hd' hb he]
      · exact h.elim

theorem aops_sound {X : Ctx} (hX : CtxOk X) {ops : Array Oper} {K : Env → List O → Prop} : ∀ (rest : List Oper) (i : Nat), ops.toList.drop i = rest → ∀ (e : Env) (H : List O), aops X ops.toList K rest e H →
    ∀ (I : Imm) (ρ : List Pl) (w : World) (a : Act), St I ρ H w → ERel I ρ e a.tmps → X.k ≤ ρ.length → a.tmps.size = X.n → ∀ (F : Fence) (n : Nat), Wide F → ∀ (Q : Exit → Act → World → Prop),
    (∀ I' ρ' e' H' w' (a' : Act), K e' H' → St I' ρ' H' w' → ERel I' ρ' e' a'.tmps → a'.tmps.size = X.n → a'.defers = a.defers → Step X.k I ρ H w I' ρ' H' w' → Q .normal a' w') → wpOpsIn F n X.P ops Q (List.range' i rest.length) a w := by
  intro rest
  induction rest with
  | nil =>
    intro i hi e H h I ρ w a hst he hk hs F n hF Q hQ
    exact hQ I ρ e H w a h hst he hs rfl (Step.refl _ _ _ _ _)
  | cons o rest ih =>
    intro i hi e H h I ρ w a hst he hk hs F n hF Q hQ
    have ho : ops[i]? = some o := by
      have : ops.toList[i]? = some o := by
        have h1 : (ops.toList.drop i)[0]? = some o := by rw [hi]; rfl
        rwa [List.getElem?_drop, Nat.add_zero] at h1
      simpa using this
    have hrest : ops.toList.drop (i + 1) = rest := by rw [← List.drop_drop, hi]; rfl
    simp only [List.length_cons, List.range'_succ, wpOpsIn, ho]
    refine aguard_sound hX h I ρ w a hst he hk hs F n hF _ Q fun I' ρ' e' H' w' a' hK h1 h2 h3 h4 h5 => ?_
    refine ih (i + 1) hrest e' H' hK I' ρ' w' a' h1 h2 ?_ h3 F n hF Q fun I2 ρ2 e2 H2 w2 a2 g1 g2 g3 g4 g5 g6 => hQ I2 ρ2 e2 H2 w2 a2 g1 g2 g3 g4 (g5.trans h4) (h5.trans g6)
    rcases Nat.eq_zero_or_pos X.k with h0 | h0
    · omega
    · have h6 := h5.take (X.k - 1) (by omega)
      rw [List.getElem?_eq_getElem (show X.k - 1 < ρ.length by omega)] at h6
      have := (List.getElem?_eq_some_iff.1 h6).1
      omega

theorem Step.klen {k : Nat} {I I' : Imm} {ρ ρ' : List Pl} {H H' : List O} {w w' : World} (h : Step k I ρ H w I' ρ' H' w') (hk : k ≤ ρ.length) : k ≤ ρ'.length := by
  rcases Nat.eq_zero_or_pos k with h0 | h0
  · omega
  · have h6 := h.take (k - 1) (by omega)
    rw [List.getElem?_eq_getElem (show k - 1 < ρ.length by omega)] at h6
    have := (List.getElem?_eq_some_iff.1 h6).1
    omega

/-! ### code -/
def AEx.is : AEx → Exit → Prop
  | .normal, .normal => True
  | .exit i, .exit j => i = j
  | .ret, .ret => True
  | _, _ => False

/-- The mark of a block of calls that are put off. -/
def markD (D : Nat) : Deferred := { target := .collected D, args := #[] }

/-- The activation has put off nothing but empty blocks, which nobody owns. -/
def PutOk (a : Act) (ρ : List Pl) (H : List O) (w : World) : Prop :=
  ∃ Ds : List Nat, a.defers = Ds.map markD ∧ Ds.Nodup ∧ ∀ D ∈ Ds, w.heap[D]? = some (.deferred (some [])) ∧ ¬ Owned ρ H D

def PutNew (a a' : Act) (w : World) : Prop := ∀ D, markD D ∈ a'.defers → markD D ∈ a.defers ∨ w.heap.size ≤ D

theorem PutOk.nil {tmps : Array Value} : PutOk { tmps, defers := [] } ρ H w := ⟨[], rfl, .nil, fun D h => by simp at h⟩
theorem PutNew.same {a a' : Act} (h : a'.defers = a.defers) : PutNew a a' w := fun D hD => .inl (by rw [← h]; exact hD)
theorem PutNew.trans {a a1 a2 : Act} {w1 : World} (h : PutNew a a1 w) (k : PutNew a1 a2 w1) (hs : w.heap.size ≤ w1.heap.size) : PutNew a a2 w := fun D hD => by
  rcases k D hD with x | x
  · exact h D x
  · exact .inr (Nat.le_trans hs x)

theorem PutOk.step {a a' : Act} (h : PutOk a ρ H w) {k : Nat} {I I' : Imm} {ρ' : List Pl} {H' : List O} {w' : World} (hs : Step k I ρ H w I' ρ' H' w') (hd : a'.defers = a.defers) : PutOk a' ρ' H' w' := by
  obtain ⟨Ds, h1, h2, h3⟩ := h
  refine ⟨Ds, hd.trans h1, h2, fun D hD => ?_⟩
  obtain ⟨g1, g2⟩ := h3 D hD
  have hlt := (Array.getElem?_eq_some_iff.1 g1).1
  refine ⟨by rw [hs.frame D hlt g2]; exact g1, fun ho => ?_⟩
  rcases hs.own D ho with x | x
  · exact g2 x
  · omega

/-- The fence: within a round of the loop of object 'X.round', or in none. -/
def FOk (X : Ctx) (F : Fence) (ρ : List Pl) : Prop := (X.round = none ∧ F = Fence.wide) ∨ ∃ id p, X.round = some id ∧ id < X.k ∧ ρ[id]? = some p ∧ F = Fence.wide.inRound p.b

theorem FOk.wide {X : Ctx} {F : Fence} (h : FOk X F ρ) : Wide F := by
  rcases h with ⟨_, rfl⟩ | ⟨id, p, _, _, _, rfl⟩
  · exact .inl rfl
  · exact .inr ⟨_, rfl⟩

theorem FOk.step {X : Ctx} {F : Fence} (h : FOk X F ρ) {I I' : Imm} {ρ' : List Pl} {H' : List O} {w' : World} (hs : Step X.k I ρ H w I' ρ' H' w') : FOk X F ρ' := by
  rcases h with h | ⟨id, p, h1, h2, h3, h4⟩
  · exact .inl h
  · exact .inr ⟨id, p, h1, h2, by rw [hs.take id h2]; exact h3, h4⟩

/-- What code comes to. -/
def CPost (X : Ctx) (Q : AEx → Env → List O → Prop) (I : Imm) (ρ : List Pl) (H : List O) (w : World) (a : Act) (ex : Exit) (a' : Act) (w' : World) : Prop :=
  ∃ x e' H' I' ρ', AEx.is x ex ∧ Q x e' H' ∧ St I' ρ' H' w' ∧ ERel I' ρ' e' a'.tmps ∧ a'.tmps.size = X.n ∧ (PutOk a' ρ' H' w' ∧ PutNew a a' w) ∧ Step X.k I ρ H w I' ρ' H' w'

def CSem (X : Ctx) (c : Code) (Q : AEx → Env → List O → Prop) (e : Env) (H : List O) : Prop :=
  ∀ (I : Imm) (ρ : List Pl) (w : World) (a : Act), St I ρ H w → ERel I ρ e a.tmps → X.k ≤ ρ.length → a.tmps.size = X.n → PutOk a ρ H w → ∀ (F : Fence) (n : Nat), FOk X F ρ → c.wpIn F n X.P (CPost X Q I ρ H w a) a w

theorem erel_zip {ts : List Nat} : ∀ {vs : List V} {tmps : Array Value}, (∀ (i : Nat) (t : Nat) (v : V), ts[i]? = some t → vs[i]? = some v → VRel I ρ v (tmps.getD t undef)) → ERel I ρ (ts.zip vs) tmps := by
  induction ts with
  | nil => intro vs tmps h t; simp [Env.get]; exact .any _ _
  | cons t0 ts ih =>
    intro vs tmps h t
    cases vs with
    | nil => simp [Env.get]; exact .any _ _
    | cons v vs =>
      simp only [List.zip_cons_cons, Env.get]
      cases ht : Nat.beq t0 t with
      | true =>
        have := Nat.eq_of_beq_eq_true ht
        subst this
        exact h 0 _ _ (by simp) (by simp)
      | false => exact ih (fun i t v h1 h2 => h (i + 1) t v (by simpa using h1) (by simpa using h2)) t

end Go.Proofs.YtcgpgpbnpjbhhaaPg
