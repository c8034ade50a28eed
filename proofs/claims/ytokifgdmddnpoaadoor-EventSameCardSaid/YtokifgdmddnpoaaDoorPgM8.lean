/- Maps whose keys are numbers or texts: made, written, looked into. -/
import Derived.Test.YtokifgdmddnpoaaDoorPgM7
import Derived.MapKept
namespace Go.Proofs.YtokifgdmddnpoaaDoorPg
open Go Go.RowKit Go.MapKept
set_option linter.unusedSectionVars false
variable [Globs]
set_option linter.unusedVariables false
set_option linter.unusedSimpArgs false

variable {P : Program} {T : Nat → TI} {I : Imm} {ρ : List Pl} {H : List O} {w : World} {e : Env}

theorem key_fit (hT : TIok P T) {kt : TypeId} {x : V} (h : keyFit (T kt).kind x = true) : ∃ d, P.underlying kt = some d ∧ ∀ (I : Imm) (ρ : List Pl) (u : Value), VRel I ρ x u → IsKey d u := by
  unfold keyFit at h
  split at h
  · rename_i k k' n hk
    exact ⟨_, ty_int hT hk, fun I ρ u hu => by rw [vr_int hu]; exact of_decide_eq_true (p := k' = k) h⟩
  · rename_i s hk
    exact ⟨_, ty_str hT hk, fun I ρ u hu => by obtain ⟨b, _, rfl⟩ := vr_str hu; trivial⟩
  · cases h

/-- the entries stand as told -/
def Ents (I : Imm) (ρ : List Pl) (kvs : List (V × V)) (es : List MapEntry) : Prop :=
  es.length = kvs.length ∧ ∀ (i : Nat) (kv : V × V) (x : MapEntry), kvs[i]? = some kv → es[i]? = some x → VRel I ρ kv.1 x.key ∧ VRel I ρ kv.2 x.val

theorem Ents.tail {kv : V × V} {kvs : List (V × V)} {x : MapEntry} {es : List MapEntry} (h : Ents I ρ (kv :: kvs) (x :: es)) : Ents I ρ kvs es :=
  ⟨by simpa using h.1, fun i a b ha hb => h.2 (i + 1) a b (by simpa using ha) (by simpa using hb)⟩

theorem sameK_rel {d : TypeDesc} {x y : V} {b : Bool} (h : sameK x y = some b) {u v : Value} (hu : VRel I ρ x u) (hv : VRel I ρ y v) (hd : IsKey d u) : Instr.sameNow d u v = some b ∧ (b = true → v = u) := by
  unfold sameK at h
  split at h
  · rename_i k m k' n
    have e1 := vr_int hu
    have e2 := vr_int hv
    subst e1; subst e2
    by_cases hk : k = k'
    · subst hk
      simp at h
      subst h
      cases d <;> simp_all [IsKey, Instr.sameNow]
      by_cases hmn : m = n <;> simp [hmn]
    · simp [hk] at h
  · rename_i m n
    obtain ⟨b1, h1, rfl⟩ := vr_str hu
    obtain ⟨b2, h2, rfl⟩ := vr_str hv
    simp at h
    subst h
    have hb : (b1 == b2) = decide (m = n) := by
      by_cases hmn : m = n
      · have : b1 = b2 := by
          obtain ⟨x1⟩ := b1
          obtain ⟨x2⟩ := b2
          congr 1
          apply Array.ext'
          simp only at h1 h2
          rw [h1, h2, hmn]
        simp [hmn, (bytes_beq b1 b2).2 this]
      · have : ¬ b1 = b2 := fun e => hmn (by rw [← h1, ← h2, e])
        have h3 : (b1 == b2) = false := by
          cases h4 : b1 == b2 with
          | false => rfl
          | true => exact absurd ((bytes_beq b1 b2).1 h4) this
        simp [hmn, h3]
    cases d <;> simp_all [IsKey, Instr.sameNow]
    intro hmn
    subst hmn
    obtain ⟨x1⟩ := b1
    obtain ⟨x2⟩ := b2
    congr 1
    apply Array.ext'
    simp only at h1 h2
    rw [h1, h2]
  · cases h

theorem afind_sound {x : V} : ∀ (kvs : List (V × V)) (i : Nat) {K : Option (Nat × V) → Prop}, afind x kvs i K →
    ∃ r, K r ∧ ∀ (I : Imm) (ρ : List Pl) (d : TypeDesc) (u : Value) (es : List MapEntry), VRel I ρ x u → IsKey d u → Ents I ρ kvs es →
      match r with
      | none => Instr.findNow d u es i = some none
      | some (j, v) => ∃ m en, j = i + m ∧ es[m]? = some en ∧ en.key = u ∧ VRel I ρ v en.val ∧ Instr.findNow d u es i = some (some (j, en.val))
  | [], i, K, h => ⟨none, h, fun I ρ d u es hu hd hes => by
      cases es with
      | nil => rfl
      | cons a es => have := hes.1; simp at this⟩
  | (y, v) :: r, i, K, h => by
    unfold afind at h
    cases hs : sameK x y with
    | none => simp only [hs] at h
    | some b =>
      simp only [hs] at h
      cases b with
      | true =>
        simp only [branch] at h
        refine ⟨_, h, fun I ρ d u es hu hd hes => ?_⟩
        cases es with
        | nil => have := hes.1; simp at this
        | cons a es =>
          obtain ⟨g1, g2⟩ := hes.2 0 (y, v) a (by simp) (by simp)
          obtain ⟨g3, g4⟩ := sameK_rel hs hu g1 hd
          exact ⟨0, a, rfl, by simp, g4 rfl, g2, by simp [Instr.findNow, g3]⟩
      | false =>
        simp only [branch] at h
        obtain ⟨q, hK, hq⟩ := afind_sound r (i + 1) h
        refine ⟨q, hK, fun I ρ d u es hu hd hes => ?_⟩
        cases es with
        | nil => have := hes.1; simp at this
        | cons a es =>
          obtain ⟨g1, g2⟩ := hes.2 0 (y, v) a (by simp) (by simp)
          obtain ⟨g3, g4⟩ := sameK_rel hs hu g1 hd
          have ih := hq I ρ d u es hu hd hes.tail
          have step : Instr.findNow d u (a :: es) i = Instr.findNow d u es (i + 1) := by simp [Instr.findNow, g3]
          cases q with
          | none => simp only at ih ⊢; rw [step]; exact ih
          | some p =>
            obtain ⟨j, v'⟩ := p
            simp only at ih ⊢
            obtain ⟨m, en, e1, e2, e3, e4, e5⟩ := ih
            exact ⟨m + 1, en, by omega, by simpa using e2, e3, e4, by rw [step]; exact e5⟩

theorem vr_map {id : Nat} {u : Value} (h : VRel I ρ (.map id) u) : ∃ p, ρ[id]? = some p ∧ u = .map (some p.b) := by cases h; exact ⟨_, ‹_›, rfl⟩
theorem vr_nilm {u : Value} (h : VRel I ρ .nilm u) : u = .map none := by cases h; rfl

theorem ty_map (hT : TIok P T) {t kt et : TypeId} (h : (T t).kind = .map kt et) : P.underlying t = some (.map kt et) := by
  obtain ⟨d, h1, h2⟩ := ti_kind hT h (by simp); rw [h1, kind_map h2]

theorem e_makeMap (hT : TIok P T) {k : Nat} {o : Oper} {t : TypeId} (ho : o.op = .makeMap t none) {K : V → Env → List O → Prop} (h : aMakeMap T t H fun v H' => K v e H') : ESem P k o e H K := by
  unfold aMakeMap at h
  split at h <;> try exact h.elim
  rename_i kt et hk'
  rw [copyH_iff] at h
  refine esem_value (by simp [ho]) fun I ρ w a hst he hk => ?_
  have hnew : (w.alloc (.map #[] 0)).heap[w.heap.size]? = some (.map #[] 0) := (heap_alloc w _).1
  obtain ⟨s1, s2⟩ := hst.push k hk (.map #[] 0) ⟨w.heap.size, 0, 0, 0⟩ (.map [] 0) rfl (w.alloc (.map #[] 0)) rfl rfl rfl rfl ⟨#[], hnew, rfl, fun i kv x hx => by simp at hx⟩
  refine ⟨.map (some w.heap.size), _, I, _, e, _, _, .inl ?_, h, s1, ?_, he.mono (ILe.refl _) (PLe.append _ _), s2⟩
  · simp [execOp, ho, Instr.makeMap]
  · exact VRel.map (I := I) (ρ ++ [⟨w.heap.size, 0, 0, 0⟩]) H.length ⟨w.heap.size, 0, 0, 0⟩ (by rw [← hst.len]; simp)

theorem azero_rel {t : TypeId} {z : V} (h : AZero P t z) (w : World) : ∃ u, (zeroValue t).run P w = .ok u w ∧ ∀ (I : Imm) (ρ : List Pl), VRel I ρ z u := by
  obtain ⟨i, u, h1, h2, rfl⟩ := h
  exact ⟨u, by simp [zeroValue, typeInfo, run_program, h1, h2], fun I ρ => ofVal_rel u⟩

theorem okV_rel {ok b : Bool} {v : V} {u : Value} (h : VRel I ρ v u) : VRel I ρ (okV ok v b) (if ok then .tuple #[u, .bool b] else u) := by
  cases ok with
  | false => simpa [okV] using h
  | true =>
    simp only [okV, if_true]
    refine .tup _ _ _ rfl fun i a x ha hx => ?_
    match i, ha, hx with
    | 0, ha, hx => simp at ha hx; subst ha; subst hx; exact h
    | 1, ha, hx => simp at ha hx; subst ha; subst hx; exact .bool _ _
    | i + 2, ha, hx => simp at ha

theorem e_lookup (hT : TIok P T) {k : Nat} {o : Oper} {t : TypeId} {m x : Operand} {ok : Bool} (ho : o.op = .lookup t m x ok) {K : V → Env → List O → Prop}
    (h : aLookup P T t (aevo e m) (aevo e x) ok H fun v H' => K v e H') : ESem P k o e H K := by
  unfold aLookup at h
  split at h <;> try exact h.elim
  rename_i kt et hk'
  split at h <;> try exact h.elim
  rename_i hf
  obtain ⟨d, hd, hkey⟩ := key_fit hT hf
  have hu := ty_map hT hk'
  split at h <;> try exact h.elim
  · rename_i id hm
    split at h <;> try exact h.elim
    rename_i kvs c hg
    obtain ⟨r, hK, hr⟩ := afind_sound kvs 0 h
    refine esem_value (by simp [ho]) fun I ρ w a hst he hk => ?_
    have h1 := aevo_rel he m
    rw [hm] at h1
    obtain ⟨p, hp, e1⟩ := vr_map h1
    have h2 := aevo_rel he x
    have hkx := hkey _ _ _ h2
    have hH := getO_some hg (by simp)
    obtain ⟨es, b1, b2, b3⟩ := hst.obj id p _ hp hH
    have hs := hr I ρ d (a.eval x) es.toList h2 hkx ⟨by simpa using b2, fun i kv en hkv hen => b3 i kv en hkv (by simpa using hen)⟩
    cases r with
    | none =>
      simp only at hs hK
      obtain ⟨z, hz, hK⟩ := hK
      obtain ⟨u, hz1, hz2⟩ := azero_rel hz w
      refine ⟨_, _, I, ρ, e, H, w, .inl ?_, hK, hst, okV_rel (hz2 I ρ), he, Step.refl _ _ _ _ _⟩
      simp [execOp, ho, e1, Instr.lookup, run_underlying' hu, Go.MapKept.run_getObj_map b1, Go.MapKept.run_checkKey hd hkx, Go.MapKept.run_findKey hd hs, hz1]
    | some q =>
      obtain ⟨j, v⟩ := q
      simp only [force_iff] at hs hK
      obtain ⟨m', en, _, g1, g2, g3, g4⟩ := hs
      refine ⟨_, _, I, ρ, e, H, w, .inl ?_, hK, hst, okV_rel g3, he, Step.refl _ _ _ _ _⟩
      simp [execOp, ho, e1, Instr.lookup, run_underlying' hu, Go.MapKept.run_getObj_map b1, Go.MapKept.run_checkKey hd hkx, Go.MapKept.run_findKey hd g4]
  · rename_i hm
    obtain ⟨z, hz, hK⟩ := h
    refine esem_value (by simp [ho]) fun I ρ w a hst he hk => ?_
    have h1 := aevo_rel he m
    rw [hm] at h1
    have e1 := vr_nilm h1
    have h2 := aevo_rel he x
    have hkx := hkey _ _ _ h2
    obtain ⟨u, hz1, hz2⟩ := azero_rel hz w
    refine ⟨_, _, I, ρ, e, H, w, .inl ?_, hK, hst, okV_rel (hz2 I ρ), he, Step.refl _ _ _ _ _⟩
    have hs : Instr.findNow d (a.eval x) [] 0 = some none := rfl
    simp [execOp, ho, e1, Instr.lookup, run_underlying' hu, Go.MapKept.run_checkKey hd hkx, Go.MapKept.run_findKey hd hs, hz1]

theorem e_mapUpdate (hT : TIok P T) {k : Nat} {o : Oper} {t : TypeId} {m x y : Operand} (ho : o.op = .mapUpdate t m x y ∨ o.op = .insert t m x y) {K : V → Env → List O → Prop}
    (h : aMapUpd T t (aevo e m) (aevo e x) (aeval e y) H fun v H' => K v e H') : ESem P k o e H K := by
  unfold aMapUpd at h
  split at h <;> try exact h.elim
  rename_i kt et hk'
  split at h <;> try exact h.elim
  rename_i hf
  obtain ⟨d, hd, hkey⟩ := key_fit hT hf
  have hu := ty_map hT hk'
  split at h <;> try exact h.elim
  rename_i id hm
  split at h <;> try exact h.elim
  rename_i kvs c hg
  obtain ⟨r, hK, hr⟩ := afind_sound kvs 0 h
  refine esem_value (by rcases ho with ho | ho <;> simp [ho]) fun I ρ w a hst he hk => ?_
  have h1 := aevo_rel he m
  rw [hm] at h1
  obtain ⟨p, hp, e1⟩ := vr_map h1
  have h2 := aevo_rel he x
  have h3 := aeval_rel he y
  have hkx := hkey _ _ _ h2
  have hH := getO_some hg (by simp)
  obtain ⟨es, b1, b2, b3⟩ := hst.obj id p _ hp hH
  have hs := hr I ρ d (a.eval x) es.toList h2 hkx ⟨by simpa using b2, fun i kv en hkv hen => b3 i kv en hkv (by simpa using hen)⟩
  have turn : ∀ (es' : Array MapEntry) (c' : Nat) (kvs' : List (V × V)), es'.size = kvs'.length → (∀ (i : Nat) (kv : V × V) (en : MapEntry), kvs'[i]? = some kv → es'[i]? = some en → VRel I ρ kv.1 en.key ∧ VRel I ρ kv.2 en.val) →
      K (.tup []) e (setO H id (.map kvs' c')) → (∀ mm, mm = Instr.mapUpdate t (.map (some p.b)) (a.eval x) (a.eval y) → mm.run P w = .ok () { w with heap := w.heap.setIfInBounds p.b (.map es' c') }) →
      ∃ u v I' ρ' e' H' w', (((execOp a.eval o).run P w = .ok (.value u) w') ∨ ((execOp a.eval o).run P w = .ok .skip w' ∧ u = undef)) ∧ K v e' H' ∧ St I' ρ' H' w' ∧ VRel I' ρ' v u ∧ ERel I' ρ' e' a.tmps ∧ Step k I ρ H w I' ρ' H' w' := by
    intro es' c' kvs' k1 k2 k3 k4
    rw [setO_eq] at k3
    obtain ⟨s1, s2⟩ := st_turn hst k hk hp hH (o' := .map kvs' c') trivial trivial (w' := { w with heap := w.heap.setIfInBounds p.b (.map es' c') }) (fun b hb => (heap_set b1).2 b hb) rfl rfl rfl (by simp) ⟨es', (heap_set b1).1, k1, k2⟩
    refine ⟨undef, .tup [], I, ρ, e, _, _, .inr ⟨?_, rfl⟩, k3, s1, .tup _ _ _ rfl (fun i a u hx => by simp at hx), he, s2⟩
    have := k4 _ rfl
    rcases ho with ho | ho <;> simp [execOp, ho, e1, this]
  cases r with
  | none =>
    simp only [copyH_iff] at hs hK
    refine turn (es.push { key := a.eval x, val := a.eval y, born := c }) _ _ (by simp [b2]) (fun i kv en hkv hen => ?_) hK (fun mm hmm => ?_)
    rotate_left
    · subst hmm
      simp [Instr.mapUpdate, run_underlying' hu, Go.MapKept.run_getObj_map b1, Go.MapKept.run_checkKey hd hkx, Go.MapKept.run_findKey hd hs, Go.MapKept.run_setObj_map _ b1]
    · rcases Nat.lt_or_ge i es.size with hi | hi
      · rw [List.getElem?_append_left (by omega)] at hkv
        rw [Array.getElem?_push_lt hi] at hen
        exact b3 i kv en hkv (by rw [Array.getElem?_eq_getElem hi]; exact hen)
      · rw [List.getElem?_append_right (by omega)] at hkv
        have hi0 : i - kvs.length = 0 := by
          have := (List.getElem?_eq_some_iff.1 hkv).1
          simp at this; omega
        have hi1 : i = es.size := by omega
        subst hi1
        rw [hi0] at hkv
        simp at hkv hen
        subst hkv; subst hen
        exact ⟨h2, h3⟩
  | some q =>
    obtain ⟨j, v⟩ := q
    simp only [copyH_iff] at hs hK
    obtain ⟨m', en0, e0, g1, g2, g3, g4⟩ := hs
    have hj : j = m' := by omega
    subst hj
    have hen0 : es[j]? = some en0 := by simpa using g1
    have hlt : j < es.size := (Array.getElem?_eq_some_iff.1 hen0).1
    refine turn (es.modify j fun (en : MapEntry) => { en with key := a.eval x, val := a.eval y }) _ _ (by simp [b2]) (fun i kv en hkv hen => ?_) hK (fun mm hmm => ?_)
    rotate_left
    · subst hmm
      have hst : (Instr.keyThatStays (((es[j]?).map (·.key)).getD (a.eval x)) (a.eval x)).run P w = .ok (a.eval x) w := by
        rw [hen0]; simp only [Option.map_some, Option.getD_some, g2]
        exact run_keyThatStays hkx
      simp [Instr.mapUpdate, run_underlying' hu, Go.MapKept.run_getObj_map b1, Go.MapKept.run_checkKey hd hkx, Go.MapKept.run_findKey hd g4, hst, Go.MapKept.run_setObj_map _ b1]
    · rw [Array.getElem?_modify] at hen
      by_cases hij : j = i
      · subst hij
        rw [if_pos rfl, hen0] at hen
        simp at hen
        subst hen
        rw [List.getElem?_set_self (by omega)] at hkv
        cases hkv
        exact ⟨h2, h3⟩
      · rw [if_neg hij] at hen
        rw [List.getElem?_set_ne hij] at hkv
        exact b3 i kv en hkv hen

end Go.Proofs.YtokifgdmddnpoaaDoorPg
