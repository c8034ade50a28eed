/- Own texts, laid together: PgB43, PgE1, PgE61, PgB7, PgB8, PgB9, PgC0, PgC02, PgC00. -/
import Derived.Test.YtcdkklgeepkopaaGreatDoorPgM7
import Derived.MapKept
import Derived.Test.YtcdkklgeepkopaaGreatDoorPgM6
import Derived.Test.YtcdkklgeepkopaaGreatDoorPgM8
set_option linter.unusedSectionVars false
set_option linter.unusedSimpArgs false
set_option linter.unusedVariables false
namespace Go.Proofs.YtcdkklgeepkopaaGreatDoorPg
open Go Go.RowKit Go.MapKept
variable [Globs]
variable {P : Program} {T : Nat -> TI} {I : Imm} {ρ : List Pl} {H : List O} {w : World} {e : Env}
theorem key_fit (hT : TIok P T) {kt : TypeId} {x : V} (h : keyFit (T kt).kind x = true) : ∃ d, P.underlying kt = some d /\ ∀ (I : Imm) (ρ : List Pl) (u : Value), VRel I ρ x u -> IsKey d u := by
 unfold keyFit at h;split at h
 . rename_i k k' n hk;exact ⟨_, ty_int hT hk, fun I ρ u hu => by rw [vr_int hu]; exact dtZ (p := k' = k) h⟩
 . rename_i s hk;exact ⟨_, ty_str hT hk, fun I ρ u hu => by obtain ⟨b, _, rfl⟩ := vr_str hu; trivial⟩
 . cases h
def Ents (I : Imm) (ρ : List Pl) (kvs : List (V × V)) (es : List MapEntry) : Prop :=
 es.length = kvs.length /\ ∀ (i : Nat) (kv : V × V) (x : MapEntry), kvs[i]? = some kv -> es[i]? = some x -> VRel I ρ kv.1 x.key /\ VRel I ρ kv.2 x.val
theorem Ents.tail {kv : V × V} {kvs : List (V × V)} {x : MapEntry} {es : List MapEntry} (h : Ents I ρ (kv :: kvs) (x :: es)) : Ents I ρ kvs es :=
 ⟨by simpa using h.1, fun i a b ha hb => h.2 (i + 1) a b (by simpa using ha) (by simpa using hb)⟩
theorem sameK_rel {d : TypeDesc} {x y : V} {b : Bool} (h : sameK x y = some b) {u v : Value} (hu : VRel I ρ x u) (hv : VRel I ρ y v) (hd : IsKey d u) : Instr.sameNow d u v = some b /\ (b = true -> v = u) := by
 unfold sameK at h;split at h
 . rename_i k m k' n;have e1 := vr_int hu;have e2 := vr_int hv;subst e1; subst e2;by_cases hk : k = k'
   . subst hk;simp at h;subst h;cases d <;> simp_all [IsKey, Instr.sameNow]
     by_cases hmn : m = n <;> simp [hmn]
   . simp [hk] at h
 . rename_i m n;obtain ⟨b1, h1, rfl⟩ := vr_str hu;obtain ⟨b2, h2, rfl⟩ := vr_str hv;simp at h;subst h;have hb : (b1 == b2) = decide (m = n) := by
    by_cases hmn : m = n
    . have : b1 = b2 := by
       obtain ⟨x1⟩ := b1;obtain ⟨x2⟩ := b2;congr 1
       apply Array.ext';simp only at h1 h2;rw [h1, h2, hmn]
      simp [hmn, (bytes_beq b1 b2).2 this]
    . have : ¬ b1 = b2 := fun e => hmn (by rw [<- h1, <- h2, e])
      have h3 : (b1 == b2) = false := by
       cases h4 : b1 == b2 with
       | false => rfl
       | true => exact absurd ((bytes_beq b1 b2).1 h4) this
      simp [hmn, h3]
   cases d <;> simp_all [IsKey, Instr.sameNow]
   intro hmn;subst hmn;obtain ⟨x1⟩ := b1;obtain ⟨x2⟩ := b2;congr 1
   apply Array.ext';simp only at h1 h2;rw [h1, h2]
 . cases h
theorem afind_sound {x : V} : ∀ (kvs : List (V × V)) (i : Nat) {K : Option (Nat × V) -> Prop}, afind x kvs i K ->
 ∃ r, K r /\ ∀ (I : Imm) (ρ : List Pl) (d : TypeDesc) (u : Value) (es : List MapEntry), VRel I ρ x u -> IsKey d u -> Ents I ρ kvs es ->
  match r with
  | none => Instr.findNow d u es i = some none
  | some (j, v) => ∃ m en, j = i + m /\ es[m]? = some en /\ en.key = u /\ VRel I ρ v en.val /\ Instr.findNow d u es i = some (some (j, en.val))
 | [], i, K, h => ⟨none, h, fun I ρ d u es hu hd hes => by
  cases es with
  | nil => rfl
  | cons a es => have := hes.1; simp at this⟩
 | (y, v) :: r, i, K, h => by
  unfold afind at h;cases hs : sameK x y with
  | none => simp only [hs] at h
  | some b =>
   simp only [hs] at h;cases b with
   | true =>
    simp only [branch] at h;refine ⟨_, h, fun I ρ d u es hu hd hes => ?_⟩
    cases es with
    | nil => have := hes.1; simp at this
    | cons a es =>
     obtain ⟨g1, g2⟩ := hes.2 0 (y, v) a (by simp) (by simp)
     obtain ⟨g3, g4⟩ := sameK_rel hs hu g1 hd;exact ⟨0, a, rfl, by simp, g4 rfl, g2, by simp [Instr.findNow, g3]⟩
   | false =>
    simp only [branch] at h;obtain ⟨q, hK, hq⟩ := afind_sound r (i + 1) h;refine ⟨q, hK, fun I ρ d u es hu hd hes => ?_⟩
    cases es with
    | nil => have := hes.1; simp at this
    | cons a es =>
     obtain ⟨g1, g2⟩ := hes.2 0 (y, v) a (by simp) (by simp)
     obtain ⟨g3, g4⟩ := sameK_rel hs hu g1 hd;have ih := hq I ρ d u es hu hd hes.tail;have step : Instr.findNow d u (a :: es) i = Instr.findNow d u es (i + 1) := by simp [Instr.findNow, g3]
     cases q with
     | none => simp only at ih ⊢; rw [step]; exact ih
     | some p =>
      obtain ⟨j, v'⟩ := p;simp only at ih ⊢;obtain ⟨m, en, e1, e2, e3, e4, e5⟩ := ih;exact ⟨m + 1, en, by omega, by simpa using e2, e3, e4, by rw [step]; exact e5⟩
theorem vr_map {id : Nat} {u : Value} (h : VRel I ρ (.map id) u) : ∃ p, ρ[id]? = some p /\ u = .map (some p.b) := by cases h; exact ⟨_, ‹_›, rfl⟩
theorem vr_nilm {u : Value} (h : VRel I ρ .nilm u) : u = .map none := by cases h; rfl
theorem ty_map (hT : TIok P T) {t kt et : TypeId} (h : (T t).kind = .map kt et) : P.underlying t = some (.map kt et) := by
 obtain ⟨d, h1, h2⟩ := ti_kind hT h (by simp); rw [h1, kind_map h2]
theorem e_makeMap (hT : TIok P T) {k : Nat} {o : Oper} {t : TypeId} (ho : o.op = .makeMap t none) {K : V -> Env -> List O -> Prop} (h : aMakeMap T t H fun v H' => K v e H') : ESem P k o e H K := by
 unfold aMakeMap at h;split at h <;> try exact h.elim
 rename_i kt et hk';rw [copyH_iff] at h;refine esem_value (by simp [ho]) fun I ρ w a hst he hk => ?_
 have hnew : (w.alloc (.map #[] 0)).heap[w.heap.size]? = some (.map #[] 0) := (heap_alloc w _).1;obtain ⟨s1, s2⟩ := hst.push k hk (.map #[] 0) ⟨w.heap.size, 0, 0, 0⟩ (.map [] 0) rfl (w.alloc (.map #[] 0)) rfl rfl rfl rfl ⟨#[], hnew, rfl, fun i kv x hx => by simp at hx⟩
 refine ⟨.map (some w.heap.size), _, I, _, e, _, _, .inl ?_, h, s1, ?_, he.mono (ILe.refl _) (PLe.append _ _), s2⟩
 . simp [execOp, ho, Instr.makeMap]
 . exact VRel.map (I := I) (ρ ++ [⟨w.heap.size, 0, 0, 0⟩]) H.length ⟨w.heap.size, 0, 0, 0⟩ (by rw [<- hst.len]; simp)
theorem azero_rel {t : TypeId} {z : V} (h : AZero P t z) (w : World) : ∃ u, (zeroValue t).run P w = .ok u w /\ ∀ (I : Imm) (ρ : List Pl), VRel I ρ z u := by
 obtain ⟨i, u, h1, h2, rfl⟩ := h;exact ⟨u, by simp [zeroValue, typeInfo, run_program, h1, h2], fun I ρ => ofVal_rel u⟩
theorem okV_rel {ok b : Bool} {v : V} {u : Value} (h : VRel I ρ v u) : VRel I ρ (okV ok v b) (if ok then .tuple #[u, .bool b] else u) := by
 cases ok with
 | false => simpa [okV] using h
 | true =>
  simp only [okV, if_true];refine .tup _ _ _ rfl fun i a x ha hx => ?_
  match i, ha, hx with
  | 0, ha, hx => simp at ha hx; subst ha; subst hx; exact h
  | 1, ha, hx => simp at ha hx; subst ha; subst hx; exact .bool _ _
  | i + 2, ha, hx => simp at ha
theorem e_lookup (hT : TIok P T) {k : Nat} {o : Oper} {t : TypeId} {m x : Operand} {ok : Bool} (ho : o.op = .lookup t m x ok) {K : V -> Env -> List O -> Prop}
 (h : aLookup P T t (aevo e m) (aevo e x) ok H fun v H' => K v e H') : ESem P k o e H K := by
 unfold aLookup at h;split at h <;> try exact h.elim
 rename_i kt et hk';split at h <;> try exact h.elim
 rename_i hf;obtain ⟨d, hd, hkey⟩ := key_fit hT hf;have hu := ty_map hT hk';split at h <;> try exact h.elim
 . rename_i id hm;split at h <;> try exact h.elim
   rename_i kvs c hg;obtain ⟨r, hK, hr⟩ := afind_sound kvs 0 h;refine esem_value (by simp [ho]) fun I ρ w a hst he hk => ?_
   have h1 := aevo_rel he m;rw [hm] at h1;obtain ⟨p, hp, e1⟩ := vr_map h1;have h2 := aevo_rel he x;have hkx := hkey _ _ _ h2;have hH := getO_some hg (by simp)
   obtain ⟨es, b1, b2, b3⟩ := hst.obj id p _ hp hH;have hs := hr I ρ d (a.eval x) es.toList h2 hkx ⟨by simpa using b2, fun i kv en hkv hen => b3 i kv en hkv (by simpa using hen)⟩
   cases r with
   | none =>
    simp only at hs hK;obtain ⟨z, hz, hK⟩ := hK;obtain ⟨u, hz1, hz2⟩ := azero_rel hz w;refine ⟨_, _, I, ρ, e, H, w, .inl ?_, hK, hst, okV_rel (hz2 I ρ), he, Step.refl _ _ _ _ _⟩;simp [execOp, ho, e1, Instr.lookup, run_underlying' hu, Go.MapKept.run_getObj_map b1, Go.MapKept.run_checkKey hd hkx, Go.MapKept.run_findKey hd hs, hz1]
   | some q =>
    obtain ⟨j, v⟩ := q;simp only [force_iff] at hs hK;obtain ⟨m', en, _, g1, g2, g3, g4⟩ := hs;refine ⟨_, _, I, ρ, e, H, w, .inl ?_, hK, hst, okV_rel g3, he, Step.refl _ _ _ _ _⟩;simp [execOp, ho, e1, Instr.lookup, run_underlying' hu, Go.MapKept.run_getObj_map b1, Go.MapKept.run_checkKey hd hkx, Go.MapKept.run_findKey hd g4]
 . rename_i hm;obtain ⟨z, hz, hK⟩ := h;refine esem_value (by simp [ho]) fun I ρ w a hst he hk => ?_
   have h1 := aevo_rel he m;rw [hm] at h1;have e1 := vr_nilm h1;have h2 := aevo_rel he x;have hkx := hkey _ _ _ h2;obtain ⟨u, hz1, hz2⟩ := azero_rel hz w;refine ⟨_, _, I, ρ, e, H, w, .inl ?_, hK, hst, okV_rel (hz2 I ρ), he, Step.refl _ _ _ _ _⟩;have hs : Instr.findNow d (a.eval x) [] 0 = some none := rfl;simp [execOp, ho, e1, Instr.lookup, run_underlying' hu, Go.MapKept.run_checkKey hd hkx, Go.MapKept.run_findKey hd hs, hz1]
theorem e_mapUpdate (hT : TIok P T) {k : Nat} {o : Oper} {t : TypeId} {m x y : Operand} (ho : o.op = .mapUpdate t m x y \/ o.op = .insert t m x y) {K : V -> Env -> List O -> Prop}
 (h : aMapUpd T t (aevo e m) (aevo e x) (aeval e y) H fun v H' => K v e H') : ESem P k o e H K := by
 unfold aMapUpd at h;split at h <;> try exact h.elim
 rename_i kt et hk';split at h <;> try exact h.elim
 rename_i hf;obtain ⟨d, hd, hkey⟩ := key_fit hT hf;have hu := ty_map hT hk';split at h <;> try exact h.elim
 rename_i id hm;split at h <;> try exact h.elim
 rename_i kvs c hg;obtain ⟨r, hK, hr⟩ := afind_sound kvs 0 h;refine esem_value (by rcases ho with ho | ho <;> simp [ho]) fun I ρ w a hst he hk => ?_
 have h1 := aevo_rel he m;rw [hm] at h1;obtain ⟨p, hp, e1⟩ := vr_map h1;have h2 := aevo_rel he x;have h3 := aeval_rel he y;have hkx := hkey _ _ _ h2;have hH := getO_some hg (by simp)
 obtain ⟨es, b1, b2, b3⟩ := hst.obj id p _ hp hH;have hs := hr I ρ d (a.eval x) es.toList h2 hkx ⟨by simpa using b2, fun i kv en hkv hen => b3 i kv en hkv (by simpa using hen)⟩
 have turn : ∀ (es' : Array MapEntry) (c' : Nat) (kvs' : List (V × V)), es'.size = kvs'.length -> (∀ (i : Nat) (kv : V × V) (en : MapEntry), kvs'[i]? = some kv -> es'[i]? = some en -> VRel I ρ kv.1 en.key /\ VRel I ρ kv.2 en.val) ->
  K (.tup []) e (setO H id (.map kvs' c')) -> (∀ mm, mm = Instr.mapUpdate t (.map (some p.b)) (a.eval x) (a.eval y) -> mm.run P w = .ok () { w with heap := w.heap.setIfInBounds p.b (.map es' c') }) ->
  ∃ u v I' ρ' e' H' w', (((execOp a.eval o).run P w = .ok (.value u) w') \/ ((execOp a.eval o).run P w = .ok .skip w' /\ u = undef)) /\ K v e' H' /\ St I' ρ' H' w' /\ VRel I' ρ' v u /\ ERel I' ρ' e' a.tmps /\ Step k I ρ H w I' ρ' H' w' := by
  intro es' c' kvs' k1 k2 k3 k4;rw [setO_eq] at k3;obtain ⟨s1, s2⟩ := st_turn hst k hk hp hH (o' := .map kvs' c') trivial trivial (w' := { w with heap := w.heap.setIfInBounds p.b (.map es' c') }) (fun b hb => (heap_set b1).2 b hb) rfl rfl rfl (by simp) ⟨es', (heap_set b1).1, k1, k2⟩
  refine ⟨undef, .tup [], I, ρ, e, _, _, .inr ⟨?_, rfl⟩, k3, s1, .tup _ _ _ rfl (fun i a u hx => by simp at hx), he, s2⟩
  have := k4 _ rfl;rcases ho with ho | ho <;> simp [execOp, ho, e1, this]
 cases r with
 | none =>
  simp only [copyH_iff] at hs hK;refine turn (es.push { key := a.eval x, val := a.eval y, born := c }) _ _ (by simp [b2]) (fun i kv en hkv hen => ?_) hK (fun mm hmm => ?_)
  rotate_left
  . subst hmm;simp [Instr.mapUpdate, run_underlying' hu, Go.MapKept.run_getObj_map b1, Go.MapKept.run_checkKey hd hkx, Go.MapKept.run_findKey hd hs, Go.MapKept.run_setObj_map _ b1]
  . rcases Nat.lt_or_ge i es.size with hi | hi
    . rw [List.getElem?_append_left (by omega)] at hkv
      rw [Array.getElem?_push_lt hi] at hen;exact b3 i kv en hkv (by rw [Array.getElem?_eq_getElem hi]; exact hen)
    . rw [List.getElem?_append_right (by omega)] at hkv
      have hi0 : i - kvs.length = 0 := by
       have := (liZ.1 hkv).1;simp at this; omega
      have hi1 : i = es.size := by omega
      subst hi1;rw [hi0] at hkv;simp at hkv hen;subst hkv; subst hen;exact ⟨h2, h3⟩
 | some q =>
  obtain ⟨j, v⟩ := q;simp only [copyH_iff] at hs hK;obtain ⟨m', en0, e0, g1, g2, g3, g4⟩ := hs;have hj : j = m' := by omega
  subst hj;have hen0 : es[j]? = some en0 := by simpa using g1
  have hlt : j < es.size := (Array.getElem?_eq_some_iff.1 hen0).1;refine turn (es.modify j fun (en : MapEntry) => { en with key := a.eval x, val := a.eval y }) _ _ (by simp [b2]) (fun i kv en hkv hen => ?_) hK (fun mm hmm => ?_)
  rotate_left
  . subst hmm;have hst : (Instr.keyThatStays (((es[j]?).map (·.key)).getD (a.eval x)) (a.eval x)).run P w = .ok (a.eval x) w := by
     rw [hen0]; simp only [Option.map_some, Option.getD_some, g2];exact run_keyThatStays hkx
    simp [Instr.mapUpdate, run_underlying' hu, Go.MapKept.run_getObj_map b1, Go.MapKept.run_checkKey hd hkx, Go.MapKept.run_findKey hd g4, hst, Go.MapKept.run_setObj_map _ b1]
  . rw [Array.getElem?_modify] at hen;by_cases hij : j = i
    . subst hij;rw [if_pos rfl, hen0] at hen;simp at hen;subst hen;rw [List.getElem?_set_self (by omega)] at hkv
      cases hkv;exact ⟨h2, h3⟩
    . rw [if_neg hij] at hen;rw [List.getElem?_set_ne hij] at hkv;exact b3 i kv en hkv hen
end Go.Proofs.YtcdkklgeepkopaaGreatDoorPg
namespace Go.Proofs.YtcdkklgeepkopaaGreatDoorPg
open Go Go.RowKit
variable [Globs]
theorem frzL_map (id : Nat) (o : O) (l : List V) : frzL id o l = l.map (frzV id o) := by
 induction l with
 | nil => rfl
 | cons v l ih => simp only [frzL, ih, List.map_cons]
variable {I : Imm} {ρ : List Pl} {H : List O} {w : World}
def immAdd (I : Imm) (w : World) (b : Nat) : Imm := fun b' o => if b' = b then w.cell? ⟨b', o, none⟩ else I b' o
def Within (o : O) (x : Nat × Nat) : Prop :=
 match o with
 | .buf es => x.1 + x.2 <= es.length
 | _ => True
def FitV (id : Nat) (o : O) (v : V) : Prop := ∀ x ∈ msV id v, Within o x
theorem msL_mem {id : Nat} {x : Nat × Nat} : ∀ {l : List V} {v : V}, v ∈ l -> x ∈ msV id v -> x ∈ msL id l
 | [], v, h, _ => by simp at h
 | y :: l, v, h, hx => by
  simp only [msL, List.mem_append];rcases List.mem_cons.1 h with rfl | h
  . exact .inl hx
  . exact .inr (msL_mem h hx)
theorem msE_mem {id : Nat} {x : Nat × Nat} : ∀ {e : Env} {t : Nat}, x ∈ msV id (Env.get e t) -> x ∈ msE id e
 | [], t, h => by simp [Env.get, msV] at h
 | (i, v) :: e, t, h => by
  simp only [msE, List.mem_append];simp only [Env.get] at h;cases hb : Nat.beq i t <;> rw [hb] at h
  . exact .inr (msE_mem h)
  . exact .inl h
theorem msKV_mem {id : Nat} {x : Nat × Nat} : ∀ {l : List (V × V)} {kv : V × V}, kv ∈ l -> x ∈ msV id kv.1 \/ x ∈ msV id kv.2 -> x ∈ msKV id l
 | [], kv, h, _ => by simp at h
 | (a, b) :: l, kv, h, hx => by
  simp only [msKV, List.mem_append];rcases List.mem_cons.1 h with rfl | h
  . rcases hx with hx | hx
    . exact .inl hx
    . exact .inr (.inl hx)
  . exact .inr (.inr (msKV_mem h hx))
theorem msH_mem {id : Nat} {x : Nat × Nat} : ∀ {H : List O} {o : O}, o ∈ H -> x ∈ msO id o -> x ∈ msH id H
 | [], o, h, _ => by simp at h
 | y :: H, o, h, hx => by
  simp only [msH, List.mem_append];rcases List.mem_cons.1 h with rfl | h
  . exact .inl hx
  . exact .inr (msH_mem h hx)
theorem msLe_mem {n : Nat} : ∀ {l : List (Nat × Nat)}, msLe n l -> ∀ x ∈ l, x.1 + x.2 <= n
 | [], _, x, hx => by simp at hx
 | (a, b) :: l, h, x, hx => by
  rcases List.mem_cons.1 hx with rfl | hx
  . exact h.1
  . exact msLe_mem h.2 x hx
theorem frzFit_mem {id : Nat} {o : O} {vs : List V} {e : Env} {H : List O} (h : frzFit id o vs e H) {x : Nat × Nat} (hx : x ∈ msL id vs \/ x ∈ msE id e \/ x ∈ msH id H) : Within o x := by
 cases o <;> try trivial
 refine msLe_mem h x ?_;simp only [List.mem_append];exact hx
theorem frzFit_v {id : Nat} {o : O} {vs : List V} {e : Env} {H : List O} (h : frzFit id o vs e H) {v : V} (hv : v ∈ vs) : FitV id o v := fun x hx => frzFit_mem h (.inl (msL_mem hv hx))
theorem frzFit_e {id : Nat} {o : O} {vs : List V} {e : Env} {H : List O} (h : frzFit id o vs e H) (t : Nat) : FitV id o (Env.get e t) := fun x hx => frzFit_mem h (.inr (.inl (msE_mem hx)))
def FitH (id : Nat) (o : O) (H : List O) : Prop := ∀ y ∈ H, ∀ x ∈ msO id y, Within o x
theorem frzFit_h {id : Nat} {o : O} {vs : List V} {e : Env} {H : List O} (h : frzFit id o vs e H) : FitH id o H := fun y hy x hx => frzFit_mem h (.inr (.inr (msH_mem hy hx)))
theorem frz_rel {I' : Imm} (hI : ILe I I') {id : Nat} {p : Pl} {o : O} (hok : frzOk o = true) (hor : ORel I ρ w p o) (hc : o.has p -> ∀ q c, w.cell? ⟨p.b, q, none⟩ = some c -> I' p.b q = some c) {v : V} {u : Value} {ρ0 : List Pl} (h : VRel I ρ0 v u) :
 (ρ0 = ρ -> ρ[id]? = some p -> FitV id o v -> VRel I' ρ (frzV id o v) u) := by
 induction h with
 | any => intros; simp only [frzV]; exact .any _ _
 | bool => intros; simp only [frzV]; exact .bool _ _
 | int => intros; simp only [frzV]; exact .int _ _ _
 | str => intros; simp only [frzV]; exact .str _ _
 | ptr ρ1 i off q h =>
  rintro rfl hp hfit;simp only [frzV];cases hb : Nat.beq i id with
  | false => exact .ptr _ _ _ _ h
  | true =>
   have := Nat.eq_of_beq_eq_true hb;subst this;rw [hp] at h; cases h;cases o with
   | cells cs =>
    obtain ⟨b0, _, _, hcells⟩ := hor;refine .ip _ _ _ _ _ (fun j => (w.cell? ⟨p.b, p.base + j, none⟩).getD undef) (fun j c hj => ?_) (fun j c hj => ?_) (fun j c hj => ?_)
    all_goals
     obtain ⟨x, x1, x2, x3⟩ := hcells j c hj;rw [b0] at *
    . rw [x1]; exact hc trivial _ _ x1
    . rw [x1]; exact x2
    . rw [x1]; exact (pureV_nil (List.all_eq_true.1 hok c (List.mem_of_getElem? hj)) x3).mono hI (PLe.refl _)
   | _ => exact .any _ _
 | ep ρ1 i a b q h =>
  rintro rfl hp hfit;simp only [frzV];cases hb : Nat.beq i id with
  | false => exact .ep _ _ _ _ _ h
  | true =>
   have := Nat.eq_of_beq_eq_true hb;subst this;rw [hp] at h; cases h;cases o with
   | buf es =>
    simp only;cases he : es[a]? with
    | none => exact .any _ _
    | some cs =>
     have hlt := (liZ.1 he).1;rcases hor with ⟨rfl, _⟩ | ⟨g1, g2, g3⟩
     . simp at hlt
     . obtain ⟨_, hcells⟩ := g3 a cs he;have h0 : p.tot ≠ 0 := by omega
       have := VRel.ip (I := I') ρ1 cs b p.b (p.base + a * p.sz) (fun j => (w.cell? ⟨p.b, p.base + a * p.sz + j, none⟩).getD undef) (fun j c hj => ?_) (fun j c hj => ?_) (fun j c hj => ?_)
       . simpa [Nat.add_assoc] using this
       all_goals obtain ⟨x, x1, x2, x3⟩ := hcells j c hj
       . rw [x1]; exact hc h0 _ _ x1
       . rw [x1]; exact x2
       . rw [x1]; exact x3.mono hI (PLe.refl _)
   | _ => exact .any _ _
 | ip ρ1 cs off b base u h1 h1' h2 ih => rintro rfl hp hfit; simp only [frzV]; exact .ip _ _ _ _ _ u (fun i c hc => hI _ _ _ (h1 i c hc)) h1' (fun i c hc => (h2 i c hc).mono hI (PLe.refl _))
 | nilp => intros; simp only [frzV]; exact .nilp _
 | sl ρ1 sz es full b base cap u h1 h2 h3 h4 h4' h5 ih => rintro rfl hp hfit; simp only [frzV]; exact .sl _ _ _ _ _ _ _ u h1 h2 h3 (fun i e j c he hc => hI _ _ _ (h4 i e j c he hc)) h4' (fun i e j c he hc => (h5 i e j c he hc).mono hI (PLe.refl _))
 | slnil => intros; simp only [frzV]; exact .slnil _ _ _ _
 | ms ρ1 i off len cap full q h1 h2 h3 h4 h5 =>
  rintro rfl hp hfit;simp only [frzV];cases hb : Nat.beq i id with
  | false => exact .ms _ _ _ _ _ _ _ h1 h2 h3 h4 h5
  | true =>
   have := Nat.eq_of_beq_eq_true hb;subst this;rw [hp] at h1; cases h1;cases o with
   | buf es =>
    simp only
    . have hle : off + len <= es.length := hfit (off, len) (by simp [msV])
      have hlen : ((es.drop off).take len).length = len := by simp; omega
      rcases hor with ⟨rfl, h0⟩ | ⟨g1, g2, g3⟩
      . have e1 : cap = 0 := by omega
        have e2 : len = 0 := by omega
        subst e1 e2;simp only [List.take_zero];exact .slnil _ _ _ _
      . have get : ∀ (j : Nat) (x : List V), ((es.drop off).take len)[j]? = some x -> es[off + j]? = some x := fun j x hx => by
         have hlt := (liZ.1 hx).1;rw [List.getElem?_take_of_lt (by omega), List.getElem?_drop] at hx
         exact hx
        have := VRel.sl (I := I') ρ1 p.sz ((es.drop off).take len) full p.b (p.base + off * p.sz) cap (fun i j => (w.cell? ⟨p.b, p.base + (off + i) * p.sz + j, none⟩).getD undef) (by omega) (fun hf => by rw [hlen]; exact h4 hf)
         (fun j x hx => (g3 _ x (get j x hx)).1) (fun i x j c hx hj => ?_) (fun i x j c hx hj => ?_) (fun i x j c hx hj => ?_)
        . rw [hlen] at this; exact this
        all_goals
         obtain ⟨_, hcells⟩ := g3 _ x (get i x hx);obtain ⟨y, x1, x2, x3⟩ := hcells j c hj;have h0 : p.tot ≠ 0 := by have := (liZ.1 (get i x hx)).1; omega
        . rw [show p.base + off * p.sz + (i * p.sz + j) = p.base + (off + i) * p.sz + j by rw [Nat.add_mul]; omega, x1]; exact hc h0 _ _ x1
        . rw [x1]; exact x2
        . rw [x1]; exact x3.mono hI (PLe.refl _)
   | _ => exact .any _ _
 | ms0 ρ1 sz i off full a =>
  rintro rfl hp hfit;simp only [frzV];cases hb : Nat.beq i id with
  | false => exact .ms0 _ _ _ _ _ _
  | true =>
   cases o with
   | buf es => simp only [List.take_zero]; exact .slnil _ _ _ _
   | _ => exact .any _ _
 | mr ρ1 i off len cap q h1 h2 h3 =>
  rintro rfl hp hfit;simp only [frzV];cases hb : Nat.beq i id with
  | false => exact .mr _ _ _ _ _ _ h1 h2 h3
  | true => exact .any _ _
 | mr0 ρ1 i off q a h1 h2 =>
  rintro rfl hp hfit;simp only [frzV];cases hb : Nat.beq i id with
  | false => exact .mr0 _ _ _ _ _ h1 h2
  | true => exact .any _ _
 | nils => intros; simp only [frzV]; exact .nils _
 | fn ρ1 f as bs us ws h1 h2 h3 h4 ih1 ih2 =>
  rintro rfl hp hfit;simp only [frzV, frzL_map];refine .fn _ _ _ _ _ _ (by simp [h1]) (by simp [h2]) (fun i a u ha hu => ?_) (fun i a u ha hu => ?_)
  . rw [List.getElem?_map] at ha;cases hx : as[i]? with
    | none => rw [hx] at ha; cases ha
    | some x => rw [hx] at ha; cases ha; exact ih1 i x u hx hu rfl hp fun y hy => hfit y (by simp only [msV, List.mem_append]; exact .inl (msL_mem (List.mem_of_getElem? hx) hy))
  . rw [List.getElem?_map] at ha;cases hx : bs[i]? with
    | none => rw [hx] at ha; cases ha
    | some x => rw [hx] at ha; cases ha; exact ih2 i x u hx hu rfl hp fun y hy => hfit y (by simp only [msV, List.mem_append]; exact .inr (msL_mem (List.mem_of_getElem? hx) hy))
 | nilf => intros; simp only [frzV]; exact .nilf _
 | map ρ1 i q h =>
  rintro rfl hp hfit;simp only [frzV];cases hb : Nat.beq i id with
  | false => exact .map _ _ _ h
  | true => exact .any _ _
 | nilm => intros; simp only [frzV]; exact .nilm _
 | agg ρ1 cs us h1 h1' h2 ih =>
  rintro rfl hp hfit;simp only [frzV, frzL_map];refine .agg _ _ _ (by simp [h1]) h1' (fun i a u ha hu => ?_)
  rw [List.getElem?_map] at ha;cases hx : cs[i]? with
  | none => rw [hx] at ha; cases ha
  | some x => rw [hx] at ha; cases ha; exact ih i x u hx hu rfl hp fun y hy => hfit y (by simp only [msV]; exact msL_mem (List.mem_of_getElem? hx) hy)
 | tup ρ1 cs us h1 h2 ih =>
  rintro rfl hp hfit;simp only [frzV, frzL_map];refine .tup _ _ _ (by simp [h1]) (fun i a u ha hu => ?_)
  rw [List.getElem?_map] at ha;cases hx : cs[i]? with
  | none => rw [hx] at ha; cases ha
  | some x => rw [hx] at ha; cases ha; exact ih i x u hx hu rfl hp fun y hy => hfit y (by simp only [msV]; exact msL_mem (List.mem_of_getElem? hx) hy)
 | iface ρ1 t v u h ih => rintro rfl hp hfit; simp only [frzV]; exact .iface _ _ _ _ (ih rfl hp fun y hy => hfit y (by simpa only [msV] using hy))
 | nili => intros; simp only [frzV]; exact .nili _
 | glob => intros; simp only [frzV]; exact .glob _ _
 | im ρ1 v u h1 h2 ih => rintro rfl hp hfit; simp only [frzV]; exact .im _ _ _ h1 (h2.mono hI (PLe.refl _))
 | yld ρ1 i q h =>
  rintro rfl hp hfit;simp only [frzV];cases hb : Nat.beq i id with
  | false => exact .yld _ _ _ h
  | true => exact .any _ _
 | raw ρ1 u h => rintro rfl hp hfit; simp only [frzV]; exact .raw _ _ h
theorem frzKV_map (id : Nat) (o : O) (l : List (V × V)) : frzKV id o l = l.map fun p => (frzV id o p.1, frzV id o p.2) := by
 induction l with
 | nil => rfl
 | cons v l ih => obtain ⟨a, b⟩ := v; simp only [frzKV, ih, List.map_cons]
theorem frzE_get (id : Nat) (o : O) : ∀ (e : Env) (t : Nat), Env.get (frzE id o e) t = frzV id o (Env.get e t)
 | [], t => by simp [frzE, Env.get, frzV]
 | (i, v) :: e, t => by
  simp only [frzE, Env.get];cases Nat.beq i t
  . exact frzE_get id o e t
  . rfl
theorem frzH_get (id : Nat) (o : O) : ∀ (H : List O) (j i : Nat), (frzH id o j H)[i]? = (H[i]?).map fun x => if j + i = id then .dead else frzO id o x
 | [], j, i => by simp [frzH]
 | x :: H, j, i => by
  cases i with
  | zero =>
   simp only [frzH, List.getElem?_cons_zero, Option.map_some, Nat.add_zero];cases hb : Nat.beq j id with
   | true => rw [if_pos (Nat.eq_of_beq_eq_true hb)]
   | false => rw [if_neg (Nat.ne_of_beq_eq_false hb)]
  | succ i =>
   simp only [frzH, List.getElem?_cons_succ];rw [frzH_get id o H (j + 1) i, show j + 1 + i = j + (i + 1) by omega]
theorem frzH_len (id : Nat) (o : O) : ∀ (H : List O) (j : Nat), (frzH id o j H).length = H.length
 | [], j => rfl
 | x :: H, j => by simp [frzH, frzH_len id o H (j + 1)]
theorem frzO_has (id : Nat) (o : O) (q : Pl) (b : Nat) (x : O) : (frzO id o x).owns q b ↔ x.owns q b := by cases x <;> exact Iff.rfl
theorem frz_st (hst : St I ρ H w) {id : Nat} {p : Pl} {o : O} (hp : ρ[id]? = some p) (ho : H[id]? = some o) (hok : frzOk o = true) (hfit : FitH id o H) (k : Nat) :
 ∃ I', St I' ρ (frzH id o 0 H) w /\ Step k I ρ H w I' ρ (frzH id o 0 H) w /\ ∀ v u, FitV id o v -> VRel I ρ v u -> VRel I' ρ (frzV id o v) u := by
 have hor := hst.obj id p o hp ho;obtain ⟨I', hI, hcell, himm, hsame⟩ : ∃ I' : Imm, ILe I I' /\ (o.has p -> ∀ q c, w.cell? ⟨p.b, q, none⟩ = some c -> I' p.b q = some c) /\ (∀ b q v, I' b q = some v -> w.cell? ⟨b, q, none⟩ = some v /\ (I b q = some v \/ (o.has p /\ b = p.b))) /\ (∀ b, ¬ (o.has p /\ b = p.b) -> I' b = I b) := by
  by_cases hh : o.has p
  . refine ⟨immAdd I w p.b, fun b q v hv => ?_, fun _ q c hc => by simp [immAdd, hc], fun b q v hv => ?_, fun b hb => ?_⟩
    . have hne : b ≠ p.b := fun hb => by
       have := hst.sep p.b ⟨id, p, o, hp, ho, hh.owns⟩ q;rw [hb, this] at hv; cases hv
      simp [immAdd, hne, hv]
    . unfold immAdd at hv;split at hv
      . rename_i hb; subst hb; exact ⟨hv, .inr ⟨hh, rfl⟩⟩
      . exact ⟨hst.imm b q v hv, .inl hv⟩
    . funext q
      have : b ≠ p.b := fun h => hb ⟨hh, h⟩
      simp [immAdd, this]
  . exact ⟨I, ILe.refl _, fun h => absurd h hh, fun b q v hv => ⟨hst.imm b q v hv, .inl hv⟩, fun _ _ => rfl⟩
 have hval : ∀ v u, FitV id o v -> VRel I ρ v u -> VRel I' ρ (frzV id o v) u := fun v u hf h => frz_rel hI hok hor hcell h rfl hp hf
 have hget : ∀ i x, (frzH id o 0 H)[i]? = some x -> x = .dead \/ ∃ y, H[i]? = some y /\ x = frzO id o y /\ i ≠ id := fun i x hx => by
  rw [frzH_get] at hx;cases hy : H[i]? with
  | none => rw [hy] at hx; cases hx
  | some y =>
   rw [hy] at hx;simp only [Option.map_some, Nat.zero_add, Option.some.injEq] at hx;split at hx
   . exact .inl hx.symm
   . rename_i hne; exact .inr ⟨y, rfl, hx.symm, hne⟩
 have hown : ∀ b, Owned ρ (frzH id o 0 H) b -> Owned ρ H b /\ ¬ (o.has p /\ b = p.b) := by
  rintro b ⟨i, q, x, hq, hx, hh⟩;rcases hget i x hx with rfl | ⟨y, hy, rfl, hne⟩
  . exact hh.1.elim
  . have hh' := (frzO_has id o q b y).1 hh;exact ⟨⟨i, q, y, hq, hy, hh'⟩, fun ⟨h1, h2⟩ => hne (hst.inj i id q p y o b hq hy hh' hp ho (by rw [h2]; exact h1.owns))⟩
 refine ⟨I', ⟨by rw [frzH_len]; exact hst.len, fun i q x hq hx => ?_, fun i j q r x y b0 hq hx hh hr hy hh' => ?_, ⟨fun b q v hv => (himm b q v hv).1, Globs.mono hI hst.imm.glob⟩, fun b hb q => ?_⟩, ⟨hI, fun _ _ => rfl, rfl, rfl, rfl, Nat.le_refl _, fun _ _ _ => rfl, fun b hb => .inl (hown b hb).1, fun b q v hv => ?_⟩, hval⟩
 . rcases hget i x hx with rfl | ⟨y, hy, rfl, hne⟩
   . trivial
   . have h1 := hst.obj i q y hq hy;cases y with
     | cells cs =>
      obtain ⟨g1, ⟨c, t, fr, g2, g3⟩, g4, g5⟩ := h1;have hl : (frzL id o cs).length = cs.length := by rw [frzL_map]; simp
      refine ⟨g1, ⟨c, t, fr, g2, by rw [hl]; exact g3⟩, by rw [hl]; exact g4, fun j v hv => ?_⟩
      rw [frzL_map, List.getElem?_map] at hv;cases hx : cs[j]? with
      | none => rw [hx] at hv; cases hv
      | some z =>
       rw [hx] at hv; cases hv;obtain ⟨u, u1, u2, u3⟩ := g5 j z hx;exact ⟨u, u1, u2, hval z u (fun x hx' => hfit _ (List.mem_of_getElem? hy) x (by simp only [msO]; exact msL_mem (List.mem_of_getElem? hx) hx')) u3⟩
     | buf es => exact h1.keep (fun _ _ => rfl) hI (PLe.refl _)
     | bufc es => exact h1.keep (fun _ _ => rfl) hI (PLe.refl _)
     | iter s pos => exact h1.keep (fun _ _ => rfl) hI (PLe.refl _)
     | map kvs clock =>
      obtain ⟨es, g1, g2, g3⟩ := h1;refine ⟨es, g1, by rw [frzKV_map]; simp [g2], fun j kv e hkv he => ?_⟩
      rw [frzKV_map, List.getElem?_map] at hkv;cases hx : kvs[j]? with
      | none => rw [hx] at hkv; cases hkv
      | some z =>
       rw [hx] at hkv; cases hkv;have := g3 j z e hx he;exact ⟨hval _ _ (fun x hx' => hfit _ (List.mem_of_getElem? hy) x (by simp only [msO]; exact msKV_mem (List.mem_of_getElem? hx) (.inl hx'))) this.1, hval _ _ (fun x hx' => hfit _ (List.mem_of_getElem? hy) x (by simp only [msO]; exact msKV_mem (List.mem_of_getElem? hx) (.inr hx'))) this.2⟩
     | loop c st e =>
      obtain ⟨r, g1, g2, g3, g4, g5, g6, g7, g8⟩ := h1;exact ⟨r, g1, g2, g3, g4, g5, g6, g7, fun t => by rw [frzE_get]; exact hval _ _ (fun x hx' => hfit _ (List.mem_of_getElem? hy) x (by simp only [msO]; exact msE_mem hx')) (g8 t)⟩
     | res R B => exact h1.keep (fun _ _ => rfl) hI (PLe.refl _)
     | dead => trivial
 . rcases hget i x hx with rfl | ⟨x', hx', rfl, _⟩
   . exact hh.1.elim
   rcases hget j y hy with rfl | ⟨y', hy', rfl, _⟩
   . exact hh'.1.elim
   exact hst.inj i j q r x' y' b0 hq hx' ((frzO_has id o q b0 x').1 hh) hr hy' ((frzO_has id o r b0 y').1 hh')
 . obtain ⟨h1, h2⟩ := hown b hb;rw [hsame b h2];exact hst.sep b h1 q
 . rcases (himm b q v hv).2 with h1 | ⟨h1, rfl⟩
   . exact .inl h1
   . exact .inr (.inl ⟨id, p, o, hp, ho, h1.owns⟩)
end Go.Proofs.YtcdkklgeepkopaaGreatDoorPg
namespace Go.Proofs.YtcdkklgeepkopaaGreatDoorPg
open Go Go.RowKit
variable [Globs]
variable {I : Imm} {ρ : List Pl} {H : List O} {w : World}
theorem adopt_st (h : St I ρ H w) : St I (ρ ++ [⟨0, 0, 0, 0⟩]) (H ++ [.buf []]) w /\ ∀ b, Owned (ρ ++ [⟨0, 0, 0, 0⟩]) (H ++ [.buf []]) b -> Owned ρ H b := by
 have get : ∀ (i : Nat) (p : Pl) (o : O), (ρ ++ [⟨0, 0, 0, 0⟩])[i]? = some p -> (H ++ [O.buf []])[i]? = some o -> (ρ[i]? = some p /\ H[i]? = some o) \/ (i = ρ.length /\ p = ⟨0, 0, 0, 0⟩ /\ o = .buf []) := by
  intro i p o hp ho;rcases Nat.lt_or_ge i ρ.length with hi | hi
  . rw [List.getElem?_append_left hi] at hp;rw [List.getElem?_append_left (by rw [<- h.len]; exact hi)] at ho
    exact .inl ⟨hp, ho⟩
  . have hlt := (liZ.1 hp).1;simp at hlt;have e : i = ρ.length := by omega
    subst e;rw [List.getElem?_append_right (Nat.le_refl _), Nat.sub_self] at hp;rw [List.getElem?_append_right (by rw [<- h.len]; exact Nat.le_refl _), <- h.len, Nat.sub_self] at ho
    exact .inr ⟨rfl, by simpa using hp.symm, by simpa using ho.symm⟩
 have hno : ∀ b, ¬ (O.buf []).owns ⟨0, 0, 0, 0⟩ b := fun b hw => hw.1 rfl
 have hown : ∀ b, Owned (ρ ++ [⟨0, 0, 0, 0⟩]) (H ++ [.buf []]) b -> Owned ρ H b := by
  rintro b ⟨i, p, o, hp, ho, hw⟩;rcases get i p o hp ho with ⟨g1, g2⟩ | ⟨_, rfl, rfl⟩
  . exact ⟨i, p, o, g1, g2, hw⟩
  . exact absurd hw (hno b)
 refine ⟨⟨by simp [h.len], fun i p o hp ho => ?_, fun i j p q o r b hp ho hw hq hr hw' => ?_, h.imm, fun b hb => h.sep b (hown b hb)⟩, hown⟩
 . rcases get i p o hp ho with ⟨g1, g2⟩ | ⟨_, rfl, rfl⟩
   . exact (h.obj i p o g1 g2).keep (fun _ _ => rfl) (ILe.refl _) (PLe.append _ _)
   . exact .inl ⟨rfl, rfl⟩
 . rcases get i p o hp ho with ⟨g1, g2⟩ | ⟨_, rfl, rfl⟩
   . rcases get j q r hq hr with ⟨g3, g4⟩ | ⟨_, rfl, rfl⟩
     . exact h.inj i j p q o r b g1 g2 hw g3 g4 hw'
     . exact absurd hw' (hno b)
   . exact absurd hw (hno b)
theorem adopt_step {k : Nat} (h : St I ρ H w) (hk : k <= ρ.length) : Step k I ρ H w I (ρ ++ [⟨0, 0, 0, 0⟩]) (H ++ [.buf []]) w :=
 ⟨ILe.refl _, fun i hi => by rw [List.getElem?_append_left (by omega)], rfl, rfl, rfl, Nat.le_refl _, fun _ _ _ => rfl, fun b hb => .inl ((adopt_st h).2 b hb), fun _ _ _ h => .inl h⟩
end Go.Proofs.YtcdkklgeepkopaaGreatDoorPg
namespace Go.Proofs.YtcdkklgeepkopaaGreatDoorPg
open Go Go.RowKit
variable [Globs]
variable {P : Program} {T : Nat -> TI} {I : Imm} {ρ : List Pl} {H : List O} {w : World} {e : Env}
structure CtxOk (X : Ctx) : Prop where
 T : TIok X.P X.T
 fns : ∀ f ∈ X.fns, ∀ args w, (callFunc f args).run X.P w = .ok (.enter f args) w
 mixed : X.P.follows .mixedOrders = true
theorem callsIn_of {F : Fence} (hF : Wide F) {n : Nat} {f : FuncId} {args : Array Value} {w : World} {R : Ending -> World -> Prop} (h : Calls P f args w R) : CallsIn F n P f args w R := by
 have := (callsIn_wide (n := n)).2 h;rcases hF with rfl | ⟨l, rfl⟩
 . exact this
 . exact CallsIn.inRound l this
def CallsC (P : Program) (f : Option FuncId) (us : List Value) (w : World) (R : Ending -> World -> Prop) : Prop :=
 match f with
 | some f => Calls P f us.toArray w R
 | none => ∃ l us', us = .func (.yield l) #[] #[] :: us' /\ YieldAt Fence.wide 0 P l us'.toArray w R
theorem CallsC.mono {P : Program} {f : Option FuncId} {us : List Value} {w : World} {R R' : Ending -> World -> Prop} (h : CallsC P f us w R) (hr : ∀ e w', R e w' -> R' e w') : CallsC P f us w R' := by
 cases f with
 | some f => exact Calls.mono h hr
 | none =>
  obtain ⟨l, us', h1, fn, tmps, asg, body, h2, h3⟩ := h;exact ⟨l, us', h1, fn, tmps, asg, body, h2, h3.mono hr⟩
theorem acal_out {P : Program} {f : Option FuncId} {k : Nat} {args : List V} {H : List O} {Q : V -> List O -> Prop} (h : ACal P f k args H Q) (I : Imm) (ρ : List Pl) (w : World) (us : List Value) (hst : St I ρ H w) (hk : k <= H.length) (ha : VRels I ρ args us) :
 CallsC P f us w fun en w' => ∃ v r I' ρ' H', en = .returned v /\ St I' ρ' H' w' /\ VRel I' ρ' r v /\ Step k I ρ H w I' ρ' H' w' /\ Q r H' := by
 cases f with
 | some f => exact h.out I ρ w us.toArray hst hk (by simpa using ha)
 | none => exact h.out I ρ w us hst hk ha
mutual
theorem renV_some : ∀ v, renV some v = v
 | .ptr _ _ => rfl
 | .ep _ _ _ => rfl
 | .ms _ _ _ _ _ => rfl
 | .mr _ _ _ _ => rfl
 | .map _ => rfl
 | .yld _ => rfl
 | .fn g a b => by simp [renV, renL_some a, renL_some b]
 | .agg a => by simp [renV, renL_some a]
 | .tup a => by simp [renV, renL_some a]
 | .iface t v => by simp [renV, renV_some v]
 | .bool _ | .int _ _ | .str _ | .ip _ _ | .nilp | .sl _ _ _ | .nils | .nilf | .nilm | .nili | .glob _ | .im _ | .raw _ | .any => rfl
theorem renL_some : ∀ l, renL some l = l
 | [] => rfl
 | v :: l => by simp [renL, renV_some v, renL_some l]
end
theorem renKV_some : ∀ l, renKV some l = l
 | [] => rfl
 | (a, b) :: l => by simp [renKV, renV_some, renKV_some l]
theorem renE_some : ∀ l, renE some l = l
 | [] => rfl
 | (a, b) :: l => by simp [renE, renV_some, renE_some l]
theorem renO_some (o : O) : renO some o = o := by
 cases o <;> simp [renO, renL_some, renKV_some, renE_some]
theorem mergeO_none (n : Nat) : ∀ (i : Nat) (H : List O), mergeO [] n some [] i H = H
 | _, [] => rfl
 | i, o :: H => by
  have := mergeO_none n (i + 1) H;simp only [mergeO, idx, renO_some];rw [this]
theorem acalls_sound {X : Ctx} {f : Option FuncId} {K : V -> Env -> List O -> Prop} {args : List V} {e : Env} {H : List O} (h : ACalls X f K args e H) :
 ∀ (I : Imm) (ρ : List Pl) (w : World) (us : List Value) (a : Act), St I ρ H w -> ERel I ρ e a.tmps -> VRels I ρ args us -> X.k <= ρ.length -> CallsC X.P f us w fun en w' =>
  ∃ v r I' ρ' e' H', en = .returned v /\ K r e' H' /\ St I' ρ' H' w' /\ VRel I' ρ' r v /\ ERel I' ρ' e' a.tmps /\ Step X.k I ρ H w I' ρ' H' w' := by
 induction h with
 | call is k' hok h =>
  obtain ⟨hok, hge, _⟩ := hok;simp only [isOk, Bool.and_eq_true] at hok;obtain ⟨⟨hl, hn⟩, hkl⟩ := hok;have hk' : k' <= is.length := nbZ hkl;intro I ρ w us a hst he hargs hk;obtain ⟨hsub, hfit, _⟩ := handover hst hl hn;refine (acal_out h I (subP is ρ) w us hsub (by simp [gather_map]; exact hk') (hargs.ren hfit)).mono ?_
  rintro en w' ⟨v, r, I', ρ', H', rfl, s1, s2, s3, s4⟩;obtain ⟨t1, t2, t3, t4, t5⟩ := takeback hst hl hn hk' hge hk s1 s3;exact ⟨v, _, I', _, _, _, rfl, s4, t1, s2.ren t2, fun t => fogE_get is k' _ t t3 s3.ile (he t) t4, t5⟩
 | pure h =>
  intro I ρ w us a hst he hargs hk;obtain ⟨hsub, hfit, _⟩ := handover hst (is := []) rfl rfl;refine (acal_out h I (subP [] ρ) w us hsub (Nat.zero_le _) (hargs.ren hfit)).mono ?_;rintro en w' ⟨v, r, I', ρ', H', rfl, s1, s2, s3, rfl, s4⟩;have hρ : ρ' = [] := List.eq_nil_of_length_eq_zero s1.len;subst hρ;obtain ⟨t1, t2, t3, t4, t5⟩ := takeback hst (is := []) rfl rfl (Nat.zero_le _) rfl hk s1 s3;have hf : fogOf [] 0 = some := rfl;rw [hf, mergeO_none] at t1 t5;have hm : PLe ρ (mergeP [] ρ []) := t4 rfl;exact ⟨v, r, I', _, _, _, rfl, s4, t1, s2.mono (ILe.refl _) (PLe.nil _), he.mono s3.ile hm, t5⟩
 | frz id hs hok hfit h ih =>
  intro I ρ w us a hst he hargs hk;rename_i as0 e0 H;have hne : getO H id ≠ .dead := fun e => by rw [e] at hok; cases hok
  have ho := getO_some (H := H) (id := id) rfl hne;have hlt : id < ρ.length := by rw [hst.len]; exact (liZ.1 ho).1
  obtain ⟨I2, g1, g2, g3⟩ := frz_st hst (lgZ hlt) ho hok (frzFit_h hfit) X.k;refine (ih I2 ρ w us a g1 (fun t => by rw [frzE_get]; exact g3 _ _ (frzFit_e hfit t) (he t)) ⟨by rw [frzL_map]; simpa using hargs.1, fun i v u hv hu => ?_⟩ hk).mono ?_
  . rw [frzL_map, List.getElem?_map] at hv;cases hx : as0[i]? with
    | none => rw [hx] at hv; cases hv
    | some z => rw [hx] at hv; cases hv; exact g3 _ _ (frzFit_v hfit (List.mem_of_getElem? hx)) (hargs.2 i z u hx hu)
  . rintro en w' ⟨v, r, I', ρ', e', H', h1, h2, h3, h4, h5, h6⟩;exact ⟨v, r, I', ρ', e', H', h1, h2, h3, h4, h5, g2.trans h6⟩
 | sub args' H2 hs hv hH h ih =>
  intro I ρ w us a hst he hargs hk;refine (ih I ρ w us a (hH.st hst) he ⟨by rw [<- hv.1]; exact hargs.1, fun i b u hb hu => ?_⟩ hk).mono ?_
  . obtain ⟨c, hc, hsub⟩ := hv.get hb;exact hsub I ρ u (hargs.2 i c u hc hu)
  . rintro en w' ⟨v, r, I', ρ', e', H', h1, h2, h3, h4, h5, h6⟩;exact ⟨v, r, I', ρ', e', H', h1, h2, h3, h4, h5, (hH.step X.k).trans h6⟩
 | adopt hs h ih =>
  intro I ρ w us a hst he hargs hk;refine (ih I _ w us a (adopt_st hst).1 (fun t => (he t).mono (ILe.refl _) (PLe.append _ _)) (hargs.mono (ILe.refl _) (PLe.append _ _)) (by simp; omega)).mono ?_
  rintro en w' ⟨v, r, I', ρ', e', H', h1, h2, h3, h4, h5, h6⟩;exact ⟨v, r, I', ρ', e', H', h1, h2, h3, h4, h5, (adopt_step hst hk).trans h6⟩
theorem e_call {X : Ctx} (hX : CtxOk X) {o : Oper} {c : Call} (ho : o.op = .call c) {g : Operand} (hc : c.callee = .value g) {f : FuncId} {as bs : List V} (hg : aeval e g = .fn (.func f) as bs) (hf : memN f X.fns = true) {K : V -> Env -> List O -> Prop}
 (h : acall X (some f) (as ++ (c.args.toList.map (aeval e) ++ bs)) e H K) : ESem X.P X.k o e H K := by
 intro I ρ w a hst he hk F n hF next Q hnext;have hrg := aeval_rel he g;rw [hg] at hrg;obtain ⟨us, ws, eg, hus, hws⟩ := vr_fn hrg;have hargs : VRels I ρ (as ++ (c.args.toList.map (aeval e) ++ bs)) (us ++ c.args.map a.eval ++ ws).toList := by
  have := hus.append ((rels_map (aeval_rel he) c.args.toList).append hws);simpa [List.append_assoc] using this
 have hcall : Calls X.P f (us ++ c.args.map a.eval ++ ws).toList.toArray w _ := acalls_sound h I ρ w (us ++ c.args.map a.eval ++ ws).toList a hst he hargs hk;rw [Array.toArray_toList] at hcall;have hrun : (execOp a.eval o).run X.P w = .ok (.enter f (us ++ c.args.map a.eval ++ ws)) w := by
  have h1 := hX.fns f (memN_mem hf) (us ++ c.args.map a.eval ++ ws) w;obtain ⟨callee, args, argTypes⟩ := c;simp only at hc;subst hc;simp [execOp, ho, resolve, eg, Deferred.ofValue, invoke];simpa using h1
 refine ⟨fun f _ => hF.fn f, ?_⟩
 rw [semAt_of _ _ _ (by simp [ho]), hrun, Oper.uponIn_enter]
 refine ⟨fun hd => by rw [hF.depth] at hd; simp at hd, callsIn_of hF (hcall.mono ?_)⟩
 rintro en w' ⟨v, r, I', ρ', e', H', rfl, h1, h2, h3, h4, h5⟩;exact hnext v _ I' _ _ _ w' h1 h2 h3 h4 h5
theorem vr_yld {id : Nat} {u : Value} (h : VRel I ρ (.yld id) u) : ∃ p, ρ[id]? = some p /\ u = .func (.yield p.b) #[] #[] := by cases h; exact ⟨_, ‹_›, rfl⟩
theorem roundIn_of {F : Fence} (hF : Wide F) {n : Nat} {l : Nat} {f : FuncId} {tmps : Array Value} {asg body : Code} {w : World} {R : Ending -> World -> Prop} (h : RoundIn Fence.wide 0 P l f tmps asg body w R) : RoundIn F n P l f tmps asg body w R := by
 obtain ⟨_, h⟩ := h;rcases hF with rfl | ⟨l', rfl⟩
 . exact ⟨trivial, fun c cs _ => h c cs (room_wide _)⟩
 . exact ⟨trivial, fun c cs _ => h c cs (room_wide _)⟩
theorem e_yield {X : Ctx} {o : Oper} {c : Call} (ho : o.op = .call c) {g : Operand} (hc : c.callee = .value g) {id : Nat} (hg : aeval e g = .yld id) {K : V -> Env -> List O -> Prop}
 (h : acall X none (.yld id :: c.args.toList.map (aeval e)) e H K) : ESem X.P X.k o e H K := by
 intro I ρ w a hst he hk F n hF next Q hnext;have hrg := aeval_rel he g;rw [hg] at hrg;obtain ⟨p, hp, eg⟩ := vr_yld hrg;have hargs : VRels I ρ (.yld id :: c.args.toList.map (aeval e)) (.func (.yield p.b) #[] #[] :: c.args.toList.map a.eval) := VRels.cons (.yld _ _ _ hp) (rels_map (aeval_rel he) c.args.toList);obtain ⟨l, us', e1, fn, tmps, asg, body, hrun, hround⟩ := acalls_sound h I ρ w _ a hst he hargs hk;simp only [List.cons.injEq, Value.func.injEq, Fn.yield.injEq, and_true] at e1;obtain ⟨rfl, rfl⟩ := e1;have hrun : (execOp a.eval o).run X.P w = .ok (.round p.b fn tmps asg body) w := by
  obtain ⟨callee, args, argTypes⟩ := c;simp only at hc;subst hc;have hl : (List.map a.eval args.toList).toArray = args.map a.eval := by apply Array.ext'; simp
  rw [hl] at hrun;simp [execOp, ho, resolve, eg, Deferred.ofValue, invoke];simpa using hrun
 refine ⟨fun f _ => hF.fn f, ?_⟩
 rw [semAt_of _ _ _ (by simp [ho]), hrun, Oper.uponIn_round]
 refine ⟨fun hd => by rw [hF.depth] at hd; simp at hd, roundIn_of hF (hround.mono ?_)⟩
 rintro en w' ⟨v, r, I', ρ', e', H', rfl, h1, h2, h3, h4, h5⟩;exact hnext v _ I' _ _ _ w' h1 h2 h3 h4 h5
def OpSem (X : Ctx) (o : Oper) (e : Env) (H : List O) (K : Env -> List O -> Prop) : Prop :=
 ∀ (I : Imm) (ρ : List Pl) (w : World) (a : Act), St I ρ H w -> ERel I ρ e a.tmps -> X.k <= ρ.length -> a.tmps.size = X.n -> ∀ (F : Fence) (n : Nat), Wide F -> ∀ (next : Act -> World -> Prop) (Q : Exit -> Act -> World -> Prop),
  (∀ I' ρ' e' H' w' (a' : Act), K e' H' -> St I' ρ' H' w' -> ERel I' ρ' e' a'.tmps -> a'.tmps.size = X.n -> a'.defers = a.defers -> Step X.k I ρ H w I' ρ' H' w' -> next a' w') -> o.wpIn F n X.P a w next Q
theorem put_rel {I : Imm} {ρ : List Pl} {n : Nat} {dst : Option Nat} {v : V} {e : Env} {K : Env -> Prop} (h : putE n dst v e K) {a : Act} (he : ERel I ρ e a.tmps) (hs : a.tmps.size = n) {u : Value} (hv : VRel I ρ v u) :
 ∃ e', K e' /\ ERel I ρ e' (a.put dst u).tmps /\ (a.put dst u).tmps.size = n /\ (a.put dst u).defers = a.defers := by
 unfold putE at h;cases dst with
 | none => exact ⟨e, h, he, hs, rfl⟩
 | some d =>
  simp only at h;cases hb : Nat.blt d n with
  | false => simp only [hb] at h
  | true =>
   simp only [hb] at h;have hd : d < n := nbZ hb;refine ⟨_, h, fun t => ?_, by simp [Act.put, hs], rfl⟩
   simp only [Env.get, Act.put];cases ht : Nat.beq d t with
   | true =>
    have := Nat.eq_of_beq_eq_true ht;subst this;simp only;rw [show (a.tmps.setIfInBounds d u).getD d undef = u by simp [hs, hd]]
    exact hv
   | false =>
    have hne := Nat.ne_of_beq_eq_false ht;simp only;rw [show (a.tmps.setIfInBounds d u).getD t undef = a.tmps.getD t undef by simp [Array.getElem?_setIfInBounds_ne hne]]
    exact he t
theorem opSem_of_esem {X : Ctx} {o : Oper} {K : Env -> List O -> Prop} (h : ESem X.P X.k o e H fun v e' H' => putE X.n o.dst v e' fun e'' => K e'' H') : OpSem X o e H K := by
 intro I ρ w a hst he hk hs F n hF next Q hnext;refine h I ρ w a hst he hk F n hF next Q fun u v I' ρ' e' H' w' hK h1 h2 h3 h4 => ?_
 obtain ⟨e'', g1, g2, g3, g4⟩ := put_rel hK h3 hs h2;exact hnext I' ρ' e'' H' w' _ g1 h1 g2 g3 g4 h4
theorem opSem_ok {X : Ctx} {o : Oper} (hd : ∀ c, o.op ≠ .defer c) {K : Env -> List O -> Prop} {v : V} (hK : putE X.n o.dst v e fun e' => K e' H) (hv : QOk X.P o e H v) : OpSem X o e H K := by
 intro I ρ w a hst he hk hs F n hF next Q hnext;obtain ⟨u, hrun, hr⟩ := hv I ρ w a hst he;obtain ⟨e', g1, g2, g3, g4⟩ := put_rel hK he hs hr;refine ⟨fun f _ => hF.fn f, ?_⟩
 rw [semAt_of _ _ _ hd, hrun];exact hnext I ρ e' H w _ g1 hst g2 g3 g4 (Step.refl _ _ _ _ _)
theorem opSem_quiet {X : Ctx} (hX : CtxOk X) {o : Oper} (hd : ∀ c, o.op ≠ .defer c) {K : Env -> List O -> Prop} (h : aq X.T o.op e H fun v => putE X.n o.dst v e fun e' => K e' H) : OpSem X o e H K := by
 obtain ⟨v, hK, hv⟩ := aq_sound hX.T o h;intro I ρ w a hst he hk hs F n hF next Q hnext;obtain ⟨u, hrun, hr⟩ := hv I ρ w a hst he;obtain ⟨e', g1, g2, g3, g4⟩ := put_rel hK he hs hr;refine ⟨fun f _ => hF.fn f, ?_⟩
 rw [semAt_of _ _ _ hd, hrun];exact hnext I ρ e' H w _ g1 hst g2 g3 g4 (Step.refl _ _ _ _ _)
theorem abs0_sound {X : Ctx} (hX : CtxOk X) {o : Oper} {t : TypeId} {len : Nat} {parts : Array (Nat × Operand)} (ho : o.op = .buildSlice t len parts) {K : V -> Env -> List O -> Prop} {e : Env} {H : List O} (h : abs0 X.T t len parts.toList e H K) : ESem X.P X.k o e H K := by
 unfold abs0 at h;cases hk : (X.T t).kind <;> simp only [hk] at h
 rename_i q;cases hq : okElem (X.T q) <;> simp only [hq] at h
 cases hb : Nat.ble (len * (X.T q).size) 16777216 <;> simp only [hb, copyH_iff] at h
 exact e_buildSlice hX.T ho hk hq (nbZ hb) h
theorem esem_frz {k : Nat} {o : Oper} {K : V -> Env -> List O -> Prop} {e : Env} {H : List O} (id : Nat) (hok : frzOk (getO H id) = true) (hfit : frzFit id (getO H id) [] e H) (h : ESem P k o (frzE id (getO H id) e) (frzH id (getO H id) 0 H) K) : ESem P k o e H K := by
 intro I ρ w a hst he hk F n hF next Q hn;have hne : getO H id ≠ .dead := fun e => by rw [e] at hok; cases hok
 have ho := getO_some (H := H) (id := id) rfl hne;have hlt : id < ρ.length := by rw [hst.len]; exact (liZ.1 ho).1
 obtain ⟨I2, g1, g2, g3⟩ := frz_st hst (lgZ hlt) ho hok (frzFit_h hfit) k;exact h I2 ρ w a g1 (fun t => by rw [frzE_get]; exact g3 _ _ (frzFit_e hfit t) (he t)) hk F n hF next Q fun u v I' ρ' e' H' w' hK hst' hv he' hs => hn u v I' ρ' e' H' w' hK hst' hv he' (g2.trans hs)
theorem absF_sound {X : Ctx} (hX : CtxOk X) {o : Oper} {t : TypeId} {len : Nat} {parts : Array (Nat × Operand)} (ho : o.op = .buildSlice t len parts) {K : V -> Env -> List O -> Prop} : ∀ (n : Nat) {e : Env} {H : List O}, absF X.T t len parts.toList K n e H -> ESem X.P X.k o e H K
 | 0, e, H, h => abs0_sound hX ho h
 | n + 1, e, H, h => by
  unfold absF at h;split at h
  . exact abs0_sound hX ho h
  . rename_i id _;exact esem_frz id h.1.1 h.1.2 (absF_sound hX ho n h.2)
theorem ae_sound {X : Ctx} (hX : CtxOk X) {o : Oper} {K : V -> Env -> List O -> Prop} (h : ae X o.op e H K) : ESem X.P X.k o e H K := by
 unfold ae at h;split at h
 . rename_i t ho;cases hg : (X.T t).good <;> simp only [hg, copyL_iff, copyH_iff] at h
   exact e_alloc hX.T ho hg h
 . rename_i t x ho;cases hc : cellsOf (aeval e x) <;> simp only [hc, copyL_iff, copyH_iff] at h
   exact e_box ho hc h
 . rename_i t len parts ho;split at h
   . exact abs0_sound hX ho h
   . exact absF_sound hX ho _ h
 . rename_i t x y ho;split at h <;> try exact h.elim
   rename_i cs hc hg;cases hb : Nat.beq cs.length (X.T t).size <;> simp only [hb] at h
   have hsz := Nat.eq_of_beq_eq_true hb;cases hx : aeval e x <;> simp only [hx] at h
   . rename_i id off;cases ho' : getO H id <;> simp only [ho'] at h
     rename_i old;cases hle : Nat.ble (off + cs.length) old.length <;> simp only [hle, copyL_iff, copyH_iff, setO_eq] at h
     exact e_store_ptr hX.T ho hg hc hsz hx ho' (nbZ hle) h
   . rename_i id i j;split at h <;> try exact h.elim
     rename_i es ho' hp;obtain ⟨old, hes, h⟩ := h;cases hle : Nat.ble (j + cs.length) old.length <;> simp only [hle, copyL_iff, copyH_iff, setO_eq] at h
     exact e_store_ep hX.T ho hg hc hsz hx ho' hp hes (nbZ hle) h
 . rename_i t x ho;split at h <;> try exact h.elim
   rename_i s hk hx;simp only [copyH_iff] at h;exact e_range hX.T ho hk hx h
 . rename_i x ho;split at h <;> try exact h.elim
   rename_i id hx;split at h <;> try exact h.elim
   rename_i s pos hob;simp only [copyH_iff, setO_eq] at h;exact e_next ho hx hob h.1 h.2
 . rename_i c ho;split at h
   . rename_i g hc;split at h <;> try exact h.elim
     . rename_i f as bs hg;cases hm : memN f X.fns <;> simp only [hm] at h
       . obtain ⟨r, hr, h⟩ := h;exact e_ext ho hc hg hr h
       . exact e_call hX ho hc hg hm h
     . rename_i id hg;exact e_yield ho hc hg h
   . rename_i hc;split at h <;> try exact h.elim
     rename_i s x t t2 ha hat;cases hk : (X.T t).kind <;> simp only [hk] at h
     rename_i q;split at h <;> try exact h.elim
     . rename_i hq ht2;exact e_append hX.T ho hc ha hat hk hq ht2 h
     . rename_i hq ht2;split at h <;> try exact h.elim
       rename_i k2 k1 n hk2 hx;exact e_append0 hX.T ho hc ha hat hk hq hk2 hx h
   . rename_i hc;split at h <;> try exact h.elim
     rename_i s t ha hat;exact e_cap hX.T ho hc ha hat h
   . rename_i hc;split at h <;> try exact h.elim
     rename_i d x t t2 ha hat;exact e_copy hX.T ho hc ha hat h
   . rename_i hc;split at h <;> try exact h.elim
     rename_i s t ha hat;cases hk : (X.T t).kind <;> simp only [hk] at h
     rename_i q;cases hq : okElem (X.T q) <;> simp only [hq] at h
     split at h <;> try exact h.elim
     rename_i z id off len full hs;split at h <;> try exact h.elim
     rename_i es hz hg;obtain ⟨⟨hpos, hin⟩, h⟩ := h;rw [copyH_iff, setO_eq] at h;have e0 := Nat.eq_of_beq_eq_true hz;subst e0;exact e_clear hX.T ho hc ha hat hk hq hs hg hpos hin h
   . exact h.elim
 . rename_i t ho;exact e_makeMap hX.T ho h
 . rename_i t m k x ho;exact e_mapUpdate hX.T (.inl ho) h
 . rename_i t m k x ho;exact e_mapUpdate hX.T (.inr ho) h
 . rename_i t m k ok ho;exact e_lookup hX.T ho h
 . rename_i t l c ho;exact e_makeSlice hX.T ho h
 . exact h.elim
theorem isNilS_eq {y : Operand} (h : isNilS y = true) (a : Act) : a.eval y = .slice none 0 0 := by
 unfold isNilS at h;split at h
 . rfl
 . cases h
theorem nilEmp_sound {X : Ctx} (hX : CtxOk X) {o : Oper} {op : BinOp} (hn : nilEmp X.T o.op e = some op) {K : V -> Prop} (h1 : aeqn op true K) (h2 : aeqn op false K) : ESem X.P X.k o e H fun v e' H' => K v /\ e' = e /\ H' = H := by
 unfold nilEmp at hn;split at hn <;> try (cases hn; done)
 rename_i op' t x y yt ho;split at hn <;> try (cases hn; done)
 rename_i hy;split at hn <;> try (cases hn; done)
 rename_i z f hx;split at hn <;> try (cases hn; done)
 rename_i q hk;cases hn;refine esem_value (fun c hc => by rw [hc] at ho; cases ho) fun I ρ w a hst he hkl => ?_
 have hr := aevo_rel he x;rw [hx] at hr;obtain ⟨p, l, c, hu⟩ : ∃ p l c, a.eval x = .slice p l c := by
  revert hr;generalize a.eval x = u;intro hr;cases hr with
  | sl => exact ⟨_, _, _, rfl⟩
  | slnil => exact ⟨_, _, _, rfl⟩
 have hyv := isNilS_eq hy a;have heq := equal_sl (ty_sl hX.T hk) p l c w;have hb : ∀ b : Bool, p.isNone = b -> ((binOp .eql t (.slice p l c) (.slice none 0 0)).run X.P w = .ok (.bool b) w /\ (binOp .neq t (.slice p l c) (.slice none 0 0)).run X.P w = .ok (.bool (!b)) w) := by
  intro b hb;subst hb;constructor <;> (unfold binOp; split <;> first | contradiction | (simp [heq]))
 have hK : aeqn op p.isNone K := by cases p.isNone <;> assumption
 cases op <;> simp only [aeqn] at hK <;> try exact hK.elim
 . exact ⟨_, _, I, ρ, e, H, w, .inl (run_bin ho hu hyv (by simp) (by simp) (hb _ rfl).1), ⟨hK, rfl, rfl⟩, hst, .bool _ _, he, Step.refl _ _ _ _ _⟩
 . exact ⟨_, _, I, ρ, e, H, w, .inl (run_bin ho hu hyv (by simp) (by simp) (hb _ rfl).2), ⟨hK, rfl, rfl⟩, hst, .bool _ _, he, Step.refl _ _ _ _ _⟩
theorem ESem.mono {P : Program} {k : Nat} {o : Oper} {K K' : V -> Env -> List O -> Prop} (h : ESem P k o e H K) (hK : ∀ v e' H', K v e' H' -> K' v e' H') : ESem P k o e H K' := by
 intro I ρ w a hst he hkl F n hF next Q hn;exact h I ρ w a hst he hkl F n hF next Q fun u v I' ρ' e' H' w' g => hn u v I' ρ' e' H' w' (hK _ _ _ g)
theorem aop_sound {X : Ctx} (hX : CtxOk X) {o : Oper} {K : Env -> List O -> Prop} (h : aop X o e H K) : OpSem X o e H K := by
 unfold aop at h;cases hb : isEff o.op with
 | true => simp only [hb] at h; exact opSem_of_esem (ae_sound hX h)
 | false =>
  simp only [hb] at h;have quiet : (aq X.T o.op e H fun v => putE X.n o.dst v e fun e'' => K e'' H) -> OpSem X o e H K := fun h => opSem_quiet hX (fun c hc => by rw [hc] at h; simp [aq] at h) h
  cases hs : X.stab with
  | true => simp only [hs] at h; exact quiet h
  | false =>
   simp only [hs] at h;cases hn : nilEmp X.T o.op e with
   | none =>
    simp only [hn] at h;split at h
    . rename_i t x lo hi mx ho;obtain ⟨v, hK, hv⟩ := q_slice hX.T ho (HB := H) (fun _ => Nat.le_refl _) h
      exact opSem_ok (fun c hc => by rw [hc] at ho; cases ho) hK hv
    . exact quiet h
   | some op =>
    simp only [hn] at h;exact opSem_of_esem ((nilEmp_sound hX hn h.1 h.2).mono fun v e' H' ⟨g, e1, e2⟩ => by subst e1; subst e2; exact g)
end Go.Proofs.YtcdkklgeepkopaaGreatDoorPg
namespace Go.Proofs.YtcdkklgeepkopaaGreatDoorPg
open Go Go.RowKit
variable [Globs]
variable {P : Program} {T : Nat -> TI} {I : Imm} {ρ : List Pl} {H : List O} {w : World} {e : Env}
def GSem (X : Ctx) (ops : Array Oper) (o : Oper) (e : Env) (H : List O) (K : Env -> List O -> Prop) : Prop :=
 ∀ (I : Imm) (ρ : List Pl) (w : World) (a : Act), St I ρ H w -> ERel I ρ e a.tmps -> X.k <= ρ.length -> a.tmps.size = X.n -> ∀ (F : Fence) (n : Nat), Wide F -> ∀ (next : Act -> World -> Prop) (Q : Exit -> Act -> World -> Prop),
  (∀ I' ρ' e' H' w' (a' : Act), K e' H' -> St I' ρ' H' w' -> ERel I' ρ' e' a'.tmps -> a'.tmps.size = X.n -> a'.defers = a.defers -> Step X.k I ρ H w I' ρ' H' w' -> next a' w') ->
  if Region.wanted o (yielded ops a.tmps) then o.wpIn F n X.P a w next Q else (∀ f, o.about X.P w a.eval = some f -> F.fn f) /\ next (a.put o.dst undef) w
theorem GSem.skip {X : Ctx} {ops : Array Oper} {o : Oper} {K : Env -> List O -> Prop} (h : putE X.n o.dst (.tup []) e fun e' => K e' H)
 (hw : ∀ (I : Imm) (ρ : List Pl) (a : Act), ERel I ρ e a.tmps -> a.tmps.size = X.n -> Region.wanted o (yielded ops a.tmps) = false) : GSem X ops o e H K := by
 intro I ρ w a hst he hk hs F n hF next Q hnext;rw [hw I ρ a he hs, if_neg (by simp)]
 obtain ⟨e', g1, g2, g3, g4⟩ := put_rel h he hs (u := undef) (.tup _ _ _ rfl (fun i a u ha => by simp at ha))
 exact ⟨fun f _ => hF.fn f, hnext I ρ e' H w _ g1 hst g2 g3 g4 (Step.refl _ _ _ _ _)⟩
theorem GSem.take {X : Ctx} {ops : Array Oper} {o : Oper} {K : Env -> List O -> Prop} (h : OpSem X o e H K)
 (hw : ∀ (I : Imm) (ρ : List Pl) (a : Act), ERel I ρ e a.tmps -> a.tmps.size = X.n -> Region.wanted o (yielded ops a.tmps) = true) : GSem X ops o e H K := by
 intro I ρ w a hst he hk hs F n hF next Q hnext;rw [hw I ρ a he hs, if_pos rfl];exact h I ρ w a hst he hk hs F n hF next Q hnext
theorem GSem.env {X : Ctx} {ops : Array Oper} {o : Oper} {K : Env -> List O -> Prop} {e' : Env} (h : GSem X ops o e' H K) (he' : ∀ I ρ (tmps : Array Value), ERel I ρ e tmps -> ERel I ρ e' tmps) : GSem X ops o e H K :=
 fun I ρ w a hst he hk hs F n hF next Q hnext => h I ρ w a hst (he' I ρ a.tmps he) hk hs F n hF next Q hnext
theorem erel_set {d : Nat} {v : V} (hd : Env.get e d = v) {tmps : Array Value} (h : ERel I ρ e tmps) : ERel I ρ ((d, v) :: e) tmps := fun t => by
 simp only [Env.get];cases ht : Nat.beq d t with
 | true => have := Nat.eq_of_beq_eq_true ht; subst this; rw [<- hd]; exact h d
 | false => exact h t
theorem yielded_of {ops : Array Oper} {j d : Nat} (hd : (ops[j]?).bind (·.dst) = some d) {b : Bool} (he : Env.get e d = .bool b) {tmps : Array Value} (h : ERel I ρ e tmps) : yielded ops tmps j = some b := by
 have := h d;rw [he] at this;have h1 := vr_bool this;have hlt : tmps[d]? = some (.bool b) := by
  cases hx : tmps[d]? with
  | none => simp [hx, undef] at h1
  | some u => simp [hx] at h1; rw [h1]
 simp [yielded, hd, hlt]
theorem yielded_undef {ops : Array Oper} {j d : Nat} (hd : (ops[j]?).bind (·.dst) = some d) (he : Env.get e d = .tup []) {tmps : Array Value} (h : ERel I ρ e tmps) : yielded ops tmps j = none := by
 have := h d;rw [he] at this;obtain ⟨us, h1, _⟩ := vr_tup this;cases hx : tmps[d]? with
 | none => simp [yielded, hd, hx]
 | some u => simp [hx] at h1; subst h1; simp [yielded, hd, hx]
theorem aguard_sound {X : Ctx} (hX : CtxOk X) {ops : Array Oper} {o : Oper} {K : Env -> List O -> Prop} (h : aguard X ops.toList o e H K) : GSem X ops o e H K := by
 unfold aguard at h;cases hg : o.guard with
 | none =>
  simp only [hg] at h;exact GSem.take (aop_sound hX h) fun I ρ a _ _ => by simp [Region.wanted, hg]
 | some jw =>
  obtain ⟨j, want⟩ := jw;simp only [hg] at h;cases hd : (ops.toList[j]?).bind (·.dst) with
  | none => simp only [hd] at h
  | some d =>
   simp only [hd] at h;have hd' : (ops[j]?).bind (·.dst) = some d := by simpa using hd
   split at h
   . rename_i b hb;have hy : ∀ (I : Imm) (ρ : List Pl) (a : Act), ERel I ρ e a.tmps -> yielded ops a.tmps j = some b := fun I ρ a he => yielded_of hd' hb he
     cases b with
     | true =>
      simp only [branch] at h;refine GSem.env (e' := (d, .bool true) :: e) ?_ (fun I ρ tmps he => erel_set hb he)
      have hb' : Env.get ((d, V.bool true) :: e) d = .bool true := by simp [Env.get, show Nat.beq d d = true from Nat.beq_refl d]
      have hy' : ∀ (I : Imm) (ρ : List Pl) (a : Act), ERel I ρ ((d, .bool true) :: e) a.tmps -> yielded ops a.tmps j = some true := fun I ρ a he => yielded_of hd' hb' he
      cases want with
      | true => exact GSem.take (aop_sound hX h) fun I ρ a he _ => by simp [Region.wanted, hg, hy' I ρ a he]
      | false => exact GSem.skip h fun I ρ a he _ => by simp [Region.wanted, hg, hy' I ρ a he]
     | false =>
      simp only [branch] at h;refine GSem.env (e' := (d, .bool false) :: e) ?_ (fun I ρ tmps he => erel_set hb he)
      have hb' : Env.get ((d, V.bool false) :: e) d = .bool false := by simp [Env.get, show Nat.beq d d = true from Nat.beq_refl d]
      have hy' : ∀ (I : Imm) (ρ : List Pl) (a : Act), ERel I ρ ((d, .bool false) :: e) a.tmps -> yielded ops a.tmps j = some false := fun I ρ a he => yielded_of hd' hb' he
      cases want with
      | false => exact GSem.take (aop_sound hX h) fun I ρ a he _ => by simp [Region.wanted, hg, hy' I ρ a he]
      | true => exact GSem.skip h fun I ρ a he _ => by simp [Region.wanted, hg, hy' I ρ a he]
   . rename_i hb;exact GSem.skip h fun I ρ a he _ => by simp [Region.wanted, hg, yielded_undef hd' hb he]
   . exact h.elim
theorem aops_sound {X : Ctx} (hX : CtxOk X) {ops : Array Oper} {K : Env -> List O -> Prop} : ∀ (rest : List Oper) (i : Nat), ops.toList.drop i = rest -> ∀ (e : Env) (H : List O), aops X ops.toList K rest e H ->
 ∀ (I : Imm) (ρ : List Pl) (w : World) (a : Act), St I ρ H w -> ERel I ρ e a.tmps -> X.k <= ρ.length -> a.tmps.size = X.n -> ∀ (F : Fence) (n : Nat), Wide F -> ∀ (Q : Exit -> Act -> World -> Prop),
 (∀ I' ρ' e' H' w' (a' : Act), K e' H' -> St I' ρ' H' w' -> ERel I' ρ' e' a'.tmps -> a'.tmps.size = X.n -> a'.defers = a.defers -> Step X.k I ρ H w I' ρ' H' w' -> Q .normal a' w') -> wpOpsIn F n X.P ops Q (List.range' i rest.length) a w := by
 intro rest;induction rest with
 | nil =>
  intro i hi e H h I ρ w a hst he hk hs F n hF Q hQ;exact hQ I ρ e H w a h hst he hs rfl (Step.refl _ _ _ _ _)
 | cons o rest ih =>
  intro i hi e H h I ρ w a hst he hk hs F n hF Q hQ;have ho : ops[i]? = some o := by
   have : ops.toList[i]? = some o := by
    have h1 : (ops.toList.drop i)[0]? = some o := by rw [hi]; rfl
    rwa [List.getElem?_drop, Nat.add_zero] at h1
   simpa using this
  have hrest : ops.toList.drop (i + 1) = rest := by rw [<- List.drop_drop, hi]; rfl
  simp only [List.length_cons, List.range'_succ, wpOpsIn, ho];refine aguard_sound hX h I ρ w a hst he hk hs F n hF _ Q fun I' ρ' e' H' w' a' hK h1 h2 h3 h4 h5 => ?_
  refine ih (i + 1) hrest e' H' hK I' ρ' w' a' h1 h2 ?_ h3 F n hF Q fun I2 ρ2 e2 H2 w2 a2 g1 g2 g3 g4 g5 g6 => hQ I2 ρ2 e2 H2 w2 a2 g1 g2 g3 g4 (g5.trans h4) (h5.trans g6)
  rcases Nat.eq_zero_or_pos X.k with h0 | h0
  . omega
  . have h6 := h5.take (X.k - 1) (by omega)
    rw [lgZ (show X.k - 1 < ρ.length by omega)] at h6
    have := (liZ.1 h6).1;omega
theorem Step.klen {k : Nat} {I I' : Imm} {ρ ρ' : List Pl} {H H' : List O} {w w' : World} (h : Step k I ρ H w I' ρ' H' w') (hk : k <= ρ.length) : k <= ρ'.length := by
 rcases Nat.eq_zero_or_pos k with h0 | h0
 . omega
 . have h6 := h.take (k - 1) (by omega)
   rw [lgZ (show k - 1 < ρ.length by omega)] at h6
   have := (liZ.1 h6).1;omega
def AEx.is : AEx -> Exit -> Prop
 | .normal, .normal => True
 | .exit i, .exit j => i = j
 | .ret, .ret => True
 | _, _ => False
def markD (D : Nat) : Deferred := { target := .collected D, args := #[] }
def PutOk (a : Act) (ρ : List Pl) (H : List O) (w : World) : Prop :=
 ∃ Ds : List Nat, a.defers = Ds.map markD /\ Ds.Nodup /\ ∀ D ∈ Ds, w.heap[D]? = some (.deferred (some [])) /\ ¬ Owned ρ H D
def PutNew (a a' : Act) (w : World) : Prop := ∀ D, markD D ∈ a'.defers -> markD D ∈ a.defers \/ w.heap.size <= D
theorem PutOk.nil {tmps : Array Value} : PutOk { tmps, defers := [] } ρ H w := ⟨[], rfl, .nil, fun D h => by simp at h⟩
theorem PutNew.same {a a' : Act} (h : a'.defers = a.defers) : PutNew a a' w := fun D hD => .inl (by rw [<- h]; exact hD)
theorem PutNew.trans {a a1 a2 : Act} {w1 : World} (h : PutNew a a1 w) (k : PutNew a1 a2 w1) (hs : w.heap.size <= w1.heap.size) : PutNew a a2 w := fun D hD => by
 rcases k D hD with x | x
 . exact h D x
 . exact .inr (Nat.le_trans hs x)
theorem PutOk.step {a a' : Act} (h : PutOk a ρ H w) {k : Nat} {I I' : Imm} {ρ' : List Pl} {H' : List O} {w' : World} (hs : Step k I ρ H w I' ρ' H' w') (hd : a'.defers = a.defers) : PutOk a' ρ' H' w' := by
 obtain ⟨Ds, h1, h2, h3⟩ := h;refine ⟨Ds, hd.trans h1, h2, fun D hD => ?_⟩
 obtain ⟨g1, g2⟩ := h3 D hD;have hlt := (Array.getElem?_eq_some_iff.1 g1).1;refine ⟨by rw [hs.frame D hlt g2]; exact g1, fun ho => ?_⟩
 rcases hs.own D ho with x | x
 . exact g2 x
 . omega
def FOk (X : Ctx) (F : Fence) (ρ : List Pl) : Prop := (X.round = none /\ F = Fence.wide) \/ ∃ id p, X.round = some id /\ id < X.k /\ ρ[id]? = some p /\ F = Fence.wide.inRound p.b
theorem FOk.wide {X : Ctx} {F : Fence} (h : FOk X F ρ) : Wide F := by
 rcases h with ⟨_, rfl⟩ | ⟨id, p, _, _, _, rfl⟩
 . exact .inl rfl
 . exact .inr ⟨_, rfl⟩
theorem FOk.step {X : Ctx} {F : Fence} (h : FOk X F ρ) {I I' : Imm} {ρ' : List Pl} {H' : List O} {w' : World} (hs : Step X.k I ρ H w I' ρ' H' w') : FOk X F ρ' := by
 rcases h with h | ⟨id, p, h1, h2, h3, h4⟩
 . exact .inl h
 . exact .inr ⟨id, p, h1, h2, by rw [hs.take id h2]; exact h3, h4⟩
def CPost (X : Ctx) (Q : AEx -> Env -> List O -> Prop) (I : Imm) (ρ : List Pl) (H : List O) (w : World) (a : Act) (ex : Exit) (a' : Act) (w' : World) : Prop :=
 ∃ x e' H' I' ρ', AEx.is x ex /\ Q x e' H' /\ St I' ρ' H' w' /\ ERel I' ρ' e' a'.tmps /\ a'.tmps.size = X.n /\ (PutOk a' ρ' H' w' /\ PutNew a a' w) /\ Step X.k I ρ H w I' ρ' H' w'
def CSem (X : Ctx) (c : Code) (Q : AEx -> Env -> List O -> Prop) (e : Env) (H : List O) : Prop :=
 ∀ (I : Imm) (ρ : List Pl) (w : World) (a : Act), St I ρ H w -> ERel I ρ e a.tmps -> X.k <= ρ.length -> a.tmps.size = X.n -> PutOk a ρ H w -> ∀ (F : Fence) (n : Nat), FOk X F ρ -> c.wpIn F n X.P (CPost X Q I ρ H w a) a w
theorem erel_zip {ts : List Nat} : ∀ {vs : List V} {tmps : Array Value}, (∀ (i : Nat) (t : Nat) (v : V), ts[i]? = some t -> vs[i]? = some v -> VRel I ρ v (tmps.getD t undef)) -> ERel I ρ (ts.zip vs) tmps := by
 induction ts with
 | nil => intro vs tmps h t; simp [Env.get]; exact .any _ _
 | cons t0 ts ih =>
  intro vs tmps h t;cases vs with
  | nil => simp [Env.get]; exact .any _ _
  | cons v vs =>
   simp only [List.zip_cons_cons, Env.get];cases ht : Nat.beq t0 t with
   | true =>
    have := Nat.eq_of_beq_eq_true ht;subst this;exact h 0 _ _ (by simp) (by simp)
   | false => exact ih (fun i t v h1 h2 => h (i + 1) t v (by simpa using h1) (by simpa using h2)) t
end Go.Proofs.YtcdkklgeepkopaaGreatDoorPg
namespace Go.Proofs.YtcdkklgeepkopaaGreatDoorPg
open Go Go.RowKit
variable [Globs]
variable {P : Program} {T : Nat -> TI} {I : Imm} {ρ : List Pl} {H : List O} {w : World} {e : Env}
theorem aq_heap {o : Op} (h : readsH o = false) (e : Env) (H H' : List O) (K : V -> Prop) : aq T o e H K = aq T o e H' K := by
 cases o <;> first | rfl | (simp [readsH] at h; done)
theorem aq_congr {o : Op} {e e' : Env} (h : ∀ x ∈ o.operands, aeval e x = aeval e' x) (H : List O) (K : V -> Prop) : aq T o e H K = aq T o e' H K := by
 have hm : ∀ l : List Operand, (∀ x ∈ l, aeval e x = aeval e' x) -> l.map (aeval e) = l.map (aeval e') := fun l hl => List.map_congr_left hl
 have g : ∀ x ∈ o.operands, aevo e x = aevo e' x := fun x hx => by unfold aevo; rw [h x hx]
 have ho : ∀ l : Option Operand, (∀ x ∈ l.toArray, aevo e x = aevo e' x) -> l.map (aevo e) = l.map (aevo e') := fun l hl => by
  cases l with
  | none => rfl
  | some x => simp [hl x (by simp)]
 cases o <;> simp only [Op.operands] at h g <;> try rfl
 case move x => simp only [aq, h x (by simp)]
 case assign x => simp only [aq, h x (by simp)]
 case pick c a b => simp only [aq, h c (by simp), h a (by simp), h b (by simp)]
 case build t ps =>
  simp only [aq];have : (ps.toList.map fun p => (p.1, aeval e p.2)) = ps.toList.map fun p => (p.1, aeval e' p.2) := List.map_congr_left fun p hp => by
   rw [h p.2 (by simp; exact ⟨p.1, by simpa using hp⟩)]
  rw [this]
 case load t x => simp only [aq, g x (by simp)]
 case nilCheck x => simp only [aq, g x (by simp)]
 case binOp op t x y yt => simp only [aq, g x (by simp), g y (by simp)]
 case unOp op t x => simp only [aq, g x (by simp)]
 case convert s d x => simp only [aq, g x (by simp)]
 case makeInterface t x => simp only [aq, h x (by simp)]
 case makeFunc f a b =>
  simp only [aq];rw [hm a.toList (fun x hx => h x (by simp at hx ⊢; exact .inl hx)), hm b.toList (fun x hx => h x (by simp at hx ⊢; exact .inr hx))]
 case slice t x lo hi mx =>
  simp only [aq];rw [g x (by simp), ho lo (fun y hy => g y (by simp at hy ⊢; simp [hy])), ho hi (fun y hy => g y (by simp at hy ⊢; simp [hy])), ho mx (fun y hy => g y (by simp at hy ⊢; simp [hy]))]
 case fieldAddr s x f => simp only [aq, g x (by simp)]
 case field s x f => simp only [aq, g x (by simp)]
 case indexAddr t x i => simp only [aq, g x (by simp), g i (by simp)]
 case index t x i => simp only [aq, g x (by simp), g i (by simp)]
 case extract x i => simp only [aq, h x (by simp)]
 case call c =>
  have hmo : c.args.toList.map (aevo e) = c.args.toList.map (aevo e') := List.map_congr_left fun x hx => g x (by simp [Call.operands]; exact .inr (by simpa using hx))
  simp only [aq];rw [hm c.args.toList (fun x hx => h x (by simp [Call.operands]; exact .inr (by simpa using hx))), hmo]
def Det (q : (V -> Prop) -> Prop) : Prop := ∀ K, q K -> ∃ v, K v /\ q (fun u => u = v)
theorem det_k (v : V) : Det fun K => K v := fun K h => ⟨v, h, rfl⟩
theorem det_and {p : Prop} {q : (V -> Prop) -> Prop} (h : Det q) : Det fun K => p /\ q K := fun K ⟨hp, hq⟩ => let ⟨v, h1, h2⟩ := h K hq; ⟨v, h1, hp, h2⟩
theorem det_ex {α : Type} {q : α -> (V -> Prop) -> Prop} (h : ∀ x, Det (q x)) : Det fun K => ∃ x, q x K := fun K ⟨x, hq⟩ => let ⟨v, h1, h2⟩ := h x K hq; ⟨v, h1, x, h2⟩
theorem det_false : Det fun _ => False := fun _ h => h.elim
theorem det_force (v : V) : Det (force v) := fun K h => ⟨v, (force_iff v K).1 h, (force_iff v _).2 rfl⟩
theorem det_force2 (v : V) (g : V -> V) : Det fun K => force v fun u => K (g u) := fun K h => ⟨g v, (force_iff v _).1 h, (force_iff v _).2 rfl⟩
theorem det_copy (l : List V) (g : List V -> V) : Det fun K => copyL l fun r => K (g r) := fun K h => ⟨g l, (copyL_iff l _).1 h, (copyL_iff l _).2 rfl⟩
theorem det_loadV (ti : TI) (cs : List V) (off : Nat) : Det (loadV ti cs off) := by
 unfold loadV
 repeat' split
 all_goals first | exact det_copy _ _ | exact det_force _ | exact det_false
theorem det_abinInt (op : BinOp) (k : IntKind) (x y : Int) : Det (abinInt op k x y) := by
 unfold abinInt;split <;> first | exact det_k _ | exact det_and (det_k _) | exact det_false
theorem det_abinStr (op : BinOp) (x y : List UInt8) : Det (abinStr op x y) := by
 unfold abinStr;split <;> first | exact det_k _ | exact det_and (det_k _) | exact det_false
theorem det_aeqn (op : BinOp) (b : Bool) : Det (aeqn op b) := by
 unfold aeqn;split <;> first | exact det_k _ | exact det_false
theorem leafEq_fix (k : TK) (x y : V) : (∃ b, ∀ K, leafEq k x y K ↔ K b) \/ ∀ K, ¬ leafEq k x y K := by
 unfold leafEq
 repeat' split
 all_goals first | exact .inl ⟨_, fun K => Iff.rfl⟩ | exact .inr fun K h => h
theorem det_fieldsEq (xs ys : List V) : ∀ (fs : List (Nat × TypeId)) (g : Bool -> (V -> Prop) -> Prop), (∀ b, Det (g b)) -> Det fun K => fieldsEq T xs ys fs fun b => g b K
 | [], g, hg => hg true
 | (o, t) :: r, g, hg => by
  intro K h;simp only [fieldsEq] at h ⊢;split at h <;> try exact h.elim
  rename_i x y _ _ _;rcases leafEq_fix (T t).kind x y with ⟨b, hb⟩ | hb
  . rw [hb] at h;obtain ⟨v, h1, h2⟩ := det_fieldsEq xs ys r (fun c => g (b && c)) (fun c => hg _) K h
    exact ⟨v, h1, by rw [hb]; exact h2⟩
  . exact absurd h (hb _)
theorem det_abin (op : BinOp) (t : TypeId) (x y : V) : Det (abin T op t x y) := by
 unfold abin
 repeat' split
 all_goals first | exact det_and (det_k _) | exact det_abinInt _ _ _ _ | exact det_abinStr _ _ _ | exact det_aeqn _ _ | exact det_and (det_aeqn _ _) | exact det_fieldsEq _ _ _ _ (det_aeqn _) | exact det_false
theorem det_aun (op : UnOp) (x : V) : Det (aun op x) := by
 unfold aun;split <;> first | exact det_k _ | exact det_false
theorem det_aconv (s d de : TK) (x : V) : Det (aconv s d de H x) := by
 unfold aconv
 repeat' split
 all_goals first | exact det_k _ | exact det_false | exact det_ex fun _ => det_and (det_k _) | exact det_and (det_ex fun _ => det_and (det_k _))
theorem det_aslice (sz bl : Nat) (bc : Bool) (x : V) (lo hi mx : Option Int) : Det (aslice sz bl bc x lo hi mx) := by
 unfold aslice
 repeat' split
 all_goals first | exact det_k _ | exact det_false | exact det_and (det_k _)
theorem det_foldMax (mx : Bool) (l : List V) : ∀ v : V, Det (foldMax mx v l) := by
 induction l with
 | nil =>
  intro v K h;cases v <;> simp only [foldMax] at h
  exact ⟨_, h, by simp only [foldMax]⟩
 | cons x l ih =>
  intro v K h;cases v <;> (try (simp only [foldMax] at h; done))
  cases x <;> simp only [foldMax] at h ⊢
  exact ih _ K h
theorem det_fillV (place : Nat -> Option (Nat × Nat)) : ∀ (l : List (Nat × V)) (cells : List V), Det (fillV place cells l)
 | [], cells => fun K h => by
  simp only [fillV] at h ⊢;exact det_copy cells _ K h
 | (i, v) :: l, cells => by
  intro K h;unfold fillV at h;cases hp : place i <;> simp only [hp] at h
  rename_i os;obtain ⟨off, size⟩ := os;cases hc : cellsOf v <;> simp only [hc] at h
  cases hb : Nat.beq (by assumption : List V).length size <;> simp only [hb] at h
  cases hb2 : Nat.ble (off + size) cells.length <;> simp only [hb2] at h
  obtain ⟨u, h1, h2⟩ := det_fillV place l _ K h;exact ⟨u, h1, by unfold fillV; simp only [hp, hc, hb, hb2]; exact h2⟩
theorem aq_det (o : Op) (e : Env) (H : List O) : Det (aq T o e H) := by
 unfold aq;split
 . exact det_force _
 . exact det_force _
 . unfold qPick; repeat' split
   all_goals first | exact det_force _ | exact det_false
 . unfold qBuild; repeat' split
   all_goals first | exact det_fillV _ _ _ | exact det_false
 . unfold qLoad; repeat' split
   all_goals first | exact det_loadV _ _ _ | exact det_false | exact det_ex fun _ => det_and (det_loadV _ _ _)
 . unfold qNil; repeat' split
   all_goals first | exact det_k _ | exact det_false
 . exact det_abin _ _ _ _
 . exact det_aun _ _
 . exact det_aconv _ _ _ _
 . intro K h;simp only [copyL_iff] at h ⊢;exact ⟨_, h, rfl⟩
 . unfold qSlice; repeat' split
   all_goals first | exact det_aslice _ _ _ _ _ _ _ | exact det_false
 . unfold qFieldAddr; repeat' split
   all_goals first | exact det_k _ | exact det_false
 . unfold qField; repeat' split
   all_goals first | exact det_loadV _ _ _ | exact det_false
 . unfold qIndexAddr; repeat' split
   all_goals first | exact det_ex fun _ => det_and (det_k _) | exact det_and (det_k _) | exact det_false
 . unfold qIndex; repeat' split
   all_goals first | exact det_ex fun _ => det_and (det_k _) | exact det_and (det_loadV _ _ _) | exact det_false
 . unfold qExtract; repeat' split
   all_goals first | exact det_force _ | exact det_false
 . unfold qIface; repeat' split
   all_goals first | exact det_false | exact det_force2 _ _
 . split
   . unfold qLen; repeat' split
     all_goals first | exact det_k _ | exact det_false
   . unfold qMax; repeat' split
     all_goals first | exact det_foldMax _ _ _ | exact det_false
   . unfold qMax; repeat' split
     all_goals first | exact det_foldMax _ _ _ | exact det_false
   . exact det_false
 . exact det_false
end Go.Proofs.YtcdkklgeepkopaaGreatDoorPg
namespace Go.Proofs.YtcdkklgeepkopaaGreatDoorPg
open Go Go.RowKit
variable [Globs]
variable {P : Program} {T : Nat -> TI} {I : Imm} {ρ : List Pl} {H : List O} {w : World} {e : Env}
theorem St.heap {w' : World} (h : St I ρ H w) (hh : w'.heap = w.heap) : St I ρ H w' := by
 refine ⟨h.len, fun i p o hp ho => (h.obj i p o hp ho).keep (fun _ _ => by rw [hh]) (ILe.refl _) (PLe.refl _), h.inj, ⟨fun b o v hv => ?_, h.imm.glob⟩, h.sep⟩
 rw [<- h.imm b o v hv];exact World.cell?_of_block (w := w) (by rw [hh])
theorem testBit_or_pow (j k m : Nat) (h : Nat.testBit (2 ^ j ||| m) k = true) : k = j \/ Nat.testBit m k = true := by
 rw [Nat.testBit_or, Bool.or_eq_true, Nat.testBit_two_pow] at h;rcases h with h | h
 . exact .inl (dtZ h).symm
 . exact .inr h
theorem maskOf_bit : ∀ (l D : List Nat) (k : Nat), Nat.testBit (maskOf l D) k = true -> ∃ j ∈ l, k = j \/ Nat.testBit (D.getD j 0) k = true
 | [], D, k, h => by simp [maskOf] at h
 | j :: l, D, k, h => by
  simp only [maskOf] at h;rw [Nat.testBit_or, Bool.or_eq_true] at h;rcases h with h | h
  . rcases testBit_or_pow _ _ _ h with h | h
    . exact ⟨j, by simp, .inl h⟩
    . exact ⟨j, by simp, .inr h⟩
  . obtain ⟨j', h1, h2⟩ := maskOf_bit l D k h;exact ⟨j', by simp [h1], h2⟩
theorem clos_get : ∀ (ops : List Oper) (D : List Nat) (i : Nat), i < D.length -> (clos ops D)[i]? = D[i]?
 | [], D, i, h => rfl
 | o :: ops, D, i, h => by
  rw [clos, clos_get ops _ i (by simp; omega), List.getElem?_append_left h]
theorem clos_step : ∀ (ops : List Oper) (D : List Nat) (i : Nat) (o : Oper), ops[i]? = some o -> (clos ops D)[D.length + i]? = some (maskOf (edgesOf o) ((clos ops D).take (D.length + i)))
 | [], D, i, o, h => by simp at h
 | x :: ops, D, 0, o, h => by
  simp at h; subst h;rw [clos, Nat.add_zero, clos_get ops _ _ (by simp)]
  have : ((clos ops (D ++ [maskOf (edgesOf x) D])).take D.length) = D := by
   apply List.ext_getElem?;intro j;by_cases hj : j < D.length
   . rw [List.getElem?_take_of_lt hj, clos_get ops _ j (by simp; omega), List.getElem?_append_left hj]
   . rw [List.getElem?_eq_none (by simp; omega), List.getElem?_eq_none (by omega)]
  rw [this]; simp
 | x :: ops, D, i + 1, o, h => by
  have := clos_step ops (D ++ [maskOf (edgesOf x) D]) i o (by simpa using h)
  rw [clos];simp only [laZ, List.length_singleton] at this;rw [show D.length + (i + 1) = D.length + 1 + i by omega]
  exact this
theorem clos_listed {ops : List Oper} {S : Nat -> Prop} (hS : ∀ (i : Nat) (o : Oper), ops[i]? = some o -> S i -> ∀ k ∈ edgesOf o, S k) : ∀ (i : Nat) (o : Oper), ops[i]? = some o -> (∀ k ∈ edgesOf o, S k) -> ∀ j, Nat.testBit ((clos ops []).getD i 0) j = true -> S j := by
 intro i;induction i using Nat.strongRecOn with
 | _ i ih =>
  intro o ho he j hj;have hc := clos_step ops [] i o ho;simp only [List.length_nil, Nat.zero_add] at hc;rw [List.getD, hc] at hj;simp only [Option.getD_some] at hj;obtain ⟨k, hk, h⟩ := maskOf_bit _ _ _ hj;rcases h with rfl | h
  . exact he _ hk
  . by_cases hki : k < i
    . have e1 : ((clos ops []).take i).getD k 0 = (clos ops []).getD k 0 := by
       simp [List.getD, List.getElem?_take_of_lt hki]
      rw [e1] at h;cases hok : ops[k]? with
      | none =>
       exfalso;have : (clos ops [])[k]? = none := by
        apply List.getElem?_eq_none;have hlen : ∀ (ops : List Oper) (D : List Nat), (clos ops D).length = D.length + ops.length := by
         intro ops;induction ops with
         | nil => intro D; rfl
         | cons x ops ihl => intro D; rw [clos, ihl]; simp; omega
        rw [hlen]; simp;exact List.getElem?_eq_none_iff.1 hok
       simp [List.getD, this] at h
      | some ok => exact ih k hki ok hok (fun m hm => hS k ok hok (he k hk) m hm) j h
    . have : ((clos ops []).take i).getD k 0 = 0 := by
       simp [List.getD, List.getElem?_eq_none (show ((clos ops []).take i).length <= k by simp; omega)]
      rw [this] at h; simp at h
theorem binds_edges {o : Oper} {e : Edge} (he : e ∈ o.after) (hb : Region.binds .any e = true) : e.on ∈ edgesOf o := by
 unfold edgesOf;rw [List.mem_filterMap];refine ⟨e, by simpa using he, ?_⟩
 unfold Region.binds at hb;cases hg : e.ground <;> rw [hg] at hb <;> simp at hb ⊢
theorem edges_binds {o : Oper} {k : Nat} (h : k ∈ edgesOf o) : ∃ e ∈ o.after, Region.binds .any e = true /\ e.on = k := by
 unfold edgesOf at h;rw [List.mem_filterMap] at h;obtain ⟨e, h1, h2⟩ := h;refine ⟨e, by simpa using h1, ?_⟩
 unfold Region.binds;cases hg : e.ground <;> rw [hg] at h2 <;> simp at h2 ⊢ <;> exact h2
theorem ready_iff {ops : Array Oper} {listed : Array Bool} (hs : listed.size = ops.size) {i : Nat} : i ∈ Region.ready .any ops listed ↔ ∃ o, ops[i]? = some o /\ listed.getD i false = false /\ ∀ k ∈ edgesOf o, listed.getD k false = true := by
 unfold Region.ready;rw [List.mem_filter, List.mem_range];constructor
 . rintro ⟨h1, h2⟩;have ho : ops[i]? = some ops[i] := by simp [h1]
   rw [ho] at h2;simp only [Option.map_some, Option.getD_some, Bool.and_eq_true, Bool.not_eq_true'] at h2;refine ⟨_, ho, ?_, fun k hk => ?_⟩
   . have := h2.1;simp [hs, h1] at this ⊢; exact this
   . obtain ⟨e, he, hb, rfl⟩ := edges_binds hk;have := h2.2;rw [Array.all_eq_true'] at this;have := this e he;rw [hb] at this;simpa using this
 . rintro ⟨o, h1, h2, h3⟩;have hlt : i < ops.size := (Array.getElem?_eq_some_iff.1 h1).1;refine ⟨hlt, ?_⟩;rw [h1];simp only [Option.map_some, Option.getD_some, Bool.and_eq_true, Bool.not_eq_true'];refine ⟨?_, ?_⟩
   . simp [hs, hlt] at h2 ⊢; exact h2
   . rw [Array.all_eq_true'];intro e he;cases hb : Region.binds .any e with
     | false => rfl
     | true =>
      have := h3 _ (binds_edges he hb);simpa using this
theorem ACall.mono {P : Program} {f : FuncId} {k : Nat} {args : List V} {H : List O} {Q Q' : V -> List O -> Prop} (h : ACall P f k args H Q) (hq : ∀ r H', Q r H' -> Q' r H') : ACall P f k args H Q' :=
 ⟨fun I ρ w us hst hk ha => (h.out I ρ w us hst hk ha).mono fun en w' ⟨v, r, I', ρ', H', h1, h2, h3, h4, h5⟩ => ⟨v, r, I', ρ', H', h1, h2, h3, h4, hq _ _ h5⟩⟩
theorem AYield.mono {P : Program} {k : Nat} {args : List V} {H : List O} {Q Q' : V -> List O -> Prop} (h : AYield P k args H Q) (hq : ∀ r H', Q r H' -> Q' r H') : AYield P k args H Q' := by
 refine ⟨fun I ρ w us hst hk ha => ?_⟩
 obtain ⟨l, us', h1, fn, tmps, asg, body, h2, h3⟩ := h.out I ρ w us hst hk ha;refine ⟨l, us', h1, fn, tmps, asg, body, h2, h3.mono ?_⟩;rintro en w' ⟨v, r, I', ρ', H', h1, h2, h3, h4, h5⟩;exact ⟨v, r, I', ρ', H', h1, h2, h3, h4, hq _ _ h5⟩
theorem acal_mono {P : Program} {f : Option FuncId} {k : Nat} {args : List V} {H : List O} {Q Q' : V -> List O -> Prop} (h : ACal P f k args H Q) (hq : ∀ r H', Q r H' -> Q' r H') : ACal P f k args H Q' := by
 cases f with
 | some f => exact ACall.mono h hq
 | none => exact AYield.mono h hq
theorem acall_swap {X : Ctx} (hs : X.stab = true) {f : Option FuncId} {args : List V} {e e2 : Env} {K : V -> Env -> List O -> Prop} (h : acall X f args e H K) : acall X f args e2 H (fun v e1 H' => e1 = e2 /\ K v e H') := by
 unfold acall at h ⊢;cases h with
 | frz id hs' _ _ _ => rw [hs] at hs'; cases hs'
 | sub _ _ hs' _ _ _ => rw [hs] at hs'; cases hs'
 | adopt hs' _ => rw [hs] at hs'; cases hs'
 | pure hA => exact .pure (acal_mono hA fun r H' ⟨g1, g2⟩ => ⟨g1, rfl, g2⟩)
 | call is k hok hA =>
 obtain ⟨h1, h2, h3⟩ := hok;refine .call is k ⟨h1, h2, h3⟩ (acal_mono hA ?_);intro r H' g5;have hk : k = is.length := by
  rw [hs] at h3;simp at h3;exact Nat.eq_of_beq_eq_true (by simpa using h3)
 have e0 : ∀ e, fogE is k e = e := fun e => by
  unfold fogE;rw [hk, List.drop_length]
 rw [e0] at g5;exact ⟨e0 e2, g5⟩
theorem fillS_mono {sz : Nat} {K K' : List (List V) -> Prop} (h : ∀ l, K l -> K' l) : ∀ (ps : List (Nat × V)) (es : List (List V)), fillS sz es ps K -> fillS sz es ps K'
 | [], es, hh => h _ hh
 | (i, v) :: ps, es, hh => by
  unfold fillS at hh ⊢;cases hc : cellsOf v <;> simp only [hc] at hh ⊢
  split at hh <;> try exact hh.elim
  rw [copyL_iff] at hh ⊢;exact fillS_mono h ps _ hh
theorem newBuf_mono {sz bytes : Nat} {es : List (List V)} {K K' : V -> List O -> Prop} (h : ∀ v l, K v l -> K' v l) (hh : newBuf sz bytes es H K) : newBuf sz bytes es H K' := by
 unfold newBuf at hh ⊢;rw [copyH_iff] at hh ⊢;exact ⟨hh.1, h _ _ hh.2⟩
theorem aappend_mono {sz bytes : Nat} {s : V} {ys : List (List V)} {K K' : V -> List O -> Prop} (h : ∀ v l, K v l -> K' v l) (hh : aappend sz bytes s ys H K) : aappend sz bytes s ys H K' := by
 unfold aappend at hh ⊢;split at hh
 . exact newBuf_mono h hh
 . split at hh
   . exact hh.elim
   . rename_i z es hb
     try simp only [hb]
     split at hh
     . exact newBuf_mono h hh
     . exact ⟨fun h0 => h _ _ (hh.1 h0), fun h0 => newBuf_mono h (hh.2 h0)⟩
 . split at hh
   . exact hh.elim
   . rename_i z id off len full hb
     try simp only [hb]
     split at hh <;> try exact hh.elim
     rename_i es hes
     try simp only [hes]
     split at hh
     . exact ⟨hh.1, newBuf_mono h hh.2⟩
     . exact ⟨hh.1, fun h0 => h _ _ (hh.2.1 h0), fun h0 => newBuf_mono h (hh.2.2 h0)⟩
 . exact hh.elim
theorem aapp_mono {sz bytes : Nat} {s x : V} {ys : List (List V)} {K K' : V -> List O -> Prop} (h : ∀ v l, K v l -> K' v l) (hh : aapp sz bytes s x ys H K) : aapp sz bytes s x ys H K' := by
 have win : ∀ s : V, awithin sz s ys H K -> awithin sz s ys H K' := fun s hh => by
  unfold awithin at hh ⊢;split at hh
  . split at hh <;> try exact hh.elim
    split at hh <;> try exact hh.elim
    refine ⟨hh.1, ?_⟩;have := hh.2;rw [copyH_iff] at this ⊢;exact h _ _ this
  . split at hh <;> try exact hh.elim
    split at hh <;> try exact hh.elim
    refine ⟨fun h0 => h _ _ (hh.1 h0), fun h0 => ?_⟩
    have := hh.2 h0;refine ⟨this.1, ?_⟩;have := this.2;rw [copyH_iff] at this ⊢;exact h _ _ this
  . exact hh.elim
 unfold aapp at hh ⊢;split at hh
 . exact win _ hh
 . split at hh
   . exact win _ hh
   . exact aappend_mono h hh
theorem elemsV_mono {sz : Nat} {x : V} {K K' : List (List V) -> Prop} (h : ∀ l, K l -> K' l) (hh : elemsV sz x H K) : elemsV sz x H K' := by
 unfold elemsV at hh ⊢;split at hh
 . split at hh
   . exact h _ hh
   . exact hh.elim
 . exact h _ hh
 . split at hh
   . split at hh
     . exact ⟨hh.1, h _ hh.2⟩
     . exact hh.elim
   . exact hh.elim
 . split at hh
   . exact h _ hh
   . exact hh.elim
 . exact hh.elim
theorem afind_mono {x : V} {K K' : Option (Nat × V) -> Prop} (h : ∀ r, K r -> K' r) : ∀ (kvs : List (V × V)) (i : Nat), afind x kvs i K -> afind x kvs i K'
 | [], i, g => h _ g
 | (y, v) :: r, i, g => by
  unfold afind at g ⊢;split at g
  . rename_i b hb;cases b with
    | true => exact h _ g
    | false => exact afind_mono h r (i + 1) g
  . exact g.elim
theorem aMakeMap_mono {T : Nat -> TI} {t : TypeId} {H : List O} {K K' : V -> List O -> Prop} (h : ∀ v l, K v l -> K' v l) (g : aMakeMap T t H K) : aMakeMap T t H K' := by
 unfold aMakeMap at g ⊢;split at g <;> try exact g.elim
 simp only [copyH_iff] at g ⊢;exact h _ _ g
theorem aMapUpd_mono {T : Nat -> TI} {t : TypeId} {m k x : V} {H : List O} {K K' : V -> List O -> Prop} (h : ∀ v l, K v l -> K' v l) (g : aMapUpd T t m k x H K) : aMapUpd T t m k x H K' := by
 unfold aMapUpd at g ⊢;split at g <;> try exact g.elim
 split at g <;> try exact g.elim
 split at g <;> try exact g.elim
 split at g <;> try exact g.elim
 refine afind_mono (fun r hr => ?_) _ _ g
 split at hr <;> simp only [copyH_iff] at hr ⊢ <;> exact h _ _ hr
theorem aLookup_mono {P : Program} {T : Nat -> TI} {t : TypeId} {m k : V} {ok : Bool} {H : List O} {K K' : V -> List O -> Prop} (h : ∀ v l, K v l -> K' v l) (g : aLookup P T t m k ok H K) : aLookup P T t m k ok H K' := by
 unfold aLookup at g ⊢;split at g <;> try exact g.elim
 split at g <;> try exact g.elim
 split at g <;> try exact g.elim
 . split at g <;> try exact g.elim
   refine afind_mono (fun r hr => ?_) _ _ g
   split at hr
   . simp only [force_iff] at hr ⊢; exact h _ _ hr
   . obtain ⟨z, hz, hr⟩ := hr; exact ⟨z, hz, h _ _ hr⟩
 . obtain ⟨z, hz, hr⟩ := g; exact ⟨z, hz, h _ _ hr⟩
theorem aMakeSl_mono {T : Nat -> TI} {t : TypeId} {l c : V} {H : List O} {K K' : V -> List O -> Prop} (h : ∀ v l, K v l -> K' v l) (g : aMakeSl T t l c H K) : aMakeSl T t l c H K' := by
 unfold aMakeSl at g ⊢;split at g <;> try exact g.elim
 split at g <;> try exact g.elim
 split at g <;> try exact g.elim
 refine ⟨g.1, ?_⟩;have := g.2;simp only [copyH_iff] at this ⊢;exact h _ _ this
theorem aApp0_mono {sz bytes : Nat} {zero : List V} {s : V} {n : Int} {H : List O} {K K' : V -> List O -> Prop} (h : ∀ v l, K v l -> K' v l) (g : aApp0 sz bytes zero s n H K) : aApp0 sz bytes zero s n H K' := by
 unfold aApp0 at g ⊢;split at g <;> try exact g.elim
 . split at g <;> try exact g.elim
   split at g <;> try exact g.elim
   exact ⟨g.1, newBuf_mono h g.2⟩
 . refine ⟨g.1, g.2.1, ?_⟩;have := g.2.2;rw [copyH_iff] at this ⊢;exact h _ _ this
theorem aCap_mono {T : Nat -> TI} {t : TypeId} {s : V} {H : List O} {K K' : V -> List O -> Prop} (h : ∀ v l, K v l -> K' v l) (g : aCap T t s H K) : aCap T t s H K' := by
 unfold aCap at g ⊢;split at g <;> try exact g.elim
 split at g <;> try exact g.elim
 . split at g
   . exact h _ _ g
   . split at g <;> try exact g.elim
     refine ⟨g.1, fun m => ?_⟩
     have := g.2 m;simp only [copyH_iff] at this ⊢;exact h _ _ this
 . exact h _ _ g
 . exact h _ _ g
theorem rowsOf_mono {H : List O} {sz n : Nat} {x : V} {K K' : List (List V) -> Prop} (h : ∀ l, K l -> K' l) (g : rowsOf H sz n x K) : rowsOf H sz n x K' := by
 unfold rowsOf at g ⊢;split at g <;> try exact g.elim
 . split at g <;> try exact g.elim
   exact ⟨g.1, h _ g.2⟩
 . split at g <;> try exact g.elim
   split at g <;> try exact g.elim
   . exact ⟨g.1, h _ g.2⟩
   . exact ⟨g.1, h _ g.2⟩
theorem aCopy_mono {T : Nat -> TI} {t : TypeId} {d x : V} {H : List O} {K K' : V -> List O -> Prop} (h : ∀ v l, K v l -> K' v l) (g : aCopy T t d x H K) : aCopy T t d x H K' := by
 unfold aCopy at g ⊢;split at g <;> try exact g.elim
 split at g <;> try exact g.elim
 split at g <;> try exact g.elim
 refine ⟨g.1, rowsOf_mono (fun ys hy => ?_) g.2⟩
 split at hy <;> try exact hy.elim
 . refine ⟨hy.1, ?_⟩;have := hy.2;simp only [copyH_iff] at this ⊢;exact h _ _ this
 . refine ⟨hy.1, ?_⟩;have := hy.2;simp only [copyH_iff] at this ⊢;exact h _ _ this
theorem ae_swap {X : Ctx} (hs : X.stab = true) {o : Op} {e e2 : Env} (h : ∀ x ∈ o.operands, aeval e x = aeval e2 x) {K : V -> Env -> List O -> Prop} (hh : ae X o e H K) : ae X o e2 H (fun v e1 H' => e1 = e2 /\ K v e H') := by
 have hm : ∀ l : List Operand, (∀ x ∈ l, aeval e x = aeval e2 x) -> l.map (aeval e) = l.map (aeval e2) := fun l hl => List.map_congr_left hl
 cases o <;> simp only [Op.operands] at h <;> simp only [ae] at hh ⊢ <;> try exact hh.elim
 case alloc t =>
  split at hh
  . rename_i hg;simp only [copyL_iff, copyH_iff] at hh ⊢;exact ⟨trivial, hh⟩
  . exact hh.elim
 case box t x =>
  rw [<- h x (by simp)]
  split at hh
  . simp only [copyL_iff, copyH_iff] at hh ⊢;exact ⟨trivial, hh⟩
  . exact hh.elim
 case buildSlice t n ps =>
  have : (ps.toList.map fun p => (p.1, aeval e p.2)) = ps.toList.map fun p => (p.1, aeval e2 p.2) := List.map_congr_left fun p hp => by
   rw [h p.2 (by simp; exact ⟨p.1, by simpa using hp⟩)]
  simp only [hs] at hh ⊢;unfold abs0 at hh ⊢;rw [<- this];split at hh <;> try exact hh.elim
  split at hh <;> try exact hh.elim
  split at hh <;> try exact hh.elim
  exact fillS_mono (fun l hl => by simp only [copyH_iff] at hl ⊢; exact ⟨trivial, hl⟩) _ _ hh
 case store t x y =>
  rw [<- h x (by simp), <- h y (by simp)]
  split at hh <;> try exact hh.elim
  split at hh <;> try exact hh.elim
  split at hh <;> try exact hh.elim
  . split at hh <;> try exact hh.elim
    split at hh <;> try exact hh.elim
    simp only [copyL_iff, copyH_iff] at hh ⊢;exact ⟨trivial, hh⟩
  . split at hh <;> try exact hh.elim
    obtain ⟨z, hz, hh⟩ := hh;refine ⟨z, hz, ?_⟩;split at hh <;> try exact hh.elim
    simp only [copyL_iff, copyH_iff] at hh ⊢;exact ⟨trivial, hh⟩
 case range t x =>
  rw [<- h x (by simp)]
  split at hh <;> try exact hh.elim
  simp only [copyH_iff] at hh ⊢;exact ⟨trivial, hh⟩
 case next x b =>
  cases b <;> simp only at hh ⊢
  rw [<- h x (by simp)]
  split at hh <;> try exact hh.elim
  split at hh <;> try exact hh.elim
  simp only [copyH_iff] at hh ⊢;exact ⟨fun h0 => ⟨trivial, hh.1 h0⟩, fun b r hb => ⟨trivial, hh.2 b r hb⟩⟩
 case call c =>
  have hargs : c.args.toList.map (aeval e) = c.args.toList.map (aeval e2) := hm _ (fun x hx => h x (by simp [Call.operands]; exact .inr (by simpa using hx)))
  cases hc : c.callee with
  | value g =>
   have hg : aeval e g = aeval e2 g := h g (by simp [Call.operands, hc])
   simp only [hc] at hh ⊢;rw [<- hg, <- hargs];split at hh <;> try exact hh.elim
   . split at hh
     . exact acall_swap hs hh
     . obtain ⟨r, hr, hh⟩ := hh;exact ⟨r, hr, trivial, hh⟩
   . exact acall_swap hs hh
  | invoke r m => simp only [hc] at hh
  | builtin b =>
   simp only [hc] at hh ⊢;cases b <;> simp only at hh ⊢
   case append =>
    split at hh <;> try exact hh.elim
    rename_i s x t t2 ha hat;have e1 : aevo e s = aevo e2 s := by unfold aevo; rw [h s (by simp [Call.operands, hc]; rw [show s ∈ c.args ↔ s ∈ c.args.toList by simp, ha]; simp)]
    have e2' : aevo e x = aevo e2 x := by unfold aevo; rw [h x (by simp [Call.operands, hc]; rw [show x ∈ c.args ↔ x ∈ c.args.toList by simp, ha]; simp)]
    rw [<- e1, <- e2'];split at hh <;> try exact hh.elim
    split at hh <;> try exact hh.elim
    . exact elemsV_mono (fun ys hy => aapp_mono (fun v l hl => ⟨trivial, hl⟩) hy) hh
    . split at hh <;> try exact hh.elim
      exact aApp0_mono (fun v l hl => ⟨trivial, hl⟩) hh
   case cap =>
    split at hh <;> try exact hh.elim
    rename_i s t ha hat;have e1 : aevo e s = aevo e2 s := by unfold aevo; rw [h s (by simp [Call.operands, hc]; rw [show s ∈ c.args ↔ s ∈ c.args.toList by simp, ha]; simp)]
    rw [<- e1];exact aCap_mono (fun v l hl => ⟨trivial, hl⟩) hh
   case copy =>
    split at hh <;> try exact hh.elim
    rename_i d x t t2 ha hat;have e1 : aevo e d = aevo e2 d := by unfold aevo; rw [h d (by simp [Call.operands, hc]; rw [show d ∈ c.args ↔ d ∈ c.args.toList by simp, ha]; simp)]
    have e2' : aevo e x = aevo e2 x := by unfold aevo; rw [h x (by simp [Call.operands, hc]; rw [show x ∈ c.args ↔ x ∈ c.args.toList by simp, ha]; simp)]
    rw [<- e1, <- e2'];exact aCopy_mono (fun v l hl => ⟨trivial, hl⟩) hh
   case clear =>
    split at hh <;> try exact hh.elim
    rename_i s t ha hat;have e1 : aevo e s = aevo e2 s := by unfold aevo; rw [h s (by simp [Call.operands, hc]; rw [show s ∈ c.args ↔ s ∈ c.args.toList by simp, ha]; simp)]
    rw [<- e1];split at hh <;> try exact hh.elim
    split at hh <;> try exact hh.elim
    split at hh <;> try exact hh.elim
    split at hh <;> try exact hh.elim
    refine ⟨hh.1, ?_⟩;have := hh.2;rw [copyH_iff] at this ⊢;exact ⟨trivial, this⟩
 case makeMap t r =>
  cases r <;> simp only at hh ⊢
  exact aMakeMap_mono (fun v l hl => ⟨trivial, hl⟩) hh
 case mapUpdate t m k x =>
  rw [show aevo e2 m = aevo e m by unfold aevo; rw [h m (by simp)], show aevo e2 k = aevo e k by unfold aevo; rw [h k (by simp)], show aeval e2 x = aeval e x from (h x (by simp)).symm]
  exact aMapUpd_mono (fun v l hl => ⟨trivial, hl⟩) hh
 case insert t m k x =>
  rw [show aevo e2 m = aevo e m by unfold aevo; rw [h m (by simp)], show aevo e2 k = aevo e k by unfold aevo; rw [h k (by simp)], show aeval e2 x = aeval e x from (h x (by simp)).symm]
  exact aMapUpd_mono (fun v l hl => ⟨trivial, hl⟩) hh
 case lookup t m k ok =>
  rw [show aevo e2 m = aevo e m by unfold aevo; rw [h m (by simp)], show aevo e2 k = aevo e k by unfold aevo; rw [h k (by simp)]]
  exact aLookup_mono (fun v l hl => ⟨trivial, hl⟩) hh
 case makeSlice t l c =>
  rw [show aevo e2 l = aevo e l by unfold aevo; rw [h l (by simp)], show aevo e2 c = aevo e c by unfold aevo; rw [h c (by simp)]]
  exact aMakeSl_mono (fun v l hl => ⟨trivial, hl⟩) hh
end Go.Proofs.YtcdkklgeepkopaaGreatDoorPg
namespace Go.Proofs.YtcdkklgeepkopaaGreatDoorPg
open Go Go.RowKit
variable [Globs]
variable {P : Program} {T : Nat -> TI}
def blk : Value -> Option Nat
 | .pointer (some a) => some a.block
 | .slice (some a) _ _ => some a.block
 | _ => none
def EOk (X : Ctx) (ev : Operand -> Value) (c : Obj) (o : Oper) (u : Value) (b : Nat) : Prop :=
 ∀ (I : Imm) (ρ : List Pl) (H : List O) (w : World) (e : Env) (K : V -> Env -> List O -> Prop), St I ρ H w -> w.heap[b]? = some c -> (∀ x ∈ o.op.operands, VRel I ρ (aeval e x) (ev x)) -> ae X o.op e H K ->
  ∃ v ob p, K v e (H ++ [ob]) /\ p.b = b /\ VRel I (ρ ++ [p]) v u /\ ORel I (ρ ++ [p]) w p ob /\ (∀ b', ob.owns p b' -> ob.has p /\ p.b = b')
theorem EOk.congr {X : Ctx} {ev ev' : Operand -> Value} {c : Obj} {o : Oper} {u : Value} {b : Nat} (h : EOk X ev c o u b) (he : ∀ x ∈ o.op.operands, ev' x = ev x) : EOk X ev' c o u b :=
 fun I ρ H w e K hst hw hx hae => h I ρ H w e K hst hw (fun x hx' => by rw [<- he x hx']; exact hx x hx') hae
theorem bslice_rel (hT : TIok P T) {t : TypeId} {len : Nat} {parts : Array (Nat × Operand)} {q : TypeId} (hq : okElem (T q) = true) {e : Env} {K : List (List V) -> Prop}
 (h : fillS (T q).size (List.replicate len (T q).zero) (parts.toList.map fun p => (p.1, aeval e p.2)) K) {i : TypeInfo} {z : Value} (g1 : P.info? q = some i) (g2 : i.zero = some z) :
 ∃ es, K es /\ es.length = len /\ AllLen i.size es /\ ∀ (I : Imm) (ρ : List Pl) (ev : Operand -> Value), (∀ p ∈ parts.toList, VRel I ρ (aeval e p.2) (ev p.2)) ->
  ∃ r, Instr.fill (fun j => some (j * i.size, i.size)) (rangeZero z.cells (len * i.size)) (parts.toList.map fun p => (p.1, ev p.2)) = some r /\ VRels I [] es.flatten r.toList /\ (∀ (j : Nat) (u : Value), r[j]? = some u -> u.oneCell' = true) /\ r.size = len * i.size := by
 obtain ⟨i0, z0, h1, h2, g3, g4, g5, g6, g7, g8, hg⟩ := okElem_all hT hq;rw [g1] at h1; cases h1;rw [g2] at h2; cases h2;obtain ⟨i', z', d, f1, f2, f3, f4, f5⟩ := ti_good hT hg;rw [g1] at f1; cases f1;rw [g2] at f2; cases f2;have hzero : (T q).zero = z.cells.toList.map ofVal1 := by rw [f4]
 have hlz : (T q).zero.length = (T q).size := by rw [hzero, g3]; simp [g8]
 obtain ⟨es, hK, hlen, hal, hv⟩ := fillS_sound _ _ h (rep_len hlz len);rw [g3] at hal hv;have hlen' : es.length = len := by rw [hlen]; simp
 refine ⟨es, hK, hlen', hal, fun I ρ ev hev => ?_⟩
 have hflat : VRels I [] (List.replicate len (T q).zero).flatten (rangeZero z.cells (len * i.size)).toList := by
  refine ⟨by rw [flat_len (rep_len hlz len), g3]; simp [rangeZero], fun j x u hx hu => ?_⟩
  have hjl : j < len * z.cells.size := by
   have := (liZ.1 hu).1;simp [rangeZero] at this; rw [g8]; exact this
  have hz0 := rangeZero_get hjl;rw [<- g8] at hu;have hu' : (rangeZero z.cells (len * z.cells.size))[j]? = some u := by simpa using hu
  rw [hz0.1] at hu';obtain ⟨y, h1, h2, h3, h4⟩ := flat_inv (rep_len hlz len) hx;have hy : y = (T q).zero := (List.mem_replicate.1 (List.mem_of_getElem? h1)).2;subst hy;rw [g3, <- g8] at h2;exact (ofVals_rel z.cells).2 (j % z.cells.size) x u (by rw [<- hzero]; exact h2) (by simpa using hu')
 have hone : ∀ (j : Nat) (u : Value), (rangeZero z.cells (len * i.size))[j]? = some u -> u.oneCell' = true := by
  intro j u hu;have hjl : j < len * z.cells.size := by
   have := (Array.getElem?_eq_some_iff.1 hu).1;simp [rangeZero] at this; rw [g8]; exact this
  have hz0 := rangeZero_get hjl;rw [<- g8, hz0.1] at hu;exact ofVals_one f5 _ u hu
 obtain ⟨r, r1, r2, r3⟩ := hv I ρ (rangeZero z.cells (len * i.size)) (parts.toList.map fun p => (p.1, ev p.2)) hflat hone (by simp [List.map_map, Function.comp_def]) (by
  refine ⟨by simp, fun j x u hx hu => ?_⟩
  simp only [List.map_map, List.getElem?_map, Function.comp_def] at hx hu;cases hp : parts.toList[j]? with
  | none => rw [hp] at hx; cases hx
  | some p =>
   rw [hp] at hx hu;cases hx; cases hu;exact hev p (List.mem_of_getElem? hp))
 refine ⟨r, r1, r2, r3, ?_⟩;have := r2.1; rw [flat_len hal, hlen'] at this; simpa using this.symm
theorem run_bslice {t : TypeId} {len : Nat} {parts : Array (Nat × Value)} {q : TypeId} (hu : P.underlying t = some (.slice q)) {i : TypeInfo} {z : Value} (g1 : P.info? q = some i) (g2 : i.zero = some z) (hle : len * i.size <= 16777216) {r : Array Value}
 (hfill : Instr.fill (fun j => some (j * i.size, i.size)) (rangeZero z.cells (len * i.size)) parts.toList = some r) (w : World) :
 (Instr.buildSlice t len parts).run P w = .ok (.slice (some ⟨w.heap.size, 0, none⟩) len len) { w with heap := w.heap.push (.cells r q) } := by
 by_cases h0 : len * i.size = 0
 . have hr0 : rangeZero #[] (len * i.size) = rangeZero z.cells (len * i.size) := by rw [h0]; simp [rangeZero]
   rw [<- hr0] at hfill;unfold Instr.buildSlice;simp only [Sem.run_bind, run_underlying' hu, Result.andThen_ok, run_sizeOf' g1, Sem.run_ite, gt_iff_lt];rw [if_neg (by omega), if_pos h0]
   simp only [Sem.run_pure, Result.andThen_ok];unfold rangeZero at hfill;rw [hfill];simp [newRow]
 . unfold Instr.buildSlice;simp only [Sem.run_bind, run_underlying' hu, Result.andThen_ok, run_sizeOf' g1, Sem.run_ite, gt_iff_lt];rw [if_neg (by omega), if_neg h0]
   unfold rangeZero at hfill;simp only [Sem.run_bind, zeroValue, typeInfo, run_program, Result.andThen_ok, g1, Sem.run_pure, g2];rw [hfill];simp [newRow]
theorem memN_iff {n : Nat} : ∀ {l : List Nat}, memN n l = true ↔ n ∈ l
 | [] => by simp [memN]
 | j :: l => by
  unfold memN;cases hb : Nat.beq n j with
  | true => simp [Nat.eq_of_beq_eq_true hb]
  | false =>
   have : n ≠ j := fun e => by subst e; rw [Nat.beq_refl] at hb; cases hb
   simp [this, memN_iff (l := l)]
theorem fillS_out {sz : Nat} {K : Prop} : ∀ (ps : List (Nat × V)) (es : List (List V)), fillS sz es ps (fun _ => K) -> K
 | [], es, h => h
 | (i, v) :: ps, es, h => by
  unfold fillS at h;split at h
  . exact h.elim
  . split at h
    . rw [copyL_iff] at h;exact fillS_out ps _ h
    . exact h.elim
def partsFit (T : Nat -> TI) (o : Oper) (e : Env) : Prop :=
 match o.op with
 | .buildSlice t len parts => match (T t).kind with
  | .sl q => fillS (T q).size (List.replicate len (T q).zero) (parts.toList.map fun p => (p.1, aeval e p.2)) fun _ => True
  | _ => False
 | _ => True
theorem bfits_get {ops : List Oper} {D : List Nat} {i : Nat} {L : List Nat} {e : Env} {K : Prop} : ∀ {r : List Nat}, bfits T ops D i L e K r -> K /\ ∀ j ∈ r, ∀ o, ops[j]? = some o -> Nat.testBit (D.getD j 0) i = false -> partsFit T o e /\ ((∃ t len parts, o.op = .buildSlice t len parts) -> ∀ k ∈ edgesOf o, k ∉ L)
 | [], h => ⟨h, fun j hj => by cases hj⟩
 | x :: r, h => by
  unfold bfits at h;cases ho : ops[x]? with
  | none =>
   simp only [ho] at h;obtain ⟨h1, h2⟩ := bfits_get h;refine ⟨h1, fun j hj o hoj hb => ?_⟩
   rcases List.mem_cons.1 hj with rfl | hj
   . rw [ho] at hoj; cases hoj
   . exact h2 j hj o hoj hb
  | some ox =>
   simp only [ho] at h;split at h
   . rename_i t len parts hop;split at h
     . rename_i hb1;obtain ⟨h1, h2⟩ := bfits_get h;refine ⟨h1, fun j hj o hoj hb => ?_⟩
       rcases List.mem_cons.1 hj with rfl | hj
       . rw [hb1] at hb; cases hb
       . exact h2 j hj o hoj hb
     . split at h
       . rename_i q hall hk;have hK : bfits T ops D i L e K r := fillS_out _ _ h;obtain ⟨h1, h2⟩ := bfits_get hK;refine ⟨h1, fun j hj o hoj hb => ?_⟩
         rcases List.mem_cons.1 hj with rfl | hj
         . rw [ho] at hoj; cases hoj;refine ⟨?_, fun _ k hk' hkL => ?_⟩
           . unfold partsFit;simp only [hop, hk];exact fillS_mono (fun _ _ => trivial) _ _ h
           . rw [List.all_eq_true] at hall;have := hall k hk';rw [memN_iff.2 hkL] at this;cases this
         . exact h2 j hj o hoj hb
       . exact h.elim
   . rename_i hno;obtain ⟨h1, h2⟩ := bfits_get h;refine ⟨h1, fun j hj o hoj hb => ?_⟩
     rcases List.mem_cons.1 hj with rfl | hj
     . rw [ho] at hoj; cases hoj;refine ⟨?_, fun ⟨t, len, parts, hp⟩ => absurd hp (hno t len parts)⟩
       unfold partsFit;split
       . rename_i t len parts hp; exact absurd hp (hno t len parts)
       . trivial
     . exact h2 j hj o hoj hb
theorem bfit_quiet {ops : List Oper} {D : List Nat} {i : Nat} {o : Oper} {L : List Nat} {e : Env} {K : Prop} (hl : loud o = false) (h : bfit T ops D i o L e K) : K := by
 unfold bfit at h;simp only [hl] at h; exact h
theorem early_run {X : Ctx} (hX : CtxOk X) (hs : X.stab = true) {o : Oper} (hb : bankable o = true) (hok : bankOk1 X.T X.n o = true) {I : Imm} {ρ : List Pl} {H : List O} {w : World} {a : Act} {e : Env} (hfit : partsFit X.T o e) (hrel : (∃ t len parts, o.op = .buildSlice t len parts) -> ∀ x ∈ o.op.operands, VRel I ρ (aeval e x) (a.eval x)) :
 ∃ d u c, o.dst = some d /\ o.guard = none /\ d < X.n /\ (∀ k, o.op ≠ .defer k) /\ (execOp a.eval o).run X.P w = .ok (.value u) { w with heap := w.heap.push c } /\ blk u = some w.heap.size /\ EOk X a.eval c o u w.heap.size := by
 unfold bankable at hb;split at hb <;> try (cases hb; done)
 ·
  rename_i t d hop hg hd;unfold bankOk1 at hok;simp only [hop, hd, Bool.and_eq_true] at hok;obtain ⟨i, z, td, g1, g2, g3, g4, g5⟩ := ti_good hX.T hok.1;refine ⟨d, .pointer (some ⟨w.heap.size, 0, none⟩), .cells z.cells t (0, 0), hd, hg, nbZ hok.2, by simp [hop], ?_, rfl, ?_⟩
  . simp [execOp, hop, Instr.alloc, zeroValue, typeInfo, g1, g2, newVar, newRow]
  . intro I' ρ' H' w' e' K hst hw hx hae;simp only [hop, ae, hok.1, copyL_iff, copyH_iff] at hae;obtain ⟨c1, c2, c3⟩ := cells_new (I := I') (ρ := ρ' ++ [⟨w.heap.size, 0, 0, 0⟩]) (w := w') (cs := (X.T t).zero) (us := z.cells) (by rw [g4]; exact ofVals_rel z.cells) (ofVals_one g5) hw
    refine ⟨_, _, ⟨w.heap.size, 0, 0, 0⟩, hae, rfl, ?_, ⟨rfl, c1, c2, c3⟩, fun _ h => h⟩
    exact VRel.ptr (I := I') (ρ' ++ [⟨w.heap.size, 0, 0, 0⟩]) H'.length 0 ⟨w.heap.size, 0, 0, 0⟩ (by rw [<- hst.len]; simp)
 ·
  rename_i t x d hop hg hd;unfold bankOk1 at hok;simp only [hop, hd] at hok;refine ⟨d, .pointer (some ⟨w.heap.size, 0, none⟩), .cells (a.eval x).cells t (0, 0), hd, hg, nbZ hok, by simp [hop], ?_, rfl, ?_⟩
  . simp [execOp, hop, Instr.box, newVar, newRow]
  . intro I' ρ' H' w' e' K hst hw hx hae;simp only [hop, ae] at hae;cases hc : cellsOf (aeval e' x) <;> simp only [hc] at hae
    rename_i cs;simp only [copyL_iff, copyH_iff] at hae;have hxx : VRel I' ρ' (aeval e' x) (a.eval x) := hx x (by simp [hop, Op.operands])
    obtain ⟨s1, s2, s3, s4⟩ := cellsOf_rel hc hxx;obtain ⟨c1, c2, c3⟩ := cells_new (I := I') (ρ := ρ' ++ [⟨w.heap.size, 0, 0, 0⟩]) (w := w') (cs := cs) (us := (a.eval x).cells) (s2.mono (ILe.refl _) (PLe.append _ _)) s4 hw;refine ⟨_, _, ⟨w.heap.size, 0, 0, 0⟩, hae, rfl, ?_, ⟨rfl, c1, c2, c3⟩, fun _ h => h⟩
    exact VRel.ptr (I := I') (ρ' ++ [⟨w.heap.size, 0, 0, 0⟩]) H'.length 0 ⟨w.heap.size, 0, 0, 0⟩ (by rw [<- hst.len]; simp)
 ·
  rename_i t len parts d hop hg hd;unfold bankOk1 at hok;simp only [hop, hd, Bool.and_eq_true] at hok;obtain ⟨hok, hdn⟩ := hok;cases hk : (X.T t).kind <;> simp only [hk] at hok <;> try (cases hok; done)
  rename_i q;simp only [Bool.and_eq_true] at hok;obtain ⟨hq, hle⟩ := hok;obtain ⟨i, z, g1, g2, g3, g4, g5, g6, g7, g8, hgd⟩ := okElem_all hX.T hq;unfold partsFit at hfit;simp only [hop, hk] at hfit;have hle' : len * i.size <= 16777216 := by rw [<- g3]; exact nbZ hle
  have hmem : ∀ p ∈ parts.toList, p.2 ∈ o.op.operands := fun p hp => by
   simp only [hop, Op.operands];simp only [List.mem_toArray, List.mem_map];exact ⟨p, hp, rfl⟩
  obtain ⟨_, _, _, _, hv⟩ := bslice_rel (parts := parts) (t := t) hX.T hq hfit g1 g2;obtain ⟨r, r1, _, _, rs⟩ := hv I ρ a.eval fun p hp => hrel ⟨t, len, parts, hop⟩ p.2 (hmem p hp)
  have hu := ty_sl hX.T hk;have hmap : (parts.map fun (j, x) => (j, a.eval x)).toList = parts.toList.map fun p => (p.1, a.eval p.2) := by simp
  refine ⟨d, .slice (some ⟨w.heap.size, 0, none⟩) len len, .cells r q (0, 0), hd, hg, nbZ hdn, by simp [hop], ?_, rfl, ?_⟩
  . have := run_bslice (parts := parts.map fun (j, x) => (j, a.eval x)) hu g1 g2 hle' (by rw [hmap]; exact r1) w
    simp [execOp, hop, this]
  . intro I' ρ' H' w' e' K hst hw hx hae;simp only [hop, ae, hs, abs0, hk, hq, hle] at hae;simp only [copyH_iff] at hae;obtain ⟨es, hK, hlen, hal, hv'⟩ := bslice_rel (parts := parts) (t := t) hX.T hq hae g1 g2;obtain ⟨r', q1, q2, q3, q4⟩ := hv' I' ρ' a.eval fun p hp => hx p.2 (hmem p hp)
    rw [r1] at q1; cases q1;refine ⟨_, _, ⟨w.heap.size, 0, i.size, len⟩, hK, rfl, ?_, .inr ⟨by rw [hlen]; exact Nat.le_refl _, ⟨r, q, (0, 0), hw, by rw [Nat.zero_add, rs]; exact Nat.le_refl _, fun o _ => by simp [World.frozen?, hw]⟩, fun j x hxj => ⟨hal x (List.mem_of_getElem? hxj), fun m v hv => ?_⟩⟩, fun _ h => h⟩
    . have := VRel.ms (I := I') (ρ' ++ [⟨w.heap.size, 0, i.size, len⟩]) H'.length 0 len len true ⟨w.heap.size, 0, i.size, len⟩ (by rw [<- hst.len]; simp) (by omega) (by simp) (by simp) (by simp)
      rw [g3];simpa using this
    . have hf := flat_get hal hxj hv;have hlt := (liZ.1 hf).1;rw [q2.1] at hlt;have hlt3 : j * i.size + m < r.size := by simpa using hlt
      refine ⟨r[j * i.size + m], by simp [World.cell?, hw, hlt3], q3 (j * i.size + m) r[j * i.size + m] (by simp [hlt3]), q2.2 (j * i.size + m) v r[j * i.size + m] hf (by simp [hlt3])⟩
end Go.Proofs.YtcdkklgeepkopaaGreatDoorPg
namespace Go.Proofs.YtcdkklgeepkopaaGreatDoorPg
open Go Go.RowKit
variable [Globs]
variable {P : Program} {T : Nat -> TI} {I : Imm} {ρ : List Pl} {H : List O} {w : World} {e : Env}
def PF (X : Ctx) (ops : List Oper) (e : Env) (H : List O) (i : Nat) (ran : Bool) : Prop :=
 ∃ o, ops[i]? = some o /\ loud o = false /\
  (match o.guard with
   | none => ran = true
   | some (j, want) => ∃ d, (ops[j]?).bind (·.dst) = some d /\ ((∃ b, Env.get e d = .bool b /\ ran = (b == want)) \/ (Env.get e d = .tup [] /\ ran = false))) /\
  (match o.dst with
   | none => ran = true -> ∃ v, aq X.T o.op e H (fun u => u = v)
   | some d => d < X.n /\ (ran = true -> aq X.T o.op e H (fun u => u = Env.get e d)) /\ (ran = false -> Env.get e d = .tup []))
def touches (ops : List Oper) (o : Oper) (t : Nat) : Prop := t ∈ looksOf ops o \/ o.dst = some t
theorem looks_aeval {ops : List Oper} {o : Oper} {e e' : Env} (h : ∀ t ∈ looksOf ops o, Env.get e' t = Env.get e t) : ∀ x ∈ o.op.operands, aeval e x = aeval e' x := by
 intro x hx;cases x with
 | tmp t =>
  have : t ∈ looksOf ops o := by
   unfold looksOf;rw [List.mem_append];left
   rw [List.mem_filterMap];exact ⟨.tmp t, by simpa using hx, rfl⟩
  simp only [aeval, h t this]
 | const v => rfl
 | global g => rfl
 | func f => rfl
theorem looks_guard {ops : List Oper} {o : Oper} {j : Nat} {want : Bool} (hg : o.guard = some (j, want)) {d : Nat} (hd : (ops[j]?).bind (·.dst) = some d) : d ∈ looksOf ops o := by
 unfold looksOf;rw [List.mem_append];right
 simp [hg, hd]
theorem PF.env {X : Ctx} {ops : List Oper} {e e' : Env} {H H' : List O} {i : Nat} {ran : Bool} (h : PF X ops e H i ran) (ht : ∀ o, ops[i]? = some o -> ∀ t, touches ops o t -> Env.get e' t = Env.get e t)
 (hr : ∀ o d, ops[i]? = some o -> o.dst = some d -> ran = true -> readsH o.op = true -> aq X.T o.op e' H' (fun u => u = Env.get e' d)) (hr0 : ∀ o, ops[i]? = some o -> o.dst = none -> readsH o.op = true -> ran = true -> H' = H) : PF X ops e' H' i ran := by
 obtain ⟨o, h1, h2, h3, h4⟩ := h;have htl : ∀ t ∈ looksOf ops o, Env.get e' t = Env.get e t := fun t h => ht o h1 t (.inl h)
 have hop := looks_aeval htl;refine ⟨o, h1, h2, ?_, ?_⟩
 . cases hg : o.guard with
   | none => rw [hg] at h3; exact h3
   | some jw =>
    obtain ⟨j, want⟩ := jw;rw [hg] at h3;obtain ⟨d, hd, h5⟩ := h3;refine ⟨d, hd, ?_⟩;rw [htl d (looks_guard hg hd)];exact h5
 . cases hd : o.dst with
   | none =>
    rw [hd] at h4;intro hran;obtain ⟨v, hv⟩ := h4 hran;refine ⟨v, ?_⟩;rw [<- aq_congr hop];cases hre : readsH o.op with
    | false => rw [aq_heap hre e H' H]; exact hv
    | true => rw [hr0 o h1 hd hre hran]; exact hv
   | some d =>
    rw [hd] at h4;obtain ⟨g1, g2, g3⟩ := h4;have hdd : Env.get e' d = Env.get e d := ht o h1 d (.inr hd);refine ⟨g1, fun hran => ?_, fun hran => by rw [hdd]; exact g3 hran⟩
    cases hre : readsH o.op with
    | false => rw [<- aq_congr hop, aq_heap hre e H' H, hdd]; exact g2 hran
    | true => exact hr o d h1 hd hran hre
structure DInv (X : Ctx) (ops : Array Oper) (K : Env -> List O -> Prop) (L : List Nat) (I0 : Imm) (ρ0 : List Pl) (H0 : List O) (w0 : World) (a0 : Act) (M : List Nat) (listed : Array Bool) (a : Act) (w : World) (pre post : List Nat) (recs : List (Nat × Bool)) (e : Env) (H : List O) (I : Imm) (ρ : List Pl) : Prop where
 hL : L = pre ++ post
 hr : recs.map (·.1) = pre.reverse
 C : adgo X ops.toList (clos ops.toList []) K post recs e H
 sz : listed.size = ops.size
 unl : ∀ i ∈ post, listed.getD i false = false
 lst : ∀ i ∈ pre, ∀ o, ops[i]? = some o -> loud o = true -> listed.getD i false = true
 cl : ∀ (i : Nat) (o : Oper), ops[i]? = some o -> listed.getD i false = true -> ∀ k ∈ edgesOf o, listed.getD k false = true
 pf : ∀ i ran, (i, ran) ∈ recs -> listed.getD i false = false -> PF X ops.toList e H i ran
 st : St I ρ H w
 er : ∀ t, t ∉ M -> (∀ i ∈ pre, listed.getD i false = false -> ∀ o, ops[i]? = some o -> o.dst ≠ some t) -> VRel I ρ (Env.get e t) (a.tmps.getD t undef)
 as : a.tmps.size = X.n
 df : a.defers = a0.defers
 step : Step X.k I0 ρ0 H0 w0 I ρ H w
structure DOk (ops : Array Oper) (L : List Nat) : Prop where
 all : ∀ i, i < ops.size -> i ∈ L
 topo : ∀ p i q, L = p ++ i :: q -> i ∉ p /\ ∃ o, ops[i]? = some o /\ ∀ k ∈ edgesOf o, k ∈ p
 loud : ∀ p i q, L = p ++ i :: q -> ∀ o, ops[i]? = some o -> loud o = true -> ∀ j ∈ q, Nat.testBit ((clos ops.toList []).getD j 0) i = true \/ bankAt ops.toList j = true
 apart : ∀ (i j : Nat) (oi oj : Oper), ops[i]? = some oi -> ops[j]? = some oj -> i ≠ j -> ∀ d, oj.dst = some d -> touches ops.toList oi d -> Nat.testBit ((clos ops.toList []).getD i 0) j = true \/ (Go.Proofs.YtcdkklgeepkopaaGreatDoorPg.loud oj = true /\ Nat.testBit ((clos ops.toList []).getD j 0) i = true)
 self : ∀ (i : Nat) (o : Oper), ops[i]? = some o -> Go.Proofs.YtcdkklgeepkopaaGreatDoorPg.loud o = false -> ∀ d, o.dst = some d -> d ∉ looksOf ops.toList o
 reads : ∀ (i : Nat) (o : Oper), ops[i]? = some o -> Go.Proofs.YtcdkklgeepkopaaGreatDoorPg.loud o = false -> o.dst = none -> readsH o.op = false
 len : L.length <= ops.size
 bdist : ∀ (i j : Nat) (oi oj : Oper), ops[i]? = some oi -> ops[j]? = some oj -> i ≠ j -> bankable oi = true -> bankable oj = true -> ∀ d, oi.dst = some d -> oj.dst ≠ some d
 blook : ∀ (i j : Nat) (oi oj : Oper), ops[i]? = some oi -> ops[j]? = some oj -> i ≠ j -> bankable oi = true -> bankable oj = true -> ∀ d, oj.dst = some d -> Operand.tmp d ∈ oi.op.operands -> Nat.testBit ((clos ops.toList []).getD i 0) j = true
 bself : ∀ (i : Nat) (o : Oper), ops[i]? = some o -> bankable o = true -> ∀ d, o.dst = some d -> Operand.tmp d ∉ o.op.operands
theorem topo_split : ∀ (ops : List Oper) (L : List Nat) (done : Nat) (S : List Nat), (∀ j, Nat.testBit done j = true ↔ j ∈ S) -> topoOk ops done L = true -> ∀ p i q, L = p ++ i :: q -> i ∉ S /\ i ∉ p /\ ∃ o, ops[i]? = some o /\ ∀ k ∈ edgesOf o, k ∈ S \/ k ∈ p
 | ops, [], done, S, hS, h, p, i, q, hL => by simp at hL
 | ops, x :: L, done, S, hS, h, p, i, q, hL => by
  simp only [topoOk, Bool.and_eq_true] at h;obtain ⟨h1, h2, h3⟩ := h;cases ho : ops[x]? with
  | none => simp [ho] at h1
  | some o =>
   simp only [ho, readyIn, List.all_eq_true] at h1;have hx : x ∉ S := fun hx => by
    have := (hS x).2 hx;rw [this] at h2; simp at h2
   cases p with
   | nil =>
    simp at hL;obtain ⟨rfl, rfl⟩ := hL;exact ⟨hx, by simp, o, ho, fun k hk => .inl ((hS k).1 (h1 k hk))⟩
   | cons y p =>
    simp at hL;obtain ⟨rfl, rfl⟩ := hL;have hS' : ∀ j, Nat.testBit (done ||| 2 ^ x) j = true ↔ j ∈ x :: S := fun j => by
     rw [Nat.testBit_or, Bool.or_eq_true, hS j, Nat.testBit_two_pow, decide_eq_true_eq, List.mem_cons];constructor
     . rintro (h | h)
       . exact .inr h
       . exact .inl h.symm
     . rintro (h | h)
       . exact .inr h.symm
       . exact .inl h
    obtain ⟨g1, g2, o', g3, g4⟩ := topo_split ops (p ++ i :: q) _ (x :: S) hS' h3 p i q rfl;simp at g1;refine ⟨g1.2, by simp [g1.1, g2], o', g3, fun k hk => ?_⟩
    rcases g4 k hk with h | h
    . rcases List.mem_cons.1 h with h | h
      . exact .inr (by simp [h])
      . exact .inl h
    . exact .inr (by simp [h])
theorem loud_split : ∀ (ops : List Oper) (D L : List Nat), loudOk ops D L = true -> ∀ p i q, L = p ++ i :: q -> ∀ o, ops[i]? = some o -> loud o = true -> ∀ j ∈ q, Nat.testBit (D.getD j 0) i = true \/ bankAt ops j = true
 | ops, D, [], h, p, i, q, hL => by simp at hL
 | ops, D, x :: L, h, p, i, q, hL => by
  simp only [loudOk, Bool.and_eq_true] at h;intro o ho hl j hj;cases p with
  | nil =>
   simp at hL;obtain ⟨rfl, rfl⟩ := hL;have := h.1;simp only [ho, hl, Bool.not_true, Bool.false_or, List.all_eq_true, Bool.or_eq_true] at this;exact this j hj
  | cons y p =>
   simp at hL;obtain ⟨rfl, rfl⟩ := hL;exact loud_split ops D _ h.2 p i q rfl o ho hl j hj
theorem drawOk_all {ops : Array Oper} {L : List Nat} (h : drawOk ops.toList L = true) : DOk ops L := by
 unfold drawOk at h;simp only [Bool.and_eq_true, List.all_eq_true] at h;obtain ⟨h1, h2, h3, h4, h5, h6, h7⟩ := h;refine ⟨fun i hi => ?_, fun p i q hL => ?_, fun p i q hL o ho hl j hj => ?_, fun i j oi oj hi hj hij d hd ht => ?_, fun i o ho hl d hd => ?_, fun i o ho hl hd => ?_, by simpa using nbZ h6, fun i j oi oj hi hj hij hbi hbj d hdi hdj => ?_, fun i j oi oj hi hj hij hbi hbj d hdj hlook => ?_, fun i o ho hbo d hd hlook => ?_⟩
 . have := h1 i (by simpa using hi)
   simpa using this
 . obtain ⟨_, g2, o, g3, g4⟩ := topo_split ops.toList L 0 [] (fun j => by simp) h2 p i q hL
   exact ⟨g2, o, by simpa using g3, fun k hk => by simpa using g4 k hk⟩
 . exact loud_split _ _ _ h3 p i q hL o (by simpa using ho) hl j hj
 . unfold allApart at h4;simp only [List.all_eq_true] at h4;have mem : ∀ (k : Nat) (o : Oper), ops[k]? = some o -> (k, o) ∈ (List.range ops.toList.length).zip ops.toList := fun k o hk => by
    have hlt := (Array.getElem?_eq_some_iff.1 hk).1;apply List.mem_of_getElem? (i := k);rw [List.getElem?_zip_eq_some];exact ⟨by simp [hlt], by simpa using hk⟩
   have := h4 _ (mem i oi hi) _ (mem j oj hj);rw [Bool.or_eq_true] at this;rcases this with h | h
   . exact absurd (Nat.eq_of_beq_eq_true h) hij
   . unfold apart1 at h;simp only [hd] at h;split at h
     . rename_i hfalse;exfalso;rw [Bool.or_eq_false_iff] at hfalse;rcases ht with ht | ht
       . have := hfalse.1; simp at this; exact this ht
       . have := hfalse.2;rw [ht] at this;simp only at this;rw [show Nat.beq d d = true from Nat.beq_refl d] at this; cases this
     . rw [Bool.or_eq_true, Bool.and_eq_true] at h;exact h
 . have := h5 o (by
    have hlt := (Array.getElem?_eq_some_iff.1 ho).1;exact List.mem_of_getElem? (i := i) (by simpa using ho))
   rw [hl, Bool.false_or, hd] at this;simpa using this
 . have := h5 o (by
    have hlt := (Array.getElem?_eq_some_iff.1 ho).1;exact List.mem_of_getElem? (i := i) (by simpa using ho))
   rw [hl, Bool.false_or, hd] at this;simpa using this
 . have mem : ∀ (k : Nat) (o : Oper), ops[k]? = some o -> (k, o) ∈ (List.range ops.toList.length).zip ops.toList := fun k o hk => by
    have hlt := (Array.getElem?_eq_some_iff.1 hk).1;apply List.mem_of_getElem? (i := k);rw [List.getElem?_zip_eq_some];exact ⟨by simp [hlt], by simpa using hk⟩
   unfold bankApart at h7;rw [Bool.and_eq_true] at h7;have h7 := h7.2;simp only [List.all_eq_true] at h7;have := h7 _ (mem i oi hi) _ (mem j oj hj);rw [Bool.or_eq_true] at this;rcases this with h | h
   . exact hij (Nat.eq_of_beq_eq_true h)
   . simp only [hbi, hbj, sameDst, hdi, hdj] at h;rw [show Nat.beq d d = true from Nat.beq_refl d] at h
     simp at h
 . have mem : ∀ (k : Nat) (o : Oper), ops[k]? = some o -> (k, o) ∈ (List.range ops.toList.length).zip ops.toList := fun k o hk => by
    have hlt := (Array.getElem?_eq_some_iff.1 hk).1;apply List.mem_of_getElem? (i := k);rw [List.getElem?_zip_eq_some];exact ⟨by simp [hlt], by simpa using hk⟩
   unfold bankApart at h7;rw [Bool.and_eq_true] at h7;have h7 := h7.2;simp only [List.all_eq_true] at h7;have := h7 _ (mem i oi hi) _ (mem j oj hj);rw [Bool.or_eq_true] at this;rcases this with h | h
   . exact absurd (Nat.eq_of_beq_eq_true h) hij
   . have hl : looksDst oi oj = true := by
      unfold looksDst;simp only [hdj];rw [List.any_eq_true];exact ⟨.tmp d, by simpa using hlook, Nat.beq_refl d⟩
     simp only [hbi, hbj, hl, Bool.true_and, Bool.not_or, Bool.and_eq_true, Bool.not_not] at h;exact h.2
 . have hlt := (Array.getElem?_eq_some_iff.1 ho).1;have hm : (i, o) ∈ (List.range ops.toList.length).zip ops.toList := by
    apply List.mem_of_getElem? (i := i);rw [List.getElem?_zip_eq_some];exact ⟨by simp [hlt], by simpa using ho⟩
   unfold bankApart at h7;rw [Bool.and_eq_true] at h7;have h7 := h7.1;simp only [List.all_eq_true] at h7;have := h7 _ hm;have hl : looksDst o o = true := by
    unfold looksDst;simp only [hd];rw [List.any_eq_true];exact ⟨.tmp d, by simpa using hlook, Nat.beq_refl d⟩
   simp [hbo, hl] at this
theorem DOk.D_pre {ops : Array Oper} {L : List Nat} (h : DOk ops L) {p q : List Nat} {i : Nat} (hL : L = p ++ i :: q) {j : Nat} (hj : Nat.testBit ((clos ops.toList []).getD i 0) j = true) : j ∈ p := by
 obtain ⟨_, o, ho, he⟩ := h.topo p i q hL;refine clos_listed (ops := ops.toList) (S := fun k => k ∈ p) (fun k ok hk hkp m hm => ?_) i o (by simpa using ho) he j hj
 obtain ⟨p1, p2, rfl⟩ := List.append_of_mem hkp;obtain ⟨_, o', ho', he'⟩ := h.topo p1 k (p2 ++ i :: q) (by rw [hL]; simp)
 have : ops[k]? = some ok := by simpa using hk
 rw [this] at ho'; cases ho';have := he' m hm;simp [this]
theorem DInv.push {X : Ctx} {ops : Array Oper} {K : Env -> List O -> Prop} {L : List Nat} {I0 : Imm} {ρ0 : List Pl} {H0 : List O} {w0 : World} {a0 : Act} {M : List Nat} {listed : Array Bool} {a : Act} {w : World} {pre post : List Nat} {recs : List (Nat × Bool)} {e : Env} {H : List O} {I : Imm} {ρ : List Pl}
 (hL : DOk ops L) {i : Nat} (h : DInv X ops K L I0 ρ0 H0 w0 a0 M listed a w pre (i :: post) recs e H I ρ) {o : Oper} (ho : ops[i]? = some o) (hl : loud o = false) {e' : Env} {ran : Bool}
 (hC : adgo X ops.toList (clos ops.toList []) K post ((i, ran) :: recs) e' H) (hsame : ∀ t, o.dst ≠ some t -> Env.get e' t = Env.get e t)
 (hg : match o.guard with
  | none => ran = true
  | some (j, want) => ∃ d, (ops.toList[j]?).bind (·.dst) = some d /\ ((∃ b, Env.get e d = .bool b /\ ran = (b == want)) \/ (Env.get e d = .tup [] /\ ran = false)))
 (hv : match o.dst with
  | none => ran = true -> ∃ v, aq X.T o.op e H (fun u => u = v)
  | some d => d < X.n /\ (ran = true -> aq X.T o.op e H (fun u => u = Env.get e' d)) /\ (ran = false -> Env.get e' d = .tup [])) :
 DInv X ops K L I0 ρ0 H0 w0 a0 M listed a w (pre ++ [i]) post ((i, ran) :: recs) e' H I ρ := by
 have hLs : L = pre ++ i :: post := h.hL;have hown : ∀ t ∈ looksOf ops.toList o, Env.get e' t = Env.get e t := fun t ht => hsame t fun hd => hL.self i o ho hl t hd ht
 have hop := looks_aeval hown;refine ⟨by rw [hLs]; simp, by simp [h.hr], hC, h.sz, fun j hj => h.unl j (by simp [hj]), fun j hj oj hoj hlj => ?_, h.cl, fun j rj hj hlj => ?_, h.st, fun t htM ht => ?_, h.as, h.df, h.step⟩
 . rcases List.mem_append.1 hj with hj | hj
   . exact h.lst j hj oj hoj hlj
   . simp at hj; subst hj;rw [ho] at hoj; cases hoj;rw [hl] at hlj; cases hlj
 . rcases List.mem_cons.1 hj with hj | hj
   . cases hj;refine ⟨o, by simpa using ho, hl, ?_, ?_⟩
     . cases hgd : o.guard with
       | none => rw [hgd] at hg; exact hg
       | some jw =>
        obtain ⟨j, want⟩ := jw;rw [hgd] at hg;obtain ⟨d, hd, h5⟩ := hg;refine ⟨d, hd, ?_⟩;rw [hown d (looks_guard hgd hd)];exact h5
     . cases hd : o.dst with
       | none =>
        rw [hd] at hv;intro hran;obtain ⟨v, hv⟩ := hv hran;exact ⟨v, by rw [<- aq_congr hop]; exact hv⟩
       | some d =>
        rw [hd] at hv;exact ⟨hv.1, fun hran => by rw [<- aq_congr hop]; exact hv.2.1 hran, hv.2.2⟩
   ·
    have hpf := h.pf j rj hj hlj;have hjp : j ∈ pre := by
     have : j ∈ recs.map (·.1) := List.mem_map.2 ⟨_, hj, rfl⟩;rw [h.hr] at this; simpa using this
    have hne : j ≠ i := fun hji => by
     obtain ⟨g1, _⟩ := hL.topo pre i post hLs;exact g1 (hji ▸ hjp)
    have htouch : ∀ oj, ops.toList[j]? = some oj -> ∀ t, touches ops.toList oj t -> Env.get e' t = Env.get e t := by
     intro oj hoj t ht;refine hsame t fun hd => ?_
     rcases hL.apart j i oj o (by simpa using hoj) ho hne t hd ht with hb | ⟨hb, _⟩
     . obtain ⟨p1, p2, hp⟩ := List.append_of_mem hjp;have hi' := hL.D_pre (p := p1) (q := p2 ++ i :: post) (i := j) (by rw [hLs, hp]; simp) hb
       obtain ⟨g1, _⟩ := hL.topo pre i post hLs;exact g1 (by rw [hp]; simp [hi'])
     . rw [hl] at hb; cases hb
    refine hpf.env htouch (fun oj d hoj hd hran hre => ?_) (fun _ _ _ _ _ => rfl)
    obtain ⟨oj', q1, q2, q3, q4⟩ := hpf;rw [hoj] at q1; cases q1;rw [hd] at q4;rw [<- aq_congr (looks_aeval fun t ht => htouch oj hoj t (.inl ht)), htouch oj hoj d (.inr hd)]
    exact q4.2.1 hran
 . have hd : o.dst ≠ some t := ht i (by simp) (h.unl i (by simp)) o ho
   rw [hsame t hd];exact h.er t htM fun j hj hlj oj hoj => ht j (by simp [hj]) hlj oj hoj
theorem get_put {d : Nat} {v : V} {e : Env} : Env.get ((d, v) :: e) d = v := by
 simp only [Env.get];rw [show Nat.beq d d = true from Nat.beq_refl d]
theorem get_put_ne {d t : Nat} (h : d ≠ t) {v : V} {e : Env} : Env.get ((d, v) :: e) t = Env.get e t := by
 simp only [Env.get];cases hb : Nat.beq d t with
 | true => exact absurd (Nat.eq_of_beq_eq_true hb) h
 | false => rfl
theorem get_same {d : Nat} {v : V} {e : Env} (h : Env.get e d = v) (t : Nat) : Env.get ((d, v) :: e) t = Env.get e t := by
 by_cases hd : d = t
 . subst hd; rw [get_put, h]
 . exact get_put_ne hd
def Adv (X : Ctx) (ops : Array Oper) (K : Env -> List O -> Prop) (L : List Nat) (I0 : Imm) (ρ0 : List Pl) (H0 : List O) (w0 : World) (a0 : Act) (M : List Nat) (listed : Array Bool) (a : Act) (w : World) (pre post : List Nat) (H : List O) (I : Imm) (ρ : List Pl) : Prop :=
 ∃ pre' post' recs' e' q, DInv X ops K L I0 ρ0 H0 w0 a0 M listed a w pre' post' recs' e' H I ρ /\ (post' = [] \/ ∃ i r o, post' = i :: r /\ ops[i]? = some o /\ loud o = true) /\
  post = q ++ post' /\ pre' = pre ++ q /\ ∀ i ∈ q, ∃ o, ops[i]? = some o /\ loud o = false
theorem Adv.cons {X : Ctx} {ops : Array Oper} {K : Env -> List O -> Prop} {L : List Nat} {I0 : Imm} {ρ0 : List Pl} {H0 : List O} {w0 : World} {a0 : Act} {M : List Nat} {listed : Array Bool} {a : Act} {w : World} {pre post : List Nat} {H : List O} {I : Imm} {ρ : List Pl} {i : Nat} {o : Oper}
 (ho : ops[i]? = some o) (hl : loud o = false) (h : Adv X ops K L I0 ρ0 H0 w0 a0 M listed a w (pre ++ [i]) post H I ρ) : Adv X ops K L I0 ρ0 H0 w0 a0 M listed a w pre (i :: post) H I ρ := by
 obtain ⟨pre', post', recs', e', q, h1, h2, h3, h4, h5⟩ := h;refine ⟨pre', post', recs', e', i :: q, h1, h2, by rw [h3]; rfl, by rw [h4]; simp, fun k hk => ?_⟩
 rcases List.mem_cons.1 hk with rfl | hk
 . exact ⟨o, ho, hl⟩
 . exact h5 k hk
theorem DInv.advance {X : Ctx} {ops : Array Oper} {K : Env -> List O -> Prop} {L : List Nat} {I0 : Imm} {ρ0 : List Pl} {H0 : List O} {w0 : World} {a0 : Act} {M : List Nat} {listed : Array Bool} {a : Act} {w : World} {H : List O} {I : Imm} {ρ : List Pl} (hL : DOk ops L) :
 ∀ (post pre : List Nat) (recs : List (Nat × Bool)) (e : Env), DInv X ops K L I0 ρ0 H0 w0 a0 M listed a w pre post recs e H I ρ ->
 Adv X ops K L I0 ρ0 H0 w0 a0 M listed a w pre post H I ρ := by
 intro post;induction post with
 | nil => intro pre recs e h; exact ⟨pre, [], recs, e, [], h, .inl rfl, by simp, by simp, by simp⟩
 | cons i post ih =>
  intro pre recs e h;have hC := h.C;unfold adgo at hC;cases ho' : ops.toList[i]? with
  | none => simp only [ho'] at hC
  | some o =>
   simp only [ho'] at hC;have ho : ops[i]? = some o := by simpa using ho'
   cases hl : loud o with
   | true => exact ⟨pre, i :: post, recs, e, [], h, .inr ⟨i, post, o, rfl, ho, hl⟩, by simp, by simp, by simp⟩
   | false =>
    have hC := bfit_quiet hl hC;have runs : ∀ e2 : Env, (∀ t, Env.get e2 t = Env.get e t) -> (match o.guard with
     | none => True
     | some (j, want) => ∃ d, (ops.toList[j]?).bind (·.dst) = some d /\ Env.get e d = .bool want) ->
     dop X ops.toList (clos ops.toList []) i o recs e2 H (adgo X ops.toList (clos ops.toList []) K post ((i, true) :: recs)) ->
     Adv X ops K L I0 ρ0 H0 w0 a0 M listed a w pre (i :: post) H I ρ := by
     intro e2 h2 hg hd;unfold dop at hd;simp only [hl] at hd;obtain ⟨v, hp, haq⟩ := aq_det o.op e2 H _ hd;have haq' : aq X.T o.op e H (fun u => u = v) := by
      rw [aq_congr (e' := e2) (fun x _ => by cases x <;> simp [aeval, h2])]; exact haq
     have hg' : match o.guard with
      | none => true = true
      | some (j, want) => ∃ d, (ops.toList[j]?).bind (·.dst) = some d /\ ((∃ b, Env.get e d = .bool b /\ true = (b == want)) \/ (Env.get e d = .tup [] /\ true = false)) := by
      cases hgd : o.guard with
      | none => rfl
      | some jw =>
       obtain ⟨j, want⟩ := jw;rw [hgd] at hg;obtain ⟨d, h3, h4⟩ := hg;exact ⟨d, h3, .inl ⟨want, h4, by simp⟩⟩
     unfold putE at hp;cases hdst : o.dst with
     | none =>
      simp only [hdst] at hp;exact Adv.cons ho hl (ih _ _ _ (h.push hL ho hl (ran := true) hp (fun t _ => h2 t) hg' (by rw [hdst]; exact fun _ => ⟨v, haq'⟩)))
     | some d =>
      simp only [hdst] at hp;cases hb : Nat.blt d X.n with
      | false => simp only [hb] at hp
      | true =>
       simp only [hb] at hp;exact Adv.cons ho hl (ih _ _ _ (h.push hL ho hl (ran := true) hp (fun t ht => by rw [get_put_ne (fun h => ht (by rw [hdst, h])), h2]) hg' (by
        rw [hdst];exact ⟨nbZ hb, fun _ => by rw [get_put]; exact haq', by simp⟩)))
    have skips : ∀ e2 : Env, (∀ t, Env.get e2 t = Env.get e t) -> (∃ j want d, o.guard = some (j, want) /\ (ops.toList[j]?).bind (·.dst) = some d /\ (Env.get e d = .bool (!want) \/ Env.get e d = .tup [])) ->
     (putE X.n o.dst (.tup []) e2 fun e' => adgo X ops.toList (clos ops.toList []) K post ((i, false) :: recs) e' H) ->
     Adv X ops K L I0 ρ0 H0 w0 a0 M listed a w pre (i :: post) H I ρ := by
     rintro e2 h2 ⟨j, want, d, hgd, h3, h4⟩ hp;have hg' : match o.guard with
      | none => false = true
      | some (j, want) => ∃ d, (ops.toList[j]?).bind (·.dst) = some d /\ ((∃ b, Env.get e d = .bool b /\ false = (b == want)) \/ (Env.get e d = .tup [] /\ false = false)) := by
      rw [hgd];refine ⟨d, h3, ?_⟩;rcases h4 with h4 | h4
      . exact .inl ⟨!want, h4, by cases want <;> rfl⟩
      . exact .inr ⟨h4, rfl⟩
     unfold putE at hp;cases hdst : o.dst with
     | none =>
      simp only [hdst] at hp;exact Adv.cons ho hl (ih _ _ _ (h.push hL ho hl (ran := false) hp (fun t _ => h2 t) hg' (by rw [hdst]; simp)))
     | some d' =>
      simp only [hdst] at hp;cases hb : Nat.blt d' X.n with
      | false => simp only [hb] at hp
      | true =>
       simp only [hb] at hp;exact Adv.cons ho hl (ih _ _ _ (h.push hL ho hl (ran := false) hp (fun t ht => by rw [get_put_ne (fun h => ht (by rw [hdst, h])), h2]) hg' (by
        rw [hdst];exact ⟨nbZ hb, by simp, fun _ => get_put⟩)))
    cases hgd : o.guard with
    | none =>
     simp only [hgd] at hC;exact runs e (fun _ => rfl) (by rw [hgd]; trivial) hC
    | some jw =>
     obtain ⟨j, want⟩ := jw;simp only [hgd] at hC;cases hd : (ops.toList[j]?).bind (·.dst) with
     | none => simp only [hd] at hC
     | some d =>
      simp only [hd] at hC;split at hC
      . rename_i b hb;cases b with
        | true =>
         simp only [branch] at hC;cases want with
         | true => exact runs _ (get_same hb) (by rw [hgd]; exact ⟨d, hd, hb⟩) hC
         | false => exact skips _ (get_same hb) ⟨j, false, d, hgd, hd, .inl hb⟩ hC
        | false =>
         simp only [branch] at hC;cases want with
         | false => exact runs _ (get_same hb) (by rw [hgd]; exact ⟨d, hd, hb⟩) hC
         | true => exact skips _ (get_same hb) ⟨j, true, d, hgd, hd, .inl hb⟩ hC
      . rename_i hb;exact skips e (fun _ => rfl) ⟨j, want, d, hgd, hd, .inr hb⟩ hC
      . exact hC.elim
def pends (ops : Array Oper) (listed : Array Bool) (pre : List Nat) : List Nat := (pre.filter fun i => !listed.getD i false).filterMap fun i => (ops[i]?).bind (·.dst)
theorem mem_pends {ops : Array Oper} {listed : Array Bool} {pre : List Nat} {t : Nat} : t ∈ pends ops listed pre ↔ ∃ i ∈ pre, listed.getD i false = false /\ ∃ o, ops[i]? = some o /\ o.dst = some t := by
 unfold pends;simp only [List.mem_filterMap, List.mem_filter, Bool.not_eq_true', Option.bind_eq_some_iff];constructor
 . rintro ⟨i, ⟨h1, h2⟩, o, h3, h4⟩; exact ⟨i, h1, h2, o, h3, h4⟩
 . rintro ⟨i, h1, h2, o, h3, h4⟩; exact ⟨i, ⟨h1, h2⟩, o, h3, h4⟩
def maskE (ps : List Nat) (e : Env) : Env := ps.map (fun t => (t, V.any)) ++ e
theorem maskE_get (ps : List Nat) (e : Env) (t : Nat) : (t ∈ ps -> Env.get (maskE ps e) t = .any) /\ (t ∉ ps -> Env.get (maskE ps e) t = Env.get e t) := by
 induction ps with
 | nil => exact ⟨fun h => by simp at h, fun _ => rfl⟩
 | cons x ps ih =>
  by_cases hx : x = t
  . subst hx;exact ⟨fun _ => by show Env.get ((x, V.any) :: maskE ps e) x = _; exact get_put, fun h => absurd (by simp) h⟩
  . have e1 : Env.get (maskE (x :: ps) e) t = Env.get (maskE ps e) t := by
     show Env.get ((x, V.any) :: maskE ps e) t = _
     exact get_put_ne hx
    rw [e1];refine ⟨fun h => ih.1 ?_, fun h => ih.2 (fun h' => h (by simp [h']))⟩
    rcases List.mem_cons.1 h with h | h
    . exact absurd h.symm hx
    . exact h
theorem DInv.mask {X : Ctx} {ops : Array Oper} {K : Env -> List O -> Prop} {L : List Nat} {I0 : Imm} {ρ0 : List Pl} {H0 : List O} {w0 : World} {a0 : Act} {M : List Nat} {listed : Array Bool} {a : Act} {w : World} {pre post : List Nat} {recs : List (Nat × Bool)} {e : Env} {H : List O} {I : Imm} {ρ : List Pl}
 (h : DInv X ops K L I0 ρ0 H0 w0 a0 M listed a w pre post recs e H I ρ) : ERel I ρ (maskE (M ++ pends ops listed pre) e) a.tmps := fun t => by
 by_cases ht : t ∈ M ++ pends ops listed pre
 . rw [(maskE_get _ _ _).1 ht]; exact .any _ _
 . rw [(maskE_get _ _ _).2 ht];exact h.er t (fun hm => ht (by simp [hm])) fun i hi hl o ho hd => ht (List.mem_append.2 (.inr (mem_pends.2 ⟨i, hi, hl, o, ho, hd⟩)))
theorem DInv.looks {X : Ctx} {ops : Array Oper} {K : Env -> List O -> Prop} {L : List Nat} {I0 : Imm} {ρ0 : List Pl} {H0 : List O} {w0 : World} {a0 : Act} {M : List Nat} {listed : Array Bool} {a : Act} {w : World} {pre post : List Nat} {recs : List (Nat × Bool)} {e : Env} {H : List O} {I : Imm} {ρ : List Pl}
 (hL : DOk ops L) (h : DInv X ops K L I0 ρ0 H0 w0 a0 M listed a w pre post recs e H I ρ) {i : Nat} {o : Oper} (ho : ops[i]? = some o) (he : ∀ k ∈ edgesOf o, listed.getD k false = true) (hself : loud o = true -> i ∉ pre) {t : Nat} (ht : t ∈ looksOf ops.toList o) (htM : t ∉ M) :
 Env.get (maskE (M ++ pends ops listed pre) e) t = Env.get e t := by
 refine (maskE_get _ _ _).2 fun hp => ?_
 rcases List.mem_append.1 hp with hp | hp
 . exact htM hp
 obtain ⟨j, hj, hlj, oj, hoj, hd⟩ := mem_pends.1 hp;have hcl := clos_listed (ops := ops.toList) (S := fun k => listed.getD k false = true) (fun k ok hk hs m hm => h.cl k ok (by simpa using hk) hs m hm) i o (by simpa using ho) he
 by_cases hij : i = j
 . subst hij;rw [ho] at hoj; cases hoj;cases hl : loud o with
   | false => exact hL.self i o ho hl t hd ht
   | true => exact hself hl hj
 . rcases hL.apart i j o oj ho hoj hij t hd (.inl ht) with hb | ⟨hb, _⟩
   . have := hcl j hb;rw [hlj] at this; cases this
   . have := h.lst j hj oj hoj hb;rw [hlj] at this; cases this
theorem getD_set {listed : Array Bool} {i : Nat} (hi : i < listed.size) (j : Nat) : (listed.setIfInBounds i true).getD j false = if j = i then true else listed.getD j false := by
 by_cases h : j = i
 . subst h; simp [hi]
 . rw [if_neg h];simp [Array.getElem?_setIfInBounds_ne (show i ≠ j from fun e => h e.symm)]
theorem DInv.done {X : Ctx} {ops : Array Oper} {K : Env -> List O -> Prop} {L : List Nat} {I0 : Imm} {ρ0 : List Pl} {H0 : List O} {w0 : World} {a0 : Act} {M : List Nat} {listed : Array Bool} {a : Act} {w : World} {pre post : List Nat} {recs : List (Nat × Bool)} {e : Env} {H : List O} {I : Imm} {ρ : List Pl}
 (hL : DOk ops L) (h : DInv X ops K L I0 ρ0 H0 w0 a0 M listed a w pre post recs e H I ρ) {i : Nat} {o : Oper} (ho : ops[i]? = some o) (hi : i ∈ pre) (he : ∀ k ∈ edgesOf o, listed.getD k false = true) {u : Value}
 (hu : ∀ d, o.dst = some d -> d < X.n /\ VRel I ρ (Env.get e d) u) : DInv X ops K L I0 ρ0 H0 w0 a0 M (listed.setIfInBounds i true) (a.put o.dst u) w pre post recs e H I ρ := by
 have hlt : i < listed.size := by rw [h.sz]; exact (Array.getElem?_eq_some_iff.1 ho).1
 have hnp : ∀ j ∈ post, j ≠ i := fun j hj hji => by
  subst hji;obtain ⟨q1, q2, rfl⟩ := List.append_of_mem hj;obtain ⟨g1, _⟩ := hL.topo (pre ++ q1) j q2 (by rw [h.hL]; simp)
  exact g1 (by simp [hi])
 refine ⟨h.hL, h.hr, h.C, by simp [h.sz], fun j hj => ?_, fun j hj oj hoj hlj => ?_, fun j oj hoj hlj k hk => ?_, fun j rj hj hlj => ?_, h.st, fun t htM ht => ?_, ?_, ?_, h.step⟩
 . rw [getD_set hlt, if_neg (hnp j hj)]; exact h.unl j hj
 . rw [getD_set hlt];by_cases hji : j = i
   . rw [if_pos hji]
   . rw [if_neg hji]; exact h.lst j hj oj hoj hlj
 . rw [getD_set hlt] at hlj ⊢;by_cases hki : k = i
   . rw [if_pos hki]
   . rw [if_neg hki];by_cases hji : j = i
     . subst hji;rw [ho] at hoj; cases hoj;exact he k hk
     . rw [if_neg hji] at hlj;exact h.cl j oj hoj hlj k hk
 . rw [getD_set hlt] at hlj;by_cases hji : j = i
   . rw [if_pos hji] at hlj; cases hlj
   . rw [if_neg hji] at hlj; exact h.pf j rj hj hlj
 . cases hd : o.dst with
   | none =>
    refine h.er t htM fun j hj hlj oj hoj => ?_
    by_cases hji : j = i
    . subst hji; rw [ho] at hoj; cases hoj; rw [hd]; simp
    . exact ht j hj (by rw [getD_set hlt, if_neg hji]; exact hlj) oj hoj
   | some d =>
    obtain ⟨hdn, hrel⟩ := hu d hd;simp only [Act.put];by_cases hdt : d = t
    . subst hdt;rw [show (a.tmps.setIfInBounds d u).getD d undef = u by simp [h.as, hdn]]
      exact hrel
    . rw [show (a.tmps.setIfInBounds d u).getD t undef = a.tmps.getD t undef by simp [Array.getElem?_setIfInBounds_ne hdt]]
      refine h.er t htM fun j hj hlj oj hoj => ?_
      by_cases hji : j = i
      . subst hji; rw [ho] at hoj; cases hoj; rw [hd]; simpa using hdt
      . exact ht j hj (by rw [getD_set hlt, if_neg hji]; exact hlj) oj hoj
 . cases o.dst <;> simp [Act.put, h.as]
 . cases o.dst <;> exact h.df
theorem DInv.next {X : Ctx} {ops : Array Oper} {K : Env -> List O -> Prop} {L : List Nat} {I0 : Imm} {ρ0 : List Pl} {H0 : List O} {w0 : World} {a0 : Act} {M : List Nat} {listed : Array Bool} {a : Act} {w : World} {pre post : List Nat} {recs : List (Nat × Bool)} {e : Env} {H : List O} {I : Imm} {ρ : List Pl} {i : Nat}
 (hL : DOk ops L) (h : DInv X ops K L I0 ρ0 H0 w0 a0 M listed a w pre (i :: post) recs e H I ρ) {o : Oper} (ho : ops[i]? = some o) (he : ∀ k ∈ edgesOf o, listed.getD k false = true) {u : Value} {v : V} {e' : Env} {H' : List O} {I' : Imm} {ρ' : List Pl} {w' : World} {ran : Bool}
 (hC : adgo X ops.toList (clos ops.toList []) K post ((i, ran) :: recs) e' H')
 (hre : ∀ j rj, (j, rj) ∈ recs -> rj = true -> listed.getD j false = false -> ∀ oj, ops.toList[j]? = some oj -> readsH oj.op = true -> ∃ d, oj.dst = some d /\ aq X.T oj.op e' H' (fun u => u = Env.get e' d))
 (hget : ∀ t, o.dst ≠ some t -> Env.get e' t = Env.get e t) (hv : ∀ d, o.dst = some d -> d < X.n /\ Env.get e' d = v) (hu : VRel I' ρ' v u) (hst : St I' ρ' H' w') (her : ERel I' ρ' (maskE (M ++ pends ops listed pre) e) a.tmps) (hstep : Step X.k I0 ρ0 H0 w0 I' ρ' H' w') {M' : List Nat} (hM : ∀ t ∈ M, t ∈ M' \/ o.dst = some t) :
 DInv X ops K L I0 ρ0 H0 w0 a0 M' (listed.setIfInBounds i true) (a.put o.dst u) w' (pre ++ [i]) post ((i, ran) :: recs) e' H' I' ρ' := by
 have hLs : L = pre ++ i :: post := h.hL;have hlt : i < listed.size := by rw [h.sz]; exact (Array.getElem?_eq_some_iff.1 ho).1
 have hnpre : i ∉ pre := (hL.topo pre i post hLs).1;have hcl := clos_listed (ops := ops.toList) (S := fun k => listed.getD k false = true) (fun k ok hk hs m hm => h.cl k ok (by simpa using hk) hs m hm) i o (by simpa using ho) he
 have hnp : ∀ j ∈ post, j ≠ i := fun j hj hji => by
  subst hji;obtain ⟨q1, q2, rfl⟩ := List.append_of_mem hj;obtain ⟨g1, _⟩ := hL.topo (pre ++ j :: q1) j q2 (by rw [hLs]; simp)
  exact g1 (by simp)
 refine ⟨by rw [hLs]; simp, by simp [h.hr], hC, by simp [h.sz], fun j hj => ?_, fun j hj oj hoj hlj => ?_, fun j oj hoj hlj k hk => ?_, fun j rj hj hlj => ?_, hst, fun t htM ht => ?_, ?_, ?_, hstep⟩
 . rw [getD_set hlt, if_neg (hnp j hj)]; exact h.unl j (by simp [hj])
 . rw [getD_set hlt];by_cases hji : j = i
   . rw [if_pos hji]
   . rw [if_neg hji];rcases List.mem_append.1 hj with hj | hj
     . exact h.lst j hj oj hoj hlj
     . simp at hj; exact absurd hj hji
 . rw [getD_set hlt] at hlj ⊢;by_cases hki : k = i
   . rw [if_pos hki]
   . rw [if_neg hki];by_cases hji : j = i
     . subst hji;rw [ho] at hoj; cases hoj;exact he k hk
     . rw [if_neg hji] at hlj;exact h.cl j oj hoj hlj k hk
 . rw [getD_set hlt] at hlj;by_cases hji : j = i
   . rw [if_pos hji] at hlj; cases hlj
   . rw [if_neg hji] at hlj;rcases List.mem_cons.1 hj with hj | hj
     . cases hj; exact absurd rfl hji
     . have hpf := h.pf j rj hj hlj;have hjp : j ∈ pre := by
        have : j ∈ recs.map (·.1) := List.mem_map.2 ⟨_, hj, rfl⟩;rw [h.hr] at this; simpa using this
       have htouch : ∀ oj, ops.toList[j]? = some oj -> ∀ t, touches ops.toList oj t -> Env.get e' t = Env.get e t := by
        intro oj hoj t ht;refine hget t fun hd => ?_
        rcases hL.apart j i oj o (by simpa using hoj) ho hji t hd ht with hb | ⟨_, hb⟩
        . obtain ⟨p1, p2, hp⟩ := List.append_of_mem hjp;have hi' := hL.D_pre (p := p1) (q := p2 ++ i :: post) (i := j) (by rw [hLs, hp]; simp) hb
          exact hnpre (by rw [hp]; simp [hi'])
        . have := hcl j hb;rw [hlj] at this; cases this
       refine hpf.env htouch (fun oj d hoj hd hran hrd => ?_) (fun oj hoj hd hrd hran => ?_)
       . obtain ⟨d', hd', hq⟩ := hre j rj hj hran hlj oj hoj hrd;rw [hd] at hd'; cases hd'; exact hq
       . obtain ⟨d', hd', hq⟩ := hre j rj hj hran hlj oj hoj hrd;rw [hd] at hd'; cases hd'
 . have old : ∀ t, t ∉ M -> (∀ j ∈ pre ++ [i], (listed.setIfInBounds i true).getD j false = false -> ∀ oj, ops[j]? = some oj -> oj.dst ≠ some t) -> VRel I' ρ' (Env.get e t) (a.tmps.getD t undef) := by
    intro t htM ht;have := her t;rw [(maskE_get _ _ _).2 (fun hp => by
     rcases List.mem_append.1 hp with hp | hp
     . exact htM hp
     obtain ⟨j, hj, hlj, oj, hoj, hd⟩ := mem_pends.1 hp;have hji : j ≠ i := fun hji => hnpre (hji ▸ hj)
     exact ht j (by simp [hj]) (by rw [getD_set hlt, if_neg hji]; exact hlj) oj hoj hd)] at this
    exact this
   cases hd : o.dst with
   | none =>
    simp only [Act.put];rw [hget t (by rw [hd]; simp)]
    exact old t (fun hm => by rcases hM t hm with h1 | h1; exact htM h1; rw [hd] at h1; cases h1) ht
   | some d =>
    obtain ⟨hdn, hrel⟩ := hv d hd;simp only [Act.put];by_cases hdt : d = t
    . subst hdt;rw [show (a.tmps.setIfInBounds d u).getD d undef = u by simp [h.as, hdn], hrel]
      exact hu
    . rw [show (a.tmps.setIfInBounds d u).getD t undef = a.tmps.getD t undef by simp [Array.getElem?_setIfInBounds_ne hdt]]
      rw [hget t (by rw [hd]; simpa using hdt)]
      exact old t (fun hm => by
       rcases hM t hm with h1 | h1
       . exact htM h1
       . rw [hd] at h1; cases h1; exact hdt rfl) ht
 . cases o.dst <;> simp [Act.put, h.as]
 . cases o.dst <;> exact h.df
theorem first_un : ∀ (L : List Nat) (f : Nat -> Bool), (∃ i ∈ L, f i = false) -> ∃ p i q, L = p ++ i :: q /\ f i = false /\ ∀ j ∈ p, f j = true
 | [], f, h => by simp at h
 | x :: L, f, h => by
  cases hx : f x with
  | false => exact ⟨[], x, L, rfl, hx, by simp⟩
  | true =>
   obtain ⟨i, hi, hf⟩ := h;have : i ∈ L := by
    rcases List.mem_cons.1 hi with rfl | hi
    . rw [hx] at hf; cases hf
    . exact hi
   obtain ⟨p, j, q, h1, h2, h3⟩ := first_un L f ⟨i, this, hf⟩;exact ⟨x :: p, j, q, by rw [h1]; rfl, h2, fun k hk => by
    rcases List.mem_cons.1 hk with rfl | hk
    . exact hx
    . exact h3 k hk⟩
theorem allListed {ops : Array Oper} {L : List Nat} {listed : Array Bool}
 (hL : DOk ops L) (hs : listed.size = ops.size) (hr : Region.ready .any ops listed = []) : ∀ i ∈ L, listed.getD i false = true := by
 intro i hi;cases hx : listed.getD i false with
 | true => rfl
 | false =>
  obtain ⟨p, j, q, h1, h2, h3⟩ := first_un L (fun i => listed.getD i false) ⟨i, hi, hx⟩
  obtain ⟨_, o, ho, he⟩ := hL.topo p j q h1;have : j ∈ Region.ready .any ops listed := (ready_iff hs).2 ⟨o, ho, h2, fun k hk => h3 k (he k hk)⟩
  rw [hr] at this; simp at this
theorem DInv.finish {X : Ctx} {ops : Array Oper} {K : Env -> List O -> Prop} {L : List Nat} {I0 : Imm} {ρ0 : List Pl} {H0 : List O} {w0 : World} {a0 : Act} {listed : Array Bool} {a : Act} {w : World} {pre : List Nat} {recs : List (Nat × Bool)} {e : Env} {H : List O} {I : Imm} {ρ : List Pl}
 (h : DInv X ops K L I0 ρ0 H0 w0 a0 [] listed a w pre [] recs e H I ρ) (hall : ∀ i ∈ pre, listed.getD i false = true) : K e H /\ St I ρ H w /\ ERel I ρ e a.tmps := by
 have hC := h.C;unfold adgo at hC;exact ⟨hC, h.st, fun t => h.er t (by simp) fun i hi hl => by
  have h2 := hall i hi;rw [hl] at h2; cases h2⟩
theorem recheck_all {X : Ctx} {ops : List Oper} {D : Nat} {e : Env} {H : List O} {K : Prop} : ∀ (recs : List (Nat × Bool)), recheck X ops D e H K recs -> K /\ ∀ j rj, (j, rj) ∈ recs -> rj = true -> Nat.testBit D j = false -> ∀ oj, ops[j]? = some oj -> readsH oj.op = true -> ∃ d, oj.dst = some d /\ aq X.T oj.op e H (fun u => u = Env.get e d)
 | [], h => ⟨h, fun j rj hj => by simp at hj⟩
 | (i, ran) :: r, h => by
  unfold recheck at h;cases hb : ran && !Nat.testBit D i with
  | false =>
   simp only [hb] at h;obtain ⟨h1, h2⟩ := recheck_all r h;refine ⟨h1, fun j rj hj hran hbit oj hoj hrd => ?_⟩
   rcases List.mem_cons.1 hj with hj | hj
   . cases hj; rw [hran, hbit] at hb; simp at hb
   . exact h2 j rj hj hran hbit oj hoj hrd
  | true =>
   simp only [hb] at h;cases ho : ops[i]? with
   | none => simp only [ho] at h
   | some o =>
    simp only [ho] at h;cases hrd : readsH o.op with
    | false =>
     simp only [hrd] at h;obtain ⟨h1, h2⟩ := recheck_all r h;refine ⟨h1, fun j rj hj hran hbit oj hoj hrd' => ?_⟩
     rcases List.mem_cons.1 hj with hj | hj
     . cases hj; rw [ho] at hoj; cases hoj; rw [hrd] at hrd'; cases hrd'
     . exact h2 j rj hj hran hbit oj hoj hrd'
    | true =>
     cases hd : o.dst with
     | none => simp only [hrd, hd] at h
     | some d =>
      simp only [hrd, hd] at h;obtain ⟨h1, h2⟩ := recheck_all r h.2;refine ⟨h1, fun j rj hj hran hbit oj hoj hrd' => ?_⟩
      rcases List.mem_cons.1 hj with hj | hj
      . cases hj; rw [ho] at hoj; cases hoj; exact ⟨d, hd, h.1⟩
      . exact h2 j rj hj hran hbit oj hoj hrd'
theorem filter_less {L : List Nat} {f g : Nat -> Bool} (hfg : ∀ i, g i = true -> f i = true) {i : Nat} (hi : i ∈ L) (h1 : f i = true) (h2 : g i = false) : (L.filter g).length < (L.filter f).length := by
 induction L with
 | nil => simp at hi
 | cons x L ih =>
  have hle : (L.filter g).length <= (L.filter f).length := by
   clear ih hi;induction L with
   | nil => simp
   | cons y L ih =>
    simp only [List.filter_cons];cases hg : g y with
    | true => rw [hfg y hg]; simp; exact ih
    | false => cases f y <;> simp <;> omega
  simp only [List.filter_cons];rcases List.mem_cons.1 hi with rfl | hi
  . rw [h1, h2]; simp; omega
  . have := ih hi;cases hg : g x with
    | true => rw [hfg x hg]; simp; exact this
    | false => cases f x <;> simp <;> omega
end Go.Proofs.YtcdkklgeepkopaaGreatDoorPg
