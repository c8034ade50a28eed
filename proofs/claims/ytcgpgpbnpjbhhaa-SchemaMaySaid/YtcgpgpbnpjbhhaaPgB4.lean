/- Appending, storing, slices laid out: as effects. -/
import Derived.Test.YtcgpgpbnpjbhhaaPgB3
namespace Go.Proofs.YtcgpgpbnpjbhhaaPg
open Go Go.RowKit
variable [Globs]
set_option linter.unusedVariables false
set_option linter.unusedSimpArgs false

variable {P : Program} {T : Nat → TI} {I : Imm} {ρ : List Pl} {H : List O} {w : World} {e : Env}

theorem app_same {k : Nat} {t t2 ty q : TypeId} {i : TypeInfo} (ht : P.underlying t = some (.slice q)) {d2 : TypeDesc} (ht2 : P.underlying t2 = some d2) (hd2 : d2 = .string ∨ ∃ q2, d2 = .slice q2) (hi : P.info? q = some i)
    (hst : St I ρ H w) {A : Option Addr} {len cap : Nat} (hc : len ≤ cap) {x : Value} (hE : Elems P I w x i.size []) {K : V → List O → Prop} {v : V} (hv : VRel I ρ v (.slice A len cap)) (hK : K v H) : AppOk P k I ρ H w K t t2 ty (.slice A len cap) x := by
  obtain ⟨news, n1, n2, n3, n4⟩ := hE.out
  have h0 : news = [] := by have := n3.1; simp at this; exact List.eq_nil_of_length_eq_zero this.symm
  subst h0
  exact ⟨_, _, _, _, _, run_append_none (ty := ty) ht ht2 hd2 hi n1 hc, hK, hst, hv, PLe.refl _, Step.refl _ _ _ _ _⟩

theorem aappend_sound {k : Nat} {t t2 ty q : TypeId} {i : TypeInfo} {z : Value} (ht : P.underlying t = some (.slice q)) {d2 : TypeDesc} (ht2 : P.underlying t2 = some d2) (hd2 : d2 = .string ∨ ∃ q2, d2 = .slice q2) (hi : P.info? q = some i) (hz : i.zero = some z)
    (hb0 : 0 < i.bytes) (hb1 : i.bytes ≤ 65536) (hzs : z.cells.size = i.size) (hs0 : 0 < i.size) (hst : St I ρ H w) (hk : k ≤ ρ.length) {s : V} {u x : Value} (hs : VRel I ρ s u) {ys : List (List V)} (hE : Elems P I w x i.size ys)
    {K : V → List O → Prop} (h : aappend i.size i.bytes s ys H K) : AppOk P k I ρ H w K t t2 ty u x := by
  unfold aappend at h
  split at h
  · rw [vr_nils hs]
    exact app_from0 ht ht2 hd2 hi hz hb0 hb1 hzs hst hk hE h
  · rename_i z' es
    cases hb : Nat.beq z' i.size <;> simp only [hb] at h
    have e0 := Nat.eq_of_beq_eq_true hb
    subst e0
    split at h
    · rename_i hes
      cases hs with
      | sl _ _ _ _ b base cap f g1 g2 =>
        have : cap = 0 := g2 rfl
        subst this
        exact app_from0 ht ht2 hd2 hi hz hb0 hb1 hzs hst hk hE h
      | slnil => exact app_from0 ht ht2 hd2 hi hz hb0 hb1 hzs hst hk hE h
    · rename_i hes
      obtain ⟨h0, h1⟩ := h
      have hs' := hs
      cases hs with
      | sl _ _ _ _ b base cap f g1 g2 g3 g4 g4' g5 =>
        have : cap = es.length := g2 rfl
        subst this
        by_cases hy : ys = []
        · subst hy
          exact app_same ht ht2 hd2 hi hst (Nat.le_refl _) hE hs' (h0 rfl)
        · have hl : AllLen i.size es := fun y hy' => by
            obtain ⟨j, hj⟩ := List.getElem?_of_mem hy'
            exact g3 j y hj
          obtain ⟨news, o1, o2, o3⟩ := first_row (P := P) (I := I) (w := w) (n := es.length) (b := b) (base := base) (cap := es.length) (len := es.length) rfl hl rfl (fun j y j' v hy hv => ⟨f j j', hst.imm _ _ _ (g4 j y j' v hy hv), g4' j y j' v hy hv, g5 j y j' v hy hv⟩)
          have hO : Elems P I w (.slice (some ⟨b, base, none⟩) es.length es.length) i.size es := ⟨news, ⟨fun w' => by simp [Builtin.lenOf], o1⟩, hl, o2, o3⟩
          have hpos : 0 < ys.length := List.length_pos_iff.2 hy
          exact app_grow ht ht2 hd2 hi hz hb0 hb1 hzs hst hk rfl hE hO (by omega) (h1 hy)
      | slnil => exact absurd rfl hes
  · rename_i z' id off len full
    cases hb : Nat.beq z' i.size <;> simp only [hb] at h
    have e0 := Nat.eq_of_beq_eq_true hb
    subst e0
    cases hg : getO H id <;> simp only [hg] at h
    rename_i es
    cases full <;> simp only at h
    · obtain ⟨htip0, hn⟩ := h
      have htip : off + len = es.length := by omega
      have hs' := hs
      generalize hsz : i.size = sz at hs
      cases hs with
      | ms _ _ _ _ cap _ p hp g1 g2 g3 =>
        by_cases hroom : len + ys.length ≤ cap
        · exact app_room ht ht2 hd2 hi hs0 hst hk hp hsz.symm hg htip g1 g2 hE hroom hn
        · have hO : Elems P I w (.slice (some ⟨p.b, p.base + off * p.sz, none⟩) len cap) i.size (es.drop off) := by
            obtain ⟨ys', hK', hs2⟩ := elemsV_sound (P := P) (H := H) (sz := i.size) (x := .ms i.size id off len false) (K := fun l => l = (es.drop off).take len) (by
              unfold elemsV
              simp only [hb]
              simp only [hg]
              exact ⟨by omega, trivial⟩)
            subst hK'
            have := hs2 I ρ w _ hst hs'
            rwa [List.take_of_length_le (by simp; omega)] at this
          have hn' : newBuf i.size i.bytes (es.drop off ++ ys) (H.set id .dead) K := by rw [← setO_eq]; exact hn
          obtain ⟨s0, st0⟩ := hst.drop1 id
          obtain ⟨u, w', v, ρ', H', r1, r2, r3, r4, r5, r6⟩ := app_grow (ty := ty) ht ht2 hd2 hi hz hb0 hb1 hzs s0 hk (os := es.drop off) (sLen := len) (by simp; omega) hE hO (by omega) hn'
          exact ⟨u, w', v, ρ', H', r1, r2, r3, r4, r5, (st0 k).trans r6⟩
      | ms0 =>
        have hd : es.drop off = [] := by apply List.eq_nil_of_length_eq_zero; simp; omega
        rw [hd, List.nil_append] at hn
        have hn' : newBuf i.size i.bytes ys (H.set id .dead) K := by rw [← setO_eq]; exact hn
        obtain ⟨s0, st0⟩ := hst.drop1 id
        obtain ⟨u, w', v, ρ', H', r1, r2, r3, r4, r5, r6⟩ := app_from0 (ty := ty) ht ht2 hd2 hi hz hb0 hb1 hzs s0 hk hE hn'
        exact ⟨u, w', v, ρ', H', r1, r2, r3, r4, r5, (st0 k).trans r6⟩
    · obtain ⟨hle, h0, h1⟩ := h
      have hs' := hs
      have hcap : ∃ A, u = .slice A len len := by
        generalize hsz : i.size = sz at hs
        cases hs with
        | ms _ _ _ _ cap _ p hp g1 g2 g3 => have := g3 rfl; subst this; exact ⟨_, rfl⟩
        | ms0 => exact ⟨_, rfl⟩
      obtain ⟨A, rfl⟩ := hcap
      by_cases hy : ys = []
      · subst hy
        exact app_same ht ht2 hd2 hi hst (Nat.le_refl _) hE hs' (h0 rfl)
      · have hO : Elems P I w (.slice A len len) i.size ((es.drop off).take len) := by
          obtain ⟨ys', hK', hs2⟩ := elemsV_sound (P := P) (H := H) (sz := i.size) (x := .ms i.size id off len true) (K := fun l => l = (es.drop off).take len) (by
            unfold elemsV
            simp only [hb]
            simp only [hg]
            exact ⟨hle, trivial⟩)
          subst hK'
          exact hs2 I ρ w _ hst hs'
        have hpos : 0 < ys.length := List.length_pos_iff.2 hy
        exact app_grow ht ht2 hd2 hi hz hb0 hb1 hzs hst hk (by simp; omega) hE hO (by omega) (h1 hy)
  · exact h.elim

/-! ### a slice laid out -/
def rangeZero (z : Array Value) (n : Nat) : Array Value := (Array.range n).map fun i => z[i % z.size]!

theorem rep_len {sz : Nat} {z : List V} (h : z.length = sz) (n : Nat) : AllLen sz (List.replicate n z) := fun x hx => by rw [(List.mem_replicate.1 hx).2]; exact h

theorem rangeZero_get {z : Array Value} {n k : Nat} (hk : k < n * z.size) : (rangeZero z (n * z.size))[k]? = z[k % z.size]? ∧ 0 < z.size := by
  have h0 : 0 < z.size := by
    rcases Nat.eq_zero_or_pos z.size with h | h
    · rw [h] at hk; omega
    · exact h
  have hm : k % z.size < z.size := Nat.mod_lt _ h0
  refine ⟨?_, h0⟩
  simp [rangeZero, hk, hm]

theorem pureV_nil {v : V} (h : pureV v = true) {u : Value} (hr : VRel I ρ v u) : VRel I [] v u := by
  cases hr <;> simp [pureV] at h
  case bool => exact .bool _ _
  case int => exact .int _ _ _
  case str => exact .str _ _
  case ip cs off b base f h1 h2 h3 => exact .ip _ _ _ _ _ f h1 h2 h3
  case nilp => exact .nilp _
  case sl sz es full b base cap f g1 g2 g3 g4 g5 g6 => exact .sl _ _ _ _ _ _ _ f g1 g2 g3 g4 g5 g6
  case slnil => exact .slnil _ _ _ _
  case nils => exact .nils _
  case fn f as bs us ws h1 h2 h3 h4 =>
    cases as with
    | cons a as => simp [pureV] at h
    | nil =>
      cases bs with
      | cons b bs => simp [pureV] at h
      | nil => exact .fn _ _ _ _ _ _ h1 h2 (fun i a u ha => by simp at ha) (fun i a u ha => by simp at ha)
  case nilf => exact .nilf _
  case nilm => exact .nilm _
  case nili => exact .nili _
  case glob => exact .glob _ _
  case im v h1 h2 => exact .im _ _ _ h1 h2

theorem rels_pure {cs : List V} (h : cs.all pureV = true) {us : List Value} (hr : VRels I ρ cs us) : VRels I [] cs us :=
  ⟨hr.1, fun i a u ha hu => pureV_nil (List.all_eq_true.1 h a (List.mem_of_getElem? ha)) (hr.2 i a u ha hu)⟩

/-- An element set anew, as a row of cells. -/
theorem flat_set {sz : Nat} {es : List (List V)} (hl : AllLen sz es) {i : Nat} (hi : i < es.length) {cs : List V} (hc : cs.length = sz) : (es.set i cs).flatten = es.flatten.take (i * sz) ++ cs ++ es.flatten.drop (i * sz + cs.length) := by
  induction es generalizing i with
  | nil => simp at hi
  | cons y es ih =>
    have hy := hl y (by simp)
    cases i with
    | zero =>
      simp only [List.set_cons_zero, List.flatten_cons, Nat.zero_mul, List.take_zero, List.nil_append, Nat.zero_add, hc, ← hy]
      rw [List.drop_left]
    | succ i =>
      have hi' : i < es.length := by simpa using hi
      simp only [List.set_cons_succ, List.flatten_cons]
      rw [ih (fun z hz => hl z (by simp [hz])) hi']
      have e1 : (i + 1) * sz = y.length + i * sz := by rw [hy, Nat.add_mul]; omega
      rw [e1, List.take_length_add_append, Nat.add_assoc, List.drop_length_add_append]
      simp [List.append_assoc]

theorem fillS_sound {sz : Nat} : ∀ (parts : List (Nat × V)) (es : List (List V)) {K : List (List V) → Prop}, fillS sz es parts K → AllLen sz es → ∃ es', K es' ∧ es'.length = es.length ∧ AllLen sz es' ∧ ∀ (I : Imm) (ρ : List Pl) (us : Array Value) (ps : List (Nat × Value)),
    VRels I [] es.flatten us.toList → (∀ (i : Nat) (u : Value), us[i]? = some u → u.oneCell' = true) → ps.map (·.1) = parts.map (·.1) → VRels I ρ (parts.map (·.2)) (ps.map (·.2)) →
    ∃ r, Instr.fill (fun i => some (i * sz, sz)) us ps = some r ∧ VRels I [] es'.flatten r.toList ∧ (∀ (i : Nat) (u : Value), r[i]? = some u → u.oneCell' = true) := by
  intro parts
  induction parts with
  | nil =>
    intro es K h hl
    refine ⟨es, h, rfl, hl, fun I ρ us ps hc h1 hi hr => ?_⟩
    have : ps = [] := by simpa using hi
    subst this
    exact ⟨us, rfl, hc, h1⟩
  | cons p parts ih =>
    intro es K h hl
    obtain ⟨i, v⟩ := p
    unfold fillS at h
    cases hc : cellsOf v <;> simp only [hc] at h
    rename_i cs
    split at h <;> try exact h.elim
    rename_i hb1 hb2 hb3
    rw [copyL_iff] at h
    have e0 := Nat.eq_of_beq_eq_true hb1
    have hlt : i < es.length := Nat.le_of_ble_eq_true hb2
    have hl' : AllLen sz (es.set i cs) := fun y hy => by
      rcases List.mem_or_eq_of_mem_set hy with h1 | h1
      · exact hl y h1
      · rw [h1]; exact e0
    obtain ⟨es', hK, hlen, hal, hv⟩ := ih _ h hl'
    refine ⟨es', hK, by rw [hlen]; simp, hal, fun I ρ us ps hcells h1 hi hr => ?_⟩
    cases ps with
    | nil => simp at hi
    | cons q ps =>
      obtain ⟨j, u⟩ := q
      simp at hi
      obtain ⟨rfl, hi⟩ := hi
      obtain ⟨u', us', e1, e2, e3⟩ := hr.cons_inv
      simp at e1
      obtain ⟨rfl, rfl⟩ := e1
      obtain ⟨s1, s2, s3, s4⟩ := cellsOf_rel hc e2
      have s2' := rels_pure hb3 s2
      have hsz : us.size = es.length * sz := by have := hcells.1; rw [flat_len hl] at this; simp at this; exact this.symm
      have hfit : j * sz + cs.length ≤ es.flatten.length := by
        rw [flat_len hl, e0, show j * sz + sz = (j + 1) * sz by rw [Nat.add_mul]; omega]
        exact Nat.mul_le_mul_right _ hlt
      have key := rels_splice hcells s2' hfit
      rw [← flat_set hl hlt e0] at key
      obtain ⟨r, h2, h3, h4⟩ := hv I ρ (u.cells.zipIdx.foldl (fun cs (c, q) => cs.setIfInBounds (j * sz + q) c) us) ps (by
        rw [← Array.foldl_toList]
        simpa using key) (fun m x hx => by
        rw [← Array.foldl_toList] at hx
        have hx' : ((u.cells.toList.zipIdx 0).foldl (fun (c : Array Value) (p : Value × Nat) => c.setIfInBounds (j * sz + p.2) p.1) us)[m]? = some x := by simpa using hx
        rw [foldl_get _ us (j * sz) 0 (by rw [flat_len hl] at hfit; simp [s1, hsz]; omega)] at hx'
        split at hx'
        · exact s4 _ x (by simpa using hx')
        · exact h1 _ x hx') hi e3
      refine ⟨r, ?_, h3, h4⟩
      unfold Instr.fill
      simp only
      rw [if_neg]
      · exact h2
      · rw [flat_len hl] at hfit
        simp [s1, e0, hsz]; omega

theorem e_buildSlice (hT : TIok P T) {k : Nat} {o : Oper} {t : TypeId} {len : Nat} {parts : Array (Nat × Operand)} (ho : o.op = .buildSlice t len parts) {K : V → Env → List O → Prop} {q : TypeId} (hk' : (T t).kind = .sl q) (hq : okElem (T q) = true)
    (hle : len * (T q).size ≤ 16777216) (h : fillS (T q).size (List.replicate len (T q).zero) (parts.toList.map fun p => (p.1, aeval e p.2)) fun es => K (.ms (T q).size H.length 0 len true) e (H ++ [.buf es])) : ESem P k o e H K := by
  obtain ⟨i, z, g1, g2, g3, g4, g5, g6, g7, g8, hg⟩ := okElem_all hT hq
  obtain ⟨i', z', d, f1, f2, f3, f4, f5⟩ := ti_good hT hg
  rw [g1] at f1; cases f1
  rw [g2] at f2; cases f2
  have hzero : (T q).zero = z.cells.toList.map ofVal1 := by rw [f4]
  have hlz : (T q).zero.length = (T q).size := by rw [hzero, g3]; simp [g8]
  have hu := ty_sl hT hk'
  obtain ⟨es, hK, hlen, hal, hv⟩ := fillS_sound _ _ h (rep_len hlz len)
  rw [g3] at hle hK hal hv
  refine esem_value (by simp [ho]) fun I ρ w a hst he hk => ?_
  have hflat : VRels I [] (List.replicate len (T q).zero).flatten (rangeZero z.cells (len * i.size)).toList := by
    refine ⟨by rw [flat_len (rep_len hlz len), g3]; simp [rangeZero], fun j x u hx hu => ?_⟩
    have hjl : j < len * z.cells.size := by
      have := (List.getElem?_eq_some_iff.1 hu).1
      simp [rangeZero] at this; rw [g8]; exact this
    have hz0 := rangeZero_get hjl
    rw [← g8] at hu
    have hu' : (rangeZero z.cells (len * z.cells.size))[j]? = some u := by simpa using hu
    rw [hz0.1] at hu'
    obtain ⟨y, h1, h2, h3, h4⟩ := flat_inv (rep_len hlz len) hx
    have hy : y = (T q).zero := (List.mem_replicate.1 (List.mem_of_getElem? h1)).2
    subst hy
    rw [g3, ← g8] at h2
    exact (ofVals_rel z.cells).2 (j % z.cells.size) x u (by rw [← hzero]; exact h2) (by simpa using hu')
  have hone : ∀ (j : Nat) (u : Value), (rangeZero z.cells (len * i.size))[j]? = some u → u.oneCell' = true := by
    intro j u hu
    have hjl : j < len * z.cells.size := by
      have := (Array.getElem?_eq_some_iff.1 hu).1
      simp [rangeZero] at this; rw [g8]; exact this
    have hz0 := rangeZero_get hjl
    rw [← g8, hz0.1] at hu
    exact ofVals_one f5 _ u hu
  obtain ⟨r, r1, r2, r3⟩ := hv I ρ (rangeZero z.cells (len * i.size)) (parts.toList.map fun p => (p.1, a.eval p.2)) hflat hone (by simp [List.map_map, Function.comp_def]) (by
    have := rels_map (aeval_rel he) (parts.toList.map (·.2))
    simpa [List.map_map, Function.comp_def] using this)
  have hlen' : es.length = len := by rw [hlen]; simp
  have hrs : r.size = len * i.size := by have := r2.1; rw [flat_len hal, hlen'] at this; simpa using this.symm
  obtain ⟨s1, s2⟩ := new_buf hst k hk (es := es) (sz := i.size) (tot := len) (us := r) hal (by
    rw [List.take_of_length_le (by rw [hlen']; simp [hrs])]; exact r2) (fun j u _ hu => r3 j u hu) (by omega) hrs q w rfl rfl rfl rfl
  refine ⟨.slice (some ⟨w.heap.size, 0, none⟩) len len, _, I, _, e, _, _, .inl ?_, hK, s1, ?_, he.mono (ILe.refl _) (PLe.append _ _), s2⟩
  · have hle' : ¬ (16777216 < len * i.size) := by omega
    have hmap : (parts.map fun (j, x) => (j, a.eval x)).toList = parts.toList.map fun p => (p.1, a.eval p.2) := by simp
    have hfill : Instr.fill (fun j => some (j * i.size, i.size)) (rangeZero z.cells (len * i.size)) (parts.map fun (j, x) => (j, a.eval x)).toList = some r := by rw [hmap]; exact r1
    by_cases h0 : len * i.size = 0
    · have hr0 : rangeZero #[] (len * i.size) = rangeZero z.cells (len * i.size) := by rw [h0]; simp [rangeZero]
      rw [← hr0] at hfill
      have h2 : (Instr.buildSlice t len (parts.map fun (j, x) => (j, a.eval x))).run P w = .ok (.slice (some ⟨w.heap.size, 0, none⟩) len len) { w with heap := w.heap.push (.cells r q) } := by
        unfold Instr.buildSlice
        simp only [Sem.run_bind, run_underlying' hu, Result.andThen_ok, run_sizeOf' g1, Sem.run_ite, gt_iff_lt]
        rw [if_neg (by omega), if_pos h0]
        simp only [Sem.run_pure, Result.andThen_ok]
        unfold rangeZero at hfill
        rw [hfill]
        simp [newRow]
      simp [execOp, ho, h2]
    · have h2 : (Instr.buildSlice t len (parts.map fun (j, x) => (j, a.eval x))).run P w = .ok (.slice (some ⟨w.heap.size, 0, none⟩) len len) { w with heap := w.heap.push (.cells r q) } := by
        unfold Instr.buildSlice
        simp only [Sem.run_bind, run_underlying' hu, Result.andThen_ok, run_sizeOf' g1, Sem.run_ite, gt_iff_lt]
        rw [if_neg (by omega), if_neg h0]
        unfold rangeZero at hfill
        simp only [Sem.run_bind, zeroValue, typeInfo, run_program, Result.andThen_ok, g1, Sem.run_pure, g2]
        rw [hfill]
        simp [newRow]
      simp [execOp, ho, h2]
  · have := VRel.ms (I := I) (ρ ++ [⟨w.heap.size, 0, i.size, len⟩]) H.length 0 len len true ⟨w.heap.size, 0, i.size, len⟩ (by rw [← hst.len]; simp) (by omega) (by simp) (by simp)
    simpa using this

/-! ### a store -/
theorem run_storeVar' {t : TypeId} {i : TypeInfo} (hi : P.info? t = some i) {b o : Nat} {u : Value} (hsz : u.cells.size = i.size) (hc : ∀ j, j < u.cells.size → (w.cell? ⟨b, o + j, none⟩).isSome = true) (hf : ∀ j, j < u.cells.size → w.frozen? ⟨b, o + j, none⟩ = false)
    (h1 : ∀ (i : Nat) (x : Value), u.cells[i]? = some x → x.oneCell' = true) : (storeVar t ⟨b, o, none⟩ u).run P w = .ok () (w.setCells b o u.cells.toList) := by
  have := run_storeCells_cells (P := P) b o u.cells.toList 0 w (by simpa using hc) (by simpa using hf) (fun v hv => by
    obtain ⟨j, hj⟩ := List.getElem?_of_mem hv
    exact h1 j v (by simpa using hj))
  simp only [storeVar, Sem.run_bind, run_sizeOf' hi, Result.andThen_ok, Sem.run_ite]
  rw [if_neg (by simp [hsz])]
  simpa using this

theorem CellsAt.spliced {b lo hi : Nat} {base off : Nat} {old cs : List V} (h : CellsAt I ρ w b base old) (hop : Open w b lo hi) {vs : List Value} (hr : VRels I ρ cs vs) (h1 : ∀ u ∈ vs, u.oneCell' = true) (hle : off + cs.length ≤ old.length) (hhi : base + off + vs.length ≤ hi) :
    CellsAt I ρ (w.setCells b (base + off) vs) b base (old.take off ++ cs ++ old.drop (off + cs.length)) := by
  intro i v hv
  rw [List.append_assoc] at hv
  by_cases hi1 : i < off
  · rw [List.getElem?_append_left (by simp; omega), List.getElem?_take_of_lt hi1] at hv
    obtain ⟨u, c1, c2, c3⟩ := h i v hv
    exact ⟨u, by rw [World.cell?_setCells_out _ _ _ _ _ (fun _ _ => by simp; omega)]; exact c1, c2, c3⟩
  · have e0 : (old.take off).length = off := by simp; omega
    rw [List.getElem?_append_right (by omega), e0] at hv
    by_cases hi2 : i < off + cs.length
    · rw [List.getElem?_append_left (by omega)] at hv
      have hlt : i - off < vs.length := by rw [← hr.1]; omega
      have := World.cell?_setCells_in b vs (base + off) w (fun j hj => hop.cell (by omega)) (i - off) hlt
      refine ⟨vs[i - off], ?_, h1 _ (List.getElem_mem hlt), hr.2 _ v _ hv (List.getElem?_eq_getElem hlt)⟩
      rw [← this]; congr 2; omega
    · rw [List.getElem?_append_right (by omega), List.getElem?_drop] at hv
      rw [show off + cs.length + (i - off - cs.length) = i by omega] at hv
      obtain ⟨u, c1, c2, c3⟩ := h i v hv
      have := hr.1
      exact ⟨u, by rw [World.cell?_setCells_out _ _ _ _ _ (fun _ _ => by simp; omega)]; exact c1, c2, c3⟩

/-- An object of which cells have been written. -/
theorem st_write (hst : St I ρ H w) (k : Nat) (hk : k ≤ ρ.length) {id : Nat} {p : Pl} {o o' : O} (hp : ρ[id]? = some p) (ho : H[id]? = some o) (hh : o.has p) (hh' : o'.has p) {off : Nat} {vs : List Value} (horel : ORel I ρ (w.setCells p.b off vs) p o') :
    St I ρ (H.set id o') (w.setCells p.b off vs) ∧ Step k I ρ H w I ρ (H.set id o') (w.setCells p.b off vs) := by
  have hlt := (List.getElem?_eq_some_iff.1 ho).1
  have e2 : (H.set id o')[id]? = some o' := by rw [List.getElem?_set_self hlt]
  have e3 : ∀ (i : Nat) (x : O), i ≠ id → (H.set id o')[i]? = some x → x = .dead ∨ H[i]? = some x := fun i x hi hx => .inr (by rwa [List.getElem?_set_ne (by omega)] at hx)
  have hown : Owned ρ H p.b := ⟨id, p, o, hp, ho, hh.owns⟩
  obtain ⟨m1, m2, m3, m4⟩ := setCells_same p.b vs off w
  exact ⟨hst.one id p o' (by simp [hst.len]) (PLe.refl _) hp e2 e3 (fun _ _ _ h => h) (fun b _ hb => setCells_other _ _ _ _ _ hb) (fun hn => absurd hh' hn) (fun _ i q x hi hq hx hhx => by
      rcases e3 i x hi hx with rfl | hx'
      · exact hhx.1
      · exact hi (hst.inj i id q p x o p.b hq hx' hhx hp ho hh.owns)) (fun _ => hst.sep _ hown) horel (hh'.one),
    Step.one id p o' k hk (PLe.refl _) hp e2 e3 (fun _ _ _ h => h) (fun b _ hb => setCells_other _ _ _ _ _ hb) (fun hn => absurd hh' hn) (fun _ => .inl hown) m1 m2 m3 (by rw [m4]; exact Nat.le_refl _) (hh'.one)⟩

theorem e_store_ptr (hT : TIok P T) {k : Nat} {o : Oper} {t : TypeId} {x y : Operand} (ho : o.op = .store t x y) {K : V → Env → List O → Prop} (hg : (T t).good = true) {cs old : List V} {id off : Nat} (hc : cellsOf (aeval e y) = some cs) (hsz : cs.length = (T t).size)
    (hx : aeval e x = .ptr id off) (hob : getO H id = .cells old) (hle : off + cs.length ≤ old.length) (h : K (.tup []) e (H.set id (.cells (old.take off ++ cs ++ old.drop (off + cs.length))))) : ESem P k o e H K := by
  obtain ⟨i, z, d, g1, g2, g3, g4, _⟩ := ti_good hT hg
  have hsz' : (T t).size = i.size := by rw [g4]
  refine esem_value (by simp [ho]) fun I ρ w a hst he hk => ?_
  have hrx := aeval_rel he x
  rw [hx] at hrx
  obtain ⟨p, hp, hu⟩ := vr_ptr hrx
  have hH := getO_some hob (by simp)
  obtain ⟨hb0, ⟨c, ct, fr, hblk, hcs⟩, hop, hcells⟩ := hst.obj id p _ hp hH
  obtain ⟨s1, s2, s3, s4⟩ := cellsOf_rel hc (aeval_rel he y)
  have hlen : (a.eval y).cells.toList.length = cs.length := by simp [s1]
  have hrun := run_storeVar' (P := P) (w := w) g1 (b := p.b) (o := p.base + off) (u := a.eval y) (by rw [s1, hsz, hsz']) (fun j hj => hop.cell (by omega)) (fun j hj => by
    obtain ⟨c', t', fr', c1, c2, c3⟩ := hop
    exact c3 _ (by omega) (by omega)) s4
  have h1v : ∀ u ∈ (a.eval y).cells.toList, u.oneCell' = true := fun u hu => by
    obtain ⟨j, hj⟩ := List.getElem?_of_mem hu
    exact s4 j u (by simpa using hj)
  have hsp := hcells.spliced hop s2 h1v hle (by rw [hlen]; omega)
  have hl' : (old.take off ++ cs ++ old.drop (off + cs.length)).length = old.length := by simp; omega
  rw [Nat.zero_add] at hsp
  have horel : ORel I ρ (w.setCells p.b (p.base + off) (a.eval y).cells.toList) p (.cells (old.take off ++ cs ++ old.drop (off + cs.length))) := by
    rw [hb0, Nat.zero_add]
    obtain ⟨c', b1, b2⟩ := setCells_block p.b (a.eval y).cells.toList off w hblk
    exact ⟨hb0, ⟨c', ct, fr, b1, by rw [b2, hcs, hl']⟩, by rw [hl']; exact hop.setCells _ _, hsp⟩
  obtain ⟨w1, w2⟩ := st_write (o' := .cells (old.take off ++ cs ++ old.drop (off + cs.length))) hst k hk hp hH trivial trivial horel
  refine ⟨undef, _, I, ρ, e, _, _, .inr ⟨?_, rfl⟩, h, w1, .tup _ _ _ rfl (fun i a u ha => by simp at ha), he, w2⟩
  simp [execOp, ho, Instr.storeAt, Instr.sureAddr, hu, hrun]

theorem e_store_ep (hT : TIok P T) {k : Nat} {o : Oper} {t : TypeId} {x y : Operand} (ho : o.op = .store t x y) {K : V → Env → List O → Prop} (hg : (T t).good = true) {cs old : List V} {es : List (List V)} {id i j : Nat} (hc : cellsOf (aeval e y) = some cs) (hsz : cs.length = (T t).size)
    (hx : aeval e x = .ep id i j) (hob : getO H id = .buf es) (hpure : cs.all pureV = true) (hes : es[i]? = some old) (hle : j + cs.length ≤ old.length) (h : K (.tup []) e (H.set id (.buf (es.set i (old.take j ++ cs ++ old.drop (j + cs.length)))))) : ESem P k o e H K := by
  obtain ⟨ti, z, d, g1, g2, g3, g4, _⟩ := ti_good hT hg
  have hsz' : (T t).size = ti.size := by rw [g4]
  refine esem_value (by simp [ho]) fun I ρ w a hst he hk => ?_
  have hrx := aeval_rel he x
  rw [hx] at hrx
  obtain ⟨p, hp, hu⟩ := vr_ep hrx
  have hH := getO_some hob (by simp)
  obtain ⟨q1, q2, q3, q4⟩ := ep_cells hst hp hob hes
  have hil : i < es.length := (List.getElem?_eq_some_iff.1 hes).1
  have htot : p.tot ≠ 0 := by omega
  obtain ⟨s1, s2, s3, s4⟩ := cellsOf_rel hc (aeval_rel he y)
  have s2' := rels_pure hpure s2
  have hlen : (a.eval y).cells.toList.length = cs.length := by simp [s1]
  have hi1 : i * p.sz + p.sz ≤ p.tot * p.sz := by
    rw [show i * p.sz + p.sz = (i + 1) * p.sz by rw [Nat.add_mul]; omega]
    exact Nat.mul_le_mul_right _ (by omega)
  have hrun := run_storeVar' (P := P) (w := w) g1 (b := p.b) (o := p.base + (i * p.sz + j)) (u := a.eval y) (by rw [s1, hsz, hsz']) (fun j' hj => q4.cell (by omega)) (fun j' hj => by
    obtain ⟨c', t', fr', c1, c2, c3⟩ := q4
    exact c3 _ (by omega) (by omega)) s4
  have h1v : ∀ u ∈ (a.eval y).cells.toList, u.oneCell' = true := fun u hu => by
    obtain ⟨j', hj⟩ := List.getElem?_of_mem hu
    exact s4 j' u (by simpa using hj)
  have hsp := q2.spliced q4 s2' h1v hle (by rw [hlen]; omega)
  have hl' : (old.take j ++ cs ++ old.drop (j + cs.length)).length = old.length := by simp; omega
  have hobj := hst.obj id p _ hp hH
  rcases hobj with ⟨_, h0⟩ | ⟨o1, o2, o3⟩
  · exact absurd h0 htot
  have horel : ORel I ρ (w.setCells p.b (p.base + (i * p.sz + j)) (a.eval y).cells.toList) p (.buf (es.set i (old.take j ++ cs ++ old.drop (j + cs.length)))) := by
    refine .inr ⟨by simpa using o1, o2.setCells _ _, fun m y' hy => ?_⟩
    by_cases hm : m = i
    · subst hm
      rw [List.getElem?_set_self hil] at hy
      cases hy
      exact ⟨by rw [hl', q1], by rw [← Nat.add_assoc]; exact hsp⟩
    · rw [List.getElem?_set_ne (by omega)] at hy
      refine ⟨(o3 m y' hy).1, (o3 m y' hy).2.apart _ ?_⟩
      rw [(o3 m y' hy).1, hlen]
      rcases Nat.lt_or_gt_of_ne hm with hlt | hlt
      · left
        have := Nat.mul_le_mul_right p.sz (show m + 1 ≤ i by omega)
        rw [Nat.add_mul] at this
        omega
      · right
        have := Nat.mul_le_mul_right p.sz (show i + 1 ≤ m by omega)
        rw [Nat.add_mul] at this
        omega
  obtain ⟨w1, w2⟩ := st_write (o' := .buf (es.set i (old.take j ++ cs ++ old.drop (j + cs.length)))) hst k hk hp hH htot htot horel
  refine ⟨undef, _, I, ρ, e, _, _, .inr ⟨?_, rfl⟩, h, w1, .tup _ _ _ rfl (fun i a u ha => by simp at ha), he, w2⟩
  simp [execOp, ho, Instr.storeAt, Instr.sureAddr, hu, hrun]

end Go.Proofs.YtcgpgpbnpjbhhaaPg
