/- Appending, sound. -/
import Derived.Test.YtcgpgpbnpjbhhaaPgB2
namespace Go.Proofs.YtcgpgpbnpjbhhaaPg
open Go Go.RowKit
variable [Globs]
set_option linter.unusedVariables false
set_option linter.unusedSimpArgs false

variable {P : Program} {T : Nat → TI} {I : Imm} {ρ : List Pl} {H : List O} {w : World} {e : Env}

/-- The elements that a value of a slice or a string hands over. -/
structure Elems (P : Program) (I : Imm) (w : World) (x : Value) (sz : Nat) (ys : List (List V)) : Prop where
  out : ∃ news, Src P w x sz ys.length news ∧ AllLen sz ys ∧ VRels I [] ys.flatten news ∧ ∀ u ∈ news, u.oneCell' = true

theorem flat_inv {sz : Nat} : ∀ {es : List (List V)}, AllLen sz es → ∀ {k : Nat} {v : V}, es.flatten[k]? = some v → ∃ x, es[k / sz]? = some x ∧ x[k % sz]? = some v ∧ 0 < sz ∧ k % sz < sz
  | [], _, k, v, h => by simp at h
  | y :: es, hl, k, v, h => by
    have hy := hl y (by simp)
    by_cases hk : k < y.length
    · rw [List.flatten_cons, List.getElem?_append_left hk] at h
      have h0 : 0 < sz := by omega
      exact ⟨y, by rw [Nat.div_eq_of_lt (by omega)]; simp, by rw [Nat.mod_eq_of_lt (by omega)]; exact h, h0, Nat.mod_lt _ h0⟩
    · rw [List.flatten_cons, List.getElem?_append_right (by omega), hy] at h
      obtain ⟨x, h1, h2, h3, h4⟩ := flat_inv (es := es) (fun z hz => hl z (by simp [hz])) h
      have e1 : k / sz = (k - sz) / sz + 1 := by
        rw [Nat.div_eq k sz, if_pos ⟨h3, by omega⟩]
      have e2 : k % sz = (k - sz) % sz := by rw [Nat.mod_eq_sub_mod (by omega)]
      exact ⟨x, by rw [e1]; simpa using h1, by rw [e2]; exact h2, h3, by rw [e2]; exact h4⟩

/-- Cells in a row, read one by one. -/
theorem first_row {x : Value} {b base len cap sz : Nat} (hx : x = .slice (some ⟨b, base, none⟩) len cap) {ys : List (List V)} (hl : AllLen sz ys) {n : Nat} (hn : n = ys.length)
    (hc : ∀ (i : Nat) (y : List V) (j : Nat) (v : V), ys[i]? = some y → y[j]? = some v → ∃ u, w.cell? ⟨b, base + (i * sz + j), none⟩ = some u ∧ u.oneCell' = true ∧ VRel I [] v u) :
    ∃ news : List Value, (∀ w', w'.heap = w.heap → (Builtin.firstCells sz n x).run P w' = .ok news.toArray w') ∧ VRels I [] ys.flatten news ∧ ∀ u ∈ news, u.oneCell' = true := by
  subst hn
  have hex : ∀ k, k < ys.length * sz → ∃ u, w.cell? ⟨b, base + k, none⟩ = some u ∧ u.oneCell' = true ∧ VRel I [] (ys.flatten.getD k .any) u := by
    intro k hk
    have hlt : k < ys.flatten.length := by rw [flat_len hl]; exact hk
    obtain ⟨y, h1, h2, h3, h4⟩ := flat_inv hl (List.getElem?_eq_getElem hlt)
    obtain ⟨u, g1, g2, g3⟩ := hc _ y _ _ h1 h2
    refine ⟨u, ?_, g2, by simpa [List.getD, List.getElem?_eq_getElem hlt] using g3⟩
    rw [← g1]
    congr 2
    have := Nat.div_add_mod k sz
    rw [Nat.mul_comm] at this
    omega
  obtain ⟨f, hf⟩ : ∃ f : Nat → Value, ∀ k, k < ys.length * sz → w.cell? ⟨b, base + k, none⟩ = some (f k) ∧ (f k).oneCell' = true ∧ VRel I [] (ys.flatten.getD k .any) (f k) :=
    ⟨fun k => if hk : k < ys.length * sz then (hex k hk).choose else default, fun k hk => by simp only [hk, dif_pos]; exact (hex k hk).choose_spec⟩
  refine ⟨(List.range (ys.length * sz)).map f, fun w' hw => ?_, ⟨by simp [flat_len hl], fun k v u hv hu => ?_⟩, fun u hu => ?_⟩
  · subst hx
    have := run_loadCells (P := P) w' ⟨b, base, none⟩ (ys.length * sz) f (fun j hj => by
      rw [addr_add]
      rw [← (hf j hj).1]
      exact World.cell?_of_block (w := w) (by rw [hw]))
    simpa [Builtin.firstCells] using this
  · have hk : k < ys.length * sz := by have := (List.getElem?_eq_some_iff.1 hu).1; simpa using this
    simp [hk] at hu
    subst hu
    have := (hf k hk).2.2
    simpa [List.getD, hv] using this
  · simp at hu
    obtain ⟨k, hk, rfl⟩ := hu
    exact (hf k hk).2.1

theorem elems_nil {x : Value} {A : Option Addr} {cap : Nat} (hx : x = .slice A 0 cap) (sz : Nat) : Elems P I w x sz [] := by
  subst hx
  refine ⟨[], ⟨fun w' => by simp [Builtin.lenOf], fun w' hw => ?_⟩, fun y hy => by simp at hy, .nil _ _, by simp⟩
  cases A <;> simp [Builtin.firstCells, loadCells, loadCellsFrom]

theorem elemsV_sound {sz : Nat} {x : V} {K : List (List V) → Prop} (h : elemsV sz x H K) :
    ∃ ys, K ys ∧ ∀ (I : Imm) (ρ : List Pl) (w : World) (u : Value), St I ρ H w → VRel I ρ x u → Elems P I w u sz ys := by
  unfold elemsV at h
  split at h
  · rename_i z es full
    cases hb : Nat.beq z sz <;> simp only [hb] at h
    have e0 := Nat.eq_of_beq_eq_true hb
    subst e0
    refine ⟨es, h, fun I ρ w u hst hr => ?_⟩
    cases hr with
    | sl _ _ _ _ b base cap f g1 g2 g3 g4 g4' g5 =>
      have hl : AllLen z es := fun y hy => by
        obtain ⟨i, hi⟩ := List.getElem?_of_mem hy
        exact g3 i y hi
      obtain ⟨news, h1, h2, h3⟩ := first_row (P := P) (I := I) (w := w) (n := es.length) (cap := cap) (len := es.length) rfl hl rfl (fun i y j v hy hv => ⟨f i j, hst.imm _ _ _ (g4 i y j v hy hv), g4' i y j v hy hv, g5 i y j v hy hv⟩)
      exact ⟨news, ⟨fun w' => by simp [Builtin.lenOf], h1⟩, hl, h2, h3⟩
    | slnil => exact elems_nil rfl _
  · exact ⟨[], h, fun I ρ w u hst hr => elems_nil (vr_nils hr) _⟩
  · rename_i z id off len full
    cases hb : Nat.beq z sz <;> simp only [hb] at h
    have e0 := Nat.eq_of_beq_eq_true hb
    subst e0
    cases hg : getO H id <;> simp only [hg] at h
    rename_i es
    obtain ⟨hle, hK⟩ := h
    refine ⟨_, hK, fun I ρ w u hst hr => ?_⟩
    have hlen : ((es.drop off).take len).length = len := by simp; omega
    have get : ∀ (i : Nat) (y : List V), ((es.drop off).take len)[i]? = some y → es[off + i]? = some y := fun i y hy => by
      have hlt := (List.getElem?_eq_some_iff.1 hy).1
      rw [List.getElem?_take_of_lt (by simp at hlt; omega), List.getElem?_drop] at hy
      exact hy
    cases hr with
    | ms _ _ _ _ cap _ p hp g1 g2 g3 =>
      have hl : AllLen p.sz ((es.drop off).take len) := fun y hy => by
        obtain ⟨i, hi⟩ := List.getElem?_of_mem hy
        exact (ep_cells hst hp hg (get i y hi)).1
      obtain ⟨news, h1, h2, h3⟩ := first_row (P := P) (I := I) (w := w) (b := p.b) (base := p.base + off * p.sz) (n := len) (cap := cap) (len := len) rfl hl hlen.symm (fun i y j v hy hv => by
        obtain ⟨u, c1, c2, c3⟩ := (ep_cells hst hp hg (get i y hy)).2.1 j v hv
        refine ⟨u, ?_, c2, c3⟩
        rw [← c1]; congr 2; rw [Nat.add_mul]; omega)
      exact ⟨news, ⟨fun w' => by simp [Builtin.lenOf, hlen], by rw [hlen]; exact h1⟩, hl, h2, h3⟩
    | ms0 =>
      have e0 : (es.drop off).take 0 = [] := by simp
      rw [e0]
      exact elems_nil rfl _
  · rename_i s
    cases hb : Nat.beq 1 sz <;> simp only [hb] at h
    have e0 := Nat.eq_of_beq_eq_true hb
    subst e0
    refine ⟨_, h, fun I ρ w u hst hr => ?_⟩
    obtain ⟨b, hb, rfl⟩ := vr_str hr
    have hl : AllLen 1 (s.map fun c => [V.int .u8 c.toNat]) := fun y hy => by simp at hy; obtain ⟨c, _, rfl⟩ := hy; rfl
    have hf : ∀ s : List UInt8, (s.map fun c => [V.int .u8 c.toNat]).flatten = s.map fun c => V.int .u8 c.toNat := by
      intro s
      induction s with
      | nil => rfl
      | cons c s ih => simp [ih]
    refine ⟨s.map fun c => Value.int .u8 c.toNat, ⟨fun w' => ?_, fun w' hw => ?_⟩, hl, ?_, fun u hu => by simp at hu; obtain ⟨c, _, rfl⟩ := hu; rfl⟩
    · have : b.size = s.length := by rw [← hb]; rfl
      simp [Builtin.lenOf, this]
    · have hsz : b.size = s.length := by rw [← hb]; rfl
      have : (b.extract 0 s.length).data.map (fun c => Value.int .u8 c.toNat) = (s.map fun c => Value.int .u8 c.toNat).toArray := by
        apply Array.ext'
        rw [ByteArray.data_extract]
        simp [hb, List.extract, List.take_of_length_le]
      simp [Builtin.firstCells]
      simpa using this
    · rw [hf]
      exact ⟨by simp, fun i a u ha hu => by simp at ha hu; obtain ⟨c, h1, rfl⟩ := ha; obtain ⟨c', h1', rfl⟩ := hu; rw [h1] at h1'; cases h1'; exact .int _ _ _⟩
  · exact h.elim

theorem okElem_all (hT : TIok P T) {q : TypeId} (h : okElem (T q) = true) : ∃ i z, P.info? q = some i ∧ i.zero = some z ∧ (T q).size = i.size ∧ (T q).bytes = i.bytes ∧ 0 < i.bytes ∧ i.bytes ≤ 65536 ∧ 0 < i.size ∧ z.cells.size = i.size ∧ (T q).good = true := by
  unfold okElem at h
  simp only [Bool.and_eq_true] at h
  obtain ⟨h1, h2, h3, h4, h5⟩ := h
  obtain ⟨i, z, d, g1, g2, g3, g4, g5⟩ := ti_good hT h1
  rw [g4] at h2 h3 h4 h5
  have h6 := Nat.eq_of_beq_eq_true h5
  simp at h6
  exact ⟨i, z, g1, g2, by rw [g4], by rw [g4], Nat.le_of_ble_eq_true h2, Nat.le_of_ble_eq_true h3, Nat.le_of_ble_eq_true h4, h6, h1⟩

/-- what an append comes to: a value in a new world -/
def AppOk (P : Program) (k : Nat) (I : Imm) (ρ : List Pl) (H : List O) (w : World) (K : V → List O → Prop) (t t2 ty : TypeId) (s x : Value) : Prop :=
  ∃ u w' v ρ' H', (Builtin.append_ #[t, t2] ty #[s, x]).run P w = .ok u w' ∧ K v H' ∧ St I ρ' H' w' ∧ VRel I ρ' v u ∧ PLe ρ ρ' ∧ Step k I ρ H w I ρ' H' w'

/-- A block of its own for all of them: the slice that is appended to has 'olds'. -/
theorem app_grow {k : Nat} {t t2 ty q : TypeId} {i : TypeInfo} {z : Value} (ht : P.underlying t = some (.slice q)) {d2 : TypeDesc} (ht2 : P.underlying t2 = some d2) (hd2 : d2 = .string ∨ ∃ q2, d2 = .slice q2) (hi : P.info? q = some i) (hz : i.zero = some z)
    (hb0 : 0 < i.bytes) (hb1 : i.bytes ≤ 65536) (hzs : z.cells.size = i.size) (hst : St I ρ H w) (hk : k ≤ ρ.length) {A : Option Addr} {sLen sCap : Nat} {x : Value} {os ys : List (List V)} (hos : os.length = sLen) (hE : Elems P I w x i.size ys) (hO : Elems P I w (.slice A sLen sCap) i.size os) (hg : sCap < sLen + ys.length)
    {K : V → List O → Prop} (hn : newBuf i.size i.bytes (os ++ ys) H K) : AppOk P k I ρ H w K t t2 ty (.slice A sLen sCap) x := by
  obtain ⟨news, n1, n2, n3, n4⟩ := hE.out
  obtain ⟨olds, o1, o2, o3, o4⟩ := hO.out
  obtain ⟨hle, hK⟩ := hn
  rw [copyH_iff] at hK
  subst hos
  have hneed : (os ++ ys).length = os.length + ys.length := by simp
  rw [hneed] at hle
  have hcapb : Builtin.nextslicecap (os.length + ys.length) sCap * i.bytes ≤ 281474976710656 := by
    have h1 := nextslicecap_le _ _ hg
    have h2 := Nat.mul_le_mul_right i.bytes h1
    rw [Nat.add_mul, Nat.mul_assoc] at h2
    have h3 : 768 * i.bytes ≤ 768 * 65536 := Nat.mul_le_mul_left _ hb1
    omega
  have hrun := run_append_grow' (ty := ty) ht ht2 hd2 hi hz n1 o1.cells hg hb0 hcapb
  obtain ⟨cap, hcap⟩ : ∃ cap, cap = grownCap w (os.length + ys.length) sCap q := ⟨_, rfl⟩
  have hge : os.length + ys.length ≤ cap := by rw [hcap]; simp only [grownCap, Question.cut]; omega
  rw [← hcap] at hrun
  obtain ⟨us, hus⟩ : ∃ us, us = (olds ++ news).toArray ++ Builtin.zeroCells z.cells (cap - (os.length + ys.length)) := ⟨_, rfl⟩
  have hl1 : olds.length = os.length * i.size := by rw [← o3.1, flat_len o2]
  have hl2 : news.length = ys.length * i.size := by rw [← n3.1, flat_len n2]
  have hsize : us.size = cap * i.size := by
    rw [hus]
    simp [Builtin.zeroCells, hl1, hl2, hzs]
    rw [← Nat.add_mul, ← Nat.add_mul]
    congr 1; omega
  have htake : us.toList.take ((os ++ ys).length * i.size) = olds ++ news := by
    have e1 : (os ++ ys).length * i.size = (olds ++ news).length := by rw [hneed, Nat.add_mul, ← hl1, ← hl2]; simp
    rw [e1, hus, Array.toList_append]
    exact List.take_left
  have hrels : VRels I [] (os ++ ys).flatten (us.toList.take ((os ++ ys).length * i.size)) := by
    rw [htake, List.flatten_append]
    exact o3.append n3
  obtain ⟨s1, s2⟩ := new_buf hst k hk (es := os ++ ys) (sz := i.size) (tot := cap) (us := us) (o2.append n2) hrels (fun j u hj hu => by
    have h1 : (us.toList.take ((os ++ ys).length * i.size))[j]? = some u := by
      rw [List.getElem?_take_of_lt hj]; simpa using hu
    rw [htake] at h1
    rcases List.mem_append.1 (List.mem_of_getElem? h1) with h2 | h2
    · exact o4 u h2
    · exact n4 u h2) (by rw [hneed]; exact hge) hsize q w.drew rfl rfl rfl rfl
  rw [← hus] at hrun
  refine ⟨_, _, _, _, _, hrun, hK, s1, ?_, PLe.append _ _, s2⟩
  have := VRel.ms (I := I) (ρ ++ [⟨w.heap.size, 0, i.size, cap⟩]) H.length 0 (os ++ ys).length cap false ⟨w.heap.size, 0, i.size, cap⟩ (by rw [← hst.len]; simp) (by rw [hneed]; exact hge) (by simp) (by simp)
  rw [hneed] at this
  rw [hneed]
  simpa using this

/-- Nothing is appended, and there is no row yet. -/
theorem app_adopt {k : Nat} {t t2 ty q : TypeId} {i : TypeInfo} (ht : P.underlying t = some (.slice q)) {d2 : TypeDesc} (ht2 : P.underlying t2 = some d2) (hd2 : d2 = .string ∨ ∃ q2, d2 = .slice q2) (hi : P.info? q = some i)
    (hst : St I ρ H w) (hk : k ≤ ρ.length) {A : Option Addr} {x : Value} (hE : Elems P I w x i.size []) {K : V → List O → Prop} (hn : newBuf i.size i.bytes [] H K) : AppOk P k I ρ H w K t t2 ty (.slice A 0 0) x := by
  obtain ⟨news, n1, n2, n3, n4⟩ := hE.out
  obtain ⟨_, hK⟩ := hn
  rw [copyH_iff] at hK
  have h0 : news = [] := by have := n3.1; simp at this; exact List.eq_nil_of_length_eq_zero this.symm
  subst h0
  have hrun := run_append_none (ty := ty) ht ht2 hd2 hi (A := A) (sLen := 0) (sCap := 0) n1 (Nat.le_refl _)
  obtain ⟨s1, s2⟩ := adopt hst k hk i.size
  exact ⟨_, _, _, _, _, hrun, hK, s1, .ms0 _ _ _ _ _ _, PLe.append _ _, s2⟩

/-- An append to a slice of no room. -/
theorem app_from0 {k : Nat} {t t2 ty q : TypeId} {i : TypeInfo} {z : Value} (ht : P.underlying t = some (.slice q)) {d2 : TypeDesc} (ht2 : P.underlying t2 = some d2) (hd2 : d2 = .string ∨ ∃ q2, d2 = .slice q2) (hi : P.info? q = some i) (hz : i.zero = some z)
    (hb0 : 0 < i.bytes) (hb1 : i.bytes ≤ 65536) (hzs : z.cells.size = i.size) (hst : St I ρ H w) (hk : k ≤ ρ.length) {A : Option Addr} {x : Value} {ys : List (List V)} (hE : Elems P I w x i.size ys)
    {K : V → List O → Prop} (hn : newBuf i.size i.bytes ys H K) : AppOk P k I ρ H w K t t2 ty (.slice A 0 0) x := by
  cases ys with
  | nil => exact app_adopt ht ht2 hd2 hi hst hk hE hn
  | cons y ys => exact app_grow (os := []) ht ht2 hd2 hi hz hb0 hb1 hzs hst hk rfl hE (elems_nil rfl _) (by simp) hn

theorem setCells_block (b : Nat) : ∀ (vs : List Value) (o : Nat) (w : World) {c : Array Value} {t : TypeId} {fr : Nat × Nat}, w.heap[b]? = some (.cells c t fr) → ∃ c', (w.setCells b o vs).heap[b]? = some (.cells c' t fr) ∧ c'.size = c.size
  | [], o, w, c, t, fr, h => ⟨c, h, rfl⟩
  | v :: vs, o, w, c, t, fr, h => by
    have h1 : (w.setCell ⟨b, o, none⟩ v).heap[b]? = some (.cells (c.setIfInBounds o v) t fr) := by
      simp [World.setCell, Array.getElem?_modify, h]
    obtain ⟨c', h2, h3⟩ := setCells_block b vs (o + 1) _ h1
    exact ⟨c', by rw [World.setCells]; exact h2, by rw [h3]; simp⟩
theorem setCells_other (b : Nat) : ∀ (vs : List Value) (o : Nat) (w : World) (b' : Nat), b' ≠ b → (w.setCells b o vs).heap[b']? = w.heap[b']?
  | [], o, w, b', h => rfl
  | v :: vs, o, w, b', h => by
    rw [World.setCells, setCells_other b vs (o + 1) _ b' h]
    exact Below.heap_setCell _ _ _ _ h
theorem setCells_same (b : Nat) : ∀ (vs : List Value) (o : Nat) (w : World), (w.setCells b o vs).os = w.os ∧ (w.setCells b o vs).tape = w.tape ∧ (w.setCells b o vs).output = w.output ∧ (w.setCells b o vs).heap.size = w.heap.size
  | [], o, w => ⟨rfl, rfl, rfl, rfl⟩
  | v :: vs, o, w => by
    obtain ⟨h1, h2, h3, h4⟩ := setCells_same b vs (o + 1) (w.setCell ⟨b, o, none⟩ v)
    rw [World.setCells]
    exact ⟨h1, h2, h3, by rw [h4]; simp [World.setCell]⟩

theorem Open.setCells {b lo hi : Nat} (h : Open w b lo hi) (o : Nat) (vs : List Value) : Open (w.setCells b o vs) b lo hi := by
  obtain ⟨c, t, fr, h1, h2, h3⟩ := h
  obtain ⟨c', g1, g2⟩ := setCells_block b vs o w h1
  exact ⟨c', t, fr, g1, by omega, fun q q1 q2 => by rw [World.frozen?_setCells]; exact h3 q q1 q2⟩

theorem Open.cell {b lo hi : Nat} (h : Open w b lo hi) {o : Nat} (ho : o < hi) : (w.cell? ⟨b, o, none⟩).isSome = true := by
  obtain ⟨c, t, fr, h1, h2, h3⟩ := h
  have : o < c.size := by omega
  simp [World.cell?, h1, this]

theorem Open.sub {b lo hi lo' hi' : Nat} (h : Open w b lo hi) (h1 : lo ≤ lo') (h2 : hi' ≤ hi) : Open w b lo' hi' := by
  obtain ⟨c, t, fr, g1, g2, g3⟩ := h
  exact ⟨c, t, fr, g1, by omega, fun o a b => g3 o (by omega) (by omega)⟩

/-- Cells ahead of, or behind, what is written. -/
theorem CellsAt.apart {b base o : Nat} {cs : List V} (h : CellsAt I ρ w b base cs) (vs : List Value) (hd : base + cs.length ≤ o ∨ o + vs.length ≤ base) : CellsAt I ρ (w.setCells b o vs) b base cs := fun i v hv => by
  obtain ⟨u, h1, h2, h3⟩ := h i v hv
  have hlt := (List.getElem?_eq_some_iff.1 hv).1
  exact ⟨u, by rw [World.cell?_setCells_out _ _ _ _ _ (fun _ _ => by simp; omega)]; exact h1, h2, h3⟩

/-- Cells that have been written. -/
theorem CellsAt.written {b lo hi o : Nat} (hop : Open w b lo hi) {vs : List Value} (hhi : o + vs.length ≤ hi) {cs : List V} {base : Nat} (h1 : ∀ u ∈ vs, u.oneCell' = true) {d : Nat} (hb : base = o + d) (hr : ∀ (i : Nat) (v : V), cs[i]? = some v → ∃ u, vs[d + i]? = some u ∧ VRel I ρ v u) :
    CellsAt I ρ (w.setCells b o vs) b base cs := fun i v hv => by
  obtain ⟨u, g1, g2⟩ := hr i v hv
  have hlt := (List.getElem?_eq_some_iff.1 g1).1
  refine ⟨u, ?_, h1 u (List.mem_of_getElem? g1), g2⟩
  have := World.cell?_setCells_in b vs o w (fun j hj => hop.cell (by omega)) (d + i) hlt
  rw [show base + i = o + (d + i) by omega, this]
  rw [List.getElem?_eq_getElem hlt] at g1
  exact g1

/-- An append within the room. -/
theorem app_room {k : Nat} {t t2 ty q : TypeId} {i : TypeInfo} (ht : P.underlying t = some (.slice q)) {d2 : TypeDesc} (ht2 : P.underlying t2 = some d2) (hd2 : d2 = .string ∨ ∃ q2, d2 = .slice q2) (hi : P.info? q = some i) (hb0 : 0 < i.size)
    (hst : St I ρ H w) (hk : k ≤ ρ.length) {id off len cap : Nat} {p : Pl} (hp : ρ[id]? = some p) (hsz : p.sz = i.size) {es ys : List (List V)} (hg : getO H id = .buf es) (htip : off + len = es.length) (g1 : len ≤ cap) (g2 : off + cap ≤ p.tot)
    {x : Value} (hE : Elems P I w x i.size ys) (hroom : len + ys.length ≤ cap)
    {K : V → List O → Prop} (hn : newBuf i.size i.bytes (es.drop off ++ ys) (setO H id .dead) K) : AppOk P k I ρ H w K t t2 ty (.slice (some ⟨p.b, p.base + off * p.sz, none⟩) len cap) x := by
  obtain ⟨news, n1, n2, n3, n4⟩ := hE.out
  obtain ⟨_, hK⟩ := hn
  rw [copyH_iff, setO_eq] at hK
  obtain ⟨s0, st0⟩ := hst.drop1 id
  have hH : H[id]? = some (.buf es) := getO_some hg (by simp)
  have hor := hst.obj id p _ hp hH
  have hlen : (es.drop off ++ ys).length = len + ys.length := by simp; omega
  have hHl : (H.set id .dead).length = H.length := by simp
  by_cases hc0 : cap = 0
  · have hy0 : ys = [] := List.eq_nil_of_length_eq_zero (by omega)
    subst hy0
    have hnews : news = [] := by have := n3.1; simp at this; exact List.eq_nil_of_length_eq_zero this.symm
    subst hnews
    have hl0 : len = 0 := by omega
    subst hl0
    subst hc0
    have hd0 : es.drop off = [] := by apply List.eq_nil_of_length_eq_zero; simp; omega
    rw [hd0] at hK
    have hrun := run_append_none (ty := ty) ht ht2 hd2 hi (A := some ⟨p.b, p.base + off * p.sz, none⟩) (sLen := 0) (sCap := 0) n1 (Nat.le_refl _)
    obtain ⟨s1, s2⟩ := adopt s0 k hk i.size
    exact ⟨_, _, _, _, _, hrun, hK, s1, .ms0 _ _ _ _ _ _, PLe.append _ _, (st0 k).trans s2⟩
  · have htot : p.tot ≠ 0 := by omega
    rcases hor with ⟨_, h0⟩ | ⟨o1, o2, o3⟩
    · exact absurd h0 htot
    have hl2 : news.length = ys.length * i.size := by rw [← n3.1, flat_len n2]
    have hmul : p.base + off * p.sz + len * i.size + news.length ≤ p.base + p.tot * p.sz := by
      rw [hl2, hsz, Nat.add_assoc, Nat.add_assoc, ← Nat.add_mul, ← Nat.add_mul]
      have := Nat.mul_le_mul_right i.size (show off + (len + ys.length) ≤ p.tot by omega)
      omega
    have hrun := run_append_room' (ty := ty) ht ht2 hd2 hi (b := p.b) (o := p.base + off * p.sz) n1 hroom (fun j hj => o2.cell (by omega)) (fun j hj => by
      obtain ⟨c, t', fr, c1, c2, c3⟩ := o2
      exact c3 _ (by omega) (by omega)) n4
    obtain ⟨w', hw'⟩ : ∃ w', w' = w.setCells p.b (p.base + off * p.sz + len * i.size) news := ⟨_, rfl⟩
    rw [← hw'] at hrun
    obtain ⟨m1, m2, m3, m4⟩ := setCells_same p.b news (p.base + off * p.sz + len * i.size) w
    rw [← hw'] at m1 m2 m3 m4
    have e1 : (ρ ++ [(⟨p.b, p.base + off * p.sz, i.size, cap⟩ : Pl)])[H.length]? = some ⟨p.b, p.base + off * p.sz, i.size, cap⟩ := by rw [← hst.len]; simp
    have e2 : (H.set id .dead ++ [O.buf (es.drop off ++ ys)])[H.length]? = some (.buf (es.drop off ++ ys)) := by simp
    have e3 : ∀ (j : Nat) (o : O), j ≠ H.length → (H.set id .dead ++ [O.buf (es.drop off ++ ys)])[j]? = some o → o = .dead ∨ (H.set id .dead)[j]? = some o := by
      intro j o hj ho
      have hlt := (List.getElem?_eq_some_iff.1 ho).1
      simp at hlt
      rw [List.getElem?_append_left (by simp; omega)] at ho
      exact .inr ho
    have e4 : ∀ (j : Nat) (r : Pl), j ≠ H.length → (ρ ++ [(⟨p.b, p.base + off * p.sz, i.size, cap⟩ : Pl)])[j]? = some r → ρ[j]? = some r := by
      intro j r hj hr
      have hlt := (List.getElem?_eq_some_iff.1 hr).1
      simp [hst.len] at hlt
      rw [List.getElem?_append_left (by rw [hst.len]; omega)] at hr
      exact hr
    have hown : Owned ρ H p.b := ⟨id, p, _, hp, hH, htot, rfl⟩
    have e5 : ∀ b, b < w.heap.size → b ≠ p.b → w'.heap[b]? = w.heap[b]? := fun b _ hb => by rw [hw']; exact setCells_other _ _ _ _ _ hb
    have e6 : ∀ (j : Nat) (r : Pl) (o : O), j ≠ H.length → ρ[j]? = some r → (H.set id .dead ++ [O.buf (es.drop off ++ ys)])[j]? = some o → ¬ o.owns r p.b := by
      intro j r o hj hr ho hh
      rcases e3 j o hj ho with rfl | ho'
      · exact hh.1
      · by_cases hji : j = id
        · subst hji
          have hlt := (List.getElem?_eq_some_iff.1 ho').1
          simp at hlt
          rw [List.getElem?_set_self hlt] at ho'
          cases ho'; exact hh.1
        · rw [List.getElem?_set_ne (by omega)] at ho'
          exact hji (hst.inj j id r p o _ p.b hr ho' hh hp hH ⟨htot, rfl⟩)
    have horel : ORel I (ρ ++ [⟨p.b, p.base + off * p.sz, i.size, cap⟩]) w' ⟨p.b, p.base + off * p.sz, i.size, cap⟩ (.buf (es.drop off ++ ys)) := by
      refine .inr ⟨by rw [hlen]; exact hroom, ?_, fun j y hy => ?_⟩
      · rw [hw']
        refine (o2.setCells _ _).sub (by simp) ?_
        simp only
        rw [hsz, Nat.add_assoc, ← Nat.add_mul]
        have := Nat.mul_le_mul_right i.size g2
        omega
      · by_cases hj : j < (es.drop off).length
        · rw [List.getElem?_append_left hj, List.getElem?_drop] at hy
          obtain ⟨c1, c2⟩ := o3 _ y hy
          refine ⟨by rw [c1, hsz], ?_⟩
          rw [hw']
          simp only
          have e : p.base + (off + j) * p.sz = p.base + off * p.sz + j * i.size := by rw [Nat.add_mul, hsz]; omega
          rw [e] at c2
          refine c2.apart news (.inl ?_)
          have hjl : j + 1 ≤ len := by simp at hj; omega
          have := Nat.mul_le_mul_right i.size hjl
          rw [Nat.add_mul] at this
          rw [c1, hsz]; omega
        · rw [List.getElem?_append_right (by omega)] at hy
          refine ⟨n2 y (List.mem_of_getElem? hy), ?_⟩
          rw [hw']
          have hd : (es.drop off).length = len := by simp; omega
          rw [hd] at hy hj
          refine CellsAt.written o2 hmul n4 (d := (j - len) * i.size) ?_ (fun j' v hv => ?_)
          · simp only
            have : j * i.size = len * i.size + (j - len) * i.size := by rw [← Nat.add_mul]; congr 1; omega
            omega
          · have hf := flat_get n2 hy hv
            have hlt := (List.getElem?_eq_some_iff.1 hf).1
            rw [n3.1] at hlt
            exact ⟨news[(j - len) * i.size + j'], List.getElem?_eq_getElem hlt, n3.2 _ v _ hf (List.getElem?_eq_getElem hlt)⟩
    have nohas : ¬ (O.buf (es.drop off ++ ys)).has (⟨p.b, p.base + off * p.sz, i.size, cap⟩ : Pl) → w'.heap[p.b]? = w.heap[p.b]? := fun hn => absurd hc0 hn
    have s1 := s0.one H.length ⟨p.b, p.base + off * p.sz, i.size, cap⟩ (.buf (es.drop off ++ ys)) (w' := w') (by simp [hst.len]) (PLe.append _ _) e1 e2 e3 e4 e5 nohas (fun _ => e6) (fun _ => hst.sep _ hown) horel
    have s2 : Step k I ρ H w I (ρ ++ [⟨p.b, p.base + off * p.sz, i.size, cap⟩]) (H.set id .dead ++ [.buf (es.drop off ++ ys)]) w' :=
      ⟨ILe.refl _, fun j hj => by rw [List.getElem?_append_left (by omega)], m1, m2, m3, by rw [m4]; exact Nat.le_refl _, fun b hb hnb => e5 b hb (fun h => hnb (h ▸ hown)), fun b ⟨j, r, o, hr, ho, hh⟩ => by
        by_cases hj : j = H.length
        · subst hj; rw [e1] at hr; rw [e2] at ho; cases hr; cases ho; obtain ⟨_, rfl⟩ := hh; exact .inl hown
        · rcases e3 j o hj ho with rfl | ho'
          · exact hh.1.elim
          · have := (st0 k).own b ⟨j, r, o, e4 j r hj hr, ho', hh⟩
            exact this, fun _ _ _ h => .inl h⟩
    refine ⟨_, _, _, _, _, hrun, hK, s1, ?_, PLe.append _ _, s2⟩
    have := VRel.ms (I := I) (ρ ++ [⟨p.b, p.base + off * p.sz, i.size, cap⟩]) H.length 0 (es.drop off ++ ys).length cap false ⟨p.b, p.base + off * p.sz, i.size, cap⟩ e1 (by rw [hlen]; exact hroom) (by simp) (by simp)
    rw [hlen] at this ⊢
    simpa [hsz] using this

end Go.Proofs.YtcgpgpbnpjbhhaaPg
