/- An object becomes immutable. -/
import Derived.Test.YtcgpgpbnpjbhhaaPgB6
namespace Go.Proofs.YtcgpgpbnpjbhhaaPg
open Go Go.RowKit
variable [Globs]
set_option linter.unusedVariables false
set_option linter.unusedSimpArgs false

theorem frzL_map (id : Nat) (o : O) (l : List V) : frzL id o l = l.map (frzV id o) := by
  induction l with
  | nil => rfl
  | cons v l ih => simp only [frzL, ih, List.map_cons]

variable {I : Imm} {ρ : List Pl} {H : List O} {w : World}

/-- The immutable cells, with those of a block. -/
def immAdd (I : Imm) (w : World) (b : Nat) : Imm := fun b' o => if b' = b then w.cell? ⟨b', o, none⟩ else I b' o

/-- within an object's length? -/
def Within (o : O) (x : Nat × Nat) : Prop :=
  match o with
  | .buf es => x.1 + x.2 ≤ es.length
  | _ => True

/-- what is asked of a value -/
def FitV (id : Nat) (o : O) (v : V) : Prop := ∀ x ∈ msV id v, Within o x

theorem msL_mem {id : Nat} {x : Nat × Nat} : ∀ {l : List V} {v : V}, v ∈ l → x ∈ msV id v → x ∈ msL id l
  | [], v, h, _ => by simp at h
  | y :: l, v, h, hx => by
    simp only [msL, List.mem_append]
    rcases List.mem_cons.1 h with rfl | h
    · exact .inl hx
    · exact .inr (msL_mem h hx)

theorem msE_mem {id : Nat} {x : Nat × Nat} : ∀ {e : Env} {t : Nat}, x ∈ msV id (Env.get e t) → x ∈ msE id e
  | [], t, h => by simp [Env.get, msV] at h
  | (i, v) :: e, t, h => by
    simp only [msE, List.mem_append]
    simp only [Env.get] at h
    cases hb : Nat.beq i t <;> rw [hb] at h
    · exact .inr (msE_mem h)
    · exact .inl h

theorem msKV_mem {id : Nat} {x : Nat × Nat} : ∀ {l : List (V × V)} {kv : V × V}, kv ∈ l → x ∈ msV id kv.1 ∨ x ∈ msV id kv.2 → x ∈ msKV id l
  | [], kv, h, _ => by simp at h
  | (a, b) :: l, kv, h, hx => by
    simp only [msKV, List.mem_append]
    rcases List.mem_cons.1 h with rfl | h
    · rcases hx with hx | hx
      · exact .inl hx
      · exact .inr (.inl hx)
    · exact .inr (.inr (msKV_mem h hx))

theorem msH_mem {id : Nat} {x : Nat × Nat} : ∀ {H : List O} {o : O}, o ∈ H → x ∈ msO id o → x ∈ msH id H
  | [], o, h, _ => by simp at h
  | y :: H, o, h, hx => by
    simp only [msH, List.mem_append]
    rcases List.mem_cons.1 h with rfl | h
    · exact .inl hx
    · exact .inr (msH_mem h hx)

theorem msLe_mem {n : Nat} : ∀ {l : List (Nat × Nat)}, msLe n l → ∀ x ∈ l, x.1 + x.2 ≤ n
  | [], _, x, hx => by simp at hx
  | (a, b) :: l, h, x, hx => by
    rcases List.mem_cons.1 hx with rfl | hx
    · exact h.1
    · exact msLe_mem h.2 x hx

theorem frzFit_mem {id : Nat} {o : O} {vs : List V} {e : Env} {H : List O} (h : frzFit id o vs e H) {x : Nat × Nat} (hx : x ∈ msL id vs ∨ x ∈ msE id e ∨ x ∈ msH id H) : Within o x := by
  cases o <;> try trivial
  refine msLe_mem h x ?_
  simp only [List.mem_append]
  exact hx

theorem frzFit_v {id : Nat} {o : O} {vs : List V} {e : Env} {H : List O} (h : frzFit id o vs e H) {v : V} (hv : v ∈ vs) : FitV id o v := fun x hx => frzFit_mem h (.inl (msL_mem hv hx))
theorem frzFit_e {id : Nat} {o : O} {vs : List V} {e : Env} {H : List O} (h : frzFit id o vs e H) (t : Nat) : FitV id o (Env.get e t) := fun x hx => frzFit_mem h (.inr (.inl (msE_mem hx)))
/-- what is asked of objects -/
def FitH (id : Nat) (o : O) (H : List O) : Prop := ∀ y ∈ H, ∀ x ∈ msO id y, Within o x
theorem frzFit_h {id : Nat} {o : O} {vs : List V} {e : Env} {H : List O} (h : frzFit id o vs e H) : FitH id o H := fun y hy x hx => frzFit_mem h (.inr (.inr (msH_mem hy hx)))

theorem frz_rel {I' : Imm} (hI : ILe I I') {id : Nat} {p : Pl} {o : O} (hok : frzOk o = true) (hor : ORel I ρ w p o) (hc : o.has p → ∀ q c, w.cell? ⟨p.b, q, none⟩ = some c → I' p.b q = some c) {v : V} {u : Value} {ρ0 : List Pl} (h : VRel I ρ0 v u) :
    (ρ0 = ρ → ρ[id]? = some p → FitV id o v → VRel I' ρ (frzV id o v) u) := by
  induction h with
  | any => intros; simp only [frzV]; exact .any _ _
  | bool => intros; simp only [frzV]; exact .bool _ _
  | int => intros; simp only [frzV]; exact .int _ _ _
  | str => intros; simp only [frzV]; exact .str _ _
  | ptr ρ1 i off q h =>
    rintro rfl hp hfit
    simp only [frzV]
    cases hb : Nat.beq i id with
    | false => exact .ptr _ _ _ _ h
    | true =>
      have := Nat.eq_of_beq_eq_true hb
      subst this
      rw [hp] at h; cases h
      cases o with
      | cells cs =>
        obtain ⟨b0, _, _, hcells⟩ := hor
        refine .ip _ _ _ _ _ (fun j => (w.cell? ⟨p.b, p.base + j, none⟩).getD undef) (fun j c hj => ?_) (fun j c hj => ?_) (fun j c hj => ?_)
        all_goals
          obtain ⟨x, x1, x2, x3⟩ := hcells j c hj
          rw [b0] at *
        · rw [x1]; exact hc trivial _ _ x1
        · rw [x1]; exact x2
        · rw [x1]; exact (pureV_nil (List.all_eq_true.1 hok c (List.mem_of_getElem? hj)) x3).mono hI (PLe.refl _)
      | _ => exact .any _ _
  | ep ρ1 i a b q h =>
    rintro rfl hp hfit
    simp only [frzV]
    cases hb : Nat.beq i id with
    | false => exact .ep _ _ _ _ _ h
    | true =>
      have := Nat.eq_of_beq_eq_true hb
      subst this
      rw [hp] at h; cases h
      cases o with
      | buf es =>
        simp only
        cases he : es[a]? with
        | none => exact .any _ _
        | some cs =>
          have hlt := (List.getElem?_eq_some_iff.1 he).1
          rcases hor with ⟨rfl, _⟩ | ⟨g1, g2, g3⟩
          · simp at hlt
          · obtain ⟨_, hcells⟩ := g3 a cs he
            have h0 : p.tot ≠ 0 := by omega
            have := VRel.ip (I := I') ρ1 cs b p.b (p.base + a * p.sz) (fun j => (w.cell? ⟨p.b, p.base + a * p.sz + j, none⟩).getD undef) (fun j c hj => ?_) (fun j c hj => ?_) (fun j c hj => ?_)
            · simpa [Nat.add_assoc] using this
            all_goals obtain ⟨x, x1, x2, x3⟩ := hcells j c hj
            · rw [x1]; exact hc h0 _ _ x1
            · rw [x1]; exact x2
            · rw [x1]; exact x3.mono hI (PLe.refl _)
      | _ => exact .any _ _
  | ip ρ1 cs off b base u h1 h1' h2 ih => rintro rfl hp hfit; simp only [frzV]; exact .ip _ _ _ _ _ u (fun i c hc => hI _ _ _ (h1 i c hc)) h1' (fun i c hc => (h2 i c hc).mono hI (PLe.refl _))
  | nilp => intros; simp only [frzV]; exact .nilp _
  | sl ρ1 sz es full b base cap u h1 h2 h3 h4 h4' h5 ih => rintro rfl hp hfit; simp only [frzV]; exact .sl _ _ _ _ _ _ _ u h1 h2 h3 (fun i e j c he hc => hI _ _ _ (h4 i e j c he hc)) h4' (fun i e j c he hc => (h5 i e j c he hc).mono hI (PLe.refl _))
  | slnil => intros; simp only [frzV]; exact .slnil _ _ _ _
  | ms ρ1 i off len cap full q h1 h2 h3 h4 h5 =>
    rintro rfl hp hfit
    simp only [frzV]
    cases hb : Nat.beq i id with
    | false => exact .ms _ _ _ _ _ _ _ h1 h2 h3 h4 h5
    | true =>
      have := Nat.eq_of_beq_eq_true hb
      subst this
      rw [hp] at h1; cases h1
      cases o with
      | buf es =>
        simp only
        · have hle : off + len ≤ es.length := hfit (off, len) (by simp [msV])
          have hlen : ((es.drop off).take len).length = len := by simp; omega
          rcases hor with ⟨rfl, h0⟩ | ⟨g1, g2, g3⟩
          · have e1 : cap = 0 := by omega
            have e2 : len = 0 := by omega
            subst e1 e2
            simp only [List.take_zero]
            exact .slnil _ _ _ _
          · have get : ∀ (j : Nat) (x : List V), ((es.drop off).take len)[j]? = some x → es[off + j]? = some x := fun j x hx => by
              have hlt := (List.getElem?_eq_some_iff.1 hx).1
              rw [List.getElem?_take_of_lt (by omega), List.getElem?_drop] at hx
              exact hx
            have := VRel.sl (I := I') ρ1 p.sz ((es.drop off).take len) full p.b (p.base + off * p.sz) cap (fun i j => (w.cell? ⟨p.b, p.base + (off + i) * p.sz + j, none⟩).getD undef) (by omega) (fun hf => by rw [hlen]; exact h4 hf)
              (fun j x hx => (g3 _ x (get j x hx)).1) (fun i x j c hx hj => ?_) (fun i x j c hx hj => ?_) (fun i x j c hx hj => ?_)
            · rw [hlen] at this; exact this
            all_goals
              obtain ⟨_, hcells⟩ := g3 _ x (get i x hx)
              obtain ⟨y, x1, x2, x3⟩ := hcells j c hj
              have h0 : p.tot ≠ 0 := by have := (List.getElem?_eq_some_iff.1 (get i x hx)).1; omega
            · rw [show p.base + off * p.sz + (i * p.sz + j) = p.base + (off + i) * p.sz + j by rw [Nat.add_mul]; omega, x1]; exact hc h0 _ _ x1
            · rw [x1]; exact x2
            · rw [x1]; exact x3.mono hI (PLe.refl _)
      | _ => exact .any _ _
  | ms0 ρ1 sz i off full a =>
    rintro rfl hp hfit
    simp only [frzV]
    cases hb : Nat.beq i id with
    | false => exact .ms0 _ _ _ _ _ _
    | true =>
      cases o with
      | buf es => simp only [List.take_zero]; exact .slnil _ _ _ _
      | _ => exact .any _ _
  | nils => intros; simp only [frzV]; exact .nils _
  | fn ρ1 f as bs us ws h1 h2 h3 h4 ih1 ih2 =>
    rintro rfl hp hfit
    simp only [frzV, frzL_map]
    refine .fn _ _ _ _ _ _ (by simp [h1]) (by simp [h2]) (fun i a u ha hu => ?_) (fun i a u ha hu => ?_)
    · rw [List.getElem?_map] at ha
      cases hx : as[i]? with
      | none => rw [hx] at ha; cases ha
      | some x => rw [hx] at ha; cases ha; exact ih1 i x u hx hu rfl hp fun y hy => hfit y (by simp only [msV, List.mem_append]; exact .inl (msL_mem (List.mem_of_getElem? hx) hy))
    · rw [List.getElem?_map] at ha
      cases hx : bs[i]? with
      | none => rw [hx] at ha; cases ha
      | some x => rw [hx] at ha; cases ha; exact ih2 i x u hx hu rfl hp fun y hy => hfit y (by simp only [msV, List.mem_append]; exact .inr (msL_mem (List.mem_of_getElem? hx) hy))
  | nilf => intros; simp only [frzV]; exact .nilf _
  | map ρ1 i q h =>
    rintro rfl hp hfit
    simp only [frzV]
    cases hb : Nat.beq i id with
    | false => exact .map _ _ _ h
    | true => exact .any _ _
  | nilm => intros; simp only [frzV]; exact .nilm _
  | agg ρ1 cs us h1 h1' h2 ih =>
    rintro rfl hp hfit
    simp only [frzV, frzL_map]
    refine .agg _ _ _ (by simp [h1]) h1' (fun i a u ha hu => ?_)
    rw [List.getElem?_map] at ha
    cases hx : cs[i]? with
    | none => rw [hx] at ha; cases ha
    | some x => rw [hx] at ha; cases ha; exact ih i x u hx hu rfl hp fun y hy => hfit y (by simp only [msV]; exact msL_mem (List.mem_of_getElem? hx) hy)
  | tup ρ1 cs us h1 h2 ih =>
    rintro rfl hp hfit
    simp only [frzV, frzL_map]
    refine .tup _ _ _ (by simp [h1]) (fun i a u ha hu => ?_)
    rw [List.getElem?_map] at ha
    cases hx : cs[i]? with
    | none => rw [hx] at ha; cases ha
    | some x => rw [hx] at ha; cases ha; exact ih i x u hx hu rfl hp fun y hy => hfit y (by simp only [msV]; exact msL_mem (List.mem_of_getElem? hx) hy)
  | iface ρ1 t v u h ih => rintro rfl hp hfit; simp only [frzV]; exact .iface _ _ _ _ (ih rfl hp fun y hy => hfit y (by simpa only [msV] using hy))
  | nili => intros; simp only [frzV]; exact .nili _
  | glob => intros; simp only [frzV]; exact .glob _ _
  | im ρ1 v u h1 h2 ih => rintro rfl hp hfit; simp only [frzV]; exact .im _ _ _ h1 (h2.mono hI (PLe.refl _))
  | yld ρ1 i q h =>
    rintro rfl hp hfit
    simp only [frzV]
    cases hb : Nat.beq i id with
    | false => exact .yld _ _ _ h
    | true => exact .any _ _

theorem frzKV_map (id : Nat) (o : O) (l : List (V × V)) : frzKV id o l = l.map fun p => (frzV id o p.1, frzV id o p.2) := by
  induction l with
  | nil => rfl
  | cons v l ih => obtain ⟨a, b⟩ := v; simp only [frzKV, ih, List.map_cons]

theorem frzE_get (id : Nat) (o : O) : ∀ (e : Env) (t : Nat), Env.get (frzE id o e) t = frzV id o (Env.get e t)
  | [], t => by simp [frzE, Env.get, frzV]
  | (i, v) :: e, t => by
    simp only [frzE, Env.get]
    cases Nat.beq i t
    · exact frzE_get id o e t
    · rfl

theorem frzH_get (id : Nat) (o : O) : ∀ (H : List O) (j i : Nat), (frzH id o j H)[i]? = (H[i]?).map fun x => if j + i = id then .dead else frzO id o x
  | [], j, i => by simp [frzH]
  | x :: H, j, i => by
    cases i with
    | zero =>
      simp only [frzH, List.getElem?_cons_zero, Option.map_some, Nat.add_zero]
      cases hb : Nat.beq j id with
      | true => rw [if_pos (Nat.eq_of_beq_eq_true hb)]
      | false => rw [if_neg (Nat.ne_of_beq_eq_false hb)]
    | succ i =>
      simp only [frzH, List.getElem?_cons_succ]
      rw [frzH_get id o H (j + 1) i, show j + 1 + i = j + (i + 1) by omega]

theorem frzH_len (id : Nat) (o : O) : ∀ (H : List O) (j : Nat), (frzH id o j H).length = H.length
  | [], j => rfl
  | x :: H, j => by simp [frzH, frzH_len id o H (j + 1)]

theorem frzO_has (id : Nat) (o : O) (q : Pl) (b : Nat) (x : O) : (frzO id o x).owns q b ↔ x.owns q b := by cases x <;> exact Iff.rfl

theorem frz_st (hst : St I ρ H w) {id : Nat} {p : Pl} {o : O} (hp : ρ[id]? = some p) (ho : H[id]? = some o) (hok : frzOk o = true) (hfit : FitH id o H) (k : Nat) :
    ∃ I', St I' ρ (frzH id o 0 H) w ∧ Step k I ρ H w I' ρ (frzH id o 0 H) w ∧ ∀ v u, FitV id o v → VRel I ρ v u → VRel I' ρ (frzV id o v) u := by
  have hor := hst.obj id p o hp ho
  -- the immutable cells
  obtain ⟨I', hI, hcell, himm, hsame⟩ : ∃ I' : Imm, ILe I I' ∧ (o.has p → ∀ q c, w.cell? ⟨p.b, q, none⟩ = some c → I' p.b q = some c) ∧ (∀ b q v, I' b q = some v → w.cell? ⟨b, q, none⟩ = some v ∧ (I b q = some v ∨ (o.has p ∧ b = p.b))) ∧ (∀ b, ¬ (o.has p ∧ b = p.b) → I' b = I b) := by
    by_cases hh : o.has p
    · refine ⟨immAdd I w p.b, fun b q v hv => ?_, fun _ q c hc => by simp [immAdd, hc], fun b q v hv => ?_, fun b hb => ?_⟩
      · have hne : b ≠ p.b := fun hb => by
          have := hst.sep p.b ⟨id, p, o, hp, ho, hh.owns⟩ q
          rw [hb, this] at hv; cases hv
        simp [immAdd, hne, hv]
      · unfold immAdd at hv
        split at hv
        · rename_i hb; subst hb; exact ⟨hv, .inr ⟨hh, rfl⟩⟩
        · exact ⟨hst.imm b q v hv, .inl hv⟩
      · funext q
        have : b ≠ p.b := fun h => hb ⟨hh, h⟩
        simp [immAdd, this]
    · exact ⟨I, ILe.refl _, fun h => absurd h hh, fun b q v hv => ⟨hst.imm b q v hv, .inl hv⟩, fun _ _ => rfl⟩
  have hval : ∀ v u, FitV id o v → VRel I ρ v u → VRel I' ρ (frzV id o v) u := fun v u hf h => frz_rel hI hok hor hcell h rfl hp hf
  have hget : ∀ i x, (frzH id o 0 H)[i]? = some x → x = .dead ∨ ∃ y, H[i]? = some y ∧ x = frzO id o y ∧ i ≠ id := fun i x hx => by
    rw [frzH_get] at hx
    cases hy : H[i]? with
    | none => rw [hy] at hx; cases hx
    | some y =>
      rw [hy] at hx
      simp only [Option.map_some, Nat.zero_add, Option.some.injEq] at hx
      split at hx
      · exact .inl hx.symm
      · rename_i hne; exact .inr ⟨y, rfl, hx.symm, hne⟩
  have hown : ∀ b, Owned ρ (frzH id o 0 H) b → Owned ρ H b ∧ ¬ (o.has p ∧ b = p.b) := by
    rintro b ⟨i, q, x, hq, hx, hh⟩
    rcases hget i x hx with rfl | ⟨y, hy, rfl, hne⟩
    · exact hh.1.elim
    · have hh' := (frzO_has id o q b y).1 hh
      exact ⟨⟨i, q, y, hq, hy, hh'⟩, fun ⟨h1, h2⟩ => hne (hst.inj i id q p y o b hq hy hh' hp ho (by rw [h2]; exact h1.owns))⟩
  refine ⟨I', ⟨by rw [frzH_len]; exact hst.len, fun i q x hq hx => ?_, fun i j q r x y b0 hq hx hh hr hy hh' => ?_, ⟨fun b q v hv => (himm b q v hv).1, Globs.mono hI hst.imm.glob⟩, fun b hb q => ?_⟩, ⟨hI, fun _ _ => rfl, rfl, rfl, rfl, Nat.le_refl _, fun _ _ _ => rfl, fun b hb => .inl (hown b hb).1, fun b q v hv => ?_⟩, hval⟩
  · rcases hget i x hx with rfl | ⟨y, hy, rfl, hne⟩
    · trivial
    · have h1 := hst.obj i q y hq hy
      cases y with
      | cells cs =>
        obtain ⟨g1, ⟨c, t, fr, g2, g3⟩, g4, g5⟩ := h1
        have hl : (frzL id o cs).length = cs.length := by rw [frzL_map]; simp
        refine ⟨g1, ⟨c, t, fr, g2, by rw [hl]; exact g3⟩, by rw [hl]; exact g4, fun j v hv => ?_⟩
        rw [frzL_map, List.getElem?_map] at hv
        cases hx : cs[j]? with
        | none => rw [hx] at hv; cases hv
        | some z =>
          rw [hx] at hv; cases hv
          obtain ⟨u, u1, u2, u3⟩ := g5 j z hx
          exact ⟨u, u1, u2, hval z u (fun x hx' => hfit _ (List.mem_of_getElem? hy) x (by simp only [msO]; exact msL_mem (List.mem_of_getElem? hx) hx')) u3⟩
      | buf es => exact h1.keep (fun _ _ => rfl) hI (PLe.refl _)
      | iter s pos => exact h1.keep (fun _ _ => rfl) hI (PLe.refl _)
      | map kvs clock =>
        obtain ⟨es, g1, g2, g3⟩ := h1
        refine ⟨es, g1, by rw [frzKV_map]; simp [g2], fun j kv e hkv he => ?_⟩
        rw [frzKV_map, List.getElem?_map] at hkv
        cases hx : kvs[j]? with
        | none => rw [hx] at hkv; cases hkv
        | some z =>
          rw [hx] at hkv; cases hkv
          have := g3 j z e hx he
          exact ⟨hval _ _ (fun x hx' => hfit _ (List.mem_of_getElem? hy) x (by simp only [msO]; exact msKV_mem (List.mem_of_getElem? hx) (.inl hx'))) this.1, hval _ _ (fun x hx' => hfit _ (List.mem_of_getElem? hy) x (by simp only [msO]; exact msKV_mem (List.mem_of_getElem? hx) (.inr hx'))) this.2⟩
      | loop c st e =>
        obtain ⟨r, g1, g2, g3, g4, g5, g6, g7, g8⟩ := h1
        exact ⟨r, g1, g2, g3, g4, g5, g6, g7, fun t => by rw [frzE_get]; exact hval _ _ (fun x hx' => hfit _ (List.mem_of_getElem? hy) x (by simp only [msO]; exact msE_mem hx')) (g8 t)⟩
      | res R B => exact h1.keep (fun _ _ => rfl) hI (PLe.refl _)
      | dead => trivial
  · rcases hget i x hx with rfl | ⟨x', hx', rfl, _⟩
    · exact hh.1.elim
    rcases hget j y hy with rfl | ⟨y', hy', rfl, _⟩
    · exact hh'.1.elim
    exact hst.inj i j q r x' y' b0 hq hx' ((frzO_has id o q b0 x').1 hh) hr hy' ((frzO_has id o r b0 y').1 hh')
  · obtain ⟨h1, h2⟩ := hown b hb
    rw [hsame b h2]
    exact hst.sep b h1 q
  · rcases (himm b q v hv).2 with h1 | ⟨h1, rfl⟩
    · exact .inl h1
    · exact .inr (.inl ⟨id, p, o, hp, ho, h1.owns⟩)

end Go.Proofs.YtcgpgpbnpjbhhaaPg
