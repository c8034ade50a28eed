/- What comes in: readings of plain data as abstract values. -/
import Derived.Test.YtcgpgpbnpjbhhaaPgC1
import Derived.ProofKit
namespace Go.Proofs.YtcgpgpbnpjbhhaaPg
open Go Go.RowKit
variable [Globs]
set_option linter.unusedVariables false
set_option linter.unusedSimpArgs false

variable {P : Program} {T : Nat → TI} {W : World}

/-- All that lies there at the start may be read, and stays. -/
def Im0 (W : World) : Imm := fun b o => W.cell? ⟨b, o, none⟩

theorem st0 (W : World) (hK : Globs.K (Im0 W)) : St (Im0 W) [] [] W :=
  ⟨rfl, fun i p o h => by simp at h, fun i j p q o r b h => by simp at h, ⟨fun b o v h => h, hK⟩, fun b ⟨i, p, o, h, _⟩ => by simp at h⟩

/-- The cells of plain data of a type. -/
def Shp (T : Nat → TI) : Nat → TypeId → List V → Prop
  | 0, _, _ => False
  | n + 1, t, vs => match (T t).kind with
    | .bool => ∃ b, vs = [.bool b]
    | .int k => ∃ x, (Lit.int k x).wf = true ∧ vs = [.int k x]
    | .str => ∃ s : List UInt8, s.length ≤ maxLen ∧ vs = [.str s]
    | .sl e => ∃ es, es.length ≤ maxLen ∧ (∀ x ∈ es, Shp T n e x) ∧ vs = [.sl (T e).size es false]
    | .struct fs => fs.foldr (fun f K vs => ∃ a b, Shp T n f.2 a ∧ K b ∧ vs = a ++ b) (fun vs => vs = []) vs
    | _ => False

def laysF (T : Nat → TI) (n : Nat) (lay : TypeId → Bool) : List (Nat × TypeId) → Nat → Bool
  | [], o => Nat.beq o n
  | (p, t) :: r, o => Nat.beq p o && (lay t && laysF T n lay r (o + (T t).size))

/-- The types that are served, and lie as they should. -/
def lays (T : Nat → TI) : Nat → TypeId → Bool
  | 0, _ => false
  | n + 1, t => (T t).good && match (T t).kind with
    | .bool => Nat.beq (T t).size 1
    | .int _ => Nat.beq (T t).size 1
    | .str => Nat.beq (T t).size 1
    | .sl e => Nat.beq (T t).size 1 && (Nat.blt 0 (T e).size && lays T n e)
    | .struct fs => laysF T (T t).size (lays T n) fs 0
    | _ => false

theorem size_of (hT : TIok P T) {t : TypeId} (h : (T t).good = true) : P.cellsOf t = (T t).size := by
  obtain ⟨i, z, d, g1, g2, g3, g4, g5⟩ := ti_good hT h
  simp [Program.cellsOf, g1, g4]

/-- The values that such cells hold. -/
structure In (W : World) (vs : List V) (cs : List Value) : Prop where
  rel : VRels (Im0 W) [] vs cs
  one : ∀ u ∈ cs, u.oneCell' = true

theorem In.append {vs vs' : List V} {cs cs' : List Value} (h : In W vs cs) (k : In W vs' cs') : In W (vs ++ vs') (cs ++ cs') := by
  refine ⟨⟨by simp [h.rel.1, k.rel.1], fun i a u ha hu => ?_⟩, fun u hu => ?_⟩
  · by_cases hi : i < vs.length
    · rw [List.getElem?_append_left hi] at ha
      rw [List.getElem?_append_left (by rw [← h.rel.1]; exact hi)] at hu
      exact h.rel.2 i a u ha hu
    · rw [List.getElem?_append_right (by omega)] at ha
      rw [List.getElem?_append_right (by rw [← h.rel.1]; omega), ← h.rel.1] at hu
      exact k.rel.2 _ a u ha hu
  · rcases List.mem_append.1 hu with hu | hu
    · exact h.one u hu
    · exact k.one u hu

theorem In.leaf {v : V} {u : Value} (h : VRel (Im0 W) [] v u) (h1 : u.oneCell' = true) : In W [v] [u] :=
  ⟨VRels.cons h (VRels.nil _ _), fun x hx => by simp at hx; subst hx; exact h1⟩

theorem all_rows {Q : Nat → List V → Prop} : ∀ (n : Nat), (∀ i, i < n → ∃ x, Q i x) → ∃ es : List (List V), es.length = n ∧ ∀ (i : Nat) (x : List V), es[i]? = some x → Q i x
  | 0, _ => ⟨[], rfl, fun i x h => by simp at h⟩
  | n + 1, h => by
    obtain ⟨es, h1, h2⟩ := all_rows n fun i hi => h i (by omega)
    obtain ⟨x, hx⟩ := h n (by omega)
    refine ⟨es ++ [x], by simp [h1], fun i y hy => ?_⟩
    by_cases hi : i < n
    · rw [List.getElem?_append_left (by omega)] at hy; exact h2 i y hy
    · have hlt := (List.getElem?_eq_some_iff.1 hy).1
      simp at hlt
      have : i = n := by omega
      subst this
      rw [List.getElem?_append_right (by omega), h1] at hy
      simp at hy; subst hy; exact hx

theorem mapM_mem {α β : Type} {f : α → Option β} : ∀ {l : List α} {ys : List β}, l.mapM f = some ys → ∀ x ∈ l, ∃ y, f x = some y
  | [], _, _, x, hx => by simp at hx
  | a :: l, ys, h, x, hx => by
    rw [List.mapM_cons] at h
    cases ha : f a with
    | none => simp [ha] at h
    | some y =>
      cases hl : l.mapM f with
      | none => simp [ha, hl] at h
      | some ys' =>
        rcases List.mem_cons.1 hx with rfl | hx
        · exact ⟨y, ha⟩
        · exact mapM_mem hl x hx

theorem cells_get {b : Nat} {a : Addr} {n : Nat} {cs : List Value} (h : W.cells? b a n = some cs) : cs.length = n ∧ ∀ i, i < n → W.cell? (a.add i) = cs[i]? := by
  unfold World.cells? at h
  split at h
  · have key : ∀ (l : List Nat) (cs : List Value), l.mapM (fun i => W.cell? (a.add i)) = some cs → cs.length = l.length ∧ ∀ (i k : Nat), l[i]? = some k → W.cell? (a.add k) = cs[i]? := by
      intro l
      induction l with
      | nil => intro cs h; simp at h; subst h; exact ⟨rfl, fun i k hk => by simp at hk⟩
      | cons x l ih =>
        intro cs h
        rw [List.mapM_cons] at h
        cases ha : W.cell? (a.add x) with
        | none => simp [ha] at h
        | some y =>
          cases hl : l.mapM (fun i => W.cell? (a.add i)) with
          | none => simp [ha, hl] at h
          | some ys =>
            simp [ha, hl] at h
            subst h
            obtain ⟨h1, h2⟩ := ih ys hl
            refine ⟨by simp [h1], fun i k hk => ?_⟩
            cases i with
            | zero => simp at hk; subst hk; simpa using ha
            | succ i => simp at hk; simpa using h2 i k hk
    obtain ⟨h1, h2⟩ := key _ _ h
    refine ⟨by simpa using h1, fun i hi => h2 i i (by simp [hi])⟩
  · cases h

theorem spot_none {a : Addr} {v : Value} (h : W.cell? a = some v) : a.spot = none := by
  cases hs : a.spot with
  | none => rfl
  | some s =>
    exfalso
    unfold World.cell? at h
    rw [hs] at h
    split at h <;> simp at h

section
variable {H : Type} {enc : TypeId × Value → H} {sp : Nat → Bool} {hd : Bool} {fuel : Nat} {t : TypeId} {cs : List Value} {x : DataW H × List MemPlace}

theorem trod_b (hu : P.underlying t = some .bool) (h : DataW.trod enc P W 0 sp hd fuel t cs = some x) : ∃ b, cs = [.bool b] := by
  cases fuel with
  | zero => simp [DataW.trod] at h
  | succ n =>
    unfold DataW.trod at h
    rw [hu] at h
    split at h <;> simp_all

theorem trod_i {k : IntKind} (hu : P.underlying t = some (.int k)) (h : DataW.trod enc P W 0 sp hd fuel t cs = some x) : ∃ n, (Lit.int k n).wf = true ∧ cs = [.int k n] := by
  cases fuel with
  | zero => simp [DataW.trod] at h
  | succ n =>
    unfold DataW.trod at h
    rw [hu] at h
    split at h <;> simp_all

theorem trod_s (hu : P.underlying t = some .string) (h : DataW.trod enc P W 0 sp hd fuel t cs = some x) : ∃ s : ByteArray, s.size ≤ maxLen ∧ cs = [.string s] := by
  cases fuel with
  | zero => simp [DataW.trod] at h
  | succ n =>
    unfold DataW.trod at h
    rw [hu] at h
    split at h <;> simp_all

theorem trod_st {fs : Array Field} (hu : P.underlying t = some (.struct fs)) (h : DataW.trod enc P W 0 sp hd fuel t cs = some x) : cs.length = P.cellsOf t ∧ ∃ n, ∀ f ∈ fs.toList, ∃ y, DataW.trod enc P W 0 sp hd n f.type (List.take (P.cellsOf f.type) (List.drop f.offset cs)) = some y := by
  cases fuel with
  | zero => simp [DataW.trod] at h
  | succ n =>
    unfold DataW.trod at h
    rw [hu] at h
    split at h <;> try (simp_all; done)
    rename_i cs x' cs1 fs' e1
    cases e1
    split at h
    · rename_i hl
      refine ⟨hl, n, fun f hf => ?_⟩
      cases hm : fs.toList.mapM (fun f => DataW.trod enc P W 0 sp hd n f.type ((cs.drop f.offset).take (P.cellsOf f.type))) with
      | none => rw [hm] at h; simp at h
      | some ys => exact mapM_mem hm f hf
    · cases h
end

theorem trod_in (hT : TIok P T) {H : Type} {enc : TypeId × Value → H} {hd : Bool} : ∀ (n fuel : Nat) (t : TypeId) (cs : List Value) (x : DataW H × List MemPlace), lays T n t = true → DataW.trod enc P W 0 (fun _ => true) hd fuel t cs = some x → ∃ vs, Shp T n t vs ∧ In W vs cs ∧ vs.length = (T t).size := by
  intro n
  induction n with
  | zero => intro fuel t cs x h; simp [lays] at h
  | succ n ih =>
    intro fuel t cs x h htr
    simp only [lays, Bool.and_eq_true] at h
    obtain ⟨hg, h⟩ := h
    have hsz := size_of hT hg
    cases hk : (T t).kind <;> simp only [hk] at h <;> (try (exact absurd h (by decide))) <;> simp only [Shp, hk]
    case bool =>
      obtain ⟨b, rfl⟩ := trod_b (ty_bool hT hk) htr
      exact ⟨_, ⟨b, rfl⟩, In.leaf (.bool _ _) rfl, by rw [Nat.eq_of_beq_eq_true h]; rfl⟩
    case int k =>
      obtain ⟨m, hw, rfl⟩ := trod_i (ty_int hT hk) htr
      exact ⟨_, ⟨m, hw, rfl⟩, In.leaf (.int _ _ _) rfl, by rw [Nat.eq_of_beq_eq_true h]; rfl⟩
    case str =>
      obtain ⟨s, hs, rfl⟩ := trod_s (ty_str hT hk) htr
      exact ⟨_, ⟨s.data.toList, by simpa using hs, rfl⟩, In.leaf (vr_str' _ rfl) rfl, by rw [Nat.eq_of_beq_eq_true h]; rfl⟩
    case sl e =>
      rw [Bool.and_eq_true, Bool.and_eq_true] at h
      obtain ⟨h, hpos, hle⟩ := h
      have hpos : 0 < (T e).size := Nat.le_of_ble_eq_true hpos
      have hge : (T e).good = true := by
        cases n with
        | zero => simp [lays] at hle
        | succ n => simp only [lays, Bool.and_eq_true] at hle; exact hle.1
      have hce := size_of hT hge
      rcases DataW.trod_slice (ty_sl hT hk) htr with ⟨rfl, _⟩ | ⟨a, len, cap, elems, rest, m, rfl, rfl, _, _, hl, hc, hlen, hel, hspare, _⟩
      · exact ⟨_, ⟨[], by simp, by simp, rfl⟩, In.leaf (.slnil _ _ _ _) rfl, by rw [Nat.eq_of_beq_eq_true h]; rfl⟩
      · rw [hce] at hel
        have each : ∀ i, i < len → ∃ vs, Shp T n e vs ∧ vs.length = (T e).size ∧ ∃ cs, In W vs cs ∧ ∀ j, j < (T e).size → W.cell? ((a.add (i * (T e).size)).add j) = cs[j]? := by
          intro i hi
          have h1 := hel i hi
          rw [List.getElem?_eq_getElem (by omega)] at h1
          simp only [Option.bind_eq_some_iff] at h1
          obtain ⟨cs, hcs, hy⟩ := h1
          obtain ⟨hcl, hcg⟩ := cells_get hcs
          obtain ⟨vs, g1, g2, g3⟩ := ih _ _ _ _ hle hy
          exact ⟨vs, g1, g3, cs, g2, hcg⟩
        obtain ⟨es, hes, hget⟩ := all_rows len each
        refine ⟨_, ⟨es, by omega, fun x hx => ?_, rfl⟩, In.leaf ?_ rfl, by rw [Nat.eq_of_beq_eq_true h]; rfl⟩
        · obtain ⟨i, hi⟩ := List.getElem?_of_mem hx
          exact (hget i x hi).1
        · by_cases hcap : cap = 0
          · have : len = 0 := by omega
            subst this
            have : es = [] := List.eq_nil_of_length_eq_zero hes
            subst this
            subst hcap
            exact .slnil _ _ _ _
          · have hsp : a.spot = none := by
              have e0 : ∀ k, (a.add (0 * k)).add 0 = a := fun k => by simp [Addr.add]
              by_cases hlen0 : len = 0
              · obtain ⟨_, hr⟩ := hspare rfl
                have h1 := hr 0 (by omega)
                rw [hce, List.getElem?_eq_getElem (by omega)] at h1
                simp only [Option.bind_eq_some_iff] at h1
                obtain ⟨cs, hcs, hy⟩ := h1
                obtain ⟨hcl, hcg⟩ := cells_get hcs
                have h2 := hcg 0 hpos
                rw [List.getElem?_eq_getElem (by omega), hlen0, e0] at h2
                exact spot_none h2
              · obtain ⟨vs, _, hvl, cs, hin, hcell⟩ := each 0 (by omega)
                have h2 := hcell 0 (by omega)
                have : cs.length = (T e).size := by rw [← hin.rel.1, hvl]
                rw [List.getElem?_eq_getElem (by omega), e0] at h2
                exact spot_none h2
            obtain ⟨b, base, spt⟩ := a
            cases hsp
            subst hes
            refine .sl _ _ _ _ _ _ _ (fun i j => (W.cell? ⟨b, base + (i * (T e).size + j), none⟩).getD undef) hl (by simp) (fun i x hx => (hget i x hx).2.1) (fun i x j c hx hc => ?_) (fun i x j c hx hc => ?_) (fun i x j c hx hc => ?_)
            all_goals
              obtain ⟨_, hvl, cs, hin, hcell⟩ := hget i x hx
              have hjx : j < x.length := (List.getElem?_eq_some_iff.1 hc).1
              have h2 := hcell j (by omega)
              have hcl : cs.length = x.length := hin.rel.1.symm
              rw [List.getElem?_eq_getElem (by omega)] at h2
              have e0 : ((⟨b, base, none⟩ : Addr).add (i * (T e).size)).add j = ⟨b, base + (i * (T e).size + j), none⟩ := by
                unfold Addr.add; split <;> split <;> simp_all <;> omega
              rw [e0] at h2
            · simp only [Im0, h2, Option.getD_some]
            · simp only [h2, Option.getD_some]; exact hin.one _ (List.getElem_mem _)
            · simp only [h2, Option.getD_some]; exact hin.rel.2 j c _ hc (by simp)
    case struct fs =>
      obtain ⟨fa, hu, hfs⟩ := ty_struct hT hk
      obtain ⟨hlen, m, hm⟩ := trod_st hu htr
      rw [hsz] at hlen
      have key : ∀ (l : List (Nat × TypeId)) (o : Nat) (cs' : List Value), laysF T (T t).size (lays T n) l o = true → cs' = cs.drop o → (∀ f ∈ l, ∃ g ∈ fa.toList, f = (g.offset, g.type)) →
          ∃ vs, l.foldr (fun f K vs => ∃ a b, Shp T n f.2 a ∧ K b ∧ vs = a ++ b) (fun vs => vs = []) vs ∧ In W vs cs' := by
        intro l
        induction l with
        | nil =>
          intro o cs' hl hcs _
          have := Nat.eq_of_beq_eq_true hl
          subst this
          rw [← hlen, List.drop_length] at hcs
          subst hcs
          exact ⟨[], rfl, ⟨VRels.nil _ _, by simp⟩⟩
        | cons f l ihl =>
          intro o cs' hl hcs hf
          obtain ⟨p, q⟩ := f
          simp only [laysF, Bool.and_eq_true] at hl
          obtain ⟨hl1, hl2, hl3⟩ := hl
          have := Nat.eq_of_beq_eq_true hl1
          subst this
          obtain ⟨g, hg1, hg2⟩ := hf (p, q) (by simp)
          cases hg2
          have hgq : (T g.type).good = true := by
            cases n with
            | zero => simp [lays] at hl2
            | succ n => simp only [lays, Bool.and_eq_true] at hl2; exact hl2.1
          obtain ⟨y, hy⟩ := hm g hg1
          rw [size_of hT hgq] at hy
          obtain ⟨vs1, a1, a2, a3⟩ := ih _ _ _ _ hl2 hy
          obtain ⟨vs2, b1, b2⟩ := ihl (g.offset + (T g.type).size) (cs.drop (g.offset + (T g.type).size)) hl3 rfl (fun f hf' => hf f (by simp [hf']))
          refine ⟨vs1 ++ vs2, ⟨vs1, vs2, a1, b1, rfl⟩, ?_⟩
          have e1 : cs' = (cs.drop g.offset).take (T g.type).size ++ cs.drop (g.offset + (T g.type).size) := by
            rw [hcs, ← List.drop_drop]; exact (List.take_append_drop _ _).symm
          rw [e1]
          exact a2.append b2
      obtain ⟨vs, h1, h2⟩ := key fs 0 cs h (by simp) (fun f hf => by
        rw [hfs] at hf
        obtain ⟨g, hg1, hg2⟩ := List.mem_map.1 hf
        exact ⟨g, hg1, hg2.symm⟩)
      exact ⟨vs, h1, h2, by rw [h2.rel.1, hlen]⟩

end Go.Proofs.YtcgpgpbnpjbhhaaPg
