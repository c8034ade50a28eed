/- The effects: what they do to the state. -/
import Derived.Test.YtcgpgpbnpjbhhaaPgA8
import Derived.Laws.IdiomCopy
import Derived.Laws.AppendOwn
namespace Go.Proofs.YtcgpgpbnpjbhhaaPg
open Go Go.RowKit
variable [Globs]
set_option linter.unusedVariables false
set_option linter.unusedSimpArgs false

variable {P : Program} {T : Nat → TI} {I : Imm} {ρ : List Pl} {H : List O} {w : World} {e : Env}

theorem Open.of_block {w w' : World} {b lo hi : Nat} (h : Open w b lo hi) (hb : w'.heap[b]? = w.heap[b]?) : Open w' b lo hi := by
  obtain ⟨c, t, fr, h1, h2, h3⟩ := h
  exact ⟨c, t, fr, by rw [hb, h1], h2, fun o ho1 ho2 => by rw [← h3 o ho1 ho2]; exact World.frozen?_of_block (w := w) hb⟩

theorem CellsAt.of_block {w w' : World} {b base : Nat} {cs : List V} {I' : Imm} {ρ' : List Pl} (h : CellsAt I ρ w b base cs) (hb : w'.heap[b]? = w.heap[b]?) (hI : ILe I I') (hp : PLe ρ ρ') : CellsAt I' ρ' w' b base cs := fun i v hv => by
  obtain ⟨u, h1, ho, h2⟩ := h i v hv
  exact ⟨u, by rw [← h1]; exact World.cell?_of_block (w := w) hb, ho, h2.mono hI hp⟩

theorem ORel.keep {I' : Imm} {ρ' : List Pl} {w' : World} {p : Pl} {o : O} (h : ORel I ρ w p o) (hb : ∀ b, o.owns p b → w'.heap[b]? = w.heap[b]?) (hI : ILe I I') (hp : PLe ρ ρ') : ORel I' ρ' w' p o := by
  cases o with
  | cells cs =>
    have hb := hb p.b ⟨trivial, rfl⟩
    obtain ⟨h1, h2, h3, h4⟩ := h
    exact ⟨h1, by rw [hb]; exact h2, h3.of_block hb, h4.of_block hb hI hp⟩
  | buf es =>
    rcases h with h | ⟨h1, h2, h3⟩
    · exact .inl h
    · by_cases h0 : p.tot = 0
      · exact .inl ⟨List.eq_nil_of_length_eq_zero (by omega), h0⟩
      · have hb := hb p.b ⟨h0, rfl⟩
        exact .inr ⟨h1, h2.of_block hb, fun i e he => ⟨(h3 i e he).1, (h3 i e he).2.of_block hb hI (PLe.refl _)⟩⟩
  | iter s pos =>
    have hb := hb p.b ⟨trivial, rfl⟩
    obtain ⟨h1, ba, h2, h3⟩ := h
    exact ⟨h1, ba, h2, by rw [hb, h3]⟩
  | map kvs clock =>
    have hb := hb p.b ⟨trivial, rfl⟩
    obtain ⟨es, h1, h2, h3⟩ := h
    exact ⟨es, by rw [hb, h1], h2, fun i kv e a b => ⟨(h3 i kv e a b).1.mono hI hp, (h3 i kv e a b).2.mono hI hp⟩⟩
  | loop c st e =>
    have hb := hb p.b ⟨trivial, rfl⟩
    obtain ⟨r, h1, h2, h3, h4, h5, h6, h7, h8⟩ := h
    exact ⟨r, by rw [hb, h1], h2, h3, h4, h5, h6, h7, fun t => (h8 t).mono hI hp⟩
  | res R B =>
    obtain ⟨h1, h2, h3⟩ := h
    refine ⟨h2 I' w' hI hb, fun I'' w'' hi hs => h2 I'' w'' (hI.trans hi) (fun b hbB => (hs b hbB).trans (hb b hbB)), fun b hbB => ?_⟩
    have h4 := hb b hbB
    rw [Array.getElem?_eq_getElem (h3 b hbB)] at h4
    exact (Array.getElem?_eq_some_iff.1 h4).1
  | dead => exact trivial

/-- One object turned or added (number c); the others are as they were, or dead. -/
theorem St.one (h : St I ρ H w) {ρ' : List Pl} {H' : List O} {w' : World} (c : Nat) (pc : Pl) (oc : O) (hlen : ρ'.length = H'.length) (hP : PLe ρ ρ') (hc1 : ρ'[c]? = some pc) (hc2 : H'[c]? = some oc)
    (hoth : ∀ (i : Nat) (o : O), i ≠ c → H'[i]? = some o → o = .dead ∨ H[i]? = some o) (hothρ : ∀ (i : Nat) (p : Pl), i ≠ c → ρ'[i]? = some p → ρ[i]? = some p)
    (hblk : ∀ b, b < w.heap.size → b ≠ pc.b → w'.heap[b]? = w.heap[b]?) (hsame : ¬ oc.has pc → w'.heap[pc.b]? = w.heap[pc.b]?)
    (hnew : oc.has pc → ∀ (i : Nat) (p : Pl) (o : O), i ≠ c → ρ[i]? = some p → H'[i]? = some o → ¬ o.owns p pc.b)
    (hsep : oc.has pc → ∀ o, I pc.b o = none) (horel : ORel I ρ' w' pc oc) (hone : ∀ b, oc.owns pc b → oc.has pc ∧ pc.b = b := by exact fun _ h => h) : St I ρ' H' w' := by
  have old : ∀ (i : Nat) (p : Pl) (o : O) (b : Nat), i ≠ c → ρ'[i]? = some p → H'[i]? = some o → o.owns p b → ρ[i]? = some p ∧ H[i]? = some o := by
    intro i p o b hi hp ho hh
    rcases hoth i o hi ho with rfl | ho'
    · exact hh.1.elim
    · exact ⟨hothρ i p hi hp, ho'⟩
  refine ⟨hlen, ?_, ?_, ⟨?_, h.imm.glob⟩, ?_⟩
  · intro i p o hp ho
    by_cases hi : i = c
    · subst hi
      rw [hc1] at hp; rw [hc2] at ho
      cases hp; cases ho
      exact horel
    · rcases hoth i o hi ho with rfl | ho'
      · exact trivial
      · have hp' := hothρ i p hi hp
        refine (h.obj i p o hp' ho').keep (fun b hh => ?_) (ILe.refl _) hP
        have hlt : b < w.heap.size := h.lt ⟨i, p, o, hp', ho', hh⟩
        by_cases hpb : b = pc.b
        · by_cases hhc : oc.has pc
          · exact absurd (hpb ▸ hh) (hnew hhc i p o hi hp' ho)
          · rw [hpb]; exact hsame hhc
        · exact hblk _ hlt hpb
  · intro i j p q o r b hp ho hh hq hr hh'
    by_cases hi : i = c
    · by_cases hj : j = c
      · rw [hi, hj]
      · subst hi
        rw [hc1] at hp; rw [hc2] at ho
        cases hp; cases ho
        obtain ⟨a1, a2⟩ := old j q r b hj hq hr hh'
        obtain ⟨g1, rfl⟩ := hone b hh
        exact absurd hh' (hnew g1 j q r hj a1 hr)
    · by_cases hj : j = c
      · subst hj
        rw [hc1] at hq; rw [hc2] at hr
        cases hq; cases hr
        obtain ⟨a1, a2⟩ := old i p o b hi hp ho hh
        obtain ⟨g1, rfl⟩ := hone b hh'
        exact absurd hh (hnew g1 i p o hi a1 ho)
      · obtain ⟨a1, a2⟩ := old i p o b hi hp ho hh
        obtain ⟨b1, b2⟩ := old j q r b hj hq hr hh'
        exact h.inj i j p q o r b a1 a2 hh b1 b2 hh'
  · intro b o v hv
    have hlt := h.imm_lt hv
    rw [← h.imm b o v hv]
    by_cases hpb : b = pc.b
    · by_cases hhc : oc.has pc
      · subst hpb; rw [hsep hhc o] at hv; cases hv
      · subst hpb; exact World.cell?_of_block (w := w) (hsame hhc)
    · exact World.cell?_of_block (w := w) (hblk b hlt hpb)
  · intro b ⟨i, p, o, hp, ho, hh⟩ q
    by_cases hi : i = c
    · subst hi
      rw [hc1] at hp; rw [hc2] at ho
      cases hp; cases ho
      obtain ⟨g1, rfl⟩ := hone b hh
      exact hsep g1 q
    · obtain ⟨a1, a2⟩ := old i p o b hi hp ho hh
      exact h.sep b ⟨i, p, o, a1, a2, hh⟩ q

/-- ... and what it is as a step. -/
theorem Step.one {ρ' : List Pl} {H' : List O} {w' : World} (c : Nat) (pc : Pl) (oc : O) (k : Nat) (hk : k ≤ ρ.length) (hP : PLe ρ ρ') (hc1 : ρ'[c]? = some pc) (hc2 : H'[c]? = some oc)
    (hoth : ∀ (i : Nat) (o : O), i ≠ c → H'[i]? = some o → o = .dead ∨ H[i]? = some o) (hothρ : ∀ (i : Nat) (p : Pl), i ≠ c → ρ'[i]? = some p → ρ[i]? = some p)
    (hblk : ∀ b, b < w.heap.size → b ≠ pc.b → w'.heap[b]? = w.heap[b]?) (hsame : ¬ oc.has pc → w'.heap[pc.b]? = w.heap[pc.b]?)
    (hown : oc.has pc → Owned ρ H pc.b ∨ w.heap.size ≤ pc.b) (hos : w'.os = w.os) (htape : w'.tape = w.tape) (hout : w'.output = w.output) (hsize : w.heap.size ≤ w'.heap.size) (hone : ∀ b, oc.owns pc b → oc.has pc ∧ pc.b = b := by exact fun _ h => h) :
    Step k I ρ H w I ρ' H' w' := by
  refine ⟨ILe.refl _, fun i hi => ?_, hos, htape, hout, hsize, fun b hb hn => ?_, fun b ⟨i, p, o, hp, ho, hh⟩ => ?_, fun b o v h => .inl h⟩
  · have : i < ρ.length := by omega
    rw [List.getElem?_eq_getElem this, hP i _ (List.getElem?_eq_getElem this)]
  · by_cases hpb : b = pc.b
    · subst hpb
      by_cases hhc : oc.has pc
      · rcases hown hhc with h1 | h1
        · exact absurd h1 hn
        · omega
      · exact hsame hhc
    · exact hblk b hb hpb
  · by_cases hi : i = c
    · subst hi
      rw [hc1] at hp; rw [hc2] at ho
      cases hp; cases ho
      obtain ⟨g1, rfl⟩ := hone b hh
      exact hown g1
    · rcases hoth i o hi ho with rfl | ho'
      · exact hh.1.elim
      · exact .inl ⟨i, p, o, hothρ i p hi hp, ho', hh⟩

/-- A new object in a new block. -/
theorem St.push (h : St I ρ H w) (k : Nat) (hk : k ≤ ρ.length) (ob : Obj) (p : Pl) (o : O) (hp : p.b = w.heap.size) (w' : World) (hw : w'.heap = w.heap.push ob) (hos : w'.os = w.os) (htape : w'.tape = w.tape) (hout : w'.output = w.output)
    (horel : ORel I (ρ ++ [p]) w' p o) (hone : ∀ b, o.owns p b → o.has p ∧ p.b = b := by exact fun _ h => h) : St I (ρ ++ [p]) (H ++ [o]) w' ∧ Step k I ρ H w I (ρ ++ [p]) (H ++ [o]) w' := by
  have e1 : (ρ ++ [p])[H.length]? = some p := by rw [← h.len]; simp
  have e2 : (H ++ [o])[H.length]? = some o := by simp
  have e3 : ∀ (i : Nat) (x : O), i ≠ H.length → (H ++ [o])[i]? = some x → x = .dead ∨ H[i]? = some x := by
    intro i x hi hx
    have hlt := (List.getElem?_eq_some_iff.1 hx).1
    simp at hlt
    rw [List.getElem?_append_left (by omega)] at hx
    exact .inr hx
  have e4 : ∀ (i : Nat) (q : Pl), i ≠ H.length → (ρ ++ [p])[i]? = some q → ρ[i]? = some q := by
    intro i q hi hq
    have hlt := (List.getElem?_eq_some_iff.1 hq).1
    simp [h.len] at hlt
    rw [List.getElem?_append_left (by rw [h.len]; omega)] at hq
    exact hq
  have e5 : ∀ b, b < w.heap.size → w'.heap[b]? = w.heap[b]? := by
    intro b hb
    rw [hw, Array.getElem?_push, if_neg (by omega)]
  have fresh : ∀ (i : Nat) (q : Pl) (x : O), i ≠ H.length → ρ[i]? = some q → (H ++ [o])[i]? = some x → ¬ x.owns q p.b := by
    intro i q x hi hq hx hh
    rcases e3 i x hi hx with rfl | hx'
    · exact hh.1
    · have := h.lt ⟨i, q, x, hq, hx', hh⟩
      omega
  have nosame : ∀ {A : Prop}, w'.heap[p.b]? = w.heap[p.b]? → A := by
    intro A he
    rw [hw, hp] at he
    simp at he
  constructor
  · by_cases hh : o.has p
    · exact h.one H.length p o (by simp [h.len]) (PLe.append _ _) e1 e2 e3 e4 (fun b hb _ => e5 b hb) (fun hn => absurd hh hn) (fun _ => fresh) (fun _ q => by
        cases hi : I p.b q with
        | none => rfl
        | some v => have := h.imm_lt hi; omega) horel hone
    · refine ⟨by simp [h.len], ?_, ?_, ⟨?_, h.imm.glob⟩, ?_⟩
      · intro i q x hq hx
        by_cases hi : i = H.length
        · subst hi; rw [e1] at hq; rw [e2] at hx; cases hq; cases hx; exact horel
        · rcases e3 i x hi hx with rfl | hx'
          · exact trivial
          · exact (h.obj i q x (e4 i q hi hq) hx').keep (fun b hh' => e5 _ (h.lt ⟨i, q, x, e4 i q hi hq, hx', hh'⟩)) (ILe.refl _) (PLe.append _ _)
      · intro i j q r x y b hq hx hx' hr hy hy'
        have ni : i ≠ H.length := fun hi => by subst hi; rw [e1] at hq; rw [e2] at hx; cases hq; cases hx; exact hh (hone b hx').1
        have nj : j ≠ H.length := fun hi => by subst hi; rw [e1] at hr; rw [e2] at hy; cases hr; cases hy; exact hh (hone b hy').1
        rcases e3 i x ni hx with rfl | hx2
        · exact hx'.1.elim
        · rcases e3 j y nj hy with rfl | hy2
          · exact hy'.1.elim
          · exact h.inj i j q r x y b (e4 i q ni hq) hx2 hx' (e4 j r nj hr) hy2 hy'
      · intro b q v hv
        rw [← h.imm b q v hv]
        exact World.cell?_of_block (w := w) (e5 b (h.imm_lt hv))
      · intro b ⟨i, q, x, hq, hx, hx'⟩ z
        have ni : i ≠ H.length := fun hi => by subst hi; rw [e1] at hq; rw [e2] at hx; cases hq; cases hx; exact hh (hone b hx').1
        rcases e3 i x ni hx with rfl | hx2
        · exact hx'.1.elim
        · exact h.sep b ⟨i, q, x, e4 i q ni hq, hx2, hx'⟩ z
  · refine ⟨ILe.refl _, fun i hi => ?_, hos, htape, hout, by rw [hw]; simp, fun b hb hn => e5 b hb, fun b ⟨i, q, x, hq, hx, hx'⟩ => ?_, fun b q v hv => .inl hv⟩
    · rw [List.getElem?_append_left (by omega)]
    · by_cases hi : i = H.length
      · subst hi; rw [e1] at hq; rw [e2] at hx; cases hq; cases hx; right; have := (hone b hx').2; omega
      · rcases e3 i x hi hx with rfl | hx2
        · exact hx'.1.elim
        · exact .inl ⟨i, q, x, e4 i q hi hq, hx2, hx'⟩

end Go.Proofs.YtcgpgpbnpjbhhaaPg
