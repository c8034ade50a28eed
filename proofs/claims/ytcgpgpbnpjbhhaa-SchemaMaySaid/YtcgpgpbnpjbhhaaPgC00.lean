/- Regions whose order is drawn: the main proof. -/
import Derived.Test.YtcgpgpbnpjbhhaaPgC0
namespace Go.Proofs.YtcgpgpbnpjbhhaaPg
open Go Go.RowKit
variable [Globs]
set_option linter.unusedVariables false
set_option linter.unusedSimpArgs false

variable {P : Program} {T : Nat → TI} {I : Imm} {ρ : List Pl} {H : List O} {w : World} {e : Env}

/-- What an earlier quiet operation comes to in the state that there is. -/
def PF (X : Ctx) (ops : List Oper) (e : Env) (H : List O) (i : Nat) (ran : Bool) : Prop :=
  ∃ o, ops[i]? = some o ∧ loud o = false ∧
    (match o.guard with
     | none => ran = true
     | some (j, want) => ∃ d, (ops[j]?).bind (·.dst) = some d ∧ ((∃ b, Env.get e d = .bool b ∧ ran = (b == want)) ∨ (Env.get e d = .tup [] ∧ ran = false))) ∧
    (match o.dst with
     | none => ran = true → ∃ v, aq X.T o.op e H (fun u => u = v)
     | some d => d < X.n ∧ (ran = true → aq X.T o.op e H (fun u => u = Env.get e d)) ∧ (ran = false → Env.get e d = .tup []))

def touches (ops : List Oper) (o : Oper) (t : Nat) : Prop := t ∈ looksOf ops o ∨ o.dst = some t

theorem looks_aeval {ops : List Oper} {o : Oper} {e e' : Env} (h : ∀ t ∈ looksOf ops o, Env.get e' t = Env.get e t) : ∀ x ∈ o.op.operands, aeval e x = aeval e' x := by
  intro x hx
  cases x with
  | tmp t =>
    have : t ∈ looksOf ops o := by
      unfold looksOf
      rw [List.mem_append]
      left
      rw [List.mem_filterMap]
      exact ⟨.tmp t, by simpa using hx, rfl⟩
    simp only [aeval, h t this]
  | const v => rfl
  | global g => rfl
  | func f => rfl

theorem looks_guard {ops : List Oper} {o : Oper} {j : Nat} {want : Bool} (hg : o.guard = some (j, want)) {d : Nat} (hd : (ops[j]?).bind (·.dst) = some d) : d ∈ looksOf ops o := by
  unfold looksOf
  rw [List.mem_append]
  right
  simp [hg, hd]

theorem PF.env {X : Ctx} {ops : List Oper} {e e' : Env} {H H' : List O} {i : Nat} {ran : Bool} (h : PF X ops e H i ran) (ht : ∀ o, ops[i]? = some o → ∀ t, touches ops o t → Env.get e' t = Env.get e t)
    (hr : ∀ o d, ops[i]? = some o → o.dst = some d → ran = true → readsH o.op = true → aq X.T o.op e' H' (fun u => u = Env.get e' d)) (hr0 : ∀ o, ops[i]? = some o → o.dst = none → readsH o.op = true → ran = true → H' = H) : PF X ops e' H' i ran := by
  obtain ⟨o, h1, h2, h3, h4⟩ := h
  have htl : ∀ t ∈ looksOf ops o, Env.get e' t = Env.get e t := fun t h => ht o h1 t (.inl h)
  have hop := looks_aeval htl
  refine ⟨o, h1, h2, ?_, ?_⟩
  · cases hg : o.guard with
    | none => rw [hg] at h3; exact h3
    | some jw =>
      obtain ⟨j, want⟩ := jw
      rw [hg] at h3
      obtain ⟨d, hd, h5⟩ := h3
      refine ⟨d, hd, ?_⟩
      rw [htl d (looks_guard hg hd)]
      exact h5
  · cases hd : o.dst with
    | none =>
      rw [hd] at h4
      intro hran
      obtain ⟨v, hv⟩ := h4 hran
      refine ⟨v, ?_⟩
      rw [← aq_congr hop]
      cases hre : readsH o.op with
      | false => rw [aq_heap hre e H' H]; exact hv
      | true => rw [hr0 o h1 hd hre hran]; exact hv
    | some d =>
      rw [hd] at h4
      obtain ⟨g1, g2, g3⟩ := h4
      have hdd : Env.get e' d = Env.get e d := ht o h1 d (.inr hd)
      refine ⟨g1, fun hran => ?_, fun hran => by rw [hdd]; exact g3 hran⟩
      cases hre : readsH o.op with
      | false => rw [← aq_congr hop, aq_heap hre e H' H, hdd]; exact g2 hran
      | true => exact hr o d h1 hd hran hre

/-- The state of a region within which some have been carried out. -/
structure DInv (X : Ctx) (ops : Array Oper) (K : Env → List O → Prop) (L : List Nat) (I0 : Imm) (ρ0 : List Pl) (H0 : List O) (w0 : World) (a0 : Act) (M : List Nat) (listed : Array Bool) (a : Act) (w : World) (pre post : List Nat) (recs : List (Nat × Bool)) (e : Env) (H : List O) (I : Imm) (ρ : List Pl) : Prop where
  hL : L = pre ++ post
  hr : recs.map (·.1) = pre.reverse
  C : adgo X ops.toList (clos ops.toList []) K post recs e H
  sz : listed.size = ops.size
  unl : ∀ i ∈ post, listed.getD i false = false
  lst : ∀ i ∈ pre, ∀ o, ops[i]? = some o → loud o = true → listed.getD i false = true
  cl : ∀ (i : Nat) (o : Oper), ops[i]? = some o → listed.getD i false = true → ∀ k ∈ edgesOf o, listed.getD k false = true
  pf : ∀ i ran, (i, ran) ∈ recs → listed.getD i false = false → PF X ops.toList e H i ran
  st : St I ρ H w
  er : ∀ t, t ∉ M → (∀ i ∈ pre, listed.getD i false = false → ∀ o, ops[i]? = some o → o.dst ≠ some t) → VRel I ρ (Env.get e t) (a.tmps.getD t undef)
  as : a.tmps.size = X.n
  df : a.defers = a0.defers
  step : Step X.k I0 ρ0 H0 w0 I ρ H w

/-- What is asked of the row of numbers. -/
structure DOk (ops : Array Oper) (L : List Nat) : Prop where
  all : ∀ i, i < ops.size → i ∈ L
  topo : ∀ p i q, L = p ++ i :: q → i ∉ p ∧ ∃ o, ops[i]? = some o ∧ ∀ k ∈ edgesOf o, k ∈ p
  loud : ∀ p i q, L = p ++ i :: q → ∀ o, ops[i]? = some o → loud o = true → ∀ j ∈ q, Nat.testBit ((clos ops.toList []).getD j 0) i = true ∨ bankAt ops.toList j = true
  apart : ∀ (i j : Nat) (oi oj : Oper), ops[i]? = some oi → ops[j]? = some oj → i ≠ j → ∀ d, oj.dst = some d → touches ops.toList oi d → Nat.testBit ((clos ops.toList []).getD i 0) j = true ∨ (Go.Proofs.YtcgpgpbnpjbhhaaPg.loud oj = true ∧ Nat.testBit ((clos ops.toList []).getD j 0) i = true)
  self : ∀ (i : Nat) (o : Oper), ops[i]? = some o → Go.Proofs.YtcgpgpbnpjbhhaaPg.loud o = false → ∀ d, o.dst = some d → d ∉ looksOf ops.toList o
  reads : ∀ (i : Nat) (o : Oper), ops[i]? = some o → Go.Proofs.YtcgpgpbnpjbhhaaPg.loud o = false → o.dst = none → readsH o.op = false
  len : L.length ≤ ops.size
  bdist : ∀ (i j : Nat) (oi oj : Oper), ops[i]? = some oi → ops[j]? = some oj → i ≠ j → bankable oi = true → bankable oj = true → ∀ d, oi.dst = some d → oj.dst ≠ some d

theorem topo_split : ∀ (ops : List Oper) (L : List Nat) (done : Nat) (S : List Nat), (∀ j, Nat.testBit done j = true ↔ j ∈ S) → topoOk ops done L = true → ∀ p i q, L = p ++ i :: q → i ∉ S ∧ i ∉ p ∧ ∃ o, ops[i]? = some o ∧ ∀ k ∈ edgesOf o, k ∈ S ∨ k ∈ p
  | ops, [], done, S, hS, h, p, i, q, hL => by simp at hL
  | ops, x :: L, done, S, hS, h, p, i, q, hL => by
    simp only [topoOk, Bool.and_eq_true] at h
    obtain ⟨h1, h2, h3⟩ := h
    cases ho : ops[x]? with
    | none => simp [ho] at h1
    | some o =>
      simp only [ho, readyIn, List.all_eq_true] at h1
      have hx : x ∉ S := fun hx => by
        have := (hS x).2 hx
        rw [this] at h2; simp at h2
      cases p with
      | nil =>
        simp at hL
        obtain ⟨rfl, rfl⟩ := hL
        exact ⟨hx, by simp, o, ho, fun k hk => .inl ((hS k).1 (h1 k hk))⟩
      | cons y p =>
        simp at hL
        obtain ⟨rfl, rfl⟩ := hL
        have hS' : ∀ j, Nat.testBit (done ||| 2 ^ x) j = true ↔ j ∈ x :: S := fun j => by
          rw [Nat.testBit_or, Bool.or_eq_true, hS j, Nat.testBit_two_pow, decide_eq_true_eq, List.mem_cons]
          constructor
          · rintro (h | h)
            · exact .inr h
            · exact .inl h.symm
          · rintro (h | h)
            · exact .inr h.symm
            · exact .inl h
        obtain ⟨g1, g2, o', g3, g4⟩ := topo_split ops (p ++ i :: q) _ (x :: S) hS' h3 p i q rfl
        simp at g1
        refine ⟨g1.2, by simp [g1.1, g2], o', g3, fun k hk => ?_⟩
        rcases g4 k hk with h | h
        · rcases List.mem_cons.1 h with h | h
          · exact .inr (by simp [h])
          · exact .inl h
        · exact .inr (by simp [h])

theorem loud_split : ∀ (ops : List Oper) (D L : List Nat), loudOk ops D L = true → ∀ p i q, L = p ++ i :: q → ∀ o, ops[i]? = some o → loud o = true → ∀ j ∈ q, Nat.testBit (D.getD j 0) i = true ∨ bankAt ops j = true
  | ops, D, [], h, p, i, q, hL => by simp at hL
  | ops, D, x :: L, h, p, i, q, hL => by
    simp only [loudOk, Bool.and_eq_true] at h
    intro o ho hl j hj
    cases p with
    | nil =>
      simp at hL
      obtain ⟨rfl, rfl⟩ := hL
      have := h.1
      simp only [ho, hl, Bool.not_true, Bool.false_or, List.all_eq_true, Bool.or_eq_true] at this
      exact this j hj
    | cons y p =>
      simp at hL
      obtain ⟨rfl, rfl⟩ := hL
      exact loud_split ops D _ h.2 p i q rfl o ho hl j hj

theorem drawOk_all {ops : Array Oper} {L : List Nat} (h : drawOk ops.toList L = true) : DOk ops L := by
  unfold drawOk at h
  simp only [Bool.and_eq_true, List.all_eq_true] at h
  obtain ⟨h1, h2, h3, h4, h5, h6, h7⟩ := h
  refine ⟨fun i hi => ?_, fun p i q hL => ?_, fun p i q hL o ho hl j hj => ?_, fun i j oi oj hi hj hij d hd ht => ?_, fun i o ho hl d hd => ?_, fun i o ho hl hd => ?_, by simpa using Nat.le_of_ble_eq_true h6, fun i j oi oj hi hj hij hbi hbj d hdi hdj => ?_⟩
  · have := h1 i (by simpa using hi)
    simpa using this
  · obtain ⟨_, g2, o, g3, g4⟩ := topo_split ops.toList L 0 [] (fun j => by simp) h2 p i q hL
    exact ⟨g2, o, by simpa using g3, fun k hk => by simpa using g4 k hk⟩
  · exact loud_split _ _ _ h3 p i q hL o (by simpa using ho) hl j hj
  · unfold allApart at h4
    simp only [List.all_eq_true] at h4
    have mem : ∀ (k : Nat) (o : Oper), ops[k]? = some o → (k, o) ∈ (List.range ops.toList.length).zip ops.toList := fun k o hk => by
      have hlt := (Array.getElem?_eq_some_iff.1 hk).1
      apply List.mem_of_getElem? (i := k)
      rw [List.getElem?_zip_eq_some]
      exact ⟨by simp [hlt], by simpa using hk⟩
    have := h4 _ (mem i oi hi) _ (mem j oj hj)
    rw [Bool.or_eq_true] at this
    rcases this with h | h
    · exact absurd (Nat.eq_of_beq_eq_true h) hij
    · unfold apart1 at h
      simp only [hd] at h
      split at h
      · rename_i hfalse
        exfalso
        rw [Bool.or_eq_false_iff] at hfalse
        rcases ht with ht | ht
        · have := hfalse.1; simp at this; exact this ht
        · have := hfalse.2
          rw [ht] at this
          simp only at this
          rw [show Nat.beq d d = true from Nat.beq_refl d] at this; cases this
      · rw [Bool.or_eq_true, Bool.and_eq_true] at h
        exact h
  · have := h5 o (by
      have hlt := (Array.getElem?_eq_some_iff.1 ho).1
      exact List.mem_of_getElem? (i := i) (by simpa using ho))
    rw [hl, Bool.false_or, hd] at this
    simpa using this
  · have := h5 o (by
      have hlt := (Array.getElem?_eq_some_iff.1 ho).1
      exact List.mem_of_getElem? (i := i) (by simpa using ho))
    rw [hl, Bool.false_or, hd] at this
    simpa using this
  · have mem : ∀ (k : Nat) (o : Oper), ops[k]? = some o → (k, o) ∈ (List.range ops.toList.length).zip ops.toList := fun k o hk => by
      have hlt := (Array.getElem?_eq_some_iff.1 hk).1
      apply List.mem_of_getElem? (i := k)
      rw [List.getElem?_zip_eq_some]
      exact ⟨by simp [hlt], by simpa using hk⟩
    unfold bankApart at h7
    simp only [List.all_eq_true] at h7
    have := h7 _ (mem i oi hi) _ (mem j oj hj)
    rw [Bool.or_eq_true] at this
    rcases this with h | h
    · exact hij (Nat.eq_of_beq_eq_true h)
    · simp only [hbi, hbj, sameDst, hdi, hdj] at h
      rw [show Nat.beq d d = true from Nat.beq_refl d] at h
      cases h

theorem DOk.D_pre {ops : Array Oper} {L : List Nat} (h : DOk ops L) {p q : List Nat} {i : Nat} (hL : L = p ++ i :: q) {j : Nat} (hj : Nat.testBit ((clos ops.toList []).getD i 0) j = true) : j ∈ p := by
  obtain ⟨_, o, ho, he⟩ := h.topo p i q hL
  refine clos_listed (ops := ops.toList) (S := fun k => k ∈ p) (fun k ok hk hkp m hm => ?_) i o (by simpa using ho) he j hj
  obtain ⟨p1, p2, rfl⟩ := List.append_of_mem hkp
  obtain ⟨_, o', ho', he'⟩ := h.topo p1 k (p2 ++ i :: q) (by rw [hL]; simp)
  have : ops[k]? = some ok := by simpa using hk
  rw [this] at ho'; cases ho'
  have := he' m hm
  simp [this]

/-- A quiet operation is taken into the row, its value known. -/
theorem DInv.push {X : Ctx} {ops : Array Oper} {K : Env → List O → Prop} {L : List Nat} {I0 : Imm} {ρ0 : List Pl} {H0 : List O} {w0 : World} {a0 : Act} {M : List Nat} {listed : Array Bool} {a : Act} {w : World} {pre post : List Nat} {recs : List (Nat × Bool)} {e : Env} {H : List O} {I : Imm} {ρ : List Pl}
    (hL : DOk ops L) {i : Nat} (h : DInv X ops K L I0 ρ0 H0 w0 a0 M listed a w pre (i :: post) recs e H I ρ) {o : Oper} (ho : ops[i]? = some o) (hl : loud o = false) {e' : Env} {ran : Bool}
    (hC : adgo X ops.toList (clos ops.toList []) K post ((i, ran) :: recs) e' H) (hsame : ∀ t, o.dst ≠ some t → Env.get e' t = Env.get e t)
    (hg : match o.guard with
      | none => ran = true
      | some (j, want) => ∃ d, (ops.toList[j]?).bind (·.dst) = some d ∧ ((∃ b, Env.get e d = .bool b ∧ ran = (b == want)) ∨ (Env.get e d = .tup [] ∧ ran = false)))
    (hv : match o.dst with
      | none => ran = true → ∃ v, aq X.T o.op e H (fun u => u = v)
      | some d => d < X.n ∧ (ran = true → aq X.T o.op e H (fun u => u = Env.get e' d)) ∧ (ran = false → Env.get e' d = .tup [])) :
    DInv X ops K L I0 ρ0 H0 w0 a0 M listed a w (pre ++ [i]) post ((i, ran) :: recs) e' H I ρ := by
  have hLs : L = pre ++ i :: post := h.hL
  have hown : ∀ t ∈ looksOf ops.toList o, Env.get e' t = Env.get e t := fun t ht => hsame t fun hd => hL.self i o ho hl t hd ht
  have hop := looks_aeval hown
  refine ⟨by rw [hLs]; simp, by simp [h.hr], hC, h.sz, fun j hj => h.unl j (by simp [hj]), fun j hj oj hoj hlj => ?_, h.cl, fun j rj hj hlj => ?_, h.st, fun t htM ht => ?_, h.as, h.df, h.step⟩
  · rcases List.mem_append.1 hj with hj | hj
    · exact h.lst j hj oj hoj hlj
    · simp at hj; subst hj
      rw [ho] at hoj; cases hoj
      rw [hl] at hlj; cases hlj
  · rcases List.mem_cons.1 hj with hj | hj
    · cases hj
      refine ⟨o, by simpa using ho, hl, ?_, ?_⟩
      · cases hgd : o.guard with
        | none => rw [hgd] at hg; exact hg
        | some jw =>
          obtain ⟨j, want⟩ := jw
          rw [hgd] at hg
          obtain ⟨d, hd, h5⟩ := hg
          refine ⟨d, hd, ?_⟩
          rw [hown d (looks_guard hgd hd)]
          exact h5
      · cases hd : o.dst with
        | none =>
          rw [hd] at hv
          intro hran
          obtain ⟨v, hv⟩ := hv hran
          exact ⟨v, by rw [← aq_congr hop]; exact hv⟩
        | some d =>
          rw [hd] at hv
          exact ⟨hv.1, fun hran => by rw [← aq_congr hop]; exact hv.2.1 hran, hv.2.2⟩
    · -- an earlier one: nothing that it touches is turned
      have hpf := h.pf j rj hj hlj
      have hjp : j ∈ pre := by
        have : j ∈ recs.map (·.1) := List.mem_map.2 ⟨_, hj, rfl⟩
        rw [h.hr] at this; simpa using this
      have hne : j ≠ i := fun hji => by
        obtain ⟨g1, _⟩ := hL.topo pre i post hLs
        exact g1 (hji ▸ hjp)
      have htouch : ∀ oj, ops.toList[j]? = some oj → ∀ t, touches ops.toList oj t → Env.get e' t = Env.get e t := by
        intro oj hoj t ht
        refine hsame t fun hd => ?_
        rcases hL.apart j i oj o (by simpa using hoj) ho hne t hd ht with hb | ⟨hb, _⟩
        · obtain ⟨p1, p2, hp⟩ := List.append_of_mem hjp
          have hi' := hL.D_pre (p := p1) (q := p2 ++ i :: post) (i := j) (by rw [hLs, hp]; simp) hb
          obtain ⟨g1, _⟩ := hL.topo pre i post hLs
          exact g1 (by rw [hp]; simp [hi'])
        · rw [hl] at hb; cases hb
      refine hpf.env htouch (fun oj d hoj hd hran hre => ?_) (fun _ _ _ _ _ => rfl)
      obtain ⟨oj', q1, q2, q3, q4⟩ := hpf
      rw [hoj] at q1; cases q1
      rw [hd] at q4
      rw [← aq_congr (looks_aeval fun t ht => htouch oj hoj t (.inl ht)), htouch oj hoj d (.inr hd)]
      exact q4.2.1 hran
  · have hd : o.dst ≠ some t := ht i (by simp) (h.unl i (by simp)) o ho
    rw [hsame t hd]
    exact h.er t htM fun j hj hlj oj hoj => ht j (by simp [hj]) hlj oj hoj

theorem get_put {d : Nat} {v : V} {e : Env} : Env.get ((d, v) :: e) d = v := by
  simp only [Env.get]
  rw [show Nat.beq d d = true from Nat.beq_refl d]
theorem get_put_ne {d t : Nat} (h : d ≠ t) {v : V} {e : Env} : Env.get ((d, v) :: e) t = Env.get e t := by
  simp only [Env.get]
  cases hb : Nat.beq d t with
  | true => exact absurd (Nat.eq_of_beq_eq_true hb) h
  | false => rfl
theorem get_same {d : Nat} {v : V} {e : Env} (h : Env.get e d = v) (t : Nat) : Env.get ((d, v) :: e) t = Env.get e t := by
  by_cases hd : d = t
  · subst hd; rw [get_put, h]
  · exact get_put_ne hd

/-- What 'advance' comes to. -/
def Adv (X : Ctx) (ops : Array Oper) (K : Env → List O → Prop) (L : List Nat) (I0 : Imm) (ρ0 : List Pl) (H0 : List O) (w0 : World) (a0 : Act) (M : List Nat) (listed : Array Bool) (a : Act) (w : World) (pre post : List Nat) (H : List O) (I : Imm) (ρ : List Pl) : Prop :=
  ∃ pre' post' recs' e' q, DInv X ops K L I0 ρ0 H0 w0 a0 M listed a w pre' post' recs' e' H I ρ ∧ (post' = [] ∨ ∃ i r o, post' = i :: r ∧ ops[i]? = some o ∧ loud o = true) ∧
    post = q ++ post' ∧ pre' = pre ++ q ∧ ∀ i ∈ q, ∃ o, ops[i]? = some o ∧ loud o = false

theorem Adv.cons {X : Ctx} {ops : Array Oper} {K : Env → List O → Prop} {L : List Nat} {I0 : Imm} {ρ0 : List Pl} {H0 : List O} {w0 : World} {a0 : Act} {M : List Nat} {listed : Array Bool} {a : Act} {w : World} {pre post : List Nat} {H : List O} {I : Imm} {ρ : List Pl} {i : Nat} {o : Oper}
    (ho : ops[i]? = some o) (hl : loud o = false) (h : Adv X ops K L I0 ρ0 H0 w0 a0 M listed a w (pre ++ [i]) post H I ρ) : Adv X ops K L I0 ρ0 H0 w0 a0 M listed a w pre (i :: post) H I ρ := by
  obtain ⟨pre', post', recs', e', q, h1, h2, h3, h4, h5⟩ := h
  refine ⟨pre', post', recs', e', i :: q, h1, h2, by rw [h3]; rfl, by rw [h4]; simp, fun k hk => ?_⟩
  rcases List.mem_cons.1 hk with rfl | hk
  · exact ⟨o, ho, hl⟩
  · exact h5 k hk

/-- All quiet ones that stand next are taken in. -/
theorem DInv.advance {X : Ctx} {ops : Array Oper} {K : Env → List O → Prop} {L : List Nat} {I0 : Imm} {ρ0 : List Pl} {H0 : List O} {w0 : World} {a0 : Act} {M : List Nat} {listed : Array Bool} {a : Act} {w : World} {H : List O} {I : Imm} {ρ : List Pl} (hL : DOk ops L) :
    ∀ (post pre : List Nat) (recs : List (Nat × Bool)) (e : Env), DInv X ops K L I0 ρ0 H0 w0 a0 M listed a w pre post recs e H I ρ →
    Adv X ops K L I0 ρ0 H0 w0 a0 M listed a w pre post H I ρ := by
  intro post
  induction post with
  | nil => intro pre recs e h; exact ⟨pre, [], recs, e, [], h, .inl rfl, by simp, by simp, by simp⟩
  | cons i post ih =>
    intro pre recs e h
    have hC := h.C
    unfold adgo at hC
    cases ho' : ops.toList[i]? with
    | none => simp only [ho'] at hC
    | some o =>
      simp only [ho'] at hC
      have ho : ops[i]? = some o := by simpa using ho'
      cases hl : loud o with
      | true => exact ⟨pre, i :: post, recs, e, [], h, .inr ⟨i, post, o, rfl, ho, hl⟩, by simp, by simp, by simp⟩
      | false =>
        -- it runs
        have runs : ∀ e2 : Env, (∀ t, Env.get e2 t = Env.get e t) → (match o.guard with
            | none => True
            | some (j, want) => ∃ d, (ops.toList[j]?).bind (·.dst) = some d ∧ Env.get e d = .bool want) →
            dop X ops.toList (clos ops.toList []) i o recs e2 H (adgo X ops.toList (clos ops.toList []) K post ((i, true) :: recs)) →
            Adv X ops K L I0 ρ0 H0 w0 a0 M listed a w pre (i :: post) H I ρ := by
          intro e2 h2 hg hd
          unfold dop at hd
          simp only [hl] at hd
          obtain ⟨v, hp, haq⟩ := aq_det o.op e2 H _ hd
          have haq' : aq X.T o.op e H (fun u => u = v) := by
            rw [aq_congr (e' := e2) (fun x _ => by cases x <;> simp [aeval, h2])]; exact haq
          have hg' : match o.guard with
              | none => true = true
              | some (j, want) => ∃ d, (ops.toList[j]?).bind (·.dst) = some d ∧ ((∃ b, Env.get e d = .bool b ∧ true = (b == want)) ∨ (Env.get e d = .tup [] ∧ true = false)) := by
            cases hgd : o.guard with
            | none => rfl
            | some jw =>
              obtain ⟨j, want⟩ := jw
              rw [hgd] at hg
              obtain ⟨d, h3, h4⟩ := hg
              exact ⟨d, h3, .inl ⟨want, h4, by simp⟩⟩
          unfold putE at hp
          cases hdst : o.dst with
          | none =>
            simp only [hdst] at hp
            exact Adv.cons ho hl (ih _ _ _ (h.push hL ho hl (ran := true) hp (fun t _ => h2 t) hg' (by rw [hdst]; exact fun _ => ⟨v, haq'⟩)))
          | some d =>
            simp only [hdst] at hp
            cases hb : Nat.blt d X.n with
            | false => simp only [hb] at hp
            | true =>
              simp only [hb] at hp
              exact Adv.cons ho hl (ih _ _ _ (h.push hL ho hl (ran := true) hp (fun t ht => by rw [get_put_ne (fun h => ht (by rw [hdst, h])), h2]) hg' (by
                rw [hdst]
                exact ⟨Nat.le_of_ble_eq_true hb, fun _ => by rw [get_put]; exact haq', by simp⟩)))
        -- it is passed by
        have skips : ∀ e2 : Env, (∀ t, Env.get e2 t = Env.get e t) → (∃ j want d, o.guard = some (j, want) ∧ (ops.toList[j]?).bind (·.dst) = some d ∧ (Env.get e d = .bool (!want) ∨ Env.get e d = .tup [])) →
            (putE X.n o.dst (.tup []) e2 fun e' => adgo X ops.toList (clos ops.toList []) K post ((i, false) :: recs) e' H) →
            Adv X ops K L I0 ρ0 H0 w0 a0 M listed a w pre (i :: post) H I ρ := by
          rintro e2 h2 ⟨j, want, d, hgd, h3, h4⟩ hp
          have hg' : match o.guard with
              | none => false = true
              | some (j, want) => ∃ d, (ops.toList[j]?).bind (·.dst) = some d ∧ ((∃ b, Env.get e d = .bool b ∧ false = (b == want)) ∨ (Env.get e d = .tup [] ∧ false = false)) := by
            rw [hgd]
            refine ⟨d, h3, ?_⟩
            rcases h4 with h4 | h4
            · exact .inl ⟨!want, h4, by cases want <;> rfl⟩
            · exact .inr ⟨h4, rfl⟩
          unfold putE at hp
          cases hdst : o.dst with
          | none =>
            simp only [hdst] at hp
            exact Adv.cons ho hl (ih _ _ _ (h.push hL ho hl (ran := false) hp (fun t _ => h2 t) hg' (by rw [hdst]; simp)))
          | some d' =>
            simp only [hdst] at hp
            cases hb : Nat.blt d' X.n with
            | false => simp only [hb] at hp
            | true =>
              simp only [hb] at hp
              exact Adv.cons ho hl (ih _ _ _ (h.push hL ho hl (ran := false) hp (fun t ht => by rw [get_put_ne (fun h => ht (by rw [hdst, h])), h2]) hg' (by
                rw [hdst]
                exact ⟨Nat.le_of_ble_eq_true hb, by simp, fun _ => get_put⟩)))
        cases hgd : o.guard with
        | none =>
          simp only [hgd] at hC
          exact runs e (fun _ => rfl) (by rw [hgd]; trivial) hC
        | some jw =>
          obtain ⟨j, want⟩ := jw
          simp only [hgd] at hC
          cases hd : (ops.toList[j]?).bind (·.dst) with
          | none => simp only [hd] at hC
          | some d =>
            simp only [hd] at hC
            split at hC
            · rename_i b hb
              cases b with
              | true =>
                simp only [branch] at hC
                cases want with
                | true => exact runs _ (get_same hb) (by rw [hgd]; exact ⟨d, hd, hb⟩) hC
                | false => exact skips _ (get_same hb) ⟨j, false, d, hgd, hd, .inl hb⟩ hC
              | false =>
                simp only [branch] at hC
                cases want with
                | false => exact runs _ (get_same hb) (by rw [hgd]; exact ⟨d, hd, hb⟩) hC
                | true => exact skips _ (get_same hb) ⟨j, true, d, hgd, hd, .inl hb⟩ hC
            · rename_i hb
              exact skips e (fun _ => rfl) ⟨j, want, d, hgd, hd, .inr hb⟩ hC
            · exact hC.elim

/-- the slots whose operations are still to come -/
def pends (ops : Array Oper) (listed : Array Bool) (pre : List Nat) : List Nat := (pre.filter fun i => !listed.getD i false).filterMap fun i => (ops[i]?).bind (·.dst)

theorem mem_pends {ops : Array Oper} {listed : Array Bool} {pre : List Nat} {t : Nat} : t ∈ pends ops listed pre ↔ ∃ i ∈ pre, listed.getD i false = false ∧ ∃ o, ops[i]? = some o ∧ o.dst = some t := by
  unfold pends
  simp only [List.mem_filterMap, List.mem_filter, Bool.not_eq_true', Option.bind_eq_some_iff]
  constructor
  · rintro ⟨i, ⟨h1, h2⟩, o, h3, h4⟩; exact ⟨i, h1, h2, o, h3, h4⟩
  · rintro ⟨i, h1, h2, o, h3, h4⟩; exact ⟨i, ⟨h1, h2⟩, o, h3, h4⟩

/-- all but those slots -/
def maskE (ps : List Nat) (e : Env) : Env := ps.map (fun t => (t, V.any)) ++ e

theorem maskE_get (ps : List Nat) (e : Env) (t : Nat) : (t ∈ ps → Env.get (maskE ps e) t = .any) ∧ (t ∉ ps → Env.get (maskE ps e) t = Env.get e t) := by
  induction ps with
  | nil => exact ⟨fun h => by simp at h, fun _ => rfl⟩
  | cons x ps ih =>
    by_cases hx : x = t
    · subst hx
      exact ⟨fun _ => by show Env.get ((x, V.any) :: maskE ps e) x = _; exact get_put, fun h => absurd (by simp) h⟩
    · have e1 : Env.get (maskE (x :: ps) e) t = Env.get (maskE ps e) t := by
        show Env.get ((x, V.any) :: maskE ps e) t = _
        exact get_put_ne hx
      rw [e1]
      refine ⟨fun h => ih.1 ?_, fun h => ih.2 (fun h' => h (by simp [h']))⟩
      rcases List.mem_cons.1 h with h | h
      · exact absurd h.symm hx
      · exact h

theorem DInv.mask {X : Ctx} {ops : Array Oper} {K : Env → List O → Prop} {L : List Nat} {I0 : Imm} {ρ0 : List Pl} {H0 : List O} {w0 : World} {a0 : Act} {M : List Nat} {listed : Array Bool} {a : Act} {w : World} {pre post : List Nat} {recs : List (Nat × Bool)} {e : Env} {H : List O} {I : Imm} {ρ : List Pl}
    (h : DInv X ops K L I0 ρ0 H0 w0 a0 M listed a w pre post recs e H I ρ) : ERel I ρ (maskE (M ++ pends ops listed pre) e) a.tmps := fun t => by
  by_cases ht : t ∈ M ++ pends ops listed pre
  · rw [(maskE_get _ _ _).1 ht]; exact .any _ _
  · rw [(maskE_get _ _ _).2 ht]
    exact h.er t (fun hm => ht (by simp [hm])) fun i hi hl o ho hd => ht (List.mem_append.2 (.inr (mem_pends.2 ⟨i, hi, hl, o, ho, hd⟩)))

/-- A slot that an operation looks at, all that it needs being there, is no slot to come. -/
theorem DInv.looks {X : Ctx} {ops : Array Oper} {K : Env → List O → Prop} {L : List Nat} {I0 : Imm} {ρ0 : List Pl} {H0 : List O} {w0 : World} {a0 : Act} {M : List Nat} {listed : Array Bool} {a : Act} {w : World} {pre post : List Nat} {recs : List (Nat × Bool)} {e : Env} {H : List O} {I : Imm} {ρ : List Pl}
    (hL : DOk ops L) (h : DInv X ops K L I0 ρ0 H0 w0 a0 M listed a w pre post recs e H I ρ) {i : Nat} {o : Oper} (ho : ops[i]? = some o) (he : ∀ k ∈ edgesOf o, listed.getD k false = true) (hself : loud o = true → i ∉ pre) {t : Nat} (ht : t ∈ looksOf ops.toList o) (htM : t ∉ M) :
    Env.get (maskE (M ++ pends ops listed pre) e) t = Env.get e t := by
  refine (maskE_get _ _ _).2 fun hp => ?_
  rcases List.mem_append.1 hp with hp | hp
  · exact htM hp
  obtain ⟨j, hj, hlj, oj, hoj, hd⟩ := mem_pends.1 hp
  have hcl := clos_listed (ops := ops.toList) (S := fun k => listed.getD k false = true) (fun k ok hk hs m hm => h.cl k ok (by simpa using hk) hs m hm) i o (by simpa using ho) he
  by_cases hij : i = j
  · subst hij
    rw [ho] at hoj; cases hoj
    cases hl : loud o with
    | false => exact hL.self i o ho hl t hd ht
    | true => exact hself hl hj
  · rcases hL.apart i j o oj ho hoj hij t hd (.inl ht) with hb | ⟨hb, _⟩
    · have := hcl j hb
      rw [hlj] at this; cases this
    · have := h.lst j hj oj hoj hb
      rw [hlj] at this; cases this

theorem getD_set {listed : Array Bool} {i : Nat} (hi : i < listed.size) (j : Nat) : (listed.setIfInBounds i true).getD j false = if j = i then true else listed.getD j false := by
  by_cases h : j = i
  · subst h; simp [hi]
  · rw [if_neg h]
    simp [Array.getElem?_setIfInBounds_ne (show i ≠ j from fun e => h e.symm)]

/-- A quiet operation that was still to come has been carried out. -/
theorem DInv.done {X : Ctx} {ops : Array Oper} {K : Env → List O → Prop} {L : List Nat} {I0 : Imm} {ρ0 : List Pl} {H0 : List O} {w0 : World} {a0 : Act} {M : List Nat} {listed : Array Bool} {a : Act} {w : World} {pre post : List Nat} {recs : List (Nat × Bool)} {e : Env} {H : List O} {I : Imm} {ρ : List Pl}
    (hL : DOk ops L) (h : DInv X ops K L I0 ρ0 H0 w0 a0 M listed a w pre post recs e H I ρ) {i : Nat} {o : Oper} (ho : ops[i]? = some o) (hi : i ∈ pre) (he : ∀ k ∈ edgesOf o, listed.getD k false = true) {u : Value}
    (hu : ∀ d, o.dst = some d → d < X.n ∧ VRel I ρ (Env.get e d) u) : DInv X ops K L I0 ρ0 H0 w0 a0 M (listed.setIfInBounds i true) (a.put o.dst u) w pre post recs e H I ρ := by
  have hlt : i < listed.size := by rw [h.sz]; exact (Array.getElem?_eq_some_iff.1 ho).1
  have hnp : ∀ j ∈ post, j ≠ i := fun j hj hji => by
    subst hji
    obtain ⟨q1, q2, rfl⟩ := List.append_of_mem hj
    obtain ⟨g1, _⟩ := hL.topo (pre ++ q1) j q2 (by rw [h.hL]; simp)
    exact g1 (by simp [hi])
  refine ⟨h.hL, h.hr, h.C, by simp [h.sz], fun j hj => ?_, fun j hj oj hoj hlj => ?_, fun j oj hoj hlj k hk => ?_, fun j rj hj hlj => ?_, h.st, fun t htM ht => ?_, ?_, ?_, h.step⟩
  · rw [getD_set hlt, if_neg (hnp j hj)]; exact h.unl j hj
  · rw [getD_set hlt]
    by_cases hji : j = i
    · rw [if_pos hji]
    · rw [if_neg hji]; exact h.lst j hj oj hoj hlj
  · rw [getD_set hlt] at hlj ⊢
    by_cases hki : k = i
    · rw [if_pos hki]
    · rw [if_neg hki]
      by_cases hji : j = i
      · subst hji
        rw [ho] at hoj; cases hoj
        exact he k hk
      · rw [if_neg hji] at hlj
        exact h.cl j oj hoj hlj k hk
  · rw [getD_set hlt] at hlj
    by_cases hji : j = i
    · rw [if_pos hji] at hlj; cases hlj
    · rw [if_neg hji] at hlj; exact h.pf j rj hj hlj
  · cases hd : o.dst with
    | none =>
      refine h.er t htM fun j hj hlj oj hoj => ?_
      by_cases hji : j = i
      · subst hji; rw [ho] at hoj; cases hoj; rw [hd]; simp
      · exact ht j hj (by rw [getD_set hlt, if_neg hji]; exact hlj) oj hoj
    | some d =>
      obtain ⟨hdn, hrel⟩ := hu d hd
      simp only [Act.put]
      by_cases hdt : d = t
      · subst hdt
        rw [show (a.tmps.setIfInBounds d u).getD d undef = u by simp [h.as, hdn]]
        exact hrel
      · rw [show (a.tmps.setIfInBounds d u).getD t undef = a.tmps.getD t undef by simp [Array.getElem?_setIfInBounds_ne hdt]]
        refine h.er t htM fun j hj hlj oj hoj => ?_
        by_cases hji : j = i
        · subst hji; rw [ho] at hoj; cases hoj; rw [hd]; simpa using hdt
        · exact ht j hj (by rw [getD_set hlt, if_neg hji]; exact hlj) oj hoj
  · cases o.dst <;> simp [Act.put, h.as]
  · cases o.dst <;> exact h.df

/-- A loud operation, next in the row, has been carried out. -/
theorem DInv.next {X : Ctx} {ops : Array Oper} {K : Env → List O → Prop} {L : List Nat} {I0 : Imm} {ρ0 : List Pl} {H0 : List O} {w0 : World} {a0 : Act} {M : List Nat} {listed : Array Bool} {a : Act} {w : World} {pre post : List Nat} {recs : List (Nat × Bool)} {e : Env} {H : List O} {I : Imm} {ρ : List Pl} {i : Nat}
    (hL : DOk ops L) (h : DInv X ops K L I0 ρ0 H0 w0 a0 M listed a w pre (i :: post) recs e H I ρ) {o : Oper} (ho : ops[i]? = some o) (he : ∀ k ∈ edgesOf o, listed.getD k false = true) {u : Value} {v : V} {e' : Env} {H' : List O} {I' : Imm} {ρ' : List Pl} {w' : World} {ran : Bool}
    (hC : adgo X ops.toList (clos ops.toList []) K post ((i, ran) :: recs) e' H')
    (hre : ∀ j rj, (j, rj) ∈ recs → rj = true → listed.getD j false = false → ∀ oj, ops.toList[j]? = some oj → readsH oj.op = true → ∃ d, oj.dst = some d ∧ aq X.T oj.op e' H' (fun u => u = Env.get e' d))
    (hget : ∀ t, o.dst ≠ some t → Env.get e' t = Env.get e t) (hv : ∀ d, o.dst = some d → d < X.n ∧ Env.get e' d = v) (hu : VRel I' ρ' v u) (hst : St I' ρ' H' w') (her : ERel I' ρ' (maskE (M ++ pends ops listed pre) e) a.tmps) (hstep : Step X.k I0 ρ0 H0 w0 I' ρ' H' w') {M' : List Nat} (hM : ∀ t ∈ M, t ∈ M' ∨ o.dst = some t) :
    DInv X ops K L I0 ρ0 H0 w0 a0 M' (listed.setIfInBounds i true) (a.put o.dst u) w' (pre ++ [i]) post ((i, ran) :: recs) e' H' I' ρ' := by
  have hLs : L = pre ++ i :: post := h.hL
  have hlt : i < listed.size := by rw [h.sz]; exact (Array.getElem?_eq_some_iff.1 ho).1
  have hnpre : i ∉ pre := (hL.topo pre i post hLs).1
  have hcl := clos_listed (ops := ops.toList) (S := fun k => listed.getD k false = true) (fun k ok hk hs m hm => h.cl k ok (by simpa using hk) hs m hm) i o (by simpa using ho) he
  have hnp : ∀ j ∈ post, j ≠ i := fun j hj hji => by
    subst hji
    obtain ⟨q1, q2, rfl⟩ := List.append_of_mem hj
    obtain ⟨g1, _⟩ := hL.topo (pre ++ j :: q1) j q2 (by rw [hLs]; simp)
    exact g1 (by simp)
  refine ⟨by rw [hLs]; simp, by simp [h.hr], hC, by simp [h.sz], fun j hj => ?_, fun j hj oj hoj hlj => ?_, fun j oj hoj hlj k hk => ?_, fun j rj hj hlj => ?_, hst, fun t htM ht => ?_, ?_, ?_, hstep⟩
  · rw [getD_set hlt, if_neg (hnp j hj)]; exact h.unl j (by simp [hj])
  · rw [getD_set hlt]
    by_cases hji : j = i
    · rw [if_pos hji]
    · rw [if_neg hji]
      rcases List.mem_append.1 hj with hj | hj
      · exact h.lst j hj oj hoj hlj
      · simp at hj; exact absurd hj hji
  · rw [getD_set hlt] at hlj ⊢
    by_cases hki : k = i
    · rw [if_pos hki]
    · rw [if_neg hki]
      by_cases hji : j = i
      · subst hji
        rw [ho] at hoj; cases hoj
        exact he k hk
      · rw [if_neg hji] at hlj
        exact h.cl j oj hoj hlj k hk
  · rw [getD_set hlt] at hlj
    by_cases hji : j = i
    · rw [if_pos hji] at hlj; cases hlj
    · rw [if_neg hji] at hlj
      rcases List.mem_cons.1 hj with hj | hj
      · cases hj; exact absurd rfl hji
      · have hpf := h.pf j rj hj hlj
        have hjp : j ∈ pre := by
          have : j ∈ recs.map (·.1) := List.mem_map.2 ⟨_, hj, rfl⟩
          rw [h.hr] at this; simpa using this
        have htouch : ∀ oj, ops.toList[j]? = some oj → ∀ t, touches ops.toList oj t → Env.get e' t = Env.get e t := by
          intro oj hoj t ht
          refine hget t fun hd => ?_
          rcases hL.apart j i oj o (by simpa using hoj) ho hji t hd ht with hb | ⟨_, hb⟩
          · obtain ⟨p1, p2, hp⟩ := List.append_of_mem hjp
            have hi' := hL.D_pre (p := p1) (q := p2 ++ i :: post) (i := j) (by rw [hLs, hp]; simp) hb
            exact hnpre (by rw [hp]; simp [hi'])
          · have := hcl j hb
            rw [hlj] at this; cases this
        refine hpf.env htouch (fun oj d hoj hd hran hrd => ?_) (fun oj hoj hd hrd hran => ?_)
        · obtain ⟨d', hd', hq⟩ := hre j rj hj hran hlj oj hoj hrd
          rw [hd] at hd'; cases hd'; exact hq
        · obtain ⟨d', hd', hq⟩ := hre j rj hj hran hlj oj hoj hrd
          rw [hd] at hd'; cases hd'
  · have old : ∀ t, t ∉ M → (∀ j ∈ pre ++ [i], (listed.setIfInBounds i true).getD j false = false → ∀ oj, ops[j]? = some oj → oj.dst ≠ some t) → VRel I' ρ' (Env.get e t) (a.tmps.getD t undef) := by
      intro t htM ht
      have := her t
      rw [(maskE_get _ _ _).2 (fun hp => by
        rcases List.mem_append.1 hp with hp | hp
        · exact htM hp
        obtain ⟨j, hj, hlj, oj, hoj, hd⟩ := mem_pends.1 hp
        have hji : j ≠ i := fun hji => hnpre (hji ▸ hj)
        exact ht j (by simp [hj]) (by rw [getD_set hlt, if_neg hji]; exact hlj) oj hoj hd)] at this
      exact this
    cases hd : o.dst with
    | none =>
      simp only [Act.put]
      rw [hget t (by rw [hd]; simp)]
      exact old t (fun hm => by rcases hM t hm with h1 | h1; exact htM h1; rw [hd] at h1; cases h1) ht
    | some d =>
      obtain ⟨hdn, hrel⟩ := hv d hd
      simp only [Act.put]
      by_cases hdt : d = t
      · subst hdt
        rw [show (a.tmps.setIfInBounds d u).getD d undef = u by simp [h.as, hdn], hrel]
        exact hu
      · rw [show (a.tmps.setIfInBounds d u).getD t undef = a.tmps.getD t undef by simp [Array.getElem?_setIfInBounds_ne hdt]]
        rw [hget t (by rw [hd]; simpa using hdt)]
        exact old t (fun hm => by
          rcases hM t hm with h1 | h1
          · exact htM h1
          · rw [hd] at h1; cases h1; exact hdt rfl) ht
  · cases o.dst <;> simp [Act.put, h.as]
  · cases o.dst <;> exact h.df

theorem first_un : ∀ (L : List Nat) (f : Nat → Bool), (∃ i ∈ L, f i = false) → ∃ p i q, L = p ++ i :: q ∧ f i = false ∧ ∀ j ∈ p, f j = true
  | [], f, h => by simp at h
  | x :: L, f, h => by
    cases hx : f x with
    | false => exact ⟨[], x, L, rfl, hx, by simp⟩
    | true =>
      obtain ⟨i, hi, hf⟩ := h
      have : i ∈ L := by
        rcases List.mem_cons.1 hi with rfl | hi
        · rw [hx] at hf; cases hf
        · exact hi
      obtain ⟨p, j, q, h1, h2, h3⟩ := first_un L f ⟨i, this, hf⟩
      exact ⟨x :: p, j, q, by rw [h1]; rfl, h2, fun k hk => by
        rcases List.mem_cons.1 hk with rfl | hk
        · exact hx
        · exact h3 k hk⟩

theorem allListed {ops : Array Oper} {L : List Nat} {listed : Array Bool}
    (hL : DOk ops L) (hs : listed.size = ops.size) (hr : Region.ready .any ops listed = []) : ∀ i ∈ L, listed.getD i false = true := by
  intro i hi
  cases hx : listed.getD i false with
  | true => rfl
  | false =>
    obtain ⟨p, j, q, h1, h2, h3⟩ := first_un L (fun i => listed.getD i false) ⟨i, hi, hx⟩
    obtain ⟨_, o, ho, he⟩ := hL.topo p j q h1
    have : j ∈ Region.ready .any ops listed := (ready_iff hs).2 ⟨o, ho, h2, fun k hk => h3 k (he k hk)⟩
    rw [hr] at this; simp at this

theorem DInv.finish {X : Ctx} {ops : Array Oper} {K : Env → List O → Prop} {L : List Nat} {I0 : Imm} {ρ0 : List Pl} {H0 : List O} {w0 : World} {a0 : Act} {listed : Array Bool} {a : Act} {w : World} {pre : List Nat} {recs : List (Nat × Bool)} {e : Env} {H : List O} {I : Imm} {ρ : List Pl}
    (h : DInv X ops K L I0 ρ0 H0 w0 a0 [] listed a w pre [] recs e H I ρ) (hall : ∀ i ∈ pre, listed.getD i false = true) : K e H ∧ St I ρ H w ∧ ERel I ρ e a.tmps := by
  have hC := h.C
  unfold adgo at hC
  exact ⟨hC, h.st, fun t => h.er t (by simp) fun i hi hl => by
    have h2 := hall i hi
    rw [hl] at h2; cases h2⟩

theorem recheck_all {X : Ctx} {ops : List Oper} {D : Nat} {e : Env} {H : List O} {K : Prop} : ∀ (recs : List (Nat × Bool)), recheck X ops D e H K recs → K ∧ ∀ j rj, (j, rj) ∈ recs → rj = true → Nat.testBit D j = false → ∀ oj, ops[j]? = some oj → readsH oj.op = true → ∃ d, oj.dst = some d ∧ aq X.T oj.op e H (fun u => u = Env.get e d)
  | [], h => ⟨h, fun j rj hj => by simp at hj⟩
  | (i, ran) :: r, h => by
    unfold recheck at h
    cases hb : ran && !Nat.testBit D i with
    | false =>
      simp only [hb] at h
      obtain ⟨h1, h2⟩ := recheck_all r h
      refine ⟨h1, fun j rj hj hran hbit oj hoj hrd => ?_⟩
      rcases List.mem_cons.1 hj with hj | hj
      · cases hj; rw [hran, hbit] at hb; simp at hb
      · exact h2 j rj hj hran hbit oj hoj hrd
    | true =>
      simp only [hb] at h
      cases ho : ops[i]? with
      | none => simp only [ho] at h
      | some o =>
        simp only [ho] at h
        cases hrd : readsH o.op with
        | false =>
          simp only [hrd] at h
          obtain ⟨h1, h2⟩ := recheck_all r h
          refine ⟨h1, fun j rj hj hran hbit oj hoj hrd' => ?_⟩
          rcases List.mem_cons.1 hj with hj | hj
          · cases hj; rw [ho] at hoj; cases hoj; rw [hrd] at hrd'; cases hrd'
          · exact h2 j rj hj hran hbit oj hoj hrd'
        | true =>
          cases hd : o.dst with
          | none => simp only [hrd, hd] at h
          | some d =>
            simp only [hrd, hd] at h
            obtain ⟨h1, h2⟩ := recheck_all r h.2
            refine ⟨h1, fun j rj hj hran hbit oj hoj hrd' => ?_⟩
            rcases List.mem_cons.1 hj with hj | hj
            · cases hj; rw [ho] at hoj; cases hoj; exact ⟨d, hd, h.1⟩
            · exact h2 j rj hj hran hbit oj hoj hrd'

theorem filter_less {L : List Nat} {f g : Nat → Bool} (hfg : ∀ i, g i = true → f i = true) {i : Nat} (hi : i ∈ L) (h1 : f i = true) (h2 : g i = false) : (L.filter g).length < (L.filter f).length := by
  induction L with
  | nil => simp at hi
  | cons x L ih =>
    have hle : (L.filter g).length ≤ (L.filter f).length := by
      clear ih hi
      induction L with
      | nil => simp
      | cons y L ih =>
        simp only [List.filter_cons]
        cases hg : g y with
        | true => rw [hfg y hg]; simp; exact ih
        | false => cases f y <;> simp <;> omega
    simp only [List.filter_cons]
    rcases List.mem_cons.1 hi with rfl | hi
    · rw [h1, h2]; simp; omega
    · have := ih hi
      cases hg : g x with
      | true => rw [hfg x hg]; simp; exact this
      | false => cases f x <;> simp <;> omega

end Go.Proofs.YtcgpgpbnpjbhhaaPg
