/- Regions whose order is drawn: new variables may come at any time; the main proof. -/
import Derived.Test.YtcgpgpbnpjbhhaaPgC00
namespace Go.Proofs.YtcgpgpbnpjbhhaaPg
open Go Go.RowKit
variable [Globs]
set_option linter.unusedVariables false
set_option linter.unusedSimpArgs false

variable {P : Program} {T : Nat → TI}

/-- What a new variable is that has come ahead of its place. -/
def Early (X : Ctx) (ops : Array Oper) (a : Act) (w0 w : World) (I : Imm) (ρ : List Pl) (H : List O) (i : Nat) : Prop :=
  ∃ o t d b, ops[i]? = some o ∧ o.op = .alloc t ∧ o.dst = some d ∧ o.guard = none ∧ (X.T t).good = true ∧ d < X.n ∧ a.tmps.getD d undef = .pointer (some ⟨b, 0, none⟩) ∧ w0.heap.size ≤ b ∧
    (∃ us : Array Value, w.heap[b]? = some (.cells us t (0, 0)) ∧ VRels (fun _ _ => none) [] (X.T t).zero us.toList ∧ ∀ (i : Nat) (u : Value), us[i]? = some u → u.oneCell' = true) ∧ ¬ Owned ρ H b ∧ ∀ o, I b o = none

structure Bank (X : Ctx) (ops : Array Oper) (listed lv : Array Bool) (a : Act) (w0 w : World) (I : Imm) (ρ : List Pl) (H : List O) (pre post : List Nat) : Prop where
  sz : listed.size = ops.size
  eq : ∀ i ∈ pre, lv.getD i false = listed.getD i false
  cl : ∀ (i : Nat) (o : Oper), ops[i]? = some o → listed.getD i false = true → ∀ k ∈ edgesOf o, listed.getD k false = true
  it : ∀ i ∈ post, listed.getD i false = true → Early X ops a w0 w I ρ H i
  inj : ∀ i ∈ post, ∀ j ∈ post, listed.getD i false = true → listed.getD j false = true → i ≠ j → ∀ oi oj di dj, ops[i]? = some oi → ops[j]? = some oj → oi.dst = some di → oj.dst = some dj → a.tmps.getD di undef ≠ a.tmps.getD dj undef

/-- the slots of those -/
def pendB (ops : Array Oper) (listed : Array Bool) (post : List Nat) : List Nat := (post.filter fun i => listed.getD i false).filterMap fun i => (ops[i]?).bind (·.dst)

theorem mem_pendB {ops : Array Oper} {listed : Array Bool} {post : List Nat} {t : Nat} : t ∈ pendB ops listed post ↔ ∃ i ∈ post, listed.getD i false = true ∧ ∃ o, ops[i]? = some o ∧ o.dst = some t := by
  unfold pendB
  simp only [List.mem_filterMap, List.mem_filter, Option.bind_eq_some_iff]
  constructor
  · rintro ⟨i, ⟨h1, h2⟩, o, h3, h4⟩; exact ⟨i, h1, h2, o, h3, h4⟩
  · rintro ⟨i, h1, h2, o, h3, h4⟩; exact ⟨i, ⟨h1, h2⟩, o, h3, h4⟩

theorem DInv.remask {X : Ctx} {ops : Array Oper} {K : Env → List O → Prop} {L : List Nat} {I0 : Imm} {ρ0 : List Pl} {H0 : List O} {w0 : World} {a0 : Act} {M M' : List Nat} {listed : Array Bool} {a : Act} {w : World} {pre post : List Nat} {recs : List (Nat × Bool)} {e : Env} {H : List O} {I : Imm} {ρ : List Pl}
    (h : DInv X ops K L I0 ρ0 H0 w0 a0 M listed a w pre post recs e H I ρ) (hM : ∀ t ∈ M, t ∈ M') : DInv X ops K L I0 ρ0 H0 w0 a0 M' listed a w pre post recs e H I ρ :=
  { h with er := fun t ht => h.er t fun hm => ht (hM t hm) }

theorem Early.op {X : Ctx} {ops : Array Oper} {a : Act} {w0 w : World} {I : Imm} {ρ : List Pl} {H : List O} {i : Nat} (h : Early X ops a w0 w I ρ H i) {o : Oper} (ho : ops[i]? = some o) : bankable o = true ∧ loud o = true := by
  obtain ⟨o', t, d, b, h1, h2, h3, h4, _⟩ := h
  rw [ho] at h1; cases h1
  simp [bankable, loud, h2, h3, h4, isEff]

theorem Early.of {X : Ctx} {ops : Array Oper} {a a' : Act} {w0 w w' : World} {I I' : Imm} {ρ ρ' : List Pl} {H H' : List O} {i : Nat} (h : Early X ops a w0 w I ρ H i)
    (ha : ∀ o d, ops[i]? = some o → o.dst = some d → a'.tmps.getD d undef = a.tmps.getD d undef) (hw : ∀ b, b < w.heap.size → ¬ Owned ρ H b → (∀ o, I b o = none) → (∃ o d, ops[i]? = some o ∧ o.dst = some d ∧ a.tmps.getD d undef = .pointer (some ⟨b, 0, none⟩)) → w'.heap[b]? = w.heap[b]? ∧ ¬ Owned ρ' H' b ∧ ∀ o, I' b o = none) : Early X ops a' w0 w' I' ρ' H' i := by
  obtain ⟨o, t, d, b, h1, h2, h3, h4, h5, h6, h7, h8, ⟨us, h9, h10, h11⟩, h12, h13⟩ := h
  obtain ⟨g1, g2, g3⟩ := hw b (Array.getElem?_eq_some_iff.1 h9).1 h12 h13 ⟨o, d, h1, h3, h7⟩
  exact ⟨o, t, d, b, h1, h2, h3, h4, h5, h6, by rw [ha o d h1 h3, h7], h8, ⟨us, by rw [g1, h9], h10, h11⟩, g2, g3⟩

/-- Across a step of the run. -/
theorem Early.step {X : Ctx} {ops : Array Oper} {a : Act} {w0 w w' : World} {I I' : Imm} {ρ ρ' : List Pl} {H H' : List O} {i : Nat} (h : Early X ops a w0 w I ρ H i) {k : Nat} (hs : Step k I ρ H w I' ρ' H' w') : Early X ops a w0 w' I' ρ' H' i :=
  h.of (fun _ _ _ _ => rfl) fun b hb hn hi _ => ⟨hs.frame b hb hn, fun ho => by
    rcases hs.own b ho with h1 | h1
    · exact hn h1
    · omega, fun o => by
    cases hv : I' b o with
    | none => rfl
    | some v =>
      rcases hs.imm b o v hv with h1 | h1 | h1
      · rw [hi] at h1; cases h1
      · exact absurd h1 hn
      · omega⟩

theorem put_get {a : Act} {d : Option Nat} {u : Value} {t : Nat} (h : d ≠ some t) : (a.put d u).tmps.getD t undef = a.tmps.getD t undef := by
  cases d with
  | none => rfl
  | some d =>
    have : d ≠ t := fun e => h (by rw [e])
    simp [Act.put, Array.getElem?_setIfInBounds_ne this]

section
variable {X : Ctx} {ops : Array Oper} {K : Env → List O → Prop} {L : List Nat} {I0 : Imm} {ρ0 : List Pl} {H0 : List O} {w0 : World} {a0 : Act} {listed lv : Array Bool} {a : Act} {w : World} {pre post : List Nat} {recs : List (Nat × Bool)} {e : Env} {H : List O} {I : Imm} {ρ : List Pl}

theorem dd_nodup (hL : DOk ops L) (hLs : L = pre ++ post) : ∀ i ∈ pre, i ∉ post := fun i hi hp => by
  obtain ⟨q1, q2, rfl⟩ := List.append_of_mem hp
  obtain ⟨g1, _⟩ := hL.topo (pre ++ q1) i q2 (by rw [hLs]; simp)
  exact g1 (by simp [hi])

theorem dd_tail {i : Nat} (hL : DOk ops L) (hLs : L = pre ++ i :: post) : i ∉ pre ∧ i ∉ post := by
  refine ⟨(hL.topo pre i post hLs).1, fun hp => ?_⟩
  obtain ⟨q1, q2, rfl⟩ := List.append_of_mem hp
  obtain ⟨g1, _⟩ := hL.topo (pre ++ i :: q1) i q2 (by rw [hLs]; simp)
  exact g1 (by simp)

/-- What is needed by one that stands in the row's first part, or next, stands in the first part. -/
theorem dd_need (hL : DOk ops L) {r : List Nat} (hLs : L = pre ++ post) {i : Nat} (hi : i ∈ pre ∨ post = i :: r) {j : Nat} (hj : Nat.testBit ((clos ops.toList []).getD i 0) j = true) : j ∈ pre := by
  rcases hi with hi | rfl
  · obtain ⟨p1, p2, rfl⟩ := List.append_of_mem hi
    have := hL.D_pre (p := p1) (q := p2 ++ post) (i := i) (by rw [hLs]; simp) hj
    simp [this]
  · exact hL.D_pre hLs hj

theorem dd_edge (hL : DOk ops L) {r : List Nat} (hLs : L = pre ++ post) {i : Nat} (hi : i ∈ pre ∨ post = i :: r) {o : Oper} (ho : ops[i]? = some o) : ∀ k ∈ edgesOf o, k ∈ pre := by
  rcases hi with hi | rfl
  · obtain ⟨p1, p2, rfl⟩ := List.append_of_mem hi
    obtain ⟨_, o', ho', he⟩ := hL.topo p1 i (p2 ++ post) (by rw [hLs]; simp)
    rw [ho] at ho'; cases ho'
    intro k hk
    simp [he k hk]
  · obtain ⟨_, o', ho', he⟩ := hL.topo pre i r hLs
    rw [ho] at ho'; cases ho'
    exact he

/-- An early one's slot is touched by none that is not yet carried out and stands in the first part, or next. -/
theorem bank_apart (hL : DOk ops L) (hLs : L = pre ++ post) (hb : Bank X ops listed lv a w0 w I ρ H pre post) {r : List Nat} {i : Nat} (hi : i ∈ pre ∨ post = i :: r) (hl : listed.getD i false = false) {o : Oper} (ho : ops[i]? = some o) (he : ∀ k ∈ edgesOf o, listed.getD k false = true)
    {t : Nat} (ht : t ∈ pendB ops listed post) : t ∉ looksOf ops.toList o ∧ o.dst ≠ some t := by
  obtain ⟨j, hj, hlj, oj, hoj, hd⟩ := mem_pendB.1 ht
  have hji : i ≠ j := fun h => by subst h; rw [hl] at hlj; cases hlj
  have hjpre : j ∉ pre := fun h => dd_nodup hL hLs j h hj
  have hcl : ∀ k, Nat.testBit ((clos ops.toList []).getD j 0) k = true → listed.getD k false = true :=
    clos_listed (ops := ops.toList) (S := fun k => listed.getD k false = true) (fun k ok hk hs m hm => hb.cl k ok (by simpa using hk) hs m hm) j oj (by simpa using hoj) (hb.cl j oj hoj hlj)
  refine ⟨fun hx => ?_, fun hx => ?_⟩
  · rcases hL.apart i j o oj ho hoj hji t hd (.inl hx) with h1 | ⟨_, h1⟩
    · exact hjpre (dd_need hL hLs hi h1)
    · have := hcl i h1; rw [hl] at this; cases this
  · rcases hL.apart j i oj o hoj ho hji.symm t hx (.inr hd) with h1 | ⟨_, h1⟩
    · have := hcl i h1; rw [hl] at this; cases this
    · exact hjpre (dd_need hL hLs hi h1)

/-- Early ones whose turn it is are taken in; then quiet ones, and so on. -/
theorem bank_in (hX : CtxOk X) (hL : DOk ops L) : ∀ (n : Nat) (lv : Array Bool) (pre post : List Nat) (recs : List (Nat × Bool)) (e : Env) (H : List O) (ρ : List Pl), post.length ≤ n → X.k ≤ ρ.length →
    DInv X ops K L I0 ρ0 H0 w0 a0 (pendB ops listed post) lv a w pre post recs e H I ρ → Bank X ops listed lv a w0 w I ρ H pre post →
    ∃ lv' pre' post' recs' e' H' ρ', DInv X ops K L I0 ρ0 H0 w0 a0 (pendB ops listed post') lv' a w pre' post' recs' e' H' I ρ' ∧ Bank X ops listed lv' a w0 w I ρ' H' pre' post' ∧
      (post' = [] ∨ ∃ i r o, post' = i :: r ∧ ops[i]? = some o ∧ loud o = true ∧ listed.getD i false = false) := by
  intro n
  induction n with
  | zero =>
    intro lv pre post recs e H ρ hn hk h hb
    have : post = [] := List.eq_nil_of_length_eq_zero (by omega)
    exact ⟨lv, pre, post, recs, e, H, ρ, h, hb, .inl this⟩
  | succ n ih =>
    intro lv pre post recs e H ρ hn hk h hb
    obtain ⟨pre1, post1, recs1, e1, q, h1, hd, hq, hp, hql⟩ := h.advance hL
    subst hq hp
    have hqn : ∀ i ∈ q, listed.getD i false = false := fun i hi => by
      cases hx : listed.getD i false with
      | false => rfl
      | true =>
        obtain ⟨o, ho, hlo⟩ := hql i hi
        have := ((hb.it i (by simp [hi]) hx).op ho).2
        rw [hlo] at this; cases this
    have hM : pendB ops listed (q ++ post1) = pendB ops listed post1 := by
      unfold pendB
      rw [List.filter_append, List.filter_eq_nil_iff.2 (fun i hi => by rw [hqn i hi]; simp), List.nil_append]
    rw [hM] at h1
    have hb1 : Bank X ops listed lv a w0 w I ρ H (pre ++ q) post1 := by
      refine ⟨hb.sz, fun i hi => ?_, hb.cl, fun i hi => hb.it i (by simp [hi]), fun i hi j hj => hb.inj i (by simp [hi]) j (by simp [hj])⟩
      rcases List.mem_append.1 hi with hi | hi
      · exact hb.eq i hi
      · rw [hqn i hi]; exact h.unl i (by simp [hi])
    rcases hd with rfl | ⟨i, r, o, rfl, ho, hlo⟩
    · exact ⟨lv, _, _, _, _, _, _, h1, hb1, .inl rfl⟩
    · cases hx : listed.getD i false with
      | false => exact ⟨lv, _, _, _, _, _, _, h1, hb1, .inr ⟨i, r, o, rfl, ho, hlo, hx⟩⟩
      | true =>
        -- it has come already
        obtain ⟨o', t, d, b, g1, g2, g3, g4, g5, g6, g7, g8, ⟨us, g9, g10, g11⟩, g12, g13⟩ := hb1.it i (by simp) hx
        rw [ho] at g1; cases g1
        have hLs : L = (pre ++ q) ++ i :: r := h1.hL
        obtain ⟨hnpre, hnr⟩ := dd_tail hL hLs
        have hev : ∀ k ∈ edgesOf o, lv.getD k false = true := fun k hk => by
          rw [hb1.eq k (dd_edge hL hLs (.inr rfl) ho k hk)]
          exact hb1.cl i o ho hx k hk
        have hC := h1.C
        unfold adgo at hC
        simp only [show ops.toList[i]? = some o by simpa using ho, g4] at hC
        unfold dop at hC
        simp only [hlo] at hC
        unfold aop at hC
        simp only [g2, isEff, ae, g5, copyL_iff, copyH_iff] at hC
        unfold putE at hC
        simp only [g3] at hC
        simp only [show Nat.blt d X.n = true by exact Nat.ble_eq_true_of_le g6] at hC
        obtain ⟨hC', hall⟩ := recheck_all recs1 hC
        have hcl := clos_listed (ops := ops.toList) (S := fun k => lv.getD k false = true) (fun k ok hk hs m hm => h1.cl k ok (by simpa using hk) hs m hm) i o (by simpa using ho) hev
        have hbit : ∀ j, lv.getD j false = false → Nat.testBit ((clos ops.toList []).getD i 0) j = false := fun j hj => by
          cases hb' : Nat.testBit ((clos ops.toList []).getD i 0) j with
          | false => rfl
          | true => have := hcl j hb'; rw [hj] at this; cases this
        -- the state, with it
        have hst := h1.st
        have e1' : (ρ ++ [⟨b, 0, 0, 0⟩])[H.length]? = some ⟨b, 0, 0, 0⟩ := by rw [← hst.len]; simp
        have e2' : (H ++ [.cells (X.T t).zero])[H.length]? = some (.cells (X.T t).zero) := by simp
        have e3' : ∀ (i : Nat) (x : O), i ≠ H.length → (H ++ [.cells (X.T t).zero])[i]? = some x → H[i]? = some x := by
          intro i x hi hx
          have hlt := (List.getElem?_eq_some_iff.1 hx).1
          simp at hlt
          rwa [List.getElem?_append_left (by omega)] at hx
        have e4' : ∀ (i : Nat) (p : Pl), i ≠ H.length → (ρ ++ [⟨b, 0, 0, 0⟩])[i]? = some p → ρ[i]? = some p := by
          intro i p hi hp
          have hlt := (List.getElem?_eq_some_iff.1 hp).1
          simp [hst.len] at hlt
          rwa [List.getElem?_append_left (by rw [hst.len]; omega)] at hp
        obtain ⟨c1, c2, c3⟩ := cells_new (I := I) (ρ := ρ ++ [⟨b, 0, 0, 0⟩]) (w := w) (g10.mono (fun _ _ _ hh => by cases hh) (PLe.nil _)) g11 g9
        have hst' : St I (ρ ++ [⟨b, 0, 0, 0⟩]) (H ++ [.cells (X.T t).zero]) w := by
          refine hst.one H.length ⟨b, 0, 0, 0⟩ (.cells (X.T t).zero) (by simp [hst.len]) (PLe.append _ _) e1' e2' (fun i x hi hx => .inr (e3' i x hi hx)) e4' (fun _ _ _ => rfl) (fun _ => rfl) (fun _ i p x hi hp hx hh => ?_) (fun _ => g13) ⟨rfl, c1, c2, c3⟩
          exact g12 ⟨i, p, x, hp, e3' i x hi hx, hh⟩
        have hown' : ∀ b', Owned (ρ ++ [⟨b, 0, 0, 0⟩]) (H ++ [.cells (X.T t).zero]) b' → Owned ρ H b' ∨ b' = b := by
          rintro b' ⟨i, p, x, hp, hx, hh⟩
          by_cases hi : i = H.length
          · subst hi; rw [e1'] at hp; rw [e2'] at hx; cases hp; cases hx; exact .inr hh.2.symm
          · exact .inl ⟨i, p, x, e4' i p hi hp, e3' i x hi hx, hh⟩
        have hstep : Step X.k I0 ρ0 H0 w0 I (ρ ++ [⟨b, 0, 0, 0⟩]) (H ++ [.cells (X.T t).zero]) w := by
          have s := h1.step
          refine ⟨s.ile, fun i hi => ?_, s.os, s.tape, s.output, s.size, s.frame, fun b' hb' => ?_, s.imm⟩
          · rw [List.getElem?_append_left (by omega)]; exact s.take i hi
          · rcases hown' b' hb' with h2 | rfl
            · exact s.own b' h2
            · exact .inr g8
        have hput : a.put (some d) (.pointer (some ⟨b, 0, none⟩)) = a := by
          have hd' : d < a.tmps.size := by rw [h1.as]; exact g6
          have : a.tmps.setIfInBounds d (.pointer (some ⟨b, 0, none⟩)) = a.tmps := by
            apply Array.ext (by simp)
            intro k hk1 hk2
            by_cases hkd : d = k
            · subst hkd
              have hg : a.tmps.getD d undef = a.tmps[d] := by unfold Array.getD; rw [dif_pos hd']; rfl
              rw [Array.getElem_setIfInBounds_self, ← hg, g7]
            · rw [Array.getElem_setIfInBounds, if_neg hkd]
          simp [Act.put, this]
        have hn' := h1.next hL ho hev (u := .pointer (some ⟨b, 0, none⟩)) (v := .ptr H.length 0) (e' := (d, .ptr H.length 0) :: e1) (I' := I) (w' := w) (ran := true) hC'
          (fun j rj hj hran hlj oj hoj hrd => hall j rj hj hran (hbit j hlj) oj hoj hrd)
          (fun t' ht' => get_put_ne fun hh => ht' (by rw [g3, hh])) (fun d' hd' => by rw [g3] at hd'; cases hd'; exact ⟨g6, get_put⟩)
          (by
            have := VRel.ptr (I := I) (ρ ++ [⟨b, 0, 0, 0⟩]) H.length 0 ⟨b, 0, 0, 0⟩ e1'
            simpa using this) hst' (h1.mask.mono (ILe.refl _) (PLe.append _ _)) hstep (M' := pendB ops listed r) (fun t' ht' => by
            obtain ⟨j, hj, hlj, oj, hoj, hdj⟩ := mem_pendB.1 ht'
            rcases List.mem_cons.1 hj with rfl | hj
            · rw [ho] at hoj; cases hoj; exact .inr hdj
            · exact .inl (mem_pendB.2 ⟨j, hj, hlj, oj, hoj, hdj⟩))
        rw [g3, hput] at hn'
        refine ih _ _ _ _ _ _ _ (by simp at hn; omega) (by simp; omega) hn' ?_
        have hlt : i < lv.size := by rw [h1.sz]; exact (Array.getElem?_eq_some_iff.1 ho).1
        refine ⟨hb.sz, fun j hj => ?_, hb.cl, fun j hj hlj => ?_, fun j hj k hk => hb1.inj j (by simp [hj]) k (by simp [hk])⟩
        · rw [getD_set hlt]
          by_cases hji : j = i
          · rw [if_pos hji, hji, hx]
          · rw [if_neg hji]
            rcases List.mem_append.1 hj with hj | hj
            · exact hb1.eq j hj
            · simp at hj; exact absurd hj hji
        · refine (hb1.it j (by simp [hj]) hlj).of (fun _ _ _ _ => rfl) fun b' hb' hn' hi' ⟨oj, dj, hoj, hdj, hbj⟩ => ⟨rfl, fun ho' => ?_, hi'⟩
          rcases hown' b' ho' with h2 | rfl
          · exact hn' h2
          · have hij : i ≠ j := fun hij => hnr (hij ▸ hj)
            exact hb1.inj i (by simp) j (by simp [hj]) hx hlj hij o oj d dj ho hoj g3 hdj (by rw [g7, hbj])

end

theorem draw_main {X : Ctx} (hX : CtxOk X) (hstab : X.stab = true) {ops : Array Oper} {K : Env → List O → Prop} {L : List Nat} (hL : DOk ops L) (hbk : bankOk X.T X.n ops.toList = true) {I0 : Imm} {ρ0 : List Pl} {H0 : List O} {w0 : World} {a0 : Act} (hk : X.k ≤ ρ0.length) {F : Fence} {n : Nat} (hF : Wide F) {Q : Exit → Act → World → Prop}
    (hQ : ∀ I' ρ' e' H' w' (a' : Act), K e' H' → St I' ρ' H' w' → ERel I' ρ' e' a'.tmps → a'.tmps.size = X.n → a'.defers = a0.defers → Step X.k I0 ρ0 H0 w0 I' ρ' H' w' → Q .normal a' w') :
    ∀ (fuel : Nat) (listed lv : Array Bool) (a : Act) (w : World) (pre post : List Nat) (recs : List (Nat × Bool)) (e : Env) (H : List O) (I : Imm) (ρ : List Pl), DInv X ops K L I0 ρ0 H0 w0 a0 (pendB ops listed post) lv a w pre post recs e H I ρ →
    Bank X ops listed lv a w0 w I ρ H pre post → (post = [] ∨ ∃ i r o, post = i :: r ∧ ops[i]? = some o ∧ loud o = true ∧ listed.getD i false = false) → (L.filter fun i => !listed.getD i false).length ≤ fuel → wpAnyIn F n X.P .any ops Q fuel listed a w := by
  have fin : ∀ (listed lv : Array Bool) (a : Act) (w : World) (pre post : List Nat) (recs : List (Nat × Bool)) (e : Env) (H : List O) (I : Imm) (ρ : List Pl), DInv X ops K L I0 ρ0 H0 w0 a0 (pendB ops listed post) lv a w pre post recs e H I ρ →
      Bank X ops listed lv a w0 w I ρ H pre post → (post = [] ∨ ∃ i r o, post = i :: r ∧ ops[i]? = some o ∧ loud o = true ∧ listed.getD i false = false) → (∀ i ∈ L, listed.getD i false = true) → Q .normal a w := by
    intro listed lv a w pre post recs e H I ρ h hb hd hall
    have hpost : post = [] := by
      rcases hd with hd | ⟨i, r, o, rfl, ho, hlo, hx⟩
      · exact hd
      · have := hall i (by rw [h.hL]; simp)
        rw [hx] at this; cases this
    subst hpost
    obtain ⟨f1, f2, f3⟩ := h.finish (fun i hi => by rw [hb.eq i hi]; exact hall i (by rw [h.hL]; simp [hi]))
    exact hQ I ρ e H w a f1 f2 f3 h.as h.df h.step
  intro fuel
  induction fuel with
  | zero =>
    intro listed lv a w pre post recs e H I ρ h hb hd hc
    have hall : ∀ i ∈ L, listed.getD i false = true := fun i hi => by
      cases hx : listed.getD i false with
      | true => rfl
      | false =>
        have : i ∈ L.filter fun i => !listed.getD i false := List.mem_filter.2 ⟨hi, by simp [hx]⟩
        have h0 : (L.filter fun i => !listed.getD i false) = [] := List.eq_nil_of_length_eq_zero (by omega)
        rw [h0] at this
        simp at this
    refine ⟨?_, fin listed lv a w pre post recs e H I ρ h hb hd hall⟩
    apply List.eq_nil_iff_forall_not_mem.2
    intro i hi
    obtain ⟨o, ho, hl, _⟩ := (ready_iff hb.sz).1 hi
    have := hall i (hL.all i (Array.getElem?_eq_some_iff.1 ho).1)
    rw [hl] at this; cases this
  | succ fuel ih =>
    intro listed lv a w pre post recs e H I ρ h hb hd hc
    refine ⟨fun hr => ?_, fun i hi => ?_⟩
    · exact fin listed lv a w pre post recs e H I ρ h hb hd (allListed hL hb.sz hr)
    · obtain ⟨o, ho, hl, he⟩ := (ready_iff hb.sz).1 hi
      have hlt : i < ops.size := (Array.getElem?_eq_some_iff.1 ho).1
      have hiL : i ∈ L := hL.all i hlt
      have hfuel : ∀ listed' : Array Bool, listed' = listed.setIfInBounds i true → (L.filter fun j => !listed'.getD j false).length ≤ fuel := by
        rintro listed' rfl
        have := filter_less (L := L) (f := fun j => !listed.getD j false) (g := fun j => !(listed.setIfInBounds i true).getD j false) (fun j hj => by
          rw [getD_set (by rw [hb.sz]; exact hlt)] at hj
          split at hj
          · simp at hj
          · exact hj) hiL (by simp [hl]) (by rw [getD_set (by rw [hb.sz]; exact hlt)]; simp)
        omega
      have htup : VRel I ρ (.tup []) undef := .tup _ _ _ rfl (fun i a u ha => by simp at ha)
      have hmask := h.mask
      unfold wpOpIn
      simp only [ho]
      rw [h.hL] at hiL
      have hlt' : i < listed.size := by rw [hb.sz]; exact hlt
      have hltv : i < lv.size := by rw [h.sz]; exact hlt
      -- what is early stays so, where i, no early one, is carried out
      have hpend : ∀ po : List Nat, i ∉ po → pendB ops (listed.setIfInBounds i true) po = pendB ops listed po := fun po hpo => by
        unfold pendB
        rw [List.filter_congr (fun j hj => by rw [getD_set hlt', if_neg (show ¬ j = i from fun hji => hpo (hji ▸ hj))])]
      have hcl' : ∀ (j : Nat) (oj : Oper), ops[j]? = some oj → (listed.setIfInBounds i true).getD j false = true → ∀ k ∈ edgesOf oj, (listed.setIfInBounds i true).getD k false = true := by
        intro j oj hoj hlj k hk
        rw [getD_set hlt'] at hlj ⊢
        by_cases hki : k = i
        · rw [if_pos hki]
        · rw [if_neg hki]
          by_cases hji : j = i
          · subst hji
            rw [ho] at hoj; cases hoj
            exact he k hk
          · rw [if_neg hji] at hlj
            exact hb.cl j oj hoj hlj k hk
      rcases List.mem_append.1 hiL with hpre | hpost
      · -- a quiet one that was still to come
        have hq : loud o = false := by
          cases hlo : loud o with
          | false => rfl
          | true =>
            have := h.lst i hpre o ho hlo
            rw [hb.eq i hpre, hl] at this; cases this
        have hlv : lv.getD i false = false := by rw [hb.eq i hpre, hl]
        have hev : ∀ k ∈ edgesOf o, lv.getD k false = true := fun k hk => by
          rw [hb.eq k (dd_edge hL h.hL (r := []) (.inl hpre) ho k hk)]; exact he k hk
        have hap := fun t => bank_apart hL h.hL hb (r := []) (.inl hpre) hl ho he (t := t)
        have hnpost : i ∉ post := dd_nodup hL h.hL i hpre
        -- the early ones, with it carried out
        have hbank : ∀ u, Bank X ops (listed.setIfInBounds i true) (lv.setIfInBounds i true) (a.put o.dst u) w0 w I ρ H pre post := fun u => by
          have hne : ∀ j ∈ post, j ≠ i := fun j hj hji => hnpost (hji ▸ hj)
          have hput : ∀ j ∈ post, listed.getD j false = true → ∀ oj dj, ops[j]? = some oj → oj.dst = some dj → (a.put o.dst u).tmps.getD dj undef = a.tmps.getD dj undef := fun j hj hlj oj dj hoj hdj =>
            put_get (hap dj (mem_pendB.2 ⟨j, hj, hlj, oj, hoj, hdj⟩)).2
          refine ⟨by simp [hb.sz], fun j hj => ?_, hcl', fun j hj hlj => ?_, fun j hj k hk hlj hlk hjk oj ok dj dk hoj hok hdj hdk => ?_⟩
          · rw [getD_set hlt', getD_set hltv]
            by_cases hji : j = i
            · rw [if_pos hji, if_pos hji]
            · rw [if_neg hji, if_neg hji]; exact hb.eq j hj
          · rw [getD_set hlt', if_neg (hne j hj)] at hlj
            exact (hb.it j hj hlj).of (fun oj dj hoj hdj => hput j hj hlj oj dj hoj hdj) fun b hb' hn' hi' _ => ⟨rfl, hn', hi'⟩
          · rw [getD_set hlt', if_neg (hne j hj)] at hlj
            rw [getD_set hlt', if_neg (hne k hk)] at hlk
            rw [hput j hj hlj oj dj hoj hdj, hput k hk hlk ok dk hok hdk]
            exact hb.inj j hj k hk hlj hlk hjk oj ok dj dk hoj hok hdj hdk
        have hrec : ∃ ran, (i, ran) ∈ recs := by
          have : i ∈ recs.map (·.1) := by rw [h.hr]; simpa using hpre
          obtain ⟨⟨j, ran⟩, h1, h2⟩ := List.mem_map.1 this
          exact ⟨ran, by simp at h2; subst h2; exact h1⟩
        obtain ⟨ran, hrec⟩ := hrec
        obtain ⟨o', q1, q2, q3, q4⟩ := h.pf i ran hrec hlv
        have : o' = o := by rw [show ops.toList[i]? = some o by simpa using ho] at q1; exact (Option.some.inj q1).symm
        subst this
        have hlook : ∀ t ∈ looksOf ops.toList o', Env.get (maskE (pendB ops listed post ++ pends ops lv pre) e) t = Env.get e t := fun t ht => h.looks hL ho hev (fun hlo => by rw [hq] at hlo; cases hlo) ht (fun hm => (hap t hm).1 ht)
        have hwant : Region.wanted o' (yielded ops a.tmps) = ran := by
          unfold Region.wanted
          cases hg : o'.guard with
          | none => rw [hg] at q3; simp only; exact q3.symm
          | some jw =>
            obtain ⟨j, want⟩ := jw
            rw [hg] at q3
            obtain ⟨d, hdj, hcase⟩ := q3
            have hdj' : (ops[j]?).bind (·.dst) = some d := by simpa using hdj
            have hgd := hlook d (looks_guard hg hdj)
            rcases hcase with ⟨b, hb, hran⟩ | ⟨hb, hran⟩
            · rw [← hgd] at hb
              simp only [yielded_of hdj' hb hmask]
              rw [hran]
              cases b <;> cases want <;> rfl
            · rw [← hgd] at hb
              simp only [yielded_undef hdj' hb hmask]
              rw [hran]; rfl
        have hnd : ran = true → ∀ c, o'.op ≠ .defer c := by
          intro hran c hc
          cases hdst : o'.dst with
          | none =>
            rw [hdst] at q4
            obtain ⟨v, hv⟩ := q4 hran
            rw [hc] at hv; simp [aq] at hv
          | some d =>
            rw [hdst] at q4
            have := q4.2.1 hran
            rw [hc] at this; simp [aq] at this
        rw [hwant]
        cases ran with
        | true =>
          rw [if_pos rfl]
          have haq : ∃ v, aq X.T o'.op (maskE (pendB ops listed post ++ pends ops lv pre) e) H (fun u => u = v) ∧ ∀ d, o'.dst = some d → d < X.n ∧ Env.get e d = v := by
            cases hdst : o'.dst with
            | none =>
              rw [hdst] at q4
              obtain ⟨v, hv⟩ := q4 rfl
              exact ⟨v, by rw [← aq_congr (looks_aeval hlook)]; exact hv, by simp⟩
            | some d =>
              rw [hdst] at q4
              refine ⟨Env.get e d, by rw [← aq_congr (looks_aeval hlook)]; exact q4.2.1 rfl, fun d' hd' => ?_⟩
              cases hd'; exact ⟨q4.1, rfl⟩
          obtain ⟨v, hv, hvd⟩ := haq
          obtain ⟨v', rfl, hok⟩ := aq_sound hX.T o' hv
          obtain ⟨u, hrun, hrel⟩ := hok I ρ w a h.st hmask
          refine ⟨fun f _ => hF.fn f, ?_⟩
          rw [semAt_of _ _ _ (hnd rfl), hrun]
          have hn := h.done hL ho hpre hev (u := u) (fun d hdst => ⟨(hvd d hdst).1, by rw [(hvd d hdst).2]; exact hrel⟩)
          rw [← hpend post hnpost] at hn
          refine ih _ _ _ _ pre post recs e H I ρ hn (hbank _) ?_ (hfuel _ rfl)
          rcases hd with hd | ⟨i0, r, o0, hp, h1, h2, h3⟩
          · exact .inl hd
          · exact .inr ⟨i0, r, o0, hp, h1, h2, by rw [getD_set hlt', if_neg (fun hji => hnpost (by rw [hp, ← hji]; simp))]; exact h3⟩
        | false =>
          rw [if_neg (by simp)]
          refine ⟨fun f _ => hF.fn f, ?_⟩
          have hn := h.done hL ho hpre hev (u := undef) (fun d hdst => by
            rw [hdst] at q4
            exact ⟨q4.1, by rw [q4.2.2 rfl]; exact htup⟩)
          rw [← hpend post hnpost] at hn
          refine ih _ _ _ _ pre post recs e H I ρ hn (hbank _) ?_ (hfuel _ rfl)
          rcases hd with hd | ⟨i0, r, o0, hp, h1, h2, h3⟩
          · exact .inl hd
          · exact .inr ⟨i0, r, o0, hp, h1, h2, by rw [getD_set hlt', if_neg (fun hji => hnpost (by rw [hp, ← hji]; simp))]; exact h3⟩
      · -- the loud one that stands next
        rcases hd with rfl | ⟨i0, r, o0, rfl, ho0, hlo0, hx0⟩
        · simp at hpost
        by_cases hii : i = i0
        rotate_left
        · -- a new variable ahead of its place
          have hir : i ∈ r := by
            rcases List.mem_cons.1 hpost with h1 | h1
            · exact absurd h1 hii
            · exact h1
          have hclr := clos_listed (ops := ops.toList) (S := fun k => listed.getD k false = true) (fun k ok hk hs m hm => hb.cl k ok (by simpa using hk) hs m hm) i o (by simpa using ho) he
          have hbo : bankable o = true := by
            rcases hL.loud pre i0 r h.hL o0 ho0 hlo0 i hir with h1 | h1
            · have h2 := hclr i0 h1
              rw [hx0] at h2; cases h2
            · unfold bankAt at h1
              rw [show ops.toList[i]? = some o by simpa using ho] at h1
              exact h1
          obtain ⟨t, d, hop, hg, hd⟩ : ∃ t d, o.op = .alloc t ∧ o.guard = none ∧ o.dst = some d := by
            unfold bankable at hbo
            split at hbo
            · rename_i t d h1 h2 h3; exact ⟨t, d, h1, h2, h3⟩
            · cases hbo
          have hgd : (X.T t).good = true ∧ d < X.n := by
            unfold bankOk at hbk
            rw [List.all_eq_true] at hbk
            have := hbk o (List.mem_of_getElem? (i := i) (by simpa using ho))
            simp only [hop, hd, Bool.and_eq_true] at this
            exact ⟨this.1, Nat.le_of_ble_eq_true this.2⟩
          obtain ⟨ti, z, td, g1, g2, g3, g4, g5⟩ := ti_good hX.T hgd.1
          rw [show Region.wanted o (yielded ops a.tmps) = true by simp [Region.wanted, hg], if_pos rfl]
          refine ⟨fun f _ => hF.fn f, ?_⟩
          rw [semAt_of _ _ _ (by simp [hop])]
          have hrun : (execOp a.eval o).run X.P w = .ok (.value (.pointer (some ⟨w.heap.size, 0, none⟩))) { w with heap := w.heap.push (.cells z.cells t (0, 0)) } := by
            simp [execOp, hop, Instr.alloc, zeroValue, typeInfo, g1, g2, newVar, newRow]
          rw [hrun]
          have hst := h.st
          have hfr : ∀ b, b < w.heap.size → (w.heap.push (.cells z.cells t (0, 0)))[b]? = w.heap[b]? := fun b hb' => by rw [Array.getElem?_push, if_neg (by omega)]
          have hst' : St I ρ H { w with heap := w.heap.push (.cells z.cells t (0, 0)) } := by
            refine ⟨hst.len, fun j p x hp hx => (hst.obj j p x hp hx).keep (fun b hh => hfr _ (hst.lt ⟨j, p, x, hp, hx, hh⟩)) (ILe.refl _) (PLe.refl _), hst.inj, ⟨fun b q v hv => ?_, hst.imm.glob⟩, hst.sep⟩
            rw [← hst.imm b q v hv]
            exact World.cell?_of_block (w := w) (hfr b (hst.imm_lt hv))
          have hs1 : Step X.k I ρ H w I ρ H { w with heap := w.heap.push (.cells z.cells t (0, 0)) } :=
            ⟨ILe.refl _, fun _ _ => rfl, rfl, rfl, rfl, by simp, fun b hb' _ => hfr b hb', fun _ h => .inl h, fun _ _ _ h => .inl h⟩
          have hnpre' : i ∉ pre := fun hp => dd_nodup hL h.hL i hp (by simp [hir])
          have hbd : ∀ j ∈ i0 :: r, listed.getD j false = true → ∀ oj dj, ops[j]? = some oj → oj.dst = some dj → dj ≠ d := fun j hj hlj oj dj hoj hdj hdd => by
            subst hdd
            have hji : j ≠ i := fun hji => by subst hji; rw [hl] at hlj; cases hlj
            exact hL.bdist j i oj o hoj ho hji ((hb.it j hj hlj).op hoj).1 hbo dj hdj hd
          have hput : ∀ t', t' ≠ d → (a.put o.dst (.pointer (some ⟨w.heap.size, 0, none⟩))).tmps.getD t' undef = a.tmps.getD t' undef := fun t' ht' => put_get (by rw [hd]; simp; exact fun h => ht' h.symm)
          have hputd : (a.put o.dst (.pointer (some ⟨w.heap.size, 0, none⟩))).tmps.getD d undef = .pointer (some ⟨w.heap.size, 0, none⟩) := by
            rw [hd]; simp [Act.put, h.as, hgd.2]
          refine ih _ lv _ _ pre (i0 :: r) recs e H I ρ ?_ ?_ (.inr ⟨i0, r, o0, rfl, ho0, hlo0, by rw [getD_set hlt', if_neg (fun h => hii h.symm)]; exact hx0⟩) (hfuel _ rfl)
          · refine { h with st := hst', step := h.step.trans hs1, as := ?_, df := ?_, er := fun t' hm ht' => ?_ }
            · have htd : t' ≠ d := fun htd => hm (mem_pendB.2 ⟨i, by simp [hir], by rw [getD_set hlt', if_pos rfl], o, ho, by rw [hd, htd]⟩)
              rw [hput t' htd]
              refine h.er t' (fun hm' => hm ?_) ht'
              obtain ⟨j, hj, hlj, oj, hoj, hdj⟩ := mem_pendB.1 hm'
              exact mem_pendB.2 ⟨j, hj, by rw [getD_set hlt']; split; rfl; exact hlj, oj, hoj, hdj⟩
            · show (a.put o.dst _).tmps.size = X.n
              rw [hd]; simp [Act.put, h.as]
            · show (a.put o.dst _).defers = a0.defers
              rw [hd]; exact h.df
          · refine ⟨by simp [hb.sz], fun j hj => ?_, hcl', fun j hj hlj => ?_, fun j hj k hk hlj hlk hjk oj ok dj dk hoj hok hdj hdk => ?_⟩
            · rw [getD_set hlt', if_neg (show ¬ j = i from fun hji => hnpre' (hji ▸ hj))]; exact hb.eq j hj
            · rw [getD_set hlt'] at hlj
              by_cases hji : j = i
              · subst hji
                refine ⟨o, t, d, w.heap.size, ho, hop, hd, hg, hgd.1, hgd.2, hputd, h.step.size, ⟨z.cells, by simp, by rw [g4]; exact ofVals_rel z.cells, ofVals_one g5⟩, fun ho' => ?_, fun q => ?_⟩
                · have := hst.lt ho'; omega
                · cases hv : I w.heap.size q with
                  | none => rfl
                  | some v => have := hst.imm_lt hv; omega
              · rw [if_neg hji] at hlj
                exact ((hb.it j hj hlj).step hs1).of (fun oj dj hoj hdj => hput dj (hbd j hj hlj oj dj hoj hdj)) fun b hb' hn' hi' _ => ⟨rfl, hn', hi'⟩
            · have hlow : ∀ j ∈ i0 :: r, listed.getD j false = true → ∀ oj dj, ops[j]? = some oj → oj.dst = some dj → a.tmps.getD dj undef ≠ .pointer (some ⟨w.heap.size, 0, none⟩) := fun j hj hlj oj dj hoj hdj hh => by
                obtain ⟨o', t', d', b', q1, q2, q3, q4, q5, q6, q7, q8, ⟨us, q9, _⟩, _⟩ := hb.it j hj hlj
                rw [hoj] at q1; cases q1
                rw [hdj] at q3; cases q3
                rw [hh] at q7
                simp at q7
                have := (Array.getElem?_eq_some_iff.1 q9).1
                omega
              rw [getD_set hlt'] at hlj hlk
              by_cases hji : j = i
              · subst hji
                rw [if_neg (fun h => hjk h.symm)] at hlk
                rw [ho] at hoj; cases hoj
                rw [hd] at hdj; cases hdj
                rw [hputd, hput dk (hbd k hk hlk ok dk hok hdk)]
                exact fun hh => hlow k hk hlk ok dk hok hdk hh.symm
              · rw [if_neg hji] at hlj
                by_cases hki : k = i
                · subst hki
                  rw [ho] at hok; cases hok
                  rw [hd] at hdk; cases hdk
                  rw [hputd, hput dj (hbd j hj hlj oj dj hoj hdj)]
                  exact hlow j hj hlj oj dj hoj hdj
                · rw [if_neg hki] at hlk
                  rw [hput dj (hbd j hj hlj oj dj hoj hdj), hput dk (hbd k hk hlk ok dk hok hdk)]
                  exact hb.inj j hj k hk hlj hlk hjk oj ok dj dk hoj hok hdj hdk
        subst hii
        rw [ho] at ho0; cases ho0
        obtain ⟨hnpre, hnr⟩ := dd_tail hL h.hL
        have hev : ∀ k ∈ edgesOf o, lv.getD k false = true := fun k hk => by
          rw [hb.eq k (dd_edge hL h.hL (.inr rfl) ho k hk)]; exact he k hk
        have hap := fun t => bank_apart hL h.hL hb (.inr rfl) hl ho he (t := t)
        have hcl := clos_listed (ops := ops.toList) (S := fun k => lv.getD k false = true) (fun k ok hk hs m hm => h.cl k ok (by simpa using hk) hs m hm) i o (by simpa using ho) hev
        have hpr : pendB ops listed (i :: r) = pendB ops listed r := by
          unfold pendB
          rw [List.filter_cons, hl]; rfl
        -- the early ones, with it carried out
        have hbank : ∀ u I' ρ' H' w', Step X.k I ρ H w I' ρ' H' w' → Bank X ops (listed.setIfInBounds i true) (lv.setIfInBounds i true) (a.put o.dst u) w0 w' I' ρ' H' (pre ++ [i]) r := fun u I' ρ' H' w' hs => by
          have hne : ∀ j ∈ r, j ≠ i := fun j hj hji => hnr (hji ▸ hj)
          have hput : ∀ j ∈ r, listed.getD j false = true → ∀ oj dj, ops[j]? = some oj → oj.dst = some dj → (a.put o.dst u).tmps.getD dj undef = a.tmps.getD dj undef := fun j hj hlj oj dj hoj hdj =>
            put_get (hap dj (mem_pendB.2 ⟨j, by simp [hj], hlj, oj, hoj, hdj⟩)).2
          refine ⟨by simp [hb.sz], fun j hj => ?_, hcl', fun j hj hlj => ?_, fun j hj k hk hlj hlk hjk oj ok dj dk hoj hok hdj hdk => ?_⟩
          · rw [getD_set hlt', getD_set hltv]
            by_cases hji : j = i
            · rw [if_pos hji, if_pos hji]
            · rw [if_neg hji, if_neg hji]
              rcases List.mem_append.1 hj with hj | hj
              · exact hb.eq j hj
              · simp at hj; exact absurd hj hji
          · rw [getD_set hlt', if_neg (hne j hj)] at hlj
            exact ((hb.it j (by simp [hj]) hlj).step hs).of (fun oj dj hoj hdj => hput j hj hlj oj dj hoj hdj) fun b hb' hn' hi' _ => ⟨rfl, hn', hi'⟩
          · rw [getD_set hlt', if_neg (hne j hj)] at hlj
            rw [getD_set hlt', if_neg (hne k hk)] at hlk
            rw [hput j hj hlj oj dj hoj hdj, hput k hk hlk ok dk hok hdk]
            exact hb.inj j (by simp [hj]) k (by simp [hk]) hlj hlk hjk oj ok dj dk hoj hok hdj hdk
        -- and on
        have onward : ∀ u I' ρ' H' w' recs' e', Step X.k I ρ H w I' ρ' H' w' → X.k ≤ ρ'.length → DInv X ops K L I0 ρ0 H0 w0 a0 (pendB ops listed r) (lv.setIfInBounds i true) (a.put o.dst u) w' (pre ++ [i]) r recs' e' H' I' ρ' →
            wpAnyIn F n X.P .any ops Q fuel (listed.setIfInBounds i true) (a.put o.dst u) w' := fun u I' ρ' H' w' recs' e' hs hk' hn => by
          rw [← hpend r hnr] at hn
          obtain ⟨lv2, pre2, post2, recs2, e2, H2, ρ2, k1, k2, k3⟩ := bank_in hX hL r.length _ _ _ _ _ _ _ (Nat.le_refl _) hk' hn (hbank u I' ρ' H' w' hs)
          exact ih _ _ _ _ _ _ _ _ _ _ _ k1 k2 k3 (hfuel _ rfl)
        have hlook : ∀ t ∈ looksOf ops.toList o, Env.get (maskE (pendB ops listed (i :: r) ++ pends ops lv pre) e) t = Env.get e t := fun t ht => h.looks hL ho hev (fun _ => hnpre) ht (fun hm => (hap t hm).1 ht)
        have hC := h.C
        unfold adgo at hC
        simp only [show ops.toList[i]? = some o by simpa using ho] at hC
        have hbit : ∀ j, lv.getD j false = false → Nat.testBit ((clos ops.toList []).getD i 0) j = false := fun j hj => by
          cases hb : Nat.testBit ((clos ops.toList []).getD i 0) j with
          | false => rfl
          | true => have := hcl j hb; rw [hj] at this; cases this
        -- it runs
        have runs : ∀ e2 : Env, (∀ t, Env.get e2 t = Env.get e t) → dop X ops.toList (clos ops.toList []) i o recs e2 H (adgo X ops.toList (clos ops.toList []) K r ((i, true) :: recs)) →
            o.wpIn F n X.P a w (wpAnyIn F n X.P .any ops Q fuel (listed.setIfInBounds i true)) Q := by
          intro e2 h2 hdop
          unfold dop at hdop
          simp only [hlo0] at hdop
          have hop : ∀ x ∈ o.op.operands, aeval e2 x = aeval (maskE (pendB ops listed (i :: r) ++ pends ops lv pre) e) x := fun x hx => by
            have h3 := looks_aeval hlook x hx
            have h4 : aeval e2 x = aeval e x := by cases x <;> simp [aeval, h2]
            rw [h4, h3]
          have go : ∀ (u : Value) (v : V) (I' : Imm) (ρ' : List Pl) (H' : List O) (w' : World), (putE X.n o.dst v e2 fun e' => recheck X ops.toList ((clos ops.toList []).getD i 0) e' H' (adgo X ops.toList (clos ops.toList []) K r ((i, true) :: recs) e' H') recs) →
              St I' ρ' H' w' → VRel I' ρ' v u → ERel I' ρ' (maskE (pendB ops listed (i :: r) ++ pends ops lv pre) e) a.tmps → Step X.k I ρ H w I' ρ' H' w' → wpAnyIn F n X.P .any ops Q fuel (listed.setIfInBounds i true) (a.put o.dst u) w' := by
            intro u v I' ρ' H' w' hp g1 g2 g3 g4
            have fin : ∀ e' : Env, recheck X ops.toList ((clos ops.toList []).getD i 0) e' H' (adgo X ops.toList (clos ops.toList []) K r ((i, true) :: recs) e' H') recs → (∀ t, o.dst ≠ some t → Env.get e' t = Env.get e t) → (∀ d, o.dst = some d → d < X.n ∧ Env.get e' d = v) →
                wpAnyIn F n X.P .any ops Q fuel (listed.setIfInBounds i true) (a.put o.dst u) w' := by
              intro e' hre hg hv
              obtain ⟨hC', hall⟩ := recheck_all recs hre
              have hn := h.next hL ho hev (u := u) (v := v) (ran := true) hC' (fun j rj hj hran hlj oj hoj hrd => hall j rj hj hran (hbit j hlj) oj hoj hrd) hg hv g2 g1 g3 (h.step.trans g4) (M' := pendB ops listed r) (fun t ht => .inl (by rwa [hpr] at ht))
              exact onward u I' ρ' H' w' _ _ g4 ((h.step.trans g4).klen hk) hn
            unfold putE at hp
            cases hdst : o.dst with
            | none =>
              simp only [hdst] at hp
              have := fin e2 hp (fun t _ => h2 t) (by simp [hdst])
              rwa [hdst] at this
            | some d =>
              simp only [hdst] at hp
              cases hb : Nat.blt d X.n with
              | false => simp only [hb] at hp
              | true =>
                simp only [hb] at hp
                have := fin _ hp (fun t ht => by rw [get_put_ne (fun h => ht (by rw [hdst, h])), h2]) (fun d' hd' => by rw [hdst] at hd'; cases hd'; exact ⟨Nat.le_of_ble_eq_true hb, get_put⟩)
                rwa [hdst] at this
          unfold aop at hdop
          cases heff : isEff o.op with
          | true =>
            simp only [heff] at hdop
            have hsw := ae_swap hstab hop hdop
            refine ae_sound hX hsw I ρ w a h.st hmask (h.step.klen hk) F n hF _ Q fun u v I' ρ' e1 H' w' hK g1 g2 g3 g4 => ?_
            obtain ⟨rfl, hK⟩ := hK
            exact go u v I' ρ' H' w' hK g1 g2 g3 g4
          | false =>
            simp only [heff, hstab] at hdop
            obtain ⟨v, hp, haq⟩ := aq_det o.op e2 H _ hdop
            rw [aq_congr hop] at haq
            obtain ⟨v', rfl, hok⟩ := aq_sound hX.T o haq
            obtain ⟨u, hrun, hrel⟩ := hok I ρ w a h.st hmask
            refine ⟨fun f _ => hF.fn f, ?_⟩
            rw [semAt_of _ _ _ (fun c hc => by rw [hc] at haq; simp [aq] at haq), hrun]
            exact go u v' I ρ H w hp h.st hrel hmask (Step.refl _ _ _ _ _)
        -- it is passed by
        have skips : ∀ e2 : Env, (∀ t, Env.get e2 t = Env.get e t) → (putE X.n o.dst (.tup []) e2 fun e' => adgo X ops.toList (clos ops.toList []) K r ((i, false) :: recs) e' H) →
            (∀ f, o.about X.P w a.eval = some f → F.fn f) ∧ wpAnyIn F n X.P .any ops Q fuel (listed.setIfInBounds i true) (a.put o.dst undef) w := by
          intro e2 h2 hp
          refine ⟨fun f _ => hF.fn f, ?_⟩
          have fin : ∀ e' : Env, adgo X ops.toList (clos ops.toList []) K r ((i, false) :: recs) e' H → (∀ t, o.dst ≠ some t → Env.get e' t = Env.get e t) → (∀ d, o.dst = some d → d < X.n ∧ Env.get e' d = .tup []) →
              wpAnyIn F n X.P .any ops Q fuel (listed.setIfInBounds i true) (a.put o.dst undef) w := by
            intro e' hC' hg hv
            have hn := h.next hL ho hev (u := undef) (v := .tup []) (ran := false) hC' (fun j rj hj hran hlj oj hoj hrd => by
              obtain ⟨o', q1, q2, q3, q4⟩ := h.pf j rj hj hlj
              rw [hoj] at q1; cases q1
              have hjp : j ∈ pre := by
                have : j ∈ recs.map (·.1) := List.mem_map.2 ⟨_, hj, rfl⟩
                rw [h.hr] at this; simpa using this
              have hji : j ≠ i := fun hji => hnpre (hji ▸ hjp)
              have htouch : ∀ t, touches ops.toList oj t → Env.get e' t = Env.get e t := by
                intro t ht
                refine hg t fun hd => ?_
                rcases hL.apart j i oj o (by simpa using hoj) ho hji t hd ht with hb | ⟨_, hb⟩
                · obtain ⟨p1, p2, hp'⟩ := List.append_of_mem hjp
                  have hi' := hL.D_pre (p := p1) (q := p2 ++ i :: r) (i := j) (by rw [h.hL, hp']; simp) hb
                  exact hnpre (by rw [hp']; simp [hi'])
                · have := hcl j hb
                  rw [hlj] at this; cases this
              cases hdst : oj.dst with
              | none =>
                exfalso
                have hlo : loud oj = false := by
                  cases hlo : loud oj with
                  | false => rfl
                  | true =>
                    have := h.lst j hjp oj (by simpa using hoj) hlo
                    rw [hlj] at this; cases this
                rw [hL.reads j oj (by simpa using hoj) hlo hdst] at hrd
                cases hrd
              | some d =>
                rw [hdst] at q4
                refine ⟨d, rfl, ?_⟩
                rw [← aq_congr (looks_aeval fun t ht => htouch t (.inl ht)), htouch d (.inr hdst)]
                exact q4.2.1 hran) hg hv htup h.st hmask (h.step.trans (Step.refl _ _ _ _ _)) (M' := pendB ops listed r) (fun t ht => .inl (by rwa [hpr] at ht))
            exact onward undef I ρ H w _ _ (Step.refl _ _ _ _ _) (h.step.klen hk) hn
          unfold putE at hp
          cases hdst : o.dst with
          | none =>
            simp only [hdst] at hp
            have := fin e2 hp (fun t _ => h2 t) (by simp [hdst])
            rwa [hdst] at this
          | some d =>
            simp only [hdst] at hp
            cases hb : Nat.blt d X.n with
            | false => simp only [hb] at hp
            | true =>
              simp only [hb] at hp
              have := fin _ hp (fun t ht => by rw [get_put_ne (fun h => ht (by rw [hdst, h])), h2]) (fun d' hd' => by rw [hdst] at hd'; cases hd'; exact ⟨Nat.le_of_ble_eq_true hb, get_put⟩)
              rwa [hdst] at this
        cases hg : o.guard with
        | none =>
          simp only [hg] at hC
          rw [show Region.wanted o (yielded ops a.tmps) = true by simp [Region.wanted, hg], if_pos rfl]
          exact runs e (fun _ => rfl) hC
        | some jw =>
          obtain ⟨j, want⟩ := jw
          simp only [hg] at hC
          cases hd : (ops.toList[j]?).bind (·.dst) with
          | none => simp only [hd] at hC
          | some d =>
            simp only [hd] at hC
            have hd' : (ops[j]?).bind (·.dst) = some d := by simpa using hd
            have hgd := hlook d (looks_guard hg hd)
            split at hC
            · rename_i b hb
              have hy := yielded_of hd' (by rw [hgd]; exact hb) hmask
              cases b with
              | true =>
                simp only [branch] at hC
                cases want with
                | true =>
                  rw [show Region.wanted o (yielded ops a.tmps) = true by simp [Region.wanted, hg, hy], if_pos rfl]
                  exact runs _ (get_same hb) hC
                | false =>
                  rw [show Region.wanted o (yielded ops a.tmps) = false by simp [Region.wanted, hg, hy], if_neg (by simp)]
                  exact skips _ (get_same hb) hC
              | false =>
                simp only [branch] at hC
                cases want with
                | false =>
                  rw [show Region.wanted o (yielded ops a.tmps) = true by simp [Region.wanted, hg, hy], if_pos rfl]
                  exact runs _ (get_same hb) hC
                | true =>
                  rw [show Region.wanted o (yielded ops a.tmps) = false by simp [Region.wanted, hg, hy], if_neg (by simp)]
                  exact skips _ (get_same hb) hC
            · rename_i hb
              have hy := yielded_undef hd' (by rw [hgd]; exact hb) hmask
              rw [show Region.wanted o (yielded ops a.tmps) = false by simp [Region.wanted, hg, hy], if_neg (by simp)]
              exact skips e (fun _ => rfl) hC
            · exact hC.elim

theorem adraw_sound {X : Ctx} (hX : CtxOk X) {ops : Array Oper} {K : Env → List O → Prop} {e : Env} {H : List O} (h : adraw X ops.toList K e H) {I : Imm} {ρ : List Pl} {w : World} {a : Act} (hst : St I ρ H w) (he : ERel I ρ e a.tmps) (hk : X.k ≤ ρ.length) (hs : a.tmps.size = X.n)
    {F : Fence} {n : Nat} (hF : Wide F) {Q : Exit → Act → World → Prop} {id : Nat}
    (hQ : ∀ I' ρ' e' H' w' (a' : Act), K e' H' → St I' ρ' H' w' → ERel I' ρ' e' a'.tmps → a'.tmps.size = X.n → a'.defers = a.defers → Step X.k I ρ H w I' ρ' H' w' → Q .normal a' w') : (Code.region id ops true).wpIn F n X.P Q a w := by
  obtain ⟨L, hok, hbk, hgo⟩ := h
  have hL := drawOk_all hok
  refine wpIn_region_any hX.mixed ?_
  have hX' : CtxOk { X with stab := true } := ⟨hX.T, hX.fns, hX.mixed⟩
  have h0 : DInv { X with stab := true } ops K L I ρ H w a (pendB ops (Array.replicate ops.size false) L) (Array.replicate ops.size false) a { w with drawn := w.drawn + 1 } [] L [] e H I ρ := by
    refine ⟨rfl, rfl, hgo, by simp, fun i hi => ?_, fun i hi => by simp at hi, fun i o ho hl => ?_, fun i ran hi => by simp at hi, hst.heap rfl, fun t _ _ => he t, hs, rfl, ?_⟩
    · simp [Array.getElem?_replicate]
      split <;> simp
    · exfalso
      simp [Array.getElem?_replicate] at hl
      split at hl <;> simp at hl
    · exact ⟨ILe.refl _, fun _ _ => rfl, rfl, rfl, rfl, Nat.le_refl _, fun _ _ _ => rfl, fun _ h => .inl h, fun _ _ _ h => .inl h⟩
  have hno : ∀ i, (Array.replicate ops.size false).getD i false = false := fun i => by
    simp [Array.getElem?_replicate]
    split <;> simp
  have hb0 : Bank { X with stab := true } ops (Array.replicate ops.size false) (Array.replicate ops.size false) a w { w with drawn := w.drawn + 1 } I ρ H [] L := by
    refine ⟨by simp, fun i hi => rfl, fun i o ho hl => ?_, fun i hi hl => ?_, fun i hi j hj hl => ?_⟩ <;> (rw [hno] at hl; cases hl)
  obtain ⟨lv2, pre2, post2, recs2, e2, H2, ρ2, k1, k2, k3⟩ := bank_in hX' hL L.length _ _ _ _ _ _ _ (Nat.le_refl _) hk h0 hb0
  refine draw_main hX' rfl hL hbk hk hF hQ ops.size _ lv2 a _ pre2 post2 recs2 e2 H2 I ρ2 k1 k2 k3 ?_
  exact Nat.le_trans (List.length_filter_le _ _) hL.len

end Go.Proofs.YtcgpgpbnpjbhhaaPg
