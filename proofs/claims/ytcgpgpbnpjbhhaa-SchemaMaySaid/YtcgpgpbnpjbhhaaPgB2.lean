/- Appending. -/
import Derived.Test.YtcgpgpbnpjbhhaaPgB1
namespace Go.Proofs.YtcgpgpbnpjbhhaaPg
open Go Go.RowKit
variable [Globs]
set_option linter.unusedVariables false
set_option linter.unusedSimpArgs false

variable {P : Program} {T : Nat → TI} {I : Imm} {ρ : List Pl} {H : List O} {w : World} {e : Env}

/-! ### rows of elements -/
def AllLen (sz : Nat) (es : List (List V)) : Prop := ∀ x ∈ es, x.length = sz

theorem flat_len {sz : Nat} : ∀ {es : List (List V)}, AllLen sz es → es.flatten.length = es.length * sz
  | [], _ => by simp
  | x :: es, h => by
    have ih := flat_len (es := es) fun y hy => h y (by simp [hy])
    rw [List.flatten_cons, List.length_append, ih, h x (by simp), List.length_cons, Nat.add_mul]; omega

theorem flat_get {sz : Nat} : ∀ {es : List (List V)}, AllLen sz es → ∀ {i j : Nat} {x : List V} {v : V}, es[i]? = some x → x[j]? = some v → es.flatten[i * sz + j]? = some v
  | [], _, i, j, x, v, hx, _ => by simp at hx
  | y :: es, h, 0, j, x, v, hx, hv => by
    simp at hx; subst hx
    have hlt := (List.getElem?_eq_some_iff.1 hv).1
    rw [List.flatten_cons, List.getElem?_append_left (by omega)]
    simpa using hv
  | y :: es, h, i + 1, j, x, v, hx, hv => by
    simp at hx
    have hy := h y (by simp)
    have ih := flat_get (es := es) (fun z hz => h z (by simp [hz])) hx hv
    rw [List.flatten_cons, List.getElem?_append_right (by rw [hy, Nat.add_mul]; omega), hy, show (i + 1) * sz + j - sz = i * sz + j by rw [Nat.add_mul]; omega]
    exact ih

theorem AllLen.append {sz : Nat} {a b : List (List V)} (h : AllLen sz a) (g : AllLen sz b) : AllLen sz (a ++ b) := fun x hx => by
  rcases List.mem_append.1 hx with h1 | h1
  · exact h x h1
  · exact g x h1
theorem AllLen.sub {sz : Nat} {a b : List (List V)} (h : AllLen sz a) (hs : ∀ x ∈ b, x ∈ a) : AllLen sz b := fun x hx => h x (hs x hx)
theorem AllLen.drop {sz : Nat} {a : List (List V)} (h : AllLen sz a) (n : Nat) : AllLen sz (a.drop n) := h.sub fun _ hx => List.mem_of_mem_drop hx
theorem AllLen.take {sz : Nat} {a : List (List V)} (h : AllLen sz a) (n : Nat) : AllLen sz (a.take n) := h.sub fun _ hx => List.mem_of_mem_take hx

/-- A new block whose first cells are these elements. -/
theorem new_buf (hst : St I ρ H w) (k : Nat) (hk : k ≤ ρ.length) {es : List (List V)} {sz tot : Nat} {us : Array Value} (hes : AllLen sz es) (h : VRels I [] es.flatten (us.toList.take (es.length * sz))) (h1 : ∀ (i : Nat) (u : Value), i < es.length * sz → us[i]? = some u → u.oneCell' = true) (hsz : es.length ≤ tot) (htot : us.size = tot * sz) (t : TypeId) (w1 : World)
    (hh : w1.heap = w.heap) (hos : w1.os = w.os) (htape : w1.tape = w.tape) (hout : w1.output = w.output) :
    St I (ρ ++ [⟨w.heap.size, 0, sz, tot⟩]) (H ++ [.buf es]) { w1 with heap := w.heap.push (.cells us t) } ∧ Step k I ρ H w I (ρ ++ [⟨w.heap.size, 0, sz, tot⟩]) (H ++ [.buf es]) { w1 with heap := w.heap.push (.cells us t) } := by
  have hb : ({ w1 with heap := w.heap.push (.cells us t) } : World).heap[w.heap.size]? = some (.cells us t (0, 0)) := by simp
  refine hst.push k hk (.cells us t) ⟨w.heap.size, 0, sz, tot⟩ (.buf es) rfl _ rfl hos htape hout (.inr ⟨hsz, ⟨us, t, (0, 0), hb, by simp [htot], fun o _ _ => by simp [World.frozen?]⟩, fun i x hx => ⟨hes x (List.mem_of_getElem? hx), fun j v hv => ?_⟩⟩)
  have hf := flat_get hes hx hv
  have hlt := (List.getElem?_eq_some_iff.1 hf).1
  have hlt2 : i * sz + j < (us.toList.take (es.length * sz)).length := by rw [← h.1]; exact hlt
  have hlt3 : i * sz + j < us.size := by simp at hlt2; omega
  refine ⟨us[i * sz + j], by simp [World.cell?, hlt3], h1 (i * sz + j) us[i * sz + j] (by simp at hlt2; omega) (by simp [hlt3]), h.2 _ v _ hf ?_⟩
  rw [List.getElem?_take_of_lt (by simp at hlt2; omega)]
  simp [hlt3]

/-- An empty row that has no block yet. -/
theorem adopt (hst : St I ρ H w) (k : Nat) (hk : k ≤ ρ.length) (sz : Nat) : St I (ρ ++ [⟨0, 0, sz, 0⟩]) (H ++ [.buf []]) w ∧ Step k I ρ H w I (ρ ++ [⟨0, 0, sz, 0⟩]) (H ++ [.buf []]) w := by
  have e1 : (ρ ++ [(⟨0, 0, sz, 0⟩ : Pl)])[H.length]? = some ⟨0, 0, sz, 0⟩ := by rw [← hst.len]; simp
  have e2 : (H ++ [O.buf []])[H.length]? = some (.buf []) := by simp
  have e3 : ∀ (i : Nat) (x : O), i ≠ H.length → (H ++ [O.buf []])[i]? = some x → x = .dead ∨ H[i]? = some x := by
    intro i x hi hx
    have hlt := (List.getElem?_eq_some_iff.1 hx).1
    simp at hlt
    rw [List.getElem?_append_left (by omega)] at hx
    exact .inr hx
  have e4 : ∀ (i : Nat) (q : Pl), i ≠ H.length → (ρ ++ [(⟨0, 0, sz, 0⟩ : Pl)])[i]? = some q → ρ[i]? = some q := by
    intro i q hi hq
    have hlt := (List.getElem?_eq_some_iff.1 hq).1
    simp [hst.len] at hlt
    rw [List.getElem?_append_left (by rw [hst.len]; omega)] at hq
    exact hq
  have nh : ¬ (O.buf []).has (⟨0, 0, sz, 0⟩ : Pl) := fun h => h rfl
  exact ⟨hst.one H.length ⟨0, 0, sz, 0⟩ (.buf []) (by simp [hst.len]) (PLe.append _ _) e1 e2 e3 e4 (fun _ _ _ => rfl) (fun _ => rfl) (fun h => absurd h nh) (fun h => absurd h nh) (.inl ⟨rfl, rfl⟩),
    Step.one H.length ⟨0, 0, sz, 0⟩ (.buf []) k hk (PLe.append _ _) e1 e2 e3 e4 (fun _ _ _ => rfl) (fun _ => rfl) (fun h => absurd h nh) rfl rfl rfl (Nat.le_refl _)⟩

/-- An object is let go. -/
theorem St.drop1 (hst : St I ρ H w) (id : Nat) : St I ρ (H.set id .dead) w ∧ ∀ k, Step k I ρ H w I ρ (H.set id .dead) w := by
  have sub : ∀ (i : Nat) (o : O) (p : Pl), (H.set id .dead)[i]? = some o → ∀ b, o.owns p b → H[i]? = some o := by
    intro i o p ho b hh
    by_cases hi : i = id
    · subst hi
      have hlt := (List.getElem?_eq_some_iff.1 ho).1
      simp at hlt
      rw [List.getElem?_set_self hlt] at ho
      cases ho; exact hh.1.elim
    · rwa [List.getElem?_set_ne (by omega)] at ho
  refine ⟨⟨by simp [hst.len], fun i p o hp ho => ?_, fun i j p q o r b hp ho hh hq hr hh' => hst.inj i j p q o r b hp (sub i o p ho b hh) hh hq (sub j r q hr b hh') hh', hst.imm, fun b ⟨i, p, o, hp, ho, hh⟩ => hst.sep b ⟨i, p, o, hp, sub i o p ho b hh, hh⟩⟩, fun k => ⟨ILe.refl _, fun _ _ => rfl, rfl, rfl, rfl, Nat.le_refl _, fun _ _ _ => rfl, fun b ⟨i, p, o, hp, ho, hh⟩ => .inl ⟨i, p, o, hp, sub i o p ho b hh, hh⟩, fun _ _ _ h => .inl h⟩⟩
  by_cases hi : i = id
  · subst hi
    have hlt := (List.getElem?_eq_some_iff.1 ho).1
    simp at hlt
    rw [List.getElem?_set_self hlt] at ho
    cases ho; exact trivial
  · rw [List.getElem?_set_ne (by omega)] at ho
    exact hst.obj i p o hp ho

theorem set_len_dead (H : List O) (id : Nat) : (setO H id .dead) = H.set id .dead := setO_eq _ _ _

/-! ### the run of append -/
theorem nextslicecap_le (need old : Nat) (h : old < need) : Builtin.nextslicecap need old ≤ 2 * need + 768 := by
  unfold Builtin.nextslicecap
  split
  · omega
  · split
    · omega
    · have key : ∀ n c, c < need + need / 2 + 400 → Builtin.growBy need n c ≤ 2 * need + 768 := by
        intro n
        induction n with
        | zero => intro c hc; unfold Builtin.growBy; omega
        | succ n ih =>
          intro c hc
          unfold Builtin.growBy
          split
          · omega
          · exact ih _ (by omega)
      exact key 4 old (by omega)

theorem run_firstCells_add {x : Value} {n sz : Nat} {news : List Value} (h : ∀ w', w'.heap = w.heap → (Builtin.firstCells sz n x).run P w' = .ok news.toArray w') : True := trivial

structure Src (P : Program) (w : World) (x : Value) (sz n : Nat) (news : List Value) : Prop where
  len : ∀ w', (Builtin.lenOf x).run P w' = .ok n w'
  cells : ∀ w', w'.heap = w.heap → (Builtin.firstCells sz n x).run P w' = .ok news.toArray w'

theorem run_append_room' {t t2 ty q : TypeId} {i : TypeInfo} (ht : P.underlying t = some (.slice q)) {d2 : TypeDesc} (ht2 : P.underlying t2 = some d2) (hd2 : d2 = .string ∨ ∃ q2, d2 = .slice q2) (hi : P.info? q = some i) {b o sLen sCap n : Nat} {x : Value} {news : List Value}
    (hs : Src P w x i.size n news) (hroom : sLen + n ≤ sCap) (hc : ∀ j, j < news.length → (w.cell? ⟨b, o + sLen * i.size + j, none⟩).isSome = true) (hf : ∀ j, j < news.length → w.frozen? ⟨b, o + sLen * i.size + j, none⟩ = false) (h1 : ∀ v ∈ news, v.oneCell' = true) :
    (Builtin.append_ #[t, t2] ty #[.slice (some ⟨b, o, none⟩) sLen sCap, x]).run P w = .ok (.slice (some ⟨b, o, none⟩) (sLen + n) sCap) (w.setCells b (o + sLen * i.size) news) := by
  have hst := run_storeCells_cells (P := P) b (o + sLen * i.size) news 0 w (by simpa using hc) (by simpa using hf) h1
  simp only [Nat.add_zero] at hst
  rcases hd2 with rfl | ⟨q2, rfl⟩ <;> simp [Builtin.append_, run_underlying' ht, run_underlying' ht2, sizeOf, typeInfo, hi, hs.len, hs.cells w rfl, hroom, addr_add, hst]

theorem run_append_none {t t2 ty q : TypeId} {i : TypeInfo} (ht : P.underlying t = some (.slice q)) {d2 : TypeDesc} (ht2 : P.underlying t2 = some d2) (hd2 : d2 = .string ∨ ∃ q2, d2 = .slice q2) (hi : P.info? q = some i) {A : Option Addr} {sLen sCap : Nat} {x : Value}
    (hs : Src P w x i.size 0 []) (hroom : sLen ≤ sCap) : (Builtin.append_ #[t, t2] ty #[.slice A sLen sCap, x]).run P w = .ok (.slice A sLen sCap) w := by
  have h0 : Sem.run P (Builtin.firstCells i.size 0 x) w = .ok #[] w := hs.cells w rfl
  cases A <;> rcases hd2 with rfl | ⟨q2, rfl⟩ <;> simp [Builtin.append_, run_underlying' ht, run_underlying' ht2, sizeOf, typeInfo, hi, hs.len, h0, hroom, storeCells]

theorem run_append_grow' {t t2 ty q : TypeId} {i : TypeInfo} {z : Value} (ht : P.underlying t = some (.slice q)) {d2 : TypeDesc} (ht2 : P.underlying t2 = some d2) (hd2 : d2 = .string ∨ ∃ q2, d2 = .slice q2) (hi : P.info? q = some i) (hz : i.zero = some z)
    {A : Option Addr} {sLen sCap n : Nat} {x : Value} {news olds : List Value} (hs : Src P w x i.size n news) (ho : ∀ w', w'.heap = w.heap → (Builtin.firstCells i.size sLen (.slice A sLen sCap)).run P w' = .ok olds.toArray w') (hg : sCap < sLen + n)
    (hb0 : 0 < i.bytes) (hfit : Builtin.nextslicecap (sLen + n) sCap * i.bytes ≤ 281474976710656) :
    (Builtin.append_ #[t, t2] ty #[.slice A sLen sCap, x]).run P w = .ok (.slice (some ⟨w.heap.size, 0, none⟩) (sLen + n) (grownCap w (sLen + n) sCap q))
      (w.drew.alloc (.cells ((olds ++ news).toArray ++ Builtin.zeroCells z.cells (grownCap w (sLen + n) sCap q - (sLen + n))) q)) := by
  have hn : ¬ (sLen + n ≤ sCap) := by omega
  have h48' : ¬ (281474976710656 < Builtin.nextslicecap (sLen + n) sCap * i.bytes) := by omega
  have hb : i.bytes ≠ 0 := by omega
  have e1 := hs.cells w.drew rfl
  have e2 := ho w.drew rfl
  rcases hd2 with rfl | ⟨q2, rfl⟩ <;>
    simp [Builtin.append_, run_underlying' ht, run_underlying' ht2, sizeOf, typeInfo, zeroValue, hi, hz, hs.len, hn, h48', hb, Question.forced, e1, e2, newRow, grownCap, ← Array.append_assoc]

end Go.Proofs.YtcgpgpbnpjbhhaaPg
