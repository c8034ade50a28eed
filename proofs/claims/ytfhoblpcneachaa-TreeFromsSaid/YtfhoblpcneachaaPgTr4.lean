/- Lists of keys in order, as the document has them. -/
import Derived.Test.YtfhoblpcneachaaPgTr3
namespace Go.Proofs.YtfhoblpcneachaaPg
open Go Go.RowKit

abbrev KV := List UInt8 × Int

def ints (l : List Int) : List (List V) := l.map fun n => [.int .i64 n]
theorem ints_len (l : List Int) : (ints l).length = l.length := by simp [ints]
theorem ints_app (a b : List Int) : ints (a ++ b) = ints a ++ ints b := by simp [ints]
theorem ints_get {l : List Int} {i : Nat} {n : Int} (h : l[i]? = some n) : (ints l)[i]? = some [.int .i64 n] := by simp [ints, h]

abbrev kL (l : List KV) : List (List UInt8) := l.map (·.1)
abbrev vL (l : List KV) : List Int := l.map (·.2)

/-- The document's list, in memory. -/
def RO (l : List KV) : List O := [.cells [.sl 1 (strs (kL l)) false, .ms 1 1 0 (ints (vL l)).length false], .buf (ints (vL l))]

theorem split_at (key : List UInt8) : ∀ l : List KV, ∃ a b, l = a ++ b ∧ (∀ x ∈ a, Op.bytesLess x.1 key = true) ∧ (∀ x r, b = x :: r → Op.bytesLess x.1 key = false)
  | [] => ⟨[], [], rfl, by simp, by simp⟩
  | x :: l => by
    cases h : Op.bytesLess x.1 key with
    | false => exact ⟨[], x :: l, rfl, by simp, fun y r e => by cases e; exact h⟩
    | true =>
      obtain ⟨a, b, rfl, h1, h2⟩ := split_at key l
      exact ⟨x :: a, b, rfl, fun y hy => by rcases List.mem_cons.1 hy with rfl | hy; exact h; exact h1 y hy, h2⟩

/-- does it begin with the key? -/
def hasH (key : List UInt8) : List KV → Bool
  | [] => false
  | x :: _ => decide (x.1 = key)

theorem ins_split {key : List UInt8} {v : Int} {b : List KV} : ∀ {a : List KV}, (∀ x ∈ a, Op.bytesLess x.1 key = true) → (∀ x r, b = x :: r → Op.bytesLess x.1 key = false) → insL key v (a ++ b) = a ++ (key, v) :: (if hasH key b then b.tail else b)
  | [], _, hb => by
    cases b with
    | nil => simp [insL, hasH]
    | cons x r =>
      obtain ⟨k, w⟩ := x
      have h1 := hb (k, w) r rfl
      simp only [List.nil_append, insL, hasH]
      by_cases e : k = key
      · subst e; simp [less_irrefl]
      · have h2 : Op.bytesLess key k = true := by
          cases h : Op.bytesLess key k with
          | true => rfl
          | false => exact absurd (less_total h1 h) e
        simp [h2, e]
  | (k, w) :: a, ha, hb => by
    have h1 := ha (k, w) (by simp)
    simp only at h1
    simp only [List.cons_append, insL]
    rw [if_neg (by rw [less_asymm h1]; simp), if_pos h1, ins_split (fun x hx => ha x (by simp [hx])) hb]

theorem hasL_split {key : List UInt8} {a b : List KV} (hs : SortedL (a ++ b)) (ha : ∀ x ∈ a, Op.bytesLess x.1 key = true) (hb : ∀ x r, b = x :: r → Op.bytesLess x.1 key = false) : hasL key (a ++ b) = hasH key b := by
  rw [hasL_app, hasL_none (l := a) fun x hx => less_ne (ha x hx), Bool.false_or]
  cases b with
  | nil => rfl
  | cons x r =>
    obtain ⟨k, w⟩ := x
    have h1 := hb (k, w) r rfl
    simp only at h1
    unfold SortedL at hs
    rw [List.pairwise_append, List.pairwise_cons] at hs
    have h2 := hs.2.1.1
    by_cases e : k = key
    · simp [hasL, hasH, e]
    · have h3 : Op.bytesLess key k = true := by
        cases h : Op.bytesLess key k with
        | true => rfl
        | false => exact absurd (less_total h1 h) e
      have : hasL key r = false := hasL_none fun x hx e' => by
        have := less_trans h3 (h2 x hx)
        rw [e', less_irrefl] at this; cases this
      have h4 : hasL key ((k, w) :: r) = (decide (k = key) || hasL key r) := by simp [hasL]
      rw [h4, this]; simp [hasH]

theorem del_split {key : List UInt8} {a b : List KV} (hs : SortedL (a ++ b)) (ha : ∀ x ∈ a, Op.bytesLess x.1 key = true) (hb : ∀ x r, b = x :: r → Op.bytesLess x.1 key = false) : delL key (a ++ b) = if hasH key b then a ++ b.tail else a ++ b := by
  cases h : hasH key b with
  | true =>
    cases b with
    | nil => simp [hasH] at h
    | cons x r =>
      obtain ⟨k, w⟩ := x
      have e : k = key := by simpa [hasH] using h
      subst e
      rw [if_pos rfl]
      exact del_mid hs
  | false =>
    rw [← hasL_split hs ha hb] at h
    simp only [Bool.false_eq_true, if_false]
    refine delL_none fun x hx e => ?_
    have : hasL key (a ++ b) = true := by simp only [hasL, List.any_eq_true]; exact ⟨x, hx, by simp [e]⟩
    rw [this] at h; cases h

/-! ### the keys behind one -/
def behindR (after : List UInt8) (k : List UInt8) : Bool := decide (after = []) || Op.bytesLess after k

theorem keys_behind {t : Tr Int} (h : SortedL (inL t)) (after : List UInt8) (most : Int) : keysT after most t = ((kL (inL t)).filter (behindR after)).take most.toNat := by
  unfold keysT
  rw [from_filter after t h]
  congr 1
  rw [show ((inL t).filter fun x => leS after x.1).map (·.1) = (kL (inL t)).filter (leS after) by rw [List.filter_map]; rfl, List.filter_filter]
  congr 1
  funext k
  unfold behindB leS behindR
  by_cases e : after = []
  · subst e
    cases k <;> simp [Op.bytesLess]
  · by_cases ek : k = after
    · subst ek; simp [e, less_irrefl]
    · have : after ≠ k := fun h => ek h.symm
      simp [e, ek, this]

theorem sorted_unique {l : List KV} (hs : SortedL l) {k : List UInt8} {v w : Int} (h1 : (k, v) ∈ l) (h2 : (k, w) ∈ l) : v = w := by
  induction l with
  | nil => simp at h1
  | cons x l ih =>
    unfold SortedL at hs
    rw [List.pairwise_cons] at hs
    rcases List.mem_cons.1 h1 with e1 | h1 <;> rcases List.mem_cons.1 h2 with e2 | h2
    · rw [← e1] at e2; cases e2; rfl
    · have := hs.1 _ h2
      rw [← e1] at this
      simp only [less_irrefl] at this; cases this
    · have := hs.1 _ h1
      rw [← e2] at this
      simp only [less_irrefl] at this; cases this
    · exact ih hs.2 h1 h2

/-! ### how high -/
variable {α : Type}

def Bal : Tr α → Prop
  | .nil => True
  | .node _ _ a b => Bal a ∧ Bal b ∧ a.ht ≤ b.ht + 1 ∧ b.ht ≤ a.ht + 1

theorem even_bal {k : List UInt8} {v : α} {a b : Tr α} (ha : Bal a) (hb : Bal b) (h1 : a.ht ≤ b.ht + 2) (h2 : b.ht ≤ a.ht + 2) : Bal (evenT k v a b) ∧ max a.ht b.ht ≤ (evenT k v a b).ht := by
  unfold evenT
  split
  · cases a with
    | nil => simp only [Tr.ht] at *; omega
    | node ak av aa ab =>
      obtain ⟨g1, g2, g3, g4⟩ := ha
      simp only
      split
      · simp only [Bal, Tr.ht] at *; refine ⟨⟨g1, ⟨g2, hb, ?_⟩, ?_⟩, ?_⟩ <;> omega
      · cases ab with
        | nil => simp only [Tr.ht] at *; omega
        | node mk mv ma mb =>
          obtain ⟨e1, e2, e3, e4⟩ := g2
          simp only [Bal, Tr.ht] at *; refine ⟨⟨⟨g1, e1, ?_⟩, ⟨e2, hb, ?_⟩, ?_⟩, ?_⟩ <;> omega
  · split
    · cases b with
      | nil => simp only [Tr.ht] at *; omega
      | node bk bv ba bb =>
        obtain ⟨g1, g2, g3, g4⟩ := hb
        simp only
        split
        · simp only [Bal, Tr.ht] at *; refine ⟨⟨⟨ha, g1, ?_⟩, g2, ?_⟩, ?_⟩ <;> omega
        · cases ba with
          | nil => simp only [Tr.ht] at *; omega
          | node mk mv ma mb =>
            obtain ⟨e1, e2, e3, e4⟩ := g1
            simp only [Bal, Tr.ht] at *; refine ⟨⟨⟨ha, e1, ?_⟩, ⟨e2, g2, ?_⟩, ?_⟩, ?_⟩ <;> omega
    · simp only [Bal, Tr.ht] at *; refine ⟨⟨ha, hb, ?_⟩, ?_⟩ <;> omega

theorem even_same {k : List UInt8} {v : α} {a b : Tr α} (h1 : a.ht ≤ b.ht + 1) (h2 : b.ht ≤ a.ht + 1) : (evenT k v a b).ht = 1 + max a.ht b.ht := by
  unfold evenT
  rw [if_neg (by omega), if_neg (by omega)]; rfl

theorem put_bal (key : List UInt8) (w : α) : ∀ t : Tr α, Bal t → Bal (putT key w t) ∧ t.ht ≤ (putT key w t).ht
  | .nil, _ => by simp [putT, Bal, Tr.ht]
  | .node k v a b, h => by
    obtain ⟨g1, g2, g3, g4⟩ := h
    have h1 := put_bal key w a g1
    have h2 := put_bal key w b g2
    have h3 := ht_put key w a
    have h4 := ht_put key w b
    simp only [putT]
    split
    · have := even_bal (k := k) (v := v) h1.1 g2 (by omega) (by omega)
      refine ⟨this.1, ?_⟩
      by_cases hx : (putT key w a).ht ≤ b.ht + 1 ∧ b.ht ≤ (putT key w a).ht + 1
      · rw [even_same hx.1 hx.2]; simp only [Tr.ht]; omega
      · simp only [Tr.ht]; omega
    · split
      · have := even_bal (k := k) (v := v) g1 h2.1 (by omega) (by omega)
        refine ⟨this.1, ?_⟩
        by_cases hx : a.ht ≤ (putT key w b).ht + 1 ∧ (putT key w b).ht ≤ a.ht + 1
        · rw [even_same hx.1 hx.2]; simp only [Tr.ht]; omega
        · simp only [Tr.ht]; omega
      · exact ⟨⟨g1, g2, g3, g4⟩, Nat.le_refl _⟩

theorem cut_bal : ∀ (t : Tr α) (key : List UInt8), Bal t → Bal (cutT key t) ∧ t.ht ≤ (cutT key t).ht + 1
  | .nil, _, _ => by simp [cutT, Bal, Tr.ht]
  | .node k v a b, key, h => by
    obtain ⟨g1, g2, g3, g4⟩ := h
    have h1 := cut_bal a key g1
    have h2 := fun key => cut_bal b key g2
    have h3 := ht_cut a key
    have h4 := fun key => ht_cut b key
    unfold cutT
    split
    · have := even_bal (k := k) (v := v) h1.1 g2 (by omega) (by omega)
      refine ⟨this.1, ?_⟩
      by_cases hx : (cutT key a).ht ≤ b.ht + 1 ∧ b.ht ≤ (cutT key a).ht + 1
      · rw [even_same hx.1 hx.2]; simp only [Tr.ht]; omega
      · simp only [Tr.ht]; omega
    · split
      · have h2 := h2 key
        have h4 := h4 key
        have := even_bal (k := k) (v := v) g1 h2.1 (by omega) (by omega)
        refine ⟨this.1, ?_⟩
        by_cases hx : a.ht ≤ (cutT key b).ht + 1 ∧ (cutT key b).ht ≤ a.ht + 1
        · rw [even_same hx.1 hx.2]; simp only [Tr.ht]; omega
        · simp only [Tr.ht]; omega
      · split
        · refine ⟨g2, ?_⟩; simp only [Tr.ht] at *; omega
        · refine ⟨g1, ?_⟩; simp only [Tr.ht] at *; omega
        · rename_i bk bv ba bb _
          have h2 := h2 (firstT (bk, bv) ba).1
          have h4 := h4 (firstT (bk, bv) ba).1
          have := even_bal (k := (firstT (bk, bv) ba).1) (v := (firstT (bk, bv) ba).2) g1 h2.1 (by omega) (by omega)
          refine ⟨this.1, ?_⟩
          by_cases hx : a.ht ≤ (cutT (firstT (bk, bv) ba).1 (.node bk bv ba bb)).ht + 1 ∧ (cutT (firstT (bk, bv) ba).1 (.node bk bv ba bb)).ht ≤ a.ht + 1
          · rw [even_same hx.1 hx.2]; simp only [Tr.ht] at *; omega
          · simp only [Tr.ht] at *; omega

theorem bal_size : ∀ t : Tr α, Bal t → 2 ^ (t.ht / 2) ≤ (inL t).length + 1
  | .nil, _ => by simp [Tr.ht, inL]
  | .node k v a b, h => by
    obtain ⟨g1, g2, g3, g4⟩ := h
    have h1 := bal_size a g1
    have h2 := bal_size b g2
    simp only [Tr.ht, inL, List.length_append, List.length_cons]
    by_cases hm : max a.ht b.ht = 0
    · have : (1 + max a.ht b.ht) / 2 = 0 := by omega
      rw [this]; simp
    · have e : (1 + max a.ht b.ht) / 2 = (max a.ht b.ht - 1) / 2 + 1 := by omega
      rw [e, Nat.pow_succ]
      have e1 : 2 ^ ((max a.ht b.ht - 1) / 2) ≤ 2 ^ (a.ht / 2) := Nat.pow_le_pow_right (by omega) (by omega)
      have e2 : 2 ^ ((max a.ht b.ht - 1) / 2) ≤ 2 ^ (b.ht / 2) := Nat.pow_le_pow_right (by omega) (by omega)
      omega

end Go.Proofs.YtfhoblpcneachaaPg
