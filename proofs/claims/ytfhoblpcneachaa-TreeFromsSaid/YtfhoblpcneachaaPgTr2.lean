/- Trees of keys: what they hold, as a list in order. -/
import Derived.Test.YtfhoblpcneachaaPgTr1
namespace Go.Proofs.YtfhoblpcneachaaPg
open Go Go.RowKit

variable {α : Type}

def inL : Tr α → List (List UInt8 × α)
  | .nil => []
  | .node k v a b => inL a ++ (k, v) :: inL b

def SortedL (l : List (List UInt8 × α)) : Prop := l.Pairwise fun x y => Op.bytesLess x.1 y.1 = true

theorem inL_even (k : List UInt8) (v : α) (a b : Tr α) : inL (evenT k v a b) = inL a ++ (k, v) :: inL b := by
  unfold evenT
  repeat' split
  all_goals simp [inL]

def insL (key : List UInt8) (w : α) : List (List UInt8 × α) → List (List UInt8 × α)
  | [] => [(key, w)]
  | (k, v) :: l => if Op.bytesLess key k then (key, w) :: (k, v) :: l else if Op.bytesLess k key then (k, v) :: insL key w l else (key, w) :: l

theorem ins_left {key : List UInt8} {w : α} {k : List UInt8} {v : α} {l2 : List (List UInt8 × α)} (h : Op.bytesLess key k = true) : ∀ l1, insL key w (l1 ++ (k, v) :: l2) = insL key w l1 ++ (k, v) :: l2
  | [] => by simp [insL, h]
  | (x, y) :: l1 => by
    simp only [List.cons_append, insL]
    split
    · simp
    · split
      · rw [ins_left h l1]; simp
      · simp

theorem ins_right {key : List UInt8} {w : α} {k : List UInt8} {v : α} {l2 : List (List UInt8 × α)} (h : Op.bytesLess k key = true) : ∀ l1, (∀ x ∈ l1, Op.bytesLess x.1 k = true) → insL key w (l1 ++ (k, v) :: l2) = l1 ++ (k, v) :: insL key w l2
  | [], _ => by simp [insL, h, less_asymm h]
  | (x, y) :: l1, hl => by
    have h1 := less_trans (hl (x, y) (by simp)) h
    simp only [List.cons_append, insL]
    rw [if_neg (by rw [less_asymm h1]; simp), if_pos h1, ins_right h l1 (fun z hz => hl z (by simp [hz]))]

theorem ins_here {key : List UInt8} {w v : α} {l2 : List (List UInt8 × α)} : ∀ l1, (∀ x ∈ l1, Op.bytesLess x.1 key = true) → insL key w (l1 ++ (key, v) :: l2) = l1 ++ (key, w) :: l2
  | [], _ => by simp [insL, less_irrefl]
  | (x, y) :: l1, hl => by
    have h1 := hl (x, y) (by simp)
    simp only at h1
    simp only [List.cons_append, insL]
    rw [if_neg (by rw [less_asymm h1]; simp), if_pos h1, ins_here l1 (fun z hz => hl z (by simp [hz]))]

theorem sorted_mid {l1 l2 : List (List UInt8 × α)} {k : List UInt8} {v : α} (h : SortedL (l1 ++ (k, v) :: l2)) : SortedL l1 ∧ SortedL l2 ∧ (∀ x ∈ l1, Op.bytesLess x.1 k = true) ∧ (∀ x ∈ l2, Op.bytesLess k x.1 = true) ∧ (∀ x ∈ l1, ∀ y ∈ l2, Op.bytesLess x.1 y.1 = true) := by
  unfold SortedL at *
  rw [List.pairwise_append, List.pairwise_cons] at h
  obtain ⟨h1, ⟨h2, h3⟩, h4⟩ := h
  exact ⟨h1, h3, fun x hx => h4 x hx (k, v) (by simp), fun x hx => h2 x hx, fun x hx y hy => h4 x hx y (by simp [hy])⟩

theorem inL_put (key : List UInt8) (w : α) : ∀ t : Tr α, SortedL (inL t) → inL (putT key w t) = insL key w (inL t)
  | .nil, _ => rfl
  | .node k v a b, h => by
    obtain ⟨h1, h2, h3, h4, h5⟩ := sorted_mid h
    simp only [putT]
    split
    · rename_i c
      rw [inL_even, inL_put key w a h1]
      exact (ins_left c _).symm
    · split
      · rename_i c
        rw [inL_even, inL_put key w b h2]
        exact (ins_right c _ h3).symm
      · rename_i c1 c2
        have e : key = k := less_total (by simpa using c1) (by simpa using c2)
        subst e
        exact (ins_here _ h3).symm

theorem ins_mem {key : List UInt8} {w : α} {x : List UInt8 × α} : ∀ {l : List (List UInt8 × α)}, x ∈ insL key w l → x = (key, w) ∨ x ∈ l
  | [], h => by simp [insL] at h; exact .inl h
  | (k, v) :: l, h => by
    simp only [insL] at h
    split at h
    · simp at h; simp; exact h
    · split at h
      · simp at h
        rcases h with h | h
        · simp [h]
        · rcases ins_mem h with h | h
          · exact .inl h
          · simp [h]
      · simp at h
        rcases h with h | h
        · exact .inl h
        · simp [h]

theorem ins_sorted {key : List UInt8} {w : α} : ∀ {l : List (List UInt8 × α)}, SortedL l → SortedL (insL key w l)
  | [], _ => by simp [insL, SortedL]
  | (k, v) :: l, h => by
    have h' := h
    unfold SortedL at h' ⊢
    rw [List.pairwise_cons] at h'
    simp only [insL]
    split
    · rename_i c
      rw [List.pairwise_cons]
      refine ⟨fun x hx => ?_, h⟩
      rcases List.mem_cons.1 hx with rfl | hx
      · exact c
      · exact less_trans c (h'.1 x hx)
    · split
      · rename_i c
        rw [List.pairwise_cons]
        refine ⟨fun x hx => ?_, ins_sorted h'.2⟩
        rcases ins_mem hx with rfl | hx
        · exact c
        · exact h'.1 x hx
      · rename_i c1 c2
        have e : key = k := less_total (by simpa using c1) (by simpa using c2)
        subst e
        rw [List.pairwise_cons]
        exact ⟨fun x hx => h'.1 x hx, h'.2⟩

/-! ### what is found -/
def hasL (key : List UInt8) (l : List (List UInt8 × α)) : Bool := l.any fun x => decide (x.1 = key)

theorem hasL_app (key : List UInt8) (a b : List (List UInt8 × α)) : hasL key (a ++ b) = (hasL key a || hasL key b) := by simp [hasL]
theorem hasL_none {key : List UInt8} {l : List (List UInt8 × α)} (h : ∀ x ∈ l, x.1 ≠ key) : hasL key l = false := by
  simp [hasL]; exact fun a b hx => h (a, b) hx

theorem find_has (key : List UInt8) : ∀ t : Tr α, SortedL (inL t) → (findT key t).isNil = !hasL key (inL t)
  | .nil, _ => rfl
  | .node k v a b, h => by
    obtain ⟨h1, h2, h3, h4, h5⟩ := sorted_mid h
    simp only [findT, inL, hasL_app]
    split
    · rename_i e
      subst e
      simp [Tr.isNil, hasL]
    · rename_i hne
      have hk : hasL key ((k, v) :: inL b) = hasL key (inL b) := by simp [hasL, hne]
      rw [hk]
      split
      · rename_i c
        rw [find_has key a h1, hasL_none (l := inL b) fun x hx => ?_, Bool.or_false]
        intro e
        have := less_trans c (h4 x hx)
        rw [e, less_irrefl] at this; cases this
      · rename_i c
        have c' : Op.bytesLess key k = false := by simpa using c
        rw [find_has key b h2, hasL_none (l := inL a) fun x hx => ?_, Bool.false_or]
        intro e
        have := h3 x hx
        rw [e, c'] at this; cases this

theorem find_mem {key : List UInt8} : ∀ {t : Tr α} {k : List UInt8} {v : α} {a b : Tr α}, findT key t = .node k v a b → k = key ∧ (key, v) ∈ inL t
  | .nil, _, _, _, _, h => by simp [findT] at h
  | .node k' v' a' b', k, v, a, b, h => by
    simp only [findT] at h
    split at h
    · rename_i e
      injection h with e1 e2 e3 e4
      subst e1; subst e2; subst e
      exact ⟨rfl, by simp [inL]⟩
    · split at h
      · obtain ⟨g1, g2⟩ := find_mem h
        exact ⟨g1, by simp [inL, g2]⟩
      · obtain ⟨g1, g2⟩ := find_mem h
        exact ⟨g1, by simp [inL, g2]⟩

theorem ins_len {key : List UInt8} {w : α} : ∀ {l : List (List UInt8 × α)}, SortedL l → (insL key w l).length = if hasL key l then l.length else l.length + 1
  | [], _ => by simp [insL, hasL]
  | (k, v) :: l, h => by
    have h' := h
    unfold SortedL at h'
    rw [List.pairwise_cons] at h'
    simp only [insL]
    split
    · rename_i c
      rw [hasL_none]
      · simp
      · intro x hx e
        rcases List.mem_cons.1 hx with rfl | hx
        · simp only at e; rw [e, less_irrefl] at c; cases c
        · have := less_trans c (h'.1 x hx)
          rw [e, less_irrefl] at this; cases this
    · split
      · rename_i c
        have hne : k ≠ key := less_ne c
        have : hasL key ((k, v) :: l) = hasL key l := by simp [hasL, hne]
        rw [this, List.length_cons, ins_len h'.2]
        split <;> simp
      · rename_i c1 c2
        have e : key = k := less_total (by simpa using c1) (by simpa using c2)
        subst e
        have : hasL key ((key, v) :: l) = true := by simp [hasL]
        rw [this]; simp

/-! ### what is cut -/
def delL (key : List UInt8) (l : List (List UInt8 × α)) : List (List UInt8 × α) := l.filter fun x => !decide (x.1 = key)

theorem delL_none {key : List UInt8} {l : List (List UInt8 × α)} (h : ∀ x ∈ l, x.1 ≠ key) : delL key l = l := by
  unfold delL
  rw [List.filter_eq_self]
  intro x hx
  simp [h x hx]

theorem del_mid {key : List UInt8} {v : α} {l1 l2 : List (List UInt8 × α)} (h : SortedL (l1 ++ (key, v) :: l2)) : delL key (l1 ++ (key, v) :: l2) = l1 ++ l2 := by
  obtain ⟨_, _, h3, h4, _⟩ := sorted_mid h
  have e1 := delL_none (l := l1) (key := key) fun x hx => less_ne (h3 x hx)
  have e2 := delL_none (l := l2) (key := key) fun x hx => (less_ne (h4 x hx)).symm
  unfold delL at *
  rw [List.filter_append, List.filter_cons]
  simp [e1, e2]

theorem first_in (d : List UInt8 × α) : ∀ t : Tr α, ∃ r, inL t ++ [d] = firstT d t :: r
  | .nil => ⟨[], rfl⟩
  | .node k v a b => by
    obtain ⟨r, hr⟩ := first_in (k, v) a
    refine ⟨r ++ inL b ++ [d], ?_⟩
    simp only [inL, firstT]
    have : inL a ++ (k, v) :: inL b = (inL a ++ [(k, v)]) ++ inL b := by simp
    rw [this, hr]; simp

theorem first_node (k : List UInt8) (v : α) (a b : Tr α) : ∃ r, inL (.node k v a b) = firstT (k, v) a :: r := by
  obtain ⟨r, hr⟩ := first_in (k, v) a
  refine ⟨r ++ inL b, ?_⟩
  have : inL (.node k v a b) = (inL a ++ [(k, v)]) ++ inL b := by simp [inL]
  rw [this, hr]; simp

theorem inL_cut : ∀ (t : Tr α) (key : List UInt8), SortedL (inL t) → inL (cutT key t) = delL key (inL t)
  | .nil, _, _ => rfl
  | .node k v a b, key, h => by
    obtain ⟨h1, h2, h3, h4, h5⟩ := sorted_mid h
    have hb := fun key => inL_cut b key h2
    unfold cutT
    split
    · rename_i c
      rw [inL_even, inL_cut a key h1]
      have e2 := delL_none (l := inL b) (key := key) fun x hx e => by
        have := less_trans c (h4 x hx)
        rw [e, less_irrefl] at this; cases this
      have hne : k ≠ key := (less_ne c).symm
      simp only [inL]
      unfold delL at *
      rw [List.filter_append, List.filter_cons]
      simp [e2, hne]
    · rename_i c1
      split
      · rename_i c
        rw [inL_even, hb key]
        have e1 := delL_none (l := inL a) (key := key) fun x hx e => by
          have := less_trans (h3 x hx) c
          rw [e, less_irrefl] at this; cases this
        have hne : k ≠ key := less_ne c
        simp only [inL]
        unfold delL at *
        rw [List.filter_append, List.filter_cons]
        simp [e1, hne]
      · rename_i c2
        have e : key = k := less_total (by simpa using c1) (by simpa using c2)
        subst e
        have hd : delL key (inL (.node key v a b)) = inL a ++ inL b := del_mid h
        rw [hd]
        split
        · simp [inL]
        · simp [inL]
        · rename_i bk bv ba bb _
          rw [inL_even, hb]
          obtain ⟨r, hr⟩ := first_node bk bv ba bb
          rw [hr]
          rw [hr] at h2
          have := del_mid (l1 := []) (l2 := r) (key := (firstT (bk, bv) ba).1) (v := (firstT (bk, bv) ba).2) (by simpa using h2)
          simp only [List.nil_append] at this
          rw [show ((firstT (bk, bv) ba).1, (firstT (bk, bv) ba).2) = firstT (bk, bv) ba from rfl] at this
          rw [this]

theorem del_sorted {key : List UInt8} {l : List (List UInt8 × α)} (h : SortedL l) : SortedL (delL key l) := List.Pairwise.filter _ h

theorem del_len {key : List UInt8} : ∀ {l : List (List UInt8 × α)}, SortedL l → hasL key l = true → (delL key l).length + 1 = l.length
  | [], _, h => by simp [hasL] at h
  | (k, v) :: l, hs, h => by
    have h' := hs
    unfold SortedL at h'
    rw [List.pairwise_cons] at h'
    by_cases e : k = key
    · subst e
      have := del_mid (l1 := []) (l2 := l) (key := k) (v := v) (by simpa using hs)
      simp only [List.nil_append] at this
      rw [this]; simp
    · have h2 : hasL key l = true := by simpa [hasL, e] using h
      have := del_len h'.2 h2
      unfold delL at *
      rw [List.filter_cons]
      simp [e]; omega

/-! ### what is told -/
theorem from_filter (key : List UInt8) : ∀ t : Tr α, SortedL (inL t) → fromL key t = (inL t).filter fun x => leS key x.1
  | .nil, _ => rfl
  | .node k v a b, h => by
    obtain ⟨h1, h2, h3, h4, h5⟩ := sorted_mid h
    simp only [fromL, inL]
    rw [from_filter key b h2, List.filter_append, List.filter_cons]
    cases c : leS key k with
    | true => simp [from_filter key a h1]
    | false =>
      simp only [leS, Bool.or_eq_false_iff, decide_eq_false_iff_not] at c
      have : (inL a).filter (fun x => leS key x.1) = [] := by
        rw [List.filter_eq_nil_iff]
        intro x hx hle
        simp only [leS, Bool.or_eq_true, decide_eq_true_eq] at hle
        have h6 := h3 x hx
        rcases hle with hle | hle
        · have := less_trans hle h6
          rw [c.1] at this; cases this
        · rw [hle] at c; rw [h6] at c; exact absurd c.1 (by simp)
      simp [this]

end Go.Proofs.YtfhoblpcneachaaPg
