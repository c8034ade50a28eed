/- Trees of keys: the plain side. -/
import Derived.Test.YtfhoblpcneachaaPgE6
namespace Go.Proofs.YtfhoblpcneachaaPg
open Go Go.RowKit

inductive Tr (α : Type) where
  | nil
  | node (k : List UInt8) (v : α) (a b : Tr α)

variable {α : Type}

def Tr.ht : Tr α → Nat
  | .nil => 0
  | .node _ _ a b => 1 + max a.ht b.ht

def encT (f : α → V) : Tr α → V
  | .nil => .nilp
  | .node k v a b => .ip [.str k, f v, .int .i64 ((Tr.ht (.node k v a b) : Nat) : Int), .im (encT f a), .im (encT f b)] 0

/-- A node with sides, one of which may be too high by one. -/
def evenT (k : List UInt8) (v : α) (a b : Tr α) : Tr α :=
  if b.ht + 1 < a.ht then
    match a with
    | .node ak av aa ab => if ab.ht ≤ aa.ht then .node ak av aa (.node k v ab b) else match ab with
      | .node mk mv ma mb => .node mk mv (.node ak av aa ma) (.node k v mb b)
      | .nil => .node k v a b
    | .nil => .node k v a b
  else if a.ht + 1 < b.ht then
    match b with
    | .node bk bv ba bb => if ba.ht ≤ bb.ht then .node bk bv (.node k v a ba) bb else match ba with
      | .node mk mv ma mb => .node mk mv (.node k v a ma) (.node bk bv mb bb)
      | .nil => .node k v a b
    | .nil => .node k v a b
  else .node k v a b

def putT (key : List UInt8) (w : α) : Tr α → Tr α
  | .nil => .node key w .nil .nil
  | .node k v a b => if Op.bytesLess key k then evenT k v (putT key w a) b else if Op.bytesLess k key then evenT k v a (putT key w b) else .node key w a b

def findT (key : List UInt8) : Tr α → Tr α
  | .nil => .nil
  | .node k v a b => if k = key then .node k v a b else if Op.bytesLess key k then findT key a else findT key b

def Tr.isNil : Tr α → Bool
  | .nil => true
  | .node _ _ _ _ => false

def firstT (d : List UInt8 × α) : Tr α → List UInt8 × α
  | .nil => d
  | .node k v a _ => firstT (k, v) a

def cutT (key : List UInt8) : Tr α → Tr α
  | .nil => .nil
  | .node k v a b => if Op.bytesLess key k then evenT k v (cutT key a) b else if Op.bytesLess k key then evenT k v a (cutT key b) else
    match a, b with
    | .nil, b => b
    | a, .nil => a
    | a, .node bk bv ba bb => evenT (firstT (bk, bv) ba).1 (firstT (bk, bv) ba).2 a (cutT (firstT (bk, bv) ba).1 (.node bk bv ba bb))

/-- Is a text not behind another? -/
def leS (a b : List UInt8) : Bool := Op.bytesLess a b || decide (a = b)

/-- What stands from a key on. -/
def fromL (key : List UInt8) : Tr α → List (List UInt8 × α)
  | .nil => []
  | .node k v a b => (if leS key k then fromL key a ++ [(k, v)] else []) ++ fromL key b

/-- A loop's objects, packed: what a round comes to. -/
def YieldS (P : Program) (ks : List Pl) (J : List (List V) → List O → Prop) (S : List O → Prop) (L : List (List V)) : Prop :=
  ∀ pre x post B, pre ++ x :: post = L → AYield P 1 (.yld 0 :: x) [.res (packR (J pre) ks B) B] fun r H' =>
    ∃ B', (r = .bool true ∧ H' = [.res (packR (J (pre ++ [x])) ks B') B']) ∨ (r = .bool false ∧ H' = [.res (packR S ks B') B'])

/-- The same out of rounds whose objects lie open. -/
theorem yieldS_intro {P : Program} {ks : List Pl} {J : List (List V) → List O → Prop} {S : List O → Prop} {L : List (List V)} (hL : ∀ x ∈ L, x.all pureV = true)
    (h : ∀ pre x post Hs, pre ++ x :: post = L → J pre Hs → AYield P ks.length (.yld 0 :: x) Hs fun r Hs' => (r = .bool true ∧ J (pre ++ [x]) Hs') ∨ (r = .bool false ∧ S Hs')) : YieldS P ks J S L :=
  fun pre x post B hp => packed_yield (hL x (by rw [← hp]; simp)) (fun Hs hJ => h pre x post Hs hp hJ) fun r Hs B' hr => by
    rcases hr with ⟨rfl, h1⟩ | ⟨rfl, h1⟩
    · exact ⟨⟨_, rfl⟩, _, h1, B', .inl ⟨rfl, rfl⟩⟩
    · exact ⟨⟨_, rfl⟩, _, h1, B', .inr ⟨rfl, rfl⟩⟩

def encKV (f : α → V) (l : List (List UInt8 × α)) : List (List V) := l.map fun kv => [.str kv.1, f kv.2]

theorem ht_even (k : List UInt8) (v : α) (a b : Tr α) : (evenT k v a b).ht ≤ 1 + max a.ht b.ht := by
  unfold evenT
  split
  · split
    · split
      · simp only [Tr.ht] at *; omega
      · split
        · simp only [Tr.ht] at *; omega
        · simp only [Tr.ht] at *; omega
    · simp only [Tr.ht] at *; omega
  · split
    · split
      · split
        · simp only [Tr.ht] at *; omega
        · split
          · simp only [Tr.ht] at *; omega
          · simp only [Tr.ht] at *; omega
      · simp only [Tr.ht] at *; omega
    · simp only [Tr.ht] at *; omega

theorem ht_put (key : List UInt8) (w : α) : ∀ t : Tr α, (putT key w t).ht ≤ t.ht + 1
  | .nil => by simp [putT, Tr.ht]
  | .node k v a b => by
    have h1 := ht_put key w a
    have h2 := ht_put key w b
    simp only [putT]
    split
    · have := ht_even k v (putT key w a) b
      simp only [Tr.ht]; omega
    · split
      · have := ht_even k v a (putT key w b)
        simp only [Tr.ht]; omega
      · simp only [Tr.ht]; omega

/-- In how many steps a tree is taken apart. -/
def Tr.size : Tr α → Nat
  | .nil => 0
  | .node _ _ a b => 1 + a.size + b.size

theorem ht_cut : ∀ (t : Tr α) (key : List UInt8), (cutT key t).ht ≤ t.ht
  | .nil, key => by simp [cutT, Tr.ht]
  | .node k v a b, key => by
    have h1 := ht_cut a key
    have h2 := ht_cut b
    unfold cutT
    split
    · have := ht_even k v (cutT key a) b
      simp only [Tr.ht]; omega
    · split
      · have := ht_even k v a (cutT key b)
        have := h2 key
        simp only [Tr.ht]; omega
      · split
        · simp only [Tr.ht]; omega
        · simp only [Tr.ht]; omega
        · rename_i bk bv ba bb _
          have := ht_even (firstT (bk, bv) ba).1 (firstT (bk, bv) ba).2 a (cutT (firstT (bk, bv) ba).1 (.node bk bv ba bb))
          have := h2 (firstT (bk, bv) ba).1
          simp only [Tr.ht] at *; omega

theorem less_total : ∀ {a b : List UInt8}, Op.bytesLess a b = false → Op.bytesLess b a = false → a = b
  | [], [], _, _ => rfl
  | [], _ :: _, h, _ => by simp [Op.bytesLess] at h
  | _ :: _, [], _, h => by simp [Op.bytesLess] at h
  | x :: a, y :: b, h, g => by
    simp only [Op.bytesLess, Bool.or_eq_false_iff, decide_eq_false_iff_not, Bool.and_eq_false_iff, beq_eq_false_iff_ne] at h g
    have hxy : x = y := by
      have h1 : ¬ x.toNat < y.toNat := fun hh => h.1 (UInt8.lt_iff_toNat_lt.2 hh)
      have h2 : ¬ y.toNat < x.toNat := fun hh => g.1 (UInt8.lt_iff_toNat_lt.2 hh)
      exact UInt8.toNat_inj.1 (by omega)
    subst hxy
    rcases h.2 with h2 | h2
    · exact absurd rfl h2
    · rcases g.2 with g2 | g2
      · exact absurd rfl g2
      · rw [less_total h2 g2]

theorem less_irrefl : ∀ (a : List UInt8), Op.bytesLess a a = false
  | [] => rfl
  | x :: a => by
    have h1 : ¬ x < x := fun h => by have := UInt8.lt_iff_toNat_lt.1 h; omega
    simp [Op.bytesLess, less_irrefl a, h1]

theorem less_trans : ∀ {a b c : List UInt8}, Op.bytesLess a b = true → Op.bytesLess b c = true → Op.bytesLess a c = true
  | _, _, [], _, h => by cases ‹List UInt8› <;> simp [Op.bytesLess] at h
  | [], _, _ :: _, _, _ => by simp [Op.bytesLess]
  | x :: a, [], z :: c, h, _ => by simp [Op.bytesLess] at h
  | x :: a, y :: b, z :: c, h, g => by
    simp only [Op.bytesLess, Bool.or_eq_true, decide_eq_true_eq, Bool.and_eq_true, beq_iff_eq] at h g ⊢
    rcases h with h | ⟨rfl, h⟩
    · rcases g with g | ⟨rfl, g⟩
      · left
        have := UInt8.lt_iff_toNat_lt.1 h
        have := UInt8.lt_iff_toNat_lt.1 g
        exact UInt8.lt_iff_toNat_lt.2 (by omega)
      · exact .inl h
    · rcases g with g | ⟨rfl, g⟩
      · exact .inl g
      · exact .inr ⟨rfl, less_trans h g⟩

theorem less_asymm {a b : List UInt8} (h : Op.bytesLess a b = true) : Op.bytesLess b a = false := by
  cases hb : Op.bytesLess b a with
  | false => rfl
  | true => have := less_trans h hb; rw [less_irrefl] at this; cases this

theorem less_ne {a b : List UInt8} (h : Op.bytesLess a b = true) : a ≠ b := fun e => by rw [e, less_irrefl] at h; cases h

/-- Is a key behind another, or is that one empty? -/
def behindB (after k : List UInt8) : Bool := decide (after = []) || !decide (k = after)

def keysT (after : List UInt8) (most : Int) (t : Tr α) : List (List UInt8) :=
  (((fromL after t).map (·.1)).filter (behindB after)).take most.toNat

def strs (l : List (List UInt8)) : List (List V) := l.map fun k => [.str k]

end Go.Proofs.YtfhoblpcneachaaPg
