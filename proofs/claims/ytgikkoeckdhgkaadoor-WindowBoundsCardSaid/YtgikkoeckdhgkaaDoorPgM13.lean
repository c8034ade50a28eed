/- Own texts, laid together: PgVal1, PgSch2, PgVal2, PgVal3, PgWin1. -/
import Derived.Test.YtgikkoeckdhgkaaDoorPgM12
import Derived.Laws.BitsLemmas
/- Values, as lists; texts that are UTF-8. -/
namespace Go.Proofs.YtgikkoeckdhgkaaDoorPg
open Go Go.RowKit

structure Val where
  k : Int
  n : Int
  t : List UInt8
  deriving DecidableEq

def valC (v : Val) : List V := [.int .i64 v.k, .int .i64 v.n, .str v.t]
def vals (l : List Val) : List (List V) := l.map valC

theorem vals_len (l : List Val) : (vals l).length = l.length := by simp [vals]
theorem vals_get {l : List Val} {i : Nat} {v : Val} (h : l[i]? = some v) : (vals l)[i]? = some [.int .i64 v.k, .int .i64 v.n, .str v.t] := by simp [vals, h, valC]
theorem vals_app (a b : List Val) : vals (a ++ b) = vals a ++ vals b := by simp [vals]

def val0 : Val := ⟨0, 0, []⟩

/-- what stands behind a leading byte: how many bytes more, the least number, the first bits -/
def lead (c : Int) : Option (Nat × Int × Int) :=
  if c < 192 then none else if c < 224 then some (1, 128, c - 192) else if c < 240 then some (2, 2048, c - 224) else if c < 248 then some (3, 65536, c - 240) else none

/-- the number of so many bytes more -/
def cv (r : List UInt8) (v0 : Int) : Nat → Option Int
  | 0 => some v0
  | k + 1 => match cv r v0 k, r[k]? with
    | some v, some d => if 128 ≤ d.toNat ∧ d.toNat < 192 then some (64 * v + d.toNat - 128) else none
    | _, _ => none

def badV (v least : Int) : Bool := decide (v < least) || (decide (1114111 < v) || (decide (55296 ≤ v) && decide (v ≤ 57343)))

@[irreducible] def u8head (c : UInt8) (r : List UInt8) : Option Nat :=
  if (c.toNat : Int) < 128 then some 0 else match lead c.toNat with
    | none => none
    | some (n, least, v0) => if r.length < n then none else match cv r v0 n with
      | none => none
      | some v => if badV v least then none else some n

/-- is a text UTF-8? -/
def u8F : Nat → List UInt8 → Bool
  | _, [] => true
  | 0, _ :: _ => false
  | f + 1, c :: r => match u8head c r with
    | none => false
    | some n => u8F f (r.drop n)

def u8 (s : List UInt8) : Bool := u8F s.length s

theorem u8F_step (f : Nat) (c : UInt8) (r : List UInt8) : u8F (f + 1) (c :: r) = match u8head c r with | none => false | some n => u8F f (r.drop n) := rfl

theorem u8F_more : ∀ (f : Nat) (s : List UInt8), s.length ≤ f → ∀ g, s.length ≤ g → u8F f s = u8F g s
  | f, [], _, g, _ => by cases f <;> cases g <;> rfl
  | 0, _ :: _, h, _, _ => absurd h (by rw [List.length_cons]; omega)
  | f + 1, c :: r, h, 0, hg => absurd hg (by rw [List.length_cons]; omega)
  | f + 1, c :: r, h, g + 1, hg => by
    rw [u8F_step, u8F_step]
    generalize u8head c r = x
    cases x with
    | none => rfl
    | some n => exact u8F_more f (r.drop n) (by rw [List.length_cons] at h; rw [List.length_drop]; omega) g (by rw [List.length_cons] at hg; rw [List.length_drop]; omega)

theorem u8_nil : u8 [] = true := rfl
theorem u8_cons (c : UInt8) (r : List UInt8) : u8 (c :: r) = match u8head c r with | none => false | some n => u8 (r.drop n) := by
  unfold u8
  rw [List.length_cons, u8F_step]
  generalize u8head c r = x
  cases x with
  | none => rfl
  | some n => exact u8F_more _ _ (by rw [List.length_drop]; omega) _ (Nat.le_refl _)

theorem cv_none {r : List UInt8} {v0 : Int} {k : Nat} (h : cv r v0 k = none) : ∀ {m : Nat}, k ≤ m → cv r v0 m = none
  | 0, hm => by
    have : k = 0 := by omega
    subst this; exact h
  | m + 1, hm => by
    rcases Nat.lt_or_ge k (m + 1) with hk | hk
    · have := cv_none h (m := m) (by omega)
      simp [cv, this]
    · have : k = m + 1 := by omega
      subst this; exact h

theorem cv_bound {r : List UInt8} {v0 : Int} (h0 : 0 ≤ v0 ∧ v0 < 32) : ∀ {k : Nat} {v : Int}, cv r v0 k = some v → 0 ≤ v ∧ v < 32 * 64 ^ k
  | 0, v, h => by simp [cv] at h; subst h; omega
  | k + 1, v, h => by
    unfold cv at h
    split at h <;> try (cases h; done)
    rename_i w d hw hd
    have := cv_bound h0 hw
    split at h <;> try (cases h; done)
    rename_i hdd
    simp at h
    rw [Int.pow_succ]
    omega

theorem lead_ok {c : Int} {n : Nat} {least v0 : Int} (h : lead c = some (n, least, v0)) : 1 ≤ n ∧ n ≤ 3 ∧ 0 ≤ v0 ∧ v0 < 32 := by
  unfold lead at h
  repeat' split at h
  all_goals first | (cases h; done) | (simp at h; omega)

end Go.Proofs.YtgikkoeckdhgkaaDoorPg

/- A schema that may be, made of any. -/
namespace Go.Proofs.YtgikkoeckdhgkaaDoorPg
open Go Go.RowKit

def poolS : List (List UInt8) := [[105, 100], [110, 97, 109, 101], [110], [102, 108, 97, 103], [114, 97, 119], [120]]

/-- a number from 0 on, of any -/
def natI (k : Int) : Int := if k < 0 then IntKind.i64.wrap (0 - IntKind.i64.wrap (k + 1)) else k
def gKind (k : Int) : Int := IntKind.i64.wrap (1 + (natI k).tmod 4)

def gName (ok : List UInt8 → Bool) (out : List Col) (i : Nat) (c : Col) : List UInt8 :=
  if ok c.n = false ∨ 0 ≤ fnd c.n out 0 then poolS.getD i [] else c.n

def stepG (ok : List UInt8 → Bool) (out : List Col) (i : Nat) (c : Col) : List Col :=
  if fnd (gName ok out i c) out 0 < 0 then out ++ [⟨gName ok out i c, gKind c.k, c.o⟩] else out

def gN (ok : List UInt8 → Bool) (l : List Col) : Nat → List Col
  | 0 => []
  | i + 1 => match l[i]? with
    | some c => stepG ok (gN ok l i) i c
    | none => gN ok l i

/-- the columns, before their keys are cleared -/
def gCols (ok : List UInt8 → Bool) (l : List Col) : List Col :=
  match gN ok l (min l.length 6) with
  | [] => [⟨[105, 100], 2, false⟩]
  | g => g

def gKeys (n : Nat) (keys : Int) : Int := IntKind.i64.wrap (1 + (natI keys).tmod ((min n 3 : Nat) : Int))

def clearK : Nat → List Col → List Col
  | 0, l => l
  | _, [] => []
  | k + 1, c :: l => { c with o := false } :: clearK k l

def goodL (ok : List UInt8 → Bool) (l : List Col) (keys : Int) : List Col := clearK (gKeys (gCols ok l).length keys).toNat (gCols ok l)
def goodK (ok : List UInt8 → Bool) (l : List Col) (keys : Int) : Int := gKeys (gCols ok l).length keys

theorem natI_nonneg {k : Int} (h : -9223372036854775808 ≤ k ∧ k ≤ 9223372036854775807) : 0 ≤ natI k ∧ natI k ≤ 9223372036854775807 := by
  unfold natI
  split
  · have e1 : IntKind.i64.wrap (k + 1) = k + 1 := by rw [IntKind.wrap_i64]; omega
    have e2 : IntKind.i64.wrap (0 - (k + 1)) = - (k + 1) := by rw [IntKind.wrap_i64]; omega
    rw [e1, e2]; omega
  · omega

theorem gKind_ok {k : Int} (h : -9223372036854775808 ≤ k ∧ k ≤ 9223372036854775807) : 1 ≤ gKind k ∧ gKind k ≤ 4 := by
  have h1 := natI_nonneg h
  unfold gKind
  rw [IntKind.wrap_i64, Int.tmod_eq_emod_of_nonneg h1.1]
  omega

theorem gKeys_ok {n : Nat} (hn : 1 ≤ n) {k : Int} (h : -9223372036854775808 ≤ k ∧ k ≤ 9223372036854775807) : 1 ≤ gKeys n k ∧ gKeys n k ≤ 3 ∧ gKeys n k ≤ n := by
  have h1 := natI_nonneg h
  unfold gKeys
  rw [IntKind.wrap_i64, Int.tmod_eq_emod_of_nonneg h1.1]
  have h2 : 0 < ((min n 3 : Nat) : Int) := by omega
  have h3 := Int.emod_lt_of_pos (natI k) h2
  have h4 := Int.emod_nonneg (natI k) (show ((min n 3 : Nat) : Int) ≠ 0 by omega)
  generalize natI k % ((min n 3 : Nat) : Int) = r at *
  omega

theorem gN_len (ok : List UInt8 → Bool) (l : List Col) : ∀ i, (gN ok l i).length ≤ i
  | 0 => by simp [gN]
  | i + 1 => by
    have := gN_len ok l i
    unfold gN
    split
    · unfold stepG; split <;> simp <;> omega
    · omega

theorem gCols_len (ok : List UInt8 → Bool) (l : List Col) : 1 ≤ (gCols ok l).length ∧ (gCols ok l).length ≤ 6 := by
  have := gN_len ok l (min l.length 6)
  unfold gCols
  split
  · simp
  · rename_i h
    constructor
    · cases hg : gN ok l (min l.length 6) with
      | nil => exact absurd hg h
      | cons => simp
    · omega

theorem clearK_len : ∀ (k : Nat) (l : List Col), (clearK k l).length = l.length
  | 0, l => by simp [clearK]
  | _ + 1, [] => by simp [clearK]
  | k + 1, c :: l => by simp [clearK, clearK_len k l]

theorem clearK_get : ∀ (k : Nat) (l : List Col) (i : Nat), (clearK k l)[i]? = (l[i]?).map fun c => if i < k then { c with o := false } else c
  | 0, l, i => by simp [clearK]
  | _ + 1, [], i => by simp [clearK]
  | k + 1, c :: l, 0 => by simp [clearK]
  | k + 1, c :: l, i + 1 => by simp [clearK, clearK_get k l i]

theorem clearK_snoc {k : Nat} {l : List Col} {c : Col} (h : l[k]? = some c) : (clearK k l).set k { c with o := false } = clearK (k + 1) l := by
  refine List.ext_getElem? fun i => ?_
  rw [clearK_get, List.getElem?_set, clearK_len, clearK_get]
  have hlt := (List.getElem?_eq_some_iff.1 h).1
  by_cases e : k = i
  · subst e
    have e2 := (List.getElem?_eq_some_iff.1 h).2
    simp [hlt, e2]
  · rw [if_neg e]
    by_cases g : i < k
    · have g2 : i < k + 1 := by omega
      cases l[i]? <;> simp [g, g2]
    · have g2 : ¬ i < k + 1 := by omega
      cases l[i]? <;> simp [g, g2]

end Go.Proofs.YtgikkoeckdhgkaaDoorPg

/- Values that may be, and rows. -/
namespace Go.Proofs.YtgikkoeckdhgkaaDoorPg
open Go Go.RowKit

def mayV (v : Val) : Bool :=
  if v.k = 0 then decide (v.n = 0) && decide (v.t = [])
  else if v.k = 1 then decide (v.t = []) && (decide (v.n = 0) || decide (v.n = 1))
  else if v.k = 2 then decide (v.t = [])
  else if v.k = 3 then u8 v.t && decide (v.n = 0) && decide ((v.t.length : Int) ≤ 4096)
  else if v.k = 4 then decide (v.n = 0) && decide ((v.t.length : Int) ≤ 4096)
  else false

def standsV (c : Col) (v : Val) : Bool := mayV v && (decide (v.k = c.k) || (decide (v.k = 0) && c.o))

def text40 (t : List UInt8) : List UInt8 := if 40 < t.length then t.take 40 else t

def goodK5 (k : Int) : Int := (natI k).tmod 5

def goodV (v : Val) : Val :=
  if goodK5 v.k = 1 then ⟨goodK5 v.k, if v.n.tmod 2 = 0 then 0 else 1, []⟩
  else if goodK5 v.k = 2 then ⟨goodK5 v.k, v.n, []⟩
  else if goodK5 v.k = 3 then ⟨goodK5 v.k, 0, if u8 (text40 v.t) then text40 v.t else []⟩
  else if goodK5 v.k = 4 then ⟨goodK5 v.k, 0, text40 v.t⟩
  else ⟨goodK5 v.k, 0, []⟩

/-- a value of a row, for a column -/
def rowV (c : Col) (v : Val) : Val := if c.o = true ∧ v.k.tmod 3 = 0 then val0 else goodV { v with k := c.k }

def rowN (l : List Col) (vs : List Val) : Nat → List Val
  | 0 => []
  | i + 1 => match l[i]? with
    | some c => rowN l vs i ++ [rowV c (vs.getD i val0)]
    | none => rowN l vs i

def rowL (l : List Col) (vs : List Val) : List Val := rowN l vs l.length

theorem rowN_len (l : List Col) (vs : List Val) : ∀ i, i ≤ l.length → (rowN l vs i).length = i
  | 0, _ => rfl
  | i + 1, h => by
    have := rowN_len l vs i (by omega)
    have hg : l[i]? = some l[i] := List.getElem?_eq_getElem (by omega)
    simp [rowN, hg, this]

theorem rowN_get (l : List Col) (vs : List Val) : ∀ i, i ≤ l.length → ∀ j, j < i → (rowN l vs i)[j]? = (l[j]?).map fun c => rowV c (vs.getD j val0)
  | 0, _, j, hj => by omega
  | i + 1, h, j, hj => by
    have hl := rowN_len l vs i (by omega)
    have hg : l[i]? = some l[i] := List.getElem?_eq_getElem (by omega)
    simp only [rowN, hg]
    rcases Nat.lt_or_ge j i with h1 | h1
    · rw [List.getElem?_append_left (by omega)]; exact rowN_get l vs i (by omega) j h1
    · have e : j = i := by omega
      subst e
      rw [List.getElem?_append_right (by omega), hl, hg]
      simp

theorem rowL_len (l : List Col) (vs : List Val) : (rowL l vs).length = l.length := rowN_len l vs _ (Nat.le_refl _)
theorem rowL_get (l : List Col) (vs : List Val) {j : Nat} {c : Col} (h : l[j]? = some c) : (rowL l vs)[j]? = some (rowV c (vs.getD j val0)) := by
  have := rowN_get l vs _ (Nat.le_refl _) j (List.getElem?_eq_some_iff.1 h).1
  rw [rowL, this, h]; rfl

theorem text40_len (t : List UInt8) : (text40 t).length ≤ 40 := by
  unfold text40; split
  · rw [List.length_take]; omega
  · omega

theorem tmod5 {k : Int} (h : 1 ≤ k ∧ k ≤ 4) : goodK5 k = k := by
  unfold goodK5 natI
  rw [if_neg (by omega), Int.tmod_eq_emod_of_nonneg (by omega)]
  omega

theorem good_stands {c : Col} (hc : 1 ≤ c.k ∧ c.k ≤ 4) (v : Val) : standsV c (rowV c v) = true := by
  unfold rowV
  split
  · rename_i h
    unfold standsV mayV val0
    simp [h.1]
  · have e := tmod5 hc
    have hk : (goodV { v with k := c.k }).k = c.k := by
      unfold goodV; simp only [e]
      repeat' split
      all_goals rfl
    unfold standsV
    rw [hk]
    have : mayV (goodV { v with k := c.k }) = true := by
      have h40 := text40_len v.t
      unfold mayV
      rw [hk]
      unfold goodV
      simp only [e]
      rcases (by omega : c.k = 1 ∨ c.k = 2 ∨ c.k = 3 ∨ c.k = 4) with h | h | h | h
      · simp [h]
      · simp [h]
      · simp only [h]
        by_cases hu : u8 (text40 v.t) = true
        · simp [hu]; omega
        · simp [hu, u8_nil]
      · simp [h]; omega
    rw [this]
    simp

/-- does the value at a place stand? -/
def stAt (l : List Col) (vs : List Val) (i : Nat) : Bool := match l[i]?, vs[i]? with
  | some c, some v => standsV c v
  | _, _ => true

theorem stAt_some {l : List Col} {vs : List Val} {i : Nat} {c : Col} {v : Val} (hc : l[i]? = some c) (hv : vs[i]? = some v) : stAt l vs i = standsV c v := by unfold stAt; rw [hc, hv]
theorem stAt_yes {l : List Col} {vs : List Val} {i : Nat} (h : ∀ (c : Col) (v : Val), l[i]? = some c → vs[i]? = some v → standsV c v = true) : stAt l vs i = true := by
  unfold stAt
  split
  · rename_i c v hc hv; exact h c v hc hv
  · rfl

/-- the values fit the columns, from the first on -/
def fitsL (l : List Col) (vs : List Val) : Bool := decide (vs.length = l.length) && (List.range vs.length).all (stAt l vs)

def keyOkL (l : List Col) (keys : Nat) (vs : List Val) : Bool := decide (keys ≤ vs.length) && (List.range keys).all (stAt l vs)

theorem fits_yes {l : List Col} {vs : List Val} (hl : vs.length = l.length) (h : ∀ (i : Nat) (c : Col) (v : Val), l[i]? = some c → vs[i]? = some v → standsV c v = true) : fitsL l vs = true := by
  unfold fitsL
  rw [decide_eq_true hl, Bool.true_and, List.all_eq_true]
  intro i _
  exact stAt_yes (h i)

theorem row_fits {l : List Col} (hl : ∀ c ∈ l, 1 ≤ c.k ∧ c.k ≤ 4) (vs : List Val) : fitsL l (rowL l vs) = true :=
  fits_yes (rowL_len l vs) fun i c v hc hv => by
    rw [rowL_get l vs hc] at hv
    cases hv
    exact good_stands (hl c (List.mem_of_getElem? hc)) _

end Go.Proofs.YtgikkoeckdhgkaaDoorPg

/- Keys of values: their bytes. -/
namespace Go.Proofs.YtgikkoeckdhgkaaDoorPg
open Go Go.RowKit

def bs (l : List UInt8) : List (List V) := l.map fun b => [.int .u8 (b.toNat : Int)]
theorem bs_len (l : List UInt8) : (bs l).length = l.length := by simp [bs]
theorem bs_app (a b : List UInt8) : bs (a ++ b) = bs a ++ bs b := by simp [bs]

theorem bytesOfEs_bs : ∀ l : List UInt8, bytesOfEs (bs l) = some l
  | [] => rfl
  | b :: l => by
    have := bytesOfEs_bs l
    simp only [bs, List.map_cons] at this ⊢
    simp only [bytesOfEs, this]
    simp

/-- a byte of a number -/
def b8 (n : Int) : UInt8 := UInt8.ofNat (n % 256).toNat

theorem b8_wrap (n : Int) : IntKind.u8.wrap n = ((b8 n).toNat : Int) := by
  have e : IntKind.u8.wrap n = n % 256 := by
    simp [IntKind.wrap, IntKind.bits, IntKind.signed]
  rw [e, b8]
  have h1 : 0 ≤ n % 256 := by omega
  have h2 : n % 256 < 256 := by omega
  generalize n % 256 = m at *
  have : (UInt8.ofNat m.toNat).toNat = m.toNat := by
    rw [UInt8.toNat_ofNat']; omega
  rw [this]; omega

/-- a number, shifted -/
def beS (m : Int) : Nat → Int
  | 0 => m
  | k + 1 => IntKind.u64.wrap (beS m k * 256)

def beB (m : Int) : Nat → List UInt8
  | 0 => []
  | k + 1 => beB m k ++ [b8 (IntKind.u64.wrap ((beS m k).tdiv 72057594037927936))]

theorem beB_len (m : Int) : ∀ k, (beB m k).length = k
  | 0 => rfl
  | k + 1 => by simp [beB, beB_len m k]

def escB (b : UInt8) : List UInt8 := if b = 0 then [b, 255] else [b]
def escL (t : List UInt8) : List UInt8 := t.flatMap escB

theorem escL_snoc {t : List UInt8} {j : Nat} {b : UInt8} (h : t[j]? = some b) : escL (t.take (j + 1)) = escL (t.take j) ++ escB b := by
  rw [List.take_add_one, h]; simp [escL]

theorem escL_len : ∀ t : List UInt8, (escL t).length ≤ 2 * t.length
  | [] => by simp [escL]
  | b :: t => by
    have := escL_len t
    have e : escL (b :: t) = escB b ++ escL t := by simp [escL]
    have hb : (escB b).length ≤ 2 := by unfold escB; split <;> simp
    rw [e, List.length_append, List.length_cons]; omega

def keyM (n : Int) : Int := IntKind.u64.wrap (IntKind.u64.wrap n + 9223372036854775808)

def keyT (v : Val) : List UInt8 :=
  if v.k = 1 then [b8 v.n] else if v.k = 2 then beB (keyM v.n) 8 else if v.k = 3 ∨ v.k = 4 then escL v.t ++ [0, 1] else []

def keyV (v : Val) : List UInt8 := b8 v.k :: keyT v
def keyS (l : List Val) : List UInt8 := l.flatMap keyV

theorem keyS_snoc {l : List Val} {i : Nat} {v : Val} (h : l[i]? = some v) : keyS (l.take (i + 1)) = keyS (l.take i) ++ keyV v := by
  rw [List.take_add_one, h]; simp [keyS]

theorem keyV_len {v : Val} (h : v.t.length ≤ 4096) : (keyV v).length ≤ 9000 := by
  unfold keyV keyT
  have := escL_len v.t
  rw [List.length_cons]
  repeat' split
  all_goals first
    | (rw [beB_len]; omega)
    | (rw [List.length_append]; simp only [List.length_cons, List.length_nil]; omega)
    | (simp only [List.length_cons, List.length_nil]; omega)

theorem keyS_len : ∀ {l : List Val}, (∀ v ∈ l, v.t.length ≤ 4096) → (keyS l).length ≤ 9000 * l.length
  | [], _ => by simp [keyS]
  | v :: l, h => by
    have h1 := keyV_len (h v (by simp))
    have h2 := keyS_len (l := l) fun w hw => h w (by simp [hw])
    have e : keyS (v :: l) = keyV v ++ keyS l := by simp [keyS]
    rw [e, List.length_append, List.length_cons]; omega

theorem may_text {v : Val} (h : mayV v = true) : v.t.length ≤ 4096 := by
  unfold mayV at h
  repeat' split at h
  all_goals simp at h
  · rw [h.2]; simp
  · rw [h.1]; simp
  · rw [h]; simp
  · omega
  · omega

theorem stands_text {c : Col} {v : Val} (h : standsV c v = true) : v.t.length ≤ 4096 := by
  unfold standsV at h
  rw [Bool.and_eq_true] at h
  exact may_text h.1

end Go.Proofs.YtgikkoeckdhgkaaDoorPg

/- Rows by their keys: the plain law. -/
namespace Go.Proofs.YtgikkoeckdhgkaaDoorPg
open Go Go.RowKit

abbrev Rw := List Val
def fR (r : Rw) : V := .sl 3 (vals r) false
def rws (l : List Rw) : List (List V) := l.map fun r => [fR r]

theorem rws_len (l : List Rw) : (rws l).length = l.length := by simp [rws]
theorem rws_get {l : List Rw} {i : Nat} {r : Rw} (h : l[i]? = some r) : (rws l)[i]? = some [fR r] := by simp [rws, h]
theorem rws_app (a b : List Rw) : rws (a ++ b) = rws a ++ rws b := by simp [rws]
theorem rws_take (l : List Rw) (n : Nat) : (rws l).take n = rws (l.take n) := by simp [rws, List.map_take]
theorem rws_drop (l : List Rw) (n : Nat) : (rws l).drop n = rws (l.drop n) := by simp [rws, List.map_drop]

/-- the key of a row, of a schema -/
def kyR (C : List Col) (K : Nat) (r : Rw) : List UInt8 := if keyOkL C K r then keyS (r.take K) else []

abbrev KR := List (List UInt8 × Rw)
def kvR (C : List Col) (K : Nat) (l : List Rw) : KR := l.map fun r => (kyR C K r, r)

theorem kvR_app (C : List Col) (K : Nat) (a b : List Rw) : kvR C K (a ++ b) = kvR C K a ++ kvR C K b := by simp [kvR]
theorem kvR_len (C : List Col) (K : Nat) (a : List Rw) : (kvR C K a).length = a.length := by simp [kvR]

/-- rows ahead of a key, and the others -/
def aheadR (C : List Col) (K : Nat) (key : List UInt8) (l : List Rw) : List Rw := l.takeWhile fun r => Op.bytesLess (kyR C K r) key
def restR (C : List Col) (K : Nat) (key : List UInt8) (l : List Rw) : List Rw := l.dropWhile fun r => Op.bytesLess (kyR C K r) key

theorem ahead_rest (C : List Col) (K : Nat) (key : List UInt8) (l : List Rw) : aheadR C K key l ++ restR C K key l = l := List.takeWhile_append_dropWhile

theorem ahead_less {C : List Col} {K : Nat} {key : List UInt8} : ∀ {l : List Rw}, ∀ x ∈ aheadR C K key l, Op.bytesLess (kyR C K x) key = true
  | [], x, hx => by simp [aheadR] at hx
  | y :: l, x, hx => by
    unfold aheadR at hx
    rw [List.takeWhile_cons] at hx
    split at hx
    · rename_i hy
      rcases List.mem_cons.1 hx with rfl | hx
      · exact hy
      · exact ahead_less x hx
    · simp at hx

theorem rest_head {C : List Col} {K : Nat} {key : List UInt8} : ∀ {l : List Rw} {x : Rw} {r : List Rw}, restR C K key l = x :: r → Op.bytesLess (kyR C K x) key = false
  | [], x, r, h => by simp [restR] at h
  | y :: l, x, r, h => by
    unfold restR at h
    rw [List.dropWhile_cons] at h
    split at h
    · exact rest_head h
    · rename_i hy
      cases h
      simpa using hy

theorem kv_ahead {C : List Col} {K : Nat} {key : List UInt8} {l : List Rw} : ∀ x ∈ kvR C K (aheadR C K key l), Op.bytesLess x.1 key = true := fun x hx => by
  simp only [kvR, List.mem_map] at hx
  obtain ⟨r, hr, rfl⟩ := hx
  exact ahead_less r hr

theorem kv_rest {C : List Col} {K : Nat} {key : List UInt8} {l : List Rw} : ∀ x r, kvR C K (restR C K key l) = x :: r → Op.bytesLess x.1 key = false := fun x r h => by
  cases hl : restR C K key l with
  | nil => rw [hl] at h; simp [kvR] at h
  | cons y m =>
    rw [hl] at h
    simp only [kvR, List.map_cons, List.cons.injEq] at h
    rw [← h.1]
    exact rest_head hl

def headIs (C : List Col) (K : Nat) (key : List UInt8) : List Rw → Bool
  | [] => false
  | x :: _ => decide (kyR C K x = key)

theorem head_kv (C : List Col) (K : Nat) (key : List UInt8) (l : List Rw) : hasH key (kvR C K l) = headIs C K key l := by cases l <;> rfl

def putR (C : List Col) (K : Nat) (l : List Rw) (r : Rw) : List Rw :=
  aheadR C K (kyR C K r) l ++ r :: (if headIs C K (kyR C K r) (restR C K (kyR C K r) l) then (restR C K (kyR C K r) l).tail else restR C K (kyR C K r) l)
def cutR (C : List Col) (K : Nat) (l : List Rw) (key : List UInt8) : List Rw :=
  if headIs C K key (restR C K key l) then aheadR C K key l ++ (restR C K key l).tail else l

theorem kv_put (C : List Col) (K : Nat) (l : List Rw) (r : Rw) : insL (kyR C K r) r (kvR C K l) = kvR C K (putR C K l r) := by
  have e : kvR C K l = kvR C K (aheadR C K (kyR C K r) l) ++ kvR C K (restR C K (kyR C K r) l) := by rw [← kvR_app, ahead_rest]
  rw [e, ins_split kv_ahead kv_rest, head_kv]
  unfold putR
  rw [kvR_app]
  congr 1
  simp only [kvR, List.map_cons]
  congr 1
  split
  · rw [List.map_tail]
  · rfl

theorem kv_cut {C : List Col} {K : Nat} {l : List Rw} (key : List UInt8) (hs : SortedL (kvR C K l)) : delL key (kvR C K l) = kvR C K (cutR C K l key) := by
  have e : kvR C K l = kvR C K (aheadR C K key l) ++ kvR C K (restR C K key l) := by rw [← kvR_app, ahead_rest]
  rw [e] at hs ⊢
  rw [del_split hs kv_ahead kv_rest, head_kv]
  unfold cutR
  split
  · rw [kvR_app]; congr 1; simp [kvR, List.map_tail]
  · rw [← e]

theorem put_sorted {C : List Col} {K : Nat} {l : List Rw} (r : Rw) (hs : SortedL (kvR C K l)) : SortedL (kvR C K (putR C K l r)) := by rw [← kv_put]; exact ins_sorted hs
theorem cut_sorted {C : List Col} {K : Nat} {l : List Rw} (key : List UInt8) (hs : SortedL (kvR C K l)) : SortedL (kvR C K (cutR C K l key)) := by rw [← kv_cut key hs]; exact del_sorted hs

theorem put_mem {C : List Col} {K : Nat} {l : List Rw} {r x : Rw} (h : x ∈ putR C K l r) : x = r ∨ x ∈ l := by
  unfold putR at h
  rw [List.mem_append, List.mem_cons] at h
  have hm : ∀ y, y ∈ aheadR C K (kyR C K r) l ∨ y ∈ restR C K (kyR C K r) l → y ∈ l := fun y hy => by
    rw [← List.mem_append, ahead_rest] at hy; exact hy
  rcases h with h | h | h
  · exact .inr (hm _ (.inl h))
  · exact .inl h
  · split at h
    · exact .inr (hm _ (.inr (List.mem_of_mem_tail h)))
    · exact .inr (hm _ (.inr h))

theorem cut_mem {C : List Col} {K : Nat} {l : List Rw} {key : List UInt8} {x : Rw} (h : x ∈ cutR C K l key) : x ∈ l := by
  unfold cutR at h
  have hm : ∀ y, y ∈ aheadR C K key l ∨ y ∈ restR C K key l → y ∈ l := fun y hy => by
    rw [← List.mem_append, ahead_rest] at hy; exact hy
  split at h
  · rw [List.mem_append] at h
    rcases h with h | h
    · exact hm _ (.inl h)
    · exact hm _ (.inr (List.mem_of_mem_tail h))
  · exact h

theorem put_len (C : List Col) (K : Nat) (l : List Rw) (r : Rw) : (putR C K l r).length ≤ l.length + 1 := by
  have e := congrArg List.length (ahead_rest C K (kyR C K r) l)
  rw [List.length_append] at e
  unfold putR
  rw [List.length_append, List.length_cons]
  split
  · rw [List.length_tail]; omega
  · omega

theorem cut_len (C : List Col) (K : Nat) (l : List Rw) (key : List UInt8) : (cutR C K l key).length ≤ l.length := by
  have e := congrArg List.length (ahead_rest C K key l)
  rw [List.length_append] at e
  unfold cutR
  split
  · rw [List.length_append, List.length_tail]; omega
  · exact Nat.le_refl _

/-- what an end of a list is put behind -/
theorem ins_last {key : List UInt8} {r : Rw} : ∀ {l : KR}, (∀ x ∈ l, Op.bytesLess x.1 key = true) → insL key r l = l ++ [(key, r)]
  | [], _ => rfl
  | (k, v) :: l, h => by
    have h1 := h (k, v) (by simp)
    simp only at h1
    simp only [insL, List.cons_append]
    rw [if_neg (by rw [less_asymm h1]; simp), if_pos h1, ins_last fun x hx => h x (by simp [hx])]

end Go.Proofs.YtgikkoeckdhgkaaDoorPg
