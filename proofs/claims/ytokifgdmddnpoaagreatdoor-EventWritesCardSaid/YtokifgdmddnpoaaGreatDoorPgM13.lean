/- Own texts, laid together: PgVal1, PgSch2, PgVal2, PgVal3, PgVal4, PgVal5, PgVal6, PgLay1, PgLay2, PgLay3, PgLay4, PgE9, PgLess, PgCh1, PgEv1, PgEv2, PgIm1, PgE91. -/
import Derived.Test.YtokifgdmddnpoaaGreatDoorPgM12
import Derived.Laws.BitsLemmas
/- Values, as lists; texts that are UTF-8. -/
namespace Go.Proofs.YtokifgdmddnpoaaGreatDoorPg
open Go Go.RowKit

structure Val where
  k : Int
  n : Int
  t : List UInt8
  deriving DecidableEq

def valC (v : Val) : List V := [.int .i64 v.k, .int .i64 v.n, .str v.t]
def vals (l : List Val) : List (List V) := l.map valC

theorem vals_len (l : List Val) : (vals l).length = l.length := by simp [vals]
theorem vals_get {l : List Val} {i : Nat} {v : Val} (h : l[i]? = some v) : (vals l)[i]? = some [.int .i64 v.k, .int .i64 v.n, .str v.t] := by simp [vals, h, valC]
theorem vals_app (a b : List Val) : vals (a ++ b) = vals a ++ vals b := by simp [vals]

def val0 : Val := ⟨0, 0, []⟩

/-- what stands behind a leading byte: how many bytes more, the least number, the first bits -/
def lead (c : Int) : Option (Nat × Int × Int) :=
  if c < 192 then none else if c < 224 then some (1, 128, c - 192) else if c < 240 then some (2, 2048, c - 224) else if c < 248 then some (3, 65536, c - 240) else none

/-- the number of so many bytes more -/
def cv (r : List UInt8) (v0 : Int) : Nat → Option Int
  | 0 => some v0
  | k + 1 => match cv r v0 k, r[k]? with
    | some v, some d => if 128 ≤ d.toNat ∧ d.toNat < 192 then some (64 * v + d.toNat - 128) else none
    | _, _ => none

def badV (v least : Int) : Bool := decide (v < least) || (decide (1114111 < v) || (decide (55296 ≤ v) && decide (v ≤ 57343)))

@[irreducible] def u8head (c : UInt8) (r : List UInt8) : Option Nat :=
  if (c.toNat : Int) < 128 then some 0 else match lead c.toNat with
    | none => none
    | some (n, least, v0) => if r.length < n then none else match cv r v0 n with
      | none => none
      | some v => if badV v least then none else some n

/-- is a text UTF-8? -/
def u8F : Nat → List UInt8 → Bool
  | _, [] => true
  | 0, _ :: _ => false
  | f + 1, c :: r => match u8head c r with
    | none => false
    | some n => u8F f (r.drop n)

def u8 (s : List UInt8) : Bool := u8F s.length s

theorem u8F_step (f : Nat) (c : UInt8) (r : List UInt8) : u8F (f + 1) (c :: r) = match u8head c r with | none => false | some n => u8F f (r.drop n) := rfl

theorem u8F_more : ∀ (f : Nat) (s : List UInt8), s.length ≤ f → ∀ g, s.length ≤ g → u8F f s = u8F g s
  | f, [], _, g, _ => by cases f <;> cases g <;> rfl
  | 0, _ :: _, h, _, _ => absurd h (by rw [List.length_cons]; omega)
  | f + 1, c :: r, h, 0, hg => absurd hg (by rw [List.length_cons]; omega)
  | f + 1, c :: r, h, g + 1, hg => by
    rw [u8F_step, u8F_step]
    generalize u8head c r = x
    cases x with
    | none => rfl
    | some n => exact u8F_more f (r.drop n) (by rw [List.length_cons] at h; rw [List.length_drop]; omega) g (by rw [List.length_cons] at hg; rw [List.length_drop]; omega)

theorem u8_nil : u8 [] = true := rfl
theorem u8_cons (c : UInt8) (r : List UInt8) : u8 (c :: r) = match u8head c r with | none => false | some n => u8 (r.drop n) := by
  unfold u8
  rw [List.length_cons, u8F_step]
  generalize u8head c r = x
  cases x with
  | none => rfl
  | some n => exact u8F_more _ _ (by rw [List.length_drop]; omega) _ (Nat.le_refl _)

theorem cv_none {r : List UInt8} {v0 : Int} {k : Nat} (h : cv r v0 k = none) : ∀ {m : Nat}, k ≤ m → cv r v0 m = none
  | 0, hm => by
    have : k = 0 := by omega
    subst this; exact h
  | m + 1, hm => by
    rcases Nat.lt_or_ge k (m + 1) with hk | hk
    · have := cv_none h (m := m) (by omega)
      simp [cv, this]
    · have : k = m + 1 := by omega
      subst this; exact h

theorem cv_bound {r : List UInt8} {v0 : Int} (h0 : 0 ≤ v0 ∧ v0 < 32) : ∀ {k : Nat} {v : Int}, cv r v0 k = some v → 0 ≤ v ∧ v < 32 * 64 ^ k
  | 0, v, h => by simp [cv] at h; subst h; omega
  | k + 1, v, h => by
    unfold cv at h
    split at h <;> try (cases h; done)
    rename_i w d hw hd
    have := cv_bound h0 hw
    split at h <;> try (cases h; done)
    rename_i hdd
    simp at h
    rw [Int.pow_succ]
    omega

theorem lead_ok {c : Int} {n : Nat} {least v0 : Int} (h : lead c = some (n, least, v0)) : 1 ≤ n ∧ n ≤ 3 ∧ 0 ≤ v0 ∧ v0 < 32 := by
  unfold lead at h
  repeat' split at h
  all_goals first | (cases h; done) | (simp at h; omega)

end Go.Proofs.YtokifgdmddnpoaaGreatDoorPg

/- A schema that may be, made of any. -/
namespace Go.Proofs.YtokifgdmddnpoaaGreatDoorPg
open Go Go.RowKit

def poolS : List (List UInt8) := [[105, 100], [110, 97, 109, 101], [110], [102, 108, 97, 103], [114, 97, 119], [120]]

/-- a number from 0 on, of any -/
def natI (k : Int) : Int := if k < 0 then IntKind.i64.wrap (0 - IntKind.i64.wrap (k + 1)) else k
def gKind (k : Int) : Int := IntKind.i64.wrap (1 + (natI k).tmod 4)

def gName (ok : List UInt8 → Bool) (out : List Col) (i : Nat) (c : Col) : List UInt8 :=
  if ok c.n = false ∨ 0 ≤ fnd c.n out 0 then poolS.getD i [] else c.n

def stepG (ok : List UInt8 → Bool) (out : List Col) (i : Nat) (c : Col) : List Col :=
  if fnd (gName ok out i c) out 0 < 0 then out ++ [⟨gName ok out i c, gKind c.k, c.o⟩] else out

def gN (ok : List UInt8 → Bool) (l : List Col) : Nat → List Col
  | 0 => []
  | i + 1 => match l[i]? with
    | some c => stepG ok (gN ok l i) i c
    | none => gN ok l i

/-- the columns, before their keys are cleared -/
def gCols (ok : List UInt8 → Bool) (l : List Col) : List Col :=
  match gN ok l (min l.length 6) with
  | [] => [⟨[105, 100], 2, false⟩]
  | g => g

def gKeys (n : Nat) (keys : Int) : Int := IntKind.i64.wrap (1 + (natI keys).tmod ((min n 3 : Nat) : Int))

def clearK : Nat → List Col → List Col
  | 0, l => l
  | _, [] => []
  | k + 1, c :: l => { c with o := false } :: clearK k l

def goodL (ok : List UInt8 → Bool) (l : List Col) (keys : Int) : List Col := clearK (gKeys (gCols ok l).length keys).toNat (gCols ok l)
def goodK (ok : List UInt8 → Bool) (l : List Col) (keys : Int) : Int := gKeys (gCols ok l).length keys

theorem natI_nonneg {k : Int} (h : -9223372036854775808 ≤ k ∧ k ≤ 9223372036854775807) : 0 ≤ natI k ∧ natI k ≤ 9223372036854775807 := by
  unfold natI
  split
  · have e1 : IntKind.i64.wrap (k + 1) = k + 1 := by rw [IntKind.wrap_i64]; omega
    have e2 : IntKind.i64.wrap (0 - (k + 1)) = - (k + 1) := by rw [IntKind.wrap_i64]; omega
    rw [e1, e2]; omega
  · omega

theorem gKind_ok {k : Int} (h : -9223372036854775808 ≤ k ∧ k ≤ 9223372036854775807) : 1 ≤ gKind k ∧ gKind k ≤ 4 := by
  have h1 := natI_nonneg h
  unfold gKind
  rw [IntKind.wrap_i64, Int.tmod_eq_emod_of_nonneg h1.1]
  omega

theorem gKeys_ok {n : Nat} (hn : 1 ≤ n) {k : Int} (h : -9223372036854775808 ≤ k ∧ k ≤ 9223372036854775807) : 1 ≤ gKeys n k ∧ gKeys n k ≤ 3 ∧ gKeys n k ≤ n := by
  have h1 := natI_nonneg h
  unfold gKeys
  rw [IntKind.wrap_i64, Int.tmod_eq_emod_of_nonneg h1.1]
  have h2 : 0 < ((min n 3 : Nat) : Int) := by omega
  have h3 := Int.emod_lt_of_pos (natI k) h2
  have h4 := Int.emod_nonneg (natI k) (show ((min n 3 : Nat) : Int) ≠ 0 by omega)
  generalize natI k % ((min n 3 : Nat) : Int) = r at *
  omega

theorem gN_len (ok : List UInt8 → Bool) (l : List Col) : ∀ i, (gN ok l i).length ≤ i
  | 0 => by simp [gN]
  | i + 1 => by
    have := gN_len ok l i
    unfold gN
    split
    · unfold stepG; split <;> simp <;> omega
    · omega

theorem gCols_len (ok : List UInt8 → Bool) (l : List Col) : 1 ≤ (gCols ok l).length ∧ (gCols ok l).length ≤ 6 := by
  have := gN_len ok l (min l.length 6)
  unfold gCols
  split
  · simp
  · rename_i h
    constructor
    · cases hg : gN ok l (min l.length 6) with
      | nil => exact absurd hg h
      | cons => simp
    · omega

theorem clearK_len : ∀ (k : Nat) (l : List Col), (clearK k l).length = l.length
  | 0, l => by simp [clearK]
  | _ + 1, [] => by simp [clearK]
  | k + 1, c :: l => by simp [clearK, clearK_len k l]

theorem clearK_get : ∀ (k : Nat) (l : List Col) (i : Nat), (clearK k l)[i]? = (l[i]?).map fun c => if i < k then { c with o := false } else c
  | 0, l, i => by simp [clearK]
  | _ + 1, [], i => by simp [clearK]
  | k + 1, c :: l, 0 => by simp [clearK]
  | k + 1, c :: l, i + 1 => by simp [clearK, clearK_get k l i]

theorem clearK_snoc {k : Nat} {l : List Col} {c : Col} (h : l[k]? = some c) : (clearK k l).set k { c with o := false } = clearK (k + 1) l := by
  refine List.ext_getElem? fun i => ?_
  rw [clearK_get, List.getElem?_set, clearK_len, clearK_get]
  have hlt := (List.getElem?_eq_some_iff.1 h).1
  by_cases e : k = i
  · subst e
    have e2 := (List.getElem?_eq_some_iff.1 h).2
    simp [hlt, e2]
  · rw [if_neg e]
    by_cases g : i < k
    · have g2 : i < k + 1 := by omega
      cases l[i]? <;> simp [g, g2]
    · have g2 : ¬ i < k + 1 := by omega
      cases l[i]? <;> simp [g, g2]

end Go.Proofs.YtokifgdmddnpoaaGreatDoorPg

/- Values that may be, and rows. -/
namespace Go.Proofs.YtokifgdmddnpoaaGreatDoorPg
open Go Go.RowKit

def mayV (v : Val) : Bool :=
  if v.k = 0 then decide (v.n = 0) && decide (v.t = [])
  else if v.k = 1 then decide (v.t = []) && (decide (v.n = 0) || decide (v.n = 1))
  else if v.k = 2 then decide (v.t = [])
  else if v.k = 3 then u8 v.t && decide (v.n = 0) && decide ((v.t.length : Int) ≤ 4096)
  else if v.k = 4 then decide (v.n = 0) && decide ((v.t.length : Int) ≤ 4096)
  else false

def standsV (c : Col) (v : Val) : Bool := mayV v && (decide (v.k = c.k) || (decide (v.k = 0) && c.o))

def text40 (t : List UInt8) : List UInt8 := if 40 < t.length then t.take 40 else t

def goodK5 (k : Int) : Int := (natI k).tmod 5

def goodV (v : Val) : Val :=
  if goodK5 v.k = 1 then ⟨goodK5 v.k, if v.n.tmod 2 = 0 then 0 else 1, []⟩
  else if goodK5 v.k = 2 then ⟨goodK5 v.k, v.n, []⟩
  else if goodK5 v.k = 3 then ⟨goodK5 v.k, 0, if u8 (text40 v.t) then text40 v.t else []⟩
  else if goodK5 v.k = 4 then ⟨goodK5 v.k, 0, text40 v.t⟩
  else ⟨goodK5 v.k, 0, []⟩

/-- a value of a row, for a column -/
def rowV (c : Col) (v : Val) : Val := if c.o = true ∧ v.k.tmod 3 = 0 then val0 else goodV { v with k := c.k }

def rowN (l : List Col) (vs : List Val) : Nat → List Val
  | 0 => []
  | i + 1 => match l[i]? with
    | some c => rowN l vs i ++ [rowV c (vs.getD i val0)]
    | none => rowN l vs i

def rowL (l : List Col) (vs : List Val) : List Val := rowN l vs l.length

theorem rowN_len (l : List Col) (vs : List Val) : ∀ i, i ≤ l.length → (rowN l vs i).length = i
  | 0, _ => rfl
  | i + 1, h => by
    have := rowN_len l vs i (by omega)
    have hg : l[i]? = some l[i] := List.getElem?_eq_getElem (by omega)
    simp [rowN, hg, this]

theorem rowN_get (l : List Col) (vs : List Val) : ∀ i, i ≤ l.length → ∀ j, j < i → (rowN l vs i)[j]? = (l[j]?).map fun c => rowV c (vs.getD j val0)
  | 0, _, j, hj => by omega
  | i + 1, h, j, hj => by
    have hl := rowN_len l vs i (by omega)
    have hg : l[i]? = some l[i] := List.getElem?_eq_getElem (by omega)
    simp only [rowN, hg]
    rcases Nat.lt_or_ge j i with h1 | h1
    · rw [List.getElem?_append_left (by omega)]; exact rowN_get l vs i (by omega) j h1
    · have e : j = i := by omega
      subst e
      rw [List.getElem?_append_right (by omega), hl, hg]
      simp

theorem rowL_len (l : List Col) (vs : List Val) : (rowL l vs).length = l.length := rowN_len l vs _ (Nat.le_refl _)
theorem rowL_get (l : List Col) (vs : List Val) {j : Nat} {c : Col} (h : l[j]? = some c) : (rowL l vs)[j]? = some (rowV c (vs.getD j val0)) := by
  have := rowN_get l vs _ (Nat.le_refl _) j (List.getElem?_eq_some_iff.1 h).1
  rw [rowL, this, h]; rfl

theorem text40_len (t : List UInt8) : (text40 t).length ≤ 40 := by
  unfold text40; split
  · rw [List.length_take]; omega
  · omega

theorem tmod5 {k : Int} (h : 1 ≤ k ∧ k ≤ 4) : goodK5 k = k := by
  unfold goodK5 natI
  rw [if_neg (by omega), Int.tmod_eq_emod_of_nonneg (by omega)]
  omega

theorem good_stands {c : Col} (hc : 1 ≤ c.k ∧ c.k ≤ 4) (v : Val) : standsV c (rowV c v) = true := by
  unfold rowV
  split
  · rename_i h
    unfold standsV mayV val0
    simp [h.1]
  · have e := tmod5 hc
    have hk : (goodV { v with k := c.k }).k = c.k := by
      unfold goodV; simp only [e]
      repeat' split
      all_goals rfl
    unfold standsV
    rw [hk]
    have : mayV (goodV { v with k := c.k }) = true := by
      have h40 := text40_len v.t
      unfold mayV
      rw [hk]
      unfold goodV
      simp only [e]
      rcases (by omega : c.k = 1 ∨ c.k = 2 ∨ c.k = 3 ∨ c.k = 4) with h | h | h | h
      · simp [h]
      · simp [h]
      · simp only [h]
        by_cases hu : u8 (text40 v.t) = true
        · simp [hu]; omega
        · simp [hu, u8_nil]
      · simp [h]; omega
    rw [this]
    simp

/-- does the value at a place stand? -/
def stAt (l : List Col) (vs : List Val) (i : Nat) : Bool := match l[i]?, vs[i]? with
  | some c, some v => standsV c v
  | _, _ => true

theorem stAt_some {l : List Col} {vs : List Val} {i : Nat} {c : Col} {v : Val} (hc : l[i]? = some c) (hv : vs[i]? = some v) : stAt l vs i = standsV c v := by unfold stAt; rw [hc, hv]
theorem stAt_yes {l : List Col} {vs : List Val} {i : Nat} (h : ∀ (c : Col) (v : Val), l[i]? = some c → vs[i]? = some v → standsV c v = true) : stAt l vs i = true := by
  unfold stAt
  split
  · rename_i c v hc hv; exact h c v hc hv
  · rfl

/-- the values fit the columns, from the first on -/
def fitsL (l : List Col) (vs : List Val) : Bool := decide (vs.length = l.length) && (List.range vs.length).all (stAt l vs)

def keyOkL (l : List Col) (keys : Nat) (vs : List Val) : Bool := decide (keys ≤ vs.length) && (List.range keys).all (stAt l vs)

theorem fits_yes {l : List Col} {vs : List Val} (hl : vs.length = l.length) (h : ∀ (i : Nat) (c : Col) (v : Val), l[i]? = some c → vs[i]? = some v → standsV c v = true) : fitsL l vs = true := by
  unfold fitsL
  rw [decide_eq_true hl, Bool.true_and, List.all_eq_true]
  intro i _
  exact stAt_yes (h i)

theorem row_fits {l : List Col} (hl : ∀ c ∈ l, 1 ≤ c.k ∧ c.k ≤ 4) (vs : List Val) : fitsL l (rowL l vs) = true :=
  fits_yes (rowL_len l vs) fun i c v hc hv => by
    rw [rowL_get l vs hc] at hv
    cases hv
    exact good_stands (hl c (List.mem_of_getElem? hc)) _

end Go.Proofs.YtokifgdmddnpoaaGreatDoorPg

/- Keys of values: their bytes. -/
namespace Go.Proofs.YtokifgdmddnpoaaGreatDoorPg
open Go Go.RowKit

def bs (l : List UInt8) : List (List V) := l.map fun b => [.int .u8 (b.toNat : Int)]
theorem bs_len (l : List UInt8) : (bs l).length = l.length := by simp [bs]
theorem bs_app (a b : List UInt8) : bs (a ++ b) = bs a ++ bs b := by simp [bs]

theorem bytesOfEs_bs : ∀ l : List UInt8, bytesOfEs (bs l) = some l
  | [] => rfl
  | b :: l => by
    have := bytesOfEs_bs l
    simp only [bs, List.map_cons] at this ⊢
    simp only [bytesOfEs, this]
    simp

/-- a byte of a number -/
def b8 (n : Int) : UInt8 := UInt8.ofNat (n % 256).toNat

theorem b8_wrap (n : Int) : IntKind.u8.wrap n = ((b8 n).toNat : Int) := by
  have e : IntKind.u8.wrap n = n % 256 := by
    simp [IntKind.wrap, IntKind.bits, IntKind.signed]
  rw [e, b8]
  have h1 : 0 ≤ n % 256 := by omega
  have h2 : n % 256 < 256 := by omega
  generalize n % 256 = m at *
  have : (UInt8.ofNat m.toNat).toNat = m.toNat := by
    rw [UInt8.toNat_ofNat']; omega
  rw [this]; omega

/-- a number, shifted -/
def beS (m : Int) : Nat → Int
  | 0 => m
  | k + 1 => IntKind.u64.wrap (beS m k * 256)

def beB (m : Int) : Nat → List UInt8
  | 0 => []
  | k + 1 => beB m k ++ [b8 (IntKind.u64.wrap ((beS m k).tdiv 72057594037927936))]

theorem beB_len (m : Int) : ∀ k, (beB m k).length = k
  | 0 => rfl
  | k + 1 => by simp [beB, beB_len m k]

def escB (b : UInt8) : List UInt8 := if b = 0 then [b, 255] else [b]
def escL (t : List UInt8) : List UInt8 := t.flatMap escB

theorem escL_snoc {t : List UInt8} {j : Nat} {b : UInt8} (h : t[j]? = some b) : escL (t.take (j + 1)) = escL (t.take j) ++ escB b := by
  rw [List.take_add_one, h]; simp [escL]

theorem escL_len : ∀ t : List UInt8, (escL t).length ≤ 2 * t.length
  | [] => by simp [escL]
  | b :: t => by
    have := escL_len t
    have e : escL (b :: t) = escB b ++ escL t := by simp [escL]
    have hb : (escB b).length ≤ 2 := by unfold escB; split <;> simp
    rw [e, List.length_append, List.length_cons]; omega

def keyM (n : Int) : Int := IntKind.u64.wrap (IntKind.u64.wrap n + 9223372036854775808)

def keyT (v : Val) : List UInt8 :=
  if v.k = 1 then [b8 v.n] else if v.k = 2 then beB (keyM v.n) 8 else if v.k = 3 ∨ v.k = 4 then escL v.t ++ [0, 1] else []

def keyV (v : Val) : List UInt8 := b8 v.k :: keyT v
def keyS (l : List Val) : List UInt8 := l.flatMap keyV

theorem keyS_snoc {l : List Val} {i : Nat} {v : Val} (h : l[i]? = some v) : keyS (l.take (i + 1)) = keyS (l.take i) ++ keyV v := by
  rw [List.take_add_one, h]; simp [keyS]

theorem keyV_len {v : Val} (h : v.t.length ≤ 4096) : (keyV v).length ≤ 9000 := by
  unfold keyV keyT
  have := escL_len v.t
  rw [List.length_cons]
  repeat' split
  all_goals first
    | (rw [beB_len]; omega)
    | (rw [List.length_append]; simp only [List.length_cons, List.length_nil]; omega)
    | (simp only [List.length_cons, List.length_nil]; omega)

theorem keyS_len : ∀ {l : List Val}, (∀ v ∈ l, v.t.length ≤ 4096) → (keyS l).length ≤ 9000 * l.length
  | [], _ => by simp [keyS]
  | v :: l, h => by
    have h1 := keyV_len (h v (by simp))
    have h2 := keyS_len (l := l) fun w hw => h w (by simp [hw])
    have e : keyS (v :: l) = keyV v ++ keyS l := by simp [keyS]
    rw [e, List.length_append, List.length_cons]; omega

theorem may_text {v : Val} (h : mayV v = true) : v.t.length ≤ 4096 := by
  unfold mayV at h
  repeat' split at h
  all_goals simp at h
  · rw [h.2]; simp
  · rw [h.1]; simp
  · rw [h]; simp
  · omega
  · omega

theorem stands_text {c : Col} {v : Val} (h : standsV c v = true) : v.t.length ≤ 4096 := by
  unfold standsV at h
  rw [Bool.and_eq_true] at h
  exact may_text h.1

end Go.Proofs.YtokifgdmddnpoaaGreatDoorPg

/- Keys of values: a number's bytes, shifted. -/
namespace Go.Proofs.YtokifgdmddnpoaaGreatDoorPg
open Go Go.RowKit

theorem xor_top {a : Nat} (h : a < 18446744073709551616) : a ^^^ 9223372036854775808 = (a + 9223372036854775808) % 18446744073709551616 := by
  have key : ∀ r : Nat, r < 2 ^ 63 → r ^^^ 2 ^ 63 = 2 ^ 63 * 1 + r := fun r hr => by
    apply Nat.eq_of_testBit_eq
    intro j
    rw [Nat.testBit_xor, Nat.testBit_two_pow_mul_add 1 hr, Nat.testBit_two_pow]
    by_cases h1 : j < 63
    · rw [if_pos h1]
      have : ¬ 63 = j := by omega
      simp [this]
    · rw [if_neg h1]
      have h2 : r.testBit j = false := Nat.testBit_lt_two_pow (Nat.lt_of_lt_of_le hr (Nat.pow_le_pow_right (by decide) (by omega)))
      rw [h2]
      by_cases h3 : j = 63
      · subst h3; rfl
      · obtain ⟨k, hk⟩ : ∃ k, j - 63 = k + 1 := ⟨j - 64, by omega⟩
        rw [hk]
        have : ¬ 63 = j := by omega
        simp [this]
        exact (Nat.testBit_lt_two_pow (x := 1) (i := k + 1) (Nat.one_lt_two_pow (by omega)))
  have e63 : (2 : Nat) ^ 63 = 9223372036854775808 := by decide
  rw [e63] at key
  by_cases c : a < 9223372036854775808
  · rw [key a c]; omega
  · have h1 := key (a - 9223372036854775808) (by omega)
    have h2 : a = (a - 9223372036854775808) ^^^ 9223372036854775808 := by rw [h1]; omega
    rw [h2, Nat.xor_assoc, Nat.xor_self, Nat.xor_zero, ← h2]
    omega

theorem wrap_u64 (n : Int) : IntKind.u64.wrap n = n % 18446744073709551616 := by
  simp [IntKind.wrap, IntKind.bits, IntKind.signed]

theorem keyM_bd (n : Int) : 0 ≤ keyM n ∧ keyM n < 18446744073709551616 := by
  unfold keyM; rw [wrap_u64]; omega

theorem xor_keyM (n : Int) : IntKind.u64.wrap ↑((BitVec.ofInt IntKind.u64.bits (IntKind.u64.wrap n)).toNat ^^^ (9223372036854775808#IntKind.u64.bits).toNat) = keyM n := by
  have e1 : (BitVec.ofInt IntKind.u64.bits (IntKind.u64.wrap n)).toNat = (n % 18446744073709551616).toNat := by
    rw [wrap_u64]
    show (BitVec.ofInt 64 _).toNat = _
    rw [BitVec.toNat_ofInt]
    have : (2 : Int) ^ 64 = 18446744073709551616 := by decide
    omega
  have e2 : (9223372036854775808#IntKind.u64.bits).toNat = 9223372036854775808 := rfl
  rw [e1, e2, xor_top (by omega), wrap_u64]
  unfold keyM
  rw [wrap_u64, wrap_u64]
  omega

theorem xor_keyB (n : Int) : IntKind.u64.wrap ↑(BitVec.ofInt IntKind.u64.bits (IntKind.u64.wrap n) ^^^ BitVec.ofInt IntKind.u64.bits 9223372036854775808).toNat = keyM n := by
  rw [← xor_keyM n, BitVec.toNat_xor]
  rfl

theorem b8_mod {x y : Int} (h : x % 256 = y % 256) : b8 x = b8 y := by unfold b8; rw [h]

theorem byte_eq (n : Int) (j : Nat) (hj : j < 8) : b8 ((keyM n).fdiv (2 ^ min (IntKind.i64.wrap (8 * IntKind.i64.wrap (7 - (j : Int)))).toNat IntKind.u64.bits)) = b8 (IntKind.u64.wrap ((beS (keyM n) j).tdiv 72057594037927936)) := by
  obtain ⟨h0, h1⟩ := keyM_bd n
  generalize keyM n = m at *
  apply b8_mod
  rw [wrap_u64]
  have e : (IntKind.i64.wrap (8 * IntKind.i64.wrap (7 - (j : Int)))).toNat = 56 - 8 * j := by
    rw [IntKind.wrap_i64, IntKind.wrap_i64]; omega
  rw [e]
  have e2 : min (56 - 8 * j) IntKind.u64.bits = 56 - 8 * j := by show min (56 - 8 * j) 64 = _; omega
  rw [e2]
  have nn : ∀ k, 0 ≤ beS m k := fun k => by
    cases k with
    | zero => exact h0
    | succ k => unfold beS; rw [wrap_u64]; omega
  rw [Int.tdiv_eq_ediv_of_nonneg (nn j)]
  have hp : ∀ k : Nat, (0 : Int) ≤ 2 ^ k := fun k => Int.le_of_lt (Int.pow_pos (by decide))
  rw [Int.fdiv_eq_ediv_of_nonneg _ (hp _)]
  clear nn e e2
  obtain rfl | rfl | rfl | rfl | rfl | rfl | rfl | rfl : j = 0 ∨ j = 1 ∨ j = 2 ∨ j = 3 ∨ j = 4 ∨ j = 5 ∨ j = 6 ∨ j = 7 := by omega
  · have hq : (2 : Int) ^ (56 - 8 * 0) = 72057594037927936 := by decide
    rw [hq]
    simp only [beS]
    omega
  · have hq : (2 : Int) ^ (56 - 8 * 1) = 281474976710656 := by decide
    rw [hq]
    simp only [beS, wrap_u64]
    omega
  · have hq : (2 : Int) ^ (56 - 8 * 2) = 1099511627776 := by decide
    rw [hq]
    simp only [beS, wrap_u64]
    omega
  · have hq : (2 : Int) ^ (56 - 8 * 3) = 4294967296 := by decide
    rw [hq]
    simp only [beS, wrap_u64]
    omega
  · have hq : (2 : Int) ^ (56 - 8 * 4) = 16777216 := by decide
    rw [hq]
    simp only [beS, wrap_u64]
    omega
  · have hq : (2 : Int) ^ (56 - 8 * 5) = 65536 := by decide
    rw [hq]
    simp only [beS, wrap_u64]
    omega
  · have hq : (2 : Int) ^ (56 - 8 * 6) = 256 := by decide
    rw [hq]
    simp only [beS, wrap_u64]
    omega
  · have hq : (2 : Int) ^ (56 - 8 * 7) = 1 := by decide
    rw [hq]
    simp only [beS, wrap_u64]
    omega

end Go.Proofs.YtokifgdmddnpoaaGreatDoorPg

/- Keys of values: what they are read as. -/
namespace Go.Proofs.YtokifgdmddnpoaaGreatDoorPg
open Go Go.RowKit

/-- the text at the beginning of a key, what is left, whether there is one -/
def tx (acc : List UInt8) : List UInt8 → List UInt8 × List UInt8 × Bool
  | [] => ([], [], false)
  | [_] => ([], [], false)
  | c :: d :: r => if c = 0 then (if d = 1 then (acc, r, true) else if d = 255 then tx (acc ++ [0]) r else ([], [], false)) else tx (acc ++ [c]) (d :: r)

theorem tx_short {acc l : List UInt8} (h : l.length ≤ 1) : tx acc l = ([], [], false) := by
  match l, h with
  | [], _ => simp [tx]
  | [_], _ => simp [tx]

theorem tx_len : ∀ (n : Nat) (acc l : List UInt8), l.length ≤ n → (tx acc l).1.length ≤ acc.length + l.length ∧ (tx acc l).2.1.length ≤ l.length
  | 0, acc, l, h => by
    have : l = [] := List.eq_nil_of_length_eq_zero (by omega)
    subst this; simp [tx]
  | n + 1, acc, [], h => by simp [tx]
  | n + 1, acc, [_], h => by simp [tx]
  | n + 1, acc, c :: d :: r, h => by
    simp only [List.length_cons] at h
    unfold tx
    split
    · split
      · simp only [List.length_cons]; omega
      · split
        · have := tx_len n (acc ++ [0]) r (by omega)
          simp only [List.length_append, List.length_cons, List.length_nil] at this ⊢; omega
        · simp only [List.length_nil]; omega
    · have := tx_len n (acc ++ [c]) (d :: r) (by simp only [List.length_cons]; omega)
      simp only [List.length_append, List.length_cons, List.length_nil] at this ⊢; omega

theorem tx_esc (rest : List UInt8) : ∀ (t acc : List UInt8), tx acc (escL t ++ 0 :: 1 :: rest) = (acc ++ t, rest, true)
  | [], acc => by simp [escL, tx]
  | b :: t, acc => by
    have e : escL (b :: t) = escB b ++ escL t := by simp [escL]
    rw [e]
    unfold escB
    by_cases hb : b = 0
    · subst hb
      rw [if_pos rfl]
      simp only [List.cons_append, List.nil_append]
      rw [tx, if_pos rfl, if_neg (by decide), if_pos rfl, tx_esc rest t]
      simp
    · rw [if_neg hb]
      simp only [List.cons_append, List.nil_append]
      obtain ⟨d, r, hd⟩ : ∃ d r, escL t ++ 0 :: 1 :: rest = d :: r := by
        cases hx : escL t with
        | nil => exact ⟨_, _, rfl⟩
        | cons x y => exact ⟨_, _, rfl⟩
      rw [hd, tx, if_neg hb, ← hd, tx_esc rest t]
      simp

theorem tx_back : ∀ (n : Nat) (acc l a r : List UInt8), l.length ≤ n → tx acc l = (a, r, true) → ∃ t, a = acc ++ t ∧ l = escL t ++ 0 :: 1 :: r
  | 0, acc, l, a, r, h, hx => by
    have : l = [] := List.eq_nil_of_length_eq_zero (by omega)
    subst this; simp [tx] at hx
  | n + 1, acc, [], a, r, h, hx => by simp [tx] at hx
  | n + 1, acc, [_], a, r, h, hx => by simp [tx] at hx
  | n + 1, acc, c :: d :: q, a, r, h, hx => by
    simp only [List.length_cons] at h
    unfold tx at hx
    split at hx
    · rename_i hc
      subst hc
      split at hx
      · rename_i hd
        subst hd
        cases hx
        exact ⟨[], by simp, by simp [escL]⟩
      · split at hx
        · rename_i hd
          subst hd
          obtain ⟨t, e1, e2⟩ := tx_back n (acc ++ [0]) q a r (by omega) hx
          refine ⟨0 :: t, by rw [e1]; simp, ?_⟩
          have e : escL (0 :: t) = [0, 255] ++ escL t := by simp [escL, escB]
          rw [e, e2]; simp
        · simp at hx
    · rename_i hc
      obtain ⟨t, e1, e2⟩ := tx_back n (acc ++ [c]) (d :: q) a r (by simp only [List.length_cons]; omega) hx
      refine ⟨c :: t, by rw [e1]; simp, ?_⟩
      have e : escL (c :: t) = [c] ++ escL t := by simp [escL, escB, hc]
      rw [e, e2]; simp

/-- a number of bytes -/
def deB (l : List UInt8) : Int := l.foldl (fun n b => n * 256 + (b.toNat : Int)) 0

/-- the value at the beginning of a key, what is left, whether there is one -/
def oneP (c : UInt8) (r : List UInt8) : Val × List UInt8 × Bool :=
  if (c.toNat : Int) = 1 then (⟨1, ((r.headD 0).toNat : Int), []⟩, r.tail, decide (r ≠ []))
  else if (c.toNat : Int) = 2 then (if 8 ≤ r.length then (⟨2, deB (r.take 8) - 9223372036854775808, []⟩, r.drop 8, true) else (⟨2, 0, []⟩, r, false))
  else if (c.toNat : Int) = 3 ∨ (c.toNat : Int) = 4 then (⟨c.toNat, 0, (tx [] r).1⟩, (tx [] r).2.1, (tx [] r).2.2)
  else (⟨c.toNat, 0, []⟩, r, true)

def oneT : List UInt8 → Val × List UInt8 × Bool
  | [] => (val0, [], false)
  | c :: r => ((oneP c r).1, (oneP c r).2.1, (oneP c r).2.2 && mayV (oneP c r).1)

def valuesF : Nat → List Val → List UInt8 → Option (List Val)
  | 0, _, _ => none
  | f + 1, acc, s => if s = [] then some acc else if (oneT s).2.2 then valuesF f (acc ++ [(oneT s).1]) (oneT s).2.1 else none

def valuesL (s : List UInt8) : Option (List Val) := valuesF (s.length + 1) [] s

theorem oneP_len (c : UInt8) (r : List UInt8) : (oneP c r).2.1.length ≤ r.length ∧ (oneP c r).1.t.length ≤ r.length := by
  unfold oneP
  have := tx_len r.length [] r (Nat.le_refl _)
  simp only [List.length_nil] at this
  repeat' split
  all_goals simp only [List.length_tail, List.length_drop, List.length_nil]
  all_goals omega

theorem oneT_len {s : List UInt8} (h : s ≠ []) : (oneT s).2.1.length < s.length ∧ (oneT s).1.t.length ≤ s.length := by
  cases s with
  | nil => exact absurd rfl h
  | cons c r =>
    have := oneP_len c r
    simp only [oneT, List.length_cons]
    omega

theorem deB_be {m : Int} (h0 : 0 ≤ m) (h1 : m < 18446744073709551616) : deB (beB m 8) = m := by
  have bt : ∀ x : Int, ((b8 x).toNat : Int) = x % 256 := fun x => by rw [← b8_wrap]; simp [IntKind.wrap, IntKind.bits, IntKind.signed]
  have nn : ∀ k, 0 ≤ beS m k := fun k => by
    cases k with
    | zero => exact h0
    | succ k => unfold beS; rw [wrap_u64]; omega
  have fold : ∀ (l : List UInt8) (b : UInt8), deB (l ++ [b]) = deB l * 256 + (b.toNat : Int) := fun l b => by simp [deB, List.foldl_append]
  have z0 : beS m 0 = m := rfl
  have st : ∀ k, beS m (k + 1) = (beS m k * 256) % 18446744073709551616 := fun k => by rw [beS, wrap_u64]
  have sd : ∀ k, deB (beB m (k + 1)) = deB (beB m k) * 256 + (beS m k / 72057594037927936) % 256 := fun k => by
    rw [beB, fold, bt, wrap_u64, Int.tdiv_eq_ediv_of_nonneg (nn k)]
    have := nn k
    generalize beS m k = y at *
    omega
  have y0 : deB (beB m 0) = 0 := rfl
  clear nn bt fold
  have s1 := st 0
  rw [z0] at s1
  have z1 : beS m 1 = (m * 256) % 18446744073709551616 := by rw [s1]
  have y1 : deB (beB m 1) = m / 72057594037927936 := by
    rw [sd 0, y0, z0]; omega
  have s2 := st 1
  rw [z1] at s2
  have z2 : beS m 2 = (m * 65536) % 18446744073709551616 := by rw [s2]; omega
  have y2 : deB (beB m 2) = m / 281474976710656 := by
    rw [sd 1, y1, z1]; omega
  have s3 := st 2
  rw [z2] at s3
  have z3 : beS m 3 = (m * 16777216) % 18446744073709551616 := by rw [s3]; omega
  have y3 : deB (beB m 3) = m / 1099511627776 := by
    rw [sd 2, y2, z2]; omega
  have s4 := st 3
  rw [z3] at s4
  have z4 : beS m 4 = (m * 4294967296) % 18446744073709551616 := by rw [s4]; omega
  have y4 : deB (beB m 4) = m / 4294967296 := by
    rw [sd 3, y3, z3]; omega
  have s5 := st 4
  rw [z4] at s5
  have z5 : beS m 5 = (m * 1099511627776) % 18446744073709551616 := by rw [s5]; omega
  have y5 : deB (beB m 5) = m / 16777216 := by
    rw [sd 4, y4, z4]; omega
  have s6 := st 5
  rw [z5] at s6
  have z6 : beS m 6 = (m * 281474976710656) % 18446744073709551616 := by rw [s6]; omega
  have y6 : deB (beB m 6) = m / 65536 := by
    rw [sd 5, y5, z5]; omega
  have s7 := st 6
  rw [z6] at s7
  have z7 : beS m 7 = (m * 72057594037927936) % 18446744073709551616 := by rw [s7]; omega
  have y7 : deB (beB m 7) = m / 256 := by
    rw [sd 6, y6, z6]; omega
  have s8 := st 7
  rw [z7] at s8
  have z8 : beS m 8 = (m * 18446744073709551616) % 18446744073709551616 := by rw [s8]; omega
  have y8 : deB (beB m 8) = m / 1 := by
    rw [sd 7, y7, z7]; omega
  rw [y8]; omega

set_option maxHeartbeats 4000000 in
theorem be_deB {l : List UInt8} (h : l.length = 8) : beB (deB l) 8 = l ∧ 0 ≤ deB l ∧ deB l < 18446744073709551616 := by
  match l, h with
  | [a, b, c, d, e, f, g, i], _ =>
    have ha := a.toNat_lt; have hb := b.toNat_lt; have hc := c.toNat_lt; have hd := d.toNat_lt; have he := e.toNat_lt; have hf := f.toNat_lt; have hg := g.toNat_lt; have hi := i.toNat_lt
    have hm : deB [a, b, c, d, e, f, g, i] = (((((((a.toNat * 256 + b.toNat) * 256 + c.toNat) * 256 + d.toNat) * 256 + e.toNat) * 256 + f.toNat) * 256 + g.toNat) * 256 + i.toNat : Int) := by
      simp [deB]
    refine ⟨?_, by rw [hm]; omega, by rw [hm]; omega⟩
    generalize hM : deB [a, b, c, d, e, f, g, i] = m at *
    have nn : ∀ k, 0 ≤ beS m k := fun k => by
      cases k with
      | zero => show 0 ≤ m; omega
      | succ k => unfold beS; rw [wrap_u64]; omega
    have bb : ∀ (x : Int) (y : UInt8), x % 256 = y.toNat → b8 x = y := fun x y hx => by
      apply UInt8.toNat_inj.1
      have : ((b8 x).toNat : Int) = x % 256 := by rw [← b8_wrap]; simp [IntKind.wrap, IntKind.bits, IntKind.signed]
      omega
    have step : ∀ k, IntKind.u64.wrap ((beS m k).tdiv 72057594037927936) = (beS m k / 72057594037927936) % 18446744073709551616 := fun k => by
      rw [wrap_u64, Int.tdiv_eq_ediv_of_nonneg (nn k)]
    simp only [beB, List.nil_append, List.cons_append, step]
    clear nn step
    simp only [beS, wrap_u64]
    rw [bb _ a (by omega), bb _ b (by omega), bb _ c (by omega), bb _ d (by omega), bb _ e (by omega), bb _ f (by omega), bb _ g (by omega), bb _ i (by omega)]

def I64V (n : Int) : Prop := -9223372036854775808 ≤ n ∧ n ≤ 9223372036854775807

theorem b8_nat {x : Int} (h : 0 ≤ x ∧ x < 256) : ((b8 x).toNat : Int) = x := by
  rw [← b8_wrap]
  have : IntKind.u8.wrap x = x % 256 := by simp [IntKind.wrap, IntKind.bits, IntKind.signed]
  rw [this]; omega

theorem b8_toNat (c : UInt8) : b8 (c.toNat : Int) = c := by
  apply UInt8.toNat_inj.1
  have := b8_nat (x := c.toNat) ⟨by omega, by have := c.toNat_lt; omega⟩
  omega

theorem keyM_de {n : Int} (h : I64V n) : keyM n - 9223372036854775808 = n := by
  obtain ⟨h1, h2⟩ := h
  unfold keyM; rw [wrap_u64, wrap_u64]; omega

theorem oneT_key {v : Val} (hm : mayV v = true) (hn : I64V v.n) (rest : List UInt8) : oneT (keyV v ++ rest) = (v, rest, true) := by
  obtain ⟨k, n, t⟩ := v
  have hm0 := hm
  unfold mayV at hm
  simp only at hm hn
  have fin : ∀ (c : UInt8) (r : List UInt8), keyV ⟨k, n, t⟩ ++ rest = c :: r → oneP c r = (⟨k, n, t⟩, rest, true) → oneT (keyV ⟨k, n, t⟩ ++ rest) = (⟨k, n, t⟩, rest, true) := fun c r e1 e2 => by
    rw [e1]; simp only [oneT, e2, hm0, Bool.true_and]
  by_cases c0 : k = 0
  · subst c0
    rw [if_pos rfl] at hm
    simp at hm
    obtain ⟨rfl, rfl⟩ := hm
    exact fin 0 rest rfl rfl
  rw [if_neg c0] at hm
  by_cases c1 : k = 1
  · subst c1
    rw [if_pos rfl] at hm
    simp at hm
    obtain ⟨rfl, hm⟩ := hm
    rcases hm with rfl | rfl
    · exact fin 1 (0 :: rest) rfl rfl
    · exact fin 1 (1 :: rest) rfl rfl
  rw [if_neg c1] at hm
  by_cases c2 : k = 2
  · subst c2
    rw [if_pos rfl] at hm
    simp at hm
    subst hm
    refine fin 2 (beB (keyM n) 8 ++ rest) rfl ?_
    have hl := beB_len (keyM n) 8
    unfold oneP
    rw [if_neg (by decide), if_pos (by decide), if_pos (by rw [List.length_append]; omega)]
    rw [List.take_left' hl, List.drop_left' hl, deB_be (keyM_bd n).1 (keyM_bd n).2, keyM_de hn]
  rw [if_neg c2] at hm
  have c34 : (k = 3 ∨ k = 4) ∧ n = 0 := by
    by_cases c3 : k = 3
    · rw [if_pos c3] at hm
      simp at hm
      exact ⟨.inl c3, hm.1.2⟩
    · rw [if_neg c3] at hm
      by_cases c4 : k = 4
      · rw [if_pos c4] at hm
        simp at hm
        exact ⟨.inr c4, hm.1⟩
      · rw [if_neg c4] at hm; cases hm
  obtain ⟨c34, rfl⟩ := c34
  have ek : keyV ⟨k, 0, t⟩ ++ rest = b8 k :: (escL t ++ 0 :: 1 :: rest) := by
    unfold keyV keyT
    rw [if_neg c1, if_neg c2, if_pos c34]
    simp
  refine fin _ _ ek ?_
  have e8 := b8_nat (x := k) (by omega)
  unfold oneP
  rw [e8, if_neg c1, if_neg c2, if_pos c34, tx_esc]
  rfl

theorem oneT_back {s : List UInt8} {v : Val} {r : List UInt8} (h : oneT s = (v, r, true)) : keyV v ++ r = s ∧ mayV v = true := by
  cases s with
  | nil => simp [oneT] at h
  | cons c q =>
    simp only [oneT, Prod.mk.injEq, Bool.and_eq_true] at h
    obtain ⟨h1, h2, h3, h4⟩ := h
    rw [h1] at h4
    refine ⟨?_, h4⟩
    unfold oneP at h1 h2 h3
    by_cases c1 : (c.toNat : Int) = 1
    · rw [if_pos c1] at h1 h2 h3
      subst h1
      simp only [decide_eq_true_eq] at h3
      cases q with
      | nil => exact absurd rfl h3
      | cons d q =>
        simp only [List.tail_cons] at h2
        subst h2
        show b8 1 :: (keyT _ ++ q) = _
        unfold keyT
        rw [if_pos rfl, List.headD_cons, b8_toNat, ← c1, b8_toNat]
        rfl
    rw [if_neg c1] at h1 h2 h3
    by_cases c2 : (c.toNat : Int) = 2
    · rw [if_pos c2] at h1 h2 h3
      by_cases c8 : 8 ≤ q.length
      · rw [if_pos c8] at h1 h2 h3
        subst h1
        simp only at h2
        subst h2
        obtain ⟨g1, g2, g3⟩ := be_deB (l := q.take 8) (by rw [List.length_take]; omega)
        show b8 2 :: (keyT _ ++ _) = _
        unfold keyT
        rw [if_neg (show ¬ (2 : Int) = 1 by decide), if_pos (show (2 : Int) = 2 from rfl)]
        have e : keyM (deB (q.take 8) - 9223372036854775808) = deB (q.take 8) := by
          unfold keyM; rw [wrap_u64, wrap_u64]; omega
        rw [e, g1, List.take_append_drop, ← c2, b8_toNat]
      · rw [if_neg c8] at h3; cases h3
    rw [if_neg c2] at h1 h2 h3
    by_cases c34 : (c.toNat : Int) = 3 ∨ (c.toNat : Int) = 4
    · rw [if_pos c34] at h1 h2 h3
      obtain ⟨t, e1, e2⟩ := tx_back q.length [] q (tx [] q).1 (tx [] q).2.1 (Nat.le_refl _) (by rw [← h3])
      subst h1
      simp only at h2
      subst h2
      show b8 _ :: (keyT _ ++ _) = _
      unfold keyT
      rw [if_neg c1, if_neg c2, if_pos c34, b8_toNat, e1, List.nil_append]
      conv => rhs; rw [e2]
      simp
    rw [if_neg c34] at h1 h2 h3
    simp only at h2
    subst h1 h2
    have hc0 : (c.toNat : Int) = 0 := by
      unfold mayV at h4
      by_cases c0 : (c.toNat : Int) = 0
      · exact c0
      · simp only at h4
        rw [if_neg c0, if_neg c1, if_neg c2, if_neg (fun e => c34 (.inl e)), if_neg (fun e => c34 (.inr e))] at h4
        cases h4
    show b8 _ :: (keyT _ ++ _) = _
    unfold keyT
    rw [if_neg c1, if_neg c2, if_neg c34, b8_toNat]
    rfl

theorem keyV_ne (v : Val) (r : List UInt8) : keyV v ++ r ≠ [] := by unfold keyV; simp

theorem keyS_cons (v : Val) (l : List Val) : keyS (v :: l) = keyV v ++ keyS l := by simp [keyS]

theorem valuesF_key : ∀ (l : List Val) (f : Nat) (acc : List Val), (∀ v ∈ l, mayV v = true ∧ I64V v.n) → (keyS l).length < f → valuesF f acc (keyS l) = some (acc ++ l)
  | l, 0, acc, _, h => by omega
  | [], f + 1, acc, _, _ => by simp [valuesF, keyS]
  | v :: l, f + 1, acc, hm, h => by
    have h1 := hm v (by simp)
    rw [keyS_cons] at h ⊢
    rw [valuesF, if_neg (keyV_ne _ _), oneT_key h1.1 h1.2]
    simp only [if_true]
    rw [valuesF_key l f _ (fun w hw => hm w (by simp [hw])) (by rw [List.length_append] at h; unfold keyV at h; rw [List.length_cons] at h; omega)]
    simp

theorem valuesF_back : ∀ (f : Nat) (acc : List Val) (s : List UInt8) (l : List Val), valuesF f acc s = some l → keyS l = keyS acc ++ s ∧ ((∀ v ∈ acc, mayV v = true) → ∀ v ∈ l, mayV v = true)
  | 0, _, _, _, h => by simp [valuesF] at h
  | f + 1, acc, s, l, h => by
    unfold valuesF at h
    split at h
    · rename_i hs
      cases h
      subst hs
      exact ⟨by simp, fun h => h⟩
    · split at h
      · rename_i ho
        obtain ⟨g1, g2⟩ := oneT_back (s := s) (v := (oneT s).1) (r := (oneT s).2.1) (by rw [← ho])
        obtain ⟨k1, k2⟩ := valuesF_back f _ _ _ h
        refine ⟨?_, fun ha => k2 fun w hw => ?_⟩
        · rw [k1]
          have : keyS (acc ++ [(oneT s).1]) = keyS acc ++ keyV (oneT s).1 := by simp [keyS]
          rw [this, List.append_assoc, g1]
        · rcases List.mem_append.1 hw with h1 | h1
          · exact ha w h1
          · simp at h1; subst h1; exact g2
      · cases h

end Go.Proofs.YtokifgdmddnpoaaGreatDoorPg

/- Keys of values: a number's bytes, read. -/
namespace Go.Proofs.YtokifgdmddnpoaaGreatDoorPg
open Go Go.RowKit

theorem deB_snoc (l : List UInt8) (b : UInt8) : deB (l ++ [b]) = deB l * 256 + (b.toNat : Int) := by simp [deB, List.foldl_append]

theorem deB_take {r : List UInt8} {j : Nat} {b : UInt8} (h : r[j]? = some b) : deB (r.take (j + 1)) = deB (r.take j) * 256 + (b.toNat : Int) := by
  rw [List.take_add_one, h]
  exact deB_snoc _ _

theorem deB_bd : ∀ (r : List UInt8) (j : Nat), j ≤ r.length → 0 ≤ deB (r.take j) ∧ deB (r.take j) < 256 ^ j
  | r, 0, _ => by simp [deB]
  | r, j + 1, h => by
    have hg : r[j]? = some r[j] := List.getElem?_eq_getElem (by omega)
    have ih := deB_bd r j (by omega)
    have hb := (r[j]).toNat_lt
    rw [deB_take hg, Int.pow_succ]
    generalize (256 : Int) ^ j = p at *
    omega

theorem pow_le8 {j : Nat} (h : j < 8) : (256 : Int) ^ j ≤ 72057594037927936 := by
  obtain rfl | rfl | rfl | rfl | rfl | rfl | rfl | rfl : j = 0 ∨ j = 1 ∨ j = 2 ∨ j = 3 ∨ j = 4 ∨ j = 5 ∨ j = 6 ∨ j = 7 := by omega
  all_goals decide

theorem or_step {n : Int} {b : UInt8} (h0 : 0 ≤ n) (h1 : n < 72057594037927936) :
    IntKind.u64.wrap ↑(BitVec.ofInt IntKind.u64.bits (IntKind.u64.wrap (n * 2 ^ min (8 : Int).toNat IntKind.u64.bits)) ||| BitVec.ofInt IntKind.u64.bits (IntKind.u64.wrap (b.toNat : Int))).toNat = n * 256 + (b.toNat : Int) := by
  have hb := b.toNat_lt
  have e0 : (2 : Int) ^ min (8 : Int).toNat IntKind.u64.bits = 256 := by decide
  rw [e0, wrap_u64, wrap_u64, wrap_u64]
  have p64 : (2 : Int) ^ 64 = 18446744073709551616 := by decide
  have e1 : (BitVec.ofInt 64 (n * 256 % 18446744073709551616)).toNat = 2 ^ 8 * n.toNat := by
    rw [BitVec.toNat_ofInt]
    have e8 : (2 : Nat) ^ 8 = 256 := by decide
    omega
  have e2 : (BitVec.ofInt 64 ((b.toNat : Int) % 18446744073709551616)).toNat = b.toNat := by
    rw [BitVec.toNat_ofInt]; omega
  have e3 : (BitVec.ofInt 64 (n * 256 % 18446744073709551616) ||| BitVec.ofInt 64 ((b.toNat : Int) % 18446744073709551616)).toNat = 2 ^ 8 * n.toNat + b.toNat := by
    rw [BitVec.toNat_or, e1, e2, Nat.two_pow_add_eq_or_of_lt (by simpa using hb)]
  show ((BitVec.ofInt 64 (n * 256 % 18446744073709551616) ||| BitVec.ofInt 64 ((b.toNat : Int) % 18446744073709551616)).toNat : Int) % _ = _
  rw [e3]
  have e8 : (2 : Nat) ^ 8 = 256 := by decide
  omega

theorem xor_back {m : Int} (h0 : 0 ≤ m) (h1 : m < 18446744073709551616) : IntKind.i64.wrap (IntKind.u64.wrap ↑(BitVec.ofInt IntKind.u64.bits m ^^^ BitVec.ofInt IntKind.u64.bits 9223372036854775808).toNat) = m - 9223372036854775808 := by
  have e := xor_keyB m
  rw [wrap_u64 m, show m % 18446744073709551616 = m by omega] at e
  rw [e]
  unfold keyM
  rw [wrap_u64, wrap_u64, IntKind.wrap_i64]
  omega

end Go.Proofs.YtokifgdmddnpoaaGreatDoorPg

/- Numbers and texts as bytes, read: plain functions. -/
namespace Go.Proofs.YtokifgdmddnpoaaGreatDoorPg
open Go Go.RowKit

/-- a number of 64 bits at the beginning of bytes, from its digit i on: the number, what is left, the error (4: too few; 2: none) -/
def digF : Nat → Nat → Int → List UInt8 → Int × List UInt8 × Int
  | 0, _, _, _ => (0, [], 2)
  | _ + 1, _, _, [] => (0, [], 4)
  | f + 1, i, n, b :: r =>
    if i = 9 ∧ 1 < b.toNat % 128 then (0, [], 2)
    else if b.toNat < 128 then (if b = 0 ∧ 0 < i then (0, [], 2) else (n + ((b.toNat % 128 : Nat) : Int) * 128 ^ i, r, 0))
    else digF f (i + 1) (n + ((b.toNat % 128 : Nat) : Int) * 128 ^ i) r

/-- .. of the whole -/
def digL (s : List UInt8) : Int × List UInt8 × Int := digF 10 0 0 s

/-- a number below 2^63 -/
def numL (s : List UInt8) : Int × List UInt8 × Int :=
  if (digL s).2.2 = 0 then (if (digL s).1 ≤ 9223372036854775807 then digL s else (0, s, 2)) else (0, s, (digL s).2.2)

/-- a text of at most so many bytes -/
def txtL (most : Int) (s : List UInt8) : List UInt8 × List UInt8 × Int :=
  if (numL s).2.2 = 0 then
    (if most < (numL s).1 then ([], s, 2)
     else if ((numL s).2.1.length : Int) < (numL s).1 then ([], s, 4)
     else ((numL s).2.1.take (numL s).1.toNat, (numL s).2.1.drop (numL s).1.toNat, 0))
  else ([], s, (numL s).2.2)

theorem digF_len : ∀ (f i : Nat) (n : Int) (s : List UInt8), (digF f i n s).2.1.length ≤ s.length
  | 0, i, n, s => by simp [digF]
  | f + 1, i, n, [] => by simp [digF]
  | f + 1, i, n, b :: r => by
    have ih := digF_len f (i + 1) (n + ((b.toNat % 128 : Nat) : Int) * 128 ^ i) r
    unfold digF
    split
    · simp
    split
    · split
      · simp
      · simp only [List.length_cons]; omega
    · simp only [List.length_cons]; omega

end Go.Proofs.YtokifgdmddnpoaaGreatDoorPg

/- Digits to the base 128: the bits. -/
namespace Go.Proofs.YtokifgdmddnpoaaGreatDoorPg
open Go Go.RowKit

theorem or_add {n d k : Nat} (h : n < 2 ^ k) : n ||| (d * 2 ^ k) = n + d * 2 ^ k := by
  rw [Nat.mul_comm d, Nat.or_comm, ← Nat.two_pow_add_eq_or_of_lt h, Nat.add_comm]

theorem and_127 (b : Nat) : b &&& 127 = b % 128 := by
  have := Nat.and_two_pow_sub_one_eq_mod b 7
  simpa using this

theorem low7 (b : UInt8) : IntKind.u64.wrap (IntKind.u8.wrap ↑(BitVec.ofInt IntKind.u8.bits (b.toNat : Int) &&& ~~~BitVec.ofInt IntKind.u8.bits 128).toNat) = ((b.toNat % 128 : Nat) : Int) := by
  have hb := b.toNat_lt
  have e1 : (BitVec.ofInt 8 (b.toNat : Int)).toNat = b.toNat := by
    rw [BitVec.toNat_ofInt]
    have : (2 : Int) ^ 8 = 256 := by decide
    omega
  have e2 : (~~~BitVec.ofInt 8 128).toNat = 127 := by decide
  have e3 : (BitVec.ofInt IntKind.u8.bits (b.toNat : Int) &&& ~~~BitVec.ofInt IntKind.u8.bits 128).toNat = b.toNat % 128 := by
    show (BitVec.ofInt 8 (b.toNat : Int) &&& ~~~BitVec.ofInt 8 128).toNat = _
    rw [BitVec.toNat_and, e1, e2, and_127]
  rw [e3, wrap_u64]
  have : IntKind.u8.wrap ((b.toNat % 128 : Nat) : Int) = ((b.toNat % 128 : Nat) : Int) % 256 := by simp [IntKind.wrap, IntKind.bits, IntKind.signed]
  rw [this]; omega

theorem pow128 (i : Nat) : (128 : Nat) ^ i = 2 ^ (7 * i) := by
  rw [Nat.pow_mul]

theorem or_dig {i N d : Nat} (hi : i ≤ 9) (hd : d < 128) (h9 : i = 9 → d ≤ 1) (hN : N < 128 ^ i) :
    IntKind.u64.wrap ↑(BitVec.ofInt IntKind.u64.bits (N : Int) ||| BitVec.ofInt IntKind.u64.bits (IntKind.u64.wrap ((d : Int) * 2 ^ min (IntKind.i64.wrap (7 * (i : Int))).toNat IntKind.u64.bits))).toNat = ((N + d * 128 ^ i : Nat) : Int) := by
  have e1 : (IntKind.i64.wrap (7 * (i : Int))).toNat = 7 * i := by rw [IntKind.wrap_i64, Int.emod_eq_of_lt (by omega) (by omega)]; omega
  have e2 : min (7 * i) IntKind.u64.bits = 7 * i := by show min (7 * i) 64 = _; omega
  rw [e1, e2]
  rw [pow128] at hN ⊢
  have p64 : (2 : Nat) ^ 64 = 18446744073709551616 := by decide
  have hlt : d * 2 ^ (7 * i) + 2 ^ (7 * i) ≤ 18446744073709551616 := by
    obtain rfl | rfl | rfl | rfl | rfl | rfl | rfl | rfl | rfl | rfl : i = 0 ∨ i = 1 ∨ i = 2 ∨ i = 3 ∨ i = 4 ∨ i = 5 ∨ i = 6 ∨ i = 7 ∨ i = 8 ∨ i = 9 := by omega
    all_goals (simp only [Nat.reduceMul, Nat.reducePow]; omega)
  have e3 : ((d : Int) * 2 ^ (7 * i)) = ((d * 2 ^ (7 * i) : Nat) : Int) := by
    rw [Int.natCast_mul, Int.natCast_pow]; rfl
  rw [e3]
  generalize hm : d * 2 ^ (7 * i) = m at *
  have f1 : (BitVec.ofInt 64 (N : Int)).toNat = N := by rw [BitVec.toNat_ofInt]; omega
  have f2 : (BitVec.ofInt 64 (IntKind.u64.wrap (m : Int))).toNat = m := by rw [BitVec.toNat_ofInt, wrap_u64]; omega
  have f3 : (BitVec.ofInt 64 (N : Int) ||| BitVec.ofInt 64 (IntKind.u64.wrap (m : Int))).toNat = N + m := by
    rw [BitVec.toNat_or, f1, f2, ← hm, or_add hN]
  show IntKind.u64.wrap ↑(BitVec.ofInt 64 (N : Int) ||| BitVec.ofInt 64 (IntKind.u64.wrap (m : Int))).toNat = _
  rw [f3, wrap_u64]
  omega

end Go.Proofs.YtokifgdmddnpoaaGreatDoorPg

/- Numbers and texts as bytes, written; and read again. -/
namespace Go.Proofs.YtokifgdmddnpoaaGreatDoorPg
open Go Go.RowKit

/-- a number's digits to the base 128, the lowest first: at most f and one more of them -/
def digWF : Nat → Nat → List UInt8
  | 0, n => [UInt8.ofNat n]
  | f + 1, n => if n < 128 then [UInt8.ofNat n] else UInt8.ofNat (n % 128 + 128) :: digWF f (n / 128)

def digW (n : Nat) : List UInt8 := digWF 9 n

def numW (n : Int) : List UInt8 := digW n.toNat

def txtW (s : List UInt8) : List UInt8 := digW s.length ++ s

theorem digWF_len : ∀ (f n : Nat), (digWF f n).length ≤ f + 1
  | 0, n => by simp [digWF]
  | f + 1, n => by
    unfold digWF
    split
    · simp
    · have := digWF_len f (n / 128)
      simp only [List.length_cons]; omega

theorem digW_len (n : Nat) : (digW n).length ≤ 10 := digWF_len 9 n

theorem digWF_pos (f n : Nat) : 0 < (digWF f n).length := by
  cases f <;> unfold digWF <;> (try split) <;> simp

theorem txtW_len (s : List UInt8) : (txtW s).length ≤ 10 + s.length := by
  unfold txtW
  have := digW_len s.length
  rw [List.length_append]; omega

theorem ofNat_lt {n : Nat} (h : n < 256) : (UInt8.ofNat n).toNat = n := by
  rw [UInt8.toNat_ofNat']; omega

/-- what is written is read as it was -/
theorem digF_W : ∀ (f i N m : Nat) (r : List UInt8), i + f = 9 → m < 128 ^ (f + 1) → N + m * 128 ^ i < 2 ^ 64 → (0 < i → 0 < m) →
    digF (f + 1) i N (digWF f m ++ r) = (((N + m * 128 ^ i : Nat) : Int), r, 0) := by
  intro f
  induction f with
  | zero =>
    intro i N m r hi hm hN hp
    have hi9 : i = 9 := by omega
    have hm1 : m < 128 := by simpa using hm
    have hm2 : m ≤ 1 := by
      subst hi9
      have e1 : (128 : Nat) ^ 9 = 9223372036854775808 := by decide
      have e2 : (2 : Nat) ^ 64 = 18446744073709551616 := by decide
      rw [e1, e2] at hN
      omega
    have hb : (UInt8.ofNat m).toNat = m := ofNat_lt (by omega)
    simp only [digWF, List.cons_append, List.nil_append, digF, hb]
    have hmm : m % 128 = m := by omega
    rw [hmm, if_neg (by omega), if_pos hm1, if_neg ?_]
    · rw [Int.natCast_add, Int.natCast_mul, Int.natCast_pow]; rfl
    · rintro ⟨e, h0⟩
      have := hp h0
      have : (UInt8.ofNat m).toNat = 0 := by rw [e]; rfl
      omega
  | succ f ih =>
    intro i N m r hi hm hN hp
    unfold digWF
    by_cases h : m < 128
    · rw [if_pos h]
      have hb : (UInt8.ofNat m).toNat = m := ofNat_lt (by omega)
      have hmm : m % 128 = m := by omega
      simp only [List.cons_append, List.nil_append, digF, hb]
      rw [hmm, if_neg (by omega), if_pos h, if_neg ?_]
      · rw [Int.natCast_add, Int.natCast_mul, Int.natCast_pow]; rfl
      · rintro ⟨e, h0⟩
        have := hp h0
        have : (UInt8.ofNat m).toNat = 0 := by rw [e]; rfl
        omega
    · rw [if_neg h]
      have hb : (UInt8.ofNat (m % 128 + 128)).toNat = m % 128 + 128 := ofNat_lt (by omega)
      have hmm : (m % 128 + 128) % 128 = m % 128 := by omega
      simp only [List.cons_append]
      rw [digF, hb, hmm, if_neg (by omega), if_neg (by omega)]
      have hc : (N : Int) + ((m % 128 : Nat) : Int) * 128 ^ i = ((N + m % 128 * 128 ^ i : Nat) : Int) := by
        rw [Int.natCast_add, Int.natCast_mul, Int.natCast_pow]; rfl
      rw [hc]
      have hdm : m % 128 + m / 128 * 128 = m := by omega
      have hex : N + m % 128 * 128 ^ i + m / 128 * 128 ^ (i + 1) = N + m * 128 ^ i := by
        rw [Nat.pow_succ]
        have : m / 128 * (128 ^ i * 128) = (m / 128 * 128) * 128 ^ i := by
          rw [Nat.mul_comm (128 ^ i), Nat.mul_assoc]
        rw [this]
        have h2 : m * 128 ^ i = (m % 128 + m / 128 * 128) * 128 ^ i := by rw [hdm]
        rw [h2, Nat.add_mul]; omega
      rw [ih (i + 1) (N + m % 128 * 128 ^ i) (m / 128) r (by omega) ?_ (by rw [hex]; exact hN) (fun _ => by omega), hex]
      rw [Nat.pow_succ 128 (f + 1)] at hm
      exact Nat.div_lt_of_lt_mul (by rw [Nat.mul_comm]; exact hm)

theorem digL_W {n : Nat} (h : n < 2 ^ 64) (r : List UInt8) : digL (digW n ++ r) = ((n : Int), r, 0) := by
  unfold digL digW
  have := digF_W 9 0 0 n r rfl (Nat.lt_of_lt_of_le h (by decide)) (by simpa using h) (by omega)
  simpa using this

/-- what is read is written as it was -/
theorem digF_back : ∀ (f i N : Nat) (s r : List UInt8) (v : Int), i + f = 9 → digF (f + 1) i N s = (v, r, 0) →
    ∃ m, v = ((N + m * 128 ^ i : Nat) : Int) ∧ s = digWF f m ++ r ∧ m < 128 ^ (f + 1) ∧ (0 < i → 0 < m) := by
  intro f
  induction f with
  | zero =>
    intro i N s r v hi h
    cases s with
    | nil => simp [digF] at h
    | cons b s =>
      unfold digF at h
      split at h
      · simp at h
      split at h
      · rename_i h1 h2
        split at h
        · simp at h
        · rename_i h3
          simp only [Prod.mk.injEq] at h
          obtain ⟨rfl, rfl, _⟩ := h
          have hbm : b.toNat % 128 = b.toNat := by omega
          refine ⟨b.toNat, ?_, ?_, by simpa using h2, ?_⟩
          · rw [hbm, Int.natCast_add, Int.natCast_mul, Int.natCast_pow]; rfl
          · simp [digWF]
          · intro h0
            rcases Nat.eq_zero_or_pos b.toNat with e | e
            · exact absurd ⟨UInt8.toNat_inj.1 e, h0⟩ h3
            · exact e
      · simp [digF] at h
  | succ f ih =>
    intro i N s r v hi h
    cases s with
    | nil => simp [digF] at h
    | cons b s =>
      unfold digF at h
      have hbl := b.toNat_lt
      split at h
      · simp at h
      split at h
      · rename_i h1 h2
        split at h
        · simp at h
        · rename_i h3
          simp only [Prod.mk.injEq] at h
          obtain ⟨rfl, rfl, _⟩ := h
          have hbm : b.toNat % 128 = b.toNat := by omega
          refine ⟨b.toNat, ?_, ?_, ?_, ?_⟩
          · rw [hbm, Int.natCast_add, Int.natCast_mul, Int.natCast_pow]; rfl
          · unfold digWF; rw [if_pos h2]; simp
          · exact Nat.lt_of_lt_of_le h2 (by rw [Nat.pow_succ]; exact Nat.le_mul_of_pos_left _ (Nat.pow_pos (by decide)))
          · intro h0
            rcases Nat.eq_zero_or_pos b.toNat with e | e
            · exact absurd ⟨UInt8.toNat_inj.1 e, h0⟩ h3
            · exact e
      · rename_i h1 h2
        have hc : (N : Int) + ((b.toNat % 128 : Nat) : Int) * 128 ^ i = ((N + b.toNat % 128 * 128 ^ i : Nat) : Int) := by
          rw [Int.natCast_add, Int.natCast_mul, Int.natCast_pow]; rfl
        rw [hc] at h
        obtain ⟨m, e1, e2, e3, e4⟩ := ih (i + 1) _ s r v (by omega) h
        have hm0 := e4 (by omega)
        refine ⟨b.toNat % 128 + m * 128, ?_, ?_, ?_, fun _ => by omega⟩
        · rw [e1]
          congr 1
          rw [Nat.add_mul, Nat.pow_succ]
          have : m * (128 ^ i * 128) = m * 128 * 128 ^ i := by rw [Nat.mul_comm (128 ^ i), Nat.mul_assoc]
          omega
        · rw [e2]
          have hne : ¬ b.toNat % 128 + m * 128 < 128 := by omega
          have hd : (b.toNat % 128 + m * 128) / 128 = m := by omega
          have hmod : (b.toNat % 128 + m * 128) % 128 + 128 = b.toNat := by omega
          rw [show digWF (f + 1) (b.toNat % 128 + m * 128) = UInt8.ofNat ((b.toNat % 128 + m * 128) % 128 + 128) :: digWF f ((b.toNat % 128 + m * 128) / 128) by rw [digWF, if_neg hne]]
          rw [hd, hmod]
          simp
        · rw [Nat.pow_succ 128 (f + 1)]; omega

theorem digL_back {s r : List UInt8} {v : Int} (h : digL s = (v, r, 0)) : ∃ n : Nat, v = (n : Int) ∧ s = digW n ++ r := by
  obtain ⟨m, e1, e2, _, _⟩ := digF_back 9 0 0 s r v rfl (by simpa [digL] using h)
  exact ⟨m, by simpa using e1, e2⟩

theorem numL_W {n : Int} (h0 : 0 ≤ n) (h1 : n ≤ 9223372036854775807) (r : List UInt8) : numL (numW n ++ r) = (n, r, 0) := by
  unfold numL numW
  have e : digL (digW n.toNat ++ r) = (n, r, 0) := by
    have e64 : (2 : Nat) ^ 64 = 18446744073709551616 := by decide
    rw [digL_W (by omega)]
    rw [Int.toNat_of_nonneg h0]
  rw [e]
  simp [h1]

theorem numL_back {s r : List UInt8} {v : Int} (h : numL s = (v, r, 0)) : 0 ≤ v ∧ v ≤ 9223372036854775807 ∧ s = numW v ++ r := by
  unfold numL at h
  split at h
  · split at h
    · rename_i h1 h2
      obtain ⟨n, rfl, hs⟩ := digL_back h
      rw [h] at h2
      refine ⟨by omega, h2, ?_⟩
      unfold numW
      rw [Int.toNat_natCast]; exact hs
    · simp at h
  · rename_i h1
    simp only [Prod.mk.injEq] at h
    exact absurd h.2.2 h1

/-- an error leaves what there was, and tells no number -/
theorem numL_err {s : List UInt8} (h : (numL s).2.2 ≠ 0) : (numL s).1 = 0 ∧ (numL s).2.1 = s := by
  unfold numL at h ⊢
  split
  · split
    · rename_i h1 h2
      rw [if_pos h1, if_pos h2] at h
      exact absurd h1 h
    · exact ⟨rfl, rfl⟩
  · exact ⟨rfl, rfl⟩

theorem digF_nonneg : ∀ (f i : Nat) (N : Int) (s : List UInt8), 0 ≤ N → 0 ≤ (digF f i N s).1
  | 0, _, _, _, _ => by simp [digF]
  | f + 1, i, N, [], _ => by simp [digF]
  | f + 1, i, N, b :: r, h => by
    have hp : (0 : Int) ≤ ((b.toNat % 128 : Nat) : Int) * 128 ^ i := Int.mul_nonneg (by omega) (Int.pow_nonneg (by decide))
    unfold digF
    split
    · simp
    split
    · split
      · simp
      · show 0 ≤ N + _
        omega
    · exact digF_nonneg f (i + 1) _ r (by omega)

theorem digL_nonneg (s : List UInt8) : 0 ≤ (digL s).1 := digF_nonneg 10 0 0 s (by decide)

theorem numL_nonneg (s : List UInt8) : 0 ≤ (numL s).1 := by
  unfold numL
  split
  · split
    · exact digL_nonneg s
    · simp
  · simp

theorem numL_le (s : List UInt8) : (numL s).1 ≤ 9223372036854775807 := by
  unfold numL
  split
  · split
    · assumption
    · simp
  · simp

theorem numL_len (s : List UInt8) : (numL s).2.1.length ≤ s.length := by
  unfold numL
  split
  · split
    · exact digF_len _ _ _ _
    · exact Nat.le_refl _
  · exact Nat.le_refl _

theorem txtL_W {s : List UInt8} {most : Int} (hm : (s.length : Int) ≤ most) (hl : (s.length : Int) ≤ 9223372036854775807) (r : List UInt8) : txtL most (txtW s ++ r) = (s, r, 0) := by
  unfold txtL txtW
  have e : numL (digW s.length ++ s ++ r) = ((s.length : Int), s ++ r, 0) := by
    have := numL_W (n := (s.length : Int)) (by omega) hl (s ++ r)
    rw [List.append_assoc]
    simpa [numW] using this
  rw [e]
  simp only [if_true]
  rw [if_neg (by omega), if_neg (by simp; omega)]
  simp

theorem txtL_back {s r t : List UInt8} {most : Int} (h : txtL most s = (t, r, 0)) : (t.length : Int) ≤ most ∧ s = txtW t ++ r := by
  unfold txtL at h
  split at h
  · rename_i h1
    split at h
    · simp at h
    split at h
    · simp at h
    · rename_i h2 h3
      simp only [Prod.mk.injEq] at h
      obtain ⟨rfl, rfl, _⟩ := h
      obtain ⟨a, b, c⟩ := numL_back (s := s) (v := (numL s).1) (r := (numL s).2.1) (by rw [← h1])
      have hl : (List.take (numL s).1.toNat (numL s).2.1).length = (numL s).1.toNat := by rw [List.length_take]; omega
      refine ⟨by rw [hl]; omega, ?_⟩
      unfold txtW
      rw [hl, List.append_assoc, List.take_append_drop]
      exact c
  · rename_i h1
    simp only [Prod.mk.injEq] at h
    exact absurd h.2.2 h1

theorem txtL_err {s : List UInt8} {most : Int} (h : (txtL most s).2.2 ≠ 0) : (txtL most s).1 = [] ∧ (txtL most s).2.1 = s := by
  unfold txtL at h ⊢
  split
  · rename_i h1
    rw [if_pos h1] at h
    split
    · exact ⟨rfl, rfl⟩
    · rename_i h2
      rw [if_neg h2] at h
      split
      · exact ⟨rfl, rfl⟩
      · rename_i h3
        rw [if_neg h3] at h
        exact absurd rfl h
  · exact ⟨rfl, rfl⟩

theorem txtL_len (most : Int) (s : List UInt8) : (txtL most s).2.1.length ≤ s.length ∧ (txtL most s).1.length ≤ s.length := by
  have := numL_len s
  unfold txtL
  split
  · split
    · simp
    split
    · simp
    · simp only [List.length_drop, List.length_take]; omega
  · simp

end Go.Proofs.YtokifgdmddnpoaaGreatDoorPg

/- Readers and writers: plain functions with an error that stays. -/
namespace Go.Proofs.YtokifgdmddnpoaaGreatDoorPg
open Go Go.RowKit

def rNum (s : List UInt8) (e : Int) : Int × List UInt8 × Int := if e = 0 then numL s else (0, s, e)
def rTxt (most : Int) (s : List UInt8) (e : Int) : List UInt8 × List UInt8 × Int := if e = 0 then txtL most s else ([], s, e)
def bytL (s : List UInt8) : Int × List UInt8 × Int := match s with
  | [] => (0, [], 4)
  | b :: r => ((b.toNat : Int), r, 0)
def rByt (s : List UInt8) (e : Int) : Int × List UInt8 × Int := if e = 0 then bytL s else (0, s, e)

theorem rNum_ok {s r : List UInt8} {e v : Int} (h : rNum s e = (v, r, 0)) : e = 0 ∧ 0 ≤ v ∧ v ≤ 9223372036854775807 ∧ s = numW v ++ r := by
  unfold rNum at h
  split at h
  · rename_i h0
    exact ⟨h0, numL_back h⟩
  · rename_i h0
    simp only [Prod.mk.injEq] at h
    exact absurd h.2.2 h0

theorem rTxt_ok {s r t : List UInt8} {e most : Int} (h : rTxt most s e = (t, r, 0)) : e = 0 ∧ (t.length : Int) ≤ most ∧ s = txtW t ++ r := by
  unfold rTxt at h
  split at h
  · rename_i h0
    exact ⟨h0, txtL_back h⟩
  · rename_i h0
    simp only [Prod.mk.injEq] at h
    exact absurd h.2.2 h0

theorem rByt_ok {s r : List UInt8} {e v : Int} (h : rByt s e = (v, r, 0)) : e = 0 ∧ ∃ b : UInt8, v = (b.toNat : Int) ∧ s = b :: r := by
  unfold rByt at h
  split at h
  · rename_i h0
    refine ⟨h0, ?_⟩
    cases s with
    | nil => simp [bytL] at h
    | cons b q =>
      simp only [bytL, Prod.mk.injEq] at h
      obtain ⟨rfl, rfl, _⟩ := h
      exact ⟨b, rfl, rfl⟩
  · rename_i h0
    simp only [Prod.mk.injEq] at h
    exact absurd h.2.2 h0

theorem rNum_W {n : Int} (h0 : 0 ≤ n) (h1 : n ≤ 9223372036854775807) (r : List UInt8) : rNum (numW n ++ r) 0 = (n, r, 0) := by
  unfold rNum; rw [if_pos rfl, numL_W h0 h1]

theorem rTxt_W {s : List UInt8} {most : Int} (hm : (s.length : Int) ≤ most) (hl : (s.length : Int) ≤ 9223372036854775807) (r : List UInt8) : rTxt most (txtW s ++ r) 0 = (s, r, 0) := by
  unfold rTxt; rw [if_pos rfl, txtL_W hm hl]

theorem rByt_W (b : UInt8) (r : List UInt8) : rByt (b :: r) 0 = ((b.toNat : Int), r, 0) := rfl

theorem rNum_len (s : List UInt8) (e : Int) : (rNum s e).2.1.length ≤ s.length := by
  unfold rNum; split
  · exact numL_len s
  · exact Nat.le_refl _
theorem rNum_nonneg (s : List UInt8) (e : Int) : 0 ≤ (rNum s e).1 := by
  unfold rNum; split
  · exact numL_nonneg s
  · simp
theorem rNum_le (s : List UInt8) (e : Int) : (rNum s e).1 ≤ 9223372036854775807 := by
  unfold rNum; split
  · exact numL_le s
  · simp
theorem rTxt_len (most : Int) (s : List UInt8) (e : Int) : (rTxt most s e).2.1.length ≤ s.length ∧ (rTxt most s e).1.length ≤ s.length := by
  unfold rTxt; split
  · exact txtL_len most s
  · simp
theorem rByt_len (s : List UInt8) (e : Int) : (rByt s e).2.1.length ≤ s.length ∧ ((rByt s e).2.2 = 0 → (rByt s e).2.1.length + 1 ≤ s.length) := by
  unfold rByt; split
  · cases s with
    | nil => simp [bytL]
    | cons b r => simp [bytL]
  · rename_i h; simp [h]
theorem rByt_bd (s : List UInt8) (e : Int) : 0 ≤ (rByt s e).1 ∧ (rByt s e).1 ≤ 255 := by
  unfold rByt; split
  · cases s with
    | nil => simp [bytL]
    | cons b r => have := b.toNat_lt; simp only [bytL]; omega
  · simp
/-- an error stays -/
theorem rNum_e {s : List UInt8} {e : Int} (h : e ≠ 0) : (rNum s e) = (0, s, e) := by unfold rNum; rw [if_neg h]
theorem rTxt_e {most : Int} {s : List UInt8} {e : Int} (h : e ≠ 0) : (rTxt most s e) = ([], s, e) := by unfold rTxt; rw [if_neg h]
theorem rByt_e {s : List UInt8} {e : Int} (h : e ≠ 0) : (rByt s e) = (0, s, e) := by unfold rByt; rw [if_neg h]

/-- how many bytes a number takes -/
theorem digF_suf : ∀ (f i : Nat) (n : Int) (s : List UInt8), (digF f i n s).2.2 = 0 → ∃ k, k ≤ s.length ∧ k ≤ f ∧ (digF f i n s).2.1 = s.drop k
  | 0, i, n, s, h => by simp [digF] at h
  | f + 1, i, n, [], h => by simp [digF] at h
  | f + 1, i, n, b :: r, h => by
    unfold digF at h ⊢
    split at h
    · simp at h
    rename_i h1
    rw [if_neg h1]
    split at h
    · rename_i h2
      rw [if_pos h2]
      split at h
      · simp at h
      · rename_i h3
        rw [if_neg h3]
        exact ⟨1, by simp, by omega, rfl⟩
    · rename_i h2
      rw [if_neg h2]
      obtain ⟨k, a, b', c⟩ := digF_suf f (i + 1) _ r h
      exact ⟨k + 1, by simp only [List.length_cons]; omega, by omega, by rw [c]; rfl⟩

end Go.Proofs.YtokifgdmddnpoaaGreatDoorPg

/- A contract whose arguments become immutable, or whose objects are let go, ahead of the call. -/
namespace Go.Proofs.YtokifgdmddnpoaaGreatDoorPg
open Go Go.RowKit
set_option linter.unusedSectionVars false
variable [Globs]
set_option linter.unusedVariables false
set_option linter.unusedSimpArgs false

theorem frzL_get {id : Nat} {o : O} : ∀ {l : List V} {i : Nat} {v : V}, (frzL id o l)[i]? = some v → ∃ x, l[i]? = some x ∧ v = frzV id o x
  | [], i, v, h => by simp [frzL] at h
  | x :: l, 0, v, h => by simp [frzL] at h; exact ⟨x, rfl, h.symm⟩
  | x :: l, i + 1, v, h => by
    simp only [frzL, List.getElem?_cons_succ] at h
    obtain ⟨y, h1, h2⟩ := frzL_get h
    exact ⟨y, by simpa using h1, h2⟩

theorem frzL_len {id : Nat} {o : O} : ∀ (l : List V), (frzL id o l).length = l.length
  | [] => rfl
  | x :: l => by simp [frzL, frzL_len l]

theorem ACall.frzIn {P : Program} {f : FuncId} {k : Nat} {args : List V} {H : List O} {Q : V → List O → Prop} (id : Nat) (hok : frzOk (getO H id) = true) (hfit : frzFit id (getO H id) args [] H)
    (h : ACall P f k (frzL id (getO H id) args) (frzH id (getO H id) 0 H) Q) : ACall P f k args H Q := by
  refine ⟨fun I ρ w us hst hk ha => ?_⟩
  have hne : getO H id ≠ .dead := fun e => by rw [e] at hok; cases hok
  have ho := getO_some (H := H) (id := id) rfl hne
  have hlt : id < ρ.length := by rw [hst.len]; exact (List.getElem?_eq_some_iff.1 ho).1
  obtain ⟨I2, g1, g2, g3⟩ := frz_st hst (List.getElem?_eq_getElem hlt) ho hok (frzFit_h hfit) k
  refine (h.out I2 ρ w us g1 (by rw [frzH_len]; exact hk) ⟨by rw [frzL_len]; exact ha.1, fun i a u hi hu => ?_⟩).mono ?_
  · obtain ⟨x, hx, rfl⟩ := frzL_get hi
    exact g3 _ _ (frzFit_v hfit (List.mem_of_getElem? hx)) (ha.2 i x u hx hu)
  · rintro en w' ⟨v, r, I', ρ', H', h1, h2, h3, h4, h5⟩
    exact ⟨v, r, I', ρ', H', h1, h2, h3, g2.trans h4, h5⟩

theorem ACall.selIn {P : Program} {f : FuncId} {args : List V} {H : List O} {Q : V → List O → Prop} (sel : List Nat) (hsel : selOk sel H.length 0 = true)
    (h : ACall P f 0 (args.map (renV (idx sel))) (gather (idx sel) H sel) Q) : ACall P f 0 args H Q := by
  refine ⟨fun I ρ w us hst hk ha => ?_⟩
  obtain ⟨g1, g2, g3⟩ := sel_step hst hsel (Step.refl 0 I ρ H w)
  refine (h.out I _ w us g1 (Nat.zero_le _) ⟨by rw [List.length_map]; exact ha.1, fun i a u hi hu => ?_⟩).mono ?_
  · rw [List.getElem?_map] at hi
    cases hx : args[i]? with
    | none => rw [hx] at hi; cases hi
    | some x =>
      rw [hx] at hi; cases hi
      exact (ha.2 i x u hx hu).ren g2
  · rintro en w' ⟨v, r, I', ρ', H', h1, h2, h3, h4, h5⟩
    exact ⟨v, r, I', ρ', H', h1, h2, h3, g3.trans h4, h5⟩

theorem frzV_pure {id : Nat} {o : O} {v : V} (h : pureV v = true) : frzV id o v = v := by
  cases v with
  | fn g a b => cases a with
    | nil => cases b with
      | nil => rfl
      | cons x y => simp [pureV] at h
    | cons x y => simp [pureV] at h
  | _ => first | rfl | simp [pureV] at h

theorem renV_pure {f : Nat → Option Nat} {v : V} (h : pureV v = true) : renV f v = v := by
  cases v with
  | fn g a b => cases a with
    | nil => cases b with
      | nil => rfl
      | cons x y => simp [pureV] at h
    | cons x y => simp [pureV] at h
  | _ => first | rfl | simp [pureV] at h

theorem frzL_pure {id : Nat} {o : O} : ∀ {l : List V}, l.all pureV = true → frzL id o l = l
  | [], _ => rfl
  | v :: l, h => by
    simp only [List.all_cons, Bool.and_eq_true] at h
    simp only [frzL, frzV_pure h.1, frzL_pure h.2]

theorem map_pure {f : Nat → Option Nat} : ∀ {l : List V}, l.all pureV = true → l.map (renV f) = l
  | [], _ => rfl
  | v :: l, h => by
    simp only [List.all_cons, Bool.and_eq_true] at h
    simp only [List.map_cons, renV_pure h.1, map_pure h.2]

theorem msV_pure {id : Nat} {v : V} (h : pureV v = true) : msV id v = [] := by
  cases v with
  | fn g a b => cases a with
    | nil => cases b with
      | nil => rfl
      | cons x y => simp [pureV] at h
    | cons x y => simp [pureV] at h
  | _ => first | rfl | simp [pureV] at h

theorem msL_pure {id : Nat} : ∀ {l : List V}, l.all pureV = true → msL id l = []
  | [], _ => rfl
  | v :: l, h => by
    simp only [List.all_cons, Bool.and_eq_true] at h
    simp only [msL, msV_pure h.1, msL_pure h.2, List.nil_append]

/-- A buffer that is handed over becomes immutable; an empty place is left. -/
theorem ACall.eat {P : Program} {f : FuncId} {z : Nat} {es : List (List V)} {full : Bool} {as : List V} {len : Nat} {Q : V → List O → Prop} (hlen : len = es.length) (hp : as.all pureV = true)
    (h : ACall P f 0 (.sl z es full :: as) [] fun r H' => Q (renV (outH 0 1) r) (weave 0 H' [.dead])) : ACall P f 1 (.ms z 0 0 len full :: as) [.buf es] Q := by
  subst hlen
  refine ACall.stay 1 rfl (ACall.frzIn 0 rfl ?_ (ACall.selIn [] rfl ?_))
  · show msLe es.length (msL 0 (.ms z 0 0 es.length full :: as) ++ ([] ++ ([] ++ [])))
    simp only [msL, msV, Nat.beq_refl, msL_pure hp, List.append_nil, msLe]
    exact ⟨by omega, trivial⟩
  · have e : (frzL 0 (getO [O.buf es] 0) (.ms z 0 0 es.length full :: as)).map (renV (idx [])) = .sl z es full :: as := by
      show (frzV 0 (.buf es) (.ms z 0 0 es.length full) :: frzL 0 (.buf es) as).map (renV (idx [])) = _
      rw [frz_ms_eq, frzL_pure hp, List.map_cons, map_pure hp]; rfl
    rw [e]; exact h

end Go.Proofs.YtokifgdmddnpoaaGreatDoorPg

/- The order of texts. -/
namespace Go.Proofs.YtokifgdmddnpoaaGreatDoorPg
open Go Go.RowKit

theorem less_total : ∀ {a b : List UInt8}, Op.bytesLess a b = false → Op.bytesLess b a = false → a = b
  | [], [], _, _ => rfl
  | [], _ :: _, h, _ => by simp [Op.bytesLess] at h
  | _ :: _, [], _, h => by simp [Op.bytesLess] at h
  | x :: a, y :: b, h, g => by
    simp only [Op.bytesLess, Bool.or_eq_false_iff, decide_eq_false_iff_not, Bool.and_eq_false_iff, beq_eq_false_iff_ne] at h g
    have hxy : x = y := by
      have h1 : ¬ x.toNat < y.toNat := fun hh => h.1 (UInt8.lt_iff_toNat_lt.2 hh)
      have h2 : ¬ y.toNat < x.toNat := fun hh => g.1 (UInt8.lt_iff_toNat_lt.2 hh)
      exact UInt8.toNat_inj.1 (by omega)
    subst hxy
    rcases h.2 with h2 | h2
    · exact absurd rfl h2
    · rcases g.2 with g2 | g2
      · exact absurd rfl g2
      · rw [less_total h2 g2]

theorem less_irrefl : ∀ (a : List UInt8), Op.bytesLess a a = false
  | [] => rfl
  | x :: a => by
    have h1 : ¬ x < x := fun h => by have := UInt8.lt_iff_toNat_lt.1 h; omega
    simp [Op.bytesLess, less_irrefl a, h1]

theorem less_trans : ∀ {a b c : List UInt8}, Op.bytesLess a b = true → Op.bytesLess b c = true → Op.bytesLess a c = true
  | _, _, [], _, h => by cases ‹List UInt8› <;> simp [Op.bytesLess] at h
  | [], _, _ :: _, _, _ => by simp [Op.bytesLess]
  | x :: a, [], z :: c, h, _ => by simp [Op.bytesLess] at h
  | x :: a, y :: b, z :: c, h, g => by
    simp only [Op.bytesLess, Bool.or_eq_true, decide_eq_true_eq, Bool.and_eq_true, beq_iff_eq] at h g ⊢
    rcases h with h | ⟨rfl, h⟩
    · rcases g with g | ⟨rfl, g⟩
      · left
        have := UInt8.lt_iff_toNat_lt.1 h
        have := UInt8.lt_iff_toNat_lt.1 g
        exact UInt8.lt_iff_toNat_lt.2 (by omega)
      · exact .inl h
    · rcases g with g | ⟨rfl, g⟩
      · exact .inl g
      · exact .inr ⟨rfl, less_trans h g⟩

theorem less_asymm {a b : List UInt8} (h : Op.bytesLess a b = true) : Op.bytesLess b a = false := by
  cases hb : Op.bytesLess b a with
  | false => rfl
  | true => have := less_trans h hb; rw [less_irrefl] at this; cases this

theorem less_ne {a b : List UInt8} (h : Op.bytesLess a b = true) : a ≠ b := fun e => by rw [e, less_irrefl] at h; cases h

theorem le_eq (a b : List UInt8) : (Op.bytesLess a b || decide (a = b)) = !Op.bytesLess b a := by
  cases h : Op.bytesLess a b
  · cases g : Op.bytesLess b a
    · simp [less_total h g]
    · have := less_ne g
      have e : ¬ a = b := fun e => this e.symm
      simp [e]
  · simp [less_asymm h]

theorem gt_eq (a b : List UInt8) : (!(Op.bytesLess a b || decide (a = b))) = Op.bytesLess b a := by rw [le_eq, Bool.not_not]

theorem half_eq {i j : Nat} (h : i + j < 1000000000) : IntKind.i64.wrap ((IntKind.u64.wrap (IntKind.i64.wrap ((i : Int) + (j : Int)))).fdiv (2 ^ min (1 : Int).toNat IntKind.u64.bits)) = (((i + j) / 2 : Nat) : Int) := by
  have e : (2 : Int) ^ min (1 : Int).toNat IntKind.u64.bits = 2 := by decide
  have w : ∀ n : Int, IntKind.u64.wrap n = n % 18446744073709551616 := fun n => by simp [IntKind.wrap, IntKind.bits, IntKind.signed]
  rw [e, Int.fdiv_eq_ediv_of_nonneg _ (by decide), w, IntKind.wrap_i64, IntKind.wrap_i64]
  omega

end Go.Proofs.YtokifgdmddnpoaaGreatDoorPg

/- Works of copying: plain laws. -/
namespace Go.Proofs.YtokifgdmddnpoaaGreatDoorPg
open Go Go.RowKit
set_option linter.unusedSimpArgs false

structure Wk where
  t : List UInt8
  d : Bool
  k : List UInt8
deriving DecidableEq

def wkC (w : Wk) : List V := [.str w.t, .bool w.d, .str w.k]
def wkA (w : Wk) : V := .agg [.str w.t, .bool w.d, .str w.k]
def wks (l : List Wk) : List (List V) := l.map wkC
def wk0 : Wk := ⟨[], false, []⟩

theorem wks_len (l : List Wk) : (wks l).length = l.length := by simp [wks]
theorem wks_get {l : List Wk} {i : Nat} {w : Wk} (h : l[i]? = some w) : (wks l)[i]? = some (wkC w) := by simp [wks, h]
theorem wks_take (l : List Wk) (n : Nat) : List.take n (wks l) = wks (l.take n) := by simp [wks, List.map_take]
theorem wks_drop (l : List Wk) (n : Nat) : List.drop n (wks l) = wks (l.drop n) := by simp [wks, List.map_drop]
theorem wks_app (a b : List Wk) : wks (a ++ b) = wks a ++ wks b := by simp [wks]
theorem wks_set (l : List Wk) (i : Nat) (w : Wk) : (wks l).set i (wkC w) = wks (l.set i w) := by simp [wks, List.map_set]

/-- few works of short texts -/
def fewC (w : Wk) : Wk := ⟨w.t.take 40, w.d, w.k.take 40⟩
def fewN (l : List Wk) (n : Nat) : List Wk := (l.take n).map fewC
def fewL (l : List Wk) : List Wk := fewN l 6

theorem fewN_snoc {l : List Wk} {i : Nat} {w : Wk} (h : l[i]? = some w) : fewN l (i + 1) = fewN l i ++ [fewC w] := by
  unfold fewN; rw [List.take_add_one, h]; simp

theorem fewN_len (l : List Wk) (n : Nat) : (fewN l n).length ≤ n := by unfold fewN; rw [List.length_map, List.length_take]; omega

/-- where a table's work stands -/
def atL (l : List Wk) (t : List UInt8) : Option Nat := l.findIdx? fun w => decide (w.t = t)
def atI (l : List Wk) (t : List UInt8) : Int := match atL l t with | some i => (i : Int) | none => -1

def NoneBefore (l : List Wk) (t : List UInt8) (i : Nat) : Prop := ∀ (j : Nat) (w : Wk), j < i → l[j]? = some w → w.t ≠ t

theorem at_some {l : List Wk} {t : List UInt8} {i : Nat} {w : Wk} (hn : NoneBefore l t i) (hi : l[i]? = some w) (ht : w.t = t) : atL l t = some i := by
  unfold atL
  rw [List.findIdx?_eq_some_iff_getElem]
  obtain ⟨h1, h2⟩ := List.getElem?_eq_some_iff.1 hi
  refine ⟨h1, by rw [h2]; simp [ht], fun j hj => ?_⟩
  have := hn j l[j] hj (List.getElem?_eq_getElem (by omega))
  simp [this]

theorem at_none {l : List Wk} {t : List UInt8} (hn : NoneBefore l t l.length) : atL l t = none := by
  unfold atL
  rw [List.findIdx?_eq_none_iff]
  intro w hw
  obtain ⟨j, hj⟩ := List.mem_iff_getElem?.1 hw
  have := hn j w (List.getElem?_eq_some_iff.1 hj).1 hj
  simp [this]

theorem at_get {l : List Wk} {t : List UInt8} {i : Nat} (h : atL l t = some i) : ∃ w, l[i]? = some w ∧ w.t = t ∧ NoneBefore l t i := by
  unfold atL at h
  rw [List.findIdx?_eq_some_iff_getElem] at h
  obtain ⟨h1, h2, h3⟩ := h
  refine ⟨l[i], List.getElem?_eq_getElem h1, by simpa using h2, fun j w hj hw => ?_⟩
  obtain ⟨g1, rfl⟩ := List.getElem?_eq_some_iff.1 hw
  simpa using h3 j hj

theorem at_no {l : List Wk} {t : List UInt8} (h : atL l t = none) : ∀ w ∈ l, w.t ≠ t := by
  unfold atL at h
  rw [List.findIdx?_eq_none_iff] at h
  intro w hw
  simpa using h w hw

/-- rising tables -/
def SortedW (l : List Wk) : Prop := l.Pairwise fun x y => Op.bytesLess x.t y.t = true

theorem sorted_get {l : List Wk} (h : SortedW l) {i j : Nat} {x y : Wk} (hij : i < j) (hi : l[i]? = some x) (hj : l[j]? = some y) : Op.bytesLess x.t y.t = true := by
  obtain ⟨h1, rfl⟩ := List.getElem?_eq_some_iff.1 hi
  obtain ⟨h2, rfl⟩ := List.getElem?_eq_some_iff.1 hj
  exact List.pairwise_iff_getElem.1 h i j h1 h2 hij

/-- how many tables come before one -/
def posL (l : List Wk) (t : List UInt8) : Nat := (l.takeWhile fun w => Op.bytesLess w.t t).length

theorem pos_le (l : List Wk) (t : List UInt8) : posL l t ≤ l.length := by
  unfold posL
  exact (List.takeWhile_sublist _).length_le

theorem takeW_imp {p : Wk → Bool} : ∀ {l : List Wk} {w : Wk}, w ∈ l.takeWhile p → p w = true
  | [], w, h => by simp at h
  | x :: l, w, h => by
    rw [List.takeWhile_cons] at h
    split at h
    · rename_i hx
      rcases List.mem_cons.1 h with rfl | h
      · exact hx
      · exact takeW_imp h
    · simp at h

theorem pos_before {l : List Wk} {t : List UInt8} {j : Nat} {w : Wk} (hj : j < posL l t) (h : l[j]? = some w) : Op.bytesLess w.t t = true := by
  unfold posL at hj
  have h1 : (l.takeWhile fun w => Op.bytesLess w.t t)[j]? = some w := by
    have := List.takeWhile_prefix (l := l) (fun w => Op.bytesLess w.t t)
    obtain ⟨r, hr⟩ := this
    rw [← hr] at h
    rw [List.getElem?_append_left hj] at h
    exact h
  exact takeW_imp (List.mem_of_getElem? h1)

theorem pos_at : ∀ {l : List Wk} {t : List UInt8} {w : Wk}, l[posL l t]? = some w → Op.bytesLess w.t t = false
  | [], t, w, h => by simp at h
  | x :: l, t, w, h => by
    cases hx : Op.bytesLess x.t t with
    | true =>
      have e : posL (x :: l) t = posL l t + 1 := by simp [posL, List.takeWhile_cons, hx]
      rw [e] at h
      exact pos_at (l := l) (by simpa using h)
    | false =>
      have e : posL (x :: l) t = 0 := by simp [posL, List.takeWhile_cons, hx]
      rw [e] at h
      simp at h; subst h; exact hx

/-- the place by two bounds -/
theorem pos_unique {l : List Wk} {t : List UInt8} {i : Nat} (hi : i ≤ l.length) (h1 : ∀ (j : Nat) (w : Wk), j < i → l[j]? = some w → Op.bytesLess w.t t = true) (h2 : ∀ w, l[i]? = some w → Op.bytesLess w.t t = false) : posL l t = i := by
  have hp := pos_le l t
  rcases Nat.lt_trichotomy (posL l t) i with h | h | h
  · have hlt : posL l t < l.length := by omega
    have g := List.getElem?_eq_getElem hlt
    have a := pos_at g
    have b := h1 _ _ h g
    rw [a] at b; cases b
  · exact h
  · have hlt : i < l.length := by omega
    have g := List.getElem?_eq_getElem hlt
    have a := pos_before h g
    have b := h2 _ g
    rw [a] at b; cases b

theorem at_sorted {l : List Wk} {t : List UInt8} {i : Nat} (hs : SortedW l) (h : atL l t = some i) : posL l t = i := by
  obtain ⟨w, hw, ht, _⟩ := at_get h
  refine pos_unique (Nat.le_of_lt (List.getElem?_eq_some_iff.1 hw).1) (fun j x hj hx => ?_) (fun x hx => ?_)
  · have := sorted_get hs hj hx hw
    rw [ht] at this; exact this
  · rw [hw] at hx; cases hx; rw [ht]; exact less_irrefl t

theorem at_pos {l : List Wk} {t : List UInt8} (hs : SortedW l) : (atL l t).isSome = (match l[posL l t]? with | some w => decide (w.t = t) | none => false) := by
  cases h : atL l t with
  | some i =>
    obtain ⟨w, hw, ht, _⟩ := at_get h
    rw [at_sorted hs h, hw]; simp [ht]
  | none =>
    have := at_no h
    cases hg : l[posL l t]? with
    | none => rfl
    | some w => simp [this w (List.mem_of_getElem? hg)]

/-- works with one more -/
def insW (l : List Wk) (w : Wk) : List Wk := l.take (posL l w.t) ++ w :: l.drop (posL l w.t)
def addL (l : List Wk) (t : List UInt8) : List Wk := insW l ⟨t, false, []⟩
def addE (nm : List UInt8 → Bool) (l : List Wk) (t : List UInt8) : Int := if nm t = false then 6 else if (atL l t).isSome then 8 else 0

theorem ins_sorted' {l : List Wk} {w : Wk} (hs : SortedW l) (hn : atL l w.t = none) : SortedW (insW l w) := by
  unfold SortedW insW
  rw [List.pairwise_append]
  refine ⟨List.Pairwise.sublist (List.take_sublist _ _) hs, ?_, fun x hx y hy => ?_⟩
  · rw [List.pairwise_cons]
    refine ⟨fun y hy => ?_, List.Pairwise.sublist (List.drop_sublist _ _) hs⟩
    obtain ⟨j, hj⟩ := List.mem_iff_getElem?.1 hy
    rw [List.getElem?_drop] at hj
    have hlt := (List.getElem?_eq_some_iff.1 hj).1
    have hne : y.t ≠ w.t := at_no hn y (List.mem_of_getElem? hj)
    have hpl : posL l w.t < l.length := by omega
    have hp := pos_at (List.getElem?_eq_getElem hpl)
    cases hb : Op.bytesLess w.t y.t with
    | true => rfl
    | false =>
      exfalso
      cases hc : Op.bytesLess y.t w.t with
      | false => exact hne (less_total hc hb)
      | true =>
        cases j with
        | zero =>
          rw [Nat.add_zero, List.getElem?_eq_getElem hpl] at hj
          cases hj
          rw [hp] at hc; cases hc
        | succ j =>
          have := sorted_get hs (by omega) (List.getElem?_eq_getElem hpl) hj
          have := less_trans this hc
          rw [hp] at this; cases this
  · obtain ⟨i, hi⟩ := List.mem_iff_getElem?.1 hx
    have hil := (List.getElem?_eq_some_iff.1 hi).1
    rw [List.length_take] at hil
    rw [List.getElem?_take_of_lt (by omega)] at hi
    have hxw := pos_before (show i < posL l w.t by omega) hi
    rcases List.mem_cons.1 hy with rfl | hy
    · exact hxw
    · obtain ⟨j, hj⟩ := List.mem_iff_getElem?.1 hy
      rw [List.getElem?_drop] at hj
      exact sorted_get hs (by omega) hi hj

theorem ins_at {l : List Wk} {w : Wk} : (insW l w)[posL l w.t]? = some w := by
  have hp := pos_le l w.t
  unfold insW
  rw [List.getElem?_append_right (by rw [List.length_take]; omega), List.length_take, Nat.min_eq_left hp, Nat.sub_self]
  rfl

theorem at_ins {l : List Wk} {w : Wk} : atL (insW l w) w.t = some (posL l w.t) := by
  refine at_some (fun j x hj hx => ?_) ins_at rfl
  have hp := pos_le l w.t
  unfold insW at hx
  rw [List.getElem?_append_left (by rw [List.length_take]; omega), List.getElem?_take_of_lt hj] at hx
  exact less_ne (pos_before hj hx)

theorem ins_set {l : List Wk} {w v : Wk} (h : v.t = w.t) : (insW l w).set (posL l w.t) v = insW l v := by
  have hp := pos_le l w.t
  unfold insW
  rw [h, List.set_append_right _ _ (by rw [List.length_take]; omega), List.length_take, Nat.min_eq_left hp, Nat.sub_self]
  rfl

theorem ins_len (l : List Wk) (w : Wk) : (insW l w).length = l.length + 1 := by
  have hp := pos_le l w.t
  unfold insW
  rw [List.length_append, List.length_cons, List.length_take, List.length_drop]; omega

theorem ins_mem' {l : List Wk} {w x : Wk} (h : x ∈ insW l w) : x = w ∨ x ∈ l := by
  unfold insW at h
  rcases List.mem_append.1 h with h | h
  · exact .inr (List.mem_of_mem_take h)
  · rcases List.mem_cons.1 h with h | h
    · exact .inl h
    · exact .inr (List.mem_of_mem_drop h)

theorem mem_ins {l : List Wk} {w x : Wk} (h : x ∈ l) : x ∈ insW l w := by
  unfold insW
  rw [← List.take_append_drop (posL l w.t) l] at h
  rcases List.mem_append.1 h with h | h
  · exact List.mem_append_left _ h
  · exact List.mem_append_right _ (List.mem_cons_of_mem _ h)

/-- in rising works a table stands once -/
theorem at_mem {l : List Wk} {x : Wk} (hs : SortedW l) (h : x ∈ l) : ∃ i, atL l x.t = some i ∧ l[i]? = some x := by
  obtain ⟨i, hi⟩ := List.mem_iff_getElem?.1 h
  refine ⟨i, at_some (fun j w hj hw e => ?_) hi rfl, hi⟩
  have := sorted_get hs hj hw hi
  rw [e, less_irrefl] at this; cases this

/-- is a key covered? -/
def covW (w : Wk) (key : List UInt8) : Bool := w.d || (!decide (w.k = []) && !Op.bytesLess w.k key)
def covL (l : List Wk) (t key : List UInt8) : Bool := match (atL l t).bind fun i => l[i]? with
  | some w => covW w key
  | none => false

theorem cov_mem {l : List Wk} {x : Wk} (hs : SortedW l) (h : x ∈ l) (key : List UInt8) : covL l x.t key = covW x key := by
  obtain ⟨i, h1, h2⟩ := at_mem hs h
  unfold covL
  rw [h1]; simp [h2]

theorem cov_true {l : List Wk} {t key : List UInt8} (h : covL l t key = true) : ∃ (i : Nat) (w : Wk), atL l t = some i ∧ l[i]? = some w ∧ w.t = t ∧ covW w key = true := by
  unfold covL at h
  cases ha : atL l t with
  | none => rw [ha] at h; cases h
  | some i =>
    obtain ⟨w, hw, ht, _⟩ := at_get ha
    rw [ha] at h
    simp [hw] at h
    exact ⟨i, w, rfl, hw, ht, h⟩

/-- is a text a key? -/
def isKeyL (s : List UInt8) : Bool := match valuesL s with | some l => !decide (l = []) | none => false

theorem isKey_nil : isKeyL [] = false := by simp [isKeyL, valuesL, valuesF]

theorem keyS_ne {l : List Val} (h : l ≠ []) : keyS l ≠ [] := by
  cases l with
  | nil => exact absurd rfl h
  | cons v l => rw [keyS_cons]; exact keyV_ne v _

theorem isKey_keyS {l : List Val} (hl : ∀ v ∈ l, mayV v = true ∧ I64V v.n) (h : l ≠ []) : isKeyL (keyS l) = true := by
  unfold isKeyL valuesL
  rw [valuesF_key l _ [] hl (by omega)]
  simp [h]

/-- works of which one goes on -/
def goE (l : List Wk) (t last : List UInt8) (done : Bool) : Int := match (atL l t).bind fun i => l[i]? with
  | some w => if (w.d || (!done && (!isKeyL last || !Op.bytesLess w.k last))) = true then 14 else 0
  | none => 7
def goL (l : List Wk) (t last : List UInt8) (done : Bool) : List Wk := match atL l t with
  | some i => l.set i ⟨t, done, if done then [] else last⟩
  | none => l

theorem go_ok {l : List Wk} {t last : List UInt8} {done : Bool} (h : goE l t last done = 0) : ∃ (i : Nat) (w : Wk), atL l t = some i ∧ l[i]? = some w ∧ w.t = t ∧ w.d = false ∧ (done = true ∨ (isKeyL last = true ∧ Op.bytesLess w.k last = true)) ∧ goL l t last done = l.set i ⟨t, done, if done then [] else last⟩ := by
  unfold goE at h
  cases ha : atL l t with
  | none => rw [ha] at h; simp at h
  | some i =>
    obtain ⟨w, hw, ht, _⟩ := at_get ha
    rw [ha] at h
    simp only [Option.bind_some, hw] at h
    refine ⟨i, w, rfl, hw, ht, ?_⟩
    cases hd : w.d <;> simp [hd] at h
    refine ⟨rfl, ?_, by unfold goL; rw [ha]⟩
    cases done <;> simp at h ⊢
    exact h

theorem set_sorted {l : List Wk} {i : Nat} {w v : Wk} (hs : SortedW l) (hi : l[i]? = some w) (h : v.t = w.t) : SortedW (l.set i v) := by
  unfold SortedW
  rw [List.pairwise_iff_getElem]
  intro a b ha hb hab
  rw [List.length_set] at ha hb
  have g : ∀ j, (hj : j < (l.set i v).length) → ((l.set i v)[j]).t = (l[j]'(by rw [List.length_set] at hj; exact hj)).t := fun j hj => by
    rw [List.getElem_set]
    split
    · rename_i e
      subst e
      obtain ⟨h1, h2⟩ := List.getElem?_eq_some_iff.1 hi
      rw [h2, h]
    · rfl
  rw [g a, g b]
  exact List.pairwise_iff_getElem.1 hs a b ha hb hab

/-- what is covered stays so when a work goes on -/
theorem cov_go {l : List Wk} {t last key : List UInt8} {done : Bool} (hs : SortedW l) (hc : covL l t key = true) (hg : goE l t last done = 0) : covL (goL l t last done) t key = true := by
  obtain ⟨i, w, h1, h2, h3, h4⟩ := cov_true hc
  obtain ⟨j, x, g1, g2, g3, g4, g5, g6⟩ := go_ok hg
  rw [h1] at g1; cases g1
  rw [h2] at g2; cases g2
  have hs' := set_sorted (v := ⟨t, done, if done then [] else last⟩) hs h2 h3.symm
  have hlt := (List.getElem?_eq_some_iff.1 h2).1
  have hm : (⟨t, done, if done then [] else last⟩ : Wk) ∈ l.set i ⟨t, done, if done then [] else last⟩ := List.mem_of_getElem? (i := i) (by rw [List.getElem?_set_self hlt])
  rw [g6]
  have := cov_mem hs' hm key
  simp only at this
  rw [this]
  rcases g5 with rfl | ⟨k1, k2⟩
  · simp [covW]
  · cases done with
    | true => simp [covW]
    | false =>
      unfold covW at h4 ⊢
      rw [g4] at h4
      simp only [Bool.false_or, Bool.and_eq_true, Bool.not_eq_true', decide_eq_false_iff_not, Bool.false_eq_true, if_false] at h4 ⊢
      refine ⟨fun e => ?_, ?_⟩
      · rw [e, isKey_nil] at k1; cases k1
      · cases hb : Op.bytesLess last key with
        | false => rfl
        | true =>
          have := less_trans k2 hb
          rw [h4.2] at this; cases this

theorem cov_ins {l : List Wk} {v : Wk} {t key : List UInt8} (hs : SortedW l) (hn : atL l v.t = none) (hc : covL l t key = true) : covL (insW l v) t key = true := by
  obtain ⟨i, w, h1, h2, h3, h4⟩ := cov_true hc
  have := cov_mem (ins_sorted' hs hn) (mem_ins (w := v) (List.mem_of_getElem? h2)) key
  rw [h3] at this
  rw [this]; exact h4

end Go.Proofs.YtokifgdmddnpoaaGreatDoorPg

/- Tables in a row: plain laws. -/
namespace Go.Proofs.YtokifgdmddnpoaaGreatDoorPg
open Go Go.RowKit

structure Tb where
  n : List UInt8
  c : List Col
  k : Int
deriving DecidableEq

def tbC (t : Tb) : List V := [.str t.n, .sl 3 (cols t.c) false, .int .i64 t.k]
def tbA (t : Tb) : V := .agg [.str t.n, .sl 3 (cols t.c) false, .int .i64 t.k]
def tbs (l : List Tb) : List (List V) := l.map tbC

theorem tbs_len (l : List Tb) : (tbs l).length = l.length := by simp [tbs]
theorem tbs_get {l : List Tb} {i : Nat} {t : Tb} (h : l[i]? = some t) : (tbs l)[i]? = some (tbC t) := by simp [tbs, h]
theorem tbs_take (l : List Tb) (n : Nat) : List.take n (tbs l) = tbs (l.take n) := by simp [tbs, List.map_take]
theorem tbs_drop (l : List Tb) (n : Nat) : List.drop n (tbs l) = tbs (l.drop n) := by simp [tbs, List.map_drop]
theorem tbs_app (a b : List Tb) : tbs (a ++ b) = tbs a ++ tbs b := by simp [tbs]
theorem tbs_one (t : Tb) : [tbC t] = tbs [t] := rfl

/-- as works: names alone -/
def nw (t : Tb) : Wk := ⟨t.n, false, []⟩
def nws (l : List Tb) : List Wk := l.map nw

theorem nws_len (l : List Tb) : (nws l).length = l.length := by simp [nws]
theorem nws_get {l : List Tb} {i : Nat} {t : Tb} (h : l[i]? = some t) : (nws l)[i]? = some (nw t) := by simp [nws, h]
theorem nws_inv {l : List Tb} {i : Nat} {w : Wk} (h : (nws l)[i]? = some w) : ∃ t, l[i]? = some t ∧ w = nw t := by
  simp only [nws, List.getElem?_map] at h
  cases hl : l[i]? with
  | none => rw [hl] at h; cases h
  | some t => rw [hl] at h; cases h; exact ⟨t, rfl, rfl⟩

def SortedT (l : List Tb) : Prop := SortedW (nws l)
def atT (l : List Tb) (n : List UInt8) : Option Nat := atL (nws l) n
def posT (l : List Tb) (n : List UInt8) : Nat := posL (nws l) n
def insT (l : List Tb) (t : Tb) : List Tb := l.take (posT l t.n) ++ t :: l.drop (posT l t.n)

theorem posT_le (l : List Tb) (n : List UInt8) : posT l n ≤ l.length := by
  have := pos_le (nws l) n
  rw [nws_len] at this; exact this

theorem ins_nws (l : List Tb) (t : Tb) : nws (insT l t) = insW (nws l) (nw t) := by
  unfold insT insW posT
  have e : (nw t).t = t.n := rfl
  simp [nws, List.map_take, List.map_drop, e]

theorem insT_len (l : List Tb) (t : Tb) : (insT l t).length = l.length + 1 := by
  have := posT_le l t.n
  unfold insT
  simp only [List.length_append, List.length_take, List.length_cons, List.length_drop]; omega

theorem atT_get {l : List Tb} {n : List UInt8} {i : Nat} (h : atT l n = some i) : ∃ t, l[i]? = some t ∧ t.n = n ∧ i < l.length := by
  obtain ⟨w, hw, hn, _⟩ := at_get h
  obtain ⟨t, ht, rfl⟩ := nws_inv hw
  exact ⟨t, ht, hn, (List.getElem?_eq_some_iff.1 ht).1⟩

/-- a table's schema -/
def findT (l : List Tb) (n : List UInt8) : Option (List Col × Int) :=
  match (atT l n).bind fun i => l[i]? with
  | some t => some (t.c, t.k)
  | none => none

theorem find_some {l : List Tb} {n : List UInt8} {i : Nat} {t : Tb} (h : atT l n = some i) (ht : l[i]? = some t) : findT l n = some (t.c, t.k) := by
  unfold findT
  rw [h]
  simp [ht]

theorem find_none {l : List Tb} {n : List UInt8} (h : atT l n = none) : findT l n = none := by
  unfold findT
  rw [h]; rfl

def findR (o : Option (List Col × Int)) : V :=
  match o with
  | some (c, k) => .tup [sch c k, .bool true]
  | none => .tup [sch [] 0, .bool false]

/-- may a table stand there? -/
def stepT (nm : List UInt8 → Bool) (may : List Col → Int → Bool) (l : List Tb) (i : Nat) : Bool := match l[i]? with
  | some t => nm t.n && (may t.c t.k && (decide (i = 0) || (match l[i - 1]? with | some p => Op.bytesLess p.n t.n | none => true)))
  | none => true
def rightT (nm : List UInt8 → Bool) (may : List Col → Int → Bool) (l : List Tb) : Bool := (List.range l.length).all (stepT nm may l) && decide (l.length ≤ 64)

variable {nm : List UInt8 → Bool} {may : List Col → Int → Bool}

theorem rightT_no {l : List Tb} {i : Nat} (hi : i < l.length) (h : stepT nm may l i = false) : rightT nm may l = false := by
  unfold rightT
  cases hr : (List.range l.length).all (stepT nm may l) with
  | false => rfl
  | true =>
    have := List.all_eq_true.1 hr i (List.mem_range.2 hi)
    rw [h] at this; cases this

theorem rightT_yes {l : List Tb} (h : ∀ i, i < l.length → stepT nm may l i = true) : rightT nm may l = decide (l.length ≤ 64) := by
  unfold rightT
  rw [List.all_eq_true.2 fun i hi => h i (List.mem_range.1 hi), Bool.true_and]

structure TbOk (nm : List UInt8 → Bool) (may : List Col → Int → Bool) (t : Tb) : Prop where
  name : nm t.n = true
  sch : may t.c t.k = true

structure TbsOk (nm : List UInt8 → Bool) (may : List Col → Int → Bool) (l : List Tb) : Prop where
  sorted : SortedT l
  each : ∀ t ∈ l, TbOk nm may t

theorem ok_rightT {l : List Tb} (h : TbsOk nm may l) (hl : l.length ≤ 64) : rightT nm may l = true := by
  rw [rightT_yes, decide_eq_true hl]
  intro i hi
  have hg : l[i]? = some l[i] := List.getElem?_eq_getElem hi
  have hm := h.each l[i] (List.getElem_mem hi)
  unfold stepT
  rw [hg]
  simp only [hm.name, hm.sch, Bool.true_and]
  rcases Nat.eq_zero_or_pos i with h0 | h0
  · rw [decide_eq_true h0]; rfl
  · have hp : l[i - 1]? = some l[i - 1] := List.getElem?_eq_getElem (by omega)
    rw [hp]
    simp only
    have := sorted_get h.sorted (show i - 1 < i by omega) (nws_get hp) (nws_get hg)
    rw [show Op.bytesLess l[i - 1].n l[i].n = true from this]
    simp

theorem right_ok {l : List Tb} (h : rightT nm may l = true) : TbsOk nm may l ∧ l.length ≤ 64 := by
  unfold rightT at h
  rw [Bool.and_eq_true, decide_eq_true_eq] at h
  obtain ⟨h1, h2⟩ := h
  have hst : ∀ i, i < l.length → stepT nm may l i = true := fun i hi => List.all_eq_true.1 h1 i (List.mem_range.2 hi)
  have hone : ∀ (i : Nat) (t : Tb), l[i]? = some t → nm t.n = true ∧ may t.c t.k = true ∧ (i = 0 ∨ ∀ p, l[i - 1]? = some p → Op.bytesLess p.n t.n = true) := fun i t ht => by
    have := hst i (List.getElem?_eq_some_iff.1 ht).1
    unfold stepT at this
    rw [ht] at this
    simp only [Bool.and_eq_true, Bool.or_eq_true, decide_eq_true_eq] at this
    refine ⟨this.1, this.2.1, ?_⟩
    rcases this.2.2 with h0 | h0
    · exact .inl h0
    · right
      intro p hp
      rw [hp] at h0; exact h0
  refine ⟨⟨?_, fun t ht => ?_⟩, h2⟩
  · unfold SortedT SortedW
    have key : ∀ (d i : Nat) (x y : Tb), l[i]? = some x → l[i + d + 1]? = some y → Op.bytesLess x.n y.n = true := by
      intro d
      induction d with
      | zero =>
        intro i x y hx hy
        rcases (hone _ y hy).2.2 with h0 | h0
        · omega
        · exact h0 x (by simpa using hx)
      | succ d ih =>
        intro i x y hx hy
        have hlt := (List.getElem?_eq_some_iff.1 hy).1
        have hz : l[i + d + 1]? = some l[i + d + 1] := List.getElem?_eq_getElem (by omega)
        have a := ih i x _ hx hz
        rcases (hone _ y hy).2.2 with h0 | h0
        · omega
        · exact less_trans a (h0 _ (by rw [show i + (d + 1) + 1 - 1 = i + d + 1 by omega]; exact hz))
    rw [List.pairwise_iff_getElem]
    intro i j hi hj hij
    rw [nws_len] at hi hj
    have hx : l[i]? = some l[i] := List.getElem?_eq_getElem hi
    have hy : l[j]? = some l[j] := List.getElem?_eq_getElem hj
    have := key (j - i - 1) i l[i] l[j] hx (by rw [show i + (j - i - 1) + 1 = j by omega]; exact hy)
    simpa [nws, nw] using this
  · obtain ⟨i, hi⟩ := List.getElem?_of_mem ht
    exact ⟨(hone i t hi).1, (hone i t hi).2.1⟩

theorem insT_ok {l : List Tb} {t : Tb} (h : TbsOk nm may l) (ht : TbOk nm may t) (hn : atT l t.n = none) : TbsOk nm may (insT l t) := by
  refine ⟨?_, fun x hx => ?_⟩
  · unfold SortedT
    rw [ins_nws]
    exact ins_sorted' h.sorted hn
  · unfold insT at hx
    rcases List.mem_append.1 hx with h1 | h1
    · exact h.each x (List.mem_of_mem_take h1)
    · rcases List.mem_cons.1 h1 with rfl | h1
      · exact ht
      · exact h.each x (List.mem_of_mem_drop h1)

end Go.Proofs.YtokifgdmddnpoaaGreatDoorPg

/- Events: plain. -/
namespace Go.Proofs.YtokifgdmddnpoaaGreatDoorPg
open Go Go.RowKit

/-- a change of tables -/
structure Chg where
  k : Int
  t : List UInt8
  c : List Col
  ks : Int
  col : Col
deriving DecidableEq

def col0 : Col := ⟨[], 0, false⟩
def chg0 : Chg := ⟨0, [], [], 0, col0⟩
def chC (c : Chg) : List V := [.int .i64 c.k, .str c.t, .sl 3 (cols c.c) false, .int .i64 c.ks, .str c.col.n, .int .i64 c.col.k, .bool c.col.o]
def chA (c : Chg) : V := .agg [.int .i64 c.k, .str c.t, .sl 3 (cols c.c) false, .int .i64 c.ks, .str c.col.n, .int .i64 c.col.k, .bool c.col.o]

/-- an event -/
structure Evt where
  k : Int
  n : Int
  t : List UInt8
  b : List Val
  a : List Val
  ch : Chg
deriving DecidableEq

def evC (e : Evt) : List V := [.int .i64 e.k, .int .i64 e.n, .str e.t, .sl 3 (vals e.b) false, .sl 3 (vals e.a) false, .int .i64 e.ch.k, .str e.ch.t, .sl 3 (cols e.ch.c) false, .int .i64 e.ch.ks, .str e.ch.col.n, .int .i64 e.ch.col.k, .bool e.ch.col.o]
def evA (e : Evt) : V := .agg [.int .i64 e.k, .int .i64 e.n, .str e.t, .sl 3 (vals e.b) false, .sl 3 (vals e.a) false, .int .i64 e.ch.k, .str e.ch.t, .sl 3 (cols e.ch.c) false, .int .i64 e.ch.ks, .str e.ch.col.n, .int .i64 e.ch.col.k, .bool e.ch.col.o]

theorem chg_eq (a b : Chg) : (decide (a.k = b.k) && (decide (a.t = b.t) && (decide (a.col = b.col) && (decide (a.ks = b.ks) && decide (a.c = b.c))))) = decide (a = b) := by
  cases a; cases b
  simp only [Chg.mk.injEq, ← Bool.decide_and]
  congr 1
  apply propext
  constructor
  · rintro ⟨h1, h2, h3, h4, h5⟩; exact ⟨h1, h2, h5, h4, h3⟩
  · rintro ⟨h1, h2, h5, h4, h3⟩; exact ⟨h1, h2, h3, h4, h5⟩

theorem evt_eq (a b : Evt) : (decide (a.k = b.k) && (decide (a.n = b.n) && (decide (a.t = b.t) && (decide (a.b = b.b) && (decide (a.a = b.a) && decide (a.ch = b.ch)))))) = decide (a = b) := by
  cases a; cases b
  simp only [Evt.mk.injEq, ← Bool.decide_and]

/-- a column of changes cut short -/
def cutCh (c : Chg) : Chg := { c with t := c.t.take 40, c := cutL c.c, col := { c.col with n := c.col.n.take 40 } }

end Go.Proofs.YtokifgdmddnpoaaGreatDoorPg

/- An event's bytes. -/
namespace Go.Proofs.YtokifgdmddnpoaaGreatDoorPg
open Go Go.RowKit

/-- a signed number, as one without a sign -/
def sgU (n : Int) : Nat := if 0 ≤ n then (2 * n).toNat else (2 * (-(n + 1)) + 1).toNat
def sgW (n : Int) : List UInt8 := digW (sgU n)

def colW (c : Col) : List UInt8 := txtW c.n ++ [b8 c.k, if c.o then 1 else 0]
def chgW (c : Chg) : List UInt8 :=
  b8 c.k :: (txtW c.t ++ (if c.k = 1 then b8 c.ks :: b8 c.c.length :: c.c.flatMap colW else if c.k = 3 ∨ c.k = 5 then colW c.col else if c.k = 4 then txtW c.col.n else []))
def valW (v : Val) : List UInt8 := if v.k = 1 then [b8 v.n] else if v.k = 2 then sgW v.n else if v.k = 3 ∨ v.k = 4 then txtW v.t else []

/-- the bits of eight values, the first so many of them -/
def nulS (r : List Val) (j : Nat) : Nat → Nat
  | 0 => 0
  | t + 1 => nulS r j t + (if ((r[8 * j + t]?).map Val.k) = some 0 then 2 ^ t else 0)
def nulW (r : List Val) : List UInt8 := (List.range ((r.length + 7) / 8)).map fun j => UInt8.ofNat (nulS r j 8)
def rowW (r : List Val) : List UInt8 := nulW r ++ r.flatMap valW
def evW (e : Evt) : List UInt8 :=
  b8 e.k :: (if e.k = 6 then chgW e.ch else if e.k = 5 then txtW e.t ++ rowW e.b else if e.k = 3 ∨ e.k = 4 then txtW e.t ++ rowW e.a else numW e.n)

theorem nulS_lt (r : List Val) (j : Nat) : ∀ t, nulS r j t < 2 ^ t
  | 0 => by simp [nulS]
  | t + 1 => by
    have := nulS_lt r j t
    simp only [nulS, Nat.pow_succ]
    split <;> omega

/-- the bits, behind the first so many values -/
def nulN (r : List Val) (i : Nat) : List UInt8 := (List.range ((r.length + 7) / 8)).map fun j => UInt8.ofNat (nulS r j (min 8 (i - 8 * j)))

theorem nulN_len (r : List Val) (i : Nat) : (nulN r i).length = (r.length + 7) / 8 := by simp [nulN]
theorem nulW_len (r : List Val) : (nulW r).length = (r.length + 7) / 8 := by simp [nulW]

theorem nulS_end (r : List Val) (j : Nat) : ∀ t s, r.length ≤ 8 * j + t → t ≤ s → nulS r j s = nulS r j t
  | t, 0, _, h => by have : t = 0 := by omega
                     subst this; rfl
  | t, s + 1, h1, h2 => by
    by_cases e : t = s + 1
    · subst e; rfl
    · simp only [nulS]
      rw [List.getElem?_eq_none (by omega), nulS_end r j t s h1 (by omega)]
      simp

theorem nulN_all (r : List Val) : nulN r r.length = nulW r := by
  unfold nulN nulW
  refine List.map_congr_left fun j _ => ?_
  congr 1
  by_cases h : 8 ≤ r.length - 8 * j
  · rw [Nat.min_eq_left h]
  · rw [Nat.min_eq_right (by omega)]
    exact (nulS_end r j _ 8 (by omega) (by omega)).symm

theorem nulN_zero (r : List Val) : nulN r 0 = List.replicate ((r.length + 7) / 8) 0 := by
  unfold nulN
  refine List.ext_getElem? fun j => ?_
  rw [List.getElem?_map, List.getElem?_replicate]
  by_cases h : j < (r.length + 7) / 8
  · rw [List.getElem?_range h, if_pos h]
    simp [nulS]
  · rw [List.getElem?_eq_none (by simp; omega), if_neg h]; rfl

theorem nulN_get {r : List Val} {i j : Nat} (h : j < (r.length + 7) / 8) : (nulN r i)[j]? = some (UInt8.ofNat (nulS r j (min 8 (i - 8 * j)))) := by
  unfold nulN
  rw [List.getElem?_map, List.getElem?_range h]; rfl

theorem nulN_skip {r : List Val} {i : Nat} {v : Val} (hg : r[i]? = some v) (hk : v.k ≠ 0) : nulN r (i + 1) = nulN r i := by
  unfold nulN
  refine List.map_congr_left fun j _ => ?_
  congr 1
  by_cases h1 : i < 8 * j
  · rw [show i + 1 - 8 * j = 0 by omega, show i - 8 * j = 0 by omega]
  · by_cases h2 : 8 * j + 8 ≤ i
    · rw [Nat.min_eq_left (by omega), Nat.min_eq_left (by omega)]
    · rw [Nat.min_eq_right (by omega), Nat.min_eq_right (by omega), show i + 1 - 8 * j = (i - 8 * j) + 1 by omega]
      simp only [nulS]
      rw [show 8 * j + (i - 8 * j) = i by omega, hg]
      simp [hk]

theorem nulN_set {r : List Val} {i : Nat} {v : Val} (hg : r[i]? = some v) (hk : v.k = 0) :
    nulN r (i + 1) = (nulN r i).set (i / 8) (UInt8.ofNat (nulS r (i / 8) (i % 8) + 2 ^ (i % 8))) ∧ (nulN r i)[i / 8]? = some (UInt8.ofNat (nulS r (i / 8) (i % 8))) := by
  have hlt := (List.getElem?_eq_some_iff.1 hg).1
  have hj : i / 8 < (r.length + 7) / 8 := by omega
  have hm : min 8 (i - 8 * (i / 8)) = i % 8 := by omega
  refine ⟨List.ext_getElem? fun j => ?_, by rw [nulN_get hj, hm]⟩
  rw [List.getElem?_set, nulN_len]
  by_cases e : i / 8 = j
  · subst e
    rw [if_pos rfl, if_pos hj, nulN_get hj, show min 8 (i + 1 - 8 * (i / 8)) = i % 8 + 1 by omega]
    simp only [nulS]
    rw [show 8 * (i / 8) + i % 8 = i by omega, hg]
    simp [hk]
  · rw [if_neg e]
    by_cases hj2 : j < (r.length + 7) / 8
    · rw [nulN_get hj2, nulN_get hj2]
      congr 3
      omega
    · rw [List.getElem?_eq_none (by rw [nulN_len]; omega), List.getElem?_eq_none (by rw [nulN_len]; omega)]

theorem sgW_len (n : Int) : (sgW n).length ≤ 10 := digW_len _

theorem valW_len {v : Val} (h : v.t.length ≤ 4096) : (valW v).length ≤ 4106 := by
  unfold valW
  split
  · simp
  split
  · have := sgW_len v.n; omega
  split
  · have := txtW_len v.t; omega
  · simp

theorem vals_w {r : List Val} (h : ∀ v ∈ r, v.t.length ≤ 4096) : (r.flatMap valW).length ≤ 4106 * r.length := by
  induction r with
  | nil => simp
  | cons v l ih =>
    rw [List.flatMap_cons, List.length_append, List.length_cons]
    have := valW_len (h v (by simp))
    have := ih fun x hx => h x (by simp [hx])
    omega

theorem valsW_snoc {r : List Val} {i : Nat} {v : Val} (h : r[i]? = some v) : (r.take (i + 1)).flatMap valW = (r.take i).flatMap valW ++ valW v := by
  rw [List.take_add_one, h, List.flatMap_append]
  simp

theorem colW_len {c : Col} (h : c.n.length ≤ 4096) : (colW c).length ≤ 4108 := by
  unfold colW
  rw [List.length_append]
  have := txtW_len c.n
  simp only [List.length_cons, List.length_nil]
  omega

theorem cols_w {l : List Col} (h : ∀ c ∈ l, c.n.length ≤ 4096) : (l.flatMap colW).length ≤ 4108 * l.length := by
  induction l with
  | nil => simp
  | cons v l ih =>
    rw [List.flatMap_cons, List.length_append, List.length_cons]
    have := colW_len (h v (by simp))
    have := ih fun x hx => h x (by simp [hx])
    omega

theorem colsW_snoc {r : List Col} {i : Nat} {v : Col} (h : r[i]? = some v) : (r.take (i + 1)).flatMap colW = (r.take i).flatMap colW ++ colW v := by
  rw [List.take_add_one, h, List.flatMap_append]
  simp

/-- bounds within which an event is written -/
structure ChB (c : Chg) : Prop where
  t : c.t.length ≤ 4096
  few : c.c.length ≤ 64
  names : ∀ x ∈ c.c, x.n.length ≤ 4096
  col : c.col.n.length ≤ 4096

end Go.Proofs.YtokifgdmddnpoaaGreatDoorPg

/- Appending, as lemmas. -/
namespace Go.Proofs.YtokifgdmddnpoaaGreatDoorPg
open Go Go.RowKit
set_option linter.unusedSectionVars false
variable [Globs]

theorem app_gen {z b i n : Nat} {x : V} {X ys : List (List V)} {H : List O} {K : V → List O → Prop} (hx : sameBuf (.ms z i 0 n false) x = false) (hX : getO H i = .buf X) (hn : n = X.length) (hs : (X.length + ys.length) * b ≤ 70368744177664)
    (hK : copyH (setO H i .dead ++ [.buf (X ++ ys)]) fun H' => K (.ms z (setO H i .dead).length 0 (X.length + ys.length) false) H') : aapp z b (.ms z i 0 n false) x ys H K := by
  subst hn
  unfold aapp
  simp only [hx]
  unfold aappend
  simp only [Nat.beq_refl, hX, List.drop_zero]
  refine ⟨rfl, ?_⟩
  unfold newBuf
  rw [List.length_append]
  exact ⟨hs, hK⟩

theorem app_nil {z b : Nat} {x : V} {ys : List (List V)} {H : List O} {K : V → List O → Prop} (hs : ys.length * b ≤ 70368744177664)
    (hK : copyH (H ++ [.buf ys]) fun H' => K (.ms z H.length 0 ys.length false) H') : aapp z b .nils x ys H K := ⟨hs, hK⟩

/-- .. where the append is laid open already -/
theorem app_gen2 {z b n : Nat} {X ys : List (List V)} {H : List O} {K : V → List O → Prop} (hn : n = X.length) (hs : (X.length + ys.length) * b ≤ 70368744177664)
    (hK : copyH (H ++ [.buf (X ++ ys)]) fun H' => K (.ms z H.length 0 (X.length + ys.length) false) H') : n + 0 = X.length ∧ newBuf z b (List.drop 0 X ++ ys) H K := by
  subst hn
  refine ⟨rfl, ?_⟩
  rw [List.drop_zero]
  unfold newBuf
  rw [List.length_append]
  exact ⟨hs, hK⟩

end Go.Proofs.YtokifgdmddnpoaaGreatDoorPg
