/- A schema that may be, made of any. -/
import Derived.Test.YtcgpgpbnpjbhhaaPgM11
import Derived.Laws.BitsLemmas
namespace Go.Proofs.YtcgpgpbnpjbhhaaPg
open Go Go.RowKit

def poolS : List (List UInt8) := [[105, 100], [110, 97, 109, 101], [110], [102, 108, 97, 103], [114, 97, 119], [120]]

/-- a number from 0 on, of any -/
def natI (k : Int) : Int := if k < 0 then IntKind.i64.wrap (0 - IntKind.i64.wrap (k + 1)) else k
def gKind (k : Int) : Int := IntKind.i64.wrap (1 + (natI k).tmod 4)

def gName (ok : List UInt8 → Bool) (out : List Col) (i : Nat) (c : Col) : List UInt8 :=
  if ok c.n = false ∨ 0 ≤ fnd c.n out 0 then poolS.getD i [] else c.n

def stepG (ok : List UInt8 → Bool) (out : List Col) (i : Nat) (c : Col) : List Col :=
  if fnd (gName ok out i c) out 0 < 0 then out ++ [⟨gName ok out i c, gKind c.k, c.o⟩] else out

def gN (ok : List UInt8 → Bool) (l : List Col) : Nat → List Col
  | 0 => []
  | i + 1 => match l[i]? with
    | some c => stepG ok (gN ok l i) i c
    | none => gN ok l i

/-- the columns, before their keys are cleared -/
def gCols (ok : List UInt8 → Bool) (l : List Col) : List Col :=
  match gN ok l (min l.length 6) with
  | [] => [⟨[105, 100], 2, false⟩]
  | g => g

def gKeys (n : Nat) (keys : Int) : Int := IntKind.i64.wrap (1 + (natI keys).tmod ((min n 3 : Nat) : Int))

def clearK : Nat → List Col → List Col
  | 0, l => l
  | _, [] => []
  | k + 1, c :: l => { c with o := false } :: clearK k l

def goodL (ok : List UInt8 → Bool) (l : List Col) (keys : Int) : List Col := clearK (gKeys (gCols ok l).length keys).toNat (gCols ok l)
def goodK (ok : List UInt8 → Bool) (l : List Col) (keys : Int) : Int := gKeys (gCols ok l).length keys

theorem natI_nonneg {k : Int} (h : -9223372036854775808 ≤ k ∧ k ≤ 9223372036854775807) : 0 ≤ natI k ∧ natI k ≤ 9223372036854775807 := by
  unfold natI
  split
  · have e1 : IntKind.i64.wrap (k + 1) = k + 1 := by rw [IntKind.wrap_i64]; omega
    have e2 : IntKind.i64.wrap (0 - (k + 1)) = - (k + 1) := by rw [IntKind.wrap_i64]; omega
    rw [e1, e2]; omega
  · omega

theorem gKind_ok {k : Int} (h : -9223372036854775808 ≤ k ∧ k ≤ 9223372036854775807) : 1 ≤ gKind k ∧ gKind k ≤ 4 := by
  have h1 := natI_nonneg h
  unfold gKind
  rw [IntKind.wrap_i64, Int.tmod_eq_emod_of_nonneg h1.1]
  omega

theorem gKeys_ok {n : Nat} (hn : 1 ≤ n) {k : Int} (h : -9223372036854775808 ≤ k ∧ k ≤ 9223372036854775807) : 1 ≤ gKeys n k ∧ gKeys n k ≤ 3 ∧ gKeys n k ≤ n := by
  have h1 := natI_nonneg h
  unfold gKeys
  rw [IntKind.wrap_i64, Int.tmod_eq_emod_of_nonneg h1.1]
  have h2 : 0 < ((min n 3 : Nat) : Int) := by omega
  have h3 := Int.emod_lt_of_pos (natI k) h2
  have h4 := Int.emod_nonneg (natI k) (show ((min n 3 : Nat) : Int) ≠ 0 by omega)
  generalize natI k % ((min n 3 : Nat) : Int) = r at *
  omega

theorem gN_len (ok : List UInt8 → Bool) (l : List Col) : ∀ i, (gN ok l i).length ≤ i
  | 0 => by simp [gN]
  | i + 1 => by
    have := gN_len ok l i
    unfold gN
    split
    · unfold stepG; split <;> simp <;> omega
    · omega

theorem gCols_len (ok : List UInt8 → Bool) (l : List Col) : 1 ≤ (gCols ok l).length ∧ (gCols ok l).length ≤ 6 := by
  have := gN_len ok l (min l.length 6)
  unfold gCols
  split
  · simp
  · rename_i h
    constructor
    · cases hg : gN ok l (min l.length 6) with
      | nil => exact absurd hg h
      | cons => simp
    · omega

theorem clearK_len : ∀ (k : Nat) (l : List Col), (clearK k l).length = l.length
  | 0, l => by simp [clearK]
  | _ + 1, [] => by simp [clearK]
  | k + 1, c :: l => by simp [clearK, clearK_len k l]

theorem clearK_get : ∀ (k : Nat) (l : List Col) (i : Nat), (clearK k l)[i]? = (l[i]?).map fun c => if i < k then { c with o := false } else c
  | 0, l, i => by simp [clearK]
  | _ + 1, [], i => by simp [clearK]
  | k + 1, c :: l, 0 => by simp [clearK]
  | k + 1, c :: l, i + 1 => by simp [clearK, clearK_get k l i]

theorem clearK_snoc {k : Nat} {l : List Col} {c : Col} (h : l[k]? = some c) : (clearK k l).set k { c with o := false } = clearK (k + 1) l := by
  refine List.ext_getElem? fun i => ?_
  rw [clearK_get, List.getElem?_set, clearK_len, clearK_get]
  have hlt := (List.getElem?_eq_some_iff.1 h).1
  by_cases e : k = i
  · subst e
    have e2 := (List.getElem?_eq_some_iff.1 h).2
    simp [hlt, e2]
  · rw [if_neg e]
    by_cases g : i < k
    · have g2 : i < k + 1 := by omega
      cases l[i]? <;> simp [g, g2]
    · have g2 : ¬ i < k + 1 := by omega
      cases l[i]? <;> simp [g, g2]

end Go.Proofs.YtcgpgpbnpjbhhaaPg
