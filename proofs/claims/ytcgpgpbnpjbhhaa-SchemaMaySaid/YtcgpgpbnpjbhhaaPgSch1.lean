/- Schemas, as lists. -/
import Derived.Test.YtcgpgpbnpjbhhaaPgE7
namespace Go.Proofs.YtcgpgpbnpjbhhaaPg
open Go Go.RowKit

structure Col where
  n : List UInt8
  k : Int
  o : Bool
  deriving DecidableEq

def colC (c : Col) : List V := [.str c.n, .int .i64 c.k, .bool c.o]
def cols (l : List Col) : List (List V) := l.map colC
def sch (l : List Col) (keys : Int) : V := .agg [.sl 3 (cols l) false, .int .i64 keys]

theorem cols_len (l : List Col) : (cols l).length = l.length := by simp [cols]
theorem cols_get {l : List Col} {i : Nat} {c : Col} (h : l[i]? = some c) : (cols l)[i]? = some [.str c.n, .int .i64 c.k, .bool c.o] := by simp [cols, h, colC]
theorem cols_app (a b : List Col) : cols (a ++ b) = cols a ++ cols b := by simp [cols]

/-- Where a column stands. -/
def fnd (name : List UInt8) : List Col → Nat → Int
  | [], _ => -1
  | c :: l, i => if c.n = name then i else fnd name l (i + 1)

theorem fnd_skip {name : List UInt8} : ∀ {a b : List Col} {i : Nat}, (∀ c ∈ a, c.n ≠ name) → fnd name (a ++ b) i = fnd name b (i + a.length)
  | [], b, i, _ => rfl
  | c :: a, b, i, h => by
    simp only [List.cons_append, fnd]
    rw [if_neg (h c (by simp)), fnd_skip fun x hx => h x (by simp [hx])]
    simp only [List.length_cons]
    congr 1; omega

theorem fnd_here {name : List UInt8} {l : List Col} {i : Nat} {c : Col} (h : ∀ c ∈ l.take i, c.n ≠ name) (hc : l[i]? = some c) (hn : c.n = name) : fnd name l 0 = i := by
  have hlt := (List.getElem?_eq_some_iff.1 hc).1
  have e : l = l.take i ++ c :: l.drop (i + 1) := by
    have := List.getElem?_eq_some_iff.1 hc
    rw [← this.2, ← List.drop_eq_getElem_cons hlt, List.take_append_drop]
  rw [e, fnd_skip h]
  simp only [fnd, hn, if_true, List.length_take]
  omega

theorem fnd_none {name : List UInt8} {l : List Col} (h : ∀ c ∈ l, c.n ≠ name) : fnd name l 0 = -1 := by
  have := fnd_skip (b := []) (i := 0) h
  rw [List.append_nil] at this
  rw [this]; rfl

/-- Few columns. -/
def cutC (c : Col) : Col := { c with n := c.n.take 40 }
def cutL (l : List Col) : List Col := (l.take 20).map cutC

theorem cutL_len (l : List Col) : (cutL l).length ≤ 20 := by simp [cutL]; omega

end Go.Proofs.YtcgpgpbnpjbhhaaPg
