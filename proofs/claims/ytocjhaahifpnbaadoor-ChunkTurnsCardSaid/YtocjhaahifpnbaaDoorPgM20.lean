/- Own texts, laid together: Pg11DValid, Pg11DValG, Pg11DLs. -/
import Derived.Test.YtocjhaahifpnbaaDoorPgM18
import Derived.Test.YtocjhaahifpnbaaDoorPgM14
import Derived.Shelf.Unicode.ValidAny
import Derived.Test.YtocjhaahifpnbaaDoorPgM19
import Derived.Test.YtocjhaahifpnbaaDoorProg
import Derived.Shelf.Lays
import Derived.Ground.NamesProg
/- utf8.ValidString: the shelf's contract. -/
namespace Go.Proofs.YtocjhaahifpnbaaDoorPg
open Go Go.RowKit
set_option linter.unusedSimpArgs false
set_option linter.unusedVariables false

variable {Q : V → List O → Prop}

theorem ValidString_spec {s : List UInt8} (hs : s.length ≤ 9223372036854775807) (h : Q (.bool (u8 s)) []) : ACall Tryd.prog 98 0 [.str s] [] Q := by
  refine acall_below (r := .bool (u8 s)) (fun I ρ w us hst ha => ?_) h
  obtain ⟨u, us', e1, hu, ht⟩ := ha.cons_inv
  have e2 : us' = [] := List.eq_nil_of_length_eq_zero ht.1.symm
  obtain ⟨b, hb, rfl⟩ := vr_str hu
  subst e2
  have eu : us = #[.string b] := by
    apply Array.ext'
    simpa using e1
  subst eu
  refine ⟨.bool (u8 s), fun _ _ => .bool _ _, ?_⟩
  have hsz : b.size ≤ 9223372036854775807 := by
    have : b.size = s.length := by rw [← hb]; rfl
    omega
  have := Any.utf8_ValidString Tryd.laysValid b w hsz (tabs_of hst)
  rw [hb, valid_u8] at this
  exact this

end Go.Proofs.YtocjhaahifpnbaaDoorPg

/- Values and rows: the program's own functions. -/
namespace Go.Proofs.YtocjhaahifpnbaaDoorPg
open Go Go.RowKit
set_option linter.unusedSimpArgs false
set_option linter.unusedVariables false

variable {Q : V → List O → Prop}

theorem vals_take (vs : List Val) (n : Nat) : List.take n (vals vs) = vals (vs.take n) := by simp [vals, List.map_take]

theorem qb {b b' : Bool} {H : List O} (h : Q (.bool b) H) (e : b = b') : Q (.bool b') H := e ▸ h

set_option maxHeartbeats 4000000 in
theorem VMay_spec {v : Val} (ht : v.t.length < 1000000000000000000) (h : Q (.bool (mayV v)) []) : ACall Tryd.prog 92 0 [valA v] [] Q := by
  refine by_body Tryd.func92 0 rfl (Nat.le_of_ble_eq_true rfl) ?_
  conv => whnf
  refine branch_i (fun c1 => ?_) (fun c1 => ?_) <;> try rw [c1] <;> conv => whnf
  all_goals
    have hc := c1
    refine branch_i (fun k0 => ?_) (fun k0 => ?_) <;> try rw [k0] <;> conv => whnf
    focus
      refine ⟨[], rfl, qb h ?_⟩
      unfold mayV
      rw [if_pos (of_decide_eq_true k0), k0]
      simp
    have k0' := of_decide_eq_false k0
    refine branch_i (fun k1 => ?_) (fun k1 => ?_) <;> try rw [k1] <;> conv => whnf
    focus
      have e : mayV v = (decide (v.t = []) && (decide (v.n = 0) || decide (v.n = 1))) := by unfold mayV; rw [if_neg k0', if_pos (of_decide_eq_true k1)]
      rw [e] at h
      refine branch_i (fun d1 => ?_) (fun d1 => ?_) <;> rw [d1] at h <;> try rw [d1] <;> conv => whnf
      focus exact ⟨[], rfl, qb h (by simp)⟩
      refine branch_i (fun d2 => ?_) (fun d2 => ?_) <;> rw [d2] at h <;> try rw [d2] <;> conv => whnf
      · exact ⟨[], rfl, qb h (by simp)⟩
      · exact ⟨[], rfl, qb h (by simp)⟩
    have k1' := of_decide_eq_false k1
    refine branch_i (fun k2 => ?_) (fun k2 => ?_) <;> try rw [k2] <;> conv => whnf
    focus
      have e : mayV v = decide (v.t = []) := by unfold mayV; rw [if_neg k0', if_neg k1', if_pos (of_decide_eq_true k2)]
      rw [e] at h
      exact ⟨[], rfl, h⟩
    have k2' := of_decide_eq_false k2
    refine branch_i (fun k3 => ?_) (fun k3 => ?_) <;> try rw [k3] <;> conv => whnf
    focus
      have e : mayV v = (u8 v.t && decide (v.n = 0) && decide ((v.t.length : Int) ≤ 4096)) := by unfold mayV; rw [if_neg k0', if_neg k1', if_neg k2', if_pos (of_decide_eq_true k3)]
      rw [e, hc] at h
      first
        | exact ⟨[], rfl, qb h (by simp)⟩
        | (refine branch_i (fun d1 => ?_) (fun d1 => ?_) <;> rw [d1] at h <;> try rw [d1] <;> conv => whnf
           · refine .pure (ValidString_spec (by omega) ⟨rfl, ?_⟩)
             conv => whnf
             exact ⟨[], rfl, qb h (by simp)⟩
           · exact ⟨[], rfl, qb h (by simp)⟩)
    have k3' := of_decide_eq_false k3
    refine branch_i (fun k4 => ?_) (fun k4 => ?_) <;> try rw [k4] <;> conv => whnf
    · have e : mayV v = (decide (v.n = 0) && decide ((v.t.length : Int) ≤ 4096)) := by unfold mayV; rw [if_neg k0', if_neg k1', if_neg k2', if_neg k3', if_pos (of_decide_eq_true k4)]
      rw [e, hc] at h
      exact ⟨[], rfl, qb h (by simp)⟩
    · have e : mayV v = false := by unfold mayV; rw [if_neg k0', if_neg k1', if_neg k2', if_neg k3', if_neg (of_decide_eq_false k4)]
      rw [e] at h
      exact ⟨[], rfl, h⟩

end Go.Proofs.YtocjhaahifpnbaaDoorPg

/- A contract of the library, laid at this program: numbers of functions, types, variables. -/
namespace Go.Proofs
open Go.Shelf
def Tryd.laysString_ren : Go.Shelf.Ren := ⟨fun | 169 => 97 | n => n, fun | 70 => 111 | 9 => 9 | 0 => 0 | 72 => 113 | 37 => 43 | 127 => 121 | 3 => 3 | 5 => 5 | n => n, fun | n => n⟩
theorem Tryd.laysString : Go.Proofs.Lays.n169 Tryd.prog Tryd.laysString_ren := {
  mixed := by kernel_rfl
  f169 := Tryd.func97.trans (congrArg some (by kernel_rfl))
  t0 := Tryd.underlying0
  a0 := Tryd.isAgg0
  z0 := Tryd.sizeOf0
  v0 := Tryd.zeroValue0
  t3 := Tryd.underlying3
  a3 := Tryd.isAgg3
  z3 := Tryd.sizeOf3
  v3 := Tryd.zeroValue3
  t9 := Tryd.underlying9
  a9 := Tryd.isAgg9
  z9 := Tryd.sizeOf9
  v9 := Tryd.zeroValue9
  t37 := Tryd.underlying43
  a37 := Tryd.isAgg43
  z37 := Tryd.sizeOf43
  v37 := Tryd.zeroValue43
  t70 := Tryd.underlying111
  a70 := Tryd.isAgg111
  z70 := Tryd.sizeOf111
  v70 := Tryd.zeroValue111
  t72 := Tryd.underlying113
  a72 := Tryd.isAgg113
  z72 := Tryd.sizeOf113
  v72 := Tryd.zeroValue113
  t127 := Tryd.underlying121
  a127 := Tryd.isAgg121
  z127 := Tryd.sizeOf121
  v127 := Tryd.zeroValue121 }
end Go.Proofs
