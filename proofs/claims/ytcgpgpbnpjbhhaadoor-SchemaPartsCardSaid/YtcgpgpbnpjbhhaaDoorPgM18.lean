/- Own texts, laid together: Pg04DValid, Pg04DValG, Pg04DLs. -/
import Derived.Test.YtcgpgpbnpjbhhaaDoorPgM16
import Derived.Test.YtcgpgpbnpjbhhaaDoorPgM13
import Derived.Shelf.Unicode.ValidAny
import Derived.Test.YtcgpgpbnpjbhhaaDoorPgM17
import Derived.Test.YtcgpgpbnpjbhhaaDoorProg
import Derived.Shelf.Lays
import Derived.Ground.NamesProg
/- utf8.ValidString: the shelf's contract. -/
namespace Go.Proofs.YtcgpgpbnpjbhhaaDoorPg
open Go Go.RowKit
set_option linter.unusedSimpArgs false
set_option linter.unusedVariables false

variable {Q : V → List O → Prop}

theorem ValidString_spec {s : List UInt8} (hs : s.length ≤ 9223372036854775807) (h : Q (.bool (u8 s)) []) : ACall Tryd.prog 44 0 [.str s] [] Q := by
  refine acall_below (r := .bool (u8 s)) (fun I ρ w us hst ha => ?_) h
  obtain ⟨u, us', e1, hu, ht⟩ := ha.cons_inv
  have e2 : us' = [] := List.eq_nil_of_length_eq_zero ht.1.symm
  obtain ⟨b, hb, rfl⟩ := vr_str hu
  subst e2
  have eu : us = #[.string b] := by
    apply Array.ext'
    simpa using e1
  subst eu
  refine ⟨.bool (u8 s), fun _ _ => .bool _ _, ?_⟩
  have hsz : b.size ≤ 9223372036854775807 := by
    have : b.size = s.length := by rw [← hb]; rfl
    omega
  have := Any.utf8_ValidString Tryd.laysValid b w hsz (tabs_of hst)
  rw [hb, valid_u8] at this
  exact this

end Go.Proofs.YtcgpgpbnpjbhhaaDoorPg

/- Values and rows: the program's own functions. -/
namespace Go.Proofs.YtcgpgpbnpjbhhaaDoorPg
open Go Go.RowKit
set_option linter.unusedSimpArgs false
set_option linter.unusedVariables false

variable {Q : V → List O → Prop}

theorem vals_take (vs : List Val) (n : Nat) : List.take n (vals vs) = vals (vs.take n) := by simp [vals, List.map_take]

theorem qb {b b' : Bool} {H : List O} (h : Q (.bool b) H) (e : b = b') : Q (.bool b') H := e ▸ h

set_option maxHeartbeats 4000000 in
theorem VMay_spec {v : Val} (ht : v.t.length < 1000000000000000000) (h : Q (.bool (mayV v)) []) : ACall Tryd.prog 34 0 [valA v] [] Q := by
  refine by_body Tryd.func34 0 rfl (Nat.le_of_ble_eq_true rfl) ?_
  conv => whnf
  refine branch_i (fun c1 => ?_) (fun c1 => ?_) <;> try rw [c1] <;> conv => whnf
  all_goals
    have hc := c1
    refine branch_i (fun k0 => ?_) (fun k0 => ?_) <;> try rw [k0] <;> conv => whnf
    focus
      refine ⟨[], rfl, qb h ?_⟩
      unfold mayV
      rw [if_pos (of_decide_eq_true k0), k0]
      simp
    have k0' := of_decide_eq_false k0
    refine branch_i (fun k1 => ?_) (fun k1 => ?_) <;> try rw [k1] <;> conv => whnf
    focus
      have e : mayV v = (decide (v.t = []) && (decide (v.n = 0) || decide (v.n = 1))) := by unfold mayV; rw [if_neg k0', if_pos (of_decide_eq_true k1)]
      rw [e] at h
      refine branch_i (fun d1 => ?_) (fun d1 => ?_) <;> rw [d1] at h <;> try rw [d1] <;> conv => whnf
      focus exact ⟨[], rfl, qb h (by simp)⟩
      refine branch_i (fun d2 => ?_) (fun d2 => ?_) <;> rw [d2] at h <;> try rw [d2] <;> conv => whnf
      · exact ⟨[], rfl, qb h (by simp)⟩
      · exact ⟨[], rfl, qb h (by simp)⟩
    have k1' := of_decide_eq_false k1
    refine branch_i (fun k2 => ?_) (fun k2 => ?_) <;> try rw [k2] <;> conv => whnf
    focus
      have e : mayV v = decide (v.t = []) := by unfold mayV; rw [if_neg k0', if_neg k1', if_pos (of_decide_eq_true k2)]
      rw [e] at h
      exact ⟨[], rfl, h⟩
    have k2' := of_decide_eq_false k2
    refine branch_i (fun k3 => ?_) (fun k3 => ?_) <;> try rw [k3] <;> conv => whnf
    focus
      have e : mayV v = (u8 v.t && decide (v.n = 0) && decide ((v.t.length : Int) ≤ 4096)) := by unfold mayV; rw [if_neg k0', if_neg k1', if_neg k2', if_pos (of_decide_eq_true k3)]
      rw [e, hc] at h
      first
        | exact ⟨[], rfl, qb h (by simp)⟩
        | (refine branch_i (fun d1 => ?_) (fun d1 => ?_) <;> rw [d1] at h <;> try rw [d1] <;> conv => whnf
           · refine .pure (ValidString_spec (by omega) ⟨rfl, ?_⟩)
             conv => whnf
             exact ⟨[], rfl, qb h (by simp)⟩
           · exact ⟨[], rfl, qb h (by simp)⟩)
    have k3' := of_decide_eq_false k3
    refine branch_i (fun k4 => ?_) (fun k4 => ?_) <;> try rw [k4] <;> conv => whnf
    · have e : mayV v = (decide (v.n = 0) && decide ((v.t.length : Int) ≤ 4096)) := by unfold mayV; rw [if_neg k0', if_neg k1', if_neg k2', if_neg k3', if_pos (of_decide_eq_true k4)]
      rw [e, hc] at h
      exact ⟨[], rfl, qb h (by simp)⟩
    · have e : mayV v = false := by unfold mayV; rw [if_neg k0', if_neg k1', if_neg k2', if_neg k3', if_neg (of_decide_eq_false k4)]
      rw [e] at h
      exact ⟨[], rfl, h⟩

theorem fits_spec {c : Col} {v : Val} (ht : v.t.length < 1000000000000000000) (h : Q (.bool (standsV c v)) []) : ACall Tryd.prog 27 0 [colA c, valA v] [] Q := by
  refine by_body Tryd.func27 0 rfl (Nat.le_of_ble_eq_true rfl) ?_
  conv => whnf
  unfold standsV at h
  refine .pure (VMay_spec ht ⟨rfl, ?_⟩)
  conv => whnf
  cases c1 : mayV v <;> rw [c1] at h <;> conv => whnf
  focus exact ⟨[], rfl, h⟩
  refine branch_i (fun c2 => ?_) (fun c2 => ?_) <;> rw [c2] at h <;> try rw [c2] <;> conv => whnf
  focus exact ⟨[], rfl, h⟩
  refine branch_i (fun c3 => ?_) (fun c3 => ?_) <;> rw [c3] at h <;> try rw [c3] <;> conv => whnf
  all_goals exact ⟨[], rfl, h⟩

theorem begins_spec {l : List Col} {keys : Int} {vs : List Val} {f : Bool} {n : Nat} (hl : l.length ≤ 1000) (hn : n ≤ l.length) (ht : TextsOk vs) (h : Q (.bool (keyOkL l n vs)) []) :
    ACall Tryd.prog 20 0 [sch l keys, .sl 3 (vals vs) f, fI n] [] Q := by
  have hlc := cols_len l
  have hlv := vals_len vs
  refine by_body Tryd.func20 0 rfl (Nat.le_of_ble_eq_true rfl) ?_
  conv => whnf
  refine branch_i (fun c1 => ?_) (fun c1 => ?_) <;> try rw [c1] <;> conv => whnf
  focus
    have c1' := of_decide_eq_true c1
    have e : keyOkL l n vs = false := by unfold keyOkL; rw [decide_eq_false (by omega), Bool.false_and]
    rw [e] at h
    exact ⟨[], rfl, h⟩
  have c1' := of_decide_eq_false c1
  refine ⟨⟨[1, 3, 12, 13], fun m ws H => ∃ i : Nat, ws = [.sl 3 (vals vs) f, .ptr 0 0, fI n, fI i] ∧ H = [.cells [.sl 3 (cols l) false, fI keys]] ∧ standN l vs i ∧ i ≤ n ∧ m = n - i,
    .at n ⟨0, rfl, rfl, fun i c v hi => by omega, Nat.zero_le _, rfl⟩, ?_⟩⟩
  rintro m ws H ⟨i, rfl, rfl, hs, hi, rfl⟩
  conv => whnf
  refine branch_i (fun c2 => ?_) (fun c2 => ?_) <;> try rw [c2] <;> conv => whnf
  focus
    have c2' := of_decide_eq_true c2
    have hi1 : i < l.length := by omega
    have hi2 : i < vs.length := by omega
    have g1 : l[i]? = some l[i] := List.getElem?_eq_getElem hi1
    have g2 : vs[i]? = some vs[i] := List.getElem?_eq_getElem hi2
    have htt := ht vs[i] (List.getElem_mem hi2)
    generalize l[i] = c at *
    generalize vs[i] = v at *
    refine ⟨List.range 11, by kernel_rfl, by kernel_rfl, ?_⟩
    conv => whnf
    refine ⟨_, ⟨by omega, cols_get g1⟩, ?_⟩
    conv => whnf
    refine ⟨_, ⟨by omega, vals_get g2⟩, ?_⟩
    conv => whnf
    refine .pure (fits_spec (c := c) (v := v) htt ⟨rfl, ?_⟩)
    conv => whnf
    cases e : standsV c v
    · conv => whnf
      rw [keyOk_no (by omega) g1 g2 e] at h
      exact ⟨[], rfl, h⟩
    · conv => whnf
      refine .go [0] rfl (n - (i + 1)) (by omega) ⟨i + 1, ?_, rfl, fun j c' v' hj hc' hv' => ?_, by omega, rfl⟩
      · show [V.sl 3 (vals vs) f, V.ptr 0 0, fI n, V.int .i64 (IntKind.i64.wrap ((i : Int) + 1))] = _
        rw [wrapI (by omega)]; rfl
      · rcases Nat.lt_or_ge j i with h1 | h1
        · exact hs j c' v' h1 hc' hv'
        · have : j = i := by omega
          subst this
          rw [g1] at hc'; rw [g2] at hv'; cases hc'; cases hv'; exact e
  have c2' := of_decide_eq_false c2
  have hie : i = n := by omega
  subst hie
  rw [keyOk_yes (by omega) hs] at h
  exact ⟨[], rfl, h⟩

theorem Fits_spec {l : List Col} {keys : Int} {vs : List Val} {f : Bool} (hl : l.length ≤ 1000) (ht : TextsOk vs) (h : Q (.bool (fitsL l vs)) []) :
    ACall Tryd.prog 8 0 [sch l keys, .sl 3 (vals vs) f] [] Q := by
  have hlc := cols_len l
  have hlv := vals_len vs
  refine by_body Tryd.func8 0 rfl (Nat.le_of_ble_eq_true rfl) ?_
  conv => whnf
  by_cases e : vs.length = l.length
  rotate_left
  focus
    rw [show decide (((vals vs).length : Int) = ((cols l).length : Int)) = false by simp only [hlv, hlc, decide_eq_false_iff_not]; omega]
    conv => whnf
    have e2 : fitsL l vs = false := by unfold fitsL; rw [decide_eq_false e, Bool.false_and]
    rw [e2] at h
    exact ⟨[], rfl, h⟩
  rw [show decide (((vals vs).length : Int) = ((cols l).length : Int)) = true by simp only [hlv, hlc, decide_eq_true_eq]; omega]
  conv => whnf
  rw [hlv]
  refine .pure (begins_spec hl (by omega) ht ⟨rfl, ?_⟩)
  conv => whnf
  refine ⟨[], rfl, qb h ?_⟩
  unfold fitsL keyOkL
  rw [decide_eq_true e, decide_eq_true (Nat.le_refl _)]

end Go.Proofs.YtcgpgpbnpjbhhaaDoorPg

/- A contract of the library, laid at this program: numbers of functions, types, variables. -/
namespace Go.Proofs
open Go.Shelf
def Tryd.laysString_ren : Go.Shelf.Ren := ⟨fun | 169 => 50 | n => n, fun | 70 => 81 | 9 => 9 | 0 => 0 | 72 => 83 | 37 => 56 | 127 => 97 | 3 => 3 | 5 => 5 | n => n, fun | n => n⟩
theorem Tryd.laysString : Go.Proofs.Lays.n169 Tryd.prog Tryd.laysString_ren := {
  mixed := by kernel_rfl
  f169 := Tryd.func50.trans (congrArg some (by kernel_rfl))
  t0 := Tryd.underlying0
  a0 := Tryd.isAgg0
  z0 := Tryd.sizeOf0
  v0 := Tryd.zeroValue0
  t3 := Tryd.underlying3
  a3 := Tryd.isAgg3
  z3 := Tryd.sizeOf3
  v3 := Tryd.zeroValue3
  t9 := Tryd.underlying9
  a9 := Tryd.isAgg9
  z9 := Tryd.sizeOf9
  v9 := Tryd.zeroValue9
  t37 := Tryd.underlying56
  a37 := Tryd.isAgg56
  z37 := Tryd.sizeOf56
  v37 := Tryd.zeroValue56
  t70 := Tryd.underlying81
  a70 := Tryd.isAgg81
  z70 := Tryd.sizeOf81
  v70 := Tryd.zeroValue81
  t72 := Tryd.underlying83
  a72 := Tryd.isAgg83
  z72 := Tryd.sizeOf83
  v72 := Tryd.zeroValue83
  t127 := Tryd.underlying97
  a127 := Tryd.isAgg97
  z127 := Tryd.sizeOf97
  v127 := Tryd.zeroValue97 }
end Go.Proofs
