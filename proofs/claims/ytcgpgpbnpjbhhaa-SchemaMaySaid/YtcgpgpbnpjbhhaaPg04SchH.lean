/- Schemas: changes. -/
import Derived.Test.YtcgpgpbnpjbhhaaPg04SchE
namespace Go.Proofs.YtcgpgpbnpjbhhaaPg
open Go Go.RowKit
set_option linter.unusedVariables false

variable {Q : V → List O → Prop}

def chMap : O := .map [(fI 3, .fn (.func 41) [] []), (fI 4, .fn (.func 42) [] []), (fI 5, .fn (.func 43) [] [])] 3

theorem changes_spec (h : Q (.map 0) [chMap]) : ACall Try.prog 27 0 [] [] Q := by
  refine by_body Try.func27 0 rfl (Nat.le_of_ble_eq_true rfl) ?_
  conv => whnf
  exact ⟨[0], rfl, h⟩

theorem cols_erase (l : List Col) (i : Nat) : cols (l.eraseIdx i) = (cols l).take i ++ (cols l).drop (i + 1) := by
  rw [List.eraseIdx_eq_take_drop_succ]; simp [cols]

theorem del_tail {α : Type} {a b : List α} {z : α} {n : Nat} (ha : a.length = n - 1) (hb : (a ++ b).length = n) (hn : 0 < n) :
    (a ++ b).take (n - 1) ++ List.replicate (n - (n - 1)) z ++ (a ++ b).drop (n - 1 + (n - (n - 1))) = a ++ [z] := by
  rw [show n - (n - 1) = 1 by omega, show n - 1 + 1 = n by omega, List.drop_of_length_le (by omega), ← ha, List.take_left]
  simp

theorem wrap_i64_of {n : Int} (h : -9223372036854775808 ≤ n ∧ n ≤ 9223372036854775807) : IntKind.i64.wrap n = n := by rw [IntKind.wrap_i64]; omega

theorem SDelete_spec {l : List Col} {i : Nat} (hl : l.length < 1000000) (h0 : 0 < i) (hi : i < l.length) (h : Q (.ms 3 0 0 (l.length - 1) false) [.buf (cols (l.eraseIdx i) ++ [[.str [], fI 0, .bool false]])]) :
    ACall Try.prog 48 1 [.ms 3 0 0 l.length false, fI i, fI ((i + 1 : Nat) : Int)] [.buf (cols l)] Q := by
  have hlk := cols_len l
  refine by_body Try.func48 1 rfl (Nat.le_of_ble_eq_true rfl) ?_
  conv => whnf
  by_cases c : i + 1 = l.length
  all_goals
    first
      | rw [show decide (((i + 1 : Nat) : Int) = (l.length : Int)) = true by simp; omega]
      | rw [show decide (((i + 1 : Nat) : Int) = (l.length : Int)) = false by simp; omega]
    conv => whnf
    refine ⟨by omega, ?_⟩
    conv => whnf
    rw [show decide ((i : Int) = ((i + 1 : Nat) : Int)) = false by simp; omega]
    conv => whnf
    refine ⟨[0, 1, 2, 3, 4, 5, 6, 7], by kernel_rfl, by kernel_rfl, ?_⟩
    conv => whnf
    refine ⟨by omega, ?_⟩
    conv => whnf
    refine ⟨by omega, ?_⟩
    conv => whnf
    refine ⟨by rw [hlk]; simp; omega, ?_⟩
    conv => whnf
    rw [show List.take (l.length - ((i + 1 : Nat) : Int).toNat) (List.drop (((i + 1 : Nat) : Int).toNat + 0) (cols l)) = (cols l).drop (i + 1) by
      rw [Int.toNat_natCast, Nat.add_zero, List.take_of_length_le (by simp [hlk])]]
    rw [show 0 + ((i : Nat) : Int).toNat = i by omega]
    have e3 : ((cols l).drop (i + 1)).length = l.length - (i + 1) := by simp [hlk]
    refine ⟨⟨by omega, by rw [e3, hlk]; omega⟩, ?_⟩
    rw [e3, Int.toNat_natCast, show i + (l.length - (i + 1)) = l.length - 1 by omega]
    have e4 : ((cols l).take i ++ (cols l).drop (i + 1) ++ (cols l).drop (l.length - 1)).length = l.length := by simp [hlk]; omega
    have e5 : (cols l).take i ++ (cols l).drop (i + 1) = cols (l.eraseIdx i) := (cols_erase l i).symm
    rw [e5] at e4 ⊢
    have e6 : (cols (l.eraseIdx i)).length = l.length - 1 := by rw [cols_len, List.length_eraseIdx, if_pos hi]
    conv => whnf
    refine ⟨⟨by omega, by omega, .inr ⟨by omega, (by omega : 0 + ((l.length : Nat) : Int).toNat ≤ (cols (l.eraseIdx i) ++ (cols l).drop (l.length - 1)).length)⟩⟩, ?_⟩
    conv => whnf
    rw [Int.toNat_natCast, Int.toNat_natCast]
    refine ⟨⟨by omega, by omega⟩, ?_⟩
    conv => whnf
    refine ⟨[0], rfl, ?_⟩
    show Q (.ms 3 0 0 ((i : Int).toNat + (l.length - (i + 1))) false) [O.buf (List.take ((i : Int).toNat + (l.length - (i + 1)) + 0) (cols (l.eraseIdx i) ++ List.drop (l.length - 1) (cols l)) ++
      List.replicate (l.length - ((i : Int).toNat + (l.length - (i + 1)))) [.str [], fI 0, .bool false] ++
      List.drop ((i : Int).toNat + (l.length - (i + 1)) + 0 + (l.length - ((i : Int).toNat + (l.length - (i + 1))))) (cols (l.eraseIdx i) ++ List.drop (l.length - 1) (cols l)))]
    rw [Int.toNat_natCast, show i + (l.length - (i + 1)) = l.length - 1 by omega, Nat.add_zero, del_tail e6 e4 (by omega)]
    exact h

/-- a schema behind a change, and the error -/
abbrev Res := List Col × Int × Int
def resS (r : Res) : V := .tup [sch r.1 r.2.1, fI r.2.2]

def addS (l : List Col) (keys : Int) (c : Col) : Res :=
  if nameOk c.n && kindOk c.k && c.o then
    if 0 ≤ fnd c.n l 0 then ([], 0, 8) else if l.length = 16 then ([], 0, 10) else (l ++ [c], keys, 0)
  else ([], 0, 1)

def cutS (l : List Col) (keys : Int) (c : Col) : Res :=
  if fnd c.n l 0 < 0 then ([], 0, 7) else if fnd c.n l 0 < keys then ([], 0, 10) else (l.eraseIdx (fnd c.n l 0).toNat, keys, 0)

def setKind (l : List Col) (i : Nat) (k : Int) : List Col := l.modify i fun c => { c with k := k }

def retS (l : List Col) (keys : Int) (c : Col) : Res :=
  if fnd c.n l 0 < 0 then ([], 0, 7)
  else if fnd c.n l 0 < keys then ([], 0, 10)
  else if ((l[(fnd c.n l 0).toNat]?).map Col.o).getD false = false then ([], 0, 10)
  else if kindOk c.k then (setKind l (fnd c.n l 0).toNat c.k, keys, 0) else ([], 0, 1)

def applyS (l : List Col) (keys : Int) (k : Int) (c : Col) : Res :=
  if k = 3 then addS l keys c else if k = 4 then cutS l keys c else if k = 5 then retS l keys c else ([], 0, 5)

theorem err_sub (e : Int) : VSub (.tup [.agg [.nils, fI 0], fI e]) (resS ([], 0, e)) := VSub.tup (.cons (VSub.agg (.cons (VSub.nils 3 false) (VSubs.refl _))) (VSubs.refl _))

theorem add_spec {l : List Col} {keys : Int} {c : Col} (hl : l.length < 1000000) (h : Q (resS (addS l keys c)) []) :
    ACall Try.prog 41 0 [sch l keys, .agg [.str c.n, fI c.k, .bool c.o]] [] Q := by
  have hlk := cols_len l
  refine ACall.ret (by_body Try.func41 0 rfl (Nat.le_of_ble_eq_true rfl) ?_)
  conv => whnf
  refine .call [] 0 ⟨rfl, rfl, rfl⟩ (Name_spec ?_)
  conv => whnf
  unfold addS at h
  cases c1 : nameOk c.n <;> rw [c1] at h
  focus
    conv => whnf
    exact ⟨[], rfl, .sub _ _ (err_sub 1) (HSub.refl _) (.done [] rfl h)⟩
  conv => whnf
  refine .call [] 0 ⟨rfl, rfl, rfl⟩ (kind_spec ?_)
  conv => whnf
  cases c2 : kindOk c.k <;> rw [c2] at h
  focus
    conv => whnf
    exact ⟨[], rfl, .sub _ _ (err_sub 1) (HSub.refl _) (.done [] rfl h)⟩
  conv => whnf
  cases c3 : c.o <;> rw [c3] at h
  focus
    conv => whnf
    exact ⟨[], rfl, .sub _ _ (err_sub 1) (HSub.refl _) (.done [] rfl h)⟩
  conv => whnf
  refine .call [] 0 ⟨rfl, rfl, rfl⟩ (Find_spec hl ?_)
  conv => whnf
  simp only [Bool.and_self, if_true] at h
  refine branch_i (fun c4 => ?_) (fun c4 => ?_) <;> try rw [c4] <;> conv => whnf
  focus
    rw [if_pos (of_decide_eq_true c4)] at h
    exact ⟨[], rfl, .sub _ _ (err_sub 8) (HSub.refl _) (.done [] rfl h)⟩
  rw [if_neg (of_decide_eq_false c4)] at h
  refine branch_i (fun c5 => ?_) (fun c5 => ?_) <;> try rw [c5] <;> conv => whnf
  focus
    have c5' := of_decide_eq_true c5
    rw [if_pos (by omega)] at h
    exact ⟨[], rfl, .sub _ _ (err_sub 10) (HSub.refl _) (.done [] rfl h)⟩
  have c5' := of_decide_eq_false c5
  rw [if_neg (by omega)] at h
  refine .call [] 0 ⟨rfl, rfl, rfl⟩ (Clone_spec hl ?_)
  conv => whnf
  refine ⟨Nat.le_refl _, ?_⟩
  conv => whnf
  refine ⟨(by omega : l.length + 0 = (cols l).length), ?_⟩
  conv => whnf
  refine ⟨Nat.le_trans (Nat.mul_le_mul_right _ (by rw [List.length_append, List.length_take, List.drop_zero, hlk]; exact Nat.add_le_add (Nat.le_refl _) (Nat.min_le_left _ _))) (show (l.length + 1) * 32 ≤ 70368744177664 by omega), ?_⟩
  conv => whnf
  refine ⟨[6], rfl, .frz 0 rfl (by repeat (first | exact trivial | refine And.intro (Nat.le_of_eq (Nat.zero_add _)) ?_)) (.done [] rfl ?_)⟩
  show Q (.tup [.agg [.sl 3 (List.take (cols l ++ [[.str c.n, fI c.k, .bool true]]).length (cols l ++ [[.str c.n, fI c.k, .bool true]])) false, fI keys], fI 0]) []
  rw [List.take_length]
  have e : cols (l ++ [c]) = cols l ++ [[.str c.n, fI c.k, .bool true]] := by rw [cols_app, ← c3]; rfl
  rw [← e]
  exact h

theorem fnd_lt {name : List UInt8} : ∀ {l : List Col} {i : Nat}, fnd name l i < 0 ∨ ((i : Int) ≤ fnd name l i ∧ fnd name l i < i + l.length)
  | [], i => .inl (by unfold fnd; omega)
  | c :: l, i => by
    unfold fnd
    split
    · right; simp only [List.length_cons]; omega
    · rcases fnd_lt (name := name) (l := l) (i := i + 1) with h | h
      · exact .inl h
      · right; simp only [List.length_cons]; omega

theorem cut_S_spec {l : List Col} {keys : Int} {c : Col} (hl : l.length < 1000000) (hk : 1 ≤ keys) (h : Q (resS (cutS l keys c)) []) :
    ACall Try.prog 42 0 [sch l keys, .agg [.str c.n, fI c.k, .bool c.o]] [] Q := by
  have hlk := cols_len l
  refine ACall.ret (by_body Try.func42 0 rfl (Nat.le_of_ble_eq_true rfl) ?_)
  conv => whnf
  refine .call [] 0 ⟨rfl, rfl, rfl⟩ (Find_spec hl ?_)
  conv => whnf
  unfold cutS at h
  have hf := fnd_lt (name := c.n) (l := l) (i := 0)
  refine branch_i (fun c1 => ?_) (fun c1 => ?_) <;> try rw [c1] <;> conv => whnf
  focus
    rw [if_pos (of_decide_eq_true c1)] at h
    exact ⟨[], rfl, .sub _ _ (err_sub 7) (HSub.refl _) (.done [] rfl h)⟩
  have c1' := of_decide_eq_false c1
  rw [if_neg c1'] at h
  refine branch_i (fun c2 => ?_) (fun c2 => ?_) <;> try rw [c2] <;> conv => whnf
  focus
    rw [if_pos (of_decide_eq_true c2)] at h
    exact ⟨[], rfl, .sub _ _ (err_sub 10) (HSub.refl _) (.done [] rfl h)⟩
  have c2' := of_decide_eq_false c2
  rw [if_neg c2'] at h
  obtain ⟨i, hi⟩ : ∃ i : Nat, fnd c.n l 0 = i := ⟨(fnd c.n l 0).toNat, by omega⟩
  rw [hi] at h
  simp only [hi] at *
  rw [Int.toNat_natCast] at h
  refine .call [] 0 ⟨rfl, rfl, rfl⟩ (Clone_spec hl ?_)
  conv => whnf
  rw [show IntKind.i64.wrap ((i : Int) + 1) = ((i + 1 : Nat) : Int) by rw [IntKind.wrap_i64]; omega]
  refine .call [3] 1 ⟨rfl, rfl, rfl⟩ (SDelete_spec hl (by omega) (by omega) ?_)
  conv => whnf
  have e6 : (cols (l.eraseIdx i)).length = l.length - 1 := by rw [cols_len, List.length_eraseIdx, if_pos (by omega)]
  refine ⟨[3], rfl, .frz 0 rfl ⟨(by rw [List.length_append, e6]; simp : 0 + (l.length - 1) ≤ (cols (l.eraseIdx i) ++ [[V.str [], fI 0, V.bool false]]).length), trivial⟩ (.done [] rfl ?_)⟩
  show Q (.tup [.agg [.sl 3 (List.take (l.length - 1) (cols (l.eraseIdx i) ++ [[.str [], fI 0, .bool false]])) false, fI keys], fI 0]) []
  rw [← e6, List.take_left]
  exact h

theorem set_kind {l : List Col} {i : Nat} {c : Col} (h : l[i]? = some c) (k : Int) : (cols l).set i [.str c.n, fI k, .bool c.o] = cols (setKind l i k) := by
  have hlt := (List.getElem?_eq_some_iff.1 h).1
  refine List.ext_getElem? fun j => ?_
  unfold setKind cols
  rw [List.getElem?_set, List.getElem?_map, List.getElem?_map, List.getElem?_modify]
  by_cases e : i = j
  · subst e; rw [h]; simp [hlt, colC]
  · simp [e]

theorem retype_spec {l : List Col} {keys : Int} {c : Col} (hl : l.length < 1000000) (hk : 1 ≤ keys) (h : Q (resS (retS l keys c)) []) :
    ACall Try.prog 43 0 [sch l keys, .agg [.str c.n, fI c.k, .bool c.o]] [] Q := by
  have hlk := cols_len l
  refine ACall.ret (by_body Try.func43 0 rfl (Nat.le_of_ble_eq_true rfl) ?_)
  conv => whnf
  refine .call [] 0 ⟨rfl, rfl, rfl⟩ (Find_spec hl ?_)
  conv => whnf
  unfold retS at h
  have hf := fnd_lt (name := c.n) (l := l) (i := 0)
  refine branch_i (fun c1 => ?_) (fun c1 => ?_) <;> try rw [c1] <;> conv => whnf
  focus
    rw [if_pos (of_decide_eq_true c1)] at h
    exact ⟨[], rfl, .sub _ _ (err_sub 7) (HSub.refl _) (.done [] rfl h)⟩
  have c1' := of_decide_eq_false c1
  rw [if_neg c1'] at h
  obtain ⟨i, hi⟩ : ∃ i : Nat, fnd c.n l 0 = i := ⟨(fnd c.n l 0).toNat, by omega⟩
  rw [hi] at h
  simp only [hi] at *
  rw [Int.toNat_natCast] at h
  have hlt : i < l.length := by omega
  have hget : l[i]? = some l[i] := List.getElem?_eq_getElem hlt
  generalize l[i] = d at *
  rw [hget] at h
  simp only [Option.map_some, Option.getD_some] at h
  by_cases c2 : (i : Int) < keys
  focus
    rw [show decide ((i : Int) < keys) = true by simp [c2]]
    conv => whnf
    rw [if_pos c2] at h
    exact ⟨[], rfl, .sub _ _ (err_sub 10) (HSub.refl _) (.done [] rfl h)⟩
  rw [show decide ((i : Int) < keys) = false by simp [c2]]
  rw [if_neg c2] at h
  conv => whnf
  refine ⟨_, ⟨by omega, cols_get hget⟩, ?_⟩
  conv => whnf
  cases c3 : d.o <;> simp only [c3, Bool.true_eq_false, if_true, if_false] at h
  focus
    conv => whnf
    exact ⟨[], rfl, .sub _ _ (err_sub 10) (HSub.refl _) (.done [] rfl h)⟩
  conv => whnf
  refine .call [] 0 ⟨rfl, rfl, rfl⟩ (kind_spec ?_)
  conv => whnf
  cases c4 : kindOk c.k <;> rw [c4] at h
  focus
    conv => whnf
    exact ⟨[], rfl, .sub _ _ (err_sub 1) (HSub.refl _) (.done [] rfl h)⟩
  conv => whnf
  refine .call [] 0 ⟨rfl, rfl, rfl⟩ (Clone_spec hl ?_)
  conv => whnf
  refine ⟨⟨by omega, by omega⟩, ?_⟩
  conv => whnf
  refine ⟨_, cols_get hget, ?_⟩
  conv => whnf
  refine ⟨[3], rfl, .frz 0 rfl ⟨(by rw [List.length_set]; omega : 0 + l.length ≤ ((cols l).set i [.str d.n, fI c.k, .bool d.o]).length), trivial⟩ (.done [] rfl ?_)⟩
  show Q (.tup [.agg [.sl 3 (List.take l.length ((cols l).set i [.str d.n, fI c.k, .bool d.o])) false, fI keys], fI 0]) []
  rw [List.take_of_length_le (by rw [List.length_set]; omega), set_kind hget]
  exact h

/-- a change -/
def chg (k : Int) (x1 x2 x3 : V) (c : Col) : V := .agg [fI k, x1, x2, x3, .str c.n, fI c.k, .bool c.o]

theorem Apply_spec {l : List Col} {keys k : Int} {c : Col} {x1 x2 x3 : V} (hl : l.length < 1000000) (hk : 1 ≤ keys) (h : Q (resS (applyS l keys k c)) []) :
    ACall Try.prog 9 0 [sch l keys, chg k x1 x2 x3 c] [] Q := by
  refine ACall.ret (by_body Try.func9 0 rfl (Nat.le_of_ble_eq_true rfl) ?_)
  conv => whnf
  refine ⟨[1, 2, 0, 3, 4], by kernel_rfl, by kernel_rfl, ?_⟩
  conv => whnf
  refine .call [] 0 ⟨rfl, rfl, rfl⟩ (changes_spec ?_)
  refine ⟨rfl, ?_⟩
  conv => whnf
  unfold applyS at h
  refine branch_i (fun c1 => ?_) (fun c1 => ?_) <;> try rw [c1] <;> conv => whnf
  focus
    rw [if_pos (of_decide_eq_true c1)] at h
    refine .call [] 0 ⟨rfl, rfl, rfl⟩ (add_spec hl ?_)
    conv => whnf
    exact ⟨[], rfl, .done [] rfl h⟩
  rw [if_neg (of_decide_eq_false c1)] at h
  refine branch_i (fun c2 => ?_) (fun c2 => ?_) <;> try rw [c2] <;> conv => whnf
  focus
    rw [if_pos (of_decide_eq_true c2)] at h
    refine .call [] 0 ⟨rfl, rfl, rfl⟩ (cut_S_spec hl hk ?_)
    conv => whnf
    exact ⟨[], rfl, .done [] rfl h⟩
  rw [if_neg (of_decide_eq_false c2)] at h
  refine branch_i (fun c3 => ?_) (fun c3 => ?_) <;> try rw [c3] <;> conv => whnf
  focus
    rw [if_pos (of_decide_eq_true c3)] at h
    refine .call [] 0 ⟨rfl, rfl, rfl⟩ (retype_spec hl hk ?_)
    conv => whnf
    exact ⟨[], rfl, .done [] rfl h⟩
  rw [if_neg (of_decide_eq_false c3)] at h
  conv => whnf
  refine ⟨.nilf, ⟨_, _, rfl, rfl, rfl⟩, ?_⟩
  conv => whnf
  exact ⟨[], rfl, .sub _ _ (err_sub 5) (HSub.refl _) (.done [] rfl h)⟩

theorem Rapp_spec {l : List Col} {keys k : Int} {c : Col} {x1 x2 x3 : V} (hl : l.length ≤ 16) (hk : 1 ≤ keys) (h : Q (resS (applyS l keys k c)) []) :
    ACall Try.prog 10 0 [sch l keys, chg k x1 x2 x3 c] [] Q := by
  have hlk := cols_len l
  refine ACall.ret (by_body Try.func10 0 rfl (Nat.le_of_ble_eq_true rfl) ?_)
  conv => whnf
  refine .call [] 0 ⟨rfl, rfl, rfl⟩ (RFind_spec (by omega) ?_)
  conv => whnf
  refine ⟨(show (cols l).length * 32 ≤ 70368744177664 by omega), ?_⟩
  conv => whnf
  refine .call [] 0 ⟨rfl, rfl, rfl⟩ (RName_spec ?_)
  conv => whnf
  refine .call [] 0 ⟨rfl, rfl, rfl⟩ (Rkind_spec ?_)
  conv => whnf
  unfold applyS at h
  refine branch_i (fun c1 => ?_) (fun c1 => ?_) <;> try rw [c1] <;> conv => whnf
  focus
    rw [if_pos (of_decide_eq_true c1)] at h
    unfold addS at h
    cases d1 : nameOk c.n <;> rw [d1] at h
    focus
      conv => whnf
      exact ⟨[], rfl, .sub _ _ (err_sub 1) (HSub.refl _) (.done [] rfl h)⟩
    conv => whnf
    cases d2 : kindOk c.k <;> rw [d2] at h
    focus
      conv => whnf
      exact ⟨[], rfl, .sub _ _ (err_sub 1) (HSub.refl _) (.done [] rfl h)⟩
    conv => whnf
    cases d3 : c.o <;> rw [d3] at h
    focus
      conv => whnf
      exact ⟨[], rfl, .sub _ _ (err_sub 1) (HSub.refl _) (.done [] rfl h)⟩
    conv => whnf
    simp only [Bool.and_self, if_true] at h
    refine branch_i (fun c4 => ?_) (fun c4 => ?_) <;> try rw [c4] <;> conv => whnf
    focus
      rw [if_pos (of_decide_eq_true c4)] at h
      exact ⟨[], rfl, .sub _ _ (err_sub 8) (HSub.refl _) (.done [] rfl h)⟩
    rw [if_neg (of_decide_eq_false c4)] at h
    refine branch_i (fun c5 => ?_) (fun c5 => ?_) <;> try rw [c5] <;> conv => whnf
    focus
      have c5' := of_decide_eq_true c5
      rw [if_pos (by omega)] at h
      exact ⟨[], rfl, .sub _ _ (err_sub 10) (HSub.refl _) (.done [] rfl h)⟩
    have c5' := of_decide_eq_false c5
    rw [if_neg (by omega)] at h
    refine ⟨[0, 1, 2, 5, 6, 3, 4, 7, 8, 9], by kernel_rfl, by kernel_rfl, ?_⟩
    conv => whnf
    refine ⟨rfl, ?_⟩
    conv => whnf
    refine ⟨Nat.le_refl _, ?_⟩
    conv => whnf
    refine ⟨rfl, ?_⟩
    conv => whnf
    refine ⟨Nat.le_trans (Nat.mul_le_mul_right _ (by rw [List.length_append, List.length_take, List.drop_zero, hlk]; exact Nat.add_le_add (Nat.le_refl _) (Nat.min_le_left _ _))) (show (l.length + 1) * 32 ≤ 70368744177664 by omega), ?_⟩
    refine ⟨rfl, ?_⟩
    conv => whnf
    refine ⟨[6], rfl, .frz 0 rfl (by repeat (first | exact trivial | refine And.intro (Nat.le_of_eq (Nat.zero_add _)) ?_)) (.done [] rfl ?_)⟩
    show Q (.tup [.agg [.sl 3 (List.take (cols l ++ [[.str c.n, fI c.k, .bool true]]).length (cols l ++ [[.str c.n, fI c.k, .bool true]])) false, fI keys], fI 0]) []
    rw [List.take_length]
    have e : cols (l ++ [c]) = cols l ++ [[.str c.n, fI c.k, .bool true]] := by rw [cols_app, ← d3]; rfl
    rw [← e]
    exact h
  rw [if_neg (of_decide_eq_false c1)] at h
  have hf := fnd_lt (name := c.n) (l := l) (i := 0)
  by_cases c2 : k = 4
  · subst c2
    conv => whnf
    rw [if_pos rfl] at h
    unfold cutS at h
    refine branch_i (fun c4 => ?_) (fun c4 => ?_) <;> try rw [c4] <;> conv => whnf
    focus
      rw [if_pos (of_decide_eq_true c4)] at h
      exact ⟨[], rfl, .sub _ _ (err_sub 7) (HSub.refl _) (.done [] rfl h)⟩
    have c4' := of_decide_eq_false c4
    rw [if_neg c4'] at h
    refine branch_i (fun c5 => ?_) (fun c5 => ?_) <;> try rw [c5] <;> conv => whnf
    focus
      rw [if_pos (of_decide_eq_true c5)] at h
      exact ⟨[], rfl, .sub _ _ (err_sub 10) (HSub.refl _) (.done [] rfl h)⟩
    have c5' := of_decide_eq_false c5
    rw [if_neg c5'] at h
    obtain ⟨i, hi⟩ : ∃ i : Nat, fnd c.n l 0 = i := ⟨(fnd c.n l 0).toNat, by omega⟩
    rw [hi] at h
    simp only [hi] at *
    rw [Int.toNat_natCast] at h
    refine ⟨[0, 1, 2, 3, 4, 5, 6, 8, 9, 7, 10, 11, 12], by kernel_rfl, by kernel_rfl, ?_⟩
    conv => whnf
    refine ⟨⟨by omega, by omega⟩, ?_⟩
    conv => whnf
    rw [show IntKind.i64.wrap ((i : Int) + 1) = ((i + 1 : Nat) : Int) by rw [IntKind.wrap_i64]; omega]
    refine ⟨⟨by omega, by omega⟩, ?_⟩
    conv => whnf
    refine ⟨by rw [hlk]; simp; omega, ?_⟩
    conv => whnf
    rw [show List.take ((cols l).length - ((i + 1 : Nat) : Int).toNat) (List.drop (((i + 1 : Nat) : Int).toNat + 0) (cols l)) = (cols l).drop (i + 1) by
      rw [Int.toNat_natCast, Nat.add_zero, List.take_of_length_le (by simp)]]
    have e3 : ((cols l).drop (i + 1)).length = l.length - (i + 1) := by simp [hlk]
    rw [Int.toNat_natCast, e3, show 0 + i = i by omega]
    refine ⟨⟨by omega, by omega⟩, ?_⟩
    have e5 : (cols l).take i ++ (cols l).drop (i + 1) = cols (l.eraseIdx i) := (cols_erase l i).symm
    rw [e5, show i + (l.length - (i + 1)) = l.length - 1 by omega]
    have e6 : (cols (l.eraseIdx i)).length = l.length - 1 := by rw [cols_len, List.length_eraseIdx, if_pos (by omega)]
    conv => whnf
    refine ⟨rfl, ?_⟩
    conv => whnf
    refine ⟨[4], rfl, .frz 0 rfl ⟨(by rw [List.length_append]; omega : 0 + (l.length - 1) ≤ (cols (l.eraseIdx i) ++ List.drop (l.length - 1) (cols l)).length), trivial⟩ (.done [] rfl ?_)⟩
    show Q (.tup [.agg [.sl 3 (List.take (l.length - 1) (cols (l.eraseIdx i) ++ List.drop (l.length - 1) (cols l))) false, fI keys], fI 0]) []
    rw [show List.take (l.length - 1) (cols (l.eraseIdx i) ++ List.drop (l.length - 1) (cols l)) = cols (l.eraseIdx i) by rw [← e6, List.take_left]]
    exact h
  rw [if_neg c2] at h
  by_cases c3 : k = 5
  · subst c3
    conv => whnf
    rw [if_pos rfl] at h
    unfold retS at h
    refine branch_i (fun c4 => ?_) (fun c4 => ?_) <;> try rw [c4] <;> conv => whnf
    focus
      rw [if_pos (of_decide_eq_true c4)] at h
      exact ⟨[], rfl, .sub _ _ (err_sub 7) (HSub.refl _) (.done [] rfl h)⟩
    have c4' := of_decide_eq_false c4
    rw [if_neg c4'] at h
    refine branch_i (fun c5 => ?_) (fun c5 => ?_) <;> try rw [c5] <;> conv => whnf
    focus
      rw [if_pos (of_decide_eq_true c5)] at h
      exact ⟨[], rfl, .sub _ _ (err_sub 10) (HSub.refl _) (.done [] rfl h)⟩
    have c5' := of_decide_eq_false c5
    rw [if_neg c5'] at h
    obtain ⟨i, hi⟩ : ∃ i : Nat, fnd c.n l 0 = i := ⟨(fnd c.n l 0).toNat, by omega⟩
    rw [hi] at h
    simp only [hi] at *
    rw [Int.toNat_natCast] at h
    have hlt : i < l.length := by omega
    have hget : l[i]? = some l[i] := List.getElem?_eq_getElem hlt
    generalize l[i] = d at *
    rw [hget] at h
    simp only [Option.map_some, Option.getD_some] at h
    refine ⟨⟨by omega, by omega⟩, ?_⟩
    conv => whnf
    refine ⟨_, cols_get hget, ?_⟩
    conv => whnf
    cases d3 : d.o <;> simp only [d3, Bool.true_eq_false, if_true, if_false] at h
    focus
      conv => whnf
      exact ⟨[], rfl, .sub _ _ (err_sub 10) (HSub.refl _) (.done [] rfl h)⟩
    conv => whnf
    cases d4 : kindOk c.k <;> rw [d4] at h
    focus
      conv => whnf
      exact ⟨[], rfl, .sub _ _ (err_sub 1) (HSub.refl _) (.done [] rfl h)⟩
    conv => whnf
    refine ⟨⟨by omega, by omega⟩, ?_⟩
    conv => whnf
    refine ⟨_, cols_get hget, ?_⟩
    conv => whnf
    refine ⟨[4], rfl, .frz 0 rfl ⟨(by rw [List.length_set]; omega : 0 + (cols l).length ≤ ((cols l).set i [.str d.n, fI c.k, .bool d.o]).length), trivial⟩ (.done [] rfl ?_)⟩
    show Q (.tup [.agg [.sl 3 (List.take (cols l).length ((cols l).set i [.str d.n, fI c.k, .bool d.o])) false, fI keys], fI 0]) []
    rw [List.take_of_length_le (by rw [List.length_set]; omega), set_kind hget]
    exact h
  rw [if_neg c3] at h
  rw [show decide (k = 4) = false by simp [c2]]
  conv => whnf
  rw [show decide (k = 5) = false by simp [c3]]
  conv => whnf
  exact ⟨[], rfl, .sub _ _ (err_sub 5) (HSub.refl _) (.done [] rfl h)⟩

end Go.Proofs.YtcgpgpbnpjbhhaaPg
