/- Own texts, laid together: Pg11DTxt, Pg11DKeyP, Pg11DKeyQ, Pg11DCh1, Pg11DCmp, Pg11DCh2, Pg11DCh3, Pg11DCh4, Pg11DCh5, Pg11DCh6, Pg11DCh7, Pg11DCh8, Pg11DCh9, Pg11DCh10, Pg11DCh11, Pg11DCh12, Pg11DCh13, Pg11DLay, Pg11DLayB, Pg11DLayC, Pg11DLayD, Pg11DLayE, Pg11DCh14. -/
import Derived.Test.YtocjhaahifpnbaaDoorPgM21
import Derived.Test.YtocjhaahifpnbaaDoorPgM20
import Derived.Test.YtocjhaahifpnbaaDoorPgM14
import Derived.Deep.RegionWith
import Derived.OwnWalk
import Derived.Test.YtocjhaahifpnbaaDoorPgM18
import Derived.Test.YtocjhaahifpnbaaDoorPgM19
/- value.text: what it returns. -/
namespace Go.Proofs.YtocjhaahifpnbaaDoorPg
open Go Go.RowKit Go.Shelf
set_option linter.unusedSimpArgs false
set_option linter.unusedVariables false

theorem drop_two {l : List UInt8} {i : Nat} (h : i + 1 < l.length) : l.drop i = l[i] :: l[i + 1] :: l.drop (i + 2) := by
  rw [List.drop_eq_getElem_cons (by omega), List.drop_eq_getElem_cons h]

set_option maxHeartbeats 4000000 in
set_option maxRecDepth 1000000 in
theorem text_walk (s : ByteArray) (w : World) (hs : s.size ≤ 1000000000) : Calls Tryd.prog 91 #[.string s] w fun e w' => (∃ a b : ByteArray, e = .returned (.tuple #[.string a, .string b, .bool (tx [] s.data.toList).2.2]) ∧ a.data.toList = (tx [] s.data.toList).1 ∧ b.data.toList = (tx [] s.data.toList).2.1) ∧ Below w.heap.size w w' := by
  obtain ⟨R, hR⟩ : ∃ R, R = tx [] s.data.toList := ⟨_, rfl⟩
  rw [← hR]
  go_enter Tryd.func91, Tryd.ntmps91
  go_wp2
  go_loopw [6] (fun vi wr => ∃ (i : Nat) (acc : List UInt8), vi = .int .i64 i ∧ i ≤ s.size ∧ acc.length ≤ i ∧ Lib.IsBuilder 113 5 w.heap.size w.heap.size (Lib.byteCells acc) wr ∧ Below w.heap.size w wr ∧ tx acc (s.data.toList.drop i) = R) (fun vi _ => s.size - (intOf vi).toNat)
  case atStart =>
    exact ⟨0, [], rfl, by omega, by simp, Lib.fresh_isBuilder _ _ w, (Below.refl _ w).alloc (Nat.le_refl _) _, hR.symm⟩
  case round =>
    obtain ⟨i, acc, rfl, hi, hal, hI, hbw, hacc⟩ := hrel
    have hsz := hbw.size
    by_cases h1 : i + 1 < s.size
    · have h0 : i < s.size := by omega
      have hd : s.data.toList.drop i = s[i] :: s[i + 1] :: s.data.toList.drop (i + 2) := by
        have := drop_two (l := s.data.toList) (i := i) (by simpa using h1)
        simp only [Array.getElem_toList] at this
        exact this
      have hd2 : s.data.toList.drop (i + 1) = s[i + 1] :: s.data.toList.drop (i + 2) := by
        have := List.drop_eq_getElem_cons (l := s.data.toList) (i := i + 1) (by simpa using h1)
        simp only [Array.getElem_toList] at this
        exact this
      have hI' : Lib.IsBuilder 113 5 w.heap.size w.heap.size (Lib.byteCells acc) wr.drew := hI
      rw [hd] at hacc
      unfold tx at hacc
      by_cases hc : s[i] = 0
      · have hci : (s[i].toNat != 0) = false := by rw [hc]; rfl
        rw [if_pos hc] at hacc
        by_cases hd1 : s[i + 1] = 1
        · have hdi : ((s[i + 1].toNat : Int) == 1) = true := by rw [hd1]; rfl
          rw [if_pos hd1] at hacc
          go_wp2
          have j0 : IntKind.i64.wrap ((i : Int) + 2) = (i : Int) + 2 := by rw [IntKind.wrap_i64]; omega
          have j1 : (0 : Int) ≤ (i : Int) + 2 := by omega
          have j2 : (i : Int) + 2 ≤ (s.size : Int) := by omega
          go_region_with (go_at_call 97; refine (String_any w.heap.size w.heap.size acc wr.drew hI' hsz).mono ?_; rintro e W1 ⟨rfl, b1⟩)
          all_goals
            go_wp2
            go_ret3
            rw [← hacc]
            refine ⟨⟨⟨acc.toArray⟩, s.extract (i + 2) s.size, ?_, by simp, ?_⟩, hbw.trans ((Below.drew (Below.refl _ _)).trans b1)⟩
            · rfl
            · simp [ByteArray.data_extract, List.extract]
              exact List.take_of_length_le (by simp)
        · have hdi : ((s[i + 1].toNat : Int) == 1) = false := by
            simp only [beq_eq_false_iff_ne, ne_eq]
            intro e
            exact hd1 (UInt8.toNat_inj.1 (by have : s[i + 1].toNat = 1 := by omega
                                             rw [this]; rfl))
          rw [if_neg hd1] at hacc
          by_cases hd2' : s[i + 1] = 255
          · have hdj : ((s[i + 1].toNat : Int) == 255) = true := by rw [hd2']; rfl
            rw [if_pos hd2'] at hacc
            go_wp2_with (go_at_call 96; refine (WriteByte_any w.heap.size w.heap.size _ _ _ hI (by rw [Lib.byteCells_length]; omega) hsz).mono ?_)
            rintro e W1 ⟨rfl, h2, b1⟩
            go_wp2
            go_roundw
            case rel =>
              refine ⟨i + 2, acc ++ [0], ?_, by omega, by simp; omega, .inr ?_, hbw.trans b1, hacc⟩
              · congr 1
              · rw [Lib.byteCells_append]; exact h2
            case measure => simp [intOf]; omega
          · have hdj : ((s[i + 1].toNat : Int) == 255) = false := by
              simp only [beq_eq_false_iff_ne, ne_eq]
              intro e
              exact hd2' (UInt8.toNat_inj.1 (by have : s[i + 1].toNat = 255 := by omega
                                                rw [this]; rfl))
            rw [if_neg hd2'] at hacc
            go_wp2
            go_ret3
            rw [← hacc]
            exact ⟨⟨⟨#[]⟩, ⟨#[]⟩, rfl, rfl, rfl⟩, hbw⟩
      · have hci : (s[i].toNat != 0) = true := by
          simp only [bne_iff_ne, ne_eq]
          intro e
          exact hc (UInt8.toNat_inj.1 e)
        rw [if_neg hc] at hacc
        go_wp2_with (go_at_call 96; refine (WriteByte_any w.heap.size w.heap.size _ _ _ hI (by rw [Lib.byteCells_length]; omega) hsz).mono ?_)
        rintro e W1 ⟨rfl, h2, b1⟩
        go_wp2
        go_roundw
        case rel =>
          refine ⟨i + 1, acc ++ [s[i]], rfl, by omega, by simp; omega, .inr ?_, hbw.trans b1, ?_⟩
          · rw [Lib.byteCells_append]; exact h2
          · rw [hd2]; exact hacc
        case measure => simp [intOf]; omega
    · go_wp2
      go_ret3
      rw [tx_short (by simp; omega)] at hacc
      rw [← hacc]
      exact ⟨⟨⟨#[]⟩, ⟨#[]⟩, rfl, rfl, rfl⟩, hbw⟩

theorem text_spec {Q : V → List O → Prop} {s : List UInt8} (hs : s.length ≤ 1000000000) (h : Q (.tup [.str (tx [] s).1, .str (tx [] s).2.1, .bool (tx [] s).2.2]) []) : ACall Tryd.prog 91 0 [.str s] [] Q := by
  refine acall_below (r := .tup [.str (tx [] s).1, .str (tx [] s).2.1, .bool (tx [] s).2.2]) (fun I ρ w us hst ha => ?_) h
  obtain ⟨u, us', e1, hu, ht⟩ := ha.cons_inv
  have e2 : us' = [] := List.eq_nil_of_length_eq_zero ht.1.symm
  obtain ⟨b, hb, rfl⟩ := vr_str hu
  subst e2
  have eu : us = #[.string b] := by
    apply Array.ext'
    simpa using e1
  subst eu
  refine ⟨.tuple #[.string ⟨(tx [] s).1.toArray⟩, .string ⟨(tx [] s).2.1.toArray⟩, .bool (tx [] s).2.2], fun I ρ => .tup _ _ _ rfl ?_, ?_⟩
  · intro i x y hx hy
    exact (VRels.cons (vr_str' ⟨(tx [] s).1.toArray⟩ (l := (tx [] s).1) (by simp)) (VRels.cons (vr_str' ⟨(tx [] s).2.1.toArray⟩ (l := (tx [] s).2.1) (by simp)) (VRels.cons (.bool _ (tx [] s).2.2) (VRels.nil I ρ)))).2 i x y hx (by rw [← hy]; simp)
  · have := text_walk b w (by have : b.size = s.length := by rw [← hb]; rfl
                              omega)
    rw [hb] at this
    refine this.mono ?_
    rintro e w' ⟨⟨x, y, rfl, hx, hy⟩, hbw⟩
    refine ⟨?_, hbw⟩
    rw [← hx, ← hy]

end Go.Proofs.YtocjhaahifpnbaaDoorPg

/- Keys of values: the program's functions. -/
namespace Go.Proofs.YtocjhaahifpnbaaDoorPg
open Go Go.RowKit
set_option linter.unusedSimpArgs false
set_option linter.unusedVariables false

variable {Q : V → List O → Prop}

theorem keyOk_may {l : List Col} {keys : Nat} {vs : List Val} (hk : keys ≤ l.length) (h : keyOkL l keys vs = true) : keys ≤ vs.length ∧ (vs.take keys).all mayV = true := by
  unfold keyOkL at h
  rw [Bool.and_eq_true, decide_eq_true_eq, List.all_eq_true] at h
  refine ⟨h.1, List.all_eq_true.2 fun v hv => ?_⟩
  obtain ⟨i, hi⟩ := List.mem_iff_getElem?.1 hv
  have hlt := (List.getElem?_eq_some_iff.1 hi).1
  rw [List.length_take] at hlt
  rw [List.getElem?_take_of_lt (by omega)] at hi
  have := h.2 i (List.mem_range.2 (by omega))
  rw [stAt_some (List.getElem?_eq_getElem (show i < l.length by omega)) hi] at this
  unfold standsV at this
  rw [Bool.and_eq_true] at this
  exact this.1

end Go.Proofs.YtocjhaahifpnbaaDoorPg

/- Keys of values, read: the program's functions. -/
namespace Go.Proofs.YtocjhaahifpnbaaDoorPg
open Go Go.RowKit
set_option linter.unusedSimpArgs false
set_option linter.unusedVariables false

variable {Q : V → List O → Prop}

set_option maxHeartbeats 8000000 in
set_option maxRecDepth 10000 in
theorem one_spec {c : UInt8} {r : List UInt8} (hs : r.length ≤ 100000000) (h : Q (.tup [valA (oneT (c :: r)).1, .str (oneT (c :: r)).2.1, .bool (oneT (c :: r)).2.2]) []) : ACall Tryd.prog 83 0 [.str (c :: r)] [] Q := by
  refine by_body Tryd.func83 0 rfl (Nat.le_of_ble_eq_true rfl) ?_
  conv => whnf
  refine ⟨List.range 9, by kernel_rfl, by kernel_rfl, ?_⟩
  conv => whnf
  refine ⟨c, ⟨by omega, rfl⟩, ?_⟩
  conv => whnf
  refine ⟨⟨by decide, by rw [List.length_cons]; omega⟩, ?_⟩
  conv => whnf
  repeat (refine ⟨rfl, ?_⟩)
  conv => whnf
  have hc := c.toNat_lt
  have hw : IntKind.i64.wrap (c.toNat : Int) = c.toNat := wrapI (by omega)
  rw [hw]
  simp only [oneT] at h
  unfold oneP at h
  by_cases k1 : (c.toNat : Int) = 1
  focus
    rw [if_pos k1] at h
    rw [show decide ((c.toNat : Int) = 1) = true by simp [k1]]
    conv => whnf
    cases r with
    | nil =>
      conv => whnf
      refine ⟨List.range 10, by kernel_rfl, by kernel_rfl, ?_⟩
      conv => whnf
      refine ⟨[], rfl, ?_⟩
      show Q (.tup [.agg [.int .i64 c.toNat, .int .i64 0, .str []], .str [], .bool false]) []
      rw [k1]
      exact h
    | cons d r =>
      conv => whnf
      refine ⟨List.range 8, by kernel_rfl, by kernel_rfl, ?_⟩
      conv => whnf
      refine ⟨d, ⟨by omega, rfl⟩, ?_⟩
      conv => whnf
      refine ⟨⟨by decide, by show (1 : Int) ≤ ((d :: r).length : Int); rw [List.length_cons]; omega⟩, ?_⟩
      conv => whnf
      repeat (refine ⟨rfl, ?_⟩)
      conv => whnf
      have hd := d.toNat_lt
      have hwd : IntKind.i64.wrap (d.toNat : Int) = d.toNat := wrapI (by omega)
      rw [hwd]
      refine ⟨List.range 10, by kernel_rfl, by kernel_rfl, ?_⟩
      conv => whnf
      refine .pure (VMay_spec (v := ⟨c.toNat, d.toNat, []⟩) (by simp) ⟨rfl, ?_⟩)
      conv => whnf
      repeat (refine ⟨rfl, ?_⟩)
      conv => whnf
      refine ⟨[], rfl, ?_⟩
      show Q (.tup [.agg [.int .i64 c.toNat, .int .i64 d.toNat, .str []], .str r, .bool (mayV ⟨c.toNat, d.toNat, []⟩)]) []
      rw [k1]
      exact h
  rw [if_neg k1] at h
  rw [show decide ((c.toNat : Int) = 1) = false by simp [k1]]
  conv => whnf
  by_cases k2 : (c.toNat : Int) = 2
  focus
    rw [if_pos k2] at h
    rw [show decide ((c.toNat : Int) = 2) = true by simp [k2]]
    conv => whnf
    refine branch_i (fun c1 => ?_) (fun c1 => ?_) <;> try rw [c1] <;> conv => whnf
    rotate_left
    focus
      have c1' := of_decide_eq_false c1
      have c8 : ¬ 8 ≤ r.length := fun e => c1' (by show (8 : Int) ≤ (r.length : Int); omega)
      rw [if_neg c8] at h
      refine ⟨List.range 10, by kernel_rfl, by kernel_rfl, ?_⟩
      conv => whnf
      refine ⟨[], rfl, ?_⟩
      show Q (.tup [.agg [.int .i64 c.toNat, .int .i64 0, .str []], .str r, .bool false]) []
      rw [k2]
      exact h
    have c8 : 8 ≤ r.length := by have : (8 : Int) ≤ (r.length : Int) := of_decide_eq_true c1
                                 omega
    rw [if_pos c8] at h
    refine ⟨⟨[0, 2, 5, 6, 7, 34], fun m ws H => ∃ (j : Nat), ws = [.str r, .ptr 0 0, .ptr 1 0, .bool true, .int .u64 (deB (r.take j)), fI j] ∧
      H = [.cells [fI 0, fI 0, .str []], .cells [.int .i64 c.toNat, fI 0, .str []]] ∧ j ≤ 8 ∧ m = 8 - j, .frz 9 (.go [0, 1] rfl 8 (by omega) ⟨0, rfl, rfl, by omega, rfl⟩), ?_⟩⟩
    rintro m ws H ⟨j, rfl, rfl, hj, rfl⟩
    conv => whnf
    refine branch_i (fun d1 => ?_) (fun d1 => ?_) <;> try rw [d1] <;> conv => whnf
    rotate_left
    focus
      have d1' := of_decide_eq_false d1
      have hj8 : j = 8 := by omega
      subst hj8
      refine ⟨List.range 8, by kernel_rfl, by kernel_rfl, ?_⟩
      conv => whnf
      refine ⟨⟨by omega, by omega⟩, ?_⟩
      conv => whnf
      repeat (refine ⟨rfl, ?_⟩)
      conv => whnf
      obtain ⟨hb0, hb1⟩ := deB_bd r 8 c8
      have e256 : (256 : Int) ^ 8 = 18446744073709551616 := by decide
      rw [xor_back hb0 (by omega)]
      refine ⟨List.range 10, by kernel_rfl, by kernel_rfl, ?_⟩
      conv => whnf
      refine .pure (VMay_spec (v := ⟨c.toNat, deB (r.take 8) - 9223372036854775808, []⟩) (by simp) ⟨rfl, ?_⟩)
      conv => whnf
      repeat (refine ⟨rfl, ?_⟩)
      conv => whnf
      refine ⟨[], rfl, ?_⟩
      show Q (.tup [.agg [.int .i64 c.toNat, .int .i64 (deB (r.take 8) - 9223372036854775808), .str []], .str (r.drop 8), .bool (mayV ⟨c.toNat, deB (r.take 8) - 9223372036854775808, []⟩)]) []
      rw [k2]
      exact h
    have d1' := of_decide_eq_true d1
    have hlt : j < r.length := by omega
    have hg : r[j]? = some r[j] := List.getElem?_eq_getElem hlt
    generalize r[j] = b at *
    refine ⟨by decide, ?_⟩
    conv => whnf
    refine ⟨b, ⟨by omega, hg⟩, ?_⟩
    conv => whnf
    obtain ⟨hb0, hb1⟩ := deB_bd r j (by omega)
    have hp := pow_le8 (j := j) (by omega)
    refine .go [0, 1] rfl (8 - (j + 1)) (by omega) ⟨j + 1, ?_, rfl, by omega, rfl⟩
    show [V.str r, V.ptr 0 0, V.ptr 1 0, V.bool true, V.int .u64 _, V.int .i64 (IntKind.i64.wrap ((j : Int) + 1))] = _
    rw [or_step hb0 (by omega), wrapI (n := (j : Int) + 1) (by omega), deB_take hg]; rfl
  rw [if_neg k2] at h
  rw [show decide ((c.toNat : Int) = 2) = false by simp [k2]]
  conv => whnf
  by_cases k34 : (c.toNat : Int) = 3 ∨ (c.toNat : Int) = 4
  rotate_left
  focus
    rw [if_neg k34] at h
    rw [show decide ((c.toNat : Int) = 3) = false by simp; omega]
    conv => whnf
    rw [show decide ((c.toNat : Int) = 4) = false by simp; omega]
    conv => whnf
    refine ⟨List.range 10, by kernel_rfl, by kernel_rfl, ?_⟩
    conv => whnf
    refine .pure (VMay_spec (v := ⟨c.toNat, 0, []⟩) (by simp) ⟨rfl, ?_⟩)
    conv => whnf
    repeat (refine ⟨rfl, ?_⟩)
    conv => whnf
    exact ⟨[], rfl, h⟩
  rw [if_pos k34] at h
  by_cases k3 : (c.toNat : Int) = 3
  focus
    rw [show decide ((c.toNat : Int) = 3) = true by simp [k3]]
    conv => whnf
  rotate_left
  focus
    rw [show decide ((c.toNat : Int) = 3) = false by simp [k3]]
    conv => whnf
    rw [show decide ((c.toNat : Int) = 4) = true by simp; omega]
    conv => whnf
  all_goals
    refine .pure (text_spec (by show r.length ≤ _; omega) ⟨rfl, ?_⟩)
    conv => whnf
    have hl := (tx_len r.length [] r (Nat.le_refl _)).1
    simp only [List.length_nil] at hl
    refine ⟨List.range 10, by kernel_rfl, by kernel_rfl, ?_⟩
    conv => whnf
    cases e : (tx [] r).2.2
    · rw [show (tx [] (List.drop (Int.toNat 1) (c :: r))).2.2 = false from e]
      rw [e] at h
      conv => whnf
      exact ⟨[], rfl, h⟩
    rw [show (tx [] (List.drop (Int.toNat 1) (c :: r))).2.2 = true from e]
    rw [e] at h
    conv => whnf
    refine .pure (VMay_spec (v := ⟨c.toNat, 0, (tx [] r).1⟩) (by show (tx [] r).1.length < _; omega) ⟨rfl, ?_⟩)
    conv => whnf
    repeat (refine ⟨rfl, ?_⟩)
    conv => whnf
    exact ⟨[], rfl, h⟩

theorem oneT_eta (s : List UInt8) : oneT s = ((oneT s).1, (oneT s).2.1, (oneT s).2.2) := rfl

def valsR : Option (List Val) → V
  | some l => .tup [.sl 3 (vals l) false, fI 0]
  | none => .tup [.nils, fI 2]

set_option maxHeartbeats 8000000 in
set_option maxRecDepth 10000 in
theorem Values_spec {s : List UInt8} (hs : s.length ≤ 10000000) (h : Q (valsR (valuesL s)) []) : ACall Tryd.prog 68 0 [.str s] [] Q := by
  refine ACall.ret (by_body Tryd.func68 0 rfl (Nat.le_of_ble_eq_true rfl) ?_)
  conv => whnf
  unfold valuesL at h
  generalize hR : valuesF (s.length + 1) [] s = R at h
  refine ⟨⟨[0, 4], fun m ws H => ∃ (out : List Val) (q : List UInt8) (f : Nat), ws = [.str q, .ms 3 0 0 (vals out).length false] ∧ H = [.buf (vals out)] ∧ q.length < f ∧ q.length + out.length ≤ s.length ∧ valuesF f out q = R ∧ m = f,
    .frz (s.length + 2) (.adopt (.sub _ _ (.cons (VSub.refl _) (.cons (ms0_row 3 0) (VSubs.refl _))) (HSub.refl _) (.go [0] rfl (s.length + 1) (by omega) ⟨[], s, s.length + 1, rfl, rfl, by omega, by simp, hR, rfl⟩))), ?_⟩⟩
  rintro m ws H ⟨out, q, f, rfl, rfl, hf, hl, hq, rfl⟩
  conv => whnf
  obtain ⟨g, rfl⟩ : ∃ g, m = g + 1 := ⟨m - 1, by omega⟩
  unfold valuesF at hq
  have hlo := vals_len out
  cases q with
  | nil =>
    rw [if_pos rfl] at hq
    conv => whnf
    subst hq
    refine ⟨[0], rfl, .frz 0 rfl (by repeat (first | exact trivial | refine And.intro (Nat.le_of_eq (Nat.zero_add _)) ?_)) (.done [] rfl ?_)⟩
    show Q (.tup [.sl 3 (List.take (vals out).length (vals out)) false, fI 0]) []
    rw [List.take_length]; exact h
  | cons c r =>
    rw [if_neg (List.cons_ne_nil c r)] at hq
    simp only [List.length_cons] at hl hf
    have hol := oneT_len (List.cons_ne_nil c r)
    simp only [List.length_cons] at hol
    conv => whnf
    refine .pure (one_spec (by omega) ⟨rfl, ?_⟩)
    rw [oneT_eta (c :: r)] at hq ⊢
    generalize (oneT (c :: r)).1 = v at *
    generalize (oneT (c :: r)).2.1 = q at *
    generalize (oneT (c :: r)).2.2 = ok at *
    conv => whnf
    cases ok
    · rw [if_neg (by simp)] at hq
      subst hq
      conv => whnf
      exact ⟨[], rfl, .done [] rfl h⟩
    rw [if_pos rfl] at hq
    conv => whnf
    refine ⟨Nat.le_refl _, ?_⟩
    conv => whnf
    refine ⟨rfl, ?_⟩
    conv => whnf
    refine ⟨Nat.le_trans (Nat.mul_le_mul_right _ (by rw [List.length_append, List.length_take, List.drop_zero, hlo]; exact Nat.add_le_add (Nat.le_refl out.length) (Nat.min_le_left _ _))) (show (out.length + 1) * 32 ≤ 70368744177664 by omega), ?_⟩
    conv => whnf
    have hsn : vals (out ++ [v]) = vals out ++ [valC v] := by simp [vals]
    refine .go [3] rfl g (by omega) ⟨out ++ [v], q, g, ?_, ?_, by omega, by rw [List.length_append, List.length_singleton]; omega, hq, rfl⟩
    · show [V.str q, V.ms 3 0 0 (vals out ++ [valC v]).length false] = _
      rw [hsn]
    · show [O.buf (vals out ++ [valC v])] = _
      rw [hsn]

def partR (l : List Col) (keys : Nat) (s : List UInt8) : V := match valuesL s with
  | some vs => if vs.length = keys ∧ keyOkL l keys vs = true then .tup [.sl 3 (vals vs) false, fI 0] else .tup [.nils, fI 2]
  | none => .tup [.nils, fI 2]

theorem valuesF_txt : ∀ (f : Nat) (acc : List Val) (s : List UInt8) (l : List Val) (n : Nat), valuesF f acc s = some l → s.length ≤ n → (∀ v ∈ acc, v.t.length ≤ n) → ∀ v ∈ l, v.t.length ≤ n
  | 0, _, _, _, _, h, _, _ => by simp [valuesF] at h
  | f + 1, acc, s, l, n, h, hs, ha => by
    unfold valuesF at h
    split at h
    · cases h; exact ha
    · rename_i hne
      split at h
      · have ho := oneT_len hne
        refine valuesF_txt f _ _ l n h (by omega) fun v hv => ?_
        rcases List.mem_append.1 hv with h1 | h1
        · exact ha v h1
        · simp at h1; subst h1; omega
      · cases h

end Go.Proofs.YtocjhaahifpnbaaDoorPg

/- Works of copying: short works, a table's place, the next work. -/
namespace Go.Proofs.YtocjhaahifpnbaaDoorPg
open Go Go.RowKit
set_option linter.unusedSimpArgs false
set_option linter.unusedVariables false

variable {Q : V → List O → Prop}

theorem name40_spec {s : List UInt8} (h : Q (.str (s.take 40)) []) : ACall Tryd.prog 12 0 [.str s] [] Q := by
  refine by_body Tryd.func12 0 rfl (Nat.le_of_ble_eq_true rfl) ?_
  conv => whnf
  refine branch_i (fun c1 => ?_) (fun c1 => ?_) <;> try rw [c1] <;> conv => whnf
  · have c1' := of_decide_eq_true c1
    refine ⟨⟨by decide, by omega⟩, ?_⟩
    conv => whnf
    exact ⟨[], rfl, h⟩
  · have c1' := of_decide_eq_false c1
    rw [List.take_of_length_le (by omega)] at h
    exact ⟨[], rfl, h⟩

theorem ikey_spec {n : Int} (h : Q (.str (keyS [⟨2, n, []⟩])) []) : ACall Tryd.prog 13 0 [.int .i64 n] [] Q := by
  refine by_body Tryd.func13 0 rfl (Nat.le_of_ble_eq_true rfl) ?_
  conv => whnf
  refine .frz 0 rfl rfl (by repeat (first | exact trivial | refine And.intro (Nat.le_refl _) ?_)) (.pure (VKey_spec (l := [⟨2, n, []⟩]) (f := true) (by simp) (by simp) ⟨rfl, ?_⟩))
  conv => whnf
  exact ⟨[], rfl, h⟩

theorem RAt_spec {l : List Wk} {t : List UInt8} {f : Bool} (hl : l.length < 4611686018427387904) (h : Q (.int .i64 (atI l t)) []) : ACall Tryd.prog 38 0 [.sl 3 (wks l) f, .str t] [] Q := by
  refine by_body Tryd.func38 0 rfl (Nat.le_of_ble_eq_true rfl) ?_
  conv => whnf
  have hlv := wks_len l
  refine ⟨⟨[0, 1, 5], fun m ws H => ∃ i : Nat, ws = [.sl 3 (wks l) f, .str t, fI i] ∧ H = [] ∧ NoneBefore l t i ∧ i ≤ l.length ∧ m = l.length - i,
    .at l.length ⟨0, rfl, rfl, fun j w hj => by omega, Nat.zero_le _, rfl⟩, ?_⟩⟩
  rintro m ws H ⟨i, rfl, rfl, hn, hi, rfl⟩
  conv => whnf
  refine branch_i (fun c1 => ?_) (fun c1 => ?_) <;> try rw [c1] <;> conv => whnf
  rotate_left
  focus
    have c1' := of_decide_eq_false c1
    have : i = l.length := by omega
    subst this
    unfold atI at h
    rw [at_none hn] at h
    exact ⟨[], rfl, h⟩
  have c1' := of_decide_eq_true c1
  have hlt : i < l.length := by omega
  have hg : l[i]? = some l[i] := List.getElem?_eq_getElem hlt
  generalize l[i] = w at *
  refine ⟨_, ⟨by omega, wks_get hg⟩, ?_⟩
  conv => whnf
  refine branch_i (fun c2 => ?_) (fun c2 => ?_) <;> try rw [c2] <;> conv => whnf
  · unfold atI at h
    rw [at_some hn hg (of_decide_eq_true c2)] at h
    exact ⟨[], rfl, h⟩
  · refine .go [] rfl (l.length - (i + 1)) (by omega) ⟨i + 1, ?_, rfl, fun j x hj hx => ?_, by omega, rfl⟩
    · show [V.sl 3 (wks l) f, V.str t, V.int .i64 (IntKind.i64.wrap ((i : Int) + 1))] = _
      rw [wrapI (by omega)]; rfl
    · rcases Nat.lt_or_ge j i with h1 | h1
      · exact hn j x h1 hx
      · have : j = i := by omega
        subst this
        rw [hg] at hx; cases hx
        exact of_decide_eq_false c2

set_option maxHeartbeats 4000000 in
theorem few_spec {l : List Wk} {f : Bool} (h : Q (.sl 3 (wks (fewL l)) false) []) : ACall Tryd.prog 11 0 [.sl 3 (wks l) f] [] Q := by
  refine ACall.ret (by_body Tryd.func11 0 rfl (Nat.le_of_ble_eq_true rfl) ?_)
  conv => whnf
  have hlv := wks_len l
  refine ⟨⟨[0, 3, 4], fun m ws H => ∃ i : Nat, ws = [.sl 3 (wks l) f, .ms 3 0 0 (wks (fewN l i)).length false, fI i] ∧ H = [.buf (wks (fewN l i))] ∧ i ≤ 6 ∧ i ≤ l.length ∧ m = 6 - i,
    .frz 7 (.adopt (.sub _ _ (.cons (VSub.refl _) (.cons (ms0_row 3 0) (VSubs.refl _))) (HSub.refl _) (.go [0] rfl 6 (by omega) ⟨0, rfl, rfl, by omega, by omega, rfl⟩))), ?_⟩⟩
  rintro m ws H ⟨i, rfl, rfl, hi, hi2, rfl⟩
  conv => whnf
  have fin : ∀ e : fewN l i = fewL l, Q (.sl 3 (List.take (wks (fewN l i)).length (wks (fewN l i))) false) [] := fun e => by
    rw [List.take_length, e]; exact h
  refine branch_i (fun c1 => ?_) (fun c1 => ?_) <;> try rw [c1] <;> conv => whnf
  rotate_left
  focus
    have c1' := of_decide_eq_false c1
    refine ⟨[0], rfl, .frz 0 rfl (by repeat (first | exact trivial | refine And.intro (Nat.le_of_eq (Nat.zero_add _)) ?_)) (.done [] rfl ?_)⟩
    exact fin (by unfold fewL fewN; rw [List.take_of_length_le (by omega), List.take_of_length_le (by omega)])
  have c1' := of_decide_eq_true c1
  refine branch_i (fun c2 => ?_) (fun c2 => ?_) <;> try rw [c2] <;> conv => whnf
  rotate_left
  focus
    have c2' := of_decide_eq_false c2
    have : i = 6 := by omega
    subst this
    refine ⟨[0], rfl, .frz 0 rfl (by repeat (first | exact trivial | refine And.intro (Nat.le_of_eq (Nat.zero_add _)) ?_)) (.done [] rfl ?_)⟩
    exact fin rfl
  have c2' := of_decide_eq_true c2
  have hlt : i < l.length := by omega
  have hg : l[i]? = some l[i] := List.getElem?_eq_getElem hlt
  generalize l[i] = w at *
  have hsn := fewN_snoc hg
  have hvs : wks (fewN l (i + 1)) = wks (fewN l i) ++ [wkC (fewC w)] := by rw [hsn]; simp [wks]
  have hgl : (wks (fewN l i)).length ≤ i := by rw [wks_len]; exact fewN_len l i
  refine ⟨[0, 1, 2, 3, 4, 5, 7, 8, 9, 10, 11, 12, 13, 14, 15, 16, 6, 17, 18, 19, 20, 21], by kernel_rfl, by kernel_rfl, ?_⟩
  conv => whnf
  refine ⟨_, ⟨by omega, wks_get hg⟩, ?_⟩
  conv => whnf
  refine ⟨_, ⟨by omega, wks_get hg⟩, ?_⟩
  conv => whnf
  refine ⟨_, ⟨by omega, wks_get hg⟩, ?_⟩
  conv => whnf
  refine .pure (name40_spec ⟨rfl, ?_⟩)
  conv => whnf
  repeat (first | (refine ⟨rfl, ?_⟩) | (refine ⟨⟨_, ⟨by omega, wks_get hg⟩, rfl⟩, ?_⟩))
  conv => whnf
  refine .pure (name40_spec ⟨rfl, ?_⟩)
  repeat (conv => whnf
          first | (refine ⟨rfl, ?_⟩) | (refine ⟨⟨_, ⟨by omega, wks_get hg⟩, rfl⟩, ?_⟩))
  conv => whnf
  refine ⟨Nat.le_refl _, ?_⟩
  conv => whnf
  refine ⟨rfl, ?_⟩
  conv => whnf
  refine ⟨Nat.le_trans (Nat.mul_le_mul_right _ (by rw [List.length_append, List.length_take, List.drop_zero]; exact Nat.add_le_add (show _ ≤ 1000 by omega) (Nat.le_trans (Nat.min_le_left _ _) (by decide)))) (show (1000 + 2) * 40 ≤ 70368744177664 by omega), ?_⟩
  conv => whnf
  refine .go [2] rfl (6 - (i + 1)) (by omega) ⟨i + 1, ?_, ?_, by omega, by omega, rfl⟩
  · show [V.sl 3 (wks l) f, V.ms 3 0 0 (wks (fewN l i) ++ [wkC (fewC w)]).length false, V.int .i64 (IntKind.i64.wrap ((i : Int) + 1))] = _
    rw [hvs, wrapI (by omega)]; rfl
  · show [O.buf (wks (fewN l i) ++ [wkC (fewC w)])] = _
    rw [hvs]

def DoneBefore (l : List Wk) (i : Nat) : Prop := ∀ (j : Nat) (x : Wk), j < i → l[j]? = some x → x.d = true

theorem done_step {l : List Wk} {i : Nat} {w : Wk} (h : DoneBefore l i) (hg : l[i]? = some w) (hd : w.d = true) : DoneBefore l (i + 1) := fun j x hj hx => by
  rcases Nat.lt_or_ge j i with h1 | h1
  · exact h j x h1 hx
  · have : j = i := by omega
    subst this
    rw [hg] at hx; cases hx; exact hd

theorem RNext_spec {l : List Wk} {f : Bool} (hl : l.length < 4611686018427387904) (h : Q (nextR l) []) : ACall Tryd.prog 21 0 [.sl 3 (wks l) f] [] Q := by
  refine by_body Tryd.func21 0 rfl (Nat.le_of_ble_eq_true rfl) ?_
  conv => whnf
  have hlv := wks_len l
  unfold nextR at h
  refine ⟨⟨[0, 2, 4], fun m ws H => ∃ i : Nat, ws = [.sl 3 (wks l) f, .ptr 0 0, fI i] ∧ H = [.cells (wkC wk0)] ∧ DoneBefore l i ∧ i ≤ l.length ∧ m = l.length - i,
    .at l.length ⟨0, rfl, rfl, fun j w hj => by omega, Nat.zero_le _, rfl⟩, ?_⟩⟩
  rintro m ws H ⟨i, rfl, rfl, hn, hi, rfl⟩
  conv => whnf
  refine branch_i (fun c1 => ?_) (fun c1 => ?_) <;> try rw [c1] <;> conv => whnf
  rotate_left
  focus
    have c1' := of_decide_eq_false c1
    have : i = l.length := by omega
    subst this
    rw [next_none hn] at h
    exact ⟨[], rfl, h⟩
  have c1' := of_decide_eq_true c1
  have hlt : i < l.length := by omega
  have hg : l[i]? = some l[i] := List.getElem?_eq_getElem hlt
  generalize l[i] = w at *
  refine ⟨_, ⟨by omega, wks_get hg⟩, ?_⟩
  conv => whnf
  cases hd : w.d
  · conv => whnf
    refine ⟨_, ⟨by omega, wks_get hg⟩, ?_⟩
    conv => whnf
    rw [next_at hn hg hd] at h
    exact ⟨[], rfl, h⟩
  · conv => whnf
    refine .go [0] rfl (l.length - (i + 1)) (by omega) ⟨i + 1, ?_, rfl, done_step hn hg hd, by omega, rfl⟩
    show [V.sl 3 (wks l) f, V.ptr 0 0, V.int .i64 (IntKind.i64.wrap ((i : Int) + 1))] = _
    rw [wrapI (by omega)]; rfl

theorem Next_spec {l : List Wk} {f : Bool} (hl : l.length < 4611686018427387904) (h : Q (nextR l) []) : ACall Tryd.prog 20 0 [.sl 3 (wks l) f] [] Q := by
  refine by_body Tryd.func20 0 rfl (Nat.le_of_ble_eq_true rfl) ?_
  conv => whnf
  have hlv := wks_len l
  unfold nextR at h
  refine ⟨⟨[2, 6, 7, 8], fun m ws H => ∃ i : Nat, ws = [.ptr 0 0, .sl 3 (wks l) f, fI l.length, fI i] ∧ H = [.cells (wkC wk0)] ∧ DoneBefore l i ∧ i ≤ l.length ∧ m = l.length - i,
    .at l.length ⟨0, ?_, rfl, fun j w hj => by omega, Nat.zero_le _, rfl⟩, ?_⟩⟩
  · show [V.ptr 0 0, V.sl 3 (wks l) f, fI (wks l).length, fI 0] = _
    rw [hlv]; rfl
  rintro m ws H ⟨i, rfl, rfl, hn, hi, rfl⟩
  conv => whnf
  refine branch_i (fun c1 => ?_) (fun c1 => ?_) <;> try rw [c1] <;> conv => whnf
  rotate_left
  focus
    have c1' := of_decide_eq_false c1
    have : i = l.length := by omega
    subst this
    rw [next_none hn] at h
    exact ⟨[], rfl, h⟩
  have c1' := of_decide_eq_true c1
  have hlt : i < l.length := by omega
  have hg : l[i]? = some l[i] := List.getElem?_eq_getElem hlt
  generalize l[i] = w at *
  refine ⟨_, ⟨by omega, wks_get hg⟩, ?_⟩
  conv => whnf
  cases hd : w.d
  · conv => whnf
    rw [next_at hn hg hd] at h
    refine ⟨[], rfl, ?_⟩
    show Q (.tup [.agg [.str w.t, .bool false, .str w.k], .bool true]) []
    rw [← hd]
    exact h
  · conv => whnf
    refine .go [0] rfl (l.length - (i + 1)) (by omega) ⟨i + 1, ?_, rfl, done_step hn hg hd, by omega, rfl⟩
    show [V.ptr 0 0, V.sl 3 (wks l) f, fI l.length, V.int .i64 (IntKind.i64.wrap ((i : Int) + 1))] = _
    rw [wrapI (by omega)]; rfl

end Go.Proofs.YtocjhaahifpnbaaDoorPg

/- Texts compared; places in a sorted row. -/
namespace Go.Proofs.YtocjhaahifpnbaaDoorPg
open Go Go.RowKit
set_option linter.unusedSimpArgs false
set_option linter.unusedVariables false

variable {Q : V → List O → Prop}

theorem isNaN_spec {a : List UInt8} (h : Q (.bool false) []) : ACall Tryd.prog 80 0 [.str a] [] Q := by
  refine by_body Tryd.func80 0 rfl (Nat.le_of_ble_eq_true rfl) ?_
  conv => whnf
  refine ⟨[], rfl, ?_⟩
  show Q (.bool (!decide (a = a))) []
  rw [decide_eq_true rfl]; exact h

def cmpS (a b : List UInt8) : Int := if Op.bytesLess a b then -1 else if Op.bytesLess b a then 1 else 0

theorem cmpS_lt {a b : List UInt8} : decide (cmpS a b < 0) = Op.bytesLess a b := by
  unfold cmpS
  cases h : Op.bytesLess a b
  · simp only [Bool.false_eq_true, if_false]
    split <;> decide
  · simp

theorem cmpS_eq {a b : List UInt8} : decide (cmpS a b = 0) = decide (a = b) := by
  unfold cmpS
  cases h : Op.bytesLess a b
  · cases g : Op.bytesLess b a
    · simp [less_total h g]
    · have := less_ne g
      have e : ¬ a = b := fun e => this e.symm
      simp [e]
  · have := less_ne h
    simp [this]

theorem CompareS_spec {a b : List UInt8} (h : Q (.int .i64 (cmpS a b)) []) : ACall Tryd.prog 65 0 [.str a, .str b] [] Q := by
  refine by_body Tryd.func65 0 rfl (Nat.le_of_ble_eq_true rfl) ?_
  conv => whnf
  unfold cmpS at h
  refine .pure (isNaN_spec ⟨rfl, ?_⟩)
  conv => whnf
  refine .pure (isNaN_spec ⟨rfl, ?_⟩)
  conv => whnf
  cases h1 : Op.bytesLess a b <;> rw [h1] at h <;> conv => whnf
  rotate_left
  focus exact ⟨[], rfl, h⟩
  rw [gt_eq]
  cases h2 : Op.bytesLess b a <;> rw [h2] at h <;> conv => whnf
  · exact ⟨[], rfl, h⟩
  · exact ⟨[], rfl, h⟩

def BelowT (l : List Wk) (t : List UInt8) (i : Nat) : Prop := ∀ (j : Nat) (w : Wk), j < i → l[j]? = some w → Op.bytesLess w.t t = true
def AboveT (l : List Wk) (t : List UInt8) (i : Nat) : Prop := ∀ (j : Nat) (w : Wk), i ≤ j → l[j]? = some w → Op.bytesLess w.t t = false

theorem below_sorted {l : List Wk} {t : List UInt8} {i : Nat} {x : Wk} (hs : SortedW l) (hg : l[i]? = some x) (h : Op.bytesLess x.t t = true) : BelowT l t (i + 1) := fun j w hj hw => by
  rcases Nat.lt_or_ge j i with h1 | h1
  · exact less_trans (sorted_get hs h1 hw hg) h
  · have : j = i := by omega
    subst this
    rw [hg] at hw; cases hw; exact h

theorem above_sorted {l : List Wk} {t : List UInt8} {i : Nat} {x : Wk} (hs : SortedW l) (hg : l[i]? = some x) (h : Op.bytesLess x.t t = false) : AboveT l t i := fun j w hj hw => by
  rcases Nat.lt_or_ge i j with h1 | h1
  · cases hb : Op.bytesLess w.t t with
    | false => rfl
    | true =>
      have := less_trans (sorted_get hs h1 hg hw) hb
      rw [h] at this; cases this
  · have : j = i := by omega
    subst this
    rw [hg] at hw; cases hw; exact h

theorem add_pos_step {l : List Wk} {t : List UInt8} {k : Nat} {w : Wk} (hb : BelowT l t k) (hg : l[k]? = some w) (h : Op.bytesLess w.t t = true) : BelowT l t (k + 1) := fun j x hj hx => by
  rcases Nat.lt_or_ge j k with h1 | h1
  · exact hb j x h1 hx
  · have : j = k := by omega
    subst this
    rw [hg] at hx; cases hx; exact h

end Go.Proofs.YtocjhaahifpnbaaDoorPg

/- Works of copying: search, what is covered. -/
namespace Go.Proofs.YtocjhaahifpnbaaDoorPg
open Go Go.RowKit
set_option linter.unusedSimpArgs false
set_option linter.unusedVariables false

variable {Q : V → List O → Prop}

theorem at1_spec {w : Wk} {t : List UInt8} (h : Q (.int .i64 (cmpS w.t t)) []) : ACall Tryd.prog 64 0 [wkA w, .str t] [] Q := by
  refine by_body Tryd.func64 0 rfl (Nat.le_of_ble_eq_true rfl) ?_
  conv => whnf
  refine .pure (CompareS_spec ⟨rfl, ?_⟩)
  conv => whnf
  exact ⟨[], rfl, h⟩

set_option maxHeartbeats 4000000 in
theorem Search_spec {l : List Wk} {t : List UInt8} {f : Bool} (hl : l.length < 1000000) (hs : SortedW l) (h : Q (.tup [fI (posL l t), .bool (atL l t).isSome]) []) :
    ACall Tryd.prog 63 0 [.sl 3 (wks l) f, .str t, .fn (.func 64) [] []] [] Q := by
  refine by_body Tryd.func63 0 rfl (Nat.le_of_ble_eq_true rfl) ?_
  conv => whnf
  have hlk := wks_len l
  refine ⟨⟨[0, 1, 2, 8, 9, 10], fun m ws H => ∃ i j : Nat, ws = [.sl 3 (wks l) f, .str t, .fn (.func 64) [] [], fI l.length, fI i, fI j] ∧ H = [] ∧ i ≤ j ∧ j ≤ l.length ∧ BelowT l t i ∧ AboveT l t j ∧ m = j - i,
    .at l.length ⟨0, l.length, ?_, rfl, by omega, by omega, fun j w hj => by omega, fun j w hj hw => ?_, rfl⟩, ?_⟩⟩
  · show [V.sl 3 (wks l) f, V.str t, V.fn (.func 64) [] [], fI (wks l).length, fI 0, fI (wks l).length] = _
    rw [hlk]; rfl
  · have := (List.getElem?_eq_some_iff.1 hw).1; omega
  rintro m ws H ⟨i, j, rfl, rfl, hij, hj, hb, ha, rfl⟩
  conv => whnf
  refine branch_i (fun c1 => ?_) (fun c1 => ?_) <;> try rw [c1] <;> conv => whnf
  focus
    have c1' := of_decide_eq_true c1
    refine ⟨by decide, ?_⟩
    conv => whnf
    rw [half_eq (by omega)]
    have h1 : i ≤ (i + j) / 2 := by omega
    have h2 : (i + j) / 2 < j := by omega
    generalize (i + j) / 2 = k at *
    have hg : l[k]? = some l[k] := List.getElem?_eq_getElem (by omega)
    generalize l[k] = w at *
    refine ⟨_, ⟨by omega, wks_get hg⟩, ?_⟩
    conv => whnf
    refine .pure (at1_spec (w := w) ⟨rfl, ?_⟩)
    conv => whnf
    rw [cmpS_lt]
    cases hlt : Op.bytesLess w.t t <;> conv => whnf
    · refine .go [] rfl (k - i) (by omega) ⟨i, k, rfl, rfl, h1, by omega, hb, above_sorted hs hg hlt, rfl⟩
    · refine .go [] rfl (j - (k + 1)) (by omega) ⟨k + 1, j, ?_, rfl, by omega, by omega, below_sorted hs hg hlt, ha, rfl⟩
      show [V.sl 3 (wks l) f, V.str t, V.fn (.func 64) [] [], fI l.length, V.int .i64 (IntKind.i64.wrap ((k : Int) + 1)), fI j] = _
      rw [wrapI (by omega)]; rfl
  have c1' := of_decide_eq_false c1
  have hije : i = j := by omega
  subst hije
  have hp : posL l t = i := pos_unique hj hb fun w hw => ha i w (Nat.le_refl _) hw
  have hat := at_pos (t := t) hs
  rw [hp] at hat h
  refine branch_i (fun c2 => ?_) (fun c2 => ?_) <;> try rw [c2] <;> conv => whnf
  · have c2' := of_decide_eq_true c2
    have hg : l[i]? = some l[i] := List.getElem?_eq_getElem (by omega)
    generalize l[i] = w at *
    rw [hg] at hat
    refine ⟨_, ⟨by omega, wks_get hg⟩, ?_⟩
    conv => whnf
    refine .pure (at1_spec (w := w) ⟨rfl, ?_⟩)
    conv => whnf
    refine ⟨[], rfl, ?_⟩
    show Q (.tup [fI i, .bool (decide (cmpS w.t t = 0))]) []
    rw [cmpS_eq]
    simp only at hat
    rw [← hat]; exact h
  · have c2' := of_decide_eq_false c2
    rw [List.getElem?_eq_none (by omega)] at hat
    simp only at hat
    rw [hat] at h
    exact ⟨[], rfl, h⟩

theorem at_spec {l : List Wk} {t : List UInt8} {f : Bool} (hl : l.length < 1000000) (hs : SortedW l) (h : Q (.tup [fI (posL l t), .bool (atL l t).isSome]) []) : ACall Tryd.prog 41 0 [.sl 3 (wks l) f, .str t] [] Q := by
  refine by_body Tryd.func41 0 rfl (Nat.le_of_ble_eq_true rfl) ?_
  conv => whnf
  refine .pure (Search_spec hl hs ⟨rfl, ?_⟩)
  conv => whnf
  exact ⟨[], rfl, h⟩

set_option maxHeartbeats 4000000 in
theorem Covers_spec {l : List Wk} {t key : List UInt8} {f : Bool} (hl : l.length < 1000000) (hs : SortedW l) (h : Q (.bool (covL l t key)) []) : ACall Tryd.prog 16 0 [.sl 3 (wks l) f, .str t, .str key] [] Q := by
  refine by_body Tryd.func16 0 rfl (Nat.le_of_ble_eq_true rfl) ?_
  conv => whnf
  have hlk := wks_len l
  refine .pure (at_spec hl hs ⟨rfl, ?_⟩)
  unfold covL at h
  cases ha : atL l t with
  | none =>
    rw [ha] at h
    conv => whnf
    exact ⟨[], rfl, h⟩
  | some i =>
    obtain ⟨w, hw, ht, _⟩ := at_get ha
    have hlt := (List.getElem?_eq_some_iff.1 hw).1
    rw [at_sorted hs ha]
    rw [ha] at h
    simp only [Option.bind_some, hw] at h
    unfold covW at h
    conv => whnf
    refine ⟨_, ⟨by omega, wks_get hw⟩, ?_⟩
    conv => whnf
    cases hd : w.d <;> rw [hd] at h <;> conv => whnf
    rotate_left
    focus exact ⟨[], rfl, h⟩
    refine ⟨_, ⟨by omega, wks_get hw⟩, ?_⟩
    conv => whnf
    refine branch_i (fun c2 => ?_) (fun c2 => ?_) <;> rw [c2] at h <;> try rw [c2] <;> conv => whnf
    rotate_left
    focus exact ⟨[], rfl, h⟩
    refine ⟨_, ⟨by omega, wks_get hw⟩, ?_⟩
    conv => whnf
    refine ⟨[], rfl, ?_⟩
    show Q (.bool (Op.bytesLess key w.k || decide (key = w.k))) []
    rw [le_eq]; exact h

set_option maxHeartbeats 4000000 in
theorem RCovers_spec {l : List Wk} {t key : List UInt8} {f : Bool} (hl : l.length < 1000000) (h : Q (.bool (covL l t key)) []) : ACall Tryd.prog 17 0 [.sl 3 (wks l) f, .str t, .str key] [] Q := by
  refine by_body Tryd.func17 0 rfl (Nat.le_of_ble_eq_true rfl) ?_
  conv => whnf
  have hlk := wks_len l
  refine .pure (RAt_spec (by omega) ⟨rfl, ?_⟩)
  unfold covL at h
  cases ha : atL l t with
  | none =>
    rw [ha] at h
    rw [show atI l t = -1 by unfold atI; rw [ha]]
    conv => whnf
    exact ⟨[], rfl, h⟩
  | some i =>
    obtain ⟨w, hw, ht, _⟩ := at_get ha
    have hlt := (List.getElem?_eq_some_iff.1 hw).1
    rw [ha] at h
    simp only [Option.bind_some, hw] at h
    unfold covW at h
    rw [show atI l t = (i : Int) by unfold atI; rw [ha]]
    conv => whnf
    rw [show decide ((0 : Int) ≤ (i : Int)) = true by simp]
    conv => whnf
    refine ⟨_, ⟨by omega, wks_get hw⟩, ?_⟩
    conv => whnf
    cases hd : w.d <;> rw [hd] at h <;> conv => whnf
    rotate_left
    focus exact ⟨[], rfl, h⟩
    refine ⟨_, ⟨by omega, wks_get hw⟩, ?_⟩
    conv => whnf
    refine branch_i (fun c2 => ?_) (fun c2 => ?_) <;> rw [c2] at h <;> try rw [c2] <;> conv => whnf
    rotate_left
    focus exact ⟨[], rfl, h⟩
    refine ⟨_, ⟨by omega, wks_get hw⟩, ?_⟩
    conv => whnf
    exact ⟨[], rfl, h⟩

end Go.Proofs.YtocjhaahifpnbaaDoorPg

/- Works of copying: is a text a key? -/
namespace Go.Proofs.YtocjhaahifpnbaaDoorPg
open Go Go.RowKit
set_option linter.unusedSimpArgs false
set_option linter.unusedVariables false

variable {Q : V → List O → Prop}

set_option maxHeartbeats 4000000 in
theorem keyk_spec {s : List UInt8} (hs : s.length ≤ 10000000) (h : Q (.bool (isKeyL s)) []) : ACall Tryd.prog 43 0 [.str s] [] Q := by
  refine by_body Tryd.func43 0 rfl (Nat.le_of_ble_eq_true rfl) ?_
  conv => whnf
  refine .pure (Values_spec hs ⟨rfl, ?_⟩)
  unfold isKeyL at h
  cases hv : valuesL s with
  | none =>
    rw [hv] at h
    conv => whnf
    exact ⟨[], rfl, h⟩
  | some l =>
    rw [hv] at h
    have hl := vals_len l
    conv => whnf
    refine ⟨[], rfl, ?_⟩
    show Q (.bool (decide ((0 : Int) < ((vals l).length : Int)))) []
    refine qb h ?_
    rw [hl]
    cases l with
    | nil => rfl
    | cons v l => simp

def vInv (s : List UInt8) (R : Option (List Val)) (m : Nat) (ws : List V) (H : List O) : Prop :=
  ∃ (out : List Val) (i f : Nat), ws = [.str s, .ms 3 0 0 (vals out).length false, fI i] ∧ H = [.buf (vals out)] ∧ i ≤ s.length ∧ s.length - i < f ∧ out.length ≤ i ∧ refF f out (s.drop i) = R ∧ m = f

set_option maxHeartbeats 8000000 in
set_option maxRecDepth 10000 in
theorem values_spec {s : List UInt8} (hs : s.length ≤ 10000000) (h : Q (match refL s with | some l => .tup [.sl 3 (vals l) false, .bool true] | none => .tup [.nils, .bool false]) []) : ACall Tryd.prog 62 0 [.str s] [] Q := by
  refine ACall.ret (by_body Tryd.func62 0 rfl (Nat.le_of_ble_eq_true rfl) ?_)
  conv => whnf
  unfold refL at h
  generalize hR : refF (s.length + 1) [] s = R at h
  refine ⟨⟨[0, 4, 5], vInv s R,
    .frz (s.length + 2) (.adopt (.sub _ _ (.cons (VSub.refl _) (.cons (ms0_row 3 0) (VSubs.refl _))) (HSub.refl _) (.go [0] rfl (s.length + 1) (by omega) ⟨[], 0, s.length + 1, rfl, rfl, by omega, by omega, by simp, hR, rfl⟩))), ?_⟩⟩
  rintro m ws H ⟨out, i, g, rfl, rfl, hi, hf, hol, hq, rfl⟩
  conv => whnf
  obtain ⟨f, rfl⟩ : ∃ f, m = f + 1 := ⟨m - 1, by omega⟩
  have hlo := vals_len out
  refine branch_i (fun c1 => ?_) (fun c1 => ?_) <;> try rw [c1] <;> conv => whnf
  rotate_left
  focus
    have c1' := of_decide_eq_false c1
    rw [List.drop_eq_nil_of_le (by omega)] at hq
    simp only [refF] at hq
    subst hq
    refine ⟨[0], rfl, .frz 0 rfl (by repeat (first | exact trivial | refine And.intro (Nat.le_of_eq (Nat.zero_add _)) ?_)) (.done [] rfl ?_)⟩
    show Q (.tup [.sl 3 (List.take (vals out).length (vals out)) false, .bool true]) []
    rw [List.take_length]; exact h
  have c1' := of_decide_eq_true c1
  have hlt : i < s.length := by omega
  have hg : s[i]? = some s[i] := List.getElem?_eq_getElem hlt
  have hdr : s.drop i = s[i] :: s.drop (i + 1) := List.drop_eq_getElem_cons hlt
  rw [hdr] at hq
  generalize s[i] = c at *
  refine ⟨c, ⟨by omega, hg⟩, ?_⟩
  conv => whnf
  have hc := c.toNat_lt
  have hw : IntKind.i64.wrap (c.toNat : Int) = c.toNat := wrapI (by omega)
  have hi1 : IntKind.i64.wrap ((i : Int) + 1) = ((i + 1 : Nat) : Int) := by rw [wrapI (by omega)]; rfl
  rw [hw, hi1]
  have hrl : (s.drop (i + 1)).length = s.length - (i + 1) := by rw [List.length_drop]
  by_cases k1 : (c.toNat : Int) = 1
  focus
    have hP : refP c (s.drop (i + 1)) = if s.drop (i + 1) = [] then none else some (⟨c.toNat, (((s.drop (i + 1)).headD 0).toNat : Int), []⟩, (s.drop (i + 1)).tail) := by unfold refP; rw [if_pos k1]
    rw [show decide ((c.toNat : Int) = 1) = true by simp [k1]]
    conv => whnf
    refine branch_i (fun c2 => ?_) (fun c2 => ?_) <;> try rw [c2] <;> conv => whnf
    focus
      have c2' := of_decide_eq_true c2
      rw [if_pos (List.drop_eq_nil_of_le (by omega))] at hP
      rw [refF_none hP] at hq
      subst hq
      exact ⟨[], rfl, .done [] rfl h⟩
    have c2' := of_decide_eq_false c2
    have hl2 : i + 1 < s.length := by omega
    have hg2 : s[i + 1]? = some s[i + 1] := List.getElem?_eq_getElem hl2
    have hd2 : s.drop (i + 1) = s[i + 1] :: s.drop (i + 2) := List.drop_eq_getElem_cons hl2
    rw [if_neg (by rw [hd2]; exact List.cons_ne_nil _ _)] at hP
    have e1 : (s.drop (i + 1)).headD 0 = s[i + 1] := by rw [hd2]; rfl
    have e2 : (s.drop (i + 1)).tail = s.drop (i + 2) := by rw [hd2]; rfl
    rw [e1, e2] at hP
    clear e1 e2 hd2
    generalize s[i + 1] = b at *
    have hb := b.toNat_lt
    have hwb : IntKind.i64.wrap (b.toNat : Int) = b.toNat := wrapI (by omega)
    have hi2 : IntKind.i64.wrap (((i + 1 : Nat) : Int) + 1) = ((i + 2 : Nat) : Int) := by rw [wrapI (by omega)]; omega
    refine ⟨b, ⟨by omega, hg2⟩, ?_⟩
    conv => whnf
    rw [hwb]
    refine .pure (RVMay_spec (v := ⟨c.toNat, b.toNat, []⟩) (by simp) ⟨rfl, ?_⟩)
    conv => whnf
    cases hmv : mayV ⟨c.toNat, b.toNat, []⟩
    · rw [refF_no hP hmv] at hq
      subst hq
      conv => whnf
      exact ⟨[], rfl, .done [] rfl h⟩
    rw [refF_yes hP hmv] at hq
    conv => whnf
    refine ⟨Nat.le_refl _, ?_⟩
    conv => whnf
    refine ⟨rfl, ?_⟩
    conv => whnf
    refine ⟨Nat.le_trans (Nat.mul_le_mul_right _ (by rw [List.length_append, List.length_take, List.drop_zero, hlo]; exact Nat.add_le_add (Nat.le_refl out.length) (Nat.min_le_left _ _))) (show (out.length + 1) * 32 ≤ 70368744177664 by omega), ?_⟩
    conv => whnf
    have hsn : vals (out ++ [⟨c.toNat, b.toNat, []⟩]) = vals out ++ [valC ⟨c.toNat, b.toNat, []⟩] := by simp [vals]
    refine .go [3] rfl f (by omega) ⟨out ++ [⟨c.toNat, b.toNat, []⟩], i + 2, f, ?_, ?_, by omega, by omega, by rw [List.length_append, List.length_singleton]; omega, hq, rfl⟩
    · show [V.str s, V.ms 3 0 0 (vals out ++ [valC ⟨c.toNat, b.toNat, []⟩]).length false, V.int .i64 (IntKind.i64.wrap (((i + 1 : Nat) : Int) + 1))] = _
      rw [hsn, hi2]
    · show [O.buf (vals out ++ [valC ⟨c.toNat, b.toNat, []⟩])] = _
      rw [hsn]
  rw [show decide ((c.toNat : Int) = 1) = false by simp [k1]]
  conv => whnf
  by_cases k2 : (c.toNat : Int) = 2
  focus
    have hP : refP c (s.drop (i + 1)) = if 8 ≤ (s.drop (i + 1)).length then some (⟨c.toNat, deB ((s.drop (i + 1)).take 8) - 9223372036854775808, []⟩, (s.drop (i + 1)).drop 8) else none := by unfold refP; rw [if_neg k1, if_pos k2]
    rw [show decide ((c.toNat : Int) = 2) = true by simp [k2]]
    conv => whnf
    have hi9 : IntKind.i64.wrap (((i + 1 : Nat) : Int) + 8) = ((i + 9 : Nat) : Int) := by rw [wrapI (by omega)]; omega
    rw [hi9]
    refine branch_i (fun c2 => ?_) (fun c2 => ?_) <;> try rw [c2] <;> conv => whnf
    focus
      have c2' := of_decide_eq_true c2
      rw [if_neg (by omega)] at hP
      rw [refF_none hP] at hq
      subst hq
      exact ⟨[], rfl, .done [] rfl h⟩
    have c2' := of_decide_eq_false c2
    have h8 : 8 ≤ (s.drop (i + 1)).length := by omega
    rw [if_pos h8, List.drop_drop] at hP
    refine ⟨⟨[0, 4, 5, 6, 7, 8], fun m ws H => ∃ k : Nat, ws = [.str s, .ms 3 0 0 (vals out).length false, fI ((i + 1 : Nat) : Int), .ptr 1 0, .int .u64 (deB ((s.drop (i + 1)).take k)), fI k] ∧
      H = [.buf (vals out), .cells [.int .i64 c.toNat, fI 0, .str []]] ∧ k ≤ 8 ∧ m = 8 - k, .frz 9 (.go [0, 1] rfl 8 (by omega) ⟨0, rfl, rfl, by omega, rfl⟩), ?_⟩⟩
    rintro m ws H ⟨k, rfl, rfl, hk, rfl⟩
    conv => whnf
    refine branch_i (fun d1 => ?_) (fun d1 => ?_) <;> try rw [d1] <;> conv => whnf
    focus
      have d1' := of_decide_eq_true d1
      have hkl : i + 1 + k < s.length := by omega
      have hg2 : s[i + 1 + k]? = some s[i + 1 + k] := List.getElem?_eq_getElem hkl
      generalize s[i + 1 + k] = b at *
      have hgd : (s.drop (i + 1))[k]? = some b := by rw [List.getElem?_drop]; exact hg2
      have hb := b.toNat_lt
      obtain ⟨g1, g2⟩ := deB_bd (s.drop (i + 1)) k (by omega)
      have hp := pow_le8 (j := k) (by omega)
      have hik : IntKind.i64.wrap (((i + 1 : Nat) : Int) + (k : Int)) = ((i + 1 + k : Nat) : Int) := by rw [wrapI (by omega)]; omega
      rw [hik]
      refine ⟨b, ⟨by omega, hg2⟩, ?_⟩
      conv => whnf
      refine .go [0, 1] rfl (8 - (k + 1)) (by omega) ⟨k + 1, ?_, rfl, by omega, rfl⟩
      show [V.str s, V.ms 3 0 0 (vals out).length false, fI ((i + 1 : Nat) : Int), V.ptr 1 0, V.int .u64 (IntKind.u64.wrap (IntKind.u64.wrap (256 * deB ((s.drop (i + 1)).take k)) + IntKind.u64.wrap (b.toNat : Int))), V.int .i64 (IntKind.i64.wrap ((k : Int) + 1))] = _
      have hmul : IntKind.u64.wrap (IntKind.u64.wrap (256 * deB ((s.drop (i + 1)).take k)) + IntKind.u64.wrap (b.toNat : Int)) = deB ((s.drop (i + 1)).take k) * 256 + (b.toNat : Int) := by rw [wrap_u64, wrap_u64, wrap_u64]; omega
      rw [wrapI (n := (k : Int) + 1) (by omega), deB_take hgd, hmul]; rfl
    have d1' := of_decide_eq_false d1
    have hk8 : k = 8 := by omega
    subst hk8
    obtain ⟨g1, g2⟩ := deB_bd (s.drop (i + 1)) 8 h8
    have e256 : (256 : Int) ^ 8 = 18446744073709551616 := by decide
    have hsub : IntKind.i64.wrap (IntKind.u64.wrap (deB ((s.drop (i + 1)).take 8) - 9223372036854775808)) = deB ((s.drop (i + 1)).take 8) - 9223372036854775808 := by rw [wrap_u64, IntKind.wrap_i64]; omega
    rw [hsub, hi9]
    refine .pure (RVMay_spec (v := ⟨c.toNat, deB ((s.drop (i + 1)).take 8) - 9223372036854775808, []⟩) (by simp) ⟨rfl, ?_⟩)
    conv => whnf
    cases hmv : mayV ⟨c.toNat, deB ((s.drop (i + 1)).take 8) - 9223372036854775808, []⟩
    · rw [refF_no hP hmv] at hq
      subst hq
      conv => whnf
      exact ⟨[], rfl, .done [] rfl h⟩
    rw [refF_yes hP hmv] at hq
    conv => whnf
    refine ⟨Nat.le_refl _, ?_⟩
    conv => whnf
    refine ⟨rfl, ?_⟩
    conv => whnf
    refine ⟨Nat.le_trans (Nat.mul_le_mul_right _ (by rw [List.length_append, List.length_take, List.drop_zero, hlo]; exact Nat.add_le_add (Nat.le_refl out.length) (Nat.min_le_left _ _))) (show (out.length + 1) * 32 ≤ 70368744177664 by omega), ?_⟩
    conv => whnf
    have hsn : vals (out ++ [⟨c.toNat, deB ((s.drop (i + 1)).take 8) - 9223372036854775808, []⟩]) = vals out ++ [valC ⟨c.toNat, deB ((s.drop (i + 1)).take 8) - 9223372036854775808, []⟩] := by simp [vals]
    refine .go [3] rfl f (by omega) ⟨out ++ [⟨c.toNat, deB ((s.drop (i + 1)).take 8) - 9223372036854775808, []⟩], i + 9, f, ?_, ?_, by omega, by omega, by rw [List.length_append, List.length_singleton]; omega, hq, rfl⟩
    · show [V.str s, V.ms 3 0 0 (vals out ++ [valC ⟨c.toNat, deB ((s.drop (i + 1)).take 8) - 9223372036854775808, []⟩]).length false, fI ((i + 9 : Nat) : Int)] = _
      rw [hsn]
    · show [O.buf (vals out ++ [valC ⟨c.toNat, deB ((s.drop (i + 1)).take 8) - 9223372036854775808, []⟩])] = _
      rw [hsn]
  rw [show decide ((c.toNat : Int) = 2) = false by simp [k2]]
  conv => whnf
  by_cases k34 : (c.toNat : Int) = 3 ∨ (c.toNat : Int) = 4
  rotate_left
  focus
    have hP : refP c (s.drop (i + 1)) = some (⟨c.toNat, 0, []⟩, s.drop (i + 1)) := by unfold refP; rw [if_neg k1, if_neg k2, if_neg k34]
    rw [show decide ((c.toNat : Int) = 3) = false by simp; omega]
    conv => whnf
    rw [show decide ((c.toNat : Int) = 4) = false by simp; omega]
    conv => whnf
    refine .pure (RVMay_spec (v := ⟨c.toNat, 0, []⟩) (by simp) ⟨rfl, ?_⟩)
    conv => whnf
    cases hmv : mayV ⟨c.toNat, 0, []⟩
    · rw [refF_no hP hmv] at hq
      subst hq
      conv => whnf
      exact ⟨[], rfl, .done [] rfl h⟩
    rw [refF_yes hP hmv] at hq
    conv => whnf
    refine ⟨Nat.le_refl _, ?_⟩
    conv => whnf
    refine ⟨rfl, ?_⟩
    conv => whnf
    refine ⟨Nat.le_trans (Nat.mul_le_mul_right _ (by rw [List.length_append, List.length_take, List.drop_zero, hlo]; exact Nat.add_le_add (Nat.le_refl out.length) (Nat.min_le_left _ _))) (show (out.length + 1) * 32 ≤ 70368744177664 by omega), ?_⟩
    conv => whnf
    have hsn : vals (out ++ [⟨c.toNat, 0, []⟩]) = vals out ++ [valC ⟨c.toNat, 0, []⟩] := by simp [vals]
    refine .go [3] rfl f (by omega) ⟨out ++ [⟨c.toNat, 0, []⟩], i + 1, f, ?_, ?_, by omega, by omega, by rw [List.length_append, List.length_singleton]; omega, hq, rfl⟩
    · show [V.str s, V.ms 3 0 0 (vals out ++ [valC ⟨c.toNat, 0, []⟩]).length false, fI ((i + 1 : Nat) : Int)] = _
      rw [hsn]
    · show [O.buf (vals out ++ [valC ⟨c.toNat, 0, []⟩])] = _
      rw [hsn]
  have hP : refP c (s.drop (i + 1)) = if (rtx [] (s.drop (i + 1))).2.length ≤ 1 ∨ (rtx [] (s.drop (i + 1))).2.getD 1 0 ≠ 1 then none else some (⟨c.toNat, 0, (rtx [] (s.drop (i + 1))).1⟩, (rtx [] (s.drop (i + 1))).2.drop 2) := by unfold refP; rw [if_neg k1, if_neg k2, if_pos k34]
  by_cases k3 : (c.toNat : Int) = 3
  focus
    rw [show decide ((c.toNat : Int) = 3) = true by simp [k3]]
    conv => whnf
  rotate_left
  focus
    rw [show decide ((c.toNat : Int) = 3) = false by simp [k3]]
    conv => whnf
    rw [show decide ((c.toNat : Int) = 4) = true by simp; omega]
    conv => whnf
  all_goals
    refine ⟨⟨[0, 4, 5, 6, 9], fun m ws H => ∃ (j : Nat) (b : List UInt8), ws = [.str s, .ms 3 0 0 (vals out).length false, fI j, .ptr 1 0, .ms 1 2 0 (bs b).length false] ∧
      H = [.buf (vals out), .cells [.int .i64 c.toNat, fI 0, .str []], .buf (bs b)] ∧ i + 1 ≤ j ∧ j ≤ s.length ∧ b.length ≤ j ∧ rtx b (s.drop j) = rtx [] (s.drop (i + 1)) ∧ m = s.length - j,
      .frz (s.length + 1) (.adopt (.sub _ _ (.cons (VSub.refl _) (.cons (VSub.refl _) (.cons (VSub.refl _) (.cons (VSub.refl _) (.cons (ms0_row 1 2) (VSubs.refl _)))))) (HSub.refl _) (.go [0, 1, 2] rfl (s.length - (i + 1)) (by omega) ⟨i + 1, [], rfl, rfl, by omega, by omega, by simp, rfl, rfl⟩))), ?_⟩⟩
    rintro m ws H ⟨j, b, rfl, rfl, hij, hj, hbj, hrt, rfl⟩
    conv => whnf
    have hbl := bs_len b
    have hj1 : IntKind.i64.wrap ((j : Int) + 1) = ((j + 1 : Nat) : Int) := by rw [wrapI (by omega)]; rfl
    rw [hj1]
    refine branch_i (fun d1 => ?_) (fun d1 => ?_) <;> try rw [d1] <;> conv => whnf
    rotate_left
    focus
      have d1' := of_decide_eq_false d1
      rw [hj1]
      rw [show decide ((s.length : Int) ≤ ((j + 1 : Nat) : Int)) = true from decide_eq_true (by omega)]
      conv => whnf
      have he : rtx b (s.drop j) = (b, s.drop j) := rtx_short (by rw [List.length_drop]; omega)
      rw [← hrt, he, if_pos (.inl (by rw [List.length_drop]; omega))] at hP
      rw [refF_none hP] at hq
      subst hq
      exact ⟨[], rfl, .done [] rfl h⟩
    have d1' := of_decide_eq_true d1
    have hjl : j + 1 < s.length := by omega
    have hgx : s[j]? = some s[j] := List.getElem?_eq_getElem (by omega)
    have hgy : s[j + 1]? = some s[j + 1] := List.getElem?_eq_getElem hjl
    have hdj : s.drop j = s[j] :: s[j + 1] :: s.drop (j + 2) := by rw [List.drop_eq_getElem_cons (by omega), List.drop_eq_getElem_cons hjl]
    generalize s[j] = x at *
    generalize s[j + 1] = y at *
    by_cases hx : x = 0
    focus
      subst hx
      refine ⟨0, ⟨by omega, hgx⟩, ?_⟩
      conv => whnf
      rw [hj1]
      refine ⟨y, ⟨by omega, hgy⟩, ?_⟩
      conv => whnf
      by_cases hy : y = 255
      focus
        subst hy
        conv => whnf
        refine ⟨0, ⟨by omega, hgx⟩, ?_⟩
        conv => whnf
        refine ⟨Nat.le_refl _, ?_⟩
        conv => whnf
        refine ⟨rfl, ?_⟩
        conv => whnf
        refine ⟨Nat.le_trans (Nat.mul_le_mul_right _ (by rw [List.length_append, List.length_take, List.drop_zero]; exact Nat.add_le_add (show _ ≤ 10000000 by rw [hbl]; omega) (Nat.le_trans (Nat.min_le_left _ _) (by decide)))) (show (10000000 + 2) * 1 ≤ 70368744177664 by omega), ?_⟩
        conv => whnf
        refine ⟨0, ⟨by omega, hgx⟩, ?_⟩
        conv => whnf
        have hrt2 : rtx (b ++ [0]) (s.drop (j + 2)) = rtx [] (s.drop (i + 1)) := by rw [← hrt, hdj, rtx, if_pos rfl, if_pos rfl]
        have hj2 : IntKind.i64.wrap (((j + 1 : Nat) : Int) + 1) = ((j + 2 : Nat) : Int) := by rw [wrapI (by omega)]; omega
        refine .go [0, 1, 4] rfl (s.length - (j + 2)) (by omega) ⟨j + 2, b ++ [0], ?_, ?_, by omega, by omega, by rw [List.length_append, List.length_singleton]; omega, hrt2, rfl⟩
        · show [V.str s, V.ms 3 0 0 (vals out).length false, V.int .i64 (IntKind.i64.wrap (IntKind.i64.wrap ((j : Int) + 1) + 1)), V.ptr 1 0, V.ms 1 2 0 (bs b ++ [[V.int .u8 ((0 : UInt8).toNat : Int)]]).length false] = _
          rw [hj1, hj2]; simp [bs]
        · show [O.buf (vals out), O.cells [V.int .i64 c.toNat, fI 0, .str []], O.buf (bs b ++ [[V.int .u8 ((0 : UInt8).toNat : Int)]])] = _
          simp [bs]
      have hy' : decide ((y.toNat : Int) = 255) = false := by
        rw [decide_eq_false_iff_not]
        intro e
        exact hy (UInt8.toNat_inj.1 (by have : y.toNat = 255 := by omega
                                        rw [this]; rfl))
      rw [hy']
      conv => whnf
      rw [hj1]
      rw [show decide ((s.length : Int) ≤ ((j + 1 : Nat) : Int)) = false from decide_eq_false (by omega)]
      conv => whnf
      rw [hj1]
      refine ⟨y, ⟨by omega, hgy⟩, ?_⟩
      conv => whnf
      have he : rtx b (s.drop j) = (b, s.drop j) := by rw [hdj, rtx, if_pos rfl, if_neg hy]
      have hge : (s.drop j).getD 1 0 = y := by rw [hdj]; rfl
      by_cases h1 : y = 1
      focus
        subst h1
        conv => whnf
        rw [← hrt, he] at hP
        simp only at hP
        rw [if_neg (by rw [hge, List.length_drop]; simp; omega), List.drop_drop] at hP
        refine ⟨(by omega : 0 + (bs b).length ≤ (bs b).length), b, ?_, ?_⟩
        · show bytesOfEs (List.take (bs b).length (List.drop 0 (bs b))) = _
          rw [List.drop_zero, List.take_length]; exact bytesOfEs_bs _
        conv => whnf
        have hj2 : IntKind.i64.wrap ((j : Int) + 2) = ((j + 2 : Nat) : Int) := by rw [wrapI (by omega)]; omega
        rw [hj2]
        refine .pure (RVMay_spec (v := ⟨c.toNat, 0, b⟩) (by show b.length < _; omega) ⟨rfl, ?_⟩)
        conv => whnf
        cases hmv : mayV ⟨c.toNat, 0, b⟩
        · rw [refF_no hP hmv] at hq
          subst hq
          conv => whnf
          exact ⟨[], rfl, .done [] rfl h⟩
        rw [refF_yes hP hmv] at hq
        conv => whnf
        refine ⟨Nat.le_refl _, ?_⟩
        conv => whnf
        refine ⟨rfl, ?_⟩
        conv => whnf
        refine ⟨Nat.le_trans (Nat.mul_le_mul_right _ (by rw [List.length_append, List.length_take, List.drop_zero, hlo]; exact Nat.add_le_add (Nat.le_refl out.length) (Nat.min_le_left _ _))) (show (out.length + 1) * 32 ≤ 70368744177664 by omega), ?_⟩
        conv => whnf
        have hsn : vals (out ++ [⟨c.toNat, 0, b⟩]) = vals out ++ [valC ⟨c.toNat, 0, b⟩] := by simp [vals]
        refine .go [4] rfl f (by omega) ⟨out ++ [⟨c.toNat, 0, b⟩], j + 2, f, ?_, ?_, by omega, by omega, by rw [List.length_append, List.length_singleton]; omega, hq, rfl⟩
        · show [V.str s, V.ms 3 0 0 (vals out ++ [valC ⟨c.toNat, 0, b⟩]).length false, fI ((j + 2 : Nat) : Int)] = _
          rw [hsn]
        · show [O.buf (vals out ++ [valC ⟨c.toNat, 0, b⟩])] = _
          rw [hsn]
      have h1' : decide ((y.toNat : Int) = 1) = false := by
        rw [decide_eq_false_iff_not]
        intro e
        exact h1 (UInt8.toNat_inj.1 (by have : y.toNat = 1 := by omega
                                        rw [this]; rfl))
      rw [h1']
      conv => whnf
      rw [← hrt, he, if_pos (.inr (by rw [hge]; exact h1))] at hP
      rw [refF_none hP] at hq
      subst hq
      exact ⟨[], rfl, .done [] rfl h⟩
    have hx' : decide ((x.toNat : Int) = 0) = false := by
      rw [decide_eq_false_iff_not]
      intro e
      exact hx (UInt8.toNat_inj.1 (by have : x.toNat = 0 := by omega
                                      rw [this]; rfl))
    refine ⟨x, ⟨by omega, hgx⟩, ?_⟩
    conv => whnf
    rw [hx']
    conv => whnf
    refine ⟨x, ⟨by omega, hgx⟩, ?_⟩
    conv => whnf
    refine ⟨Nat.le_refl _, ?_⟩
    conv => whnf
    refine ⟨rfl, ?_⟩
    conv => whnf
    refine ⟨Nat.le_trans (Nat.mul_le_mul_right _ (by rw [List.length_append, List.length_take, List.drop_zero]; exact Nat.add_le_add (show _ ≤ 10000000 by rw [hbl]; omega) (Nat.le_trans (Nat.min_le_left _ _) (by decide)))) (show (10000000 + 2) * 1 ≤ 70368744177664 by omega), ?_⟩
    conv => whnf
    refine ⟨x, ⟨by omega, hgx⟩, ?_⟩
    conv => whnf
    rw [hx']
    conv => whnf
    have hrt2 : rtx (b ++ [x]) (s.drop (j + 1)) = rtx [] (s.drop (i + 1)) := by
      rw [← hrt, hdj, rtx, if_neg hx]
      congr 1
      rw [List.drop_eq_getElem_cons hjl]
      congr 1
      exact Option.some.inj ((List.getElem?_eq_getElem hjl).symm.trans hgy)
    refine .go [0, 1, 4] rfl (s.length - (j + 1)) (by omega) ⟨j + 1, b ++ [x], ?_, ?_, by omega, by omega, by rw [List.length_append, List.length_singleton]; omega, hrt2, rfl⟩
    · show [V.str s, V.ms 3 0 0 (vals out).length false, V.int .i64 (IntKind.i64.wrap ((j : Int) + 1)), V.ptr 1 0, V.ms 1 2 0 (bs b ++ [[V.int .u8 (x.toNat : Int)]]).length false] = _
      rw [hj1]; simp [bs]
    · show [O.buf (vals out), O.cells [V.int .i64 c.toNat, fI 0, .str []], O.buf (bs b ++ [[V.int .u8 (x.toNat : Int)]])] = _
      simp [bs]

end Go.Proofs.YtocjhaahifpnbaaDoorPg

/- Works of copying: works that may be, made of any; one more; one goes on (the document's functions). -/
namespace Go.Proofs.YtocjhaahifpnbaaDoorPg
open Go Go.RowKit
set_option linter.unusedSimpArgs false
set_option linter.unusedVariables false

variable {Q : V → List O → Prop}

set_option maxHeartbeats 4000000 in
theorem RisKey_spec {s : List UInt8} (hs : s.length ≤ 1000) (h : Q (.bool (isKeyL s)) []) : ACall Tryd.prog 40 0 [.str s] [] Q := by
  refine by_body Tryd.func40 0 rfl (Nat.le_of_ble_eq_true rfl) ?_
  conv => whnf
  rw [← refK_eq] at h
  refine .pure (values_spec (by omega) ⟨rfl, ?_⟩)
  unfold refK at h
  cases hv : refL s with
  | none =>
    rw [hv] at h
    conv => whnf
    exact ⟨[], rfl, h⟩
  | some l =>
    rw [hv] at h
    simp only at h
    have hl := vals_len l
    have hln := refF_len _ [] s l hv
    have hok := refF_ok _ [] s l hv (by simp)
    simp only [List.length_nil] at hln
    conv => whnf
    rw [show decide ((0 : Int) < ((vals l).length : Int)) = decide (0 < l.length) by rw [hl]; congr 1; simp]
    cases hz : decide (0 < l.length) <;> rw [hz] at h <;> conv => whnf
    · exact ⟨[], rfl, h⟩
    · refine .pure (VKey_spec (by omega) (fun v hm => may_text (hok v hm).1) ⟨rfl, ?_⟩)
      conv => whnf
      exact ⟨[], rfl, h⟩

def addR (l : List Wk) (t : List UInt8) : V := .tup [.nils, fI (addE nameOk l t)]

set_option maxHeartbeats 8000000 in
/-- one more work: in memory of the caller's -/
theorem RAdd_spec {l : List Wk} {t : List UInt8} {f : Bool} (hl : l.length ≤ 1000) (h1 : addE nameOk l t ≠ 0 → Q (addR l t) []) (h0 : addE nameOk l t = 0 → Q (.tup [.ms 3 0 0 (wks (addL l t)).length false, fI 0]) [.buf (wks (addL l t))]) :
    ACall Tryd.prog 14 0 [.sl 3 (wks l) f, .str t] [] Q := by
  refine by_body Tryd.func14 0 rfl (Nat.le_of_ble_eq_true rfl) ?_
  conv => whnf
  have hlk := wks_len l
  unfold addR addE at h1
  unfold addE at h0
  refine .pure (RName_spec ⟨rfl, ?_⟩)
  conv => whnf
  cases hn : nameOk t <;> rw [hn] at h0 h1 <;> conv => whnf
  focus exact ⟨[], rfl, h1 (by simp)⟩
  refine .pure (RAt_spec (by omega) ⟨rfl, ?_⟩)
  cases ha : atL l t with
  | some i =>
    rw [ha] at h1
    rw [show atI l t = (i : Int) by unfold atI; rw [ha]]
    conv => whnf
    exact ⟨[], rfl, h1 (by simp)⟩
  | none =>
    rw [ha] at h0
    have h0 := h0 (by simp)
    rw [show atI l t = -1 by unfold atI; rw [ha]]
    conv => whnf
    refine ⟨⟨[0, 1, 7], fun m ws H => ∃ k : Nat, ws = [.sl 3 (wks l) f, .str t, fI k] ∧ H = [] ∧ BelowT l t k ∧ k ≤ l.length ∧ m = l.length - k,
      .at l.length ⟨0, rfl, rfl, fun j w hj => by omega, Nat.zero_le _, rfl⟩, ?_⟩⟩
    rintro m ws H ⟨k, rfl, rfl, hb, hk, rfl⟩
    conv => whnf
    refine branch_i (fun c1 => ?_) (fun c1 => ?_) <;> try rw [c1] <;> conv => whnf
    · have c1' := of_decide_eq_true c1
      have hlt : k < l.length := by omega
      have hg : l[k]? = some l[k] := List.getElem?_eq_getElem hlt
      generalize l[k] = w at *
      refine ⟨_, ⟨by omega, wks_get hg⟩, ?_⟩
      conv => whnf
      cases hbl : Op.bytesLess w.t t <;> conv => whnf
      · have hp : posL l t = k := pos_unique hk hb fun x hx => by rw [hg] at hx; cases hx; exact hbl
        refine ⟨⟨by omega, by omega⟩, ?_⟩
        conv => whnf
        have hT : (List.take k (wks l)).length ≤ 1000 := by rw [List.length_take]; omega
        have hD : (List.drop k (wks l)).length ≤ 1000 := by rw [List.length_drop]; omega
        refine ⟨Nat.le_trans (Nat.mul_le_mul_right _ hT) (show 1000 * 40 ≤ 70368744177664 by omega), ?_⟩
        conv => whnf
        refine ⟨Nat.le_refl _, ?_⟩
        conv => whnf
        refine ⟨rfl, ?_⟩
        conv => whnf
        refine ⟨Nat.le_trans (Nat.mul_le_mul_right _ (by rw [List.length_append, List.length_take, List.drop_zero]; exact Nat.add_le_add hT (Nat.le_trans (Nat.min_le_left _ _) (by decide)))) (show (1000 + 2) * 40 ≤ 70368744177664 by omega), ?_⟩
        conv => whnf
        refine ⟨⟨by omega, by omega⟩, ?_⟩
        conv => whnf
        refine ⟨rfl, ?_⟩
        conv => whnf
        refine ⟨Nat.le_trans (Nat.mul_le_mul_right _ (by rw [List.length_append, List.drop_zero, List.length_append, List.drop_zero, List.length_take (i := 1)]; exact Nat.add_le_add (Nat.add_le_add hT (Nat.min_le_left _ _)) hD)) (show (1000 + 1 + 1000) * 40 ≤ 70368744177664 by omega), ?_⟩
        conv => whnf
        have hadd : wks (addL l t) = List.take k (wks l) ++ [wkC ⟨t, false, []⟩] ++ List.drop k (wks l) := by
          unfold addL insW; rw [hp]; simp [wks, List.map_take, List.map_drop]
        rw [hadd] at h0
        exact ⟨[3], rfl, h0⟩
      · refine .go [] rfl (l.length - (k + 1)) (by omega) ⟨k + 1, ?_, rfl, add_pos_step hb hg hbl, by omega, rfl⟩
        show [V.sl 3 (wks l) f, V.str t, V.int .i64 (IntKind.i64.wrap ((k : Int) + 1))] = _
        rw [wrapI (by omega)]; rfl
    · have c1' := of_decide_eq_false c1
      have hp : posL l t = k := pos_unique hk hb fun x hx => by rw [List.getElem?_eq_none (by omega)] at hx; cases hx
      refine ⟨⟨by omega, by omega⟩, ?_⟩
      conv => whnf
      have hT : (List.take k (wks l)).length ≤ 1000 := by rw [List.length_take]; omega
      have hD : (List.drop k (wks l)).length ≤ 1000 := by rw [List.length_drop]; omega
      refine ⟨Nat.le_trans (Nat.mul_le_mul_right _ hT) (show 1000 * 40 ≤ 70368744177664 by omega), ?_⟩
      conv => whnf
      refine ⟨Nat.le_refl _, ?_⟩
      conv => whnf
      refine ⟨rfl, ?_⟩
      conv => whnf
      refine ⟨Nat.le_trans (Nat.mul_le_mul_right _ (by rw [List.length_append, List.length_take, List.drop_zero]; exact Nat.add_le_add hT (Nat.le_trans (Nat.min_le_left _ _) (by decide)))) (show (1000 + 2) * 40 ≤ 70368744177664 by omega), ?_⟩
      conv => whnf
      refine ⟨⟨by omega, by omega⟩, ?_⟩
      conv => whnf
      refine ⟨rfl, ?_⟩
      conv => whnf
      refine ⟨Nat.le_trans (Nat.mul_le_mul_right _ (by rw [List.length_append, List.drop_zero, List.length_append, List.drop_zero, List.length_take (i := 1)]; exact Nat.add_le_add (Nat.add_le_add hT (Nat.min_le_left _ _)) hD)) (show (1000 + 1 + 1000) * 40 ≤ 70368744177664 by omega), ?_⟩
      conv => whnf
      have hadd : wks (addL l t) = List.take k (wks l) ++ [wkC ⟨t, false, []⟩] ++ List.drop k (wks l) := by
        unfold addL insW; rw [hp]; simp [wks, List.map_take, List.map_drop]
      rw [hadd] at h0
      exact ⟨[3], rfl, h0⟩

end Go.Proofs.YtocjhaahifpnbaaDoorPg

/- Works of copying: works that may be, made of any (the document's function). -/
namespace Go.Proofs.YtocjhaahifpnbaaDoorPg
open Go Go.RowKit
set_option linter.unusedSimpArgs false
set_option linter.unusedVariables false

variable {Q : V → List O → Prop}

theorem nils_sl (z : Nat) (f : Bool) : VSub .nils (.sl z [] f) := fun I ρ u h => by cases h; exact .slnil _ _ _ _

theorem RAtM_spec {l : List Wk} {t : List UInt8} (hl : l.length < 4611686018427387904) (h : Q (.int .i64 (atI l t)) [.buf (wks l)]) : ACall Tryd.prog 38 1 [.ms 3 0 0 (wks l).length false, .str t] [.buf (wks l)] Q := by
  refine by_body Tryd.func38 1 rfl (Nat.le_of_ble_eq_true rfl) ?_
  conv => whnf
  have hlv := wks_len l
  refine ⟨⟨[0, 1, 5], fun m ws H => ∃ i : Nat, ws = [.ms 3 0 0 (wks l).length false, .str t, fI i] ∧ H = [.buf (wks l)] ∧ NoneBefore l t i ∧ i ≤ l.length ∧ m = l.length - i,
    .at l.length ⟨0, rfl, rfl, fun j w hj => by omega, Nat.zero_le _, rfl⟩, ?_⟩⟩
  rintro m ws H ⟨i, rfl, rfl, hn, hi, rfl⟩
  conv => whnf
  refine branch_i (fun c1 => ?_) (fun c1 => ?_) <;> try rw [c1] <;> conv => whnf
  rotate_left
  focus
    have c1' := of_decide_eq_false c1
    have : i = l.length := by omega
    subst this
    unfold atI at h
    rw [at_none hn] at h
    exact ⟨[0], rfl, h⟩
  have c1' := of_decide_eq_true c1
  have hlt : i < l.length := by omega
  have hg : l[i]? = some l[i] := List.getElem?_eq_getElem hlt
  generalize l[i] = w at *
  refine ⟨by omega, ?_⟩
  conv => whnf
  refine ⟨_, wks_get hg, ?_⟩
  conv => whnf
  refine branch_i (fun c2 => ?_) (fun c2 => ?_) <;> try rw [c2] <;> conv => whnf
  · unfold atI at h
    rw [at_some hn hg (of_decide_eq_true c2)] at h
    exact ⟨[0], rfl, h⟩
  · refine .go [0] rfl (l.length - (i + 1)) (by omega) ⟨i + 1, ?_, rfl, fun j x hj hx => ?_, by omega, rfl⟩
    · show [V.ms 3 0 0 (wks l).length false, V.str t, V.int .i64 (IntKind.i64.wrap ((i : Int) + 1))] = _
      rw [wrapI (by omega)]; rfl
    · rcases Nat.lt_or_ge j i with h1 | h1
      · exact hn j x h1 hx
      · have : j = i := by omega
        subst this
        rw [hg] at hx; cases hx
        exact of_decide_eq_false c2

def GdInv (l : List Wk) (f : Bool) (m : Nat) (ws : List V) (H : List O) : Prop :=
  ∃ i : Nat, ws = [.sl 3 (wks l) f, .sl 3 (wks (goodWN nameOk l i)) false, .sl 1 (poolL.map fun s => [.str s]) true, fI i] ∧ H = [] ∧ i ≤ 4 ∧ i ≤ l.length ∧ m = 4 - i

theorem poolW_get {i : Nat} (h : i < 4) : (poolL.map fun s => [V.str s])[i]? = some [.str (poolL.getD i [])] := by
  obtain rfl | rfl | rfl | rfl : i = 0 ∨ i = 1 ∨ i = 2 ∨ i = 3 := by omega
  all_goals rfl

set_option maxHeartbeats 16000000 in
theorem RGoodW_spec {l : List Wk} {f : Bool} (ht : ∀ w ∈ l, w.t.length ≤ 40) (h : Q (.sl 3 (wks (goodW nameOk l)) false) []) : ACall Tryd.prog 10 0 [.sl 3 (wks l) f] [] Q := by
  refine by_body Tryd.func10 0 rfl (Nat.le_of_ble_eq_true rfl) ?_
  conv => whnf
  have hlv := wks_len l
  refine ⟨⟨[0, 3, 4, 5], GdInv l f,
    .frz 5 (.frz 0 rfl (by repeat (first | exact trivial | refine And.intro (Nat.le_refl _) ?_)) (.sub _ _ (.cons (VSub.refl _) (.cons (nils_sl 3 false) (VSubs.refl _))) (HSub.refl _) (.go [] rfl 4 (by omega) ⟨0, rfl, rfl, by omega, by omega, rfl⟩))), ?_⟩⟩
  rintro m ws H ⟨i, rfl, rfl, hi, hi2, rfl⟩
  conv => whnf
  refine branch_i (fun c1 => ?_) (fun c1 => ?_) <;> try rw [c1] <;> conv => whnf
  rotate_left
  focus
    have c1' := of_decide_eq_false c1
    have e : goodW nameOk l = goodWN nameOk l i := by
      have : i = l.length := by omega
      subst this
      exact goodWN_stop hi
    rw [e] at h
    exact ⟨[], rfl, h⟩
  have c1' := of_decide_eq_true c1
  refine branch_i (fun c2 => ?_) (fun c2 => ?_) <;> try rw [c2] <;> conv => whnf
  rotate_left
  focus
    have c2' := of_decide_eq_false c2
    have : i = 4 := by omega
    subst this
    exact ⟨[], rfl, h⟩
  have c2' := of_decide_eq_true c2
  have hlt : i < l.length := by omega
  have hg : l[i]? = some l[i] := List.getElem?_eq_getElem hlt
  have hstep : goodWN nameOk l (i + 1) = wStep nameOk (goodWN nameOk l i) i l[i] := by rw [goodWN, hg]
  obtain ⟨hok, hol⟩ := goodWN_ok (nm := nameOk) ht i hi
  generalize l[i] = w at *
  refine ⟨_, ⟨by omega, wks_get hg⟩, ?_⟩
  conv => whnf
  refine .pure (RName_spec ⟨rfl, ?_⟩)
  conv => whnf
  have hnm : wName nameOk i w = if nameOk w.t then w.t else poolL.getD i [] := rfl
  cases hn : nameOk w.t <;> rw [hn] at hnm <;> conv => whnf
  focus
    rw [if_neg (by simp)] at hnm
    refine ⟨[V.str (poolL.getD i [])], ⟨by omega, poolW_get (i := i) (by omega)⟩, ?_⟩
    conv => whnf
    generalize poolL.getD i [] = T at hnm ⊢
  rotate_left
  focus
    rw [if_pos rfl] at hnm
    generalize w.t = T at hnm ⊢
  all_goals
    generalize hgo : goodWN nameOk l i = o at *
    unfold wStep wWk at hstep
    rw [hnm] at hstep
    refine .call [] 0 ⟨rfl, rfl, rfl⟩ (RAdd_spec (by omega) (fun he => ?_) (fun he => ?_))
    · unfold addR
      conv => whnf
      rw [decide_eq_false he]
      conv => whnf
      rw [if_neg he] at hstep
      refine .go [] rfl (4 - (i + 1)) (by omega) ⟨i + 1, ?_, rfl, by omega, by omega, rfl⟩
      show [V.sl 3 (wks l) f, V.sl 3 (wks o) false, V.sl 1 (poolL.map fun s => [.str s]) true, V.int .i64 (IntKind.i64.wrap ((i : Int) + 1))] = _
      rw [wrapI (by omega), hstep]; rfl
    · rw [if_pos he] at hstep
      obtain ⟨hnm2, hat⟩ := addE_ok he
      conv => whnf
      refine .call [0] 1 ⟨rfl, rfl, rfl⟩ (RAtM_spec (by unfold addL; rw [ins_len]; omega) ?_)
      conv => whnf
      have hati : atI (addL o T) T = ((posL o T : Nat) : Int) := by
        unfold atI addL
        rw [show atL (insW o ⟨T, false, []⟩) T = some (posL o T) from at_ins (w := ⟨T, false, []⟩)]
      have hpo := pos_le o T
      have hlen : (wks (addL o T)).length = o.length + 1 := by unfold addL; rw [wks_len, ins_len]
      have hget : (wks (addL o T))[posL o T]? = some (wkC ⟨T, false, []⟩) := wks_get (ins_at (w := ⟨T, false, []⟩))
      have hset : ∀ (d : Bool) (k : List UInt8), (wks (addL o T)).set (posL o T) [.str T, .bool d, .str k] = wks (insW o ⟨T, d, k⟩) := fun d k => by
        rw [show [V.str T, V.bool d, V.str k] = wkC ⟨T, d, k⟩ from rfl]
        unfold addL
        rw [wks_set, ins_set (v := ⟨T, d, k⟩) (w := ⟨T, false, []⟩) rfl]
      have hgk : wKey w = if w.d = false ∧ w.k ≠ [] then keyS [⟨2, wNum w, []⟩] else [] := rfl
      have fin : ∀ (d : Bool) (k : List UInt8), d = w.d → k = wKey w → List.take (wks (addL o T)).length ((wks (addL o T)).set (posL o T) [.str T, .bool d, .str k]) = wks (goodWN nameOk l (i + 1)) := fun d k e1 e2 => by
        rw [List.take_of_length_le (by rw [List.length_set]; exact Nat.le_refl _), hset, e1, e2, hstep]
      rw [hati]
      refine ⟨_, ⟨by omega, wks_get hg⟩, ?_⟩
      conv => whnf
      refine ⟨by omega, ?_⟩
      conv => whnf
      refine ⟨_, hget, ?_⟩
      conv => whnf
      refine ⟨_, ⟨by omega, wks_get hg⟩, ?_⟩
      conv => whnf
      cases hd : w.d <;> conv => whnf
      rotate_left
      focus
        refine .frz 0 rfl (by repeat (first | exact trivial | refine And.intro (by rw [List.length_set]; exact Nat.le_of_eq (Nat.zero_add _)) ?_)) (.go [] rfl (4 - (i + 1)) (by omega) ⟨i + 1, ?_, rfl, by omega, by omega, rfl⟩)
        show [V.sl 3 (wks l) f, V.sl 3 (List.take (wks (addL o T)).length ((wks (addL o T)).set (posL o T) [.str T, .bool true, .str []])) false, V.sl 1 (poolL.map fun s => [.str s]) true, V.int .i64 (IntKind.i64.wrap ((i : Int) + 1))] = _
        rw [fin true [] hd.symm (by rw [hgk, if_neg (by rw [hd]; simp)]), wrapI (by omega)]; rfl
      refine ⟨_, ⟨by omega, wks_get hg⟩, ?_⟩
      conv => whnf
      refine branch_i (fun c5 => ?_) (fun c5 => ?_) <;> try rw [c5] <;> conv => whnf
      rotate_left
      focus
        refine .frz 0 rfl (by repeat (first | exact trivial | refine And.intro (by rw [List.length_set]; exact Nat.le_of_eq (Nat.zero_add _)) ?_)) (.go [] rfl (4 - (i + 1)) (by omega) ⟨i + 1, ?_, rfl, by omega, by omega, rfl⟩)
        show [V.sl 3 (wks l) f, V.sl 3 (List.take (wks (addL o T)).length ((wks (addL o T)).set (posL o T) [.str T, .bool false, .str []])) false, V.sl 1 (poolL.map fun s => [.str s]) true, V.int .i64 (IntKind.i64.wrap ((i : Int) + 1))] = _
        rw [fin false [] hd.symm (by rw [hgk, if_neg (by rintro ⟨_, e⟩; exact e (List.eq_nil_of_length_eq_zero (by have := of_decide_eq_false c5; omega)))]), wrapI (by omega)]; rfl
      have c5' := of_decide_eq_true c5
      obtain ⟨b, kr, hk⟩ : ∃ b kr, w.k = b :: kr := by
        cases hk : w.k with
        | nil => rw [hk] at c5'; simp at c5'
        | cons b kr => exact ⟨b, kr, rfl⟩
      have hb := b.toNat_lt
      have hwb : IntKind.i64.wrap (b.toNat : Int) = b.toNat := wrapI (by omega)
      have hnum : wNum w = (b.toNat : Int).tmod 9 := by unfold wNum; rw [hk]; rfl
      refine ⟨_, ⟨by omega, wks_get hg⟩, ?_⟩
      conv => whnf
      refine ⟨b, ⟨by omega, by rw [hk]; rfl⟩, ?_⟩
      conv => whnf
      refine ⟨by decide, ?_⟩
      conv => whnf
      rw [hwb, ← hnum]
      refine .frz 1 rfl rfl (by repeat (first | exact trivial | refine And.intro (Nat.le_refl _) ?_)) (.pure (VKey_spec (l := [⟨2, wNum w, []⟩]) (f := true) (by simp) (by simp) ⟨rfl, ?_⟩))
      conv => whnf
      refine ⟨by omega, ?_⟩
      conv => whnf
      refine ⟨_, List.getElem?_set_self (by omega), ?_⟩
      conv => whnf
      refine .frz 0 rfl (by repeat (first | exact trivial | refine And.intro (by rw [List.length_set, List.length_set]; exact Nat.le_of_eq (Nat.zero_add _)) ?_)) (.go [] rfl (4 - (i + 1)) (by omega) ⟨i + 1, ?_, rfl, by omega, by omega, rfl⟩)
      show [V.sl 3 (wks l) f, V.sl 3 (List.take (wks (addL o T)).length (((wks (addL o T)).set (posL o T) [.str T, .bool false, .str []]).set (posL o T) [.str T, .bool false, .str (keyS [⟨2, wNum w, []⟩])])) false, V.sl 1 (poolL.map fun s => [.str s]) true, V.int .i64 (IntKind.i64.wrap ((i : Int) + 1))] = _
      rw [List.set_set, fin false _ hd.symm (by rw [hgk, if_pos ⟨hd, by rw [hk]; exact List.cons_ne_nil _ _⟩]), wrapI (by omega)]; rfl

end Go.Proofs.YtocjhaahifpnbaaDoorPg

/- Works of copying: one goes on (the document's function); the example; the law ChunkCovers. -/
namespace Go.Proofs.YtocjhaahifpnbaaDoorPg
open Go Go.RowKit
set_option linter.unusedSimpArgs false
set_option linter.unusedVariables false

variable {Q : V → List O → Prop}

set_option maxHeartbeats 16000000 in
theorem RGo_spec {l : List Wk} {t last : List UInt8} {done f : Bool} (hl : l.length ≤ 1000) (hs : last.length ≤ 1000) (h1 : goE l t last done ≠ 0 → Q (.tup [.nils, fI (goE l t last done)]) []) (h0 : goE l t last done = 0 → Q (.tup [.sl 3 (wks (goL l t last done)) false, fI 0]) []) :
    ACall Tryd.prog 15 0 [.sl 3 (wks l) f, .str t, .str last, .bool done] [] Q := by
  refine ACall.ret (by_body Tryd.func15 0 rfl (Nat.le_of_ble_eq_true rfl) ?_)
  conv => whnf
  have hlk := wks_len l
  refine .pure (RAt_spec (by omega) ⟨rfl, ?_⟩)
  unfold goE at h0 h1
  unfold goL at h0
  cases ha : atL l t with
  | none =>
    rw [ha] at h1
    rw [show atI l t = -1 by unfold atI; rw [ha]]
    conv => whnf
    exact ⟨[], rfl, .done [] rfl (h1 (by simp))⟩
  | some i =>
    obtain ⟨w, hw, ht, _⟩ := at_get ha
    have hlt := (List.getElem?_eq_some_iff.1 hw).1
    rw [ha] at h0 h1
    simp only [Option.bind_some, hw] at h0 h1
    rw [show atI l t = (i : Int) by unfold atI; rw [ha]]
    conv => whnf
    rw [show decide ((i : Int) < 0) = false from decide_eq_false (by omega)]
    conv => whnf
    refine .pure (RisKey_spec (by omega) ⟨rfl, ?_⟩)
    conv => whnf
    refine ⟨_, ⟨by omega, wks_get hw⟩, ?_⟩
    conv => whnf
    have ok : Q (.tup [.sl 3 (wks (l.set i ⟨t, done, if done = true then [] else last⟩)) false, fI 0]) [] ∨ (w.d || (!done && (!isKeyL last || !Op.bytesLess w.k last))) = true := by
      cases hc : (w.d || (!done && (!isKeyL last || !Op.bytesLess w.k last))) with
      | true => exact .inr rfl
      | false => rw [hc] at h0; exact .inl (h0 (by simp))
    have hno : (w.d || (!done && (!isKeyL last || !Op.bytesLess w.k last))) = true → Q (.tup [.nils, fI 14]) [] := fun hc => by
      rw [hc] at h1; exact h1 (by simp)
    clear h0 h1
    have hset : ∀ (d : Bool) (k : List UInt8), (wks l).set i [.str w.t, .bool d, .str k] = wks (l.set i ⟨t, d, k⟩) := fun d k => by
      rw [show [V.str w.t, V.bool d, V.str k] = wkC ⟨t, d, k⟩ by rw [← ht]; rfl, wks_set]
    cases hd : w.d <;> rw [hd] at ok hno <;> conv => whnf
    rotate_left
    focus exact ⟨[], rfl, .done [] rfl (hno (by simp))⟩
    cases done <;> conv => whnf
    focus
      cases hk : isKeyL last <;> rw [hk] at ok hno <;> conv => whnf
      focus exact ⟨[], rfl, .done [] rfl (hno (by simp))⟩
      refine ⟨_, ⟨by omega, wks_get hw⟩, ?_⟩
      conv => whnf
      rw [le_eq]
      cases hb : Op.bytesLess w.k last <;> rw [hb] at ok hno <;> conv => whnf
      focus exact ⟨[], rfl, .done [] rfl (hno (by simp))⟩
    all_goals
      have ok := ok.resolve_right (by simp)
      refine ⟨Nat.le_trans (Nat.mul_le_mul_right _ (show (wks l).length ≤ 1000 by omega)) (show 1000 * 40 ≤ 70368744177664 by omega), ?_⟩
      conv => whnf
      refine ⟨by omega, ?_⟩
      conv => whnf
      refine ⟨_, wks_get hw, ?_⟩
      conv => whnf
      refine ⟨by omega, ?_⟩
      conv => whnf
      refine ⟨_, List.getElem?_set_self (by omega), ?_⟩
      conv => whnf
      first
        | (refine ⟨[0], rfl, .frz 0 rfl (by repeat (first | exact trivial | refine And.intro (by simp only [List.length_set]; exact Nat.le_of_eq (Nat.zero_add _)) ?_)) (.done [] rfl ?_)⟩
           show Q (.tup [.sl 3 (List.take (wks l).length (((wks l).set i [.str w.t, .bool false, .str w.k]).set i [.str w.t, .bool false, .str last])) false, fI 0]) []
           rw [List.take_of_length_le (by simp only [List.length_set]; exact Nat.le_refl _), List.set_set, hset]
           exact ok)
        | (refine ⟨by omega, ?_⟩
           conv => whnf
           refine ⟨_, List.getElem?_set_self (by rw [List.length_set]; omega), ?_⟩
           conv => whnf
           refine ⟨[0], rfl, .frz 0 rfl (by repeat (first | exact trivial | refine And.intro (by simp only [List.length_set]; exact Nat.le_of_eq (Nat.zero_add _)) ?_)) (.done [] rfl ?_)⟩
           show Q (.tup [.sl 3 (List.take (wks l).length ((((wks l).set i [.str w.t, .bool true, .str w.k]).set i [.str w.t, .bool true, .str last]).set i [.str w.t, .bool true, .str []])) false, fI 0]) []
           rw [List.take_of_length_le (by simp only [List.length_set]; exact Nat.le_refl _), List.set_set, List.set_set, hset]
           exact ok)

end Go.Proofs.YtocjhaahifpnbaaDoorPg

/- Works of copying: which may be. -/
namespace Go.Proofs.YtocjhaahifpnbaaDoorPg
open Go Go.RowKit
set_option linter.unusedSimpArgs false
set_option linter.unusedVariables false

variable {Q : V → List O → Prop}

def ShortKeys (l : List Wk) : Prop := ∀ w ∈ l, w.k.length ≤ 1000

theorem stepW_eq {l : List Wk} {i : Nat} {w : Wk} (hg : l[i]? = some w) : stepW nameOk l i = (nameOk w.t && (decide (i = 0) || (match l[i - 1]? with | some p => Op.bytesLess p.t w.t | none => true)) && (decide (w.k = []) || (isKeyL w.k && !w.d))) := by unfold stepW; rw [hg]; rfl

theorem right_step {l : List Wk} {i : Nat} (h : ∀ j, j < i → stepW nameOk l j = true) (hs : stepW nameOk l i = true) : ∀ j, j < i + 1 → stepW nameOk l j = true := fun j hj => by
  rcases Nat.lt_or_ge j i with h1 | h1
  · exact h j h1
  · have : j = i := by omega
    subst this; exact hs

set_option maxHeartbeats 16000000 in
theorem Right_spec {l : List Wk} {f : Bool} (hl : l.length ≤ 1000) (hk : ShortKeys l) (h : Q (.bool (rightL nameOk l)) []) : ACall Tryd.prog 22 0 [.sl 3 (wks l) f] [] Q := by
  refine by_body Tryd.func22 0 rfl (Nat.le_of_ble_eq_true rfl) ?_
  conv => whnf
  have hlv := wks_len l
  refine ⟨⟨[0, 5, 6, 7], fun m ws H => ∃ i : Nat, ws = [.sl 3 (wks l) f, .sl 3 (wks l) f, fI l.length, fI i] ∧ H = [] ∧ (∀ j, j < i → stepW nameOk l j = true) ∧ i ≤ l.length ∧ m = l.length - i,
    .at l.length ⟨0, ?_, rfl, fun j hj => by omega, Nat.zero_le _, rfl⟩, ?_⟩⟩
  · show [V.sl 3 (wks l) f, V.sl 3 (wks l) f, fI (wks l).length, fI 0] = _
    rw [hlv]; rfl
  rintro m ws H ⟨i, rfl, rfl, hst, hi, rfl⟩
  conv => whnf
  refine branch_i (fun c1 => ?_) (fun c1 => ?_) <;> try rw [c1] <;> conv => whnf
  rotate_left
  focus
    have c1' := of_decide_eq_false c1
    have : i = l.length := by omega
    subst this
    rw [right_yes hst] at h
    exact ⟨[], rfl, h⟩
  have c1' := of_decide_eq_true c1
  have hlt : i < l.length := by omega
  have hg : l[i]? = some l[i] := List.getElem?_eq_getElem hlt
  have hkl := hk l[i] (List.getElem_mem hlt)
  generalize l[i] = w at *
  have hse := stepW_eq hg
  have hno : stepW nameOk l i = false → Q (.bool false) [] := fun e => by rw [right_no hlt e] at h; exact h
  have hyes : ∀ H : List O, stepW nameOk l i = true → ANext 0 (l.length - i) (fun m ws H => ∃ i : Nat, ws = [.sl 3 (wks l) f, .sl 3 (wks l) f, fI l.length, fI i] ∧ H = [] ∧ (∀ j, j < i → stepW nameOk l j = true) ∧ i ≤ l.length ∧ m = l.length - i)
      [V.sl 3 (wks l) f, V.sl 3 (wks l) f, fI l.length, V.int .i64 (IntKind.i64.wrap ((i : Int) + 1))] H := fun H e => by
    refine .go [] rfl (l.length - (i + 1)) (by omega) ⟨i + 1, ?_, rfl, right_step hst e, by omega, rfl⟩
    show [V.sl 3 (wks l) f, V.sl 3 (wks l) f, fI l.length, V.int .i64 (IntKind.i64.wrap ((i : Int) + 1))] = _
    rw [wrapI (by omega)]; rfl
  refine ⟨_, ⟨by omega, wks_get hg⟩, ?_⟩
  conv => whnf
  refine ⟨List.range 34, by kernel_rfl, by kernel_rfl, ?_⟩
  conv => whnf
  refine .pure (Name_spec ⟨rfl, ?_⟩)
  conv => whnf
  cases hn : nameOk w.t <;> rw [hn] at hse <;> conv => whnf
  focus
    repeat (conv => whnf
            refine ⟨rfl, ?_⟩)
    conv => whnf
    exact ⟨[], rfl, hno (by rw [hse]; rfl)⟩
  refine branch_i (fun c2 => ?_) (fun c2 => ?_) <;> try rw [c2] <;> conv => whnf
  · have c2' := of_decide_eq_true c2
    have hgp : l[i - 1]? = some l[i - 1] := List.getElem?_eq_getElem (by omega)
    rw [hgp] at hse
    generalize l[i - 1] = p at *
    have hi1 : IntKind.i64.wrap ((i : Int) - 1) = ((i - 1 : Nat) : Int) := by rw [wrapI (by omega)]; omega
    have hi0 : decide (i = 0) = false := decide_eq_false (by omega)
    rw [hi1]
    refine ⟨_, ⟨by omega, wks_get hgp⟩, ?_⟩
    conv => whnf
    cases hb : Op.bytesLess p.t w.t <;> conv => whnf
    focus
      repeat (conv => whnf
              first | (refine ⟨rfl, ?_⟩) | (refine ⟨⟨_, ⟨by omega, wks_get hgp⟩, rfl⟩, ?_⟩))
      conv => whnf

      exact ⟨[], rfl, hno (by rw [hse]; simp [hi0, hb])⟩
    have hord : (decide (i = 0) || (match some p with | some p => Op.bytesLess p.t w.t | none => true)) = true := by simp [hb]
    refine branch_i (fun c4 => ?_) (fun c4 => ?_) <;> try rw [c4] <;> conv => whnf
    rotate_left
    focus
      repeat (conv => whnf
              first | (refine ⟨rfl, ?_⟩) | (refine ⟨⟨_, ⟨by omega, wks_get hgp⟩, rfl⟩, ?_⟩))
      conv => whnf
      exact hyes _ (by rw [hse, hord]; simp at c4; simp [c4])
    have hne : decide (w.k = []) = false := by simpa using c4
    cases hd : w.d <;> conv => whnf
    rotate_left
    focus
      repeat (conv => whnf
              first | (refine ⟨rfl, ?_⟩) | (refine ⟨⟨_, ⟨by omega, wks_get hgp⟩, rfl⟩, ?_⟩))
      conv => whnf
      exact ⟨[], rfl, hno (by rw [hse, hord, hne, hd]; simp)⟩
    refine .pure (keyk_spec (by omega) ⟨rfl, ?_⟩)
    cases hik : isKeyL w.k <;> conv => whnf
    · repeat (conv => whnf
              first | (refine ⟨rfl, ?_⟩) | (refine ⟨⟨_, ⟨by omega, wks_get hgp⟩, rfl⟩, ?_⟩))
      conv => whnf
      exact ⟨[], rfl, hno (by rw [hse, hord, hne, hd, hik]; rfl)⟩
    · repeat (conv => whnf
              first | (refine ⟨rfl, ?_⟩) | (refine ⟨⟨_, ⟨by omega, wks_get hgp⟩, rfl⟩, ?_⟩))
      conv => whnf
      exact hyes _ (by rw [hse, hord, hne, hd, hik]; rfl)

  · have c2' := of_decide_eq_false c2
    have hord : (decide (i = 0) || (match l[i - 1]? with | some p => Op.bytesLess p.t w.t | none => true)) = true := by rw [decide_eq_true (show i = 0 by omega)]; rfl
    refine branch_i (fun c4 => ?_) (fun c4 => ?_) <;> try rw [c4] <;> conv => whnf
    rotate_left
    focus
      repeat (conv => whnf
              first | (refine ⟨rfl, ?_⟩) | (refine ⟨⟨_, ⟨by omega, wks_get hgp⟩, rfl⟩, ?_⟩))
      conv => whnf
      exact hyes _ (by rw [hse, hord]; simp at c4; simp [c4])
    have hne : decide (w.k = []) = false := by simpa using c4
    cases hd : w.d <;> conv => whnf
    rotate_left
    focus
      repeat (conv => whnf
              first | (refine ⟨rfl, ?_⟩) | (refine ⟨⟨_, ⟨by omega, wks_get hgp⟩, rfl⟩, ?_⟩))
      conv => whnf
      exact ⟨[], rfl, hno (by rw [hse, hord, hne, hd]; simp)⟩
    refine .pure (keyk_spec (by omega) ⟨rfl, ?_⟩)
    cases hik : isKeyL w.k <;> conv => whnf
    · repeat (conv => whnf
              first | (refine ⟨rfl, ?_⟩) | (refine ⟨⟨_, ⟨by omega, wks_get hgp⟩, rfl⟩, ?_⟩))
      conv => whnf
      exact ⟨[], rfl, hno (by rw [hse, hord, hne, hd, hik]; rfl)⟩
    · repeat (conv => whnf
              first | (refine ⟨rfl, ?_⟩) | (refine ⟨⟨_, ⟨by omega, wks_get hgp⟩, rfl⟩, ?_⟩))
      conv => whnf
      exact hyes _ (by rw [hse, hord, hne, hd, hik]; rfl)


end Go.Proofs.YtocjhaahifpnbaaDoorPg

/- Works of copying: the example; the law ChunkCovers. -/
namespace Go.Proofs.YtocjhaahifpnbaaDoorPg
open Go Go.RowKit
set_option linter.unusedSimpArgs false
set_option linter.unusedVariables false

variable {Q : V → List O → Prop}

def exW : List Wk := [⟨[116], false, keyS [⟨2, 5, []⟩]⟩]
theorem ex_right : rightL nameOk exW = true := by kernel_rfl
theorem ex_cov4 : covL exW [116] (keyS [⟨2, 4, []⟩]) = true := by kernel_rfl
theorem ex_cov6 : covL exW [116] (keyS [⟨2, 6, []⟩]) = false := by kernel_rfl
theorem ex_sorted : SortedW exW := by unfold exW SortedW; simp
theorem ex_short : ShortKeys exW := fun w hw => by
  have : w = ⟨[116], false, keyS [⟨2, 5, []⟩]⟩ := by simpa [exW] using hw
  subst this
  show (keyS [⟨2, 5, []⟩]).length ≤ 1000
  rw [ikey_len]; omega

set_option maxHeartbeats 8000000 in
theorem lives11_spec (h : Q (.bool true) []) : ACall Tryd.prog 18 0 [] [] Q := by
  refine by_body Tryd.func18 0 rfl (Nat.le_of_ble_eq_true rfl) ?_
  conv => whnf
  refine .pure (ikey_spec ⟨rfl, ?_⟩)
  conv => whnf
  refine .frz 0 rfl rfl (by repeat (first | exact trivial | refine And.intro (Nat.le_refl _) ?_)) (.pure (Right_spec (l := exW) (f := true) (by decide) ex_short ⟨rfl, ?_⟩))
  rw [ex_right]
  conv => whnf
  refine .pure (ikey_spec ⟨rfl, ?_⟩)
  conv => whnf
  refine .pure (Covers_spec (l := exW) (f := true) (by decide) ex_sorted ⟨rfl, ?_⟩)
  rw [ex_cov4]
  conv => whnf
  refine .pure (ikey_spec ⟨rfl, ?_⟩)
  conv => whnf
  refine .pure (Covers_spec (l := exW) (f := true) (by decide) ex_sorted ⟨rfl, ?_⟩)
  rw [ex_cov6]
  conv => whnf
  exact ⟨[], rfl, h⟩

def addW (l : List Wk) (t : List UInt8) : List Wk := if addE nameOk l t = 0 then addL l t else []
def goW (l : List Wk) (t last : List UInt8) (done : Bool) : List Wk := if goE l t last done = 0 then goL l t last done else []

theorem nil_tup (e : Int) : VSub (.tup [.nils, fI e]) (.tup [.sl 3 [] false, fI e]) := VSub.tup (.cons (nils_sl 3 false) (VSubs.refl _))

theorem RAddF_spec {l : List Wk} {t : List UInt8} {f : Bool} (hl : l.length ≤ 1000) (h : Q (.tup [.sl 3 (wks (addW l t)) false, fI (addE nameOk l t)]) []) : ACall Tryd.prog 14 0 [.sl 3 (wks l) f, .str t] [] Q := by
  unfold addW at h
  refine ACall.ret (RAdd_spec hl (fun he => .sub _ _ (nil_tup _) (HSub.refl _) (.done [] rfl ?_)) (fun he => .frz 0 rfl (by repeat (first | exact trivial | refine And.intro (Nat.le_of_eq (Nat.zero_add _)) ?_)) (.done [] rfl ?_)))
  · rw [if_neg he] at h; exact h
  · rw [if_pos he, he] at h
    show Q (.tup [.sl 3 (List.take (wks (addL l t)).length (wks (addL l t))) false, fI 0]) []
    rw [List.take_length]; exact h

theorem RGoF_spec {l : List Wk} {t last : List UInt8} {done f : Bool} (hl : l.length ≤ 1000) (hs : last.length ≤ 1000) (h : Q (.tup [.sl 3 (wks (goW l t last done)) false, fI (goE l t last done)]) []) :
    ACall Tryd.prog 15 0 [.sl 3 (wks l) f, .str t, .str last, .bool done] [] Q := by
  unfold goW at h
  refine ACall.ret (RGo_spec hl hs (fun he => .sub _ _ (nil_tup _) (HSub.refl _) (.done [] rfl ?_)) (fun he => .done [] rfl ?_))
  · rw [if_neg he] at h; exact h
  · rw [if_pos he, he] at h; exact h

theorem addw_ok {g : List Wk} {t N : List UInt8} (h : WksOk nameOk g) : SortedW (addW g t) ∧ (addW g t).length ≤ 1000 ∧ ∀ key, covL g N key = true → addW g t = [] ∨ covL (addW g t) N key = true := by
  unfold addW
  by_cases he : addE nameOk g t = 0
  · obtain ⟨_, h2⟩ := addE_ok he
    rw [if_pos he]
    have hf := h.few
    exact ⟨ins_sorted' h.sorted h2, by unfold addL; rw [ins_len]; omega, fun key hc => .inr (cov_ins h.sorted h2 hc)⟩
  · rw [if_neg he]
    exact ⟨List.Pairwise.nil, by simp, fun _ _ => .inl rfl⟩

theorem gow_ok {g : List Wk} {N last : List UInt8} {done : Bool} (h : WksOk nameOk g) (hl : last.length ≤ 40) : SortedW (goW g N last done) ∧ (goW g N last done).length ≤ 1000 ∧ ∀ key, covL g N key = true → goE g N last done = 0 → covL (goW g N last done) N key = true := by
  unfold goW
  by_cases he : goE g N last done = 0
  · rw [if_pos he]
    have hw := go_wok h hl he
    have hf := hw.few
    exact ⟨hw.sorted, by omega, fun key hc _ => cov_go h.sorted hc he⟩
  · rw [if_neg he]
    exact ⟨List.Pairwise.nil, by simp, fun _ _ e => absurd e he⟩

set_option maxHeartbeats 16000000 in
theorem ChunkCovers_spec {l : List Wk} {T X : List UInt8} {n m : Int} {f : Bool} : ACall Tryd.prog 3 0 [.sl 3 (wks l) f, .str T, .str X, .int .i64 n, .int .i64 m] [] (fun v _ => v = .bool true) := by
  refine by_body Tryd.func3 0 rfl (Nat.le_of_ble_eq_true rfl) ?_
  conv => whnf
  refine .pure (few_spec ⟨rfl, ?_⟩)
  conv => whnf
  obtain ⟨hok, hg4⟩ := goodW_ok (nm := nameOk) (l := fewL l) fun w hw => (few_t w hw).1
  refine .pure (RGoodW_spec (fun w hw => (few_t w hw).1) ⟨rfl, ?_⟩)
  generalize goodW nameOk (fewL l) = g at *
  conv => whnf
  refine .pure (name40_spec ⟨rfl, ?_⟩)
  generalize List.take 40 T = T at *
  conv => whnf
  refine .pure (name40_spec ⟨rfl, ?_⟩)
  generalize List.take 40 X = X at *
  conv => whnf
  refine .pure (ikey_spec ⟨rfl, ?_⟩)
  generalize keyS [⟨2, n, []⟩] = K at *
  conv => whnf
  refine ⟨⟨[4, 11, 12, 13, 14], fun mm ws H => ∃ i : Nat, ws = [.int .i64 m, .sl 3 (wks g) false, .ms 1 0 0 3 true, .ms 1 1 0 2 true, fI i] ∧ H = [.buf [[.str T], [.str [116]], [.str [117]]], .buf [[.str X], [.str K]]] ∧ i ≤ 3 ∧ mm = 3 - i,
    .frz 4 (.go [0, 1] rfl 3 (by omega) ⟨0, rfl, rfl, by omega, rfl⟩), ?_⟩⟩
  rintro mm ws H ⟨i, rfl, rfl, hi, rfl⟩
  conv => whnf
  refine branch_i (fun c1 => ?_) (fun c1 => ?_) <;> try rw [c1] <;> conv => whnf
  rotate_left
  focus
    refine .pure (lives11_spec ⟨rfl, ?_⟩)
    conv => whnf
    exact ⟨[], rfl, rfl⟩
  have c1' := of_decide_eq_true c1
  obtain ⟨N, hN⟩ : ∃ N : List UInt8, [[V.str T], [V.str [116]], [V.str [117]]][i]? = some [.str N] := by
    obtain rfl | rfl | rfl : i = 0 ∨ i = 1 ∨ i = 2 := by omega
    · exact ⟨T, rfl⟩
    · exact ⟨[116], rfl⟩
    · exact ⟨[117], rfl⟩
  refine .pure (RAddF_spec (by omega) ⟨rfl, ?_⟩)
  conv => whnf
  refine ⟨[0, 1, 2, 3, 4, 5, 7, 8, 9, 6, 10, 11, 12, 13, 14, 15], by kernel_rfl, by kernel_rfl, ?_⟩
  conv => whnf
  refine ⟨⟨by omega, by omega⟩, ?_⟩
  conv => whnf
  refine ⟨_, hN, ?_⟩
  conv => whnf
  refine ⟨by decide, ?_⟩
  conv => whnf
  refine .pure (ikey_spec ⟨rfl, ?_⟩)
  have hL9 := ikey_len m
  generalize keyS [⟨2, m, []⟩] = L at *
  repeat (conv => whnf
          first | (refine ⟨rfl, ?_⟩) | (refine ⟨⟨by decide, rfl⟩, ?_⟩) | (refine ⟨⟨⟨by omega, by omega⟩, rfl⟩, ?_⟩) | (refine ⟨⟨_, hN, rfl⟩, ?_⟩))
  conv => whnf

  refine .pure (RGoF_spec (by omega) (by omega) ⟨rfl, ?_⟩)
  repeat (conv => whnf
          first | (refine ⟨rfl, ?_⟩) | (refine ⟨⟨by decide, rfl⟩, ?_⟩) | (refine ⟨⟨⟨by omega, by omega⟩, rfl⟩, ?_⟩) | (refine ⟨⟨_, hN, rfl⟩, ?_⟩))
  conv => whnf

  obtain ⟨a1, a2, a3⟩ := addw_ok (t := [122, 122]) (N := N) hok
  obtain ⟨b1, b2, b3⟩ := gow_ok (N := N) (last := L) (done := decide (m.tmod 5 = 0)) hok (by omega)
  generalize addW g [122, 122] = A at *
  generalize goW g N L (decide (m.tmod 5 = 0)) = B at *
  generalize goE g N L (decide (m.tmod 5 = 0)) = e at *
  refine ⟨⟨[4, 11, 12, 13, 14, 15, 17, 18, 19], fun mm ws H => ∃ k : Nat, ws = [.int .i64 m, .sl 3 (wks g) false, .ms 1 0 0 3 true, .ms 1 1 0 2 true, fI i, .sl 3 (wks A) false, .sl 3 (wks B) false, fI e, fI k] ∧ H = [.buf [[.str T], [.str [116]], [.str [117]]], .buf [[.str X], [.str K]]] ∧ k ≤ 2 ∧ mm = 2 - k,
    .frz 3 (.go [0, 1] rfl 2 (by omega) ⟨0, rfl, rfl, by omega, rfl⟩), ?_⟩⟩
  rintro mm ws H ⟨k, rfl, rfl, hk, rfl⟩
  conv => whnf
  refine branch_i (fun d1 => ?_) (fun d1 => ?_) <;> try rw [d1] <;> conv => whnf
  rotate_left
  focus
    refine .go [0, 1] rfl (3 - (i + 1)) (by omega) ⟨i + 1, ?_, rfl, by omega, rfl⟩
    show [V.int .i64 m, V.sl 3 (wks g) false, V.ms 1 0 0 3 true, V.ms 1 1 0 2 true, V.int .i64 (IntKind.i64.wrap ((i : Int) + 1))] = _
    rw [wrapI (by omega)]; rfl
  have d1' := of_decide_eq_true d1
  obtain ⟨Y, hY⟩ : ∃ Y : List UInt8, [[V.str X], [V.str K]][k]? = some [.str Y] := by
    obtain rfl | rfl : k = 0 ∨ k = 1 := by omega
    · exact ⟨X, rfl⟩
    · exact ⟨K, rfl⟩
  have bb : ∀ b : Bool, (b == b) = true := fun b => by cases b <;> rfl
  have hgo : ∀ H : List O, H = [.buf [[.str T], [.str [116]], [.str [117]]], .buf [[.str X], [.str K]]] → ANext 0 (2 - k) (fun mm ws H => ∃ k : Nat, ws = [.int .i64 m, .sl 3 (wks g) false, .ms 1 0 0 3 true, .ms 1 1 0 2 true, fI i, .sl 3 (wks A) false, .sl 3 (wks B) false, fI e, fI k] ∧ H = [.buf [[.str T], [.str [116]], [.str [117]]], .buf [[.str X], [.str K]]] ∧ k ≤ 2 ∧ mm = 2 - k)
      [.int .i64 m, .sl 3 (wks g) false, .ms 1 0 0 3 true, .ms 1 1 0 2 true, fI i, .sl 3 (wks A) false, .sl 3 (wks B) false, fI e, V.int .i64 (IntKind.i64.wrap ((k : Int) + 1))] H := fun H e => by
    subst e
    refine .go [0, 1] rfl (2 - (k + 1)) (by omega) ⟨k + 1, ?_, rfl, by omega, rfl⟩
    rw [wrapI (by omega)]; rfl
  refine ⟨List.range 11, by kernel_rfl, by kernel_rfl, ?_⟩
  conv => whnf
  refine ⟨⟨by omega, by omega⟩, ?_⟩
  conv => whnf
  refine ⟨_, hN, ?_⟩
  conv => whnf

  refine ⟨⟨by omega, by omega⟩, ?_⟩
  conv => whnf
  refine ⟨_, hY, ?_⟩
  conv => whnf

  refine .pure (Covers_spec (by omega) hok.sorted ⟨rfl, ?_⟩)
  repeat (conv => whnf
          first | (refine ⟨rfl, ?_⟩) | (refine ⟨⟨by decide, rfl⟩, ?_⟩) | (refine ⟨⟨⟨by omega, by omega⟩, rfl⟩, ?_⟩) | (refine ⟨⟨_, hN, rfl⟩, ?_⟩) | (refine ⟨⟨_, hY, rfl⟩, ?_⟩))
  conv => whnf

  refine ⟨List.range 12, by kernel_rfl, by kernel_rfl, ?_⟩
  conv => whnf
  refine ⟨⟨by omega, by omega⟩, ?_⟩
  conv => whnf
  refine ⟨_, hN, ?_⟩
  conv => whnf

  refine ⟨⟨by omega, by omega⟩, ?_⟩
  conv => whnf
  refine ⟨_, hY, ?_⟩
  conv => whnf

  refine .pure (RCovers_spec (by omega) ⟨rfl, ?_⟩)
  repeat (conv => whnf
          first | (refine ⟨rfl, ?_⟩) | (refine ⟨⟨by decide, rfl⟩, ?_⟩) | (refine ⟨⟨⟨by omega, by omega⟩, rfl⟩, ?_⟩) | (refine ⟨⟨_, hN, rfl⟩, ?_⟩) | (refine ⟨⟨_, hY, rfl⟩, ?_⟩))
  conv => whnf

  rw [bb]
  conv => whnf
  refine ⟨List.range 19, by kernel_rfl, by kernel_rfl, ?_⟩
  conv => whnf
  cases hc : covL g N Y <;> conv => whnf
  · refine ⟨List.range 18, by kernel_rfl, by kernel_rfl, ?_⟩
    repeat (conv => whnf
            first | (refine ⟨rfl, ?_⟩) | (refine ⟨⟨by decide, rfl⟩, ?_⟩) | (refine ⟨⟨⟨by omega, by omega⟩, rfl⟩, ?_⟩) | (refine ⟨⟨_, hN, rfl⟩, ?_⟩) | (refine ⟨⟨_, hY, rfl⟩, ?_⟩))
    conv => whnf
    exact hgo _ rfl
  · have hal := wks_len A
    refine branch_i (fun f1 => ?_) (fun f1 => ?_) <;> try rw [f1] <;> conv => whnf
    · have f1' := of_decide_eq_true f1
      have hcA : covL A N Y = true := (a3 Y hc).resolve_left (fun e => by rw [e] at f1'; simp [wks] at f1')
      refine ⟨⟨by omega, by omega⟩, ?_⟩
      conv => whnf
      refine ⟨_, hN, ?_⟩
      conv => whnf
      refine ⟨⟨by omega, by omega⟩, ?_⟩
      conv => whnf
      refine ⟨_, hY, ?_⟩
      conv => whnf
      refine .pure (Covers_spec (by omega) a1 ⟨rfl, ?_⟩)
      rw [hcA]
      repeat (conv => whnf
              first | (refine ⟨rfl, ?_⟩) | (refine ⟨⟨by decide, rfl⟩, ?_⟩) | (refine ⟨⟨⟨by omega, by omega⟩, rfl⟩, ?_⟩) | (refine ⟨⟨_, hN, rfl⟩, ?_⟩) | (refine ⟨⟨_, hY, rfl⟩, ?_⟩))
      conv => whnf
      refine ⟨List.range 18, by kernel_rfl, by kernel_rfl, ?_⟩
      conv => whnf
      refine branch_i (fun g1 => ?_) (fun g1 => ?_) <;> try rw [g1] <;> conv => whnf
      · refine ⟨⟨by omega, by omega⟩, ?_⟩
        conv => whnf
        refine ⟨_, hN, ?_⟩
        conv => whnf
        refine ⟨⟨by omega, by omega⟩, ?_⟩
        conv => whnf
        refine ⟨_, hY, ?_⟩
        conv => whnf
        refine .pure (Covers_spec (by omega) b1 ⟨rfl, ?_⟩)
        rw [b3 Y hc (of_decide_eq_true g1)]
        repeat (conv => whnf
                first | (refine ⟨rfl, ?_⟩) | (refine ⟨⟨by decide, rfl⟩, ?_⟩) | (refine ⟨⟨⟨by omega, by omega⟩, rfl⟩, ?_⟩) | (refine ⟨⟨_, hN, rfl⟩, ?_⟩) | (refine ⟨⟨_, hY, rfl⟩, ?_⟩))
        conv => whnf
        exact hgo _ rfl
      · repeat (conv => whnf
                first | (refine ⟨rfl, ?_⟩) | (refine ⟨⟨by decide, rfl⟩, ?_⟩) | (refine ⟨⟨⟨by omega, by omega⟩, rfl⟩, ?_⟩) | (refine ⟨⟨_, hN, rfl⟩, ?_⟩) | (refine ⟨⟨_, hY, rfl⟩, ?_⟩))
        conv => whnf
        exact hgo _ rfl
    · repeat (conv => whnf
              first | (refine ⟨rfl, ?_⟩) | (refine ⟨⟨by decide, rfl⟩, ?_⟩) | (refine ⟨⟨⟨by omega, by omega⟩, rfl⟩, ?_⟩) | (refine ⟨⟨_, hN, rfl⟩, ?_⟩) | (refine ⟨⟨_, hY, rfl⟩, ?_⟩))
      conv => whnf
      refine ⟨List.range 18, by kernel_rfl, by kernel_rfl, ?_⟩
      conv => whnf
      refine branch_i (fun g1 => ?_) (fun g1 => ?_) <;> try rw [g1] <;> conv => whnf
      · refine ⟨⟨by omega, by omega⟩, ?_⟩
        conv => whnf
        refine ⟨_, hN, ?_⟩
        conv => whnf
        refine ⟨⟨by omega, by omega⟩, ?_⟩
        conv => whnf
        refine ⟨_, hY, ?_⟩
        conv => whnf
        refine .pure (Covers_spec (by omega) b1 ⟨rfl, ?_⟩)
        rw [b3 Y hc (of_decide_eq_true g1)]
        repeat (conv => whnf
                first | (refine ⟨rfl, ?_⟩) | (refine ⟨⟨by decide, rfl⟩, ?_⟩) | (refine ⟨⟨⟨by omega, by omega⟩, rfl⟩, ?_⟩) | (refine ⟨⟨_, hN, rfl⟩, ?_⟩) | (refine ⟨⟨_, hY, rfl⟩, ?_⟩))
        conv => whnf
        exact hgo _ rfl
      · repeat (conv => whnf
                first | (refine ⟨rfl, ?_⟩) | (refine ⟨⟨by decide, rfl⟩, ?_⟩) | (refine ⟨⟨⟨by omega, by omega⟩, rfl⟩, ?_⟩) | (refine ⟨⟨_, hN, rfl⟩, ?_⟩) | (refine ⟨⟨_, hY, rfl⟩, ?_⟩))
        conv => whnf
        exact hgo _ rfl


theorem wks_of : ∀ {es : List (List V)}, (∀ x ∈ es, ∃ (t k : List UInt8) (d : Bool), x = [.str t, .bool d, .str k]) → ∃ l : List Wk, es = wks l
  | [], _ => ⟨[], rfl⟩
  | x :: es, h => by
    obtain ⟨t, k, d, rfl⟩ := h x (by simp)
    obtain ⟨l, rfl⟩ := wks_of (es := es) fun y hy => h y (by simp [hy])
    exact ⟨⟨t, d, k⟩ :: l, rfl⟩

theorem wks_in {vs : List V} (h : Shp tt 8 22 vs) : ∃ l : List Wk, argV tt 22 vs = .sl 3 (wks l) false := by
  obtain ⟨es, _, g1, rfl⟩ := h
  obtain ⟨l, rfl⟩ := wks_of fun x hx => by
    obtain ⟨_, _, ⟨t, _, rfl⟩, ⟨_, _, ⟨d, rfl⟩, ⟨_, _, ⟨k, _, rfl⟩, rfl, rfl⟩, rfl⟩, rfl⟩ := g1 x hx
    exact ⟨t, k, d, rfl⟩
  exact ⟨l, rfl⟩

end Go.Proofs.YtocjhaahifpnbaaDoorPg

/- Works of copying: which may be (the document's); points; the law ChunkRight. -/
namespace Go.Proofs.YtocjhaahifpnbaaDoorPg
open Go Go.RowKit
set_option linter.unusedSimpArgs false
set_option linter.unusedVariables false

variable {Q : V → List O → Prop}

def prevW (l : List Wk) (i : Nat) (w : Wk) : Bool := match l[i - 1]? with | some p => Op.bytesLess p.t w.t | none => true
theorem prevW_some {l : List Wk} {i : Nat} {w p : Wk} (h : l[i - 1]? = some p) : prevW l i w = Op.bytesLess p.t w.t := by unfold prevW; rw [h]
theorem stepW_prev {l : List Wk} {i : Nat} {w : Wk} (hg : l[i]? = some w) : stepW nameOk l i = (nameOk w.t && (decide (i = 0) || prevW l i w) && (decide (w.k = []) || (isKeyL w.k && !w.d))) := stepW_eq hg

set_option maxHeartbeats 16000000 in
theorem RRight_spec {l : List Wk} {f : Bool} (hl : l.length ≤ 1000) (hk : ShortKeys l) (h : Q (.bool (rightL nameOk l)) []) : ACall Tryd.prog 23 0 [.sl 3 (wks l) f] [] Q := by
  refine by_body Tryd.func23 0 rfl (Nat.le_of_ble_eq_true rfl) ?_
  conv => whnf
  have hlv := wks_len l
  refine ⟨⟨[0, 3], fun m ws H => ∃ i : Nat, ws = [.sl 3 (wks l) f, fI i] ∧ H = [] ∧ (∀ j, j < i → stepW nameOk l j = true) ∧ i ≤ l.length ∧ m = l.length - i,
    .at l.length ⟨0, rfl, rfl, fun j hj => by omega, Nat.zero_le _, rfl⟩, ?_⟩⟩
  rintro m ws H ⟨i, rfl, rfl, hst, hi, rfl⟩
  conv => whnf
  refine branch_i (fun c1 => ?_) (fun c1 => ?_) <;> try rw [c1] <;> conv => whnf
  rotate_left
  focus
    have c1' := of_decide_eq_false c1
    have : i = l.length := by omega
    subst this
    rw [right_yes hst] at h
    exact ⟨[], rfl, h⟩
  have c1' := of_decide_eq_true c1
  have hlt : i < l.length := by omega
  have hg : l[i]? = some l[i] := List.getElem?_eq_getElem hlt
  have hkl := hk l[i] (List.getElem_mem hlt)
  generalize l[i] = w at *
  have hse := stepW_prev hg
  have hno : stepW nameOk l i = false → Q (.bool false) [] := fun e => by rw [right_no hlt e] at h; exact h
  have hyes : ∀ H : List O, stepW nameOk l i = true → ANext 0 (l.length - i) (fun m ws H => ∃ i : Nat, ws = [.sl 3 (wks l) f, fI i] ∧ H = [] ∧ (∀ j, j < i → stepW nameOk l j = true) ∧ i ≤ l.length ∧ m = l.length - i)
      [V.sl 3 (wks l) f, V.int .i64 (IntKind.i64.wrap ((i : Int) + 1))] H := fun H e => by
    refine .go [] rfl (l.length - (i + 1)) (by omega) ⟨i + 1, ?_, rfl, right_step hst e, by omega, rfl⟩
    show [V.sl 3 (wks l) f, V.int .i64 (IntKind.i64.wrap ((i : Int) + 1))] = _
    rw [wrapI (by omega)]; rfl
  refine ⟨_, ⟨by omega, wks_get hg⟩, ?_⟩
  conv => whnf
  refine .pure (RName_spec ⟨rfl, ?_⟩)
  conv => whnf
  refine ⟨_, ⟨by omega, wks_get hg⟩, ?_⟩
  conv => whnf
  refine .pure (RisKey_spec (by omega) ⟨rfl, ?_⟩)
  conv => whnf
  refine ⟨List.range 39, by kernel_rfl, by kernel_rfl, ?_⟩
  conv => whnf
  cases hn : nameOk w.t <;> rw [hn] at hse <;> conv => whnf
  focus
    repeat (conv => whnf
            refine ⟨rfl, ?_⟩)
    conv => whnf
    exact ⟨[], rfl, hno (by rw [hse]; rfl)⟩
  refine branch_i (fun c2 => ?_) (fun c2 => ?_) <;> try rw [c2] <;> conv => whnf
  · have c2' := of_decide_eq_true c2
    have hgp : l[i - 1]? = some l[i - 1] := List.getElem?_eq_getElem (by omega)
    have hpv := prevW_some (w := w) hgp
    generalize l[i - 1] = p at *
    have hi1 : IntKind.i64.wrap ((i : Int) - 1) = ((i - 1 : Nat) : Int) := by rw [wrapI (by omega)]; omega
    have hi0 : decide (i = 0) = false := decide_eq_false (by omega)
    rw [hi1]
    refine ⟨_, ⟨by omega, wks_get hgp⟩, ?_⟩
    conv => whnf
    refine ⟨_, ⟨by omega, wks_get hg⟩, ?_⟩
    conv => whnf
    cases hb : Op.bytesLess p.t w.t <;> conv => whnf
    focus
      repeat (conv => whnf
              first | (refine ⟨rfl, ?_⟩) | (refine ⟨⟨_, ⟨by omega, wks_get hg⟩, rfl⟩, ?_⟩) | (refine ⟨⟨_, ⟨by omega, wks_get hgp⟩, rfl⟩, ?_⟩))
      conv => whnf
      exact ⟨[], rfl, hno (by rw [hse, hpv, hb, hi0]; rfl)⟩
    have hord : (decide (i = 0) || prevW l i w) = true := by rw [hpv, hb, Bool.or_true]
    refine ⟨_, ⟨by omega, wks_get hg⟩, ?_⟩
    conv => whnf
    refine branch_i (fun c4 => ?_) (fun c4 => ?_) <;> try rw [c4] <;> conv => whnf
    rotate_left
    focus
      repeat (conv => whnf
              first | (refine ⟨rfl, ?_⟩) | (refine ⟨⟨_, ⟨by omega, wks_get hg⟩, rfl⟩, ?_⟩) | (refine ⟨⟨_, ⟨by omega, wks_get hgp⟩, rfl⟩, ?_⟩))
      conv => whnf
      exact hyes _ (by rw [hse, hord]; simp at c4; simp [c4])
    have hne : decide (w.k = []) = false := by simpa using c4
    cases hik : isKeyL w.k <;> conv => whnf
    focus
      repeat (conv => whnf
              first | (refine ⟨rfl, ?_⟩) | (refine ⟨⟨_, ⟨by omega, wks_get hg⟩, rfl⟩, ?_⟩) | (refine ⟨⟨_, ⟨by omega, wks_get hgp⟩, rfl⟩, ?_⟩))
      conv => whnf
      exact ⟨[], rfl, hno (by rw [hse, hord, hne, hik]; rfl)⟩
    refine ⟨_, ⟨by omega, wks_get hg⟩, ?_⟩
    conv => whnf
    cases hd : w.d <;> conv => whnf
    · repeat (conv => whnf
              first | (refine ⟨rfl, ?_⟩) | (refine ⟨⟨_, ⟨by omega, wks_get hg⟩, rfl⟩, ?_⟩) | (refine ⟨⟨_, ⟨by omega, wks_get hgp⟩, rfl⟩, ?_⟩))
      conv => whnf
      exact hyes _ (by rw [hse, hord, hne, hd, hik]; rfl)
    · repeat (conv => whnf
              first | (refine ⟨rfl, ?_⟩) | (refine ⟨⟨_, ⟨by omega, wks_get hg⟩, rfl⟩, ?_⟩) | (refine ⟨⟨_, ⟨by omega, wks_get hgp⟩, rfl⟩, ?_⟩))
      conv => whnf
      exact ⟨[], rfl, hno (by rw [hse, hord, hne, hd, hik]; rfl)⟩

  · have c2' := of_decide_eq_false c2
    have hord : (decide (i = 0) || prevW l i w) = true := by rw [decide_eq_true (show i = 0 by omega)]; rfl
    refine ⟨_, ⟨by omega, wks_get hg⟩, ?_⟩
    conv => whnf
    refine branch_i (fun c4 => ?_) (fun c4 => ?_) <;> try rw [c4] <;> conv => whnf
    rotate_left
    focus
      repeat (conv => whnf
              first | (refine ⟨rfl, ?_⟩) | (refine ⟨⟨_, ⟨by omega, wks_get hg⟩, rfl⟩, ?_⟩) | (refine ⟨⟨_, ⟨by omega, wks_get hgp⟩, rfl⟩, ?_⟩))
      conv => whnf
      exact hyes _ (by rw [hse, hord]; simp at c4; simp [c4])
    have hne : decide (w.k = []) = false := by simpa using c4
    cases hik : isKeyL w.k <;> conv => whnf
    focus
      repeat (conv => whnf
              first | (refine ⟨rfl, ?_⟩) | (refine ⟨⟨_, ⟨by omega, wks_get hg⟩, rfl⟩, ?_⟩) | (refine ⟨⟨_, ⟨by omega, wks_get hgp⟩, rfl⟩, ?_⟩))
      conv => whnf
      exact ⟨[], rfl, hno (by rw [hse, hord, hne, hik]; rfl)⟩
    refine ⟨_, ⟨by omega, wks_get hg⟩, ?_⟩
    conv => whnf
    cases hd : w.d <;> conv => whnf
    · repeat (conv => whnf
              first | (refine ⟨rfl, ?_⟩) | (refine ⟨⟨_, ⟨by omega, wks_get hg⟩, rfl⟩, ?_⟩) | (refine ⟨⟨_, ⟨by omega, wks_get hgp⟩, rfl⟩, ?_⟩))
      conv => whnf
      exact hyes _ (by rw [hse, hord, hne, hd, hik]; rfl)
    · repeat (conv => whnf
              first | (refine ⟨rfl, ?_⟩) | (refine ⟨⟨_, ⟨by omega, wks_get hg⟩, rfl⟩, ?_⟩) | (refine ⟨⟨_, ⟨by omega, wks_get hgp⟩, rfl⟩, ?_⟩))
      conv => whnf
      exact ⟨[], rfl, hno (by rw [hse, hord, hne, hd, hik]; rfl)⟩


end Go.Proofs.YtocjhaahifpnbaaDoorPg

/- Points: the law ChunkRight. -/
namespace Go.Proofs.YtocjhaahifpnbaaDoorPg
open Go Go.RowKit
set_option linter.unusedSimpArgs false
set_option linter.unusedVariables false

variable {Q : V → List O → Prop}

def pt (a b c : Int) (l : List Wk) : V := .agg [.int .i64 a, .int .i64 b, .int .i64 c, .sl 3 (wks l) false]

theorem natI_neg {x : Int} (h : x < 0) : natI x = IntKind.i64.wrap (0 - IntKind.i64.wrap (x + 1)) := by unfold natI; rw [if_pos h]
theorem natI_pos {x : Int} (h : ¬ x < 0) : natI x = x := by unfold natI; rw [if_neg h]

theorem natI_ge {x : Int} (h : I64V x) : 0 ≤ natI x := by
  obtain ⟨h1, h2⟩ := h
  unfold natI
  split
  · rw [wrapI (n := x + 1) (by omega), wrapI (by omega)]; omega
  · omega

set_option maxHeartbeats 16000000 in
theorem RPoint_spec {a b c : Int} {l : List Wk} (ht : ∀ w ∈ l, w.t.length ≤ 40) (h : Q (pt (natI a) (natI b) (natI c) (goodW nameOk l)) []) : ACall Tryd.prog 19 0 [pt a b c l] [] Q := by
  refine by_body Tryd.func19 0 rfl (Nat.le_of_ble_eq_true rfl) ?_
  conv => whnf
  refine ⟨List.range 12, by kernel_rfl, by kernel_rfl, ?_⟩
  conv => whnf
  refine .pure (RGoodW_spec ht ⟨rfl, ?_⟩)
  repeat (conv => whnf
          refine ⟨rfl, ?_⟩)
  conv => whnf
  refine branch_i (fun c1 => ?_) (fun c1 => ?_) <;> try rw [c1] <;> conv => whnf
  focus rw [natI_neg (x := a) (of_decide_eq_true c1)] at h
  rotate_left
  focus rw [natI_pos (x := a) (of_decide_eq_false c1)] at h
  all_goals
    refine branch_i (fun c2 => ?_) (fun c2 => ?_) <;> try rw [c2] <;> conv => whnf
    focus rw [natI_neg (x := b) (of_decide_eq_true c2)] at h
    rotate_left
    focus rw [natI_pos (x := b) (of_decide_eq_false c2)] at h
  all_goals
    refine branch_i (fun c3 => ?_) (fun c3 => ?_) <;> try rw [c3] <;> conv => whnf
    focus
      rw [natI_neg (x := c) (of_decide_eq_true c3)] at h
      exact ⟨[], rfl, h⟩
    focus
      rw [natI_pos (x := c) (of_decide_eq_false c3)] at h
      exact ⟨[], rfl, h⟩

def mayP (a b c : Int) (l : List Wk) : Bool := decide (0 ≤ a) && (decide (0 ≤ b) && (decide (0 ≤ c) && rightL nameOk l))

set_option maxHeartbeats 8000000 in
theorem RMayP_spec {a b c : Int} {l : List Wk} (hl : l.length ≤ 1000) (hk : ShortKeys l) (h : Q (.bool (mayP a b c l)) []) : ACall Tryd.prog 25 0 [pt a b c l] [] Q := by
  refine by_body Tryd.func25 0 rfl (Nat.le_of_ble_eq_true rfl) ?_
  conv => whnf
  unfold mayP at h
  refine .pure (RRight_spec hl hk ⟨rfl, ?_⟩)
  conv => whnf
  cases hr : rightL nameOk l <;> rw [hr] at h <;> conv => whnf
  focus exact ⟨[], rfl, qb h (by simp)⟩
  refine branch_i (fun c1 => ?_) (fun c1 => ?_) <;> rw [c1] at h <;> try rw [c1] <;> conv => whnf
  rotate_left
  focus exact ⟨[], rfl, qb h (by simp)⟩
  refine branch_i (fun c2 => ?_) (fun c2 => ?_) <;> rw [c2] at h <;> try rw [c2] <;> conv => whnf
  · exact ⟨[], rfl, qb h (by simp)⟩
  · exact ⟨[], rfl, qb h (by simp)⟩

set_option maxHeartbeats 8000000 in
theorem MayP_spec {a b c : Int} {l : List Wk} (hl : l.length ≤ 1000) (hk : ShortKeys l) (h : Q (.bool (mayP a b c l)) []) : ACall Tryd.prog 24 0 [pt a b c l] [] Q := by
  refine by_body Tryd.func24 0 rfl (Nat.le_of_ble_eq_true rfl) ?_
  conv => whnf
  unfold mayP at h
  by_cases hall : 0 ≤ a ∧ 0 ≤ b ∧ 0 ≤ c
  · rw [show decide (0 ≤ if c < if b < a then b else a then c else if b < a then b else a) = true from decide_eq_true (by split <;> split <;> omega)]
    rw [decide_eq_true hall.1, decide_eq_true hall.2.1, decide_eq_true hall.2.2] at h
    conv => whnf
    refine .pure (Right_spec hl hk ⟨rfl, ?_⟩)
    conv => whnf
    exact ⟨[], rfl, h⟩
  · rw [show decide (0 ≤ if c < if b < a then b else a then c else if b < a then b else a) = false from decide_eq_false (by split <;> split <;> omega)]
    conv => whnf
    refine ⟨[], rfl, qb h ?_⟩
    have : ¬ (0 ≤ a ∧ 0 ≤ b ∧ 0 ≤ c ∧ rightL nameOk l = true) := fun x => hall ⟨x.1, x.2.1, x.2.2.1⟩
    simpa using this

theorem few_short (l : List Wk) : ShortKeys (fewL l) := fun w hw => by have := (few_t w hw).2; omega

theorem wk_eq (v w : Wk) : (decide (v.t = w.t) && (decide (v.d = w.d) && (decide (v.k = w.k) && true))) = decide (v = w) := by
  cases v; cases w; simp [Wk.mk.injEq]

set_option maxHeartbeats 16000000 in
theorem ChunkRight_spec {a b c : Int} {l : List Wk} (ha : I64V a) (hb : I64V b) (hc : I64V c) : ACall Tryd.prog 4 0 [pt a b c l] [] (fun v _ => v = .bool true) := by
  refine by_body Tryd.func4 0 rfl (Nat.le_of_ble_eq_true rfl) ?_
  conv => whnf
  refine .pure (few_spec ⟨rfl, ?_⟩)
  conv => whnf
  have ht : ∀ w ∈ fewL l, w.t.length ≤ 40 := fun w hw => (few_t w hw).1
  obtain ⟨hok, hg4⟩ := goodW_ok (nm := nameOk) ht
  have hsh := few_short l
  have hfl : (fewL l).length ≤ 6 := fewN_len l 6
  refine .pure (RPoint_spec (a := a) (b := b) (c := c) ht ⟨rfl, ?_⟩)
  have hgs : ShortKeys (goodW nameOk (fewL l)) := fun w hw => by have := (hok.each w hw).short; omega
  have hmay : mayP (natI a) (natI b) (natI c) (goodW nameOk (fewL l)) = true := by
    unfold mayP
    rw [decide_eq_true (natI_ge ha), decide_eq_true (natI_ge hb), decide_eq_true (natI_ge hc), ok_right hok]; rfl
  generalize goodW nameOk (fewL l) = g at *
  generalize fewL l = q at *
  have bb : ∀ b : Bool, (b == b) = true := fun b => by cases b <;> rfl
  have dt : ∀ x : List UInt8, decide (x = x) = true := fun x => decide_eq_true rfl
  have db : ∀ x : Bool, decide (x = x) = true := fun x => decide_eq_true rfl
  obtain ⟨w, o, hnx⟩ : ∃ (w : Wk) (o : Bool), nextR g = .tup [.agg [.str w.t, .bool w.d, .str w.k], .bool o] := by
    unfold nextR
    cases nextL g with
    | none => exact ⟨wk0, false, rfl⟩
    | some w => exact ⟨w, true, rfl⟩
  conv => whnf
  refine .pure (Next_spec (by omega) ⟨rfl, ?_⟩)
  rw [hnx]
  conv => whnf
  refine .pure (RNext_spec (by omega) ⟨rfl, ?_⟩)
  rw [hnx]
  conv => whnf
  refine ⟨[0, 1, 3, 4, 2, 5, 6, 7, 8, 10, 9, 11, 12, 13, 14, 15, 16, 17, 18, 19, 20, 21, 22, 23, 24, 25, 26, 27, 28, 29, 30, 31], by kernel_rfl, by kernel_rfl, ?_⟩
  conv => whnf
  refine .pure (Right_spec (by omega) hsh ⟨rfl, ?_⟩)
  repeat (conv => whnf
          refine ⟨rfl, ?_⟩)
  conv => whnf
  refine .pure (RRight_spec (by omega) hsh ⟨rfl, ?_⟩)
  repeat (conv => whnf
          refine ⟨rfl, ?_⟩)
  conv => whnf
  rw [bb]
  conv => whnf
  refine .pure (MayP_spec (a := a) (b := b) (c := c) (by omega) hsh ⟨rfl, ?_⟩)
  repeat (conv => whnf
          refine ⟨rfl, ?_⟩)
  conv => whnf
  refine .pure (RMayP_spec (a := a) (b := b) (c := c) (by omega) hsh ⟨rfl, ?_⟩)
  repeat (conv => whnf
          refine ⟨rfl, ?_⟩)
  conv => whnf
  rw [bb]
  conv => whnf
  refine .pure (MayP_spec (a := natI a) (b := natI b) (c := natI c) (by omega) hgs ⟨rfl, ?_⟩)
  rw [hmay]
  repeat (conv => whnf
          refine ⟨rfl, ?_⟩)
  conv => whnf
  rw [dt, dt, bb]
  repeat (conv => whnf
          refine ⟨rfl, ?_⟩)
  conv => whnf
  rw [bb]
  repeat (conv => whnf
          refine ⟨rfl, ?_⟩)
  conv => whnf
  refine .pure (lives11_spec ⟨rfl, ?_⟩)
  repeat (conv => whnf
          refine ⟨rfl, ?_⟩)
  conv => whnf
  exact ⟨[], rfl, rfl⟩

theorem pt_in {vs : List V} (h : Shp tt 8 35 vs) : ∃ (a b c : Int) (l : List Wk), argV tt 35 vs = pt a b c l ∧ I64V a ∧ I64V b ∧ I64V c := by
  obtain ⟨_, _, ⟨a, ha, rfl⟩, ⟨_, _, ⟨b, hb, rfl⟩, ⟨_, _, ⟨c, hc, rfl⟩, ⟨_, _, ⟨es, _, g1, rfl⟩, rfl, rfl⟩, rfl⟩, rfl⟩, rfl⟩ := h
  obtain ⟨l, rfl⟩ := wks_of fun x hx => by
    obtain ⟨_, _, ⟨t, _, rfl⟩, ⟨_, _, ⟨d, rfl⟩, ⟨_, _, ⟨k, _, rfl⟩, rfl, rfl⟩, rfl⟩, rfl⟩ := g1 x hx
    exact ⟨t, k, d, rfl⟩
  exact ⟨a, b, c, l, rfl, i64_wf ha, i64_wf hb, i64_wf hc⟩

end Go.Proofs.YtocjhaahifpnbaaDoorPg

/- Works of copying: one goes on. -/
namespace Go.Proofs.YtocjhaahifpnbaaDoorPg
open Go Go.RowKit
set_option linter.unusedSimpArgs false
set_option linter.unusedVariables false

variable {Q : V → List O → Prop}

theorem WClone_spec {l : List Wk} (hl : l.length < 1000000) (h : Q (.ms 3 0 0 l.length false) [.buf (wks l)]) :
    ACall Tryd.prog 44 0 [.sl 3 (wks l) false] [] Q := by
  have hlk := wks_len l
  cases l with
  | nil =>
    refine ACall.sub (ACall.sel (ACall.adopt (by_body Tryd.func44 0 rfl (Nat.le_of_ble_eq_true rfl) ?_)))
    conv => whnf
    refine ⟨?_, ?_⟩
    · conv => whnf
      exact ⟨[], rfl, [0], rfl, _, _, VSub.ms0 3 0 0 false, HSub.refl _, h⟩
    · conv => whnf
      refine ⟨by decide, fun _ => ?_, fun e => absurd rfl e⟩
      conv => whnf
      exact ⟨[0], rfl, [0], rfl, _, _, VSub.msRoom 3 0 0, HSub.refl _, h⟩
  | cons c r =>
    refine by_body Tryd.func44 0 rfl (Nat.le_of_ble_eq_true rfl) ?_
    conv => whnf
    refine ⟨by decide, fun e => by simp [wks] at e, fun _ => ?_⟩
    conv => whnf
    refine ⟨(show (wks (c :: r)).length * 40 ≤ 70368744177664 by rw [hlk]; omega), ?_⟩
    conv => whnf
    exact ⟨[1], rfl, by rw [← hlk] at h; exact h⟩

set_option maxHeartbeats 16000000 in
theorem Go_spec {l : List Wk} {t last : List UInt8} {done : Bool} (hl : l.length ≤ 1000) (ho : SortedW l) (hs : last.length ≤ 1000) (h : Q (.tup [.sl 3 (wks (goW l t last done)) false, fI (goE l t last done)]) []) :
    ACall Tryd.prog 26 0 [.sl 3 (wks l) false, .str t, .str last, .bool done] [] Q := by
  refine ACall.ret (by_body Tryd.func26 0 rfl (Nat.le_of_ble_eq_true rfl) ?_)
  conv => whnf
  have hlk := wks_len l
  refine .pure (at_spec (by omega) ho ⟨rfl, ?_⟩)
  unfold goW goE goL at h
  cases ha : atL l t with
  | none =>
    rw [ha] at h
    conv => whnf
    exact ⟨[], rfl, .sub _ _ (nil_tup _) (HSub.refl _) (.done [] rfl h)⟩
  | some i =>
    obtain ⟨w, hw, ht, _⟩ := at_get ha
    have hlt := (List.getElem?_eq_some_iff.1 hw).1
    rw [at_sorted ho ha]
    rw [ha] at h
    simp only [Option.bind_some, hw] at h
    conv => whnf
    refine ⟨_, ⟨by omega, wks_get hw⟩, ?_⟩
    conv => whnf
    have ok : Q (.tup [.sl 3 (wks (l.set i ⟨t, done, if done = true then [] else last⟩)) false, fI 0]) [] ∨ (w.d || (!done && (!isKeyL last || !Op.bytesLess w.k last))) = true := by
      cases hc : (w.d || (!done && (!isKeyL last || !Op.bytesLess w.k last))) with
      | true => exact .inr rfl
      | false => rw [hc] at h; exact .inl (by simpa using h)
    have hno : (w.d || (!done && (!isKeyL last || !Op.bytesLess w.k last))) = true → Q (.tup [.sl 3 [] false, fI 14]) [] := fun hc => by
      rw [hc] at h; simpa [wks] using h
    clear h
    have hset : ∀ (d : Bool) (k : List UInt8), (wks l).set i [.str t, .bool d, .str k] = wks (l.set i ⟨t, d, k⟩) := fun d k => by
      rw [show [V.str t, V.bool d, V.str k] = wkC ⟨t, d, k⟩ from rfl, wks_set]
    cases hd : w.d <;> rw [hd] at ok hno <;> conv => whnf
    rotate_left
    focus exact ⟨[], rfl, .sub _ _ (nil_tup _) (HSub.refl _) (.done [] rfl (hno (by simp)))⟩
    cases done <;> conv => whnf
    focus
      refine .pure (keyk_spec (by omega) ⟨rfl, ?_⟩)
      cases hk : isKeyL last <;> rw [hk] at ok hno <;> conv => whnf
      focus exact ⟨[], rfl, .sub _ _ (nil_tup _) (HSub.refl _) (.done [] rfl (hno (by simp)))⟩
      refine ⟨_, ⟨by omega, wks_get hw⟩, ?_⟩
      conv => whnf
      rw [le_eq]
      cases hb : Op.bytesLess w.k last <;> rw [hb] at ok hno <;> conv => whnf
      focus exact ⟨[], rfl, .sub _ _ (nil_tup _) (HSub.refl _) (.done [] rfl (hno (by simp)))⟩
    all_goals
      have ok := ok.resolve_right (by simp)
      refine .call [] 0 ⟨rfl, rfl, rfl⟩ (WClone_spec (by omega) ?_)
      conv => whnf
      refine ⟨by omega, ?_⟩
      conv => whnf
      refine ⟨_, wks_get hw, ?_⟩
      conv => whnf
      first
        | (refine ⟨[0], rfl, .frz 0 rfl (by repeat (first | exact trivial | refine And.intro (by simp only [List.length_set, hlk]; exact Nat.le_of_eq (Nat.zero_add _)) ?_)) (.done [] rfl ?_)⟩
           show Q (.tup [.sl 3 (List.take l.length ((wks l).set i [.str t, .bool false, .str last])) false, fI 0]) []
           rw [List.take_of_length_le (by simp only [List.length_set, hlk]; exact Nat.le_refl _), hset]
           exact ok)
        | (refine ⟨by omega, ?_⟩
           conv => whnf
           refine ⟨_, List.getElem?_set_self (by omega), ?_⟩
           conv => whnf
           refine ⟨[0], rfl, .frz 0 rfl (by repeat (first | exact trivial | refine And.intro (by simp only [List.length_set, hlk]; exact Nat.le_of_eq (Nat.zero_add _)) ?_)) (.done [] rfl ?_)⟩
           show Q (.tup [.sl 3 (List.take l.length (((wks l).set i [.str t, .bool true, .str last]).set i [.str t, .bool true, .str []])) false, fI 0]) []
           rw [List.take_of_length_le (by simp only [List.length_set, hlk]; exact Nat.le_refl _), List.set_set, hset]
           exact ok)

end Go.Proofs.YtocjhaahifpnbaaDoorPg

/- The law ChunkNext. -/
namespace Go.Proofs.YtocjhaahifpnbaaDoorPg
open Go Go.RowKit
set_option linter.unusedSimpArgs false
set_option linter.unusedVariables false

variable {Q : V → List O → Prop}

set_option maxHeartbeats 16000000 in
theorem ChunkNext_spec {l : List Wk} {f : Bool} : ACall Tryd.prog 5 0 [.sl 3 (wks l) f] [] (fun v _ => v = .bool true) := by
  refine by_body Tryd.func5 0 rfl (Nat.le_of_ble_eq_true rfl) ?_
  conv => whnf
  refine .pure (few_spec ⟨rfl, ?_⟩)
  conv => whnf
  obtain ⟨hok, hg4⟩ := goodW_ok (nm := nameOk) (l := fewL l) fun w hw => (few_t w hw).1
  refine .pure (RGoodW_spec (fun w hw => (few_t w hw).1) ⟨rfl, ?_⟩)
  generalize goodW nameOk (fewL l) = g at *
  conv => whnf
  have hlv := wks_len g
  refine ⟨⟨[3, 4, 5], fun m ws H => ∃ i : Nat, ws = [.sl 3 (wks g) false, fI ((cntU (g.take i) : Nat) : Int), fI i] ∧ H = [] ∧ i ≤ g.length ∧ m = g.length - i,
    .at g.length ⟨0, rfl, rfl, Nat.zero_le _, rfl⟩, ?_⟩⟩
  rintro m ws H ⟨i, rfl, rfl, hi, rfl⟩
  conv => whnf
  refine branch_i (fun c1 => ?_) (fun c1 => ?_) <;> try rw [c1] <;> conv => whnf
  focus
    have c1' := of_decide_eq_true c1
    have hlt : i < g.length := by omega
    have hg : g[i]? = some g[i] := List.getElem?_eq_getElem hlt
    generalize g[i] = w at *
    have hsn := cntU_snoc hg
    have hle : cntU (g.take i) ≤ i := Nat.le_trans (List.length_filter_le _ _) (by rw [List.length_take]; omega)
    refine ⟨_, ⟨by omega, wks_get hg⟩, ?_⟩
    conv => whnf
    cases hd : w.d <;> rw [hd] at hsn <;> conv => whnf
    · refine .go [] rfl (g.length - (i + 1)) (by omega) ⟨i + 1, ?_, rfl, by omega, rfl⟩
      show [V.sl 3 (wks g) false, V.int .i64 (IntKind.i64.wrap (((cntU (g.take i) : Nat) : Int) + 1)), V.int .i64 (IntKind.i64.wrap ((i : Int) + 1))] = _
      rw [wrapI (n := (i : Int) + 1) (by omega), wrapI (by omega), hsn]; rfl
    · refine .go [] rfl (g.length - (i + 1)) (by omega) ⟨i + 1, ?_, rfl, by omega, rfl⟩
      show [V.sl 3 (wks g) false, fI ((cntU (g.take i) : Nat) : Int), V.int .i64 (IntKind.i64.wrap ((i : Int) + 1))] = _
      rw [wrapI (n := (i : Int) + 1) (by omega), hsn]; rfl
  have c1' := of_decide_eq_false c1
  have hie : g.take i = g := List.take_of_length_le (by omega)
  rw [hie]
  have hnl : cntU g ≤ 4 := Nat.le_trans (List.length_filter_le _ _) hg4
  generalize hn : cntU g = n at *
  refine ⟨⟨[3, 4, 6], fun m ws H => ∃ (q : List Wk) (j : Nat), ws = [.sl 3 (wks q) false, fI n, fI j] ∧ H = [] ∧ WksOk nameOk q ∧ q.length ≤ 4 ∧ j ≤ n ∧ cntU q = n - j ∧ m = n - j,
    .at n ⟨g, 0, rfl, rfl, hok, hg4, by omega, by omega, rfl⟩, ?_⟩⟩
  clear hok hg4 hlv hie hn c1 c1' hi
  rintro m ws H ⟨q, j, rfl, rfl, hok, hq4, hj, hc, rfl⟩
  conv => whnf
  refine branch_i (fun d1 => ?_) (fun d1 => ?_) <;> try rw [d1] <;> conv => whnf
  rotate_left
  focus
    have d1' := of_decide_eq_false d1
    refine .pure (Next_spec (by omega) ⟨rfl, ?_⟩)
    unfold nextR
    rw [next_zero (by omega)]
    conv => whnf
    refine .pure (lives11_spec ⟨rfl, ?_⟩)
    conv => whnf
    exact ⟨[], rfl, rfl⟩
  have d1' := of_decide_eq_true d1
  obtain ⟨w, w1, w2, w3⟩ := next_some (l := q) (by omega)
  obtain ⟨e1, e2, e3, e4, e5⟩ := goes_done hok w3 w2
  have hgw : goW q w.t [] true = goL q w.t [] true := by unfold goW; rw [if_pos e1]
  refine .pure (Next_spec (by omega) ⟨rfl, ?_⟩)
  unfold nextR
  rw [w1]
  conv => whnf
  rw [w2]
  conv => whnf
  refine .pure (Go_spec (by omega) hok.sorted (by simp) ⟨rfl, ?_⟩)
  rw [e1, hgw]
  generalize goL q w.t [] true = r at *
  conv => whnf
  refine ⟨List.range 10, by kernel_rfl, by kernel_rfl, ?_⟩
  conv => whnf
  refine .pure (ikey_spec ⟨rfl, ?_⟩)
  repeat (conv => whnf
          refine ⟨rfl, ?_⟩)
  conv => whnf
  refine .pure (Covers_spec (by omega) e2.sorted ⟨rfl, ?_⟩)
  rw [e3]
  repeat (conv => whnf
          refine ⟨rfl, ?_⟩)
  conv => whnf
  refine .go [] rfl (n - (j + 1)) (by omega) ⟨r, j + 1, ?_, rfl, e2, by omega, by omega, by omega, rfl⟩
  show [V.sl 3 (wks r) false, fI n, V.int .i64 (IntKind.i64.wrap ((j : Int) + 1))] = _
  rw [wrapI (by omega)]; rfl

end Go.Proofs.YtocjhaahifpnbaaDoorPg

/- The law ChunkGoes. -/
namespace Go.Proofs.YtocjhaahifpnbaaDoorPg
open Go Go.RowKit
set_option linter.unusedSimpArgs false
set_option linter.unusedVariables false

variable {Q : V → List O → Prop}

theorem Insert0_spec {w : Wk} (h : Q (.ms 3 0 0 1 false) [.buf [wkC w]]) : ACall Tryd.prog 59 0 [.ms 3 0 0 0 false, fI 0, .sl 3 [wkC w] true] [.buf []] Q := by
  refine by_body Tryd.func59 0 rfl (Nat.le_of_ble_eq_true rfl) ?_
  conv => whnf
  refine ⟨⟨by decide, by decide⟩, ?_⟩
  conv => whnf
  refine ⟨rfl, ?_⟩
  conv => whnf
  refine ⟨(show 1 * 40 ≤ 70368744177664 by decide), ?_⟩
  conv => whnf
  exact ⟨[1], rfl, h⟩

set_option maxHeartbeats 4000000 in
theorem Add0_spec (h : Q (.tup [.sl 3 (wks [⟨[116], false, []⟩]) false, fI 0]) []) : ACall Tryd.prog 33 0 [.sl 3 [] false, .str [116]] [] Q := by
  refine ACall.ret (by_body Tryd.func33 0 rfl (Nat.le_of_ble_eq_true rfl) ?_)
  conv => whnf
  refine .pure (at_spec (l := []) (f := false) (by decide) List.Pairwise.nil ⟨rfl, ?_⟩)
  conv => whnf
  refine .pure (Name_spec ⟨rfl, ?_⟩)
  rw [show nameOk [116] = true by kernel_rfl]
  conv => whnf
  refine .call [] 0 ⟨rfl, rfl, rfl⟩ (WClone_spec (l := []) (by decide) ?_)
  conv => whnf
  refine .frz 1 rfl rfl (by repeat (first | exact trivial | refine And.intro (Nat.le_refl _) ?_)) (.call [0] 0 ⟨rfl, rfl, rfl⟩ (Insert0_spec (w := ⟨[116], false, []⟩) ?_))
  conv => whnf
  refine ⟨[0], rfl, .frz 0 rfl (by repeat (first | exact trivial | refine And.intro (Nat.le_refl _) ?_)) (.done [] rfl ?_)⟩
  exact h

def oneW (last : List UInt8) : List Wk := [⟨[116], false, last⟩]

theorem one_at (last : List UInt8) : atL (oneW last) [116] = some 0 := by simp [atL, oneW]
theorem one_cov (last key : List UInt8) : covL (oneW last) [116] key = (!decide (last = []) && !Op.bytesLess last key) := by
  unfold covL; rw [one_at]; simp [oneW, covW]
theorem one_go (last K : List UInt8) (hk : isKeyL K = true) : goE (oneW last) [116] K false = (if Op.bytesLess last K then 0 else 14) := by
  unfold goE; rw [one_at]
  cases hb : Op.bytesLess last K <;> simp [oneW, hk, hb]
theorem one_goL (last K : List UInt8) : goL (oneW last) [116] K false = oneW K := by
  unfold goL; rw [one_at]; rfl
theorem one_sorted (last : List UInt8) : SortedW (oneW last) := by unfold oneW SortedW; simp

def ints (l : List Int) : List (List V) := l.map fun n => [.int .i64 n]
theorem ints_len (l : List Int) : (ints l).length = l.length := by simp [ints]
theorem ints_get {l : List Int} {i : Nat} {n : Int} (h : l[i]? = some n) : (ints l)[i]? = some [.int .i64 n] := by simp [ints, h]

set_option maxHeartbeats 16000000 in
theorem ChunkGoes_spec {l : List Int} {asked : Int} {f : Bool} (hl : ∀ n ∈ l, I64V n) : ACall Tryd.prog 8 0 [.sl 1 (ints l) f, .int .i64 asked] [] (fun v _ => v = .bool true) := by
  refine by_body Tryd.func8 0 rfl (Nat.le_of_ble_eq_true rfl) ?_
  conv => whnf
  refine .sub [.sl 3 [] false, .str [116]] [] rfl (.cons (nils_sl 3 false) (VSubs.refl _)) (HSub.refl _) (.pure (Add0_spec ⟨rfl, ?_⟩))
  conv => whnf
  have hlv := ints_len l
  have bb : ∀ b : Bool, (b == b) = true := fun b => by cases b <;> rfl
  refine ⟨⟨[0, 1, 5, 7, 8], fun m ws H => ∃ (i : Nat) (last : List UInt8), ws = [.sl 1 (ints l) f, .int .i64 asked, .sl 3 (wks (oneW last)) false, .str last, fI i] ∧ H = [] ∧ i ≤ 10 ∧ last.length ≤ 9 ∧ m = 10 - i,
    .at 10 ⟨0, [], rfl, rfl, by omega, by simp, rfl⟩, ?_⟩⟩
  rintro m ws H ⟨i, last, rfl, rfl, hi, hll, rfl⟩
  conv => whnf
  refine branch_i (fun c1 => ?_) (fun c1 => ?_) <;> try rw [c1] <;> conv => whnf
  rotate_left
  focus
    refine .pure (lives11_spec ⟨rfl, ?_⟩)
    conv => whnf
    exact ⟨[], rfl, rfl⟩
  have c1' := of_decide_eq_true c1
  refine branch_i (fun c2 => ?_) (fun c2 => ?_) <;> try rw [c2] <;> conv => whnf
  rotate_left
  focus
    refine .pure (lives11_spec ⟨rfl, ?_⟩)
    conv => whnf
    exact ⟨[], rfl, rfl⟩
  have c2' := of_decide_eq_true c2
  have hlt : i < l.length := by omega
  have hg : l[i]? = some l[i] := List.getElem?_eq_getElem hlt
  have hn := hl l[i] (List.getElem_mem hlt)
  generalize l[i] = n at *
  refine ⟨_, ⟨by omega, ints_get hg⟩, ?_⟩
  conv => whnf
  refine .pure (ikey_spec ⟨rfl, ?_⟩)
  have hk9 := ikey_len n
  have hik := ikey_ok hn
  conv => whnf
  refine .pure (Go_spec (l := oneW last) (by simp [oneW]) (one_sorted last) (by omega) ⟨rfl, ?_⟩)
  unfold goW
  rw [one_go last _ hik, one_goL]
  cases hb : Op.bytesLess last (keyS [⟨2, n, []⟩])
  · rw [if_neg (by decide)]
    conv => whnf
    refine ⟨_, ⟨by omega, ints_get hg⟩, ?_⟩
    conv => whnf
    refine .pure (ikey_spec ⟨rfl, ?_⟩)
    conv => whnf
    rw [gt_eq, hb]
    conv => whnf
    refine .pure (ikey_spec ⟨rfl, ?_⟩)
    conv => whnf
    refine .pure (Covers_spec (l := oneW last) (by simp [oneW]) (one_sorted last) ⟨rfl, ?_⟩)
    rw [one_cov]
    conv => whnf
    cases hz : decide (last = []) <;> conv => whnf
    · refine .pure (ikey_spec ⟨rfl, ?_⟩)
      generalize keyS [⟨2, asked, []⟩] = A at *
      conv => whnf
      rw [le_eq]
      rw [show ((!false && !Op.bytesLess last A) == !Op.bytesLess last A) = true by cases Op.bytesLess last A <;> rfl]
      conv => whnf
      refine .go [] rfl (10 - (i + 1)) (by omega) ⟨i + 1, last, ?_, rfl, by omega, by omega, rfl⟩
      show [V.sl 1 (ints l) f, V.int .i64 asked, V.sl 3 (wks (oneW last)) false, V.str last, V.int .i64 (IntKind.i64.wrap ((i : Int) + 1))] = _
      rw [wrapI (by omega)]; rfl
    · refine .go [] rfl (10 - (i + 1)) (by omega) ⟨i + 1, last, ?_, rfl, by omega, by omega, rfl⟩
      show [V.sl 1 (ints l) f, V.int .i64 asked, V.sl 3 (wks (oneW last)) false, V.str last, V.int .i64 (IntKind.i64.wrap ((i : Int) + 1))] = _
      rw [wrapI (by omega)]; rfl
  · rw [if_pos (by decide)]
    generalize hKe : keyS [⟨2, n, []⟩] = K at *
    conv => whnf
    refine ⟨_, ⟨by omega, ints_get hg⟩, ?_⟩
    conv => whnf
    refine .pure (ikey_spec ⟨rfl, ?_⟩)
    rw [hKe]
    conv => whnf
    rw [gt_eq, hb]
    conv => whnf
    refine ⟨_, ⟨by omega, ints_get hg⟩, ?_⟩
    conv => whnf
    refine .pure (ikey_spec ⟨rfl, ?_⟩)
    rw [hKe]
    conv => whnf
    refine .pure (ikey_spec ⟨rfl, ?_⟩)
    conv => whnf
    refine .pure (Covers_spec (l := oneW K) (by simp [oneW]) (one_sorted K) ⟨rfl, ?_⟩)
    rw [one_cov]
    conv => whnf
    cases hz : decide (K = []) <;> conv => whnf
    · refine .pure (ikey_spec ⟨rfl, ?_⟩)
      generalize keyS [⟨2, asked, []⟩] = A at *
      conv => whnf
      rw [le_eq]
      rw [show ((!false && !Op.bytesLess K A) == !Op.bytesLess K A) = true by cases Op.bytesLess K A <;> rfl]
      conv => whnf
      refine .go [] rfl (10 - (i + 1)) (by omega) ⟨i + 1, K, ?_, rfl, by omega, by omega, rfl⟩
      show [V.sl 1 (ints l) f, V.int .i64 asked, V.sl 3 (wks (oneW K)) false, V.str K, V.int .i64 (IntKind.i64.wrap ((i : Int) + 1))] = _
      rw [wrapI (by omega)]; rfl
    · refine .go [] rfl (10 - (i + 1)) (by omega) ⟨i + 1, K, ?_, rfl, by omega, by omega, rfl⟩
      show [V.sl 1 (ints l) f, V.int .i64 asked, V.sl 3 (wks (oneW K)) false, V.str K, V.int .i64 (IntKind.i64.wrap ((i : Int) + 1))] = _
      rw [wrapI (by omega)]; rfl

theorem ints_of : ∀ {es : List (List V)}, (∀ x ∈ es, ∃ n : Int, x = [.int .i64 n] ∧ I64V n) → ∃ l : List Int, es = ints l ∧ ∀ n ∈ l, I64V n
  | [], _ => ⟨[], rfl, by simp⟩
  | x :: es, h => by
    obtain ⟨n, rfl, hn⟩ := h x (by simp)
    obtain ⟨l, rfl, hl⟩ := ints_of (es := es) fun y hy => h y (by simp [hy])
    exact ⟨n :: l, rfl, by simpa using ⟨hn, hl⟩⟩

theorem ints_in {vs : List V} (h : Shp tt 8 51 vs) : ∃ l : List Int, argV tt 51 vs = .sl 1 (ints l) false ∧ ∀ n ∈ l, I64V n := by
  obtain ⟨es, _, g1, rfl⟩ := h
  obtain ⟨l, rfl, hl⟩ := ints_of fun x hx => by
    obtain ⟨n, hn, rfl⟩ := g1 x hx
    exact ⟨n, rfl, i64_wf hn⟩
  exact ⟨l, rfl, hl⟩

end Go.Proofs.YtocjhaahifpnbaaDoorPg

/- Readers of bytes: the program's. -/
namespace Go.Proofs.YtocjhaahifpnbaaDoorPg
open Go Go.RowKit
set_option linter.unusedSimpArgs false
set_option linter.unusedVariables false

variable {Q : V → List O → Prop}

/-- a reader: what is left, the error -/
def rdO (s : List UInt8) (f : Bool) (e : Int) : O := .cells [.sl 1 (bs s) f, .int .i64 e]

theorem fail_spec {s : List UInt8} {f : Bool} {e x : Int} (h : Q (.tup []) [rdO s f (if e = 0 then x else e)]) : ACall Tryd.prog 70 1 [.ptr 0 0, .int .i64 x] [rdO s f e] Q := by
  refine by_body Tryd.func70 1 rfl (Nat.le_of_ble_eq_true rfl) ?_
  conv => whnf
  refine branch_i (fun c => ?_) (fun c => ?_) <;> try rw [c] <;> conv => whnf
  · rw [if_pos (of_decide_eq_true c)] at h
    exact ⟨[0], rfl, h⟩
  · rw [if_neg (of_decide_eq_false c)] at h
    exact ⟨[0], rfl, h⟩

theorem bs_take (s : List UInt8) (n : Nat) : List.take n (bs s) = bs (s.take n) := by simp [bs, List.map_take]
theorem bs_drop (s : List UInt8) (n : Nat) : List.drop n (bs s) = bs (s.drop n) := by simp [bs, List.map_drop]

/-- so many bytes: none where there are too few, or an error has been -/
theorem take_no {s : List UInt8} {f : Bool} {e : Int} {n : Nat} (hn : e ≠ 0 ∨ s.length < n) (h : Q .nils [rdO s f (if e = 0 then 4 else e)]) : ACall Tryd.prog 71 1 [.ptr 0 0, fI n] [rdO s f e] Q := by
  refine by_body Tryd.func71 1 rfl (Nat.le_of_ble_eq_true rfl) ?_
  conv => whnf
  have hl := bs_len s
  refine branch_i (fun c => ?_) (fun c => ?_) <;> try rw [c] <;> conv => whnf
  focus
    have c' := of_decide_eq_true c
    subst c'
    have hlt : s.length < n := by simpa using hn
    rw [show decide (((bs s).length : Int) < (n : Int)) = true from decide_eq_true (by rw [hl]; omega)]
    conv => whnf
    refine .call [0] 1 ⟨rfl, rfl, rfl⟩ (fail_spec ?_)
    conv => whnf
    exact ⟨[0], rfl, h⟩
  have c' := of_decide_eq_false c
  rw [if_neg c'] at h
  rw [show decide (e = 0) = false from decide_eq_false c']
  conv => whnf
  exact ⟨[0], rfl, h⟩

theorem bs_drop_rd (s : List UInt8) (n : Nat) (f : Bool) (e : Int) : O.cells [.sl 1 (List.drop n (bs s)) f, .int .i64 e] = rdO (s.drop n) f e := by rw [bs_drop]; rfl

theorem take_yes {s : List UInt8} {f : Bool} {n : Nat} (hn : n ≤ s.length) (h : Q (.sl 1 (bs (s.take n)) false) [rdO (s.drop n) f 0]) : ACall Tryd.prog 71 1 [.ptr 0 0, fI n] [rdO s f 0] Q := by
  refine by_body Tryd.func71 1 rfl (Nat.le_of_ble_eq_true rfl) ?_
  conv => whnf
  have hl := bs_len s
  rw [show decide (((bs s).length : Int) < (n : Int)) = false from decide_eq_false (by rw [hl]; omega)]
  conv => whnf
  refine ⟨⟨by omega, by omega⟩, ?_⟩
  conv => whnf
  refine ⟨⟨by omega, by omega⟩, ?_⟩
  conv => whnf
  rw [← bs_take, ← bs_drop_rd] at h
  exact ⟨[0], rfl, h⟩

def digInv (s : List UInt8) (f : Bool) (m : Nat) (ws : List V) (H : List O) : Prop :=
  ∃ (i N : Nat) (q : List UInt8), ws = [.ptr 0 0, .int .u64 (N : Int), .sl 1 (bs s) f, fI i] ∧ H = [rdO q f 0] ∧ i ≤ 10 ∧ N < 128 ^ i ∧ digF (10 - i) i N q = digL s ∧ m = 10 - i

set_option maxHeartbeats 8000000 in
set_option maxRecDepth 8000 in
theorem digits_spec {s : List UInt8} {f : Bool} (h0 : (digL s).2.2 = 0 → Q (.int .u64 (digL s).1) [rdO (digL s).2.1 f 0]) (h1 : (digL s).2.2 ≠ 0 → Q (.int .u64 0) [rdO s f (digL s).2.2]) : ACall Tryd.prog 69 1 [.ptr 0 0] [rdO s f 0] Q := by
  refine by_body Tryd.func69 1 rfl (Nat.le_of_ble_eq_true rfl) ?_
  conv => whnf
  refine ⟨⟨[0, 3, 4, 12], digInv s f, .at 10 ⟨0, 0, s, rfl, rfl, by omega, by simp, rfl, rfl⟩, ?_⟩⟩
  rintro m ws H ⟨i, N, q, rfl, rfl, hi, hN, hq, rfl⟩
  conv => whnf
  refine branch_i (fun c => ?_) (fun c => ?_) <;> try rw [c] <;> conv => whnf
  rotate_left
  focus
    have c' := of_decide_eq_false c
    have : i = 10 := by omega
    subst this
    rw [show digF (10 - 10) 10 N q = (0, [], 2) from rfl] at hq
    refine .call [0] 1 ⟨rfl, rfl, rfl⟩ (fail_spec ?_)
    conv => whnf
    refine ⟨[0], rfl, ?_⟩
    have := h1 (by rw [← hq]; decide)
    rw [← hq] at this
    exact this
  have c' := of_decide_eq_true c
  obtain ⟨g, hg⟩ : ∃ g, 10 - i = g + 1 := ⟨9 - i, by omega⟩
  rw [hg] at hq
  cases q with
  | nil =>
    rw [show digF (g + 1) i N [] = (0, [], 4) from rfl] at hq
    refine .call [0] 1 ⟨rfl, rfl, rfl⟩ (take_no (n := 1) (.inr (by simp)) ?_)
    conv => whnf
    have := h1 (by rw [← hq]; decide)
    rw [← hq] at this
    exact ⟨[0], rfl, this⟩
  | cons b r =>
    refine .call [0] 1 ⟨rfl, rfl, rfl⟩ (take_yes (n := 1) (by simp) ?_)
    conv => whnf
    refine ⟨_, ⟨by omega, rfl⟩, ?_⟩
    conv => whnf
    rw [low7]
    unfold digF at hq
    have hbl := b.toNat_lt
    have bad : (0, ([] : List UInt8), (2 : Int)) = digL s → ∀ (z : List UInt8), Q (.int .u64 0) [rdO s f 2] := fun e _ => by
      have := h1 (by rw [← e]; decide)
      rw [← e] at this
      exact this
    by_cases hbad : i = 9 ∧ 1 < b.toNat % 128
    · rw [if_pos hbad] at hq
      rw [show decide ((i : Int) = 9) = true from decide_eq_true (by omega)]
      conv => whnf
      rw [show decide ((1 : Int) < ((b.toNat % 128 : Nat) : Int)) = true from decide_eq_true (by omega)]
      conv => whnf
      refine .call [0] 1 ⟨rfl, rfl, rfl⟩ (fail_spec ?_)
      conv => whnf
      exact ⟨[0], rfl, bad hq []⟩
    rw [if_neg hbad] at hq
    have hor := or_dig (i := i) (N := N) (d := b.toNat % 128) (by omega) (by omega) (fun e => by omega) hN
    have hcast : ((N : Int) + ((b.toNat % 128 : Nat) : Int) * 128 ^ i) = ((N + b.toNat % 128 * 128 ^ i : Nat) : Int) := by
      rw [Int.natCast_add, Int.natCast_mul, Int.natCast_pow]; rfl
    rw [hcast] at hq
    have hsh : 0 ≤ IntKind.i64.wrap (7 * (i : Int)) := by rw [IntKind.wrap_i64, Int.emod_eq_of_lt (by omega) (by omega)]; omega
    have hlt2 : N + b.toNat % 128 * 128 ^ i < 128 ^ (i + 1) := by
      rw [Nat.pow_succ]
      have : b.toNat % 128 ≤ 127 := by omega
      have := Nat.mul_le_mul_right (128 ^ i) this
      omega
    have fin : ∀ H : List O, H = [rdO r f 0] → ¬ b.toNat < 128 → ANext 1 (10 - i) (digInv s f) [.ptr 0 0, .int .u64 ((N + b.toNat % 128 * 128 ^ i : Nat) : Int), .sl 1 (bs s) f, .int .i64 (IntKind.i64.wrap ((i : Int) + 1))] H := fun H e hb => by
      subst e
      rw [if_neg hb] at hq
      refine .go [0] rfl (10 - (i + 1)) (by omega) ⟨i + 1, N + b.toNat % 128 * 128 ^ i, r, ?_, rfl, by omega, hlt2, by rw [← hq]; congr 1; omega, rfl⟩
      have hw : IntKind.i64.wrap ((i : Int) + 1) = ((i + 1 : Nat) : Int) := by rw [IntKind.wrap_i64, Int.emod_eq_of_lt (by omega) (by omega)]; omega
      rw [hw]; rfl
    clear hlt2 hcast
    generalize N + b.toNat % 128 * 128 ^ i = M at *
    have hz' : b ≠ 0 → decide ((b.toNat : Int) = 0) = false := fun hz => decide_eq_false (fun e => hz (UInt8.toNat_inj.1 (Int.ofNat_inj.1 e)))
    by_cases h9 : i = 9
    · rw [show decide ((i : Int) = 9) = true from decide_eq_true (by omega)]
      conv => whnf
      rw [show decide ((1 : Int) < ((b.toNat % 128 : Nat) : Int)) = false from decide_eq_false (by omega)]
      conv => whnf
      refine ⟨hsh, ?_⟩
      conv => whnf
      rw [hor]
      refine ⟨_, ⟨by omega, rfl⟩, ?_⟩
      conv => whnf
      by_cases hb : b.toNat < 128
      · rw [if_pos hb] at hq
        rw [show decide ((b.toNat : Int) < 128) = true from decide_eq_true (by omega)]
        conv => whnf
        refine ⟨_, ⟨by omega, rfl⟩, ?_⟩
        conv => whnf
        by_cases hz : b = 0
        · subst hz
          conv => whnf
          by_cases h0i : 0 < i
          · rw [if_pos ⟨rfl, h0i⟩] at hq
            rw [show decide ((0 : Int) < (i : Int)) = true from decide_eq_true (by omega)]
            conv => whnf
            refine .call [0] 1 ⟨rfl, rfl, rfl⟩ (fail_spec ?_)
            conv => whnf
            exact ⟨[0], rfl, bad hq []⟩
          · rw [if_neg (fun x => h0i x.2)] at hq
            rw [show decide ((0 : Int) < (i : Int)) = false from decide_eq_false (by omega)]
            conv => whnf
            have := h0 (by rw [← hq])
            rw [← hq] at this
            exact ⟨[0], rfl, this⟩
        · rw [if_neg (fun x => hz x.1)] at hq
          rw [hz' hz]
          conv => whnf
          have := h0 (by rw [← hq])
          rw [← hq] at this
          exact ⟨[0], rfl, this⟩
      · rw [show decide ((b.toNat : Int) < 128) = false from decide_eq_false (by omega)]
        conv => whnf
        exact fin _ rfl hb
    · rw [show decide ((i : Int) = 9) = false from decide_eq_false (by omega)]
      conv => whnf
      refine ⟨hsh, ?_⟩
      conv => whnf
      rw [hor]
      refine ⟨_, ⟨by omega, rfl⟩, ?_⟩
      conv => whnf
      by_cases hb : b.toNat < 128
      · rw [if_pos hb] at hq
        rw [show decide ((b.toNat : Int) < 128) = true from decide_eq_true (by omega)]
        conv => whnf
        refine ⟨_, ⟨by omega, rfl⟩, ?_⟩
        conv => whnf
        by_cases hz : b = 0
        · subst hz
          conv => whnf
          by_cases h0i : 0 < i
          · rw [if_pos ⟨rfl, h0i⟩] at hq
            rw [show decide ((0 : Int) < (i : Int)) = true from decide_eq_true (by omega)]
            conv => whnf
            refine .call [0] 1 ⟨rfl, rfl, rfl⟩ (fail_spec ?_)
            conv => whnf
            exact ⟨[0], rfl, bad hq []⟩
          · rw [if_neg (fun x => h0i x.2)] at hq
            rw [show decide ((0 : Int) < (i : Int)) = false from decide_eq_false (by omega)]
            conv => whnf
            have := h0 (by rw [← hq])
            rw [← hq] at this
            exact ⟨[0], rfl, this⟩
        · rw [if_neg (fun x => hz x.1)] at hq
          rw [hz' hz]
          conv => whnf
          have := h0 (by rw [← hq])
          rw [← hq] at this
          exact ⟨[0], rfl, this⟩
      · rw [show decide ((b.toNat : Int) < 128) = false from decide_eq_false (by omega)]
        conv => whnf
        exact fin _ rfl hb

end Go.Proofs.YtocjhaahifpnbaaDoorPg

/- Readers of bytes: numbers, texts, bytes. -/
namespace Go.Proofs.YtocjhaahifpnbaaDoorPg
open Go Go.RowKit
set_option linter.unusedSimpArgs false
set_option linter.unusedVariables false

variable {Q : V → List O → Prop}

theorem wrapL {n : Int} (h : -9223372036854775808 ≤ n ∧ n ≤ 9223372036854775807) : IntKind.i64.wrap n = n := by rw [IntKind.wrap_i64]; omega

theorem wrapN {n : Nat} (h : n ≤ 9223372036854775807) : IntKind.i64.wrap (n : Int) = (n : Int) := by rw [IntKind.wrap_i64]; omega

theorem Read_spec {s : List UInt8} {f : Bool} (h : Q (.ptr 0 0) [rdO s f 0]) : ACall Tryd.prog 45 0 [.sl 1 (bs s) f] [] Q := by
  refine by_body Tryd.func45 0 rfl (Nat.le_of_ble_eq_true rfl) ?_
  conv => whnf
  exact ⟨[0], rfl, h⟩

theorem digits_e {s : List UInt8} {f : Bool} {e : Int} (he : e ≠ 0) (h : Q (.int .u64 0) [rdO s f e]) : ACall Tryd.prog 69 1 [.ptr 0 0] [rdO s f e] Q := by
  refine by_body Tryd.func69 1 rfl (Nat.le_of_ble_eq_true rfl) ?_
  conv => whnf
  refine ⟨⟨[0, 3, 4, 12], fun m ws H => ws = [.ptr 0 0, .int .u64 0, .sl 1 (bs s) f, fI 0] ∧ H = [rdO s f e], .at 0 ⟨rfl, rfl⟩, ?_⟩⟩
  rintro m ws H ⟨rfl, rfl⟩
  conv => whnf
  refine .call [0] 1 ⟨rfl, rfl, rfl⟩ (take_no (n := 1) (.inl he) ?_)
  rw [if_neg he]
  conv => whnf
  exact ⟨[0], rfl, h⟩

theorem Number_spec {s : List UInt8} {f : Bool} {e : Int} (h : Q (.int .i64 (rNum s e).1) [rdO (rNum s e).2.1 f (rNum s e).2.2]) : ACall Tryd.prog 46 1 [.ptr 0 0] [rdO s f e] Q := by
  refine by_body Tryd.func46 1 rfl (Nat.le_of_ble_eq_true rfl) ?_
  conv => whnf
  unfold rNum at h
  by_cases he : e = 0
  · subst he
    rw [if_pos rfl] at h
    refine .call [0] 1 ⟨rfl, rfl, rfl⟩ (digits_spec (fun h0 => ?_) (fun h1 => ?_))
    · conv => whnf
      have hn := digL_nonneg s
      unfold numL at h
      rw [if_pos h0] at h
      by_cases hb : (digL s).1 ≤ 9223372036854775807
      · rw [if_pos hb] at h
        rw [show decide (9223372036854775807 < (digL s).1) = false from decide_eq_false (by omega)]
        conv => whnf
        rw [wrapL (by omega)]
        rw [h0] at h
        exact ⟨[0], rfl, h⟩
      · rw [if_neg hb] at h
        rw [show decide (9223372036854775807 < (digL s).1) = true from decide_eq_true (by omega)]
        conv => whnf
        refine .call [0] 1 ⟨rfl, rfl, rfl⟩ (fail_spec ?_)
        conv => whnf
        exact ⟨[0], rfl, h⟩
    · conv => whnf
      unfold numL at h
      rw [if_neg h1] at h
      exact ⟨[0], rfl, h⟩
  · rw [if_neg he] at h
    refine .call [0] 1 ⟨rfl, rfl, rfl⟩ (digits_e he ?_)
    conv => whnf
    exact ⟨[0], rfl, h⟩

theorem Text_spec {s : List UInt8} {f : Bool} {e most : Int} (h : Q (.str (rTxt most s e).1) [rdO (rTxt most s e).2.1 f (rTxt most s e).2.2]) : ACall Tryd.prog 48 1 [.ptr 0 0, .int .i64 most] [rdO s f e] Q := by
  refine by_body Tryd.func48 1 rfl (Nat.le_of_ble_eq_true rfl) ?_
  conv => whnf
  refine .call [0] 1 ⟨rfl, rfl, rfl⟩ (Number_spec ?_)
  unfold rTxt at h
  by_cases he : e = 0
  rotate_left
  focus
    rw [if_neg he] at h
    rw [rNum_e he]
    conv => whnf
    rw [show decide (e = 0) = false from decide_eq_false he]
    conv => whnf
    refine .call [0] 1 ⟨rfl, rfl, rfl⟩ (take_no (n := 0) (.inl he) ?_)
    rw [if_neg he]
    conv => whnf
    rw [show decide (e = 0) = false from decide_eq_false he]
    conv => whnf
    exact ⟨[0], rfl, h⟩
  subst he
  rw [if_pos rfl] at h
  unfold txtL at h
  have hnn := numL_nonneg s
  have hlen := numL_len s
  have er : rNum s 0 = numL s := rfl
  rw [er]
  generalize numL s = N at *
  obtain ⟨n, r, x⟩ := N
  simp only at h hnn hlen ⊢
  obtain ⟨n, rfl⟩ : ∃ k : Nat, n = (k : Int) := ⟨n.toNat, by omega⟩
  by_cases hx : x = 0
  rotate_left
  focus
    rw [if_neg hx] at h
    conv => whnf
    rw [show decide (x = 0) = false from decide_eq_false hx]
    conv => whnf
    refine .call [0] 1 ⟨rfl, rfl, rfl⟩ (take_no (n := n) (.inl hx) ?_)
    rw [if_neg hx]
    conv => whnf
    rw [show decide (x = 0) = false from decide_eq_false hx]
    conv => whnf
    exact ⟨[0], rfl, h⟩
  subst hx
  rw [if_pos rfl] at h
  conv => whnf
  by_cases hm : most < (n : Int)
  · rw [if_pos hm] at h
    rw [show decide (most < (n : Int)) = true from decide_eq_true hm]
    conv => whnf
    refine .call [0] 1 ⟨rfl, rfl, rfl⟩ (fail_spec ?_)
    rw [if_pos rfl]
    conv => whnf
    refine .call [0] 1 ⟨rfl, rfl, rfl⟩ (take_no (n := n) (.inl (by decide)) ?_)
    rw [if_neg (by decide)]
    conv => whnf
    exact ⟨[0], rfl, h⟩
  rw [if_neg hm] at h
  rw [show decide (most < (n : Int)) = false from decide_eq_false hm]
  conv => whnf
  by_cases hl : (r.length : Int) < (n : Int)
  · rw [if_pos hl] at h
    refine .call [0] 1 ⟨rfl, rfl, rfl⟩ (take_no (n := n) (.inr (by omega)) ?_)
    rw [if_pos rfl]
    conv => whnf
    exact ⟨[0], rfl, h⟩
  rw [if_neg hl] at h
  refine .call [0] 1 ⟨rfl, rfl, rfl⟩ (take_yes (n := n) (by omega) ?_)
  conv => whnf
  refine ⟨_, bytesOfEs_bs _, ?_⟩
  conv => whnf
  rw [Int.toNat_natCast] at h
  exact ⟨[0], rfl, h⟩

theorem Byte_spec {s : List UInt8} {f : Bool} {e : Int} (h : Q (.int .i64 (rByt s e).1) [rdO (rByt s e).2.1 f (rByt s e).2.2]) : ACall Tryd.prog 49 1 [.ptr 0 0] [rdO s f e] Q := by
  refine by_body Tryd.func49 1 rfl (Nat.le_of_ble_eq_true rfl) ?_
  conv => whnf
  unfold rByt at h
  by_cases he : e = 0
  rotate_left
  focus
    rw [if_neg he] at h
    refine .call [0] 1 ⟨rfl, rfl, rfl⟩ (take_no (n := 1) (.inl he) ?_)
    rw [if_neg he]
    conv => whnf
    exact ⟨[0], rfl, h⟩
  subst he
  rw [if_pos rfl] at h
  cases s with
  | nil =>
    refine .call [0] 1 ⟨rfl, rfl, rfl⟩ (take_no (n := 1) (.inr (by simp)) ?_)
    rw [if_pos rfl]
    conv => whnf
    exact ⟨[0], rfl, h⟩
  | cons b r =>
    refine .call [0] 1 ⟨rfl, rfl, rfl⟩ (take_yes (n := 1) (by simp) ?_)
    conv => whnf
    refine ⟨_, ⟨by omega, rfl⟩, ?_⟩
    conv => whnf
    have := b.toNat_lt
    rw [wrapN (by omega)]
    exact ⟨[0], rfl, h⟩

theorem Errno_spec {s : List UInt8} {f : Bool} {e : Int} (h : Q (.int .i64 e) [rdO s f e]) : ACall Tryd.prog 47 1 [.ptr 0 0] [rdO s f e] Q := by
  refine by_body Tryd.func47 1 rfl (Nat.le_of_ble_eq_true rfl) ?_
  conv => whnf
  exact ⟨[0], rfl, h⟩

def endE (s : List UInt8) (e : Int) : Int := if e = 0 ∧ s ≠ [] then 2 else e

theorem End_spec {s : List UInt8} {f : Bool} {e : Int} (h : Q (.int .i64 (endE s e)) [rdO s f e]) : ACall Tryd.prog 50 1 [.ptr 0 0] [rdO s f e] Q := by
  refine by_body Tryd.func50 1 rfl (Nat.le_of_ble_eq_true rfl) ?_
  conv => whnf
  unfold endE at h
  by_cases he : e = 0
  · subst he
    cases s with
    | nil =>
      rw [if_neg (by simp)] at h
      conv => whnf
      exact ⟨[0], rfl, h⟩
    | cons b r =>
      rw [if_pos (by simp)] at h
      conv => whnf
      rw [show decide ((0 : Int) < ((bs (b :: r)).length : Int)) = true from decide_eq_true (by rw [bs_len]; simp only [List.length_cons]; omega)]
      conv => whnf
      exact ⟨[0], rfl, h⟩
  · rw [if_neg (by simp [he])] at h
    rw [show decide (e = 0) = false from decide_eq_false he]
    conv => whnf
    exact ⟨[0], rfl, h⟩

end Go.Proofs.YtocjhaahifpnbaaDoorPg

/- Readers of bytes: the document's. -/
namespace Go.Proofs.YtocjhaahifpnbaaDoorPg
open Go Go.RowKit
set_option linter.unusedSimpArgs false
set_option linter.unusedVariables false

variable {Q : V → List O → Prop}

def rtInv (s : List UInt8) (f : Bool) (m : Nat) (ws : List V) (H : List O) : Prop :=
  ∃ (i N : Nat), ws = [.sl 1 (bs s) f, .int .u64 (N : Int), .int .u64 (IntKind.u64.wrap ((128 ^ i : Nat) : Int)), fI i] ∧ H = [] ∧ i ≤ 10 ∧ i ≤ s.length ∧ N < 128 ^ i ∧ digF (10 - i) i N (s.drop i) = digL s ∧ m = 10 - i

theorem pow_bd {i : Nat} (h : i ≤ 9) : 128 ^ i ≤ 9223372036854775808 := by
  obtain rfl | rfl | rfl | rfl | rfl | rfl | rfl | rfl | rfl | rfl : i = 0 ∨ i = 1 ∨ i = 2 ∨ i = 3 ∨ i = 4 ∨ i = 5 ∨ i = 6 ∨ i = 7 ∨ i = 8 ∨ i = 9 := by omega
  all_goals decide

theorem pow_bd8 {i : Nat} (h : i ≤ 8) : 128 ^ i ≤ 72057594037927936 := by
  obtain rfl | rfl | rfl | rfl | rfl | rfl | rfl | rfl | rfl : i = 0 ∨ i = 1 ∨ i = 2 ∨ i = 3 ∨ i = 4 ∨ i = 5 ∨ i = 6 ∨ i = 7 ∨ i = 8 := by omega
  all_goals decide

set_option maxRecDepth 8000 in
set_option maxHeartbeats 8000000 in
theorem Rtake_spec {s : List UInt8} {f : Bool} (h0 : ∀ k : Nat, (digL s).2.2 = 0 → k ≤ s.length → (digL s).2.1 = s.drop k → k ≤ 10 → Q (.tup [.int .u64 (digL s).1, fI k, fI 0]) [])
    (h1 : (digL s).2.2 ≠ 0 → Q (.tup [.int .u64 0, fI 0, fI (digL s).2.2]) []) : ACall Tryd.prog 72 0 [.sl 1 (bs s) f] [] Q := by
  refine by_body Tryd.func72 0 rfl (Nat.le_of_ble_eq_true rfl) ?_
  conv => whnf
  refine ⟨⟨[0, 5, 6, 7], rtInv s f, .at 10 ⟨0, 0, rfl, rfl, by omega, by omega, by simp, rfl, rfl⟩, ?_⟩⟩
  rintro m ws H ⟨i, N, rfl, rfl, hi, his, hN, hq, rfl⟩
  have hl := bs_len s
  conv => whnf
  refine branch_i (fun c => ?_) (fun c => ?_) <;> try rw [c] <;> conv => whnf
  rotate_left
  focus
    have c' := of_decide_eq_false c
    have : i = 10 := by omega
    subst this
    rw [show digF (10 - 10) 10 N (s.drop 10) = (0, [], 2) from rfl] at hq
    have := h1 (by rw [← hq]; decide)
    rw [← hq] at this
    exact ⟨[], rfl, this⟩
  have c' := of_decide_eq_true c
  obtain ⟨g, hg⟩ : ∃ g, 10 - i = g + 1 := ⟨9 - i, by omega⟩
  rw [hg] at hq
  refine branch_i (fun c2 => ?_) (fun c2 => ?_) <;> try rw [c2] <;> conv => whnf
  focus
    have c2' := of_decide_eq_true c2
    rw [List.drop_eq_nil_of_le (by omega), show digF (g + 1) i N [] = (0, [], 4) from rfl] at hq
    have := h1 (by rw [← hq]; decide)
    rw [← hq] at this
    exact ⟨[], rfl, this⟩
  have c2' := of_decide_eq_false c2
  have hlt : i < s.length := by omega
  have hget : s[i]? = some s[i] := List.getElem?_eq_getElem hlt
  rw [List.drop_eq_getElem_cons hlt] at hq
  generalize s[i] = b at *
  have hbg : (bs s)[i]? = some [V.int .u8 b.toNat] := by simp [bs, hget]
  refine ⟨_, ⟨by omega, hbg⟩, ?_⟩
  conv => whnf
  refine ⟨by decide, ?_⟩
  conv => whnf
  have hbl := b.toNat_lt
  have hmod : IntKind.u64.wrap (Int.tmod (b.toNat : Int) 128) = ((b.toNat % 128 : Nat) : Int) := by
    rw [show Int.tmod (b.toNat : Int) 128 = ((b.toNat % 128 : Nat) : Int) from rfl, wrap_u64]; omega
  rw [hmod]
  unfold digF at hq
  have bad : (0, ([] : List UInt8), (2 : Int)) = digL s → Q (.tup [.int .u64 0, fI 0, fI 2]) [] := fun e => by
    have := h1 (by rw [← e]; decide)
    rw [← e] at this
    exact this
  by_cases hbad : i = 9 ∧ 1 < b.toNat % 128
  · rw [if_pos hbad] at hq
    rw [show decide ((i : Int) = 9) = true from decide_eq_true (by omega)]
    conv => whnf
    rw [show decide ((1 : Int) < ((b.toNat % 128 : Nat) : Int)) = true from decide_eq_true (by omega)]
    conv => whnf
    exact ⟨[], rfl, bad hq⟩
  rw [if_neg hbad] at hq
  have hpw := pow_bd (i := i) (by omega)
  have hcast : ((N : Int) + ((b.toNat % 128 : Nat) : Int) * 128 ^ i) = ((N + b.toNat % 128 * 128 ^ i : Nat) : Int) := by
    rw [Int.natCast_add, Int.natCast_mul, Int.natCast_pow]; rfl
  rw [hcast] at hq
  have hlt2 : N + b.toNat % 128 * 128 ^ i < 128 ^ (i + 1) := by
    rw [Nat.pow_succ]
    have : b.toNat % 128 ≤ 127 := by omega
    have := Nat.mul_le_mul_right (128 ^ i) this
    omega
  have hb64 : N + b.toNat % 128 * 128 ^ i < 18446744073709551616 := by
    by_cases h9 : i = 9
    · have : b.toNat % 128 ≤ 1 := by omega
      have := Nat.mul_le_mul_right (128 ^ i) this
      omega
    · have := pow_bd (i := i + 1) (by omega)
      omega
  have hw1 : IntKind.u64.wrap ((128 ^ i : Nat) : Int) = ((128 ^ i : Nat) : Int) := by rw [wrap_u64]; omega
  have hstep : IntKind.u64.wrap ((N : Int) + IntKind.u64.wrap (((b.toNat % 128 : Nat) : Int) * IntKind.u64.wrap ((128 ^ i : Nat) : Int))) = ((N + b.toNat % 128 * 128 ^ i : Nat) : Int) := by
    rw [hw1, ← Int.natCast_mul, wrap_u64, wrap_u64]
    generalize b.toNat % 128 * 128 ^ i = z at *
    omega
  have hat : IntKind.u64.wrap (IntKind.u64.wrap ((128 ^ i : Nat) : Int) * 128) = IntKind.u64.wrap ((128 ^ (i + 1) : Nat) : Int) := by
    rw [hw1, Nat.pow_succ, Int.natCast_mul]; rfl
  have hi1 : IntKind.i64.wrap ((i : Int) + 1) = ((i + 1 : Nat) : Int) := by rw [wrapL (by omega)]; omega
  have fin : ¬ b.toNat < 128 → ANext 0 (10 - i) (rtInv s f) [.sl 1 (bs s) f, .int .u64 (IntKind.u64.wrap ((N : Int) + IntKind.u64.wrap (((b.toNat % 128 : Nat) : Int) * IntKind.u64.wrap ((128 ^ i : Nat) : Int)))), .int .u64 (IntKind.u64.wrap (IntKind.u64.wrap ((128 ^ i : Nat) : Int) * 128)), .int .i64 (IntKind.i64.wrap ((i : Int) + 1))] [] := fun hb => by
    rw [if_neg hb] at hq
    rw [hstep, hat, hi1]
    exact .go [] rfl (10 - (i + 1)) (by omega) ⟨i + 1, N + b.toNat % 128 * 128 ^ i, rfl, rfl, by omega, by omega, hlt2, by rw [← hq]; congr 1; omega, rfl⟩
  have good : digL s = (((N + b.toNat % 128 * 128 ^ i : Nat) : Int), s.drop (i + 1), 0) → Q (.tup [.int .u64 (IntKind.u64.wrap ((N : Int) + IntKind.u64.wrap (((b.toNat % 128 : Nat) : Int) * IntKind.u64.wrap ((128 ^ i : Nat) : Int)))), .int .i64 (IntKind.i64.wrap ((i : Int) + 1)), fI 0]) [] := fun e => by
    have := h0 (i + 1) (by rw [e]) (by omega) (by rw [e]) (by omega)
    rw [e] at this
    rw [hstep, hi1]
    exact this
  clear hlt2 hcast
  have hz' : b ≠ 0 → decide ((b.toNat : Int) = 0) = false := fun hz => decide_eq_false (fun e => hz (UInt8.toNat_inj.1 (Int.ofNat_inj.1 e)))
  have tail : ∀ (A B : Prop), (b.toNat < 128 → A) → (¬ b.toNat < 128 → B) → branch (decide ((b.toNat : Int) < 128)) A B := fun A B h1 h2 =>
    branch_i (fun c => h1 (by have := of_decide_eq_true c; omega)) (fun c => h2 (by have := of_decide_eq_false c; omega))
  have hstep9 : decide ((i : Int) = 9) = decide (i = 9) := by
    rcases Nat.lt_or_ge i 9 with h9 | h9
    · rw [decide_eq_false (by omega), decide_eq_false (by omega)]
    · rw [decide_eq_true (by omega), decide_eq_true (by omega)]
  rw [hstep9]
  by_cases h9 : i = 9
  · rw [decide_eq_true h9]
    conv => whnf
    rw [show decide ((1 : Int) < ((b.toNat % 128 : Nat) : Int)) = false from decide_eq_false (by omega)]
    conv => whnf
    refine ⟨_, ⟨by omega, hbg⟩, ?_⟩
    conv => whnf
    by_cases hb : b.toNat < 128
    · rw [if_pos hb] at hq
      rw [show decide ((b.toNat : Int) < 128) = true from decide_eq_true (by omega)]
      conv => whnf
      refine ⟨_, ⟨by omega, hbg⟩, ?_⟩
      conv => whnf
      by_cases hz : b = 0
      · subst hz
        conv => whnf
        rw [if_pos ⟨rfl, by omega⟩] at hq
        rw [show decide ((0 : Int) < (i : Int)) = true from decide_eq_true (by omega)]
        conv => whnf
        exact ⟨[], rfl, bad hq⟩
      · rw [if_neg (fun x => hz x.1)] at hq
        rw [hz' hz]
        conv => whnf
        exact ⟨[], rfl, good hq.symm⟩
    · rw [show decide ((b.toNat : Int) < 128) = false from decide_eq_false (by omega)]
      conv => whnf
      exact fin hb
  · rw [decide_eq_false h9]
    conv => whnf
    refine ⟨_, ⟨by omega, hbg⟩, ?_⟩
    conv => whnf
    by_cases hb : b.toNat < 128
    · rw [if_pos hb] at hq
      rw [show decide ((b.toNat : Int) < 128) = true from decide_eq_true (by omega)]
      conv => whnf
      refine ⟨_, ⟨by omega, hbg⟩, ?_⟩
      conv => whnf
      by_cases hz : b = 0
      · subst hz
        conv => whnf
        by_cases h0i : 0 < i
        · rw [if_pos ⟨rfl, h0i⟩] at hq
          rw [show decide ((0 : Int) < (i : Int)) = true from decide_eq_true (by omega)]
          conv => whnf
          exact ⟨[], rfl, bad hq⟩
        · rw [if_neg (fun x => h0i x.2)] at hq
          rw [show decide ((0 : Int) < (i : Int)) = false from decide_eq_false (by omega)]
          conv => whnf
          exact ⟨[], rfl, good hq.symm⟩
      · rw [if_neg (fun x => hz x.1)] at hq
        rw [hz' hz]
        conv => whnf
        exact ⟨[], rfl, good hq.symm⟩
    · rw [show decide ((b.toNat : Int) < 128) = false from decide_eq_false (by omega)]
      conv => whnf
      exact fin hb

theorem RNumber_spec {s : List UInt8} {f : Bool} {e : Int} (h : Q (.int .i64 (rNum s e).1) [rdO (rNum s e).2.1 f (rNum s e).2.2]) : ACall Tryd.prog 51 1 [.ptr 0 0] [rdO s f e] Q := by
  refine by_body Tryd.func51 1 rfl (Nat.le_of_ble_eq_true rfl) ?_
  conv => whnf
  have hl := bs_len s
  unfold rNum at h
  by_cases he : e = 0
  rotate_left
  focus
    rw [if_neg he] at h
    rw [show decide (e = 0) = false from decide_eq_false he]
    conv => whnf
    exact ⟨[0], rfl, h⟩
  subst he
  rw [if_pos rfl] at h
  conv => whnf
  refine .pure (Rtake_spec (fun k h0 hk hd hk10 => ⟨rfl, ?_⟩) (fun h1 => ⟨rfl, ?_⟩))
  · conv => whnf
    have hn := digL_nonneg s
    unfold numL at h
    rw [if_pos h0] at h
    by_cases hb : (digL s).1 ≤ 9223372036854775807
    · rw [if_pos hb] at h
      rw [show decide (9223372036854775807 < (digL s).1) = false from decide_eq_false (by omega)]
      conv => whnf
      refine ⟨⟨by omega, by omega⟩, ?_⟩
      conv => whnf
      rw [h0, hd, ← bs_drop_rd, ← wrapL (n := (digL s).1) (by omega)] at h
      exact ⟨[0], rfl, h⟩
    · rw [if_neg hb] at h
      rw [show decide (9223372036854775807 < (digL s).1) = true from decide_eq_true (by omega)]
      conv => whnf
      exact ⟨[0], rfl, h⟩
  · conv => whnf
    unfold numL at h
    rw [if_neg h1] at h
    rw [show decide ((digL s).2.2 = 0) = false from decide_eq_false h1]
    conv => whnf
    rw [show decide ((digL s).2.2 = 0) = false from decide_eq_false h1]
    conv => whnf
    exact ⟨[0], rfl, h⟩

theorem RText_spec {s : List UInt8} {f : Bool} {e most : Int} (h : Q (.str (rTxt most s e).1) [rdO (rTxt most s e).2.1 f (rTxt most s e).2.2]) : ACall Tryd.prog 52 1 [.ptr 0 0, .int .i64 most] [rdO s f e] Q := by
  refine by_body Tryd.func52 1 rfl (Nat.le_of_ble_eq_true rfl) ?_
  conv => whnf
  refine .call [0] 1 ⟨rfl, rfl, rfl⟩ (RNumber_spec ?_)
  unfold rTxt at h
  by_cases he : e = 0
  rotate_left
  focus
    rw [if_neg he] at h
    rw [rNum_e he]
    conv => whnf
    rw [show decide (e = 0) = false from decide_eq_false he]
    conv => whnf
    exact ⟨[0], rfl, h⟩
  subst he
  rw [if_pos rfl] at h
  have hnn := numL_nonneg s
  have hlen := numL_len s
  have herr := numL_err (s := s)
  unfold txtL at h
  have er : rNum s 0 = numL s := rfl
  rw [er]
  generalize numL s = N at *
  obtain ⟨n, r, x⟩ := N
  simp only at h hnn hlen herr ⊢
  obtain ⟨n, rfl⟩ : ∃ k : Nat, n = (k : Int) := ⟨n.toNat, by omega⟩
  have hl := bs_len r
  by_cases hx : x = 0
  rotate_left
  focus
    rw [if_neg hx] at h
    conv => whnf
    rw [show decide (x = 0) = false from decide_eq_false hx]
    conv => whnf
    rw [(herr hx).2]
    exact ⟨[0], rfl, h⟩
  subst hx
  rw [if_pos rfl] at h
  conv => whnf
  by_cases hm : most < (n : Int)
  · rw [if_pos hm] at h
    rw [show decide (most < (n : Int)) = true from decide_eq_true hm]
    conv => whnf
    exact ⟨[0], rfl, h⟩
  rw [if_neg hm] at h
  rw [show decide (most < (n : Int)) = false from decide_eq_false hm]
  conv => whnf
  by_cases hll : (r.length : Int) < (n : Int)
  · rw [if_pos hll] at h
    rw [show decide (((bs r).length : Int) < (n : Int)) = true from decide_eq_true (by omega)]
    conv => whnf
    exact ⟨[0], rfl, h⟩
  rw [if_neg hll] at h
  rw [show decide (((bs r).length : Int) < (n : Int)) = false from decide_eq_false (by omega)]
  conv => whnf
  refine ⟨⟨by omega, by omega⟩, ?_⟩
  conv => whnf
  refine ⟨r.take n, by rw [Int.toNat_natCast, bs_take]; exact bytesOfEs_bs _, ?_⟩
  conv => whnf
  refine ⟨⟨by omega, by omega⟩, ?_⟩
  conv => whnf
  rw [← bs_drop_rd] at h
  exact ⟨[0], rfl, h⟩

theorem RByte_spec {s : List UInt8} {f : Bool} {e : Int} (h : Q (.int .i64 (rByt s e).1) [rdO (rByt s e).2.1 f (rByt s e).2.2]) : ACall Tryd.prog 53 1 [.ptr 0 0] [rdO s f e] Q := by
  refine by_body Tryd.func53 1 rfl (Nat.le_of_ble_eq_true rfl) ?_
  conv => whnf
  unfold rByt at h
  by_cases he : e = 0
  rotate_left
  focus
    rw [if_neg he] at h
    rw [show decide (e = 0) = false from decide_eq_false he]
    conv => whnf
    rw [show decide (e = 0) = false from decide_eq_false he]
    conv => whnf
    exact ⟨[0], rfl, h⟩
  subst he
  rw [if_pos rfl] at h
  cases s with
  | nil =>
    conv => whnf
    exact ⟨[0], rfl, h⟩
  | cons b r =>
    conv => whnf
    rw [show decide (((bs (b :: r)).length : Int) = 0) = false from decide_eq_false (by rw [bs_len]; simp only [List.length_cons]; omega)]
    conv => whnf
    refine ⟨_, ⟨by omega, rfl⟩, ?_⟩
    conv => whnf
    refine ⟨⟨by omega, by rw [bs_len]; simp only [List.length_cons]; omega⟩, ?_⟩
    conv => whnf
    have := b.toNat_lt
    rw [wrapN (by omega)]
    exact ⟨[0], rfl, h⟩

end Go.Proofs.YtocjhaahifpnbaaDoorPg

/- Writers of bytes: numbers and texts, the program's and the document's. -/
namespace Go.Proofs.YtocjhaahifpnbaaDoorPg
open Go Go.RowKit
set_option linter.unusedSimpArgs false
set_option linter.unusedVariables false

variable {Q : V → List O → Prop}

theorem bs_ne {l : List UInt8} (h : l ≠ []) : ∃ x r, bs l = x :: r := by
  cases l with
  | nil => exact absurd rfl h
  | cons b l => exact ⟨_, _, rfl⟩

theorem bs_snoc (l : List UInt8) (b : UInt8) : bs l ++ [[.int .u8 b.toNat]] = bs (l ++ [b]) := by rw [bs_app]; rfl

theorem own_spec {l : List UInt8} {f : Bool} (h : Q (.sl 1 (bs l) true) []) : ACall Tryd.prog 74 0 [.sl 1 (bs l) f] [] Q := by
  refine by_body Tryd.func74 0 rfl (Nat.le_of_ble_eq_true rfl) ?_
  conv => whnf
  refine ⟨⟨by omega, rfl, by omega⟩, ?_⟩
  conv => whnf
  refine ⟨[], rfl, ?_⟩
  show Q (.sl 1 (List.take ((bs l).length : Int).toNat (bs l)) true) []
  rw [Int.toNat_natCast, List.take_length]; exact h

/-- the byte of a digit that others follow -/
theorem hi7 (m : Nat) (h : m < 2 ^ 64) : IntKind.u8.wrap ↑(BitVec.ofInt IntKind.u8.bits (IntKind.u8.wrap (m : Int)) ||| BitVec.ofInt IntKind.u8.bits 128).toNat = (((UInt8.ofNat (m % 128 + 128)).toNat : Nat) : Int) := by
  have e0 : (UInt8.ofNat (m % 128 + 128)).toNat = m % 128 + 128 := ofNat_lt (by omega)
  have ew : ∀ n : Int, IntKind.u8.wrap n = n % 256 := fun n => by simp [IntKind.wrap, IntKind.bits, IntKind.signed]
  have e1 : (BitVec.ofInt 8 (IntKind.u8.wrap (m : Int))).toNat = m % 256 := by
    rw [BitVec.toNat_ofInt, ew]
    have : ((2 : Nat) ^ 8 : Nat) = 256 := by decide
    omega
  have e2 : (BitVec.ofInt 8 128).toNat = 128 := by decide
  have e3 : (BitVec.ofInt IntKind.u8.bits (IntKind.u8.wrap (m : Int)) ||| BitVec.ofInt IntKind.u8.bits 128).toNat = m % 128 + 128 := by
    show (BitVec.ofInt 8 (IntKind.u8.wrap (m : Int)) ||| BitVec.ofInt 8 128).toNat = _
    rw [BitVec.toNat_or, e1, e2]
    apply Nat.eq_of_testBit_eq
    intro i
    rw [show m % 128 + 128 = 2 ^ 7 * 1 + m % 128 by omega, Nat.testBit_or, Nat.testBit_two_pow_mul_add 1 (show m % 128 < 2 ^ 7 by omega)]
    rcases Nat.lt_or_ge i 7 with h7 | h7
    · rw [if_pos h7, show (128 : Nat) = 2 ^ 7 from rfl, Nat.testBit_two_pow, show (256 : Nat) = 2 ^ 8 from rfl, Nat.testBit_mod_two_pow, Nat.testBit_mod_two_pow]
      simp only [h7, show i < 8 by omega, decide_true, Bool.true_and, show ¬ (7 = i) by omega, decide_false, Bool.or_false]
    · rw [if_neg (by omega)]
      rcases Nat.eq_or_lt_of_le h7 with h8 | h8
      · subst h8
        rw [show (128 : Nat) = 2 ^ 7 from rfl, Nat.testBit_two_pow]
        simp
      · rw [show (128 : Nat) = 2 ^ 7 from rfl, Nat.testBit_two_pow, show (256 : Nat) = 2 ^ 8 from rfl, Nat.testBit_mod_two_pow]
        rw [show (1 : Nat) = 2 ^ 0 from rfl, Nat.testBit_two_pow]
        simp only [show ¬ (i < 8) by omega, decide_false, Bool.false_and, Bool.false_or]
        rw [decide_eq_false (by omega), decide_eq_false (by omega)]
  rw [e3, e0, ew]; omega

theorem lo7 (m : Nat) (h : m < 128) : IntKind.u8.wrap (m : Int) = (((UInt8.ofNat m).toNat : Nat) : Int) := by
  have e0 : (UInt8.ofNat m).toNat = m := ofNat_lt (by omega)
  have ew : ∀ n : Int, IntKind.u8.wrap n = n % 256 := fun n => by simp [IntKind.wrap, IntKind.bits, IntKind.signed]
  rw [e0, ew]; omega

theorem shr7 (m : Nat) : Int.fdiv (m : Int) (2 ^ min (7 : Int).toNat IntKind.u64.bits) = ((m / 128 : Nat) : Int) := by
  show Int.fdiv (m : Int) (2 ^ 7) = _
  rw [show ((2 : Int) ^ 7) = ((128 : Nat) : Int) from rfl, Int.fdiv_eq_ediv_of_nonneg _ (by omega)]
  rfl

def digInvW (l : List UInt8) (N : Nat) (m : Nat) (ws : List V) (H : List O) : Prop :=
  ∃ (out : List UInt8) (n f : Nat), m = f + 1 ∧ n < 128 ^ (f + 1) ∧ f ≤ 9 ∧ n < 2 ^ 64 ∧ out ++ digWF f n = l ++ digW N ∧ out.length ≤ l.length + 9 ∧
    ((ws = [.sl 1 (bs out) true, .int .u64 n] ∧ H = []) ∨ (ws = [.ms 1 0 0 out.length false, .int .u64 n] ∧ H = [.buf (bs out)]))

set_option maxRecDepth 8000 in
set_option maxHeartbeats 8000000 in
theorem digits_w {l : List UInt8} {N : Nat} (hN : N < 2 ^ 64) (hl : l.length ≤ 1099511627776) (h : Q (.ms 1 0 0 (l ++ digW N).length false) [.buf (bs (l ++ digW N))]) : ACall Tryd.prog 73 0 [.sl 1 (bs l) true, .int .u64 N] [] Q := by
  refine by_body Tryd.func73 0 rfl (Nat.le_of_ble_eq_true rfl) ?_
  conv => whnf
  refine ⟨⟨[0, 1], digInvW l N, .at 10 ⟨l, N, 9, rfl, ?_, by omega, hN, rfl, by omega, .inl ⟨rfl, rfl⟩⟩, ?_⟩⟩
  · exact Nat.lt_of_lt_of_le hN (by decide)
  rintro m ws H ⟨out, n, f, rfl, hn, hf, hn64, hout, hlen, hshape⟩
  have hlo := bs_len out
  have hd : n < 128 → digWF f n = [UInt8.ofNat n] := fun hlt => by
    cases f with
    | zero => rfl
    | succ f => rw [digWF, if_pos hlt]
  have ne1 : ∀ x : V, [[x]] ≠ ([] : List (List V)) := fun x => by simp
  rcases hshape with ⟨rfl, rfl⟩ | ⟨rfl, rfl⟩ <;> conv => whnf
  · refine branch_i (fun c => ?_) (fun c => ?_) <;> try rw [c] <;> conv => whnf
    · have c' := of_decide_eq_true c
      obtain ⟨g, rfl⟩ : ∃ g, f = g + 1 := by
        cases f with
        | zero => omega
        | succ g => exact ⟨g, rfl⟩
      have hdn : digWF (g + 1) n = UInt8.ofNat (n % 128 + 128) :: digWF g (n / 128) := by rw [digWF, if_neg (by omega)]
      rw [hdn] at hout
      rw [hi7 n hn64]
      have fin : ∀ (i : Nat) (ws : List V) (H : List O), ws = [.ms 1 1 0 (out ++ [UInt8.ofNat (n % 128 + 128)]).length false, .int .u64 (Int.fdiv (n : Int) (2 ^ min (7 : Int).toNat IntKind.u64.bits))] → (getO H 1 = .buf (bs (out ++ [UInt8.ofNat (n % 128 + 128)]))) → H.length = 2 → ANext 0 (g + 1 + 1) (digInvW l N) ws H := fun i ws H e1 e2 e3 => by
        subst e1
        refine .go [1] ?_ (g + 1) (by omega) ⟨out ++ [UInt8.ofNat (n % 128 + 128)], n / 128, g, rfl, ?_, by omega, by omega, ?_, ?_, .inr ⟨?_, ?_⟩⟩
        · rw [e3]; rfl
        · rw [Nat.pow_succ] at hn
          exact Nat.div_lt_of_lt_mul (by rw [Nat.mul_comm]; exact hn)
        · rw [← hout]; simp
        · have := congrArg List.length hout
          have h10 := digW_len N
          have := digWF_pos g (n / 128)
          simp only [List.length_append, List.length_cons, List.length_nil] at *
          omega
        · rw [shr7]; rfl
        · simp only [gather, e2]; rfl
      have hcases : out = [] ∨ out ≠ [] := by cases out <;> simp
      rcases hcases with rfl | hne
      · refine ⟨Nat.le_refl 1, ?_⟩
        conv => whnf
        refine ⟨(show 1 * 1 ≤ 70368744177664 by decide), ?_⟩
        conv => whnf
        refine ⟨(show (0 : Int) ≤ 7 by decide), ?_⟩
        conv => whnf
        exact fin 1 _ [_, _] rfl rfl rfl
      · obtain ⟨x, r, hx⟩ := bs_ne hne
        refine ⟨Nat.le_refl 1, ?_⟩
        rw [hx]
        conv => whnf
        rw [← hx]
        refine ⟨fun e => absurd e (ne1 _), fun _ => ?_⟩
        conv => whnf
        refine ⟨(show (bs out ++ [[V.int .u8 ((UInt8.ofNat (n % 128 + 128)).toNat : Int)]]).length * 1 ≤ 70368744177664 by rw [List.length_append, hlo]; simp only [List.length_cons, List.length_nil]; omega), ?_⟩
        conv => whnf
        refine ⟨(show (0 : Int) ≤ 7 by decide), ?_⟩
        conv => whnf
        refine fin 1 _ _ ?_ ?_ rfl
        · show [V.ms 1 1 0 (bs out ++ [[V.int .u8 ((UInt8.ofNat (n % 128 + 128)).toNat : Int)]]).length false, .int .u64 (Int.fdiv (n : Int) (2 ^ min (7 : Int).toNat IntKind.u64.bits))] = _
          rw [bs_snoc, bs_len]
        · show O.buf (bs out ++ [[V.int .u8 ((UInt8.ofNat (n % 128 + 128)).toNat : Int)]]) = _
          rw [bs_snoc]
    · have c' := of_decide_eq_false c
      rw [hd (by omega)] at hout
      rw [lo7 n (by omega)]
      have hcases : out = [] ∨ out ≠ [] := by cases out <;> simp
      rcases hcases with rfl | hne
      · refine ⟨Nat.le_refl 1, ?_⟩
        conv => whnf
        refine ⟨(show 1 * 1 ≤ 70368744177664 by decide), ?_⟩
        conv => whnf
        rw [← hout] at h
        exact ⟨[1], rfl, h⟩
      · obtain ⟨x, r, hx⟩ := bs_ne hne
        refine ⟨Nat.le_refl 1, ?_⟩
        rw [hx]
        conv => whnf
        rw [← hx]
        refine ⟨fun e => absurd e (ne1 _), fun _ => ?_⟩
        conv => whnf
        refine ⟨(show (bs out ++ [[V.int .u8 ((UInt8.ofNat n).toNat : Int)]]).length * 1 ≤ 70368744177664 by rw [List.length_append, hlo]; simp only [List.length_cons, List.length_nil]; omega), ?_⟩
        conv => whnf
        rw [← hout, ← bs_len, ← bs_snoc] at h
        exact ⟨[1], rfl, h⟩
  · refine branch_i (fun c => ?_) (fun c => ?_) <;> try rw [c] <;> conv => whnf
    · have c' := of_decide_eq_true c
      obtain ⟨g, rfl⟩ : ∃ g, f = g + 1 := by
        cases f with
        | zero => omega
        | succ g => exact ⟨g, rfl⟩
      have hdn : digWF (g + 1) n = UInt8.ofNat (n % 128 + 128) :: digWF g (n / 128) := by rw [digWF, if_neg (by omega)]
      rw [hdn] at hout
      rw [hi7 n hn64]
      refine ⟨Nat.le_refl 1, ?_⟩
      conv => whnf
      refine ⟨by rw [hlo]; rfl, (show (List.drop 0 (bs out) ++ [[V.int .u8 ((UInt8.ofNat (n % 128 + 128)).toNat : Int)]]).length * 1 ≤ 70368744177664 by rw [List.length_append, List.drop_zero, hlo]; simp only [List.length_cons, List.length_nil]; omega), ?_⟩
      conv => whnf
      refine ⟨(show (0 : Int) ≤ 7 by decide), ?_⟩
      conv => whnf
      refine .go [2] rfl (g + 1) (by omega) ⟨out ++ [UInt8.ofNat (n % 128 + 128)], n / 128, g, rfl, ?_, by omega, by omega, ?_, ?_, .inr ⟨?_, ?_⟩⟩
      · rw [Nat.pow_succ] at hn
        exact Nat.div_lt_of_lt_mul (by rw [Nat.mul_comm]; exact hn)
      · rw [← hout]; simp
      · have := congrArg List.length hout
        have h10 := digW_len N
        have := digWF_pos g (n / 128)
        simp only [List.length_append, List.length_cons, List.length_nil] at *
        omega
      · show [V.ms 1 0 0 (List.drop 0 (bs out) ++ [[V.int .u8 ((UInt8.ofNat (n % 128 + 128)).toNat : Int)]]).length false, .int .u64 (Int.fdiv (n : Int) (2 ^ min (7 : Int).toNat IntKind.u64.bits))] = _
        rw [shr7, List.drop_zero, bs_snoc, bs_len]
      · show [O.buf (List.drop 0 (bs out) ++ [[V.int .u8 ((UInt8.ofNat (n % 128 + 128)).toNat : Int)]])] = _
        rw [List.drop_zero, bs_snoc]
    · have c' := of_decide_eq_false c
      rw [hd (by omega)] at hout
      rw [lo7 n (by omega)]
      refine ⟨Nat.le_refl 1, ?_⟩
      conv => whnf
      refine ⟨by rw [hlo]; rfl, (show (List.drop 0 (bs out) ++ [[V.int .u8 ((UInt8.ofNat n).toNat : Int)]]).length * 1 ≤ 70368744177664 by rw [List.length_append, List.drop_zero, hlo]; simp only [List.length_cons, List.length_nil]; omega), ?_⟩
      conv => whnf
      rw [← hout, ← bs_len, ← bs_snoc] at h
      exact ⟨[2], rfl, h⟩

end Go.Proofs.YtocjhaahifpnbaaDoorPg

/- Writers of bytes: numbers and texts whole. -/
namespace Go.Proofs.YtocjhaahifpnbaaDoorPg
open Go Go.RowKit
set_option linter.unusedSimpArgs false
set_option linter.unusedVariables false

variable {Q : V → List O → Prop}

theorem u64_of {n : Int} (h0 : 0 ≤ n) (h1 : n ≤ 9223372036854775807) : IntKind.u64.wrap n = ((n.toNat : Nat) : Int) := by rw [wrap_u64]; omega

theorem WNumber_spec {l : List UInt8} {f : Bool} {n : Int} (h0 : 0 ≤ n) (h1 : n ≤ 9223372036854775807) (hl : l.length ≤ 1099511627776) (h : Q (.ms 1 0 0 (l ++ numW n).length false) [.buf (bs (l ++ numW n))]) :
    ACall Tryd.prog 54 0 [.sl 1 (bs l) f, .int .i64 n] [] Q := by
  refine by_body Tryd.func54 0 rfl (Nat.le_of_ble_eq_true rfl) ?_
  conv => whnf
  refine .pure (own_spec ⟨rfl, ?_⟩)
  conv => whnf
  rw [u64_of h0 h1]
  refine .call [] 0 ⟨rfl, rfl, rfl⟩ (digits_w (N := n.toNat) (by omega) hl ?_)
  conv => whnf
  exact ⟨[0], rfl, h⟩

theorem WText_spec {l s : List UInt8} {f : Bool} (hs : s.length ≤ 1099511627776) (hl : l.length ≤ 1099511627776) (h : Q (.ms 1 0 0 (l ++ txtW s).length false) [.buf (bs (l ++ txtW s))]) :
    ACall Tryd.prog 55 0 [.sl 1 (bs l) f, .str s] [] Q := by
  refine by_body Tryd.func55 0 rfl (Nat.le_of_ble_eq_true rfl) ?_
  conv => whnf
  refine .call [] 0 ⟨rfl, rfl, rfl⟩ (WNumber_spec (n := (s.length : Int)) (by omega) (by omega) hl ?_)
  conv => whnf
  have hd := digW_len s.length
  have e : bs (l ++ numW (s.length : Int)) ++ bs s = bs (l ++ txtW s) := by
    rw [← bs_app, List.append_assoc]; rfl
  refine ⟨by rw [bs_len]; rfl, (show (List.drop 0 (bs (l ++ numW (s.length : Int))) ++ bs s).length * 1 ≤ 70368744177664 by
    rw [List.drop_zero, e, bs_len]
    unfold txtW
    simp only [List.length_append]; omega), ?_⟩
  conv => whnf
  refine ⟨[1], rfl, ?_⟩
  show Q (.ms 1 0 0 (List.drop 0 (bs (l ++ numW (s.length : Int))) ++ bs s).length false) [.buf (List.drop 0 (bs (l ++ numW (s.length : Int))) ++ bs s)]
  rw [List.drop_zero, e, bs_len]
  exact h

def rdigInv (N : Nat) (m : Nat) (ws : List V) (H : List O) : Prop :=
  ∃ (out : List UInt8) (n f : Nat), m = f + 1 ∧ n < 128 ^ (f + 1) ∧ f ≤ 9 ∧ n < 2 ^ 64 ∧ out ++ digWF f n = digW N ∧ out.length ≤ 9 ∧
    ((out = [] ∧ ws = [.int .u64 n, .nils] ∧ H = []) ∨ (ws = [.int .u64 n, .ms 1 0 0 out.length false] ∧ H = [.buf (bs out)]))

theorem tdiv128 (n : Nat) (h : n < 2 ^ 64) : IntKind.u64.wrap (Int.tdiv (n : Int) 128) = ((n / 128 : Nat) : Int) := by
  rw [show Int.tdiv (n : Int) 128 = ((n / 128 : Nat) : Int) from rfl, wrap_u64]; omega

theorem tmod128 (n : Nat) : IntKind.u8.wrap (Int.tmod (n : Int) 128) = ((n % 128 : Nat) : Int) := by
  have ew : ∀ n : Int, IntKind.u8.wrap n = n % 256 := fun n => by simp [IntKind.wrap, IntKind.bits, IntKind.signed]
  rw [show Int.tmod (n : Int) 128 = ((n % 128 : Nat) : Int) from rfl, ew]; omega

theorem add128 (n : Nat) : IntKind.u8.wrap (((n % 128 : Nat) : Int) + 128) = (((UInt8.ofNat (n % 128 + 128)).toNat : Nat) : Int) := by
  have ew : ∀ n : Int, IntKind.u8.wrap n = n % 256 := fun n => by simp [IntKind.wrap, IntKind.bits, IntKind.signed]
  rw [ew, ofNat_lt (by omega)]; omega

set_option maxRecDepth 8000 in
set_option maxHeartbeats 8000000 in
theorem Rdigits_w {N : Nat} (hN : N < 2 ^ 64) (h : Q (.ms 1 0 0 (digW N).length false) [.buf (bs (digW N))]) : ACall Tryd.prog 75 0 [.int .u64 N] [] Q := by
  refine by_body Tryd.func75 0 rfl (Nat.le_of_ble_eq_true rfl) ?_
  conv => whnf
  refine ⟨⟨[0, 3], rdigInv N, .at 10 ⟨[], N, 9, rfl, ?_, by omega, hN, rfl, by simp, .inl ⟨rfl, rfl, rfl⟩⟩, ?_⟩⟩
  · exact Nat.lt_of_lt_of_le hN (by decide)
  rintro m ws H ⟨out, n, f, rfl, hn, hf, hn64, hout, hlen, hshape⟩
  have hlo := bs_len out
  have hd : n < 128 → digWF f n = [UInt8.ofNat n] := fun hlt => by
    cases f with
    | zero => rfl
    | succ f => rw [digWF, if_pos hlt]
  have hdn : ¬ n < 128 → ∃ g, f = g + 1 ∧ digWF f n = UInt8.ofNat (n % 128 + 128) :: digWF g (n / 128) := fun hge => by
    cases f with
    | zero => omega
    | succ g => exact ⟨g, rfl, by rw [digWF, if_neg hge]⟩
  have nxt : ∀ (g : Nat) (ws : List V) (H : List O) (sel : List Nat) (H' : List O), f = g + 1 → digWF f n = UInt8.ofNat (n % 128 + 128) :: digWF g (n / 128) → selOk sel H.length 0 = true → ws.map (renV (idx sel)) = [.int .u64 (IntKind.u64.wrap (Int.tdiv (n : Int) 128)), .ms 1 0 0 (out ++ [UInt8.ofNat (n % 128 + 128)]).length false] → gather (idx sel) H sel = H' → H' = [.buf (bs (out ++ [UInt8.ofNat (n % 128 + 128)]))] → ANext 0 (f + 1) (rdigInv N) ws H := fun g ws H sel H' ef ed hsel e1 e2 e3 => by
    subst ef
    rw [ed] at hout
    refine .go sel hsel (g + 1) (by omega) ⟨out ++ [UInt8.ofNat (n % 128 + 128)], n / 128, g, rfl, ?_, by omega, by omega, ?_, ?_, .inr ⟨?_, ?_⟩⟩
    · rw [Nat.pow_succ] at hn
      exact Nat.div_lt_of_lt_mul (by rw [Nat.mul_comm]; exact hn)
    · rw [← hout]; simp
    · have := congrArg List.length hout
      have h10 := digW_len N
      have := digWF_pos g (n / 128)
      simp only [List.length_append, List.length_cons, List.length_nil] at *
      omega
    · rw [e1, tdiv128 n hn64]
    · rw [e2, e3]
  rcases hshape with ⟨rfl, rfl, rfl⟩ | ⟨rfl, rfl⟩ <;> conv => whnf
  · refine ⟨by decide, ?_⟩
    conv => whnf
    rw [tmod128]
    refine ⟨by decide, ?_⟩
    conv => whnf
    refine branch_i (fun c => ?_) (fun c => ?_) <;> try rw [c] <;> conv => whnf
    · have c' := of_decide_eq_true c
      rw [tdiv128 n hn64] at c'
      rw [hd (by omega)] at hout
      refine ⟨Nat.le_refl 1, ?_⟩
      conv => whnf
      refine ⟨(show 1 * 1 ≤ 70368744177664 by decide), ?_⟩
      conv => whnf
      rw [← hout] at h
      refine ⟨[1], rfl, ?_⟩
      have e1 : ((n % 128 : Nat) : Int) = (((UInt8.ofNat n).toNat : Nat) : Int) := by rw [ofNat_lt (by omega)]; omega
      show Q (.ms 1 0 0 1 false) [.buf [[.int .u8 ((n % 128 : Nat) : Int)]]]
      rw [e1]; exact h
    · have c' := of_decide_eq_false c
      rw [tdiv128 n hn64] at c'
      obtain ⟨g, ef, ed⟩ := hdn (by omega)
      rw [add128]
      refine ⟨Nat.le_refl 1, ?_⟩
      conv => whnf
      refine ⟨(show 1 * 1 ≤ 70368744177664 by decide), ?_⟩
      conv => whnf
      exact nxt g _ _ [1] _ ef ed rfl rfl rfl rfl
  · refine ⟨by decide, ?_⟩
    conv => whnf
    rw [tmod128]
    refine ⟨by decide, ?_⟩
    conv => whnf
    refine branch_i (fun c => ?_) (fun c => ?_) <;> try rw [c] <;> conv => whnf
    · have c' := of_decide_eq_true c
      rw [tdiv128 n hn64] at c'
      rw [hd (by omega)] at hout
      have e1 : ((n % 128 : Nat) : Int) = (((UInt8.ofNat n).toNat : Nat) : Int) := by rw [ofNat_lt (by omega)]; omega
      rw [e1]
      refine ⟨Nat.le_refl 1, ?_⟩
      conv => whnf
      refine ⟨by rw [hlo]; rfl, (show (List.drop 0 (bs out) ++ [[V.int .u8 ((UInt8.ofNat n).toNat : Int)]]).length * 1 ≤ 70368744177664 by rw [List.length_append, List.drop_zero, hlo]; simp only [List.length_cons, List.length_nil]; omega), ?_⟩
      conv => whnf
      rw [← hout, ← bs_len, ← bs_snoc] at h
      exact ⟨[2], rfl, h⟩
    · have c' := of_decide_eq_false c
      rw [tdiv128 n hn64] at c'
      obtain ⟨g, ef, ed⟩ := hdn (by omega)
      rw [add128]
      refine ⟨Nat.le_refl 1, ?_⟩
      conv => whnf
      refine ⟨by rw [hlo]; rfl, (show (List.drop 0 (bs out) ++ [[V.int .u8 ((UInt8.ofNat (n % 128 + 128)).toNat : Int)]]).length * 1 ≤ 70368744177664 by rw [List.length_append, List.drop_zero, hlo]; simp only [List.length_cons, List.length_nil]; omega), ?_⟩
      conv => whnf
      refine nxt g _ _ [2] [.buf (List.drop 0 (bs out) ++ [[V.int .u8 ((UInt8.ofNat (n % 128 + 128)).toNat : Int)]])] ef ed rfl ?_ rfl ?_
      · show [V.int .u64 (IntKind.u64.wrap (Int.tdiv (n : Int) 128)), V.ms 1 0 0 (List.drop 0 (bs out) ++ [[V.int .u8 ((UInt8.ofNat (n % 128 + 128)).toNat : Int)]]).length false] = _
        rw [List.drop_zero, bs_snoc, bs_len]
      · rw [List.drop_zero, bs_snoc]

theorem RWNumber_spec {n : Int} (h0 : 0 ≤ n) (h1 : n ≤ 9223372036854775807) (h : Q (.ms 1 0 0 (numW n).length false) [.buf (bs (numW n))]) :
    ACall Tryd.prog 56 0 [.int .i64 n] [] Q := by
  refine by_body Tryd.func56 0 rfl (Nat.le_of_ble_eq_true rfl) ?_
  conv => whnf
  rw [u64_of h0 h1]
  refine .call [] 0 ⟨rfl, rfl, rfl⟩ (Rdigits_w (N := n.toNat) (by omega) ?_)
  conv => whnf
  exact ⟨[0], rfl, h⟩

theorem RWText_spec {s : List UInt8} (hs : s.length ≤ 1099511627776) (h : Q (.ms 1 0 0 (txtW s).length false) [.buf (bs (txtW s))]) :
    ACall Tryd.prog 57 0 [.str s] [] Q := by
  refine by_body Tryd.func57 0 rfl (Nat.le_of_ble_eq_true rfl) ?_
  conv => whnf
  refine .call [] 0 ⟨rfl, rfl, rfl⟩ (RWNumber_spec (n := (s.length : Int)) (by omega) (by omega) ?_)
  conv => whnf
  have hd := digW_len s.length
  have e : bs (numW (s.length : Int)) ++ bs s = bs (txtW s) := by
    rw [← bs_app]; rfl
  refine ⟨by rw [bs_len]; rfl, (show (List.drop 0 (bs (numW (s.length : Int))) ++ bs s).length * 1 ≤ 70368744177664 by
    rw [List.drop_zero, e, bs_len]
    unfold txtW
    simp only [List.length_append]; omega), ?_⟩
  conv => whnf
  refine ⟨[1], rfl, ?_⟩
  show Q (.ms 1 0 0 (List.drop 0 (bs (numW (s.length : Int))) ++ bs s).length false) [.buf (List.drop 0 (bs (numW (s.length : Int))) ++ bs s)]
  rw [List.drop_zero, e, bs_len]
  exact h

/-- Bytes put behind bytes. -/
theorem app_bs {i j n m : Nat} {f : Bool} {X Y : List UInt8} {H : List O} {K : V → List O → Prop} (hij : Nat.beq i j = false) (hX : getO H i = .buf (bs X)) (hY : getO H j = .buf (bs Y)) (hn : n = X.length) (hm : m = Y.length) (hs : X.length + Y.length ≤ 70368744177664)
    (hK : copyH (setO H i .dead ++ [.buf (bs (X ++ Y))]) fun H' => K (.ms 1 (setO H i .dead).length 0 (X ++ Y).length false) H') :
    0 + m ≤ (bs Y).length ∧ aapp 1 1 (.ms 1 i 0 n false) (.ms 1 j 0 m f) (List.take m (List.drop 0 (bs Y))) H K := by
  subst hn hm
  refine ⟨by rw [bs_len]; omega, ?_⟩
  unfold aapp sameBuf
  simp only [hij]
  unfold aappend
  simp only [show Nat.beq 1 1 = true from rfl, hX]
  refine ⟨by rw [bs_len]; rfl, ?_⟩
  have e : List.drop 0 (bs X) ++ List.take Y.length (List.drop 0 (bs Y)) = bs (X ++ Y) := by
    rw [List.drop_zero, List.drop_zero, bs_app, ← bs_len Y, List.take_length]
  rw [e]
  refine ⟨by rw [bs_len, List.length_append]; omega, ?_⟩
  rw [bs_len]
  exact hK

theorem app_str {i n : Nat} {X s : List UInt8} {H : List O} {K : V → List O → Prop} (hX : getO H i = .buf (bs X)) (hn : n = X.length) (hs : X.length + s.length ≤ 70368744177664)
    (hK : copyH (setO H i .dead ++ [.buf (bs (X ++ s))]) fun H' => K (.ms 1 (setO H i .dead).length 0 (X ++ s).length false) H') :
    aapp 1 1 (.ms 1 i 0 n false) (.str s) (bs s) H K := by
  subst hn
  unfold aapp sameBuf
  simp only
  unfold aappend
  simp only [show Nat.beq 1 1 = true from rfl, hX]
  refine ⟨by rw [bs_len]; rfl, ?_⟩
  have e : List.drop 0 (bs X) ++ bs s = bs (X ++ s) := by
    rw [List.drop_zero, bs_app]
  rw [e]
  refine ⟨by rw [bs_len, List.length_append]; omega, ?_⟩
  rw [bs_len]
  exact hK

theorem numW_len (n : Int) : (numW n).length ≤ 10 := digW_len _

end Go.Proofs.YtocjhaahifpnbaaDoorPg

/- Points: written as bytes, by the program. -/
namespace Go.Proofs.YtocjhaahifpnbaaDoorPg
open Go Go.RowKit
set_option linter.unusedSimpArgs false
set_option linter.unusedVariables false

variable {Q : V → List O → Prop}

theorem loadV_leaf {ti : TI} {cs : List V} {off : Nat} {v : V} {K : V → Prop} (hg : ti.good = true) (ha : ti.kind.isAgg = false) (h : cs[off]? = some v) (hK : K v) : loadV ti cs off K := by
  unfold loadV
  simp only [hg, ha, h, force_iff]; exact hK

def SmallW (l : List Wk) : Prop := ∀ w ∈ l, w.t.length ≤ 1000 ∧ w.k.length ≤ 1000

theorem numsW_len : ∀ (L : List Int), (L.flatMap numW).length ≤ 10 * L.length
  | [] => by simp
  | n :: L => by
    have := numsW_len L
    have h := digW_len n.toNat
    simp only [List.flatMap_cons, List.length_append, List.length_cons]
    unfold numW at *
    omega

theorem wkW_len {w : Wk} (h : w.t.length ≤ 1000 ∧ w.k.length ≤ 1000) : (wkW w).length ≤ 2100 := by
  have h1 := txtW_len w.t
  have h2 := txtW_len w.k
  unfold wkW
  simp only [List.length_append, List.length_cons]; omega

theorem wksW_le : ∀ {l : List Wk}, SmallW l → (wksW l).length ≤ 2100 * l.length
  | [], _ => by simp [wksW]
  | w :: l, h => by
    have h1 := wkW_len (h w (by simp))
    have h2 := wksW_le (l := l) fun x hx => h x (by simp [hx])
    have e : wksW (w :: l) = wkW w ++ wksW l := by simp [wksW]
    rw [e, List.length_append, List.length_cons]; omega

theorem wksW_snoc {l : List Wk} {i : Nat} {w : Wk} (h : l[i]? = some w) : wksW (l.take (i + 1)) = wksW (l.take i) ++ wkW w := by
  rw [List.take_add_one, h]
  simp [wksW]

def ptC (a b c : Int) (l : List Wk) : O := .cells [.int .i64 a, .int .i64 b, .int .i64 c, .sl 3 (wks l) false]

def wnInv (a m c : Int) (l : List Wk) (k : Nat) (ws : List V) (H : List O) : Prop :=
  ∃ i : Nat, ws = [.ptr 0 0, .sl 1 (bs (([a, m, c, (l.length : Int)].take i).flatMap numW)) false, .agg [fI a, fI m, fI c, fI l.length], fI i] ∧ H = [ptC a m c l] ∧ i ≤ 4 ∧ k = 4 - i

def wwInv (a m c : Int) (l : List Wk) (k : Nat) (ws : List V) (H : List O) : Prop :=
  ∃ i : Nat, ws = [.sl 1 (bs ([a, m, c, (l.length : Int)].flatMap numW ++ wksW (l.take i))) false, .sl 3 (wks l) false, fI l.length, fI i] ∧ H = [] ∧ i ≤ l.length ∧ k = l.length - i

theorem frz_bs (l : List UInt8) (n : Nat) (h : n = l.length) : List.take n (List.drop 0 (bs l)) = bs l := by
  subst h
  rw [List.drop_zero, ← bs_len, List.take_length]

set_option maxRecDepth 8000 in
set_option maxHeartbeats 16000000 in
theorem PWrite_spec {a m c : Int} {l : List Wk} (ha : I64V a) (hm : I64V m) (hc : I64V c) (hl : l.length ≤ 1000) (hs : SmallW l) (h1 : mayP a m c l = true → Q (.tup [.sl 1 (bs (ptW a m c l)) false, fI 0]) []) (h0 : mayP a m c l = false → Q (.tup [.nils, fI 1]) []) :
    ACall Tryd.prog 30 0 [pt a m c l] [] Q := by
  refine ACall.ret (by_body Tryd.func30 0 rfl (Nat.le_of_ble_eq_true rfl) ?_)
  conv => whnf
  have hk : ShortKeys l := fun w hw => (hs w hw).2
  refine .pure (MayP_spec (a := a) (b := m) (c := c) hl hk ⟨rfl, ?_⟩)
  cases hmay : mayP a m c l <;> conv => whnf
  focus exact ⟨[], rfl, .done [] rfl (h0 hmay)⟩
  have hpos : 0 ≤ a ∧ 0 ≤ m ∧ 0 ≤ c := by
    unfold mayP at hmay
    simp only [Bool.and_eq_true, decide_eq_true_eq] at hmay
    exact ⟨hmay.1, hmay.2.1, hmay.2.2.1⟩
  have hlk := wks_len l
  rw [hlk]
  refine ⟨⟨[1, 4, 22, 23], wnInv a m c l, .frz 5 (.sub _ _ (.cons (VSub.refl _) (.cons (nils_sl 1 false) (VSubs.refl _))) (HSub.refl _) (.go [0] rfl 4 (by omega) ⟨0, rfl, rfl, by omega, rfl⟩)), ?_⟩⟩
  rintro k ws H ⟨i, rfl, rfl, hi, rfl⟩
  have hnum : ∀ j, j < 4 → ∃ n : Int, [a, m, c, (l.length : Int)][j]? = some n ∧ 0 ≤ n ∧ n ≤ 9223372036854775807 := fun j hj => by
    obtain rfl | rfl | rfl | rfl : j = 0 ∨ j = 1 ∨ j = 2 ∨ j = 3 := by omega
    · exact ⟨a, rfl, hpos.1, ha.2⟩
    · exact ⟨m, rfl, hpos.2.1, hm.2⟩
    · exact ⟨c, rfl, hpos.2.2, hc.2⟩
    · exact ⟨_, rfl, by omega, by omega⟩
  have hcell : ∀ j n, [a, m, c, (l.length : Int)][j]? = some n → [fI a, fI m, fI c, fI l.length][j]? = some (fI n) := fun j n h => by
    have : [fI a, fI m, fI c, fI l.length] = [a, m, c, (l.length : Int)].map fI := rfl
    rw [this, List.getElem?_map, h]; rfl
  have hpre := numsW_len ([a, m, c, (l.length : Int)].take i)
  have hpl : ([a, m, c, (l.length : Int)].take i).length ≤ 4 := by rw [List.length_take]; simp only [List.length_cons, List.length_nil]; omega
  conv => whnf
  refine branch_i (fun c1 => ?_) (fun c1 => ?_) <;> try rw [c1] <;> conv => whnf
  · have c1' := of_decide_eq_true c1
    obtain ⟨n, hn, hn0, hn1⟩ := hnum i (by omega)
    refine ⟨⟨by omega, by omega⟩, ?_⟩
    refine loadV_leaf rfl rfl (v := fI n) ?_ ?_
    · show [fI a, fI m, fI c, fI l.length][i * 1]? = _
      rw [Nat.mul_one]; exact hcell i n hn
    conv => whnf
    refine .call [] 0 ⟨rfl, rfl, rfl⟩ (WNumber_spec hn0 hn1 (by omega) ?_)
    conv => whnf
    have hw : IntKind.i64.wrap ((i : Int) + 1) = ((i + 1 : Nat) : Int) := by rw [wrapL (by omega)]; omega
    rw [hw]
    have hnext : List.flatMap numW (List.take i [a, m, c, (l.length : Int)]) ++ numW n = List.flatMap numW (List.take (i + 1) [a, m, c, (l.length : Int)]) := by
      rw [List.take_add_one, hn]; simp
    rw [hnext]
    refine .frz 1 rfl ?_ (.go [0] rfl (4 - (i + 1)) (by omega) ⟨i + 1, ?_, rfl, by omega, rfl⟩)
    · repeat (first | exact trivial | refine And.intro (by rw [bs_len, Nat.zero_add]; exact Nat.le_refl _) ?_)
    · show [V.ptr 0 0, V.sl 1 (List.take _ (List.drop 0 (bs _))) false, _, _] = _
      rw [frz_bs _ _ rfl]
      rfl
  · have c1' := of_decide_eq_false c1
    have : i = 4 := by omega
    subst this
    rw [hlk]
    refine ⟨⟨[4, 31, 32, 33], wwInv a m c l, .frz (l.length + 1) (.go [] rfl l.length (by omega) ⟨0, ?_, rfl, by omega, rfl⟩), ?_⟩⟩
    · show [V.sl 1 (bs (List.flatMap numW (List.take 4 [a, m, c, (l.length : Int)]))) false, .sl 3 (wks l) false, fI l.length, fI 0] = _
      rw [show [a, m, c, (l.length : Int)].flatMap numW ++ wksW (List.take 0 l) = List.flatMap numW (List.take 4 [a, m, c, (l.length : Int)]) by simp [wksW]]
      rfl
    rintro k ws H ⟨i, rfl, rfl, hi2, rfl⟩
    have h40 := numsW_len [a, m, c, (l.length : Int)]
    have hwl := wksW_le (l := l.take i) fun w hw => hs w (List.mem_of_mem_take hw)
    have hti : (l.take i).length ≤ i := by rw [List.length_take]; omega
    have htot : ([a, m, c, (l.length : Int)].flatMap numW ++ wksW (l.take i)).length ≤ 40 + 2100 * 1000 := by
      rw [List.length_append]
      simp only [List.length_cons, List.length_nil] at h40
      omega
    conv => whnf
    refine branch_i (fun c2 => ?_) (fun c2 => ?_) <;> try rw [c2] <;> conv => whnf
    rotate_left
    focus
      have c2' := of_decide_eq_false c2
      have : i = l.length := by omega
      subst this
      refine ⟨[], rfl, .done [] rfl ?_⟩
      have hh := h1 hmay
      have e : [a, m, c, (l.length : Int)].flatMap numW ++ wksW (l.take l.length) = ptW a m c l := by
        rw [List.take_length]
        unfold ptW
        simp [List.append_assoc]
      show Q (.tup [.sl 1 (bs ([a, m, c, (l.length : Int)].flatMap numW ++ wksW (l.take l.length))) false, fI 0]) []
      rw [e]; exact hh
    have c2' := of_decide_eq_true c2
    have hlt : i < l.length := by omega
    have hg : l[i]? = some l[i] := List.getElem?_eq_getElem hlt
    have hsw := hs l[i] (List.getElem_mem hlt)
    have hnx := wksW_snoc hg
    generalize l[i] = w at *
    generalize hpre2 : [a, m, c, (l.length : Int)].flatMap numW ++ wksW (l.take i) = B at *
    refine ⟨_, ⟨by omega, wks_get hg⟩, ?_⟩
    conv => whnf
    have hw : IntKind.i64.wrap ((i : Int) + 1) = ((i + 1 : Nat) : Int) := by rw [wrapL (by omega)]; omega
    have hwt := txtW_len w.t
    have go2 : ∀ (d : UInt8) (x : Int) (Z : Prop), (∀ y, y = B ++ txtW w.t ++ [d] ++ txtW w.k → Z) → Z := fun d x Z hz => hz _ rfl
    have hfin : B ++ txtW w.t ++ [if w.d then 1 else 0] ++ txtW w.k = [a, m, c, (l.length : Int)].flatMap numW ++ wksW (l.take (i + 1)) := by
      rw [hnx, ← hpre2]
      unfold wkW
      simp [List.append_assoc]
    cases hd : w.d <;> rw [hd] at hfin <;> conv => whnf
    all_goals
      refine ⟨[0, 1, 2, 4, 7, 8, 3, 5, 6, 9, 10], by kernel_rfl, by kernel_rfl, ?_⟩
      conv => whnf
      refine .call [] 0 ⟨rfl, rfl, rfl⟩ (WText_spec (by omega) (by omega) ?_)
      repeat (conv => whnf
              refine ⟨rfl, ?_⟩)
      conv => whnf
      refine ⟨Nat.le_refl 1, ?_⟩
      conv => whnf
      have ea : ∀ b : UInt8, bs (B ++ txtW w.t) ++ [[V.int .u8 b.toNat]] = bs (B ++ txtW w.t ++ [b]) := fun b => bs_snoc _ _
      refine ⟨by rw [bs_len]; rfl, (show (List.drop 0 (bs (B ++ txtW w.t)) ++ [[V.int .u8 _]]).length * 1 ≤ 70368744177664 by
        rw [List.drop_zero, List.length_append, bs_len]
        simp only [List.length_append, List.length_cons, List.length_nil]; omega), ?_⟩
      repeat (conv => whnf
              refine ⟨rfl, ?_⟩)
      conv => whnf
      have h48 : ∀ (d : UInt8) (Q' : V → List O → Prop), (Q' (.ms 1 1 0 (B ++ txtW w.t ++ [d] ++ txtW w.k).length false) [.dead, .buf (bs (B ++ txtW w.t ++ [d] ++ txtW w.k))]) → ACall Tryd.prog 55 1 [.ms 1 0 0 (List.drop 0 (bs (B ++ txtW w.t)) ++ [[V.int .u8 d.toNat]]).length false, .str w.k] [.buf (List.drop 0 (bs (B ++ txtW w.t)) ++ [[V.int .u8 d.toNat]])] Q' := fun d Q' hq => by
        refine ACall.eat rfl rfl ?_
        rw [List.drop_zero, ea d]
        refine WText_spec (by omega) ?_ ?_
        · simp only [List.length_append, List.length_cons, List.length_nil]; omega
        · exact hq
      refine .call [3] 1 ⟨rfl, rfl, rfl⟩ ?_
      first
        | (refine h48 0 _ ?_
           generalize hY : B ++ txtW w.t ++ [0] ++ txtW w.k = Y at *)
        | (refine h48 1 _ ?_
           generalize hY : B ++ txtW w.t ++ [1] ++ txtW w.k = Y at *)
      conv => whnf
      have hYe : Y = [a, m, c, (l.length : Int)].flatMap numW ++ wksW (l.take (i + 1)) := by
        rw [← hfin, ← hY]; rfl
      rw [hw]
      refine .frz 4 rfl ?_ (.go [] rfl (l.length - (i + 1)) (by omega) ⟨i + 1, ?_, rfl, by omega, rfl⟩)
      · repeat (first | exact trivial | refine And.intro (by rw [bs_len, Nat.zero_add]; exact Nat.le_refl _) ?_)
      · show [V.sl 1 (List.take _ (List.drop 0 (bs _))) false, _, _, _] = _
        rw [frz_bs _ _ rfl, hYe]
        rfl

end Go.Proofs.YtocjhaahifpnbaaDoorPg
