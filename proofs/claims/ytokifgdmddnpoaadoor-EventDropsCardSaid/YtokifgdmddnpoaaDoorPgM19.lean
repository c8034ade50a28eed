/- Own texts, laid together: Pg06DNames, Pg06DSch, Pg06DSchB, Pg06DSchC, Pg06DSchD, Pg06DSchE, Pg06DSchF, Pg06DSchG, Pg06DSchH, Pg06DSchI, Pg06DSchJ, Pg06DEv1, Pg06DEv2, Pg06DEv3, Pg06DVal, Pg06DValB, Pg06DEv4, Pg06DEv5, Pg06DLay, Pg06DLayB, Pg06DLayC, Pg06DLayD, Pg06DLayE. -/
import Derived.Test.YtokifgdmddnpoaaDoorPgM18
import Derived.Lib.Bytealg
import Derived.Laws.BitsLemmas
import Derived.Test.YtokifgdmddnpoaaDoorPgM12
import Derived.Test.YtokifgdmddnpoaaDoorPgM13
/- The library's searches, and the names of a schema. -/
namespace Go.Proofs.YtokifgdmddnpoaaDoorPg
open Go Go.RowKit
set_option linter.unusedSimpArgs false
set_option linter.unusedVariables false

variable {Q : V → List O → Prop}

theorem IdxByteStr_ext {H : List O} (s : List UInt8) (c : Int) : AExt Tryd.prog 115 [.str s, .int .u8 c] H (.int .i64 (Lib.indexByte s c.toNat.toUInt8)) := ⟨fun I ρ w us _ h => by
  obtain ⟨u0, l0, e0, h0, h⟩ := h.cons_inv
  obtain ⟨u1, l1, e1, h1, h⟩ := h.cons_inv
  have e2 : l1 = [] := List.eq_nil_of_length_eq_zero h.1.symm
  obtain ⟨b, hb, rfl⟩ := vr_str h0
  have := vr_int h1
  subst this
  have eu : us = #[Value.string b, Value.int .u8 c] := by
    apply Array.ext'
    rw [e0, e1, e2]
  subst eu
  refine ⟨_, ?_, .int _ _ _⟩
  rw [run_callFunc_extern Tryd.func115 (by kernel_rfl) (by kernel_rfl) (by kernel_rfl) (e := Extern.BytealgIndexByte.indexByte) (by kernel_rfl), Lib.run_indexByteString, hb]
  rfl⟩

theorem IndexByteL_spec {s : List UInt8} {c : Int} (h : Q (.int .i64 (Lib.indexByte s c.toNat.toUInt8)) []) : ACall Tryd.prog 110 0 [.str s, .int .u8 c] [] Q := by
  refine by_body Tryd.func110 0 rfl (Nat.le_of_ble_eq_true rfl) ?_
  conv => whnf
  refine ⟨_, IdxByteStr_ext s c, ?_⟩
  conv => whnf
  exact ⟨[], rfl, h⟩

theorem IndexByte_spec {s : List UInt8} {c : Int} (h : Q (.int .i64 (Lib.indexByte s c.toNat.toUInt8)) []) : ACall Tryd.prog 98 0 [.str s, .int .u8 c] [] Q := by
  refine by_body Tryd.func98 0 rfl (Nat.le_of_ble_eq_true rfl) ?_
  conv => whnf
  refine .call [] 0 ⟨rfl, rfl, rfl⟩ (IndexByteL_spec ?_)
  conv => whnf
  exact ⟨[], rfl, h⟩

theorem ValidRune_spec {r : Int} (h : ∀ b, Utf8.valid r = b → Q (.bool b) []) : ACall Tryd.prog 99 0 [.int .i32 r] [] Q := by
  refine by_body Tryd.func99 0 rfl (Nat.le_of_ble_eq_true rfl) ?_
  conv => whnf
  refine branch_i (fun c => ?_) (fun c => ?_) <;> try rw [c] <;> conv => whnf
  all_goals try (refine branch_i (fun c => ?_) (fun c => ?_) <;> try rw [c] <;> conv => whnf)
  all_goals try (refine branch_i (fun c => ?_) (fun c => ?_) <;> try rw [c] <;> conv => whnf)
  all_goals try (refine branch_i (fun c => ?_) (fun c => ?_) <;> try rw [c] <;> conv => whnf)
  all_goals simp only [decide_eq_true_eq, decide_eq_false_iff_not] at *
  all_goals first
    | exact ⟨[], rfl, h true (by simp [Utf8.valid]; omega)⟩
    | exact ⟨[], rfl, h false (by simp [Utf8.valid]; omega)⟩

theorem StrIndex_one {s : List UInt8} {b : UInt8} (hs : s.length ≠ 1) (h : Q (.int .i64 (Lib.indexByte s b)) []) : ACall Tryd.prog 102 0 [.str s, .str [b]] [] Q := by
  refine by_body Tryd.func102 0 rfl (Nat.le_of_ble_eq_true rfl) ?_
  conv => whnf
  refine branch_i (fun c => ?_) (fun c => ?_) <;> try rw [c] <;> conv => whnf
  · exfalso
    simp at c
    rw [← c] at hs
    simp at hs
  · refine ⟨b, ⟨by decide, rfl⟩, ?_⟩
    conv => whnf
    refine .call [] 0 ⟨rfl, rfl, rfl⟩ (IndexByteL_spec ?_)
    conv => whnf
    exact ⟨[], rfl, by rw [show ((b.toNat : Int).toNat.toUInt8) = b by simp]; exact h⟩

theorem Index_one {s : List UInt8} {b : UInt8} (hs : s.length ≠ 1) (h : Q (.int .i64 (Lib.indexByte s b)) []) : ACall Tryd.prog 80 0 [.str s, .str [b]] [] Q := by
  refine by_body Tryd.func80 0 rfl (Nat.le_of_ble_eq_true rfl) ?_
  conv => whnf
  refine .call [] 0 ⟨rfl, rfl, rfl⟩ (StrIndex_one hs ?_)
  conv => whnf
  exact ⟨[], rfl, h⟩

theorem Contains_one {s : List UInt8} {b : UInt8} (hs : s.length ≠ 1) (h : Q (.bool (decide (0 ≤ Lib.indexByte s b))) []) : ACall Tryd.prog 58 0 [.str s, .str [b]] [] Q := by
  refine by_body Tryd.func58 0 rfl (Nat.le_of_ble_eq_true rfl) ?_
  conv => whnf
  refine .call [] 0 ⟨rfl, rfl, rfl⟩ (Index_one hs ?_)
  conv => whnf
  exact ⟨[], rfl, h⟩

theorem indexByte_none : ∀ (s : List UInt8) (c : UInt8), (∀ b ∈ s, b ≠ c) → Lib.indexByte s c = -1
  | [], c, _ => rfl
  | b :: l, c, h => by
    unfold Lib.indexByte
    have : (b == c) = false := by simpa using h b (by simp)
    rw [this, indexByte_none l c fun x hx => h x (by simp [hx])]
    rfl

theorem decL_ascii {b : UInt8} {r : List UInt8} (h : b.toNat < 128) : decL (b :: r) = (b.toNat, 1) := by
  simp [decL, h]

theorem drop_facts {α : Type} {s : List α} {pos : Nat} {b : α} {l : List α} (h : s.drop pos = b :: l) : b ∈ s ∧ pos < s.length ∧ s.drop (pos + 1) = l ∧ s = s.take pos ++ b :: l := by
  have hb : b ∈ s.drop pos := by rw [h]; simp
  refine ⟨List.mem_of_mem_drop hb, ?_, ?_, ?_⟩
  · rcases Nat.lt_or_ge pos s.length with h' | h'
    · exact h'
    · rw [List.drop_eq_nil_iff.2 h'] at h; cases h
  · rw [← List.drop_drop, h]; rfl
  · rw [← h, List.take_append_drop]

theorem last_byte {r : Int} (hv : Utf8.valid r = true) (h : ¬ (0 ≤ r ∧ r < 128)) : ∃ c, (Utf8.encode r).data.toList[(Utf8.encode r).data.toList.length - 1]? = some c ∧ 128 ≤ c.toNat ∧ 2 ≤ (Utf8.encode r).data.toList.length ∧ (Utf8.encode r).data.toList.length ≤ 4 := by
  have h0 : 0 ≤ r := by simp [Utf8.valid] at hv; omega
  obtain ⟨g1, g2, g3⟩ := encode_facts r hv (by omega)
  generalize Utf8.encode r = ba at *
  have hsz : ba.data.toList.length = ba.size := by rw [Array.length_toList]; rfl
  have hlt : ba.size - 1 < ba.size := by omega
  refine ⟨ba[ba.size - 1], ?_, g3 hlt, by omega, by omega⟩
  rw [hsz, Array.getElem?_toList]
  exact Array.getElem?_eq_getElem hlt

theorem wrap_i64 {x : Int} (h0 : -9223372036854775808 ≤ x) (h1 : x < 9223372036854775808) : IntKind.i64.wrap x = x := by
  rw [IntKind.wrap_i64]; omega

/-- strings.IndexRune over a text of ASCII. -/
theorem IndexRune_ascii {s : List UInt8} (hs : ∀ b ∈ s, b.toNat < 128) {r : Int} (h0 : 0 ≤ r ∧ r < 128 → Q (.int .i64 (Lib.indexByte s (IntKind.u8.wrap r).toNat.toUInt8)) []) (h1 : ¬ (0 ≤ r ∧ r < 128) → Q (.int .i64 (-1)) []) : ACall Tryd.prog 79 0 [.str s, .int .i32 r] [] Q := by
  refine by_body Tryd.func79 0 rfl (Nat.le_of_ble_eq_true rfl) ?_
  conv => whnf
  refine branch_i (fun c => ?_) (fun c => ?_) <;> try rw [c] <;> conv => whnf
  focus refine branch_i (fun c2 => ?_) (fun c2 => ?_) <;> try rw [c2] <;> conv => whnf
  focus
    refine .call [] 0 ⟨rfl, rfl, rfl⟩ (IndexByte_spec ?_)
    conv => whnf
    exact ⟨[], rfl, h0 ⟨of_decide_eq_true c, of_decide_eq_true c2⟩⟩
  all_goals
    have hr : ¬ (0 ≤ r ∧ r < 128) := by intro h; simp at *; omega
    replace h1 := h1 hr
    clear h0
    refine branch_i (fun c => ?_) (fun c => ?_) <;> try rw [c] <;> conv => whnf
    · refine ⟨⟨[175], fun n vs H => vs = [.ptr 0 0] ∧ ∃ pos, H = [.iter s pos] ∧ n = s.length - pos, .at (s.length - 0) ⟨rfl, 0, rfl, rfl⟩, ?_⟩⟩
      rintro n vs H ⟨rfl, pos, rfl, rfl⟩
      conv => whnf
      refine ⟨fun hd => ?_, fun b l hd => ?_⟩
      · conv => whnf
        exact ⟨[], rfl, h1⟩
      · obtain ⟨d1, d2, d3, d4⟩ := drop_facts hd
        rw [decL_ascii (hs b d1)]
        conv => whnf
        refine branch_i (fun c => ?_) (fun c => ?_) <;> try rw [c] <;> conv => whnf
        · have := of_decide_eq_true c
          have := hs b d1
          simp at *
          omega
        · refine .go [0] rfl (s.length - (pos + 1)) (by omega) ⟨rfl, pos + 1, rfl, rfl⟩
    · refine .call [] 0 ⟨rfl, rfl, rfl⟩ (ValidRune_spec fun v hv => ?_)
      conv => whnf
      refine branch_i (fun c => ?_) (fun c => ?_) <;> try rw [c] <;> conv => whnf
      · exact ⟨[], rfl, h1⟩
      · have hv' : v = true := by simpa using c
        subst hv'
        obtain ⟨c, l1, l2, l3, l4⟩ := last_byte hv hr
        generalize (Utf8.encode r).data.toList = rs at *
        have hw : IntKind.i64.wrap ((rs.length : Int) - 1) = (rs.length : Int) - 1 := wrap_i64 (by omega) (by omega)
        refine ⟨⟨[0, 7, 8, 9], fun n vs H => H = [] ∧ vs = [.str s, .str rs, .int .i64 ((rs.length : Int) - 1), .int .i64 ((rs.length : Int) - 1)], .at 0 ⟨rfl, ?_⟩, ?_⟩⟩
        · show [V.str s, V.str rs, V.int .i64 (IntKind.i64.wrap ((rs.length : Int) - 1)), V.int .i64 (IntKind.i64.wrap ((rs.length : Int) - 1))] = _
          rw [hw]
        rintro n vs H ⟨rfl, rfl⟩
        conv => whnf
        refine branch_i (fun c3 => ?_) (fun c3 => ?_) <;> try rw [c3] <;> conv => whnf
        · have hlt : rs.length - 1 < s.length := by simp at c3; omega
          have ht : ((rs.length : Int) - 1).toNat = rs.length - 1 := by omega
          have hsb : s[rs.length - 1]? = some (s[rs.length - 1]) := List.getElem?_eq_getElem hlt
          have hb := hs _ (List.getElem_mem hlt)
          generalize s[rs.length - 1] = b at *
          refine ⟨List.range 7, by kernel_rfl, by kernel_rfl, ?_⟩
          conv => whnf
          refine ⟨b, ⟨by omega, by rw [ht]; exact hsb⟩, ?_⟩
          conv => whnf
          refine ⟨c, ⟨by omega, by rw [ht]; exact l1⟩, ?_⟩
          conv => whnf
          refine branch_i (fun c4 => ?_) (fun c4 => ?_) <;> try rw [c4] <;> conv => whnf
          · refine ⟨List.range 9, by kernel_rfl, by kernel_rfl, ?_⟩
            conv => whnf
            have hw2 : IntKind.i64.wrap ((rs.length : Int) - 1 + 1) = (rs.length : Int) := by rw [wrap_i64 (by omega) (by omega)]; omega
            refine ⟨?_, ?_⟩
            · simp only [hw2]; omega
            conv => whnf
            refine ⟨c, ⟨by omega, by rw [ht]; exact l1⟩, ?_⟩
            conv => whnf
            refine .call [] 0 ⟨rfl, rfl, rfl⟩ (IndexByte_spec ?_)
            rw [indexByte_none _ _ (fun x hx => ?_)]
            · conv => whnf
              exact ⟨[], rfl, h1⟩
            · have := hs x (List.mem_of_mem_drop hx)
              intro e
              rw [e] at this
              simp at this
              omega
          · exfalso
            simp at c4
            omega
        · exact ⟨[], rfl, h1⟩

theorem ContainsRune_ascii {s : List UInt8} (hs : ∀ b ∈ s, b.toNat < 128) {r : Int} (h0 : 0 ≤ r ∧ r < 128 → Q (.bool (decide (0 ≤ Lib.indexByte s (IntKind.u8.wrap r).toNat.toUInt8))) []) (h1 : ¬ (0 ≤ r ∧ r < 128) → Q (.bool false) []) : ACall Tryd.prog 57 0 [.str s, .int .i32 r] [] Q := by
  refine by_body Tryd.func57 0 rfl (Nat.le_of_ble_eq_true rfl) ?_
  conv => whnf
  refine .call [] 0 ⟨rfl, rfl, rfl⟩ (IndexRune_ascii hs (fun c => ?_) (fun c => ?_))
  · conv => whnf
    exact ⟨[], rfl, h0 c⟩
  · conv => whnf
    exact ⟨[], rfl, h1 c⟩

/-- the letters, digits and the underline -/
def set37 : List UInt8 := [97, 98, 99, 100, 101, 102, 103, 104, 105, 106, 107, 108, 109, 110, 111, 112, 113, 114, 115, 116, 117, 118, 119, 120, 121, 122, 48, 49, 50, 51, 52, 53, 54, 55, 56, 57, 95]
def set26 : List UInt8 := set37.take 26

def okByte (b : UInt8) : Bool := decide (0 ≤ Lib.indexByte set37 b)
def okHead (b : UInt8) : Bool := decide (0 ≤ Lib.indexByte set26 b)

def nameOk (s : List UInt8) : Bool :=
  s.all okByte && (decide (s.length ≤ 32) && match s with
    | [] => false
    | b :: _ => okHead b)

theorem set37_ascii : ∀ b ∈ set37, b.toNat < 128 := by decide

/-- A code point that begins with a byte beyond ASCII is beyond ASCII. -/
theorem decL_high {b : UInt8} {r : List UInt8} (h : ¬ b.toNat < 128) : ¬ ((0 : Int) ≤ Int.ofNat (decL (b :: r)).1 ∧ Int.ofNat (decL (b :: r)).1 < 128) := by
  have key : 128 ≤ (decL (b :: r)).1 := by
    unfold decL
    simp only [List.getD_cons_zero]
    rw [if_neg h]
    repeat' split
    all_goals first
      | (simp [Utf8.runeError]; done)
      | (simp at *; omega)
  intro ⟨_, h2⟩
  simp at h2
  omega

theorem u8_wrap_byte (b : UInt8) : (IntKind.u8.wrap (Int.ofNat b.toNat)).toNat.toUInt8 = b := by
  have h := b.toNat_lt
  have : IntKind.u8.wrap (Int.ofNat b.toNat) = (b.toNat : Int) := by rw [IntKind.wrap_u8]; simp; omega
  rw [this]
  simp

theorem okByte_ascii {b : UInt8} (h : okByte b = true) : b.toNat < 128 := by
  refine Decidable.by_contra fun hb => ?_
  have : Lib.indexByte set37 b = -1 := indexByte_none _ _ fun x hx e => hb (e ▸ set37_ascii x hx)
  unfold okByte at h
  rw [this] at h
  simp at h

theorem nameOk_false {s : List UInt8} {b : UInt8} (hb : b ∈ s) (h : okByte b = false) : nameOk s = false := by
  unfold nameOk
  have : s.all okByte = false := by
    cases hx : s.all okByte with
    | false => rfl
    | true => rw [List.all_eq_true.1 hx b hb] at h; cases h
  rw [this]; rfl

theorem Name_spec {s : List UInt8} (h : Q (.bool (nameOk s)) []) : ACall Tryd.prog 31 0 [.str s] [] Q := by
  refine by_body Tryd.func31 0 rfl (Nat.le_of_ble_eq_true rfl) ?_
  conv => whnf
  refine ⟨⟨[0, 6], fun n vs H => vs = [.str s, .ptr 0 0] ∧ ∃ pos, H = [.iter s pos] ∧ n = s.length - pos ∧ (s.take pos).all okByte = true, .at (s.length - 0) ⟨rfl, 0, rfl, rfl, rfl⟩, ?_⟩⟩
  rintro n vs H ⟨rfl, pos, rfl, rfl, hall⟩
  conv => whnf
  refine ⟨fun hd => ?_, fun b l hd => ?_⟩
  · have hle := List.drop_eq_nil_iff.1 hd
    rw [List.take_of_length_le hle] at hall
    clear hd hle
    cases s with
    | nil =>
      conv => whnf
      exact ⟨[], rfl, h⟩
    | cons b l =>
      have e : nameOk (b :: l) = (decide ((b :: l).length ≤ 32) && okHead b) := by unfold nameOk; rw [hall]; rfl
      rw [e] at h
      conv => whnf
      refine branch_i (fun c => ?_) (fun c => ?_) <;> try rw [c] <;> conv => whnf
      · have hl : decide ((b :: l).length ≤ 32) = true := by simp at *; omega
        rw [hl, Bool.true_and] at h
        refine ⟨⟨by decide, by simp; omega⟩, ?_⟩
        conv => whnf
        refine .call [] 0 ⟨rfl, rfl, rfl⟩ (Contains_one (b := b) (by decide) ?_)
        conv => whnf
        exact ⟨[], rfl, h⟩
      · have hl : decide ((b :: l).length ≤ 32) = false := by simp at *; omega
        rw [hl, Bool.false_and] at h
        exact ⟨[], rfl, h⟩
  · obtain ⟨d1, d2, d3, d4⟩ := drop_facts hd
    conv => whnf
    refine .call [] 0 ⟨rfl, rfl, rfl⟩ (ContainsRune_ascii set37_ascii (fun c => ?_) (fun c => ?_))
    · have hb : b.toNat < 128 := Decidable.by_contra fun hb => decL_high hb c
      rw [decL_ascii hb]
      simp only [u8_wrap_byte]
      conv => whnf
      refine branch_i (fun c2 => ?_) (fun c2 => ?_) <;> try rw [c2] <;> conv => whnf
      · rw [nameOk_false d1 (by simpa [okByte] using c2)] at h
        exact ⟨[], rfl, h⟩
      · refine .go [0] rfl (s.length - (pos + 1)) (by omega) ⟨rfl, pos + 1, rfl, rfl, ?_⟩
        have : s.take (pos + 1) = s.take pos ++ [b] := by
          rw [List.take_add_one]
          congr 1
          have : s[pos]? = some b := by rw [← List.head?_drop, hd]; rfl
          rw [this]; rfl
        rw [this, List.all_append, hall]
        simpa [okByte] using c2
    · rw [nameOk_false d1 (by
        cases hx : okByte b with
        | false => rfl
        | true =>
          have hb := okByte_ascii hx
          rw [decL_ascii hb] at c
          exact absurd ⟨by simp, by simp; omega⟩ c)] at h
      conv => whnf
      exact ⟨[], rfl, h⟩

end Go.Proofs.YtokifgdmddnpoaaDoorPg

/- Schemas: the functions. -/
namespace Go.Proofs.YtokifgdmddnpoaaDoorPg
open Go Go.RowKit
set_option linter.unusedSimpArgs false
set_option linter.unusedVariables false

variable {Q : V → List O → Prop}

theorem take_snoc {α : Type} {P : α → Prop} {l : List α} {i : Nat} {x : α} (h : ∀ c ∈ l.take i, P c) (hx : l[i]? = some x) (hp : P x) : ∀ c ∈ l.take (i + 1), P c := by
  intro c hc
  rw [List.take_add_one, hx] at hc
  rcases List.mem_append.1 hc with hc | hc
  · exact h c hc
  · simp at hc; subst hc; exact hp

theorem Find1_spec {c : Col} {name : List UInt8} (h : Q (.bool (decide (c.n = name))) [.cells [.str name]]) : ACall Tryd.prog 82 1 [.agg [.str c.n, fI c.k, .bool c.o], .ptr 0 0] [.cells [.str name]] Q := by
  refine by_body Tryd.func82 1 rfl (Nat.le_of_ble_eq_true rfl) ?_
  conv => whnf
  exact ⟨[0], rfl, h⟩

theorem IndexFunc_spec {l : List Col} {name : List UInt8} (hl : l.length < 1000000) (h : Q (fI (fnd name l 0)) [.cells [.str name]]) :
    ACall Tryd.prog 81 1 [.sl 3 (cols l) false, .fn (.func 82) [] [.ptr 0 0]] [.cells [.str name]] Q := by
  refine by_body Tryd.func81 1 rfl (Nat.le_of_ble_eq_true rfl) ?_
  conv => whnf
  have hlk := cols_len l
  refine ⟨⟨[0, 1, 7, 8], fun m vs H => ∃ i : Nat, vs = [.sl 3 (cols l) false, .fn (.func 82) [] [.ptr 0 0], fI (cols l).length, fI i] ∧ H = [.cells [.str name]] ∧ (∀ c ∈ l.take i, c.n ≠ name) ∧ i ≤ l.length ∧ m = l.length - i, .at _ ⟨0, rfl, rfl, by simp, Nat.zero_le _, rfl⟩, ?_⟩⟩
  rintro m vs H ⟨i, rfl, rfl, hn, hi, rfl⟩
  conv => whnf
  refine branch_i (fun c => ?_) (fun c => ?_) <;> try rw [c] <;> conv => whnf
  · have c' := of_decide_eq_true c
    have hlt : i < l.length := by omega
    have hget : l[i]? = some l[i] := List.getElem?_eq_getElem hlt
    refine ⟨_, ⟨by omega, cols_get hget⟩, ?_⟩
    conv => whnf
    refine .call [0] 1 ⟨rfl, rfl, rfl⟩ (Find1_spec ?_)
    conv => whnf
    refine branch_i (fun c2 => ?_) (fun c2 => ?_) <;> try rw [c2] <;> conv => whnf
    · rw [fnd_here hn hget (of_decide_eq_true c2)] at h
      exact ⟨[0], rfl, h⟩
    · refine .go [0] rfl (l.length - (i + 1)) (by omega) ⟨i + 1, ?_, rfl, take_snoc hn hget (of_decide_eq_false c2), by omega, rfl⟩
      show [V.sl 3 (cols l) false, V.fn (.func 82) [] [.ptr 0 0], fI (cols l).length, V.int .i64 (IntKind.i64.wrap ((i : Int) + 1))] = _
      rw [show IntKind.i64.wrap ((i : Int) + 1) = ((i + 1 : Nat) : Int) by rw [IntKind.wrap_i64]; omega]
  · have c' := of_decide_eq_false c
    rw [List.take_of_length_le (by omega)] at hn
    rw [fnd_none hn] at h
    exact ⟨[0], rfl, h⟩

theorem Find_spec {l : List Col} {keys : Int} {name : List UInt8} (hl : l.length < 1000000) (h : Q (fI (fnd name l 0)) []) :
    ACall Tryd.prog 60 0 [sch l keys, .str name] [] Q := by
  refine by_body Tryd.func60 0 rfl (Nat.le_of_ble_eq_true rfl) ?_
  conv => whnf
  refine .call [1] 1 ⟨rfl, rfl, rfl⟩ (IndexFunc_spec hl ?_)
  conv => whnf
  exact ⟨[], rfl, h⟩

theorem RFind_spec {l : List Col} {keys : Int} {name : List UInt8} (hl : l.length < 1000000) (h : Q (fI (fnd name l 0)) []) :
    ACall Tryd.prog 47 0 [sch l keys, .str name] [] Q := by
  refine by_body Tryd.func47 0 rfl (Nat.le_of_ble_eq_true rfl) ?_
  conv => whnf
  have hlk := cols_len l
  refine ⟨⟨[1, 2, 5], fun m vs H => ∃ i : Nat, vs = [.str name, .ptr 0 0, fI i] ∧ H = [.cells [.sl 3 (cols l) false, fI keys]] ∧ (∀ c ∈ l.take i, c.n ≠ name) ∧ i ≤ l.length ∧ m = l.length - i, .at _ ⟨0, rfl, rfl, by simp, Nat.zero_le _, rfl⟩, ?_⟩⟩
  rintro m vs H ⟨i, rfl, rfl, hn, hi, rfl⟩
  conv => whnf
  refine branch_i (fun c => ?_) (fun c => ?_) <;> try rw [c] <;> conv => whnf
  · have c' := of_decide_eq_true c
    have hlt : i < l.length := by omega
    have hget : l[i]? = some l[i] := List.getElem?_eq_getElem hlt
    refine ⟨_, ⟨by omega, cols_get hget⟩, ?_⟩
    conv => whnf
    refine branch_i (fun c2 => ?_) (fun c2 => ?_) <;> try rw [c2] <;> conv => whnf
    · rw [fnd_here hn hget (of_decide_eq_true c2)] at h
      exact ⟨[], rfl, h⟩
    · refine .go [0] rfl (l.length - (i + 1)) (by omega) ⟨i + 1, ?_, rfl, take_snoc hn hget (of_decide_eq_false c2), by omega, rfl⟩
      show [V.str name, V.ptr 0 0, V.int .i64 (IntKind.i64.wrap ((i : Int) + 1))] = _
      rw [show IntKind.i64.wrap ((i : Int) + 1) = ((i + 1 : Nat) : Int) by rw [IntKind.wrap_i64]; omega]
  · have c' := of_decide_eq_false c
    rw [List.take_of_length_le (by omega)] at hn
    rw [fnd_none hn] at h
    exact ⟨[], rfl, h⟩

end Go.Proofs.YtokifgdmddnpoaaDoorPg

/- Schemas: which may be. -/
namespace Go.Proofs.YtokifgdmddnpoaaDoorPg
open Go Go.RowKit
set_option linter.unusedSimpArgs false
set_option linter.unusedVariables false

variable {Q : V → List O → Prop}

def kindOk (k : Int) : Bool := decide (1 ≤ k) && decide (k ≤ 4)

theorem kind_spec {k : Int} (h : Q (.bool (kindOk k)) []) : ACall Tryd.prog 59 0 [fI k] [] Q := by
  refine by_body Tryd.func59 0 rfl (Nat.le_of_ble_eq_true rfl) ?_
  conv => whnf
  unfold kindOk at h
  refine branch_i (fun c => ?_) (fun c => ?_) <;> rw [c] at h <;> try rw [c] <;> conv => whnf
  · exact ⟨[], rfl, h⟩
  · exact ⟨[], rfl, h⟩

theorem Rkind_spec {k : Int} (h : Q (.bool (kindOk k)) []) : ACall Tryd.prog 77 0 [fI k] [] Q := by
  refine by_body Tryd.func77 0 rfl (Nat.le_of_ble_eq_true rfl) ?_
  conv => whnf
  unfold kindOk at h
  refine branch_i (fun c => ?_) (fun c => ?_) <;> rw [c] at h <;> try rw [c] <;> conv => whnf
  · exact ⟨[], rfl, h⟩
  · exact ⟨[], rfl, h⟩

/-- the document's words for a byte of a name -/
def okB (n : Int) : Bool := !(((decide (n < 97) || decide (122 < n)) && (decide (n < 48) || decide (57 < n))) && !decide (n = 95))
def okH (n : Int) : Bool := !(decide (n < 97) || decide (122 < n))

theorem okB_eq : ∀ n : Fin 256, okB (n.val : Int) = okByte (UInt8.ofNat n.val) := by decide +kernel
theorem okH_eq : ∀ n : Fin 256, okH (n.val : Int) = okHead (UInt8.ofNat n.val) := by decide +kernel

theorem okB_byte (b : UInt8) : okB (b.toNat : Int) = okByte b := by
  have := okB_eq ⟨b.toNat, b.toNat_lt⟩
  simpa using this
theorem okH_byte (b : UInt8) : okH (b.toNat : Int) = okHead b := by
  have := okH_eq ⟨b.toNat, b.toNat_lt⟩
  simpa using this

theorem RName_spec {s : List UInt8} (h : Q (.bool (nameOk s)) []) : ACall Tryd.prog 27 0 [.str s] [] Q := by
  refine by_body Tryd.func27 0 rfl (Nat.le_of_ble_eq_true rfl) ?_
  conv => whnf
  cases s with
  | nil => exact ⟨[], rfl, h⟩
  | cons b r =>
    rw [show decide (((b :: r).length : Int) < 1) = false by simp; omega]
    conv => whnf
    refine branch_i (fun c1 => ?_) (fun c1 => ?_) <;> try rw [c1] <;> conv => whnf
    focus
      have e : nameOk (b :: r) = false := by unfold nameOk; rw [show decide ((b :: r).length ≤ 32) = false by simp at c1; simp; omega]; simp
      rw [e] at h
      exact ⟨[], rfl, h⟩
    have hl : decide ((b :: r).length ≤ 32) = true := by simp at c1; simp; omega
    have hho := okH_byte b
    unfold okH at hho
    refine ⟨b, ⟨by decide, rfl⟩, ?_⟩
    conv => whnf
    refine branch_i (fun c2 => ?_) (fun c2 => ?_) <;> try rw [c2] <;> conv => whnf
    focus
      rw [c2] at hho
      have e : nameOk (b :: r) = false := by unfold nameOk; simp [← hho]
      rw [e] at h
      exact ⟨[], rfl, h⟩
    refine ⟨b, ⟨by decide, rfl⟩, ?_⟩
    conv => whnf
    refine branch_i (fun c3 => ?_) (fun c3 => ?_) <;> try rw [c3] <;> conv => whnf
    focus
      rw [c2, c3] at hho
      have e : nameOk (b :: r) = false := by unfold nameOk; simp [← hho]
      rw [e] at h
      exact ⟨[], rfl, h⟩
    rw [c2, c3] at hho
    have e : nameOk (b :: r) = (b :: r).all okByte := by unfold nameOk; rw [hl]; simp [← hho]
    rw [e] at h
    have hlen := of_decide_eq_true hl
    clear e hl c1 c2 c3 hho
    generalize b :: r = s at *
    refine ⟨⟨[0, 3], fun m vs H => ∃ i : Nat, vs = [.str s, fI i] ∧ H = [] ∧ (∀ c ∈ s.take i, okByte c = true) ∧ i ≤ s.length ∧ m = s.length - i, .at _ ⟨0, rfl, rfl, by simp, Nat.zero_le _, rfl⟩, ?_⟩⟩
    rintro m vs H ⟨i, rfl, rfl, hn, hi, rfl⟩
    conv => whnf
    refine branch_i (fun c => ?_) (fun c => ?_) <;> try rw [c] <;> conv => whnf
    · have c' := of_decide_eq_true c
      have hlt : i < s.length := by omega
      have hget : s[i]? = some s[i] := List.getElem?_eq_getElem hlt
      refine ⟨s[i], ⟨by omega, hget⟩, ?_⟩
      have hob := okB_byte s[i]
      have hmem : s[i] ∈ s := List.getElem_mem hlt
      generalize s[i] = b at *
      conv => whnf
      refine branch_i (fun c => ?_) (fun c => ?_) <;> try rw [c] <;> conv => whnf
      all_goals try (refine branch_i (fun c => ?_) (fun c => ?_) <;> try rw [c] <;> conv => whnf)
      all_goals try (refine branch_i (fun c => ?_) (fun c => ?_) <;> try rw [c] <;> conv => whnf)
      all_goals try (refine branch_i (fun c => ?_) (fun c => ?_) <;> try rw [c] <;> conv => whnf)
      all_goals try (refine branch_i (fun c => ?_) (fun c => ?_) <;> try rw [c] <;> conv => whnf)
      all_goals simp only [decide_eq_true_eq, decide_eq_false_iff_not, Bool.not_eq_true', Bool.not_eq_false'] at *
      all_goals first
        | (have hb : okByte b = true := by rw [← hob]; simp [okB]; omega
           refine .go [] rfl (s.length - (i + 1)) (by omega) ⟨i + 1, ?_, rfl, take_snoc hn hget hb, by omega, rfl⟩
           show [V.str s, V.int .i64 (IntKind.i64.wrap ((i : Int) + 1))] = _
           rw [show IntKind.i64.wrap ((i : Int) + 1) = ((i + 1 : Nat) : Int) by rw [IntKind.wrap_i64]; omega])
        | (have hb : okByte b = false := by rw [← hob]; simp [okB]; omega
           have e : s.all okByte = false := by
             cases hx : s.all okByte with
             | false => rfl
             | true => rw [List.all_eq_true.1 hx b hmem] at hb; cases hb
           rw [e] at h
           exact ⟨[], rfl, h⟩)
    · have c' := of_decide_eq_false c
      rw [List.take_of_length_le (by omega)] at hn
      rw [show s.all okByte = true by simpa using hn] at h
      exact ⟨[], rfl, h⟩

end Go.Proofs.YtokifgdmddnpoaaDoorPg

/- Schemas: which may be. -/
namespace Go.Proofs.YtokifgdmddnpoaaDoorPg
open Go Go.RowKit
set_option linter.unusedSimpArgs false
set_option linter.unusedVariables false

variable {Q : V → List O → Prop}

def mayC (l : List Col) (keys : Int) (i : Nat) (c : Col) : Bool := nameOk c.n && (kindOk c.k && (decide (fnd c.n l 0 = (i : Int)) && !(decide ((i : Int) < keys) && c.o)))
def mayH (l : List Col) (keys : Int) : Bool := decide (1 ≤ keys) && (decide (keys ≤ 4) && (decide (keys ≤ (l.length : Int)) && decide (l.length ≤ 16)))
def mayS (l : List Col) (keys : Int) : Bool := mayH l keys && (List.range l.length).all fun i => match l[i]? with
  | some c => mayC l keys i c
  | none => true

theorem mayS_head {l : List Col} {keys : Int} (h : mayH l keys = false) : mayS l keys = false := by unfold mayS; rw [h]; rfl
theorem mayS_no {l : List Col} {keys : Int} {i : Nat} {c : Col} (hc : l[i]? = some c) (h : mayC l keys i c = false) : mayS l keys = false := by
  unfold mayS
  have : ((List.range l.length).all fun i => match l[i]? with | some c => mayC l keys i c | none => true) = false := by
    rw [List.all_eq_false]
    refine ⟨i, by rw [List.mem_range]; exact (List.getElem?_eq_some_iff.1 hc).1, ?_⟩
    rw [hc]; simp [h]
  rw [this, Bool.and_false]
theorem mayS_yes {l : List Col} {keys : Int} (h0 : mayH l keys = true) (h : ∀ i c, l[i]? = some c → mayC l keys i c = true) : mayS l keys = true := by
  unfold mayS
  rw [h0, Bool.true_and, List.all_eq_true]
  intro i hi
  cases hc : l[i]? with
  | none => rfl
  | some c => exact h i c hc

theorem all_snoc {l : List Col} {P : Nat → Col → Prop} {i : Nat} {c : Col} (h : ∀ j c, j < i → l[j]? = some c → P j c) (hc : l[i]? = some c) (hp : P i c) : ∀ j c, j < i + 1 → l[j]? = some c → P j c := by
  intro j d hj hd
  by_cases e : j = i
  · subst e; rw [hc] at hd; cases hd; exact hp
  · exact h j d (by omega) hd

theorem May_any {l : List Col} {keys : Int} (h : Q (.bool (mayS l keys)) []) : ACall Tryd.prog 32 0 [sch l keys] [] Q := by
  refine by_body Tryd.func32 0 rfl (Nat.le_of_ble_eq_true rfl) ?_
  conv => whnf
  have hlk := cols_len l
  refine branch_i (fun c1 => ?_) (fun c1 => ?_) <;> try rw [c1] <;> conv => whnf
  focus
    rw [mayS_head (by unfold mayH; simp at c1 ⊢; omega)] at h
    exact ⟨[], rfl, h⟩
  refine branch_i (fun c2 => ?_) (fun c2 => ?_) <;> try rw [c2] <;> conv => whnf
  focus
    rw [mayS_head (by unfold mayH; simp at c2 ⊢; omega)] at h
    exact ⟨[], rfl, h⟩
  refine branch_i (fun c3 => ?_) (fun c3 => ?_) <;> try rw [c3] <;> conv => whnf
  focus
    have c3' := of_decide_eq_true c3
    simp only at c3'
    rw [mayS_head (by unfold mayH; simp at c1 c2 ⊢; split at c3' <;> omega)] at h
    exact ⟨[], rfl, h⟩
  have c3' := of_decide_eq_false c3
  simp only at c3'
  have hh : mayH l keys = true := by unfold mayH; simp at c1 c2 ⊢; split at c3' <;> omega
  have hl : l.length < 1000000 := by unfold mayH at hh; simp at hh; omega
  clear c1 c2 c3 c3'
  refine ⟨⟨[1, 24, 25, 26], fun m vs H => ∃ i : Nat, vs = [.ptr 0 0, .sl 3 (cols l) false, fI (cols l).length, fI i] ∧ H = [.cells [.sl 3 (cols l) false, fI keys]] ∧ (∀ j c, j < i → l[j]? = some c → mayC l keys j c = true) ∧ i ≤ l.length ∧ m = l.length - i, .at _ ⟨0, rfl, rfl, fun j c hj => by omega, Nat.zero_le _, rfl⟩, ?_⟩⟩
  rintro m vs H ⟨i, rfl, rfl, hn, hi, rfl⟩
  conv => whnf
  refine branch_i (fun c => ?_) (fun c => ?_) <;> try rw [c] <;> conv => whnf
  · have c' := of_decide_eq_true c
    have hlt : i < l.length := by omega
    have hget : l[i]? = some l[i] := List.getElem?_eq_getElem hlt
    generalize l[i] = d at *
    have hno := mayS_no (l := l) (keys := keys) hget
    have hyes : mayC l keys i d = true → (∀ j c, j < i + 1 → l[j]? = some c → mayC l keys j c = true) := all_snoc hn hget
    unfold mayC at hno hyes
    have hret : mayS l keys = false → Q (.bool false) [] := fun e => by rw [e] at h; exact h
    refine ⟨_, ⟨by omega, cols_get hget⟩, ?_⟩
    conv => whnf
    refine .call [] 0 ⟨rfl, rfl, rfl⟩ (Name_spec ?_)
    conv => whnf
    refine branch_i (fun c1 => ?_) (fun c1 => ?_) <;> try rw [c1] <;> conv => whnf
    focus
      exact ⟨[], rfl, hret (hno (by simp at c1; rw [c1]; rfl))⟩
    refine .call [] 0 ⟨rfl, rfl, rfl⟩ (kind_spec ?_)
    conv => whnf
    refine branch_i (fun c2 => ?_) (fun c2 => ?_) <;> try rw [c2] <;> conv => whnf
    focus
      exact ⟨[], rfl, hret (hno (by simp at c2; rw [c2]; simp))⟩
    refine .call [] 0 ⟨rfl, rfl, rfl⟩ (Find_spec hl ?_)
    conv => whnf
    refine branch_i (fun c3 => ?_) (fun c3 => ?_) <;> try rw [c3] <;> conv => whnf
    focus
      exact ⟨[], rfl, hret (hno (by simp at c3; simp [c3]))⟩
    simp at c1 c2 c3
    refine branch_i (fun c4 => ?_) (fun c4 => ?_) <;> try rw [c4] <;> conv => whnf
    focus
      refine branch_i (fun c5 => ?_) (fun c5 => ?_) <;> try rw [c5] <;> conv => whnf
      focus
        exact ⟨[], rfl, hret (hno (by rw [c4, c5]; simp))⟩
    all_goals
      refine .go [0] rfl (l.length - (i + 1)) (by omega) ⟨i + 1, ?_, rfl, hyes (by first | (rw [c1, c2, c3, c4, c5]; simp; done) | (rw [c1, c2, c3, c4]; simp; done)), by omega, rfl⟩
      show [V.ptr 0 0, V.sl 3 (cols l) false, fI (cols l).length, V.int .i64 (IntKind.i64.wrap ((i : Int) + 1))] = _
      rw [show IntKind.i64.wrap ((i : Int) + 1) = ((i + 1 : Nat) : Int) by rw [IntKind.wrap_i64]; omega]
  · have c' := of_decide_eq_false c
    rw [mayS_yes hh fun j c hc => hn j c (by have := (List.getElem?_eq_some_iff.1 hc).1; omega) hc] at h
    exact ⟨[], rfl, h⟩

theorem May_spec {l : List Col} {keys : Int} (hl : l.length < 1000000) (h : Q (.bool (mayS l keys)) []) : ACall Tryd.prog 32 0 [sch l keys] [] Q := May_any h

theorem RMay_any {l : List Col} {keys : Int} (h : Q (.bool (mayS l keys)) []) : ACall Tryd.prog 33 0 [sch l keys] [] Q := by
  refine by_body Tryd.func33 0 rfl (Nat.le_of_ble_eq_true rfl) ?_
  conv => whnf
  have hlk := cols_len l
  refine branch_i (fun c1 => ?_) (fun c1 => ?_) <;> try rw [c1] <;> conv => whnf
  focus
    rw [mayS_head (by unfold mayH; simp at c1 ⊢; omega)] at h
    exact ⟨[], rfl, h⟩
  refine branch_i (fun c2 => ?_) (fun c2 => ?_) <;> try rw [c2] <;> conv => whnf
  focus
    rw [mayS_head (by unfold mayH; simp at c2 ⊢; omega)] at h
    exact ⟨[], rfl, h⟩
  refine branch_i (fun c3 => ?_) (fun c3 => ?_) <;> try rw [c3] <;> conv => whnf
  focus
    rw [mayS_head (by unfold mayH; simp at c3 ⊢; omega)] at h
    exact ⟨[], rfl, h⟩
  refine branch_i (fun c4 => ?_) (fun c4 => ?_) <;> try rw [c4] <;> conv => whnf
  focus
    rw [mayS_head (by unfold mayH; simp at c4 ⊢; omega)] at h
    exact ⟨[], rfl, h⟩
  refine branch_i (fun c5 => ?_) (fun c5 => ?_) <;> try rw [c5] <;> conv => whnf
  focus
    rw [mayS_head (by unfold mayH; simp at c5 ⊢; omega)] at h
    exact ⟨[], rfl, h⟩
  have hh : mayH l keys = true := by unfold mayH; simp at c1 c2 c3 c4 c5 ⊢; omega
  have hl : l.length < 1000000 := by unfold mayH at hh; simp at hh; omega
  clear c1 c2 c3 c4 c5
  refine ⟨⟨[1, 3, 4], fun m vs H => ∃ i : Nat, vs = [.ptr 0 0, fI (cols l).length, fI i] ∧ H = [.cells [.sl 3 (cols l) false, fI keys]] ∧ (∀ j c, j < i → l[j]? = some c → mayC l keys j c = true) ∧ i ≤ l.length ∧ m = l.length - i, .at _ ⟨0, rfl, rfl, fun j c hj => by omega, Nat.zero_le _, rfl⟩, ?_⟩⟩
  rintro m vs H ⟨i, rfl, rfl, hn, hi, rfl⟩
  conv => whnf
  refine branch_i (fun c => ?_) (fun c => ?_) <;> try rw [c] <;> conv => whnf
  · have c' := of_decide_eq_true c
    have hlt : i < l.length := by omega
    have hget : l[i]? = some l[i] := List.getElem?_eq_getElem hlt
    generalize l[i] = d at *
    have hno := mayS_no (l := l) (keys := keys) hget
    have hyes : mayC l keys i d = true → (∀ j c, j < i + 1 → l[j]? = some c → mayC l keys j c = true) := all_snoc hn hget
    unfold mayC at hno hyes
    have hret : mayS l keys = false → Q (.bool false) [] := fun e => by rw [e] at h; exact h
    refine ⟨_, ⟨by omega, cols_get hget⟩, ?_⟩
    conv => whnf
    refine .call [] 0 ⟨rfl, rfl, rfl⟩ (RName_spec ?_)
    conv => whnf
    refine branch_i (fun c1 => ?_) (fun c1 => ?_) <;> try rw [c1] <;> conv => whnf
    focus
      exact ⟨[], rfl, hret (hno (by simp at c1; rw [c1]; rfl))⟩
    refine branch_i (fun c2 => ?_) (fun c2 => ?_) <;> try rw [c2] <;> conv => whnf
    focus
      exact ⟨[], rfl, hret (hno (by unfold kindOk; simp at c2; simp; omega))⟩
    refine branch_i (fun c3 => ?_) (fun c3 => ?_) <;> try rw [c3] <;> conv => whnf
    focus
      exact ⟨[], rfl, hret (hno (by unfold kindOk; simp at c3; simp; omega))⟩
    have hk : kindOk d.k = true := by unfold kindOk; simp at c2 c3 ⊢; omega
    simp at c1
    clear c2 c3
    refine branch_i (fun c4 => ?_) (fun c4 => ?_) <;> try rw [c4] <;> conv => whnf
    focus
      refine branch_i (fun c5 => ?_) (fun c5 => ?_) <;> try rw [c5] <;> conv => whnf
      focus
        exact ⟨[], rfl, hret (hno (by rw [c4, c5]; simp))⟩
    all_goals
      refine ⟨⟨[1, 3, 4, 5, 7], fun m vs H => ∃ (k : Nat) (bo : Bool), vs = [.ptr 0 0, fI (cols l).length, fI i, .ptr 1 0, fI k] ∧ H = [.cells [.sl 3 (cols l) false, fI keys], .cells [.str d.n, fI d.k, .bool bo]] ∧ (∀ c ∈ l.take k, c.n ≠ d.n) ∧ k ≤ i ∧ m = i - k, .at _ ⟨0, _, rfl, rfl, by simp, Nat.zero_le _, rfl⟩, ?_⟩⟩
      rintro m vs H ⟨k, bo, rfl, rfl, hnk, hk2, rfl⟩
      conv => whnf
      refine branch_i (fun c6 => ?_) (fun c6 => ?_) <;> try rw [c6] <;> conv => whnf
      · have c6' := of_decide_eq_true c6
        have hget2 : l[k]? = some l[k] := List.getElem?_eq_getElem (by omega)
        generalize l[k] = x at *
        refine ⟨List.range 9, by kernel_rfl, by kernel_rfl, ?_⟩
        conv => whnf
        refine ⟨_, ⟨by omega, cols_get hget2⟩, ?_⟩
        conv => whnf
        refine branch_i (fun c7 => ?_) (fun c7 => ?_) <;> try rw [c7] <;> conv => whnf
        · have hf := fnd_here hnk hget2 (of_decide_eq_true c7)
          exact ⟨[], rfl, hret (hno (by rw [hf]; simp; intro _ _ e; omega))⟩
        · refine .go [0, 1] rfl (i - (k + 1)) (by omega) ⟨k + 1, bo, ?_, rfl, take_snoc hnk hget2 (of_decide_eq_false c7), by omega, rfl⟩
          show [V.ptr 0 0, fI (cols l).length, fI i, V.ptr 1 0, V.int .i64 (IntKind.i64.wrap ((k : Int) + 1))] = _
          rw [show IntKind.i64.wrap ((k : Int) + 1) = ((k + 1 : Nat) : Int) by rw [IntKind.wrap_i64]; omega]
      · have c6' := of_decide_eq_false c6
        have hki : k = i := by omega
        subst hki
        have hf := fnd_here hnk hget rfl
        refine .go [0] rfl (l.length - (k + 1)) (by omega) ⟨k + 1, ?_, rfl, hyes (by first | (rw [c1, hk, hf, c4, c5]; simp; done) | (rw [c1, hk, hf, c4]; simp; done)), by omega, rfl⟩
        show [V.ptr 0 0, fI (cols l).length, V.int .i64 (IntKind.i64.wrap ((k : Int) + 1))] = _
        rw [show IntKind.i64.wrap ((k : Int) + 1) = ((k + 1 : Nat) : Int) by rw [IntKind.wrap_i64]; omega]
  · have c' := of_decide_eq_false c
    rw [mayS_yes hh fun j c hc => hn j c (by have := (List.getElem?_eq_some_iff.1 hc).1; omega) hc] at h
    exact ⟨[], rfl, h⟩

theorem RMay_spec {l : List Col} {keys : Int} (hl : l.length < 1000000) (h : Q (.bool (mayS l keys)) []) : ACall Tryd.prog 33 0 [sch l keys] [] Q := RMay_any h

end Go.Proofs.YtokifgdmddnpoaaDoorPg

/- Schemas: which are the same, and copies. -/
namespace Go.Proofs.YtokifgdmddnpoaaDoorPg
open Go Go.RowKit
set_option linter.unusedSimpArgs false
set_option linter.unusedVariables false

variable {Q : V → List O → Prop}

def sameS (l : List Col) (k : Int) (l2 : List Col) (k2 : Int) : Bool := decide (k = k2) && decide (l = l2)

theorem col_eq (d e : Col) : (decide (d.n = e.n) && (decide (d.k = e.k) && (d.o == e.o && true))) = decide (d = e) := by
  cases d; cases e
  rename_i n k o n2 k2 o2
  cases o <;> cases o2 <;> simp [Col.mk.injEq]

theorem SEqual_spec {l l2 : List Col} (hl : l.length < 1000000) (h : Q (.bool (decide (l = l2))) []) :
    ACall Tryd.prog 92 0 [.sl 3 (cols l) false, .sl 3 (cols l2) false] [] Q := by
  refine by_body Tryd.func92 0 rfl (Nat.le_of_ble_eq_true rfl) ?_
  conv => whnf
  have h1 := cols_len l
  have h2 := cols_len l2
  refine branch_i (fun c => ?_) (fun c => ?_) <;> try rw [c] <;> conv => whnf
  focus
    have hne : l ≠ l2 := fun e => by subst e; simp at c
    rw [show decide (l = l2) = false by simp [hne]] at h
    exact ⟨[], rfl, h⟩
  have hlen : l.length = l2.length := by simp at c; omega
  clear c
  refine ⟨⟨[0, 1, 12, 13], fun m vs H => ∃ i : Nat, vs = [.sl 3 (cols l) false, .sl 3 (cols l2) false, fI (cols l).length, fI i] ∧ H = [] ∧ l.take i = l2.take i ∧ i ≤ l.length ∧ m = l.length - i, .at _ ⟨0, rfl, rfl, rfl, Nat.zero_le _, rfl⟩, ?_⟩⟩
  rintro m vs H ⟨i, rfl, rfl, hn, hi, rfl⟩
  conv => whnf
  refine branch_i (fun c => ?_) (fun c => ?_) <;> try rw [c] <;> conv => whnf
  · have c' := of_decide_eq_true c
    have hlt : i < l.length := by omega
    have g1 : l[i]? = some l[i] := List.getElem?_eq_getElem hlt
    have g2 : l2[i]? = some l2[i] := List.getElem?_eq_getElem (by omega)
    generalize l[i] = d at *
    generalize l2[i] = d2 at *
    refine ⟨List.range 9, by kernel_rfl, by kernel_rfl, ?_⟩
    conv => whnf
    refine ⟨_, ⟨by omega, cols_get g1⟩, ?_⟩
    conv => whnf
    refine ⟨_, ⟨by omega, cols_get g2⟩, ?_⟩
    conv => whnf
    rw [col_eq]
    by_cases e : d = d2
    · rw [show decide (d = d2) = true by simp [e]]
      conv => whnf
      refine .go [] rfl (l.length - (i + 1)) (by omega) ⟨i + 1, ?_, rfl, ?_, by omega, rfl⟩
      · show [V.sl 3 (cols l) false, V.sl 3 (cols l2) false, fI (cols l).length, V.int .i64 (IntKind.i64.wrap ((i : Int) + 1))] = _
        rw [show IntKind.i64.wrap ((i : Int) + 1) = ((i + 1 : Nat) : Int) by rw [IntKind.wrap_i64]; omega]
      · rw [List.take_add_one, List.take_add_one, hn, g1, g2, e]
    · rw [show decide (d = d2) = false by simp [e]]
      conv => whnf
      have hne : l ≠ l2 := fun e' => by subst e'; rw [g1] at g2; cases g2; exact e rfl
      rw [show decide (l = l2) = false by simp [hne]] at h
      exact ⟨[], rfl, h⟩
  · have c' := of_decide_eq_false c
    rw [List.take_of_length_le (by omega), List.take_of_length_le (by omega)] at hn
    rw [show decide (l = l2) = true by simp [hn]] at h
    exact ⟨[], rfl, h⟩

theorem Same_spec' {l l2 : List Col} {k k2 : Int} (hl : l.length < 1000000) (h : Q (.bool (sameS l k l2 k2)) []) :
    ACall Tryd.prog 74 0 [sch l k, sch l2 k2] [] Q := by
  refine by_body Tryd.func74 0 rfl (Nat.le_of_ble_eq_true rfl) ?_
  conv => whnf
  unfold sameS at h
  refine branch_i (fun c => ?_) (fun c => ?_) <;> rw [c] at h <;> try rw [c] <;> conv => whnf
  · refine .call [] 0 ⟨rfl, rfl, rfl⟩ (SEqual_spec hl ?_)
    conv => whnf
    exact ⟨[], rfl, h⟩
  · exact ⟨[], rfl, h⟩

theorem RSame_spec {l l2 : List Col} {k k2 : Int} (hl : l.length < 1000000) (h : Q (.bool (sameS l k l2 k2)) []) :
    ACall Tryd.prog 13 0 [sch l k, sch l2 k2] [] Q := by
  refine by_body Tryd.func13 0 rfl (Nat.le_of_ble_eq_true rfl) ?_
  conv => whnf
  unfold sameS at h
  have h1 := cols_len l
  have h2 := cols_len l2
  by_cases ck : k = k2
  rotate_left
  focus
    rw [show decide (k = k2) = false by simp [ck]] at h ⊢
    conv => whnf
    exact ⟨[], rfl, h⟩
  rw [show decide (k = k2) = true by simp [ck]] at h ⊢
  conv => whnf
  refine branch_i (fun c => ?_) (fun c => ?_) <;> try rw [c] <;> conv => whnf
  focus
    have hne : l ≠ l2 := fun e => by subst e; simp at c
    rw [show decide (l = l2) = false by simp [hne]] at h
    exact ⟨[], rfl, h⟩
  have hlen : l.length = l2.length := by simp at c; omega
  clear c
  refine ⟨⟨[2, 3, 5], fun m vs H => ∃ i : Nat, vs = [.ptr 0 0, .ptr 1 0, fI i] ∧ H = [.cells [.sl 3 (cols l) false, fI k], .cells [.sl 3 (cols l2) false, fI k2]] ∧ l.take i = l2.take i ∧ i ≤ l.length ∧ m = l.length - i, .at _ ⟨0, rfl, rfl, rfl, Nat.zero_le _, rfl⟩, ?_⟩⟩
  rintro m vs H ⟨i, rfl, rfl, hn, hi, rfl⟩
  conv => whnf
  refine branch_i (fun c => ?_) (fun c => ?_) <;> try rw [c] <;> conv => whnf
  · have c' := of_decide_eq_true c
    have hlt : i < l.length := by omega
    have g1 : l[i]? = some l[i] := List.getElem?_eq_getElem hlt
    have g2 : l2[i]? = some l2[i] := List.getElem?_eq_getElem (by omega)
    generalize l[i] = d at *
    generalize l2[i] = d2 at *
    refine ⟨List.range 11, by kernel_rfl, by kernel_rfl, ?_⟩
    conv => whnf
    refine ⟨_, ⟨by omega, cols_get g1⟩, ?_⟩
    conv => whnf
    refine ⟨_, ⟨by omega, cols_get g2⟩, ?_⟩
    conv => whnf
    rw [col_eq]
    by_cases e : d = d2
    · rw [show decide (d = d2) = true by simp [e]]
      conv => whnf
      refine .go [0, 1] rfl (l.length - (i + 1)) (by omega) ⟨i + 1, ?_, rfl, ?_, by omega, rfl⟩
      · show [V.ptr 0 0, V.ptr 1 0, V.int .i64 (IntKind.i64.wrap ((i : Int) + 1))] = _
        rw [show IntKind.i64.wrap ((i : Int) + 1) = ((i + 1 : Nat) : Int) by rw [IntKind.wrap_i64]; omega]
      · rw [List.take_add_one, List.take_add_one, hn, g1, g2, e]
    · rw [show decide (d = d2) = false by simp [e]]
      conv => whnf
      have hne : l ≠ l2 := fun e' => by subst e'; rw [g1] at g2; cases g2; exact e rfl
      rw [show decide (l = l2) = false by simp [hne]] at h
      exact ⟨[], rfl, h⟩
  · have c' := of_decide_eq_false c
    rw [List.take_of_length_le (by omega), List.take_of_length_le (by omega)] at hn
    rw [show decide (l = l2) = true by simp [hn]] at h
    exact ⟨[], rfl, h⟩

theorem SClone_spec {l : List Col} (hl : l.length < 1000000) (h : Q (.ms 3 0 0 l.length false) [.buf (cols l)]) :
    ACall Tryd.prog 56 0 [.sl 3 (cols l) false] [] Q := by
  have hlk := cols_len l
  cases l with
  | nil =>
    refine ACall.sub (ACall.sel (ACall.adopt (by_body Tryd.func56 0 rfl (Nat.le_of_ble_eq_true rfl) ?_)))
    conv => whnf
    refine ⟨?_, ?_⟩
    · conv => whnf
      exact ⟨[], rfl, [0], rfl, _, _, VSub.ms0 3 0 0 false, HSub.refl _, h⟩
    · conv => whnf
      refine ⟨by decide, fun _ => ?_, fun e => absurd rfl e⟩
      conv => whnf
      exact ⟨[0], rfl, [0], rfl, _, _, VSub.msRoom 3 0 0, HSub.refl _, h⟩
  | cons c r =>
    refine by_body Tryd.func56 0 rfl (Nat.le_of_ble_eq_true rfl) ?_
    conv => whnf
    refine ⟨by decide, fun e => by simp [cols] at e, fun _ => ?_⟩
    conv => whnf
    refine ⟨(show (cols (c :: r)).length * 32 ≤ 70368744177664 by rw [hlk]; omega), ?_⟩
    conv => whnf
    exact ⟨[1], rfl, by rw [← hlk] at h; exact h⟩

theorem Clone_spec {l : List Col} {keys : Int} (hl : l.length < 1000000) (h : Q (.agg [.ms 3 0 0 l.length false, fI keys]) [.buf (cols l)]) :
    ACall Tryd.prog 29 0 [sch l keys] [] Q := by
  refine by_body Tryd.func29 0 rfl (Nat.le_of_ble_eq_true rfl) ?_
  conv => whnf
  refine ⟨[0, 1, 3, 4, 2, 5, 6], by kernel_rfl, by kernel_rfl, ?_⟩
  conv => whnf
  refine .call [] 0 ⟨rfl, rfl, rfl⟩ (SClone_spec hl ?_)
  repeat (refine ⟨rfl, ?_⟩)
  conv => whnf
  exact ⟨[2], rfl, h⟩

end Go.Proofs.YtokifgdmddnpoaaDoorPg

/- Schemas: few columns. -/
namespace Go.Proofs.YtokifgdmddnpoaaDoorPg
open Go Go.RowKit
set_option linter.unusedSimpArgs false
set_option linter.unusedVariables false

variable {Q : V → List O → Prop}

end Go.Proofs.YtokifgdmddnpoaaDoorPg

/- Schemas: one that may be, made of any. -/
namespace Go.Proofs.YtokifgdmddnpoaaDoorPg
open Go Go.RowKit
set_option linter.unusedSimpArgs false
set_option linter.unusedVariables false

variable {Q : V → List O → Prop}

/-- Find, in columns that may still be written. -/
theorem RFindM_spec {l : List Col} {keys : Int} {name : List UInt8} (hl : l.length < 1000000) (h : Q (fI (fnd name l 0)) [.buf (cols l)]) :
    ACall Tryd.prog 47 1 [.agg [.ms 3 0 0 (cols l).length false, fI keys], .str name] [.buf (cols l)] Q := by
  refine by_body Tryd.func47 1 rfl (Nat.le_of_ble_eq_true rfl) ?_
  conv => whnf
  have hlk := cols_len l
  refine ⟨⟨[1, 2, 5], fun m vs H => ∃ i : Nat, vs = [.str name, .ptr 1 0, fI i] ∧ H = [.buf (cols l), .cells [.ms 3 0 0 (cols l).length false, fI keys]] ∧ (∀ c ∈ l.take i, c.n ≠ name) ∧ i ≤ l.length ∧ m = l.length - i, .at _ ⟨0, rfl, rfl, by simp, Nat.zero_le _, rfl⟩, ?_⟩⟩
  rintro m vs H ⟨i, rfl, rfl, hn, hi, rfl⟩
  conv => whnf
  refine branch_i (fun c => ?_) (fun c => ?_) <;> try rw [c] <;> conv => whnf
  · have c' := of_decide_eq_true c
    have hlt : i < l.length := by omega
    have hget : l[i]? = some l[i] := List.getElem?_eq_getElem hlt
    refine ⟨by omega, ?_⟩
    conv => whnf
    refine ⟨_, cols_get hget, ?_⟩
    conv => whnf
    refine branch_i (fun c2 => ?_) (fun c2 => ?_) <;> try rw [c2] <;> conv => whnf
    · rw [fnd_here hn hget (of_decide_eq_true c2)] at h
      exact ⟨[0], rfl, h⟩
    · refine .go [0, 1] rfl (l.length - (i + 1)) (by omega) ⟨i + 1, ?_, rfl, take_snoc hn hget (of_decide_eq_false c2), by omega, rfl⟩
      show [V.str name, V.ptr 1 0, V.int .i64 (IntKind.i64.wrap ((i : Int) + 1))] = _
      rw [show IntKind.i64.wrap ((i : Int) + 1) = ((i + 1 : Nat) : Int) by rw [IntKind.wrap_i64]; omega]
  · have c' := of_decide_eq_false c
    rw [List.take_of_length_le (by omega)] at hn
    rw [fnd_none hn] at h
    exact ⟨[0], rfl, h⟩

theorem pool_get {i : Nat} (h : i < 6) : poolS[i]? = some (poolS.getD i []) := by
  have : i < poolS.length := h
  simp [List.getD, List.getElem?_eq_getElem this]

def GInv (l : List Col) (keys : Int) (G : List Col) (K : Int) (m : Nat) (vs : List V) (H : List O) : Prop :=
  ∃ j : Nat, vs = [.ptr 0 0, .ptr 1 0, .ptr 2 0, fI j] ∧ H = [.cells [.sl 3 (cols l) false, fI keys], .cells [.nils, fI 0], .cells [.ms 3 3 0 (cols (clearK j G)).length false, fI K], .buf (cols (clearK j G))] ∧ j ≤ K.toNat ∧ m = K.toNat - j

set_option maxHeartbeats 4000000 in
theorem RGood_spec {l : List Col} {keys : Int} (hkr : -9223372036854775808 ≤ keys ∧ keys ≤ 9223372036854775807) (h : Q (sch (goodL nameOk l keys) (goodK nameOk l keys)) []) : ACall Tryd.prog 23 0 [sch l keys] [] Q := by
  refine ACall.ret (by_body Tryd.func23 0 rfl (Nat.le_of_ble_eq_true rfl) ?_)
  conv => whnf
  have hlk := cols_len l
  refine ⟨⟨[1, 2, 3, 4, 5], fun m vs H => ∃ i : Nat, vs = [.ptr 0 0, .ptr 1 0, .ptr 2 0, .sl 1 (poolS.map fun s => [.str s]) true, fI i] ∧
    H = [.cells [.sl 3 (cols l) false, fI keys], .cells [.nils, fI 0], .cells [.ms 3 3 0 (cols (gN nameOk l i)).length false, fI 0], .buf (cols (gN nameOk l i))] ∧ i ≤ l.length ∧ i ≤ 6 ∧ m = 6 - i,
    .frz 7 (.frz 3 rfl (by repeat (first | exact trivial | refine And.intro (Nat.le_of_eq (Nat.zero_add _)) ?_)) (.adopt (.sub _ _ (VSubs.refl _) (.cons (.refl _) (.cons (.refl _) (.cons (.cells (.cons (VSub.ms0 3 4 0 false) (VSubs.refl _))) (.cons (.refl _) (HSub.refl _))))) (.go [0, 1, 2, 4] rfl 6 (by omega) ⟨0, rfl, rfl, by omega, by omega, rfl⟩)))), ?_⟩⟩
  rintro m vs H ⟨i, rfl, rfl, hi, hi2, rfl⟩
  conv => whnf
  refine branch_i (fun c => ?_) (fun c => ?_) <;> try rw [c] <;> conv => whnf
  focus refine branch_i (fun c2 => ?_) (fun c2 => ?_) <;> try rw [c2] <;> conv => whnf
  focus
    have c' := of_decide_eq_true c
    have c2' := of_decide_eq_true c2
    have hlt : i < l.length := by omega
    have hget : l[i]? = some l[i] := List.getElem?_eq_getElem hlt
    generalize l[i] = d at *
    have hgN : gN nameOk l (i + 1) = stepG nameOk (gN nameOk l i) i d := by
      show (match l[i]? with | some c => stepG nameOk (gN nameOk l i) i c | none => gN nameOk l i) = _
      rw [hget]
    have hgl := gN_len nameOk l i
    have hwi : IntKind.i64.wrap ((i : Int) + 1) = ((i + 1 : Nat) : Int) := by rw [IntKind.wrap_i64]; omega
    have hpg : (poolS.map fun s => [V.str s])[i]? = some [.str (poolS.getD i [])] := by rw [List.getElem?_map, pool_get (by omega)]; rfl
    generalize hg : gN nameOk l i = g at *
    have hgc := cols_len g
    refine ⟨_, ⟨by omega, cols_get hget⟩, ?_⟩
    conv => whnf
    refine branch_i (fun c3 => ?_) (fun c3 => ?_) <;> try rw [c3] <;> conv => whnf
    all_goals
      refine ⟨by decide, ?_⟩
      conv => whnf
    focus
      rw [show IntKind.i64.wrap (1 + (IntKind.i64.wrap (0 - IntKind.i64.wrap (d.k + 1))).tmod 4) = gKind d.k by unfold gKind natI; rw [if_pos (of_decide_eq_true c3)]]
    rotate_left
    focus
      rw [show IntKind.i64.wrap (1 + d.k.tmod 4) = gKind d.k by unfold gKind natI; rw [if_neg (of_decide_eq_false c3)]]
    all_goals
      refine .call [] 0 ⟨rfl, rfl, rfl⟩ (RName_spec ?_)
      conv => whnf
      refine branch_i (fun c4 => ?_) (fun c4 => ?_) <;> try rw [c4] <;> conv => whnf
    all_goals first
      | (have hnm : gName nameOk g i d = poolS.getD i [] := by unfold gName; rw [if_pos (.inl (by simpa using c4))]
         refine ⟨[V.str (poolS.getD i [])], ⟨by omega, hpg⟩, ?_⟩
         conv => whnf)
      | (refine .call [3] 1 ⟨rfl, rfl, rfl⟩ (RFindM_spec (by omega) ?_)
         conv => whnf
         refine branch_i (fun c5 => ?_) (fun c5 => ?_) <;> try rw [c5] <;> conv => whnf
         focus
           have hnm : gName nameOk g i d = poolS.getD i [] := by unfold gName; rw [if_pos (.inr (of_decide_eq_true c5))]
           refine ⟨[V.str (poolS.getD i [])], ⟨by omega, hpg⟩, ?_⟩
           conv => whnf
         rotate_left
         have hnm : gName nameOk g i d = d.n := by
           unfold gName
           rw [if_neg]
           rintro (hx | hx)
           · simp [hx] at c4
           · exact of_decide_eq_false c5 hx)
    all_goals
      unfold stepG at hgN
      rw [hnm] at hgN
      refine .call [3] 1 ⟨rfl, rfl, rfl⟩ (RFindM_spec (by omega) ?_)
      conv => whnf
      refine branch_i (fun c6 => ?_) (fun c6 => ?_) <;> try rw [c6] <;> conv => whnf
      · rw [if_pos (of_decide_eq_true c6)] at hgN
        refine ⟨Nat.le_refl _, ?_⟩
        conv => whnf
        refine ⟨rfl, ?_⟩
        conv => whnf
        refine ⟨Nat.le_trans (Nat.mul_le_mul_right _ (by rw [List.length_append, List.length_take, List.drop_zero]; exact Nat.add_le_add (show (cols g).length ≤ i by omega) (Nat.min_le_left _ _))) (show (i + 1) * 32 ≤ 70368744177664 by omega), ?_⟩
        conv => whnf
        refine .go [0, 1, 2, 6] rfl (6 - (i + 1)) (by omega) ⟨i + 1, ?_, ?_, by omega, by omega, rfl⟩
        · show [V.ptr 0 0, V.ptr 1 0, V.ptr 2 0, V.sl 1 (poolS.map fun s => [V.str s]) true, V.int .i64 (IntKind.i64.wrap ((i : Int) + 1))] = _
          rw [hwi]
        · rw [hgN, cols_app]
          rfl
      · rw [if_neg (of_decide_eq_false c6)] at hgN
        refine .go [0, 1, 2, 3] rfl (6 - (i + 1)) (by omega) ⟨i + 1, ?_, ?_, by omega, by omega, rfl⟩
        · show [V.ptr 0 0, V.ptr 1 0, V.ptr 2 0, V.sl 1 (poolS.map fun s => [V.str s]) true, V.int .i64 (IntKind.i64.wrap ((i : Int) + 1))] = _
          rw [hwi]
        · rw [hgN]; rfl
  all_goals
    have hgi : gN nameOk l i = gN nameOk l (min l.length 6) := by
      congr 1
      first
        | (have c' := of_decide_eq_false c; omega)
        | (have c' := of_decide_eq_false c2; omega)
    have hG := gCols_len nameOk l
    have hGd : gCols nameOk l = match gN nameOk l i with | [] => [⟨[105, 100], 2, false⟩] | g => g := by rw [hgi]; rfl
    have hgl := gN_len nameOk l i
    clear hgi c
    try clear c2
    generalize gN nameOk l i = g at *
    have hmin : ∀ n : Nat, (if (3 : Int) < (n : Int) then (3 : Int) else (n : Int)) = ((min n 3 : Nat) : Int) := fun n => by split <;> omega
    have hneg : keys < 0 → natI keys = IntKind.i64.wrap (0 - IntKind.i64.wrap (keys + 1)) := fun h => by unfold natI; rw [if_pos h]
    have hpos : ¬ keys < 0 → natI keys = keys := fun h => by unfold natI; rw [if_neg h]
    rcases g with _ | ⟨x, r⟩
    focus
      simp only at hGd
      conv => whnf
      refine ⟨Nat.le_refl _, ?_⟩
      conv => whnf
      refine ⟨rfl, ?_⟩
      conv => whnf
      refine ⟨(show (1 : Nat) * 32 ≤ 70368744177664 by decide), ?_⟩
      conv => whnf
      refine branch_i (fun c3 => ?_) (fun c3 => ?_) <;> try rw [c3] <;> conv => whnf
      all_goals
        refine ⟨(show (1 : Int) ≠ 0 by decide), ?_⟩
        conv => whnf
        refine ⟨⟨[1, 2, 3, 10], GInv l keys (gCols nameOk l) (gKeys (gCols nameOk l).length keys), .frz ((gKeys (gCols nameOk l).length keys).toNat + 1) (.go [0, 1, 2, 5] rfl (gKeys (gCols nameOk l).length keys).toNat (by omega) ⟨0, rfl, ?_, Nat.zero_le _, rfl⟩), ?_⟩⟩
        focus
          first
            | (have hx := hneg (of_decide_eq_true c3)
               show [O.cells [.sl 3 (cols l) false, fI keys], .cells [.nils, fI 0], .cells [.ms 3 3 0 1 false, V.int .i64 (IntKind.i64.wrap (1 + (IntKind.i64.wrap (0 - IntKind.i64.wrap (keys + 1))).tmod 1))], .buf [[V.str [105, 100], V.int .i64 2, V.bool false]]] = _
               rw [← hx, hGd]; rfl)
            | (have hx := hpos (of_decide_eq_false c3)
               show [O.cells [.sl 3 (cols l) false, fI keys], .cells [.nils, fI 0], .cells [.ms 3 3 0 1 false, V.int .i64 (IntKind.i64.wrap (1 + keys.tmod 1))], .buf [[V.str [105, 100], V.int .i64 2, V.bool false]]] = _
               rw [hGd]; unfold gKeys; rw [hx]; rfl)
    rotate_left 2
    focus
      simp only at hGd
      conv => whnf
      refine branch_i (fun c3 => ?_) (fun c3 => ?_) <;> try rw [c3] <;> conv => whnf
      all_goals
        refine ⟨(show (if (3 : Int) < ((cols (x :: r)).length : Int) then (3 : Int) else ((cols (x :: r)).length : Int)) ≠ 0 by rw [hmin, cols_len]; simp), ?_⟩
        conv => whnf
        refine ⟨⟨[1, 2, 3, 10], GInv l keys (gCols nameOk l) (gKeys (gCols nameOk l).length keys), .frz ((gKeys (gCols nameOk l).length keys).toNat + 1) (.go [0, 1, 2, 3] rfl (gKeys (gCols nameOk l).length keys).toNat (by omega) ⟨0, rfl, ?_, Nat.zero_le _, rfl⟩), ?_⟩⟩
        focus
          first
            | (have hx := hneg (of_decide_eq_true c3)
               show [O.cells [.sl 3 (cols l) false, fI keys], .cells [.nils, fI 0], .cells [.ms 3 3 0 (cols (x :: r)).length false, V.int .i64 (IntKind.i64.wrap (1 + (IntKind.i64.wrap (0 - IntKind.i64.wrap (keys + 1))).tmod (if (3 : Int) < ((cols (x :: r)).length : Int) then (3 : Int) else ((cols (x :: r)).length : Int))))], .buf (cols (x :: r))] = _
               rw [← hx, hmin, show min (cols (x :: r)).length 3 = min (x :: r).length 3 by rw [cols_len], hGd]; rfl)
            | (have hx := hpos (of_decide_eq_false c3)
               show [O.cells [.sl 3 (cols l) false, fI keys], .cells [.nils, fI 0], .cells [.ms 3 3 0 (cols (x :: r)).length false, V.int .i64 (IntKind.i64.wrap (1 + keys.tmod (if (3 : Int) < ((cols (x :: r)).length : Int) then (3 : Int) else ((cols (x :: r)).length : Int))))], .buf (cols (x :: r))] = _
               rw [hmin, show min (cols (x :: r)).length 3 = min (x :: r).length 3 by rw [cols_len], hGd]; unfold gKeys; rw [hx]; rfl)
    all_goals
      have hKo := gKeys_ok hG.1 hkr
      clear hGd hneg hpos c3
      have hgood : goodL nameOk l keys = clearK (gKeys (gCols nameOk l).length keys).toNat (gCols nameOk l) := rfl
      have hgk : goodK nameOk l keys = gKeys (gCols nameOk l).length keys := rfl
      rw [hgood, hgk] at h
      clear hgood hgk
      generalize gKeys (gCols nameOk l).length keys = K at *
      generalize gCols nameOk l = G at *
      rintro m vs H ⟨j, rfl, rfl, hj, rfl⟩
      have hcl := clearK_len j G
      have hcc := cols_len (clearK j G)
      conv => whnf
      refine branch_i (fun c => ?_) (fun c => ?_) <;> try rw [c] <;> conv => whnf
      · have c' := of_decide_eq_true c
        have hlt : j < G.length := by omega
        have hget : G[j]? = some G[j] := List.getElem?_eq_getElem hlt
        generalize G[j] = d at *
        have hget2 : (clearK j G)[j]? = some d := by rw [clearK_get, hget]; simp
        have hsn := clearK_snoc hget
        refine ⟨by omega, ?_⟩
        conv => whnf
        refine ⟨_, cols_get hget2, ?_⟩
        conv => whnf
        have hset : cols (clearK (j + 1) G) = (cols (clearK j G)).set j [V.str d.n, V.int .i64 d.k, V.bool false] := by
          rw [← hsn]; simp [cols, List.map_set, colC]
        have hsl : (cols (clearK (j + 1) G)).length = (cols (clearK j G)).length := by rw [hset, List.length_set]
        refine .go [0, 1, 2, 3] rfl (K.toNat - (j + 1)) (by omega) ⟨j + 1, ?_, ?_, by omega, rfl⟩
        · show [V.ptr 0 0, V.ptr 1 0, V.ptr 2 0, V.int .i64 (IntKind.i64.wrap ((j : Int) + 1))] = _
          rw [show IntKind.i64.wrap ((j : Int) + 1) = ((j + 1 : Nat) : Int) by rw [IntKind.wrap_i64]; omega]
        · show [O.cells [.sl 3 (cols l) false, fI keys], .cells [.nils, fI 0], .cells [.ms 3 3 0 (cols (clearK j G)).length false, fI K], .buf ((cols (clearK j G)).set j [V.str d.n, V.int .i64 d.k, V.bool false])] = _
          rw [← hset, ← hsl]
      · have c' := of_decide_eq_false c
        have e : j = K.toNat := by omega
        subst e
        refine ⟨[3], rfl, .frz 0 rfl (by repeat (first | exact trivial | refine And.intro (Nat.le_of_eq (Nat.zero_add _)) ?_)) (.done [] rfl ?_)⟩
        show Q (.agg [.sl 3 (List.take (cols (clearK K.toNat G)).length (cols (clearK K.toNat G))) false, fI K]) []
        rw [List.take_length]; exact h

end Go.Proofs.YtokifgdmddnpoaaDoorPg

/- Schemas: the one that is made may be. -/
namespace Go.Proofs.YtokifgdmddnpoaaDoorPg
open Go Go.RowKit
set_option linter.unusedSimpArgs false
set_option linter.unusedVariables false

variable {Q : V → List O → Prop}

theorem fnd_neg {name : List UInt8} : ∀ {l : List Col} {i : Nat}, fnd name l i < 0 → ∀ c ∈ l, c.n ≠ name
  | [], _, _, c, hc => by simp at hc
  | d :: l, i, h, c, hc => by
    unfold fnd at h
    split at h
    · omega
    · rename_i hn
      rcases List.mem_cons.1 hc with rfl | hc
      · exact hn
      · exact fnd_neg h c hc

def NamesOk (l : List Col) : Prop := (l.map Col.n).Pairwise (· ≠ ·)
def ColOk (c : Col) : Prop := nameOk c.n = true ∧ kindOk c.k = true

theorem fnd_at {l : List Col} (h : NamesOk l) {i : Nat} {c : Col} (hc : l[i]? = some c) : fnd c.n l 0 = i := by
  refine fnd_here (fun d hd => ?_) hc rfl
  obtain ⟨j, hj, rfl⟩ := List.mem_iff_getElem.1 hd
  rw [List.length_take] at hj
  have hlt := (List.getElem?_eq_some_iff.1 hc).1
  have he := (List.getElem?_eq_some_iff.1 hc).2
  have := List.pairwise_iff_getElem.1 h j i (by simp; omega) (by simpa using hlt) (by omega)
  simp only [List.getElem_map] at this
  rw [List.getElem_take, ← he]
  exact this

theorem pool_ok : ∀ i < 6, nameOk (poolS.getD i []) = true := by decide

theorem kindOk_g {k : Int} (h : -9223372036854775808 ≤ k ∧ k ≤ 9223372036854775807) : kindOk (gKind k) = true := by
  have := gKind_ok h
  unfold kindOk
  simp; omega

def I64 (k : Int) : Prop := -9223372036854775808 ≤ k ∧ k ≤ 9223372036854775807

theorem step_ok {g : List Col} {i : Nat} {c : Col} (hi : i < 6) (h1 : NamesOk g) (h2 : ∀ d ∈ g, ColOk d) (hc : I64 c.k) : NamesOk (stepG nameOk g i c) ∧ ∀ d ∈ stepG nameOk g i c, ColOk d := by
  unfold stepG
  split
  · rename_i hf
    have hne := fnd_neg hf
    have hok : nameOk (gName nameOk g i c) = true := by
      unfold gName
      split
      · exact pool_ok i hi
      · rename_i hx
        cases h : nameOk c.n with
        | true => rfl
        | false => exact absurd (.inl h) hx
    refine ⟨?_, fun d hd => ?_⟩
    · unfold NamesOk
      rw [List.map_append, List.pairwise_append]
      refine ⟨h1, by simp, fun a ha b hb => ?_⟩
      obtain ⟨d, hd, rfl⟩ := List.mem_map.1 ha
      simp at hb
      subst hb
      exact hne d hd
    · rcases List.mem_append.1 hd with hd | hd
      · exact h2 d hd
      · simp at hd
        subst hd
        exact ⟨hok, kindOk_g hc⟩
  · exact ⟨h1, h2⟩

theorem gN_ok {l : List Col} (hl : ∀ c ∈ l, I64 c.k) : ∀ i ≤ 6, NamesOk (gN nameOk l i) ∧ ∀ d ∈ gN nameOk l i, ColOk d
  | 0, _ => by simp [gN, NamesOk]
  | i + 1, hi => by
    have ih := gN_ok hl i (by omega)
    unfold gN
    split
    · rename_i c hc
      exact step_ok (by omega) ih.1 ih.2 (hl c (List.mem_of_getElem? hc))
    · exact ih

theorem gCols_ok {l : List Col} (hl : ∀ c ∈ l, I64 c.k) : NamesOk (gCols nameOk l) ∧ ∀ d ∈ gCols nameOk l, ColOk d := by
  have := gN_ok hl (min l.length 6) (by omega)
  unfold gCols
  split
  · refine ⟨by simp [NamesOk], fun d hd => ?_⟩
    simp at hd
    subst hd
    exact ⟨by decide, by decide⟩
  · exact this

theorem clearK_names (k : Nat) (l : List Col) : (clearK k l).map Col.n = l.map Col.n := by
  refine List.ext_getElem? fun i => ?_
  rw [List.getElem?_map, List.getElem?_map, clearK_get]
  cases l[i]? with
  | none => rfl
  | some c => by_cases h : i < k <;> simp [h]

theorem good_names {l : List Col} (hl : ∀ c ∈ l, I64 c.k) (keys : Int) : NamesOk (goodL nameOk l keys) ∧ ∀ d ∈ goodL nameOk l keys, ColOk d := by
  obtain ⟨h1, h2⟩ := gCols_ok hl
  unfold goodL
  refine ⟨by unfold NamesOk; rw [clearK_names]; exact h1, fun d hd => ?_⟩
  obtain ⟨i, hi⟩ := List.mem_iff_getElem?.1 hd
  rw [clearK_get] at hi
  cases hc : (gCols nameOk l)[i]? with
  | none => rw [hc] at hi; cases hi
  | some c =>
    rw [hc] at hi
    have := h2 c (List.mem_of_getElem? hc)
    simp only [Option.map_some, Option.some.injEq] at hi
    subst hi
    split
    · exact this
    · exact this

theorem good_len (l : List Col) (keys : Int) : 1 ≤ (goodL nameOk l keys).length ∧ (goodL nameOk l keys).length ≤ 6 := by
  unfold goodL
  rw [clearK_len]; exact gCols_len _ _

theorem good_keys {l : List Col} {keys : Int} (hk : I64 keys) : 1 ≤ goodK nameOk l keys ∧ goodK nameOk l keys ≤ 3 ∧ goodK nameOk l keys ≤ (goodL nameOk l keys).length := by
  unfold goodK goodL
  rw [clearK_len]
  exact gKeys_ok (gCols_len _ _).1 hk

theorem good_may {l : List Col} {keys : Int} (hl : ∀ c ∈ l, I64 c.k) (hk : I64 keys) : mayS (goodL nameOk l keys) (goodK nameOk l keys) = true := by
  obtain ⟨h1, h2⟩ := good_names hl keys
  obtain ⟨k1, k2, k3⟩ := good_keys (l := l) hk
  have hlen := good_len l keys
  refine mayS_yes (by unfold mayH; simp; omega) fun i c hc => ?_
  obtain ⟨g1, g2⟩ := h2 c (List.mem_of_getElem? hc)
  unfold mayC
  rw [g1, g2, fnd_at h1 hc]
  simp
  rcases Int.lt_or_le (i : Int) (goodK nameOk l keys) with hi | hi
  rotate_left
  · exact .inl hi
  refine .inr ?_
  unfold goodL at hc
  rw [clearK_get] at hc
  cases hd : (gCols nameOk l)[i]? with
  | none => rw [hd] at hc; cases hc
  | some d =>
    rw [hd] at hc
    simp only [Option.map_some, Option.some.injEq] at hc
    have : i < (gKeys (gCols nameOk l).length keys).toNat := by
      unfold goodK at hi
      omega
    rw [if_pos this] at hc
    rw [← hc]

end Go.Proofs.YtokifgdmddnpoaaDoorPg

/- Schemas: changes. -/
namespace Go.Proofs.YtokifgdmddnpoaaDoorPg
open Go Go.RowKit
set_option linter.unusedSimpArgs false
set_option linter.unusedVariables false

variable {Q : V → List O → Prop}

def chMap : O := .map [(fI 3, .fn (.func 95) [] []), (fI 4, .fn (.func 96) [] []), (fI 5, .fn (.func 97) [] [])] 3

theorem changes_spec (h : Q (.map 0) [chMap]) : ACall Tryd.prog 76 0 [] [] Q := by
  refine by_body Tryd.func76 0 rfl (Nat.le_of_ble_eq_true rfl) ?_
  conv => whnf
  exact ⟨[0], rfl, h⟩

theorem cols_erase (l : List Col) (i : Nat) : cols (l.eraseIdx i) = (cols l).take i ++ (cols l).drop (i + 1) := by
  rw [List.eraseIdx_eq_take_drop_succ]; simp [cols]

theorem del_tail {α : Type} {a b : List α} {z : α} {n : Nat} (ha : a.length = n - 1) (hb : (a ++ b).length = n) (hn : 0 < n) :
    (a ++ b).take (n - 1) ++ List.replicate (n - (n - 1)) z ++ (a ++ b).drop (n - 1 + (n - (n - 1))) = a ++ [z] := by
  rw [show n - (n - 1) = 1 by omega, show n - 1 + 1 = n by omega, List.drop_of_length_le (by omega), ← ha, List.take_left]
  simp

theorem wrap_i64_of {n : Int} (h : -9223372036854775808 ≤ n ∧ n ≤ 9223372036854775807) : IntKind.i64.wrap n = n := by rw [IntKind.wrap_i64]; omega

theorem SDelete_spec {l : List Col} {i : Nat} (hl : l.length < 1000000) (h0 : 0 < i) (hi : i < l.length) (h : Q (.ms 3 0 0 (l.length - 1) false) [.buf (cols (l.eraseIdx i) ++ [[.str [], fI 0, .bool false]])]) :
    ACall Tryd.prog 109 1 [.ms 3 0 0 l.length false, fI i, fI ((i + 1 : Nat) : Int)] [.buf (cols l)] Q := by
  have hlk := cols_len l
  refine by_body Tryd.func109 1 rfl (Nat.le_of_ble_eq_true rfl) ?_
  conv => whnf
  by_cases c : i + 1 = l.length
  all_goals
    first
      | rw [show decide (((i + 1 : Nat) : Int) = (l.length : Int)) = true by simp; omega]
      | rw [show decide (((i + 1 : Nat) : Int) = (l.length : Int)) = false by simp; omega]
    conv => whnf
    refine ⟨by omega, ?_⟩
    conv => whnf
    rw [show decide ((i : Int) = ((i + 1 : Nat) : Int)) = false by simp; omega]
    conv => whnf
    refine ⟨[0, 1, 2, 3, 4, 5, 6, 7], by kernel_rfl, by kernel_rfl, ?_⟩
    conv => whnf
    refine ⟨by omega, ?_⟩
    conv => whnf
    refine ⟨by omega, ?_⟩
    conv => whnf
    refine ⟨by rw [hlk]; simp; omega, ?_⟩
    conv => whnf
    rw [show List.take (l.length - ((i + 1 : Nat) : Int).toNat) (List.drop (((i + 1 : Nat) : Int).toNat + 0) (cols l)) = (cols l).drop (i + 1) by
      rw [Int.toNat_natCast, Nat.add_zero, List.take_of_length_le (by simp [hlk])]]
    rw [show 0 + ((i : Nat) : Int).toNat = i by omega]
    have e3 : ((cols l).drop (i + 1)).length = l.length - (i + 1) := by simp [hlk]
    refine ⟨⟨by omega, by rw [e3, hlk]; omega⟩, ?_⟩
    rw [e3, Int.toNat_natCast, show i + (l.length - (i + 1)) = l.length - 1 by omega]
    have e4 : ((cols l).take i ++ (cols l).drop (i + 1) ++ (cols l).drop (l.length - 1)).length = l.length := by simp [hlk]; omega
    have e5 : (cols l).take i ++ (cols l).drop (i + 1) = cols (l.eraseIdx i) := (cols_erase l i).symm
    rw [e5] at e4 ⊢
    have e6 : (cols (l.eraseIdx i)).length = l.length - 1 := by rw [cols_len, List.length_eraseIdx, if_pos hi]
    conv => whnf
    refine ⟨⟨by omega, by omega, .inr ⟨by omega, (by omega : 0 + ((l.length : Nat) : Int).toNat ≤ (cols (l.eraseIdx i) ++ (cols l).drop (l.length - 1)).length)⟩⟩, ?_⟩
    conv => whnf
    rw [Int.toNat_natCast, Int.toNat_natCast]
    refine ⟨⟨by omega, by omega⟩, ?_⟩
    conv => whnf
    refine ⟨[0], rfl, ?_⟩
    show Q (.ms 3 0 0 ((i : Int).toNat + (l.length - (i + 1))) false) [O.buf (List.take ((i : Int).toNat + (l.length - (i + 1)) + 0) (cols (l.eraseIdx i) ++ List.drop (l.length - 1) (cols l)) ++
      List.replicate (l.length - ((i : Int).toNat + (l.length - (i + 1)))) [.str [], fI 0, .bool false] ++
      List.drop ((i : Int).toNat + (l.length - (i + 1)) + 0 + (l.length - ((i : Int).toNat + (l.length - (i + 1))))) (cols (l.eraseIdx i) ++ List.drop (l.length - 1) (cols l)))]
    rw [Int.toNat_natCast, show i + (l.length - (i + 1)) = l.length - 1 by omega, Nat.add_zero, del_tail e6 e4 (by omega)]
    exact h

/-- a schema behind a change, and the error -/
abbrev Res := List Col × Int × Int
def resS (r : Res) : V := .tup [sch r.1 r.2.1, fI r.2.2]

def addS (l : List Col) (keys : Int) (c : Col) : Res :=
  if nameOk c.n && kindOk c.k && c.o then
    if 0 ≤ fnd c.n l 0 then ([], 0, 8) else if l.length = 16 then ([], 0, 10) else (l ++ [c], keys, 0)
  else ([], 0, 1)

def cutS (l : List Col) (keys : Int) (c : Col) : Res :=
  if fnd c.n l 0 < 0 then ([], 0, 7) else if fnd c.n l 0 < keys then ([], 0, 10) else (l.eraseIdx (fnd c.n l 0).toNat, keys, 0)

def setKind (l : List Col) (i : Nat) (k : Int) : List Col := l.modify i fun c => { c with k := k }

def retS (l : List Col) (keys : Int) (c : Col) : Res :=
  if fnd c.n l 0 < 0 then ([], 0, 7)
  else if fnd c.n l 0 < keys then ([], 0, 10)
  else if ((l[(fnd c.n l 0).toNat]?).map Col.o).getD false = false then ([], 0, 10)
  else if kindOk c.k then (setKind l (fnd c.n l 0).toNat c.k, keys, 0) else ([], 0, 1)

def applyS (l : List Col) (keys : Int) (k : Int) (c : Col) : Res :=
  if k = 3 then addS l keys c else if k = 4 then cutS l keys c else if k = 5 then retS l keys c else ([], 0, 5)

theorem err_sub (e : Int) : VSub (.tup [.agg [.nils, fI 0], fI e]) (resS ([], 0, e)) := VSub.tup (.cons (VSub.agg (.cons (VSub.nils 3 false) (VSubs.refl _))) (VSubs.refl _))

theorem add_spec {l : List Col} {keys : Int} {c : Col} (hl : l.length < 1000000) (h : Q (resS (addS l keys c)) []) :
    ACall Tryd.prog 95 0 [sch l keys, .agg [.str c.n, fI c.k, .bool c.o]] [] Q := by
  have hlk := cols_len l
  refine ACall.ret (by_body Tryd.func95 0 rfl (Nat.le_of_ble_eq_true rfl) ?_)
  conv => whnf
  refine .call [] 0 ⟨rfl, rfl, rfl⟩ (Name_spec ?_)
  conv => whnf
  unfold addS at h
  cases c1 : nameOk c.n <;> rw [c1] at h
  focus
    conv => whnf
    exact ⟨[], rfl, .sub _ _ (err_sub 1) (HSub.refl _) (.done [] rfl h)⟩
  conv => whnf
  refine .call [] 0 ⟨rfl, rfl, rfl⟩ (kind_spec ?_)
  conv => whnf
  cases c2 : kindOk c.k <;> rw [c2] at h
  focus
    conv => whnf
    exact ⟨[], rfl, .sub _ _ (err_sub 1) (HSub.refl _) (.done [] rfl h)⟩
  conv => whnf
  cases c3 : c.o <;> rw [c3] at h
  focus
    conv => whnf
    exact ⟨[], rfl, .sub _ _ (err_sub 1) (HSub.refl _) (.done [] rfl h)⟩
  conv => whnf
  refine .call [] 0 ⟨rfl, rfl, rfl⟩ (Find_spec hl ?_)
  conv => whnf
  simp only [Bool.and_self, if_true] at h
  refine branch_i (fun c4 => ?_) (fun c4 => ?_) <;> try rw [c4] <;> conv => whnf
  focus
    rw [if_pos (of_decide_eq_true c4)] at h
    exact ⟨[], rfl, .sub _ _ (err_sub 8) (HSub.refl _) (.done [] rfl h)⟩
  rw [if_neg (of_decide_eq_false c4)] at h
  refine branch_i (fun c5 => ?_) (fun c5 => ?_) <;> try rw [c5] <;> conv => whnf
  focus
    have c5' := of_decide_eq_true c5
    rw [if_pos (by omega)] at h
    exact ⟨[], rfl, .sub _ _ (err_sub 10) (HSub.refl _) (.done [] rfl h)⟩
  have c5' := of_decide_eq_false c5
  rw [if_neg (by omega)] at h
  refine .call [] 0 ⟨rfl, rfl, rfl⟩ (Clone_spec hl ?_)
  conv => whnf
  refine ⟨Nat.le_refl _, ?_⟩
  conv => whnf
  refine ⟨(by omega : l.length + 0 = (cols l).length), ?_⟩
  conv => whnf
  refine ⟨Nat.le_trans (Nat.mul_le_mul_right _ (by rw [List.length_append, List.length_take, List.drop_zero, hlk]; exact Nat.add_le_add (Nat.le_refl _) (Nat.min_le_left _ _))) (show (l.length + 1) * 32 ≤ 70368744177664 by omega), ?_⟩
  conv => whnf
  refine ⟨[6], rfl, .frz 0 rfl (by repeat (first | exact trivial | refine And.intro (Nat.le_of_eq (Nat.zero_add _)) ?_)) (.done [] rfl ?_)⟩
  show Q (.tup [.agg [.sl 3 (List.take (cols l ++ [[.str c.n, fI c.k, .bool true]]).length (cols l ++ [[.str c.n, fI c.k, .bool true]])) false, fI keys], fI 0]) []
  rw [List.take_length]
  have e : cols (l ++ [c]) = cols l ++ [[.str c.n, fI c.k, .bool true]] := by rw [cols_app, ← c3]; rfl
  rw [← e]
  exact h

theorem fnd_lt {name : List UInt8} : ∀ {l : List Col} {i : Nat}, fnd name l i < 0 ∨ ((i : Int) ≤ fnd name l i ∧ fnd name l i < i + l.length)
  | [], i => .inl (by unfold fnd; omega)
  | c :: l, i => by
    unfold fnd
    split
    · right; simp only [List.length_cons]; omega
    · rcases fnd_lt (name := name) (l := l) (i := i + 1) with h | h
      · exact .inl h
      · right; simp only [List.length_cons]; omega

theorem cut_S_spec {l : List Col} {keys : Int} {c : Col} (hl : l.length < 1000000) (hk : 1 ≤ keys) (h : Q (resS (cutS l keys c)) []) :
    ACall Tryd.prog 96 0 [sch l keys, .agg [.str c.n, fI c.k, .bool c.o]] [] Q := by
  have hlk := cols_len l
  refine ACall.ret (by_body Tryd.func96 0 rfl (Nat.le_of_ble_eq_true rfl) ?_)
  conv => whnf
  refine .call [] 0 ⟨rfl, rfl, rfl⟩ (Find_spec hl ?_)
  conv => whnf
  unfold cutS at h
  have hf := fnd_lt (name := c.n) (l := l) (i := 0)
  refine branch_i (fun c1 => ?_) (fun c1 => ?_) <;> try rw [c1] <;> conv => whnf
  focus
    rw [if_pos (of_decide_eq_true c1)] at h
    exact ⟨[], rfl, .sub _ _ (err_sub 7) (HSub.refl _) (.done [] rfl h)⟩
  have c1' := of_decide_eq_false c1
  rw [if_neg c1'] at h
  refine branch_i (fun c2 => ?_) (fun c2 => ?_) <;> try rw [c2] <;> conv => whnf
  focus
    rw [if_pos (of_decide_eq_true c2)] at h
    exact ⟨[], rfl, .sub _ _ (err_sub 10) (HSub.refl _) (.done [] rfl h)⟩
  have c2' := of_decide_eq_false c2
  rw [if_neg c2'] at h
  obtain ⟨i, hi⟩ : ∃ i : Nat, fnd c.n l 0 = i := ⟨(fnd c.n l 0).toNat, by omega⟩
  rw [hi] at h
  simp only [hi] at *
  rw [Int.toNat_natCast] at h
  refine .call [] 0 ⟨rfl, rfl, rfl⟩ (Clone_spec hl ?_)
  conv => whnf
  rw [show IntKind.i64.wrap ((i : Int) + 1) = ((i + 1 : Nat) : Int) by rw [IntKind.wrap_i64]; omega]
  refine .call [3] 1 ⟨rfl, rfl, rfl⟩ (SDelete_spec hl (by omega) (by omega) ?_)
  conv => whnf
  have e6 : (cols (l.eraseIdx i)).length = l.length - 1 := by rw [cols_len, List.length_eraseIdx, if_pos (by omega)]
  refine ⟨[3], rfl, .frz 0 rfl ⟨(by rw [List.length_append, e6]; simp : 0 + (l.length - 1) ≤ (cols (l.eraseIdx i) ++ [[V.str [], fI 0, V.bool false]]).length), trivial⟩ (.done [] rfl ?_)⟩
  show Q (.tup [.agg [.sl 3 (List.take (l.length - 1) (cols (l.eraseIdx i) ++ [[.str [], fI 0, .bool false]])) false, fI keys], fI 0]) []
  rw [← e6, List.take_left]
  exact h

theorem set_kind {l : List Col} {i : Nat} {c : Col} (h : l[i]? = some c) (k : Int) : (cols l).set i [.str c.n, fI k, .bool c.o] = cols (setKind l i k) := by
  have hlt := (List.getElem?_eq_some_iff.1 h).1
  refine List.ext_getElem? fun j => ?_
  unfold setKind cols
  rw [List.getElem?_set, List.getElem?_map, List.getElem?_map, List.getElem?_modify]
  by_cases e : i = j
  · subst e; rw [h]; simp [hlt, colC]
  · simp [e]

theorem retype_spec {l : List Col} {keys : Int} {c : Col} (hl : l.length < 1000000) (hk : 1 ≤ keys) (h : Q (resS (retS l keys c)) []) :
    ACall Tryd.prog 97 0 [sch l keys, .agg [.str c.n, fI c.k, .bool c.o]] [] Q := by
  have hlk := cols_len l
  refine ACall.ret (by_body Tryd.func97 0 rfl (Nat.le_of_ble_eq_true rfl) ?_)
  conv => whnf
  refine .call [] 0 ⟨rfl, rfl, rfl⟩ (Find_spec hl ?_)
  conv => whnf
  unfold retS at h
  have hf := fnd_lt (name := c.n) (l := l) (i := 0)
  refine branch_i (fun c1 => ?_) (fun c1 => ?_) <;> try rw [c1] <;> conv => whnf
  focus
    rw [if_pos (of_decide_eq_true c1)] at h
    exact ⟨[], rfl, .sub _ _ (err_sub 7) (HSub.refl _) (.done [] rfl h)⟩
  have c1' := of_decide_eq_false c1
  rw [if_neg c1'] at h
  obtain ⟨i, hi⟩ : ∃ i : Nat, fnd c.n l 0 = i := ⟨(fnd c.n l 0).toNat, by omega⟩
  rw [hi] at h
  simp only [hi] at *
  rw [Int.toNat_natCast] at h
  have hlt : i < l.length := by omega
  have hget : l[i]? = some l[i] := List.getElem?_eq_getElem hlt
  generalize l[i] = d at *
  rw [hget] at h
  simp only [Option.map_some, Option.getD_some] at h
  by_cases c2 : (i : Int) < keys
  focus
    rw [show decide ((i : Int) < keys) = true by simp [c2]]
    conv => whnf
    rw [if_pos c2] at h
    exact ⟨[], rfl, .sub _ _ (err_sub 10) (HSub.refl _) (.done [] rfl h)⟩
  rw [show decide ((i : Int) < keys) = false by simp [c2]]
  rw [if_neg c2] at h
  conv => whnf
  refine ⟨_, ⟨by omega, cols_get hget⟩, ?_⟩
  conv => whnf
  cases c3 : d.o <;> simp only [c3, Bool.true_eq_false, if_true, if_false] at h
  focus
    conv => whnf
    exact ⟨[], rfl, .sub _ _ (err_sub 10) (HSub.refl _) (.done [] rfl h)⟩
  conv => whnf
  refine .call [] 0 ⟨rfl, rfl, rfl⟩ (kind_spec ?_)
  conv => whnf
  cases c4 : kindOk c.k <;> rw [c4] at h
  focus
    conv => whnf
    exact ⟨[], rfl, .sub _ _ (err_sub 1) (HSub.refl _) (.done [] rfl h)⟩
  conv => whnf
  refine .call [] 0 ⟨rfl, rfl, rfl⟩ (Clone_spec hl ?_)
  conv => whnf
  refine ⟨⟨by omega, by omega⟩, ?_⟩
  conv => whnf
  refine ⟨_, cols_get hget, ?_⟩
  conv => whnf
  refine ⟨[3], rfl, .frz 0 rfl ⟨(by rw [List.length_set]; omega : 0 + l.length ≤ ((cols l).set i [.str d.n, fI c.k, .bool d.o]).length), trivial⟩ (.done [] rfl ?_)⟩
  show Q (.tup [.agg [.sl 3 (List.take l.length ((cols l).set i [.str d.n, fI c.k, .bool d.o])) false, fI keys], fI 0]) []
  rw [List.take_of_length_le (by rw [List.length_set]; omega), set_kind hget]
  exact h

/-- a change -/
def chg (k : Int) (x1 x2 x3 : V) (c : Col) : V := .agg [fI k, x1, x2, x3, .str c.n, fI c.k, .bool c.o]

set_option maxRecDepth 10000 in
theorem Apply_spec {l : List Col} {keys k : Int} {c : Col} {x1 x2 x3 : V} (hl : l.length < 1000000) (hk : 1 ≤ keys) (h : Q (resS (applyS l keys k c)) []) :
    ACall Tryd.prog 51 0 [sch l keys, chg k x1 x2 x3 c] [] Q := by
  refine ACall.ret (by_body Tryd.func51 0 rfl (Nat.le_of_ble_eq_true rfl) ?_)
  conv => whnf
  refine ⟨[1, 2, 0, 3, 4], by kernel_rfl, by kernel_rfl, ?_⟩
  conv => whnf
  refine .call [] 0 ⟨rfl, rfl, rfl⟩ (changes_spec ?_)
  refine ⟨rfl, ?_⟩
  conv => whnf
  unfold applyS at h
  refine branch_i (fun c1 => ?_) (fun c1 => ?_) <;> try rw [c1] <;> conv => whnf
  focus
    rw [if_pos (of_decide_eq_true c1)] at h
    refine .call [] 0 ⟨rfl, rfl, rfl⟩ (add_spec hl ?_)
    conv => whnf
    exact ⟨[], rfl, .done [] rfl h⟩
  rw [if_neg (of_decide_eq_false c1)] at h
  refine branch_i (fun c2 => ?_) (fun c2 => ?_) <;> try rw [c2] <;> conv => whnf
  focus
    rw [if_pos (of_decide_eq_true c2)] at h
    refine .call [] 0 ⟨rfl, rfl, rfl⟩ (cut_S_spec hl hk ?_)
    conv => whnf
    exact ⟨[], rfl, .done [] rfl h⟩
  rw [if_neg (of_decide_eq_false c2)] at h
  refine branch_i (fun c3 => ?_) (fun c3 => ?_) <;> try rw [c3] <;> conv => whnf
  focus
    rw [if_pos (of_decide_eq_true c3)] at h
    refine .call [] 0 ⟨rfl, rfl, rfl⟩ (retype_spec hl hk ?_)
    conv => whnf
    exact ⟨[], rfl, .done [] rfl h⟩
  rw [if_neg (of_decide_eq_false c3)] at h
  conv => whnf
  refine ⟨.nilf, ⟨_, _, rfl, rfl, rfl⟩, ?_⟩
  conv => whnf
  exact ⟨[], rfl, .sub _ _ (err_sub 5) (HSub.refl _) (.done [] rfl h)⟩

theorem Rapp_spec {l : List Col} {keys k : Int} {c : Col} {x1 x2 x3 : V} (hl : l.length ≤ 16) (hk : 1 ≤ keys) (h : Q (resS (applyS l keys k c)) []) :
    ACall Tryd.prog 52 0 [sch l keys, chg k x1 x2 x3 c] [] Q := by
  have hlk := cols_len l
  refine ACall.ret (by_body Tryd.func52 0 rfl (Nat.le_of_ble_eq_true rfl) ?_)
  conv => whnf
  refine .call [] 0 ⟨rfl, rfl, rfl⟩ (RFind_spec (by omega) ?_)
  conv => whnf
  refine ⟨(show (cols l).length * 32 ≤ 70368744177664 by omega), ?_⟩
  conv => whnf
  refine .call [] 0 ⟨rfl, rfl, rfl⟩ (RName_spec ?_)
  conv => whnf
  refine .call [] 0 ⟨rfl, rfl, rfl⟩ (Rkind_spec ?_)
  conv => whnf
  unfold applyS at h
  refine branch_i (fun c1 => ?_) (fun c1 => ?_) <;> try rw [c1] <;> conv => whnf
  focus
    rw [if_pos (of_decide_eq_true c1)] at h
    unfold addS at h
    cases d1 : nameOk c.n <;> rw [d1] at h
    focus
      conv => whnf
      exact ⟨[], rfl, .sub _ _ (err_sub 1) (HSub.refl _) (.done [] rfl h)⟩
    conv => whnf
    cases d2 : kindOk c.k <;> rw [d2] at h
    focus
      conv => whnf
      exact ⟨[], rfl, .sub _ _ (err_sub 1) (HSub.refl _) (.done [] rfl h)⟩
    conv => whnf
    cases d3 : c.o <;> rw [d3] at h
    focus
      conv => whnf
      exact ⟨[], rfl, .sub _ _ (err_sub 1) (HSub.refl _) (.done [] rfl h)⟩
    conv => whnf
    simp only [Bool.and_self, if_true] at h
    refine branch_i (fun c4 => ?_) (fun c4 => ?_) <;> try rw [c4] <;> conv => whnf
    focus
      rw [if_pos (of_decide_eq_true c4)] at h
      exact ⟨[], rfl, .sub _ _ (err_sub 8) (HSub.refl _) (.done [] rfl h)⟩
    rw [if_neg (of_decide_eq_false c4)] at h
    refine branch_i (fun c5 => ?_) (fun c5 => ?_) <;> try rw [c5] <;> conv => whnf
    focus
      have c5' := of_decide_eq_true c5
      rw [if_pos (by omega)] at h
      exact ⟨[], rfl, .sub _ _ (err_sub 10) (HSub.refl _) (.done [] rfl h)⟩
    have c5' := of_decide_eq_false c5
    rw [if_neg (by omega)] at h
    refine ⟨[0, 1, 2, 5, 6, 3, 4, 7, 8, 9], by kernel_rfl, by kernel_rfl, ?_⟩
    conv => whnf
    refine ⟨rfl, ?_⟩
    conv => whnf
    refine ⟨Nat.le_refl _, ?_⟩
    conv => whnf
    refine ⟨rfl, ?_⟩
    conv => whnf
    refine ⟨Nat.le_trans (Nat.mul_le_mul_right _ (by rw [List.length_append, List.length_take, List.drop_zero, hlk]; exact Nat.add_le_add (Nat.le_refl _) (Nat.min_le_left _ _))) (show (l.length + 1) * 32 ≤ 70368744177664 by omega), ?_⟩
    refine ⟨rfl, ?_⟩
    conv => whnf
    refine ⟨[6], rfl, .frz 0 rfl (by repeat (first | exact trivial | refine And.intro (Nat.le_of_eq (Nat.zero_add _)) ?_)) (.done [] rfl ?_)⟩
    show Q (.tup [.agg [.sl 3 (List.take (cols l ++ [[.str c.n, fI c.k, .bool true]]).length (cols l ++ [[.str c.n, fI c.k, .bool true]])) false, fI keys], fI 0]) []
    rw [List.take_length]
    have e : cols (l ++ [c]) = cols l ++ [[.str c.n, fI c.k, .bool true]] := by rw [cols_app, ← d3]; rfl
    rw [← e]
    exact h
  rw [if_neg (of_decide_eq_false c1)] at h
  have hf := fnd_lt (name := c.n) (l := l) (i := 0)
  by_cases c2 : k = 4
  · subst c2
    conv => whnf
    rw [if_pos rfl] at h
    unfold cutS at h
    refine branch_i (fun c4 => ?_) (fun c4 => ?_) <;> try rw [c4] <;> conv => whnf
    focus
      rw [if_pos (of_decide_eq_true c4)] at h
      exact ⟨[], rfl, .sub _ _ (err_sub 7) (HSub.refl _) (.done [] rfl h)⟩
    have c4' := of_decide_eq_false c4
    rw [if_neg c4'] at h
    refine branch_i (fun c5 => ?_) (fun c5 => ?_) <;> try rw [c5] <;> conv => whnf
    focus
      rw [if_pos (of_decide_eq_true c5)] at h
      exact ⟨[], rfl, .sub _ _ (err_sub 10) (HSub.refl _) (.done [] rfl h)⟩
    have c5' := of_decide_eq_false c5
    rw [if_neg c5'] at h
    obtain ⟨i, hi⟩ : ∃ i : Nat, fnd c.n l 0 = i := ⟨(fnd c.n l 0).toNat, by omega⟩
    rw [hi] at h
    simp only [hi] at *
    rw [Int.toNat_natCast] at h
    refine ⟨[0, 1, 2, 3, 4, 5, 6, 8, 9, 7, 10, 11, 12], by kernel_rfl, by kernel_rfl, ?_⟩
    conv => whnf
    refine ⟨⟨by omega, by omega⟩, ?_⟩
    conv => whnf
    rw [show IntKind.i64.wrap ((i : Int) + 1) = ((i + 1 : Nat) : Int) by rw [IntKind.wrap_i64]; omega]
    refine ⟨⟨by omega, by omega⟩, ?_⟩
    conv => whnf
    refine ⟨by rw [hlk]; simp; omega, ?_⟩
    conv => whnf
    rw [show List.take ((cols l).length - ((i + 1 : Nat) : Int).toNat) (List.drop (((i + 1 : Nat) : Int).toNat + 0) (cols l)) = (cols l).drop (i + 1) by
      rw [Int.toNat_natCast, Nat.add_zero, List.take_of_length_le (by simp)]]
    have e3 : ((cols l).drop (i + 1)).length = l.length - (i + 1) := by simp [hlk]
    rw [Int.toNat_natCast, e3, show 0 + i = i by omega]
    refine ⟨⟨by omega, by omega⟩, ?_⟩
    have e5 : (cols l).take i ++ (cols l).drop (i + 1) = cols (l.eraseIdx i) := (cols_erase l i).symm
    rw [e5, show i + (l.length - (i + 1)) = l.length - 1 by omega]
    have e6 : (cols (l.eraseIdx i)).length = l.length - 1 := by rw [cols_len, List.length_eraseIdx, if_pos (by omega)]
    conv => whnf
    refine ⟨rfl, ?_⟩
    conv => whnf
    refine ⟨[4], rfl, .frz 0 rfl ⟨(by rw [List.length_append]; omega : 0 + (l.length - 1) ≤ (cols (l.eraseIdx i) ++ List.drop (l.length - 1) (cols l)).length), trivial⟩ (.done [] rfl ?_)⟩
    show Q (.tup [.agg [.sl 3 (List.take (l.length - 1) (cols (l.eraseIdx i) ++ List.drop (l.length - 1) (cols l))) false, fI keys], fI 0]) []
    rw [show List.take (l.length - 1) (cols (l.eraseIdx i) ++ List.drop (l.length - 1) (cols l)) = cols (l.eraseIdx i) by rw [← e6, List.take_left]]
    exact h
  rw [if_neg c2] at h
  by_cases c3 : k = 5
  · subst c3
    conv => whnf
    rw [if_pos rfl] at h
    unfold retS at h
    refine branch_i (fun c4 => ?_) (fun c4 => ?_) <;> try rw [c4] <;> conv => whnf
    focus
      rw [if_pos (of_decide_eq_true c4)] at h
      exact ⟨[], rfl, .sub _ _ (err_sub 7) (HSub.refl _) (.done [] rfl h)⟩
    have c4' := of_decide_eq_false c4
    rw [if_neg c4'] at h
    refine branch_i (fun c5 => ?_) (fun c5 => ?_) <;> try rw [c5] <;> conv => whnf
    focus
      rw [if_pos (of_decide_eq_true c5)] at h
      exact ⟨[], rfl, .sub _ _ (err_sub 10) (HSub.refl _) (.done [] rfl h)⟩
    have c5' := of_decide_eq_false c5
    rw [if_neg c5'] at h
    obtain ⟨i, hi⟩ : ∃ i : Nat, fnd c.n l 0 = i := ⟨(fnd c.n l 0).toNat, by omega⟩
    rw [hi] at h
    simp only [hi] at *
    rw [Int.toNat_natCast] at h
    have hlt : i < l.length := by omega
    have hget : l[i]? = some l[i] := List.getElem?_eq_getElem hlt
    generalize l[i] = d at *
    rw [hget] at h
    simp only [Option.map_some, Option.getD_some] at h
    refine ⟨⟨by omega, by omega⟩, ?_⟩
    conv => whnf
    refine ⟨_, cols_get hget, ?_⟩
    conv => whnf
    cases d3 : d.o <;> simp only [d3, Bool.true_eq_false, if_true, if_false] at h
    focus
      conv => whnf
      exact ⟨[], rfl, .sub _ _ (err_sub 10) (HSub.refl _) (.done [] rfl h)⟩
    conv => whnf
    cases d4 : kindOk c.k <;> rw [d4] at h
    focus
      conv => whnf
      exact ⟨[], rfl, .sub _ _ (err_sub 1) (HSub.refl _) (.done [] rfl h)⟩
    conv => whnf
    refine ⟨⟨by omega, by omega⟩, ?_⟩
    conv => whnf
    refine ⟨_, cols_get hget, ?_⟩
    conv => whnf
    refine ⟨[4], rfl, .frz 0 rfl ⟨(by rw [List.length_set]; omega : 0 + (cols l).length ≤ ((cols l).set i [.str d.n, fI c.k, .bool d.o]).length), trivial⟩ (.done [] rfl ?_)⟩
    show Q (.tup [.agg [.sl 3 (List.take (cols l).length ((cols l).set i [.str d.n, fI c.k, .bool d.o])) false, fI keys], fI 0]) []
    rw [List.take_of_length_le (by rw [List.length_set]; omega), set_kind hget]
    exact h
  rw [if_neg c3] at h
  rw [show decide (k = 4) = false by simp [c2]]
  conv => whnf
  rw [show decide (k = 5) = false by simp [c3]]
  conv => whnf
  exact ⟨[], rfl, .sub _ _ (err_sub 5) (HSub.refl _) (.done [] rfl h)⟩

end Go.Proofs.YtokifgdmddnpoaaDoorPg

/- Schemas: the example; the law SchemaMay. -/
namespace Go.Proofs.YtokifgdmddnpoaaDoorPg
open Go Go.RowKit
set_option linter.unusedSimpArgs false
set_option linter.unusedVariables false

variable {Q : V → List O → Prop}

def idS : List UInt8 := [105, 100]
def nameS : List UInt8 := [110, 97, 109, 101]
def exCols : List Col := [⟨idS, 2, false⟩, ⟨nameS, 3, false⟩]

theorem ex_cut1 : applyS exCols 1 4 ⟨idS, 0, false⟩ = ([], 0, 10) := by decide
theorem ex_cut2 : applyS exCols 1 4 ⟨nameS, 0, false⟩ = ([⟨idS, 2, false⟩], 1, 0) := by decide
theorem ex_may : mayS exCols 1 = true := by decide

theorem same_self (l : List Col) (k : Int) : sameS l k l k = true := by simp [sameS]

theorem VSub.of_eq {a b : V} (h : a = b) : VSub a b := by subst h; exact VSub.refl _

theorem frz_cols (a : List Col) (n : Nat) (hn : n = a.length) : VSub (.sl 3 (List.take n (List.drop 0 (cols a))) false) (.sl 3 (cols a) false) :=
  VSub.of_eq (by subst hn; rw [List.drop_zero, List.take_of_length_le (by rw [cols_len]; omega)])

theorem cutL_ok {l : List Col} (hl : ∀ c ∈ l, I64 c.k) : ∀ c ∈ cutL l, I64 c.k := by
  intro c hc
  simp only [cutL, List.mem_map] at hc
  obtain ⟨d, hd, rfl⟩ := hc
  exact hl d (List.mem_of_mem_take hd)

theorem cols_of : ∀ {es : List (List V)}, (∀ x ∈ es, ∃ (s : List UInt8) (k : Int) (o : Bool), x = [.str s, .int .i64 k, .bool o] ∧ I64 k) → ∃ l, es = cols l ∧ ∀ c ∈ l, I64 c.k
  | [], _ => ⟨[], rfl, by simp⟩
  | x :: es, h => by
    obtain ⟨s, k, o, rfl, hk⟩ := h x (by simp)
    obtain ⟨l, rfl, hl⟩ := cols_of (es := es) fun y hy => h y (by simp [hy])
    exact ⟨⟨s, k, o⟩ :: l, rfl, by simpa using ⟨hk, hl⟩⟩

theorem i64_wf {k : Int} (h : (Lit.int .i64 k).wf = true) : I64 k := by
  have h' : (decide (IntKind.i64.min ≤ k) && decide (k ≤ IntKind.i64.max)) = true := h
  rw [Bool.and_eq_true] at h'
  exact ⟨of_decide_eq_true h'.1, of_decide_eq_true h'.2⟩

theorem sch_in {vs : List V} (h : Shp tt 8 28 vs) : ∃ l k, argV tt 28 vs = sch l k ∧ (∀ c ∈ l, I64 c.k) ∧ I64 k := by
  obtain ⟨_, _, ⟨es, _, g1, rfl⟩, ⟨_, _, ⟨k, hk, rfl⟩, rfl, rfl⟩, rfl⟩ := h
  obtain ⟨l, rfl, hl⟩ := cols_of fun x hx => by
    obtain ⟨_, _, ⟨s, _, rfl⟩, ⟨_, _, ⟨k, hk, rfl⟩, ⟨_, _, ⟨o, rfl⟩, rfl, rfl⟩, rfl⟩, rfl⟩ := g1 x hx
    exact ⟨s, k, o, rfl, i64_wf hk⟩
  exact ⟨l, k, rfl, hl, i64_wf hk⟩

end Go.Proofs.YtokifgdmddnpoaaDoorPg

/- Schemas: what a change leaves may be; the law SchemaApplies. -/
namespace Go.Proofs.YtokifgdmddnpoaaDoorPg
open Go Go.RowKit
set_option linter.unusedSimpArgs false
set_option linter.unusedVariables false

variable {Q : V → List O → Prop}

structure SchOk (l : List Col) (keys : Int) : Prop where
  names : NamesOk l
  cols : ∀ d ∈ l, ColOk d
  lo : 1 ≤ keys
  hi : keys ≤ 4
  len : keys ≤ l.length
  most : l.length ≤ 16
  keyed : ∀ (i : Nat) (c : Col), (i : Int) < keys → l[i]? = some c → c.o = false

theorem SchOk.may {l : List Col} {keys : Int} (h : SchOk l keys) : mayS l keys = true := by
  have h1 := h.lo; have h2 := h.hi; have h3 := h.len; have h4 := h.most
  refine mayS_yes (by unfold mayH; simp; omega) fun i c hc => ?_
  obtain ⟨g1, g2⟩ := h.cols c (List.mem_of_getElem? hc)
  unfold mayC
  rw [g1, g2, fnd_at h.names hc]
  simp
  rcases Int.lt_or_le (i : Int) keys with hi | hi
  rotate_left
  · exact .inl hi
  · exact .inr (h.keyed i c hi hc)

theorem good_ok {l : List Col} {keys : Int} (hl : ∀ c ∈ l, I64 c.k) (hk : I64 keys) : SchOk (goodL nameOk l keys) (goodK nameOk l keys) := by
  obtain ⟨h1, h2⟩ := good_names hl keys
  obtain ⟨k1, k2, k3⟩ := good_keys (l := l) hk
  have hlen := good_len l keys
  refine ⟨h1, h2, k1, by omega, k3, by omega, fun i c hi hc => ?_⟩
  unfold goodL at hc
  rw [clearK_get] at hc
  cases hd : (gCols nameOk l)[i]? with
  | none => rw [hd] at hc; cases hc
  | some d =>
    rw [hd] at hc
    simp only [Option.map_some, Option.some.injEq] at hc
    have : i < (gKeys (gCols nameOk l).length keys).toNat := by
      unfold goodK at hi
      omega
    rw [if_pos this] at hc
    rw [← hc]

theorem good_len6 (l : List Col) (keys : Int) : (goodL nameOk l keys).length ≤ 6 := (good_len l keys).2

theorem add_ok {l : List Col} {keys : Int} {c : Col} (h : SchOk l keys) (he : (addS l keys c).2.2 = 0) : SchOk (addS l keys c).1 (addS l keys c).2.1 := by
  unfold addS at he ⊢
  by_cases h1 : (nameOk c.n && kindOk c.k && c.o) = true
  rotate_left
  · rw [if_neg h1] at he; simp at he
  rw [if_pos h1] at he ⊢
  by_cases h2 : 0 ≤ fnd c.n l 0
  · rw [if_pos h2] at he; simp at he
  rw [if_neg h2] at he ⊢
  by_cases h3 : l.length = 16
  · rw [if_pos h3] at he; simp at he
  rw [if_neg h3]
  simp only [Bool.and_eq_true] at h1
  have h4 := h.most; have h5 := h.len
  refine ⟨?_, fun d hd => ?_, h.lo, h.hi, by simp only [List.length_append, List.length_singleton]; omega, by simp only [List.length_append, List.length_singleton]; omega, fun i d hi hd => ?_⟩
  · unfold NamesOk
    rw [List.map_append, List.pairwise_append]
    refine ⟨h.names, by simp, fun a ha b hb => ?_⟩
    obtain ⟨d, hd, rfl⟩ := List.mem_map.1 ha
    simp at hb
    subst hb
    exact fnd_neg (i := 0) (by omega) d hd
  · rcases List.mem_append.1 hd with hd | hd
    · exact h.cols d hd
    · simp at hd; subst hd; exact ⟨h1.1.1, h1.1.2⟩
  · have hi' : (i : Int) < keys := hi
    refine h.keyed i d hi' ?_
    rwa [List.getElem?_append_left (by omega)] at hd

theorem cut_ok {l : List Col} {keys : Int} {c : Col} (h : SchOk l keys) (he : (cutS l keys c).2.2 = 0) : SchOk (cutS l keys c).1 (cutS l keys c).2.1 := by
  unfold cutS at he ⊢
  by_cases h1 : fnd c.n l 0 < 0
  · rw [if_pos h1] at he; simp at he
  rw [if_neg h1] at he ⊢
  by_cases h2 : fnd c.n l 0 < keys
  · rw [if_pos h2] at he; simp at he
  rw [if_neg h2]
  have hf := fnd_lt (name := c.n) (l := l) (i := 0)
  have h3 := h.lo; have h4 := h.most; have h5 := h.len
  generalize hi : (fnd c.n l 0).toNat = i
  have hlt : i < l.length := by omega
  have hk : keys ≤ (i : Int) := by omega
  refine ⟨?_, fun d hd => h.cols d ((List.eraseIdx_sublist _ _).subset hd), h.lo, h.hi, by simp only [List.length_eraseIdx, if_pos hlt]; omega, by simp only [List.length_eraseIdx, if_pos hlt]; omega, fun j d hj hd => ?_⟩
  · unfold NamesOk
    exact h.names.sublist ((List.eraseIdx_sublist _ _).map _)
  · have hj' : (j : Int) < keys := hj
    simp only [List.getElem?_eraseIdx] at hd
    rw [if_pos (by omega)] at hd
    exact h.keyed j d hj hd

theorem setKind_len (l : List Col) (i : Nat) (k : Int) : (setKind l i k).length = l.length := by simp [setKind]
theorem setKind_names (l : List Col) (i : Nat) (k : Int) : (setKind l i k).map Col.n = l.map Col.n := by
  refine List.ext_getElem? fun j => ?_
  rw [List.getElem?_map, List.getElem?_map, setKind, List.getElem?_modify]
  cases l[j]? with
  | none => simp
  | some d => by_cases e : i = j <;> simp [e]

theorem ret_ok {l : List Col} {keys : Int} {c : Col} (h : SchOk l keys) (he : (retS l keys c).2.2 = 0) : SchOk (retS l keys c).1 (retS l keys c).2.1 := by
  unfold retS at he ⊢
  by_cases h1 : fnd c.n l 0 < 0
  · rw [if_pos h1] at he; simp at he
  rw [if_neg h1] at he ⊢
  by_cases h2 : fnd c.n l 0 < keys
  · rw [if_pos h2] at he; simp at he
  rw [if_neg h2] at he ⊢
  by_cases h3 : ((l[(fnd c.n l 0).toNat]?).map Col.o).getD false = false
  · rw [if_pos h3] at he; simp at he
  rw [if_neg h3] at he ⊢
  by_cases h4 : kindOk c.k = true
  rotate_left
  · rw [if_neg h4] at he; simp at he
  rw [if_pos h4]
  have hf := fnd_lt (name := c.n) (l := l) (i := 0)
  have g3 := h.lo; have g4 := h.most; have g5 := h.len
  generalize hi : (fnd c.n l 0).toNat = i
  have hlt : i < l.length := by omega
  have hk : keys ≤ (i : Int) := by omega
  refine ⟨by unfold NamesOk; rw [setKind_names]; exact h.names, fun d hd => ?_, h.lo, h.hi, by simp only [setKind_len]; omega, by simp only [setKind_len]; omega, fun j d hj hd => ?_⟩
  · obtain ⟨j, hj⟩ := List.mem_iff_getElem?.1 hd
    rw [setKind, List.getElem?_modify] at hj
    cases hx : l[j]? with
    | none => rw [hx] at hj; simp at hj
    | some x =>
      rw [hx] at hj
      have hx' := h.cols x (List.mem_of_getElem? hx)
      by_cases e : i = j
      · simp [e] at hj; subst hj; exact ⟨hx'.1, h4⟩
      · simp [e] at hj; subst hj; exact hx'
  · have hj' : (j : Int) < keys := hj
    have hne : i ≠ j := by omega
    rw [setKind, List.getElem?_modify] at hd
    cases hx : l[j]? with
    | none => rw [hx] at hd; simp at hd
    | some x =>
      rw [hx] at hd
      simp [hne] at hd
      subst hd
      exact h.keyed j x hj' hx

theorem apply_ok {l : List Col} {keys k : Int} {c : Col} (h : SchOk l keys) (he : (applyS l keys k c).2.2 = 0) : SchOk (applyS l keys k c).1 (applyS l keys k c).2.1 := by
  unfold applyS at he ⊢
  by_cases h1 : k = 3
  · rw [if_pos h1] at he ⊢; exact add_ok h he
  rw [if_neg h1] at he ⊢
  by_cases h2 : k = 4
  · rw [if_pos h2] at he ⊢; exact cut_ok h he
  rw [if_neg h2] at he ⊢
  by_cases h3 : k = 5
  · rw [if_pos h3] at he ⊢; exact ret_ok h he
  rw [if_neg h3] at he
  simp at he

theorem apply_len (l : List Col) (keys k : Int) (c : Col) : (applyS l keys k c).1.length ≤ l.length + 1 := by
  have he : ∀ i, (l.eraseIdx i).length ≤ l.length + 1 := fun i => by have := (List.eraseIdx_sublist l i).length_le; omega
  unfold applyS addS cutS retS
  repeat' split
  all_goals first | exact he _ | simp [setKind_len]

theorem chg_in {vs : List V} (h : Shp tt 8 42 vs) : ∃ k s l k3 c, argV tt 42 vs = chg k (.str s) (.sl 3 (cols l) false) (fI k3) c ∧ I64 k ∧ I64 c.k := by
  obtain ⟨_, _, ⟨k, hk, rfl⟩, ⟨_, _, ⟨s, _, rfl⟩, ⟨_, _, ⟨_, _, ⟨es, _, g1, rfl⟩, ⟨_, _, ⟨k3, hk3, rfl⟩, rfl, rfl⟩, rfl⟩, ⟨_, _, ⟨_, _, ⟨n, _, rfl⟩, ⟨_, _, ⟨ck, hck, rfl⟩, ⟨_, _, ⟨o, rfl⟩, rfl, rfl⟩, rfl⟩, rfl⟩, rfl, rfl⟩, rfl⟩, rfl⟩, rfl⟩ := h
  obtain ⟨l, rfl, hl⟩ := cols_of fun x hx => by
    obtain ⟨_, _, ⟨s, _, rfl⟩, ⟨_, _, ⟨k, hk, rfl⟩, ⟨_, _, ⟨o, rfl⟩, rfl, rfl⟩, rfl⟩, rfl⟩ := g1 x hx
    exact ⟨s, k, o, rfl, i64_wf hk⟩
  exact ⟨k, s, l, k3, ⟨n, ck, o⟩, rfl, i64_wf hk, i64_wf hck⟩

end Go.Proofs.YtokifgdmddnpoaaDoorPg

/- Tables: where one stands, its schema, which may be. -/
namespace Go.Proofs.YtokifgdmddnpoaaDoorPg
open Go Go.RowKit
set_option linter.unusedSimpArgs false
set_option linter.unusedVariables false

variable {Q : V → List O → Prop}

theorem nils_sl3 (f : Bool) : VSub .nils (.sl 3 [] f) := fun I ρ u h => by cases h; exact .slnil _ _ _ _

theorem wrapE {n : Int} (h : -9223372036854775808 ≤ n ∧ n ≤ 9223372036854775807) : IntKind.i64.wrap n = n := by rw [IntKind.wrap_i64]; omega

theorem evat1_spec {w : Tb} {t : List UInt8} (h : Q (.int .i64 (cmpS w.n t)) []) : ACall Tryd.prog 54 0 [tbA w, .str t] [] Q := by
  refine by_body Tryd.func54 0 rfl (Nat.le_of_ble_eq_true rfl) ?_
  conv => whnf
  refine .pure (CompareS_spec ⟨rfl, ?_⟩)
  conv => whnf
  exact ⟨[], rfl, h⟩

set_option maxHeartbeats 4000000 in
theorem SearchT_spec {l : List Tb} {t : List UInt8} {f : Bool} (hl : l.length < 1000000) (hs : SortedT l) (h : Q (.tup [fI (posT l t), .bool (atT l t).isSome]) []) :
    ACall Tryd.prog 53 0 [.sl 3 (tbs l) f, .str t, .fn (.func 54) [] []] [] Q := by
  refine by_body Tryd.func53 0 rfl (Nat.le_of_ble_eq_true rfl) ?_
  conv => whnf
  have hlk := tbs_len l
  have hnk := nws_len l
  refine ⟨⟨[0, 1, 2, 8, 9, 10], fun m ws H => ∃ i j : Nat, ws = [.sl 3 (tbs l) f, .str t, .fn (.func 54) [] [], fI l.length, fI i, fI j] ∧ H = [] ∧ i ≤ j ∧ j ≤ l.length ∧ BelowT (nws l) t i ∧ AboveT (nws l) t j ∧ m = j - i,
    .at l.length ⟨0, l.length, ?_, rfl, by omega, by omega, fun j w hj => by omega, fun j w hj hw => ?_, rfl⟩, ?_⟩⟩
  · show [V.sl 3 (tbs l) f, V.str t, V.fn (.func 54) [] [], fI (tbs l).length, fI 0, fI (tbs l).length] = _
    rw [hlk]; rfl
  · have := (List.getElem?_eq_some_iff.1 hw).1; omega
  rintro m ws H ⟨i, j, rfl, rfl, hij, hj, hb, ha, rfl⟩
  conv => whnf
  refine branch_i (fun c1 => ?_) (fun c1 => ?_) <;> try rw [c1] <;> conv => whnf
  focus
    have c1' := of_decide_eq_true c1
    refine ⟨by decide, ?_⟩
    conv => whnf
    rw [half_eq (by omega)]
    have h1 : i ≤ (i + j) / 2 := by omega
    have h2 : (i + j) / 2 < j := by omega
    generalize (i + j) / 2 = k at *
    have hg : l[k]? = some l[k] := List.getElem?_eq_getElem (by omega)
    generalize l[k] = w at *
    refine ⟨_, ⟨by omega, tbs_get hg⟩, ?_⟩
    conv => whnf
    refine .pure (evat1_spec (w := w) ⟨rfl, ?_⟩)
    conv => whnf
    rw [cmpS_lt]
    cases hlt : Op.bytesLess w.n t <;> conv => whnf
    · refine .go [] rfl (k - i) (by omega) ⟨i, k, rfl, rfl, h1, by omega, hb, above_sorted hs (nws_get hg) hlt, rfl⟩
    · refine .go [] rfl (j - (k + 1)) (by omega) ⟨k + 1, j, ?_, rfl, by omega, by omega, below_sorted hs (nws_get hg) hlt, ha, rfl⟩
      show [V.sl 3 (tbs l) f, V.str t, V.fn (.func 54) [] [], fI l.length, V.int .i64 (IntKind.i64.wrap ((k : Int) + 1)), fI j] = _
      rw [wrapE (by omega)]; rfl
  have c1' := of_decide_eq_false c1
  have hije : i = j := by omega
  subst hije
  have hp : posL (nws l) t = i := pos_unique (by omega) hb fun w hw => ha i w (Nat.le_refl _) hw
  have hat := at_pos (t := t) hs
  have hp' : posT l t = i := hp
  have hat' : (atT l t).isSome = _ := hat
  rw [hp] at hat'
  rw [hp'] at h
  refine branch_i (fun c2 => ?_) (fun c2 => ?_) <;> try rw [c2] <;> conv => whnf
  · have c2' := of_decide_eq_true c2
    have hg : l[i]? = some l[i] := List.getElem?_eq_getElem (by omega)
    generalize l[i] = w at *
    rw [nws_get hg] at hat'
    refine ⟨_, ⟨by omega, tbs_get hg⟩, ?_⟩
    conv => whnf
    refine .pure (evat1_spec (w := w) ⟨rfl, ?_⟩)
    conv => whnf
    refine ⟨[], rfl, ?_⟩
    show Q (.tup [fI i, .bool (decide (cmpS w.n t = 0))]) []
    rw [cmpS_eq]
    simp only at hat'
    have e : decide (w.n = t) = (atT l t).isSome := hat'.symm
    rw [e]; exact h
  · have c2' := of_decide_eq_false c2
    rw [List.getElem?_eq_none (by omega)] at hat'
    simp only at hat'
    rw [hat'] at h
    exact ⟨[], rfl, h⟩

theorem evat_spec {l : List Tb} {t : List UInt8} {f : Bool} (hl : l.length < 1000000) (hs : SortedT l) (h : Q (.tup [fI (posT l t), .bool (atT l t).isSome]) []) : ACall Tryd.prog 28 0 [.sl 3 (tbs l) f, .str t] [] Q := by
  refine by_body Tryd.func28 0 rfl (Nat.le_of_ble_eq_true rfl) ?_
  conv => whnf
  refine .pure (SearchT_spec hl hs ⟨rfl, ?_⟩)
  conv => whnf
  exact ⟨[], rfl, h⟩

theorem pos_of_at {l : List Tb} {t : List UInt8} {i : Nat} (hs : SortedT l) (h : atT l t = some i) : posT l t = i := at_sorted hs h

theorem EvFind_spec {l : List Tb} {t : List UInt8} {f : Bool} (hl : l.length < 1000000) (hs : SortedT l) (hc : ∀ x ∈ l, x.c.length < 1000000) (h : Q (findR (findT l t)) []) : ACall Tryd.prog 11 0 [.sl 3 (tbs l) f, .str t] [] Q := by
  refine ACall.ret (by_body Tryd.func11 0 rfl (Nat.le_of_ble_eq_true rfl) ?_)
  conv => whnf
  refine .pure (evat_spec hl hs ⟨rfl, ?_⟩)
  cases ha : atT l t with
  | none =>
    rw [find_none ha] at h
    conv => whnf
    exact ⟨[], rfl, .sub _ _ (VSub.tup (.cons (.agg (.cons (nils_sl3 false) (VSubs.refl _))) (VSubs.refl _))) (HSub.refl _) (.done [] rfl h)⟩
  | some i =>
    obtain ⟨x, hx, _, hlt⟩ := atT_get ha
    rw [find_some ha hx] at h
    have hxl := hc x (List.mem_of_getElem? hx)
    rw [pos_of_at hs ha]
    conv => whnf
    refine ⟨_, ⟨by omega, tbs_get hx⟩, ?_⟩
    conv => whnf
    refine .call [] 0 ⟨rfl, rfl, rfl⟩ (Clone_spec (l := x.c) (keys := x.k) hxl ?_)
    conv => whnf
    have hlk := cols_len x.c
    refine ⟨[1], rfl, .frz 0 rfl (by repeat (first | exact trivial | refine And.intro (by rw [hlk]; exact Nat.le_of_eq (Nat.zero_add _)) ?_)) (.done [] rfl ?_)⟩
    show Q (.tup [.agg [.sl 3 (List.take x.c.length (cols x.c)) false, fI x.k], .bool true]) []
    rw [← hlk, List.take_length]
    exact h

def atTI (l : List Tb) (t : List UInt8) : Int := atI (nws l) t

theorem EvRAt_spec {l : List Tb} {t : List UInt8} {f : Bool} (hl : l.length < 4611686018427387904) (h : Q (.int .i64 (atTI l t)) []) : ACall Tryd.prog 30 0 [.sl 3 (tbs l) f, .str t] [] Q := by
  refine by_body Tryd.func30 0 rfl (Nat.le_of_ble_eq_true rfl) ?_
  conv => whnf
  have hlv := tbs_len l
  have hnv := nws_len l
  refine ⟨⟨[0, 1, 5], fun m ws H => ∃ i : Nat, ws = [.sl 3 (tbs l) f, .str t, fI i] ∧ H = [] ∧ NoneBefore (nws l) t i ∧ i ≤ l.length ∧ m = l.length - i,
    .at l.length ⟨0, rfl, rfl, fun j w hj => by omega, Nat.zero_le _, rfl⟩, ?_⟩⟩
  rintro m ws H ⟨i, rfl, rfl, hn, hi, rfl⟩
  conv => whnf
  refine branch_i (fun c1 => ?_) (fun c1 => ?_) <;> try rw [c1] <;> conv => whnf
  rotate_left
  focus
    have c1' := of_decide_eq_false c1
    have : i = l.length := by omega
    subst this
    unfold atTI atI at h
    rw [at_none (by rw [hnv]; exact hn)] at h
    exact ⟨[], rfl, h⟩
  have c1' := of_decide_eq_true c1
  have hlt : i < l.length := by omega
  have hg : l[i]? = some l[i] := List.getElem?_eq_getElem hlt
  generalize l[i] = w at *
  refine ⟨_, ⟨by omega, tbs_get hg⟩, ?_⟩
  conv => whnf
  refine branch_i (fun c2 => ?_) (fun c2 => ?_) <;> try rw [c2] <;> conv => whnf
  · unfold atTI atI at h
    rw [at_some hn (nws_get hg) (of_decide_eq_true c2)] at h
    exact ⟨[], rfl, h⟩
  · refine .go [] rfl (l.length - (i + 1)) (by omega) ⟨i + 1, ?_, rfl, fun j x hj hx => ?_, by omega, rfl⟩
    · show [V.sl 3 (tbs l) f, V.str t, V.int .i64 (IntKind.i64.wrap ((i : Int) + 1))] = _
      rw [wrapE (by omega)]; rfl
    · rcases Nat.lt_or_ge j i with h1 | h1
      · exact hn j x h1 hx
      · have : j = i := by omega
        subst this
        rw [nws_get hg] at hx; cases hx
        exact of_decide_eq_false c2

theorem atTI_none {l : List Tb} {t : List UInt8} (h : atT l t = none) : atTI l t = -1 := by unfold atTI atI; rw [show atL (nws l) t = none from h]
theorem atTI_some {l : List Tb} {t : List UInt8} {i : Nat} (h : atT l t = some i) : atTI l t = (i : Int) := by unfold atTI atI; rw [show atL (nws l) t = some i from h]

theorem EvRFind_spec {l : List Tb} {t : List UInt8} {f : Bool} (hl : l.length < 4611686018427387904) (h : Q (findR (findT l t)) []) : ACall Tryd.prog 12 0 [.sl 3 (tbs l) f, .str t] [] Q := by
  refine ACall.ret (by_body Tryd.func12 0 rfl (Nat.le_of_ble_eq_true rfl) ?_)
  conv => whnf
  refine .pure (EvRAt_spec hl ⟨rfl, ?_⟩)
  cases ha : atT l t with
  | none =>
    rw [find_none ha] at h
    rw [atTI_none ha]
    conv => whnf
    exact ⟨[], rfl, .sub _ _ (VSub.tup (.cons (.agg (.cons (nils_sl3 false) (VSubs.refl _))) (VSubs.refl _))) (HSub.refl _) (.done [] rfl h)⟩
  | some i =>
    obtain ⟨x, hx, _, hlt⟩ := atT_get ha
    rw [find_some ha hx] at h
    rw [atTI_some ha]
    conv => whnf
    rw [show decide ((i : Int) < 0) = false from decide_eq_false (by omega)]
    conv => whnf
    refine ⟨_, ⟨by omega, tbs_get hx⟩, ?_⟩
    conv => whnf
    exact ⟨[], rfl, .done [] rfl h⟩

end Go.Proofs.YtokifgdmddnpoaaDoorPg

/- Tables: which may be. -/
namespace Go.Proofs.YtokifgdmddnpoaaDoorPg
open Go Go.RowKit
set_option linter.unusedSimpArgs false
set_option linter.unusedVariables false

variable {Q : V → List O → Prop}

theorem stepT_eq {l : List Tb} {i : Nat} {w : Tb} (hg : l[i]? = some w) : stepT nameOk mayS l i = (nameOk w.n && (mayS w.c w.k && (decide (i = 0) || (match l[i - 1]? with | some p => Op.bytesLess p.n w.n | none => true)))) := by unfold stepT; rw [hg]; rfl

theorem rightT_step {l : List Tb} {i : Nat} (h : ∀ j, j < i → stepT nameOk mayS l j = true) (hs : stepT nameOk mayS l i = true) : ∀ j, j < i + 1 → stepT nameOk mayS l j = true := fun j hj => by
  rcases Nat.lt_or_ge j i with h1 | h1
  · exact h j h1
  · have : j = i := by omega
    subst this; exact hs

def rtInvT (l : List Tb) (f : Bool) (m : Nat) (ws : List V) (H : List O) : Prop :=
  ∃ i : Nat, ws = [.sl 3 (tbs l) f, .sl 3 (tbs l) f, fI l.length, fI i] ∧ H = [] ∧ (∀ j, j < i → stepT nameOk mayS l j = true) ∧ i ≤ l.length ∧ m = l.length - i

set_option maxRecDepth 8000 in
set_option maxHeartbeats 16000000 in
theorem EvRight_spec {l : List Tb} {f : Bool} (hl : l.length < 1000000) (h : Q (.bool (rightT nameOk mayS l)) []) : ACall Tryd.prog 14 0 [.sl 3 (tbs l) f] [] Q := by
  refine by_body Tryd.func14 0 rfl (Nat.le_of_ble_eq_true rfl) ?_
  conv => whnf
  have hlv := tbs_len l
  rw [hlv]
  refine ⟨⟨[0, 5, 6, 7], rtInvT l f, .at l.length ⟨0, rfl, rfl, fun j hj => by omega, Nat.zero_le _, rfl⟩, ?_⟩⟩
  rintro m ws H ⟨i, rfl, rfl, hst, hi, rfl⟩
  conv => whnf
  refine branch_i (fun c1 => ?_) (fun c1 => ?_) <;> try rw [c1] <;> conv => whnf
  rotate_left
  focus
    have c1' := of_decide_eq_false c1
    have : i = l.length := by omega
    subst this
    rw [rightT_yes hst] at h
    rw [hlv]
    rw [show decide ((l.length : Int) ≤ 64) = decide (l.length ≤ 64) by
      by_cases hh : l.length ≤ 64
      · rw [decide_eq_true hh, decide_eq_true (by omega)]
      · rw [decide_eq_false hh, decide_eq_false (by omega)]]
    exact ⟨[], rfl, h⟩
  have c1' := of_decide_eq_true c1
  have hlt : i < l.length := by omega
  have hg : l[i]? = some l[i] := List.getElem?_eq_getElem hlt
  generalize l[i] = w at *
  have hse := stepT_eq hg
  have hno : stepT nameOk mayS l i = false → Q (.bool false) [] := fun e => by rw [rightT_no hlt e] at h; exact h
  have hyes : ∀ H : List O, stepT nameOk mayS l i = true → ANext 0 (l.length - i) (rtInvT l f) [V.sl 3 (tbs l) f, V.sl 3 (tbs l) f, fI l.length, V.int .i64 (IntKind.i64.wrap ((i : Int) + 1))] H := fun H e => by
    refine .go [] rfl (l.length - (i + 1)) (by omega) ⟨i + 1, ?_, rfl, rightT_step hst e, by omega, rfl⟩
    show [V.sl 3 (tbs l) f, V.sl 3 (tbs l) f, fI l.length, V.int .i64 (IntKind.i64.wrap ((i : Int) + 1))] = _
    rw [wrapE (by omega)]; rfl
  refine ⟨_, ⟨by omega, tbs_get hg⟩, ?_⟩
  conv => whnf
  refine ⟨List.range 25, by kernel_rfl, by kernel_rfl, ?_⟩
  conv => whnf
  refine .pure (Name_spec ⟨rfl, ?_⟩)
  conv => whnf
  cases hn : nameOk w.n <;> rw [hn] at hse <;> conv => whnf
  focus
    repeat (conv => whnf
            refine ⟨rfl, ?_⟩)
    conv => whnf
    exact ⟨[], rfl, hno (by rw [hse]; rfl)⟩
  refine .pure (May_any (l := w.c) (keys := w.k) ⟨rfl, ?_⟩)
  conv => whnf
  cases hm : mayS w.c w.k <;> rw [hm] at hse <;> conv => whnf
  focus
    repeat (conv => whnf
            refine ⟨rfl, ?_⟩)
    conv => whnf
    exact ⟨[], rfl, hno (by rw [hse]; rfl)⟩
  refine branch_i (fun c2 => ?_) (fun c2 => ?_) <;> try rw [c2] <;> conv => whnf
  · have c2' := of_decide_eq_true c2
    have hgp : l[i - 1]? = some l[i - 1] := List.getElem?_eq_getElem (by omega)
    rw [hgp] at hse
    generalize l[i - 1] = p at *
    have hi1 : IntKind.i64.wrap ((i : Int) - 1) = ((i - 1 : Nat) : Int) := by rw [wrapE (by omega)]; omega
    have hi0 : decide (i = 0) = false := decide_eq_false (by omega)
    rw [hi1]
    refine ⟨_, ⟨by omega, tbs_get hgp⟩, ?_⟩
    conv => whnf
    cases hb : Op.bytesLess p.n w.n <;> conv => whnf
    · repeat (conv => whnf
              first | (refine ⟨rfl, ?_⟩) | (refine ⟨⟨_, ⟨by omega, tbs_get hgp⟩, rfl⟩, ?_⟩))
      conv => whnf
      exact ⟨[], rfl, hno (by rw [hse]; simp [hi0, hb])⟩
    · repeat (conv => whnf
              first | (refine ⟨rfl, ?_⟩) | (refine ⟨⟨_, ⟨by omega, tbs_get hgp⟩, rfl⟩, ?_⟩))
      conv => whnf
      exact hyes _ (by rw [hse]; simp [hb])
  · have c2' := of_decide_eq_false c2
    repeat (conv => whnf
            first | (refine ⟨rfl, ?_⟩) | (refine ⟨⟨_, ⟨by omega, tbs_get hgp⟩, rfl⟩, ?_⟩))
    conv => whnf
    exact hyes _ (by rw [hse, decide_eq_true (show i = 0 by omega)]; rfl)

def rrInvT (l : List Tb) (f : Bool) (m : Nat) (ws : List V) (H : List O) : Prop :=
  ∃ i : Nat, ws = [.sl 3 (tbs l) f, fI i] ∧ H = [] ∧ (∀ j, j < i → stepT nameOk mayS l j = true) ∧ i ≤ l.length ∧ m = l.length - i

set_option maxRecDepth 8000 in
set_option maxHeartbeats 16000000 in
theorem EvRRight_spec {l : List Tb} {f : Bool} (hl : l.length < 1000000) (h : Q (.bool (rightT nameOk mayS l)) []) : ACall Tryd.prog 15 0 [.sl 3 (tbs l) f] [] Q := by
  refine by_body Tryd.func15 0 rfl (Nat.le_of_ble_eq_true rfl) ?_
  conv => whnf
  have hlv := tbs_len l
  refine ⟨⟨[0, 3], rrInvT l f, .at l.length ⟨0, rfl, rfl, fun j hj => by omega, Nat.zero_le _, rfl⟩, ?_⟩⟩
  rintro m ws H ⟨i, rfl, rfl, hst, hi, rfl⟩
  conv => whnf
  rw [hlv]
  refine branch_i (fun c1 => ?_) (fun c1 => ?_) <;> try rw [c1] <;> conv => whnf
  rotate_left
  focus
    have c1' := of_decide_eq_false c1
    have : i = l.length := by omega
    subst this
    rw [rightT_yes hst] at h
    rw [hlv]
    rw [show decide ((l.length : Int) ≤ 64) = decide (l.length ≤ 64) by
      by_cases hh : l.length ≤ 64
      · rw [decide_eq_true hh, decide_eq_true (by omega)]
      · rw [decide_eq_false hh, decide_eq_false (by omega)]]
    exact ⟨[], rfl, h⟩
  have c1' := of_decide_eq_true c1
  have hlt : i < l.length := by omega
  have hg : l[i]? = some l[i] := List.getElem?_eq_getElem hlt
  generalize l[i] = w at *
  have hse := stepT_eq hg
  have hno : stepT nameOk mayS l i = false → Q (.bool false) [] := fun e => by rw [rightT_no hlt e] at h; exact h
  have hyes : ∀ H : List O, stepT nameOk mayS l i = true → ANext 0 (l.length - i) (rrInvT l f) [V.sl 3 (tbs l) f, V.int .i64 (IntKind.i64.wrap ((i : Int) + 1))] H := fun H e => by
    refine .go [] rfl (l.length - (i + 1)) (by omega) ⟨i + 1, ?_, rfl, rightT_step hst e, by omega, rfl⟩
    show [V.sl 3 (tbs l) f, V.int .i64 (IntKind.i64.wrap ((i : Int) + 1))] = _
    rw [wrapE (by omega)]; rfl
  refine ⟨_, ⟨by omega, tbs_get hg⟩, ?_⟩
  conv => whnf
  refine .pure (RName_spec ⟨rfl, ?_⟩)
  conv => whnf
  refine ⟨_, ⟨by omega, tbs_get hg⟩, ?_⟩
  conv => whnf
  refine .pure (RMay_any (l := w.c) (keys := w.k) ⟨rfl, ?_⟩)
  conv => whnf
  refine ⟨List.range 24, by kernel_rfl, by kernel_rfl, ?_⟩
  conv => whnf
  cases hn : nameOk w.n <;> rw [hn] at hse <;> conv => whnf
  focus
    repeat (conv => whnf
            refine ⟨rfl, ?_⟩)
    conv => whnf
    exact ⟨[], rfl, hno (by rw [hse]; rfl)⟩
  cases hm : mayS w.c w.k <;> rw [hm] at hse <;> conv => whnf
  focus
    repeat (conv => whnf
            refine ⟨rfl, ?_⟩)
    conv => whnf
    exact ⟨[], rfl, hno (by rw [hse]; rfl)⟩
  refine branch_i (fun c2 => ?_) (fun c2 => ?_) <;> try rw [c2] <;> conv => whnf
  · have c2' := of_decide_eq_true c2
    have hgp : l[i - 1]? = some l[i - 1] := List.getElem?_eq_getElem (by omega)
    rw [hgp] at hse
    generalize l[i - 1] = p at *
    have hi1 : IntKind.i64.wrap ((i : Int) - 1) = ((i - 1 : Nat) : Int) := by rw [wrapE (by omega)]; omega
    have hi0 : decide (i = 0) = false := decide_eq_false (by omega)
    rw [hi1]
    refine ⟨_, ⟨by omega, tbs_get hgp⟩, ?_⟩
    conv => whnf
    refine ⟨_, ⟨by omega, tbs_get hg⟩, ?_⟩
    conv => whnf
    cases hb : Op.bytesLess p.n w.n <;> conv => whnf
    · repeat (conv => whnf
              first | (refine ⟨rfl, ?_⟩) | (refine ⟨⟨_, ⟨by omega, tbs_get hgp⟩, rfl⟩, ?_⟩))
      conv => whnf
      exact ⟨[], rfl, hno (by rw [hse]; simp [hi0, hb])⟩
    · repeat (conv => whnf
              first | (refine ⟨rfl, ?_⟩) | (refine ⟨⟨_, ⟨by omega, tbs_get hgp⟩, rfl⟩, ?_⟩))
      conv => whnf
      exact hyes _ (by rw [hse]; simp [hb])
  · have c2' := of_decide_eq_false c2
    repeat (conv => whnf
            first | (refine ⟨rfl, ?_⟩) | (refine ⟨⟨_, ⟨by omega, tbs_get hgp⟩, rfl⟩, ?_⟩))
    conv => whnf
    exact hyes _ (by rw [hse, decide_eq_true (show i = 0 by omega)]; rfl)

end Go.Proofs.YtokifgdmddnpoaaDoorPg

/- Tables behind a change: the document's. -/
namespace Go.Proofs.YtokifgdmddnpoaaDoorPg
open Go Go.RowKit
set_option linter.unusedSimpArgs false
set_option linter.unusedVariables false

variable {Q : V → List O → Prop}

def folT (l : List Tb) (k : Int) (t : List UInt8) (cs : List Col) (ks : Int) (c : Col) : List Tb × Int :=
  if k = 1 then (if nameOk t = false then ([], 6) else if (atT l t).isSome then ([], 8) else if mayS cs ks = false then ([], 1) else if 64 ≤ l.length then ([], 13) else (insT l ⟨t, cs, ks⟩, 0))
  else match atT l t with
    | none => ([], 7)
    | some i => if k = 2 then (l.eraseIdx i, 0) else match l[i]? with
      | some x => if (applyS x.c x.k k c).2.2 ≠ 0 then ([], (applyS x.c x.k k c).2.2) else (l.set i ⟨x.n, (applyS x.c x.k k c).1, (applyS x.c x.k k c).2.1⟩, 0)
      | none => ([], 7)

def folR (r : List Tb × Int) : V := .tup [.sl 3 (tbs r.1) false, fI r.2]

theorem err_fol (e : Int) : VSub (.tup [.nils, fI e]) (folR ([], e)) := .tup (.cons (nils_sl3 false) (VSubs.refl _))

def chT (k : Int) (t : List UInt8) (cs : List Col) (ks : Int) (c : Col) : V := chg k (.str t) (.sl 3 (cols cs) false) (fI ks) c

def fkInv (l : List Tb) (f : Bool) (C : List V) (t : List UInt8) (m : Nat) (ws : List V) (H : List O) : Prop :=
  ∃ k : Nat, ws = [.sl 3 (tbs l) f, .ptr 0 0, .nils, fI k] ∧ H = [.cells C] ∧ BelowT (nws l) t k ∧ k ≤ l.length ∧ m = l.length - k

theorem may_bd {l : List Col} {k : Int} (h : mayS l k = true) : 1 ≤ k ∧ k ≤ 4 ∧ k ≤ l.length ∧ l.length ≤ 16 := by
  unfold mayS at h
  rw [Bool.and_eq_true] at h
  have := h.1
  unfold mayH at this
  simp only [Bool.and_eq_true, decide_eq_true_eq] at this
  exact ⟨this.1, this.2.1, this.2.2.1, this.2.2.2⟩

/-- tables that were laid out anew, handed back -/
theorem fol_ret {j n : Nat} {H : List O} {L : List Tb} (hg : getO H j = .buf (tbs L)) (hn : n = L.length) (hj : j < H.length) (h : Q (folR (L, 0)) []) : ∃ sel, selOk sel H.length 0 = true ∧ ARet 0 Q (renV (idx sel) (.tup [.ms 3 j 0 n false, fI 0])) (gather (idx sel) H sel) := by
  subst hn
  refine ⟨[j], ?_, ?_⟩
  · simp [selOk, allLt, nodupB, idx, Nat.blt_eq, hj]
  · have e1 : renV (idx [j]) (.tup [.ms 3 j 0 L.length false, fI 0]) = .tup [.ms 3 0 0 L.length false, fI 0] := by simp [renV, renL, idx]
    have e2 : gather (idx [j]) H [j] = [.buf (tbs L)] := by simp [gather, hg, renO]
    rw [e1, e2]
    have hle := tbs_len L
    refine .frz 0 rfl (by repeat (first | exact trivial | refine And.intro (by rw [hle, Nat.zero_add]; exact Nat.le_refl _) ?_)) (.done [] rfl ?_)
    show Q (.tup [.sl 3 (List.take L.length (List.drop 0 (tbs L))) false, fI 0]) []
    rw [List.drop_zero, ← hle, List.take_length]
    exact h

set_option maxRecDepth 8000 in
set_option maxHeartbeats 16000000 in
theorem RFollow_spec {l : List Tb} {f : Bool} {k : Int} {t : List UInt8} {cs : List Col} {ks : Int} {c : Col} (hl : l.length ≤ 64) (hm : ∀ x ∈ l, mayS x.c x.k = true) (h : Q (folR (folT l k t cs ks c)) []) :
    ACall Tryd.prog 25 0 [.sl 3 (tbs l) f, chT k t cs ks c] [] Q := by
  refine ACall.ret (by_body Tryd.func25 0 rfl (Nat.le_of_ble_eq_true rfl) ?_)
  conv => whnf
  have hlk := tbs_len l
  have hnk := nws_len l
  unfold folT at h
  refine .pure (EvRAt_spec (by omega) ⟨rfl, ?_⟩)
  conv => whnf
  refine branch_i (fun c1 => ?_) (fun c1 => ?_) <;> try rw [c1] <;> conv => whnf
  · have c1' := of_decide_eq_true c1
    subst c1'
    rw [if_pos rfl] at h
    refine .pure (RName_spec ⟨rfl, ?_⟩)
    conv => whnf
    refine .pure (RMay_any (l := cs) (keys := ks) ⟨rfl, ?_⟩)
    conv => whnf
    cases hn : nameOk t <;> rw [hn] at h <;> conv => whnf
    focus
      rw [if_pos rfl] at h
      exact ⟨[], rfl, .sub _ _ (err_fol 6) (HSub.refl _) (.done [] rfl h)⟩
    rw [if_neg (by simp)] at h
    cases ha : atT l t with
    | some i =>
      rw [ha] at h
      rw [atTI_some ha]
      conv => whnf
      exact ⟨[], rfl, .sub _ _ (err_fol 8) (HSub.refl _) (.done [] rfl h)⟩
    | none =>
      rw [ha] at h
      rw [if_neg (by simp)] at h
      rw [atTI_none ha]
      conv => whnf
      cases hy : mayS cs ks <;> rw [hy] at h <;> conv => whnf
      focus
        rw [if_pos rfl] at h
        exact ⟨[], rfl, .sub _ _ (err_fol 1) (HSub.refl _) (.done [] rfl h)⟩
      rw [if_neg (by simp)] at h
      rw [hlk]
      refine branch_i (fun c2 => ?_) (fun c2 => ?_) <;> try rw [c2] <;> conv => whnf
      focus
        rw [if_pos (by have := of_decide_eq_true c2; omega)] at h
        exact ⟨[], rfl, .sub _ _ (err_fol 13) (HSub.refl _) (.done [] rfl h)⟩
      rw [if_neg (by have := of_decide_eq_false c2; omega)] at h
      refine ⟨⟨[0, 3, 7, 10], fkInv l f [fI 1, .str t, .sl 3 (cols cs) false, fI ks, .str c.n, fI c.k, .bool c.o] t, .at l.length ⟨0, rfl, rfl, fun j w hj => by omega, Nat.zero_le _, rfl⟩, ?_⟩⟩
      rintro m ws H ⟨k, rfl, rfl, hb, hk, rfl⟩
      have fin : ∀ (n : Nat) (H : List O), n = (List.take k (tbs l)).length + 1 + (List.drop k (tbs l)).length → posT l t = k → getO H 4 = .buf (List.take k (tbs l) ++ [tbC ⟨t, cs, ks⟩] ++ List.drop k (tbs l)) → H.length = 5 → (∃ sel, selOk sel H.length 0 = true ∧ ARet 0 Q (renV (idx sel) (.tup [.ms 3 4 0 n false, fI 0])) (gather (idx sel) H sel)) := fun n H hn0 hp hg hlen => by
        have hn1 : n = l.length + 1 := by rw [hn0, List.length_take, List.length_drop]; omega
        subst hn1
        have hins : tbs (insT l ⟨t, cs, ks⟩) = List.take k (tbs l) ++ [tbC ⟨t, cs, ks⟩] ++ List.drop k (tbs l) := by
          unfold insT
          rw [hp]; simp [tbs, List.map_take, List.map_drop]
        refine ⟨[4], by rw [hlen]; rfl, ?_⟩
        show ARet 0 Q (.tup [.ms 3 0 0 (l.length + 1) false, fI 0]) [renO (idx [4]) (getO H 4)]
        rw [hg, ← hins]
        have hle : (tbs (insT l ⟨t, cs, ks⟩)).length = l.length + 1 := by rw [tbs_len, insT_len]
        refine .frz 0 rfl (by repeat (first | exact trivial | refine And.intro (by rw [hle, Nat.zero_add]; exact Nat.le_refl _) ?_)) (.done [] rfl ?_)
        show Q (.tup [.sl 3 (List.take (l.length + 1) (List.drop 0 (tbs (insT l ⟨t, cs, ks⟩)))) false, fI 0]) []
        rw [List.drop_zero, ← hle, List.take_length]
        exact h
      conv => whnf
      refine ⟨List.range 14, by kernel_rfl, by kernel_rfl, ?_⟩
      conv => whnf
      rw [hlk]
      refine branch_i (fun c3 => ?_) (fun c3 => ?_) <;> try rw [c3] <;> conv => whnf
      · have c3' := of_decide_eq_true c3
        have hlt : k < l.length := by omega
        have hg : l[k]? = some l[k] := List.getElem?_eq_getElem hlt
        generalize l[k] = w at *
        refine ⟨_, ⟨by omega, tbs_get hg⟩, ?_⟩
        conv => whnf
        cases hbl : Op.bytesLess w.n t <;> conv => whnf
        · have hp : posT l t = k := pos_unique (by omega) hb fun x hx => by rw [nws_get hg] at hx; cases hx; exact hbl
          have hT : (List.take k (tbs l)).length ≤ 64 := by rw [List.length_take]; omega
          have hD : (List.drop k (tbs l)).length ≤ 64 := by rw [List.length_drop]; omega
          refine ⟨⟨by omega, by omega⟩, ?_⟩
          conv => whnf
          refine ⟨(Nat.le_trans (Nat.mul_le_mul_right _ hT) (show 64 * 48 ≤ 70368744177664 by omega)), ?_⟩
          conv => whnf
          refine ⟨Nat.le_refl 1, ?_⟩
          refine app_gen rfl rfl rfl (Nat.le_trans (Nat.mul_le_mul_right _ (Nat.add_le_add hT (show 1 ≤ 1 by omega))) (show (64 + 1) * 48 ≤ 70368744177664 by omega)) ?_
          conv => whnf
          refine ⟨⟨by omega, by omega⟩, ?_⟩
          conv => whnf
          refine app_gen2 (by rw [List.length_append]) (Nat.le_trans (Nat.mul_le_mul_right _ (Nat.add_le_add (by rw [List.length_append]; exact Nat.add_le_add hT (show 1 ≤ 1 by omega)) hD)) (show (64 + 1 + 64) * 48 ≤ 70368744177664 by omega)) ?_
          conv => whnf
          exact fin _ _ (by rw [List.length_append]; rfl) hp rfl rfl
        · refine .go [0] rfl (l.length - (k + 1)) (by omega) ⟨k + 1, ?_, rfl, add_pos_step hb (nws_get hg) hbl, by omega, rfl⟩
          show [V.sl 3 (tbs l) f, V.ptr 0 0, V.nils, V.int .i64 (IntKind.i64.wrap ((k : Int) + 1))] = _
          rw [wrapE (by omega)]; rfl
      · have c3' := of_decide_eq_false c3
        have hp : posT l t = k := pos_unique (by omega) hb fun x hx => by rw [List.getElem?_eq_none (by omega)] at hx; cases hx
        have hT : (List.take k (tbs l)).length ≤ 64 := by rw [List.length_take]; omega
        have hD : (List.drop k (tbs l)).length ≤ 64 := by rw [List.length_drop]; omega
        refine ⟨⟨by omega, by omega⟩, ?_⟩
        conv => whnf
        refine ⟨(Nat.le_trans (Nat.mul_le_mul_right _ hT) (show 64 * 48 ≤ 70368744177664 by omega)), ?_⟩
        conv => whnf
        refine ⟨Nat.le_refl 1, ?_⟩
        refine app_gen rfl rfl rfl (Nat.le_trans (Nat.mul_le_mul_right _ (Nat.add_le_add hT (show 1 ≤ 1 by omega))) (show (64 + 1) * 48 ≤ 70368744177664 by omega)) ?_
        conv => whnf
        refine ⟨⟨by omega, by omega⟩, ?_⟩
        conv => whnf
        refine app_gen2 (by rw [List.length_append]) (Nat.le_trans (Nat.mul_le_mul_right _ (Nat.add_le_add (by rw [List.length_append]; exact Nat.add_le_add hT (show 1 ≤ 1 by omega)) hD)) (show (64 + 1 + 64) * 48 ≤ 70368744177664 by omega)) ?_
        conv => whnf
        exact fin _ _ (by rw [List.length_append]; rfl) hp rfl rfl
  · have c1' := of_decide_eq_false c1
    rw [if_neg c1'] at h
    cases ha : atT l t with
    | none =>
      rw [ha] at h
      rw [atTI_none ha]
      conv => whnf
      exact ⟨[], rfl, .sub _ _ (err_fol 7) (HSub.refl _) (.done [] rfl h)⟩
    | some i =>
      obtain ⟨x, hx, _, hlt⟩ := atT_get ha
      rw [ha] at h
      simp only at h
      rw [atTI_some ha]
      rw [show decide ((i : Int) < 0) = false from decide_eq_false (by omega)]
      conv => whnf
      have hT : (List.take i (tbs l)).length ≤ 64 := by rw [List.length_take]; omega
      have hD : (List.drop (i + 1) (tbs l)).length ≤ 64 := by rw [List.length_drop]; omega
      refine ⟨⟨by omega, by omega⟩, ?_⟩
      conv => whnf
      refine ⟨(Nat.le_trans (Nat.mul_le_mul_right _ hT) (show 64 * 48 ≤ 70368744177664 by omega)), ?_⟩
      conv => whnf
      have hi1 : IntKind.i64.wrap ((i : Int) + 1) = ((i + 1 : Nat) : Int) := by rw [wrapE (by omega)]; omega
      refine branch_i (fun c2 => ?_) (fun c2 => ?_) <;> try rw [c2] <;> conv => whnf
      · rw [if_neg (by simpa using c2)] at h
        rw [hx] at h
        simp only at h
        obtain ⟨m1, m2, m3, m4⟩ := may_bd (hm x (List.mem_of_getElem? hx))
        refine ⟨List.range 13, by kernel_rfl, by kernel_rfl, ?_⟩
        conv => whnf
        refine ⟨_, ⟨by omega, tbs_get hx⟩, ?_⟩
        conv => whnf
        refine .pure (Rapp_spec (l := x.c) (keys := x.k) (k := k) (c := c) m4 m1 ⟨rfl, ?_⟩)
        generalize applyS x.c x.k k c = r at *
        obtain ⟨rc, rk, re⟩ := r
        simp only at h
        repeat (conv => whnf
                first | (refine ⟨rfl, ?_⟩) | (refine ⟨⟨_, ⟨by omega, tbs_get hx⟩, rfl⟩, ?_⟩))
        conv => whnf
        by_cases hr : re = 0
        rotate_left
        focus
          rw [if_pos hr] at h
          rw [show decide (re = 0) = false from decide_eq_false hr]
          conv => whnf
          exact ⟨[], rfl, .sub _ _ (err_fol re) (HSub.refl _) (.done [] rfl h)⟩
        rw [if_neg (by simpa using hr)] at h
        rw [show decide (re = 0) = true from decide_eq_true hr]
        conv => whnf
        refine ⟨List.range 11, by kernel_rfl, by kernel_rfl, ?_⟩
        conv => whnf
        refine ⟨_, ⟨by omega, tbs_get hx⟩, ?_⟩
        conv => whnf
        refine ⟨Nat.le_refl 1, ?_⟩
        refine app_gen rfl rfl rfl (Nat.le_trans (Nat.mul_le_mul_right _ (Nat.add_le_add hT (show 1 ≤ 1 by omega))) (show (64 + 1) * 48 ≤ 70368744177664 by omega)) ?_
        repeat (conv => whnf
                first | (refine ⟨rfl, ?_⟩) | (refine ⟨⟨_, ⟨by omega, tbs_get hx⟩, rfl⟩, ?_⟩))
        conv => whnf
        rw [hi1]
        refine ⟨⟨by omega, by omega⟩, ?_⟩
        conv => whnf
        refine app_gen2 (by rw [List.length_append]) (Nat.le_trans (Nat.mul_le_mul_right _ (Nat.add_le_add (by rw [List.length_append]; exact Nat.add_le_add hT (show 1 ≤ 1 by omega)) hD)) (show (64 + 1 + 64) * 48 ≤ 70368744177664 by omega)) ?_
        conv => whnf
        have hset : tbs (l.set i ⟨x.n, rc, rk⟩) = List.take i (tbs l) ++ [tbC ⟨x.n, rc, rk⟩] ++ List.drop (i + 1) (tbs l) := by
          rw [List.set_eq_take_append_cons_drop, if_pos hlt]
          simp [tbs, List.map_take, List.map_drop]
        have hlen : (List.take i (tbs l)).length + 1 + (List.drop (i + 1) (tbs l)).length = (l.set i ⟨x.n, rc, rk⟩).length := by
          rw [← tbs_len (l.set i _), hset]; simp only [List.length_append, List.length_cons, List.length_nil]
        exact fol_ret (L := l.set i ⟨x.n, rc, rk⟩) (by rw [hset]; rfl) (by rw [List.length_append]; exact hlen) (Nat.le_refl _) h
      · rw [hi1]
        have c2' : k = 2 := by simpa using c2
        rw [if_pos c2'] at h
        refine ⟨⟨by omega, by omega⟩, ?_⟩
        conv => whnf
        refine app_gen2 rfl (Nat.le_trans (Nat.mul_le_mul_right _ (Nat.add_le_add hT hD)) (show (64 + 64) * 48 ≤ 70368744177664 by omega)) ?_
        conv => whnf
        have hset : tbs (l.eraseIdx i) = List.take i (tbs l) ++ List.drop (i + 1) (tbs l) := by
          rw [List.eraseIdx_eq_take_drop_succ]
          simp [tbs, List.map_take, List.map_drop]
        have hlen : (List.take i (tbs l)).length + (List.drop (i + 1) (tbs l)).length = (l.eraseIdx i).length := by
          rw [← tbs_len (l.eraseIdx i), hset, List.length_append]
        exact fol_ret (L := l.eraseIdx i) (by rw [hset]; rfl) hlen (Nat.le_refl _) h

end Go.Proofs.YtokifgdmddnpoaaDoorPg

/- Values: the document's functions. -/
namespace Go.Proofs.YtokifgdmddnpoaaDoorPg
open Go Go.RowKit
set_option linter.unusedSimpArgs false
set_option linter.unusedVariables false

variable {Q : V → List O → Prop}

theorem wrapI {n : Int} (h : -9223372036854775808 ≤ n ∧ n ≤ 9223372036854775807) : IntKind.i64.wrap n = n := by rw [IntKind.wrap_i64]; omega

theorem drop_cons {s : List UInt8} {i : Nat} {c : UInt8} {r : List UInt8} (h : s.drop i = c :: r) : i < s.length ∧ s[i]? = some c ∧ ∀ k, s[i + 1 + k]? = r[k]? := by
  have hl : i < s.length := by
    rcases Nat.lt_or_ge i s.length with h1 | h1
    · exact h1
    · rw [List.drop_of_length_le h1] at h; cases h
  have e : ∀ k, s[i + k]? = (c :: r)[k]? := fun k => by rw [← h, List.getElem?_drop]
  exact ⟨hl, by simpa using e 0, fun k => by have := e (k + 1); rw [show i + 1 + k = i + (k + 1) by omega, this]; simp⟩

set_option maxRecDepth 10000 in
set_option maxHeartbeats 4000000 in
theorem utf8_spec {s : List UInt8} (hs : s.length < 1000000000000000000) (h : Q (.bool (u8 s)) []) : ACall Tryd.prog 87 0 [.str s] [] Q := by
  refine by_body Tryd.func87 0 rfl (Nat.le_of_ble_eq_true rfl) ?_
  conv => whnf
  refine ⟨⟨[0, 3], fun m vs H => ∃ i : Nat, vs = [.str s, fI i] ∧ H = [] ∧ u8 s = u8 (s.drop i) ∧ i ≤ s.length ∧ m = s.length - i, .at _ ⟨0, rfl, rfl, by simp, Nat.zero_le _, rfl⟩, ?_⟩⟩
  rintro m vs H ⟨i, rfl, rfl, hu, hi, rfl⟩
  conv => whnf
  refine branch_i (fun c1 => ?_) (fun c1 => ?_) <;> try rw [c1] <;> conv => whnf
  rotate_left
  focus
    have c1' := of_decide_eq_false c1
    rw [List.drop_of_length_le (by omega), u8_nil] at hu
    rw [hu] at h
    exact ⟨[], rfl, h⟩
  have c1' := of_decide_eq_true c1
  obtain ⟨c, r, hd⟩ : ∃ c r, s.drop i = c :: r := by
    cases hx : s.drop i with
    | nil => have := List.drop_eq_nil_iff.1 hx; omega
    | cons c r => exact ⟨c, r, rfl⟩
  obtain ⟨h1, h2, h3⟩ := drop_cons hd
  have hlr : r.length = s.length - i - 1 := by have := congrArg List.length hd; rw [List.length_drop, List.length_cons] at this; omega
  rw [hd, u8_cons] at hu
  have hc : c.toNat < 256 := c.toNat_lt
  refine ⟨c, ⟨by omega, h2⟩, ?_⟩
  conv => whnf
  rw [wrapI (n := (c.toNat : Int)) (by omega)]
  unfold u8head at hu
  refine branch_i (fun c2 => ?_) (fun c2 => ?_) <;> try rw [c2] <;> conv => whnf
  focus
    have c2' := of_decide_eq_true c2
    rw [if_pos c2'] at hu
    have hu : u8 s = u8 r := hu
    refine .go [] rfl (s.length - (i + 1)) (by omega) ⟨i + 1, ?_, rfl, ?_, by omega, rfl⟩
    · show [V.str s, V.int .i64 (IntKind.i64.wrap ((i : Int) + 1))] = _
      rw [wrapI (by omega)]; rfl
    · have : s.drop (i + 1) = r := by rw [← List.drop_drop, hd]; rfl
      rw [hu, this]
  have c2' := of_decide_eq_false c2
  rw [if_neg c2'] at hu
  by_cases a1 : (c.toNat : Int) < 192
  focus
    rw [show lead c.toNat = none by unfold lead; rw [if_pos a1]] at hu
    have hu : u8 s = false := hu
    rw [hu] at h
    rw [show decide (192 ≤ (c.toNat : Int)) = false by simp; omega]
    conv => whnf
    rw [show decide (224 ≤ (c.toNat : Int)) = false by simp; omega]
    conv => whnf
    rw [show decide (240 ≤ (c.toNat : Int)) = false by simp; omega]
    conv => whnf
    exact ⟨[], rfl, h⟩
  rw [show decide (192 ≤ (c.toNat : Int)) = true by simp; omega]
  conv => whnf
  by_cases a2 : (c.toNat : Int) < 224
  focus
    rw [show decide ((c.toNat : Int) < 224) = true by simp; omega]
    conv => whnf
    have hl : lead (c.toNat : Int) = some (1, 128, (c.toNat : Int) - 192) := by unfold lead; rw [if_neg a1, if_pos a2]
    rw [hl] at hu
    rw [wrapI (n := (c.toNat : Int) - 192) (by omega), wrapI (n := (i : Int) + 2) (by omega)]
    refine branch_i (fun b1 => ?_) (fun b1 => ?_) <;> try rw [b1] <;> conv => whnf
    focus
      have b1' := of_decide_eq_true b1
      have hu : u8 s = false := by rw [hu]; simp only [if_pos (show r.length < 1 by omega)]
      rw [hu] at h
      exact ⟨[], rfl, h⟩
    have b1' := of_decide_eq_false b1
    simp only [if_neg (show ¬ r.length < 1 by omega)] at hu
    have hv0b : 0 ≤ (c.toNat : Int) - 192 ∧ (c.toNat : Int) - 192 < 32 := by omega
    generalize (c.toNat : Int) - 192 = v0 at *
    refine ⟨⟨[0, 3, 5, 6, 7, 8], fun m vs H => ∃ (k : Nat) (v : Int), vs = [.str s, fI i, fI 2, fI 128, fI v, fI ((k + 1 : Nat) : Int)] ∧ H = [] ∧ k ≤ 1 ∧ cv r v0 k = some v ∧ m = 1 - k, .at _ ⟨0, v0, rfl, rfl, Nat.zero_le _, rfl, rfl⟩, ?_⟩⟩
    rintro m vs H ⟨k, v, rfl, rfl, hk, hcv, rfl⟩
    conv => whnf
    refine branch_i (fun b2 => ?_) (fun b2 => ?_) <;> try rw [b2] <;> conv => whnf
    focus
      have b2' := of_decide_eq_true b2
      have hb := cv_bound hv0b hcv
      have hv : v < 131072 := by
        have hk3 : k = 0 ∨ k = 1 ∨ k = 2 := by omega
        rcases hk3 with rfl | rfl | rfl <;> simp at hb <;> omega
      have hkr : k < r.length := by omega
      have hg : r[k]? = some r[k] := List.getElem?_eq_getElem hkr
      generalize r[k] = d at *
      have hdl : d.toNat < 256 := d.toNat_lt
      rw [wrapI (n := (i : Int) + ((k + 1 : Nat) : Int)) (by omega)]
      refine ⟨d, ⟨by omega, by rw [show ((i : Int) + ((k + 1 : Nat) : Int)).toNat = i + 1 + k by omega, h3 k, hg]⟩, ?_⟩
      conv => whnf
      rw [wrapI (n := (d.toNat : Int)) (by omega)]
      have bad : ¬ (128 ≤ d.toNat ∧ d.toNat < 192) → u8 s = false := fun hbad => by
        have e : cv r v0 (k + 1) = none := by simp only [cv, hcv, hg, if_neg hbad]
        rw [hu, cv_none e (m := 1) (by omega)]
      by_cases e1 : (d.toNat : Int) < 128
      focus
        rw [bad (by omega)] at h
        rw [show decide ((d.toNat : Int) < 128) = true by simp; omega]
        conv => whnf
        exact ⟨[], rfl, h⟩
      rw [show decide ((d.toNat : Int) < 128) = false by simp; omega]
      conv => whnf
      by_cases e2 : 192 ≤ (d.toNat : Int)
      focus
        rw [bad (by omega)] at h
        rw [show decide (192 ≤ (d.toNat : Int)) = true by simp; omega]
        conv => whnf
        exact ⟨[], rfl, h⟩
      rw [show decide (192 ≤ (d.toNat : Int)) = false by simp; omega]
      conv => whnf
      refine .go [] rfl (1 - (k + 1)) (by omega) ⟨k + 1, 64 * v + d.toNat - 128, ?_, rfl, by omega, by simp only [cv, hcv, hg]; rw [if_pos (by omega)], rfl⟩
      show [V.str s, fI i, fI 2, fI 128, V.int .i64 (IntKind.i64.wrap (IntKind.i64.wrap (IntKind.i64.wrap (64 * v) + d.toNat) - 128)), V.int .i64 (IntKind.i64.wrap (((k + 1 : Nat) : Int) + 1))] = _
      rw [wrapI (n := 64 * v) (by omega), wrapI (n := 64 * v + d.toNat) (by omega), wrapI (n := 64 * v + d.toNat - 128) (by omega), wrapI (n := ((k + 1 : Nat) : Int) + 1) (by omega)]; rfl
    have b2' := of_decide_eq_false b2
    have hkn : k = 1 := by omega
    subst hkn
    rw [hcv] at hu
    have hdr : s.drop (i + 2) = r.drop 1 := by
      rw [show i + 2 = i + 1 + 1 by omega, ← List.drop_drop, show s.drop (i + 1) = r by rw [← List.drop_drop, hd]; rfl]
    have yes : badV v 128 = true → u8 s = false := fun hb => by rw [hu]; simp only [hb, if_true]
    have no : badV v 128 = false → u8 s = u8 (r.drop 1) := fun hb => by rw [hu]; simp only [hb, Bool.false_eq_true, if_false]
    unfold badV at yes no
    refine branch_i (fun d1 => ?_) (fun d1 => ?_) <;> rw [d1] at yes no <;> try rw [d1] <;> conv => whnf
    focus rw [yes rfl] at h; exact ⟨[], rfl, h⟩
    refine branch_i (fun d2 => ?_) (fun d2 => ?_) <;> rw [d2] at yes no <;> try rw [d2] <;> conv => whnf
    focus rw [yes rfl] at h; exact ⟨[], rfl, h⟩
    refine branch_i (fun d3 => ?_) (fun d3 => ?_) <;> rw [d3] at yes no <;> try rw [d3] <;> conv => whnf
    focus
      refine branch_i (fun d4 => ?_) (fun d4 => ?_) <;> rw [d4] at yes no <;> try rw [d4] <;> conv => whnf
      focus rw [yes rfl] at h; exact ⟨[], rfl, h⟩
    all_goals
      refine .go [] rfl (s.length - (i + 2)) (by omega) ⟨i + 2, ?_, rfl, by rw [no rfl, hdr], by omega, rfl⟩
      show [V.str s, V.int .i64 (IntKind.i64.wrap ((i : Int) + 2))] = _
      rw [wrapI (by omega)]; rfl
  rw [show decide ((c.toNat : Int) < 224) = false by simp; omega]
  conv => whnf
  rw [show decide (224 ≤ (c.toNat : Int)) = true by simp; omega]
  conv => whnf
  by_cases a3 : (c.toNat : Int) < 240
  focus
    rw [show decide ((c.toNat : Int) < 240) = true by simp; omega]
    conv => whnf
    have hl : lead (c.toNat : Int) = some (2, 2048, (c.toNat : Int) - 224) := by unfold lead; rw [if_neg a1, if_neg a2, if_pos a3]
    rw [hl] at hu
    rw [wrapI (n := (c.toNat : Int) - 224) (by omega), wrapI (n := (i : Int) + 3) (by omega)]
    refine branch_i (fun b1 => ?_) (fun b1 => ?_) <;> try rw [b1] <;> conv => whnf
    focus
      have b1' := of_decide_eq_true b1
      have hu : u8 s = false := by rw [hu]; simp only [if_pos (show r.length < 2 by omega)]
      rw [hu] at h
      exact ⟨[], rfl, h⟩
    have b1' := of_decide_eq_false b1
    simp only [if_neg (show ¬ r.length < 2 by omega)] at hu
    have hv0b : 0 ≤ (c.toNat : Int) - 224 ∧ (c.toNat : Int) - 224 < 32 := by omega
    generalize (c.toNat : Int) - 224 = v0 at *
    refine ⟨⟨[0, 3, 5, 6, 7, 8], fun m vs H => ∃ (k : Nat) (v : Int), vs = [.str s, fI i, fI 3, fI 2048, fI v, fI ((k + 1 : Nat) : Int)] ∧ H = [] ∧ k ≤ 2 ∧ cv r v0 k = some v ∧ m = 2 - k, .at _ ⟨0, v0, rfl, rfl, Nat.zero_le _, rfl, rfl⟩, ?_⟩⟩
    rintro m vs H ⟨k, v, rfl, rfl, hk, hcv, rfl⟩
    conv => whnf
    refine branch_i (fun b2 => ?_) (fun b2 => ?_) <;> try rw [b2] <;> conv => whnf
    focus
      have b2' := of_decide_eq_true b2
      have hb := cv_bound hv0b hcv
      have hv : v < 131072 := by
        have hk3 : k = 0 ∨ k = 1 ∨ k = 2 := by omega
        rcases hk3 with rfl | rfl | rfl <;> simp at hb <;> omega
      have hkr : k < r.length := by omega
      have hg : r[k]? = some r[k] := List.getElem?_eq_getElem hkr
      generalize r[k] = d at *
      have hdl : d.toNat < 256 := d.toNat_lt
      rw [wrapI (n := (i : Int) + ((k + 1 : Nat) : Int)) (by omega)]
      refine ⟨d, ⟨by omega, by rw [show ((i : Int) + ((k + 1 : Nat) : Int)).toNat = i + 1 + k by omega, h3 k, hg]⟩, ?_⟩
      conv => whnf
      rw [wrapI (n := (d.toNat : Int)) (by omega)]
      have bad : ¬ (128 ≤ d.toNat ∧ d.toNat < 192) → u8 s = false := fun hbad => by
        have e : cv r v0 (k + 1) = none := by simp only [cv, hcv, hg, if_neg hbad]
        rw [hu, cv_none e (m := 2) (by omega)]
      by_cases e1 : (d.toNat : Int) < 128
      focus
        rw [bad (by omega)] at h
        rw [show decide ((d.toNat : Int) < 128) = true by simp; omega]
        conv => whnf
        exact ⟨[], rfl, h⟩
      rw [show decide ((d.toNat : Int) < 128) = false by simp; omega]
      conv => whnf
      by_cases e2 : 192 ≤ (d.toNat : Int)
      focus
        rw [bad (by omega)] at h
        rw [show decide (192 ≤ (d.toNat : Int)) = true by simp; omega]
        conv => whnf
        exact ⟨[], rfl, h⟩
      rw [show decide (192 ≤ (d.toNat : Int)) = false by simp; omega]
      conv => whnf
      refine .go [] rfl (2 - (k + 1)) (by omega) ⟨k + 1, 64 * v + d.toNat - 128, ?_, rfl, by omega, by simp only [cv, hcv, hg]; rw [if_pos (by omega)], rfl⟩
      show [V.str s, fI i, fI 3, fI 2048, V.int .i64 (IntKind.i64.wrap (IntKind.i64.wrap (IntKind.i64.wrap (64 * v) + d.toNat) - 128)), V.int .i64 (IntKind.i64.wrap (((k + 1 : Nat) : Int) + 1))] = _
      rw [wrapI (n := 64 * v) (by omega), wrapI (n := 64 * v + d.toNat) (by omega), wrapI (n := 64 * v + d.toNat - 128) (by omega), wrapI (n := ((k + 1 : Nat) : Int) + 1) (by omega)]; rfl
    have b2' := of_decide_eq_false b2
    have hkn : k = 2 := by omega
    subst hkn
    rw [hcv] at hu
    have hdr : s.drop (i + 3) = r.drop 2 := by
      rw [show i + 3 = i + 1 + 2 by omega, ← List.drop_drop, show s.drop (i + 1) = r by rw [← List.drop_drop, hd]; rfl]
    have yes : badV v 2048 = true → u8 s = false := fun hb => by rw [hu]; simp only [hb, if_true]
    have no : badV v 2048 = false → u8 s = u8 (r.drop 2) := fun hb => by rw [hu]; simp only [hb, Bool.false_eq_true, if_false]
    unfold badV at yes no
    refine branch_i (fun d1 => ?_) (fun d1 => ?_) <;> rw [d1] at yes no <;> try rw [d1] <;> conv => whnf
    focus rw [yes rfl] at h; exact ⟨[], rfl, h⟩
    refine branch_i (fun d2 => ?_) (fun d2 => ?_) <;> rw [d2] at yes no <;> try rw [d2] <;> conv => whnf
    focus rw [yes rfl] at h; exact ⟨[], rfl, h⟩
    refine branch_i (fun d3 => ?_) (fun d3 => ?_) <;> rw [d3] at yes no <;> try rw [d3] <;> conv => whnf
    focus
      refine branch_i (fun d4 => ?_) (fun d4 => ?_) <;> rw [d4] at yes no <;> try rw [d4] <;> conv => whnf
      focus rw [yes rfl] at h; exact ⟨[], rfl, h⟩
    all_goals
      refine .go [] rfl (s.length - (i + 3)) (by omega) ⟨i + 3, ?_, rfl, by rw [no rfl, hdr], by omega, rfl⟩
      show [V.str s, V.int .i64 (IntKind.i64.wrap ((i : Int) + 3))] = _
      rw [wrapI (by omega)]; rfl
  rw [show decide ((c.toNat : Int) < 240) = false by simp; omega]
  conv => whnf
  rw [show decide (240 ≤ (c.toNat : Int)) = true by simp; omega]
  conv => whnf
  by_cases a4 : (c.toNat : Int) < 248
  focus
    rw [show decide ((c.toNat : Int) < 248) = true by simp; omega]
    conv => whnf
    have hl : lead (c.toNat : Int) = some (3, 65536, (c.toNat : Int) - 240) := by unfold lead; rw [if_neg a1, if_neg a2, if_neg a3, if_pos a4]
    rw [hl] at hu
    rw [wrapI (n := (c.toNat : Int) - 240) (by omega), wrapI (n := (i : Int) + 4) (by omega)]
    refine branch_i (fun b1 => ?_) (fun b1 => ?_) <;> try rw [b1] <;> conv => whnf
    focus
      have b1' := of_decide_eq_true b1
      have hu : u8 s = false := by rw [hu]; simp only [if_pos (show r.length < 3 by omega)]
      rw [hu] at h
      exact ⟨[], rfl, h⟩
    have b1' := of_decide_eq_false b1
    simp only [if_neg (show ¬ r.length < 3 by omega)] at hu
    have hv0b : 0 ≤ (c.toNat : Int) - 240 ∧ (c.toNat : Int) - 240 < 32 := by omega
    generalize (c.toNat : Int) - 240 = v0 at *
    refine ⟨⟨[0, 3, 5, 6, 7, 8], fun m vs H => ∃ (k : Nat) (v : Int), vs = [.str s, fI i, fI 4, fI 65536, fI v, fI ((k + 1 : Nat) : Int)] ∧ H = [] ∧ k ≤ 3 ∧ cv r v0 k = some v ∧ m = 3 - k, .at _ ⟨0, v0, rfl, rfl, Nat.zero_le _, rfl, rfl⟩, ?_⟩⟩
    rintro m vs H ⟨k, v, rfl, rfl, hk, hcv, rfl⟩
    conv => whnf
    refine branch_i (fun b2 => ?_) (fun b2 => ?_) <;> try rw [b2] <;> conv => whnf
    focus
      have b2' := of_decide_eq_true b2
      have hb := cv_bound hv0b hcv
      have hv : v < 131072 := by
        have hk3 : k = 0 ∨ k = 1 ∨ k = 2 := by omega
        rcases hk3 with rfl | rfl | rfl <;> simp at hb <;> omega
      have hkr : k < r.length := by omega
      have hg : r[k]? = some r[k] := List.getElem?_eq_getElem hkr
      generalize r[k] = d at *
      have hdl : d.toNat < 256 := d.toNat_lt
      rw [wrapI (n := (i : Int) + ((k + 1 : Nat) : Int)) (by omega)]
      refine ⟨d, ⟨by omega, by rw [show ((i : Int) + ((k + 1 : Nat) : Int)).toNat = i + 1 + k by omega, h3 k, hg]⟩, ?_⟩
      conv => whnf
      rw [wrapI (n := (d.toNat : Int)) (by omega)]
      have bad : ¬ (128 ≤ d.toNat ∧ d.toNat < 192) → u8 s = false := fun hbad => by
        have e : cv r v0 (k + 1) = none := by simp only [cv, hcv, hg, if_neg hbad]
        rw [hu, cv_none e (m := 3) (by omega)]
      by_cases e1 : (d.toNat : Int) < 128
      focus
        rw [bad (by omega)] at h
        rw [show decide ((d.toNat : Int) < 128) = true by simp; omega]
        conv => whnf
        exact ⟨[], rfl, h⟩
      rw [show decide ((d.toNat : Int) < 128) = false by simp; omega]
      conv => whnf
      by_cases e2 : 192 ≤ (d.toNat : Int)
      focus
        rw [bad (by omega)] at h
        rw [show decide (192 ≤ (d.toNat : Int)) = true by simp; omega]
        conv => whnf
        exact ⟨[], rfl, h⟩
      rw [show decide (192 ≤ (d.toNat : Int)) = false by simp; omega]
      conv => whnf
      refine .go [] rfl (3 - (k + 1)) (by omega) ⟨k + 1, 64 * v + d.toNat - 128, ?_, rfl, by omega, by simp only [cv, hcv, hg]; rw [if_pos (by omega)], rfl⟩
      show [V.str s, fI i, fI 4, fI 65536, V.int .i64 (IntKind.i64.wrap (IntKind.i64.wrap (IntKind.i64.wrap (64 * v) + d.toNat) - 128)), V.int .i64 (IntKind.i64.wrap (((k + 1 : Nat) : Int) + 1))] = _
      rw [wrapI (n := 64 * v) (by omega), wrapI (n := 64 * v + d.toNat) (by omega), wrapI (n := 64 * v + d.toNat - 128) (by omega), wrapI (n := ((k + 1 : Nat) : Int) + 1) (by omega)]; rfl
    have b2' := of_decide_eq_false b2
    have hkn : k = 3 := by omega
    subst hkn
    rw [hcv] at hu
    have hdr : s.drop (i + 4) = r.drop 3 := by
      rw [show i + 4 = i + 1 + 3 by omega, ← List.drop_drop, show s.drop (i + 1) = r by rw [← List.drop_drop, hd]; rfl]
    have yes : badV v 65536 = true → u8 s = false := fun hb => by rw [hu]; simp only [hb, if_true]
    have no : badV v 65536 = false → u8 s = u8 (r.drop 3) := fun hb => by rw [hu]; simp only [hb, Bool.false_eq_true, if_false]
    unfold badV at yes no
    refine branch_i (fun d1 => ?_) (fun d1 => ?_) <;> rw [d1] at yes no <;> try rw [d1] <;> conv => whnf
    focus rw [yes rfl] at h; exact ⟨[], rfl, h⟩
    refine branch_i (fun d2 => ?_) (fun d2 => ?_) <;> rw [d2] at yes no <;> try rw [d2] <;> conv => whnf
    focus rw [yes rfl] at h; exact ⟨[], rfl, h⟩
    refine branch_i (fun d3 => ?_) (fun d3 => ?_) <;> rw [d3] at yes no <;> try rw [d3] <;> conv => whnf
    focus
      refine branch_i (fun d4 => ?_) (fun d4 => ?_) <;> rw [d4] at yes no <;> try rw [d4] <;> conv => whnf
      focus rw [yes rfl] at h; exact ⟨[], rfl, h⟩
    all_goals
      refine .go [] rfl (s.length - (i + 4)) (by omega) ⟨i + 4, ?_, rfl, by rw [no rfl, hdr], by omega, rfl⟩
      show [V.str s, V.int .i64 (IntKind.i64.wrap ((i : Int) + 4))] = _
      rw [wrapI (by omega)]; rfl
  rw [show decide ((c.toNat : Int) < 248) = false by simp; omega]
  conv => whnf
  rw [show lead c.toNat = none by unfold lead; rw [if_neg a1, if_neg a2, if_neg a3, if_neg a4]] at hu
  have hu : u8 s = false := hu
  rw [hu] at h
  exact ⟨[], rfl, h⟩

end Go.Proofs.YtokifgdmddnpoaaDoorPg

/- Values: which may be; rows. -/
namespace Go.Proofs.YtokifgdmddnpoaaDoorPg
open Go Go.RowKit
set_option linter.unusedSimpArgs false
set_option linter.unusedVariables false

variable {Q : V → List O → Prop}

def valA (v : Val) : V := .agg [.int .i64 v.k, .int .i64 v.n, .str v.t]
def colA (c : Col) : V := .agg [.str c.n, .int .i64 c.k, .bool c.o]

theorem RVMay_spec {v : Val} (ht : v.t.length < 1000000000000000000) (h : Q (.bool (mayV v)) []) : ACall Tryd.prog 91 0 [valA v] [] Q := by
  refine by_body Tryd.func91 0 rfl (Nat.le_of_ble_eq_true rfl) ?_
  conv => whnf
  unfold mayV at h
  refine branch_i (fun c1 => ?_) (fun c1 => ?_) <;> try rw [c1] <;> conv => whnf
  focus
    rw [if_pos (of_decide_eq_true c1)] at h
    refine branch_i (fun c2 => ?_) (fun c2 => ?_) <;> rw [c2] at h <;> try rw [c2] <;> conv => whnf
    all_goals exact ⟨[], rfl, h⟩
  rw [if_neg (of_decide_eq_false c1)] at h
  refine branch_i (fun c2 => ?_) (fun c2 => ?_) <;> try rw [c2] <;> conv => whnf
  focus
    rw [if_pos (of_decide_eq_true c2)] at h
    refine branch_i (fun c3 => ?_) (fun c3 => ?_) <;> rw [c3] at h <;> try rw [c3] <;> conv => whnf
    rotate_left
    focus exact ⟨[], rfl, h⟩
    refine branch_i (fun c4 => ?_) (fun c4 => ?_) <;> rw [c4] at h <;> try rw [c4] <;> conv => whnf
    all_goals exact ⟨[], rfl, h⟩
  rw [if_neg (of_decide_eq_false c2)] at h
  refine branch_i (fun c3 => ?_) (fun c3 => ?_) <;> try rw [c3] <;> conv => whnf
  focus
    rw [if_pos (of_decide_eq_true c3)] at h
    exact ⟨[], rfl, h⟩
  rw [if_neg (of_decide_eq_false c3)] at h
  refine branch_i (fun c4 => ?_) (fun c4 => ?_) <;> try rw [c4] <;> conv => whnf
  focus
    rw [if_pos (of_decide_eq_true c4)] at h
    refine .pure (utf8_spec ht ⟨rfl, ?_⟩)
    conv => whnf
    cases c5 : u8 v.t <;> rw [c5] at h <;> conv => whnf
    focus exact ⟨[], rfl, h⟩
    refine branch_i (fun c6 => ?_) (fun c6 => ?_) <;> rw [c6] at h <;> try rw [c6] <;> conv => whnf
    all_goals exact ⟨[], rfl, h⟩
  rw [if_neg (of_decide_eq_false c4)] at h
  refine branch_i (fun c5 => ?_) (fun c5 => ?_) <;> try rw [c5] <;> conv => whnf
  focus
    rw [if_pos (of_decide_eq_true c5)] at h
    refine branch_i (fun c6 => ?_) (fun c6 => ?_) <;> rw [c6] at h <;> try rw [c6] <;> conv => whnf
    all_goals exact ⟨[], rfl, h⟩
  rw [if_neg (of_decide_eq_false c5)] at h
  exact ⟨[], rfl, h⟩

theorem stands_spec {c : Col} {v : Val} (ht : v.t.length < 1000000000000000000) (h : Q (.bool (standsV c v)) []) : ACall Tryd.prog 71 0 [colA c, valA v] [] Q := by
  refine by_body Tryd.func71 0 rfl (Nat.le_of_ble_eq_true rfl) ?_
  conv => whnf
  unfold standsV at h
  refine .pure (RVMay_spec ht ⟨rfl, ?_⟩)
  conv => whnf
  cases c1 : mayV v <;> rw [c1] at h <;> conv => whnf
  focus exact ⟨[], rfl, h⟩
  refine branch_i (fun c2 => ?_) (fun c2 => ?_) <;> rw [c2] at h <;> try rw [c2] <;> conv => whnf
  focus exact ⟨[], rfl, h⟩
  refine branch_i (fun c3 => ?_) (fun c3 => ?_) <;> rw [c3] at h <;> try rw [c3] <;> conv => whnf
  all_goals exact ⟨[], rfl, h⟩

theorem VGood_spec {v : Val} (hk : -9223372036854775808 ≤ v.k ∧ v.k ≤ 9223372036854775807) (h : Q (valA (goodV v)) []) : ACall Tryd.prog 66 0 [valA v] [] Q := by
  refine by_body Tryd.func66 0 rfl (Nat.le_of_ble_eq_true rfl) ?_
  conv => whnf
  unfold goodV at h
  have hn : natI v.k = if v.k < 0 then IntKind.i64.wrap (0 - IntKind.i64.wrap (v.k + 1)) else v.k := rfl
  refine branch_i (fun c1 => ?_) (fun c1 => ?_) <;> try rw [c1] <;> conv => whnf
  focus
    rw [if_pos (of_decide_eq_true c1)] at hn
    rw [← hn]
    rw [show goodK5 v.k = (natI v.k).tmod 5 from rfl] at h
  rotate_left
  focus
    rw [if_neg (of_decide_eq_false c1)] at hn
    rw [show goodK5 v.k = (natI v.k).tmod 5 from rfl, hn] at h
  all_goals
    refine ⟨by decide, ?_⟩
    conv => whnf
    have h40 : text40 v.t = if 40 < v.t.length then v.t.take 40 else v.t := rfl
    refine branch_i (fun c2 => ?_) (fun c2 => ?_) <;> try rw [c2] <;> conv => whnf
    focus
      have c2' := of_decide_eq_true c2
      refine ⟨⟨by decide, by omega⟩, ?_⟩
      conv => whnf
      rw [if_pos (by omega)] at h40
    rotate_left
    focus
      have c2' := of_decide_eq_false c2
      rw [if_neg (by omega)] at h40
    all_goals
      refine branch_i (fun d1 => ?_) (fun d1 => ?_) <;> try rw [d1] <;> conv => whnf
      focus
        rw [if_pos (of_decide_eq_true d1)] at h
        refine ⟨by decide, ?_⟩
        conv => whnf
        by_cases e : v.n.tmod 2 = 0
        · rw [if_pos e] at h
          rw [show decide (v.n.tmod 2 = 0) = true by simp [e]]
          conv => whnf
          exact ⟨[], rfl, h⟩
        · rw [if_neg e] at h
          rw [show decide (v.n.tmod 2 = 0) = false by simp [e]]
          conv => whnf
          exact ⟨[], rfl, h⟩
      rw [if_neg (of_decide_eq_false d1)] at h
      refine branch_i (fun d2 => ?_) (fun d2 => ?_) <;> try rw [d2] <;> conv => whnf
      focus
        rw [if_pos (of_decide_eq_true d2)] at h
        exact ⟨[], rfl, h⟩
      rw [if_neg (of_decide_eq_false d2)] at h
      refine branch_i (fun d3 => ?_) (fun d3 => ?_) <;> try rw [d3] <;> conv => whnf
      focus
        rw [if_pos (of_decide_eq_true d3)] at h
        refine .pure (utf8_spec (by first | (rw [List.length_take]; have : (40 : Int).toNat = 40 := rfl; omega) | omega) ⟨rfl, ?_⟩)
        rw [h40] at h
        conv => whnf
        first
          | cases d5 : u8 (v.t.take (40 : Int).toNat) <;> rw [show u8 (v.t.take 40) = u8 (v.t.take (40 : Int).toNat) from rfl, d5] at h <;> conv => whnf
          | cases d5 : u8 v.t <;> rw [d5] at h <;> conv => whnf
        all_goals exact ⟨[], rfl, h⟩
      rw [if_neg (of_decide_eq_false d3)] at h
      refine branch_i (fun d4 => ?_) (fun d4 => ?_) <;> try rw [d4] <;> conv => whnf
      focus
        rw [if_pos (of_decide_eq_true d4), h40] at h
        exact ⟨[], rfl, h⟩
      rw [if_neg (of_decide_eq_false d4)] at h
      exact ⟨[], rfl, h⟩

theorem val_eq (d e : Val) : (decide (d.k = e.k) && (decide (d.n = e.n) && (decide (d.t = e.t) && true))) = decide (d = e) := by
  cases d; cases e
  simp [Val.mk.injEq]

theorem VSame_spec {l l2 : List Val} {f f2 : Bool} (hl : l.length < 9223372036854775808) (h : Q (.bool (decide (l = l2))) []) :
    ACall Tryd.prog 46 0 [.sl 3 (vals l) f, .sl 3 (vals l2) f2] [] Q := by
  refine by_body Tryd.func46 0 rfl (Nat.le_of_ble_eq_true rfl) ?_
  conv => whnf
  have h1 := vals_len l
  have h2 := vals_len l2
  refine branch_i (fun c => ?_) (fun c => ?_) <;> try rw [c] <;> conv => whnf
  focus
    have hne : l ≠ l2 := fun e => by subst e; simp at c
    rw [show decide (l = l2) = false by simp [hne]] at h
    exact ⟨[], rfl, h⟩
  have hlen : l.length = l2.length := by simp at c; omega
  clear c
  refine ⟨⟨[0, 1, 5], fun m vs H => ∃ i : Nat, vs = [.sl 3 (vals l) f, .sl 3 (vals l2) f2, fI i] ∧ H = [] ∧ l.take i = l2.take i ∧ i ≤ l.length ∧ m = l.length - i, .at _ ⟨0, rfl, rfl, rfl, Nat.zero_le _, rfl⟩, ?_⟩⟩
  rintro m vs H ⟨i, rfl, rfl, hn, hi, rfl⟩
  conv => whnf
  refine branch_i (fun c => ?_) (fun c => ?_) <;> try rw [c] <;> conv => whnf
  · have c' := of_decide_eq_true c
    have hlt : i < l.length := by omega
    have g1 : l[i]? = some l[i] := List.getElem?_eq_getElem hlt
    have g2 : l2[i]? = some l2[i] := List.getElem?_eq_getElem (by omega)
    generalize l[i] = d at *
    generalize l2[i] = d2 at *
    refine ⟨List.range 9, by kernel_rfl, by kernel_rfl, ?_⟩
    conv => whnf
    refine ⟨_, ⟨by omega, vals_get g1⟩, ?_⟩
    conv => whnf
    refine ⟨_, ⟨by omega, vals_get g2⟩, ?_⟩
    conv => whnf
    rw [val_eq]
    by_cases e : d = d2
    · rw [show decide (d = d2) = true by simp [e]]
      conv => whnf
      refine .go [] rfl (l.length - (i + 1)) (by omega) ⟨i + 1, ?_, rfl, ?_, by omega, rfl⟩
      · show [V.sl 3 (vals l) f, V.sl 3 (vals l2) f2, V.int .i64 (IntKind.i64.wrap ((i : Int) + 1))] = _
        rw [show IntKind.i64.wrap ((i : Int) + 1) = ((i + 1 : Nat) : Int) by rw [IntKind.wrap_i64]; omega]
      · rw [List.take_add_one, List.take_add_one, hn, g1, g2, e]
    · rw [show decide (d = d2) = false by simp [e]]
      conv => whnf
      have hne : l ≠ l2 := fun e' => by subst e'; rw [g1] at g2; cases g2; exact e rfl
      rw [show decide (l = l2) = false by simp [hne]] at h
      exact ⟨[], rfl, h⟩
  · have c' := of_decide_eq_false c
    rw [List.take_of_length_le (by omega), List.take_of_length_le (by omega)] at hn
    rw [show decide (l = l2) = true by simp [hn]] at h
    exact ⟨[], rfl, h⟩

theorem ms0_row (z id : Nat) : VSub .nils (.ms z id 0 0 false) := VSub.ms0 z id 0 false

set_option maxHeartbeats 4000000 in
theorem Row_spec {l : List Col} {keys : Int} {vs : List Val} {f : Bool} (hl : l.length < 1000000) (hk : ∀ c ∈ l, -9223372036854775808 ≤ c.k ∧ c.k ≤ 9223372036854775807) (h : Q (.sl 3 (vals (rowL l vs)) false) []) :
    ACall Tryd.prog 35 0 [sch l keys, .sl 3 (vals vs) f] [] Q := by
  refine ACall.ret (by_body Tryd.func35 0 rfl (Nat.le_of_ble_eq_true rfl) ?_)
  conv => whnf
  have hlk := cols_len l
  have hvl := vals_len vs
  refine ⟨⟨[1, 2, 5, 6], fun m ws H => ∃ i : Nat, ws = [.sl 3 (vals vs) f, .ptr 0 0, .ms 3 1 0 (vals (rowN l vs i)).length false, fI i] ∧
    H = [.cells [.sl 3 (cols l) false, fI keys], .buf (vals (rowN l vs i))] ∧ i ≤ l.length ∧ m = l.length - i,
    .frz (l.length + 1) (.adopt (.sub _ _ (.cons (VSub.refl _) (.cons (VSub.refl _) (.cons (ms0_row 3 1) (VSubs.refl _)))) (HSub.refl _) (.go [0, 1] rfl l.length (by omega) ⟨0, rfl, rfl, by omega, rfl⟩))), ?_⟩⟩
  rintro m ws H ⟨i, rfl, rfl, hi, rfl⟩
  conv => whnf
  refine branch_i (fun c => ?_) (fun c => ?_) <;> try rw [c] <;> conv => whnf
  rotate_left
  focus
    have c' := of_decide_eq_false c
    have hi' : i = l.length := by omega
    subst hi'
    refine ⟨[1], rfl, .frz 0 rfl (by repeat (first | exact trivial | refine And.intro (Nat.le_of_eq (Nat.zero_add _)) ?_)) (.done [] rfl ?_)⟩
    show Q (.sl 3 (List.take (vals (rowL l vs)).length (vals (rowL l vs))) false) []
    rw [List.take_length]; exact h
  have c' := of_decide_eq_true c
  have hlt : i < l.length := by omega
  have hget : l[i]? = some l[i] := List.getElem?_eq_getElem hlt
  generalize l[i] = d at *
  have hlen : (vals (rowN l vs i)).length = i := by rw [vals_len, rowN_len l vs i hi]
  have hsnoc : vals (rowN l vs (i + 1)) = vals (rowN l vs i) ++ [valC (rowV d (vs.getD i val0))] := by
    simp only [rowN, hget]; simp [vals]
  have hdk := hk d (List.mem_of_getElem? hget)
  refine branch_i (fun c2 => ?_) (fun c2 => ?_) <;> try rw [c2] <;> conv => whnf
  focus
    have c2' := of_decide_eq_true c2
    have hv : vs[i]? = some (vs.getD i val0) := by
      have : i < vs.length := by omega
      simp [List.getD, List.getElem?_eq_getElem this]
    generalize vs.getD i val0 = v at *
    refine ⟨_, ⟨by omega, vals_get hv⟩, ?_⟩
    conv => whnf
    refine ⟨_, ⟨by omega, cols_get hget⟩, ?_⟩
    conv => whnf
    cases e1 : d.o
    · conv => whnf
      have hX : rowV d v = goodV ⟨d.k, v.n, v.t⟩ := by unfold rowV; rw [if_neg (by simp [e1])]
      rw [hX] at hsnoc
      refine .pure (VGood_spec (v := ⟨d.k, (v).n, (v).t⟩) hdk ⟨rfl, ?_⟩)
      conv => whnf
      refine ⟨Nat.le_refl _, ?_⟩
      conv => whnf
      refine ⟨rfl, ?_⟩
      conv => whnf
      refine ⟨Nat.le_trans (Nat.mul_le_mul_right _ (by rw [List.length_append, List.length_take, List.drop_zero, hlen]; exact Nat.add_le_add (Nat.le_refl i) (Nat.min_le_left _ _))) (show (i + 1) * 32 ≤ 70368744177664 by omega), ?_⟩
      conv => whnf
      refine .go [0, 5] rfl (l.length - (i + 1)) (by omega) ⟨i + 1, ?_, ?_, by omega, rfl⟩
      · show [V.sl 3 (vals vs) f, V.ptr 0 0, V.ms 3 1 0 (vals (rowN l vs i) ++ [valC (goodV ⟨d.k, (v).n, (v).t⟩)]).length false, V.int .i64 (IntKind.i64.wrap ((i : Int) + 1))] = _
        rw [hsnoc, wrapI (by omega)]; rfl
      · show [O.cells [.sl 3 (cols l) false, fI keys], O.buf (vals (rowN l vs i) ++ [valC (goodV ⟨d.k, (v).n, (v).t⟩)])] = _
        rw [hsnoc]
    · conv => whnf
      refine ⟨by decide, ?_⟩
      conv => whnf
      by_cases e2 : v.k.tmod 3 = 0
      · rw [show decide (v.k.tmod 3 = 0) = true by simp [e2]]
        conv => whnf
        have hX : rowV d v = val0 := by unfold rowV; rw [if_pos ⟨e1, e2⟩]
        rw [hX] at hsnoc
        refine ⟨Nat.le_refl _, ?_⟩
        conv => whnf
        refine ⟨rfl, ?_⟩
        conv => whnf
        refine ⟨Nat.le_trans (Nat.mul_le_mul_right _ (by rw [List.length_append, List.length_take, List.drop_zero, hlen]; exact Nat.add_le_add (Nat.le_refl i) (Nat.min_le_left _ _))) (show (i + 1) * 32 ≤ 70368744177664 by omega), ?_⟩
        conv => whnf
        refine .go [0, 5] rfl (l.length - (i + 1)) (by omega) ⟨i + 1, ?_, ?_, by omega, rfl⟩
        · show [V.sl 3 (vals vs) f, V.ptr 0 0, V.ms 3 1 0 (vals (rowN l vs i) ++ [valC val0]).length false, V.int .i64 (IntKind.i64.wrap ((i : Int) + 1))] = _
          rw [hsnoc, wrapI (by omega)]; rfl
        · show [O.cells [.sl 3 (cols l) false, fI keys], O.buf (vals (rowN l vs i) ++ [valC val0])] = _
          rw [hsnoc]
      · rw [show decide (v.k.tmod 3 = 0) = false by simp [e2]]
        conv => whnf
        have hX : rowV d v = goodV ⟨d.k, v.n, v.t⟩ := by unfold rowV; rw [if_neg (by simp [e2])]
        rw [hX] at hsnoc
        refine .pure (VGood_spec (v := ⟨d.k, (v).n, (v).t⟩) hdk ⟨rfl, ?_⟩)
        conv => whnf
        refine ⟨Nat.le_refl _, ?_⟩
        conv => whnf
        refine ⟨rfl, ?_⟩
        conv => whnf
        refine ⟨Nat.le_trans (Nat.mul_le_mul_right _ (by rw [List.length_append, List.length_take, List.drop_zero, hlen]; exact Nat.add_le_add (Nat.le_refl i) (Nat.min_le_left _ _))) (show (i + 1) * 32 ≤ 70368744177664 by omega), ?_⟩
        conv => whnf
        refine .go [0, 5] rfl (l.length - (i + 1)) (by omega) ⟨i + 1, ?_, ?_, by omega, rfl⟩
        · show [V.sl 3 (vals vs) f, V.ptr 0 0, V.ms 3 1 0 (vals (rowN l vs i) ++ [valC (goodV ⟨d.k, (v).n, (v).t⟩)]).length false, V.int .i64 (IntKind.i64.wrap ((i : Int) + 1))] = _
          rw [hsnoc, wrapI (by omega)]; rfl
        · show [O.cells [.sl 3 (cols l) false, fI keys], O.buf (vals (rowN l vs i) ++ [valC (goodV ⟨d.k, (v).n, (v).t⟩)])] = _
          rw [hsnoc]
  focus
    have c2' := of_decide_eq_false c2
    have hv : vs.getD i val0 = val0 := by simp [List.getD, List.getElem?_eq_none (show vs.length ≤ i by omega)]
    rw [hv] at hsnoc
    refine ⟨_, ⟨by omega, cols_get hget⟩, ?_⟩
    conv => whnf
    cases e1 : d.o
    · conv => whnf
      have hX : rowV d val0 = goodV ⟨d.k, val0.n, val0.t⟩ := by unfold rowV; rw [if_neg (by simp [e1])]
      rw [hX] at hsnoc
      refine .pure (VGood_spec (v := ⟨d.k, (val0).n, (val0).t⟩) hdk ⟨rfl, ?_⟩)
      conv => whnf
      refine ⟨Nat.le_refl _, ?_⟩
      conv => whnf
      refine ⟨rfl, ?_⟩
      conv => whnf
      refine ⟨Nat.le_trans (Nat.mul_le_mul_right _ (by rw [List.length_append, List.length_take, List.drop_zero, hlen]; exact Nat.add_le_add (Nat.le_refl i) (Nat.min_le_left _ _))) (show (i + 1) * 32 ≤ 70368744177664 by omega), ?_⟩
      conv => whnf
      refine .go [0, 5] rfl (l.length - (i + 1)) (by omega) ⟨i + 1, ?_, ?_, by omega, rfl⟩
      · show [V.sl 3 (vals vs) f, V.ptr 0 0, V.ms 3 1 0 (vals (rowN l vs i) ++ [valC (goodV ⟨d.k, (val0).n, (val0).t⟩)]).length false, V.int .i64 (IntKind.i64.wrap ((i : Int) + 1))] = _
        rw [hsnoc, wrapI (by omega)]; rfl
      · show [O.cells [.sl 3 (cols l) false, fI keys], O.buf (vals (rowN l vs i) ++ [valC (goodV ⟨d.k, (val0).n, (val0).t⟩)])] = _
        rw [hsnoc]
    · conv => whnf
      refine ⟨by decide, ?_⟩
      conv => whnf
      have hX : rowV d val0 = val0 := by unfold rowV; rw [if_pos ⟨e1, rfl⟩]
      rw [hX] at hsnoc
      refine ⟨Nat.le_refl _, ?_⟩
      conv => whnf
      refine ⟨rfl, ?_⟩
      conv => whnf
      refine ⟨Nat.le_trans (Nat.mul_le_mul_right _ (by rw [List.length_append, List.length_take, List.drop_zero, hlen]; exact Nat.add_le_add (Nat.le_refl i) (Nat.min_le_left _ _))) (show (i + 1) * 32 ≤ 70368744177664 by omega), ?_⟩
      conv => whnf
      refine .go [0, 5] rfl (l.length - (i + 1)) (by omega) ⟨i + 1, ?_, ?_, by omega, rfl⟩
      · show [V.sl 3 (vals vs) f, V.ptr 0 0, V.ms 3 1 0 (vals (rowN l vs i) ++ [valC val0]).length false, V.int .i64 (IntKind.i64.wrap ((i : Int) + 1))] = _
        rw [hsnoc, wrapI (by omega)]; rfl
      · show [O.cells [.sl 3 (cols l) false, fI keys], O.buf (vals (rowN l vs i) ++ [valC val0])] = _
        rw [hsnoc]

end Go.Proofs.YtokifgdmddnpoaaDoorPg

/- Events: which are the same. -/
namespace Go.Proofs.YtokifgdmddnpoaaDoorPg
open Go Go.RowKit
set_option linter.unusedSimpArgs false
set_option linter.unusedVariables false

variable {Q : V → List O → Prop}

theorem qbE {b b' : Bool} {H : List O} (h : Q (.bool b) H) (e : b = b') : Q (.bool b') H := e ▸ h

set_option maxHeartbeats 4000000 in
theorem EqV_spec {l l2 : List Val} {f f2 : Bool} (hl : l.length < 9223372036854775808) (h : Q (.bool (decide (l = l2))) []) :
    ACall Tryd.prog 44 0 [.sl 3 (vals l) f, .sl 3 (vals l2) f2] [] Q := by
  refine by_body Tryd.func44 0 rfl (Nat.le_of_ble_eq_true rfl) ?_
  conv => whnf
  have h1 := vals_len l
  have h2 := vals_len l2
  refine branch_i (fun c => ?_) (fun c => ?_) <;> try rw [c] <;> conv => whnf
  focus
    have hne : l ≠ l2 := fun e => by subst e; simp at c
    rw [show decide (l = l2) = false by simp [hne]] at h
    exact ⟨[], rfl, h⟩
  have hlen : l.length = l2.length := by simp at c; omega
  clear c
  refine ⟨⟨[0, 1, 12, 13], fun m vs H => ∃ i : Nat, vs = [.sl 3 (vals l) f, .sl 3 (vals l2) f2, fI (vals l).length, fI i] ∧ H = [] ∧ l.take i = l2.take i ∧ i ≤ l.length ∧ m = l.length - i, .at _ ⟨0, rfl, rfl, rfl, Nat.zero_le _, rfl⟩, ?_⟩⟩
  rintro m vs H ⟨i, rfl, rfl, hn, hi, rfl⟩
  conv => whnf
  refine branch_i (fun c => ?_) (fun c => ?_) <;> try rw [c] <;> conv => whnf
  · have c' := of_decide_eq_true c
    have hlt : i < l.length := by omega
    have g1 : l[i]? = some l[i] := List.getElem?_eq_getElem hlt
    have g2 : l2[i]? = some l2[i] := List.getElem?_eq_getElem (by omega)
    generalize l[i] = d at *
    generalize l2[i] = d2 at *
    refine ⟨List.range 9, by kernel_rfl, by kernel_rfl, ?_⟩
    conv => whnf
    refine ⟨_, ⟨by omega, vals_get g1⟩, ?_⟩
    conv => whnf
    refine ⟨_, ⟨by omega, vals_get g2⟩, ?_⟩
    conv => whnf
    rw [val_eq]
    by_cases e : d = d2
    · rw [show decide (d = d2) = true by simp [e]]
      conv => whnf
      refine .go [] rfl (l.length - (i + 1)) (by omega) ⟨i + 1, ?_, rfl, ?_, by omega, rfl⟩
      · show [V.sl 3 (vals l) f, V.sl 3 (vals l2) f2, fI (vals l).length, V.int .i64 (IntKind.i64.wrap ((i : Int) + 1))] = _
        rw [show IntKind.i64.wrap ((i : Int) + 1) = ((i + 1 : Nat) : Int) by rw [IntKind.wrap_i64]; omega]
      · rw [List.take_add_one, List.take_add_one, hn, g1, g2, e]
    · rw [show decide (d = d2) = false by simp [e]]
      conv => whnf
      have hne : l ≠ l2 := fun e' => by subst e'; rw [g1] at g2; cases g2; exact e rfl
      rw [show decide (l = l2) = false by simp [hne]] at h
      exact ⟨[], rfl, h⟩
  · have c' := of_decide_eq_false c
    rw [List.take_of_length_le (by omega), List.take_of_length_le (by omega)] at hn
    rw [show decide (l = l2) = true by simp [hn]] at h
    exact ⟨[], rfl, h⟩

set_option maxHeartbeats 4000000 in
theorem evsame_spec {a b : Chg} (hl : a.c.length < 1000000) (h : Q (.bool (decide (a = b))) []) : ACall Tryd.prog 45 0 [chA a, chA b] [] Q := by
  refine by_body Tryd.func45 0 rfl (Nat.le_of_ble_eq_true rfl) ?_
  conv => whnf
  rw [← chg_eq] at h
  refine branch_i (fun c1 => ?_) (fun c1 => ?_) <;> rw [c1] at h <;> try rw [c1] <;> conv => whnf
  rotate_left
  focus exact ⟨[], rfl, qbE h rfl⟩
  refine branch_i (fun c2 => ?_) (fun c2 => ?_) <;> rw [c2] at h <;> try rw [c2] <;> conv => whnf
  rotate_left
  focus exact ⟨[], rfl, qbE h rfl⟩
  rw [col_eq]
  cases c3 : decide (a.col = b.col) <;> rw [c3] at h <;> conv => whnf
  focus exact ⟨[], rfl, qbE h rfl⟩
  refine .pure (Same_spec' (l := a.c) (k := a.ks) (l2 := b.c) (k2 := b.ks) hl ⟨rfl, ?_⟩)
  conv => whnf
  exact ⟨[], rfl, h⟩

set_option maxHeartbeats 4000000 in
theorem EvSame_spec {a b : Evt} (h1 : a.b.length < 9223372036854775808) (h2 : a.a.length < 9223372036854775808) (hl : a.ch.c.length < 1000000) (h : Q (.bool (decide (a = b))) []) : ACall Tryd.prog 21 0 [evA a, evA b] [] Q := by
  refine by_body Tryd.func21 0 rfl (Nat.le_of_ble_eq_true rfl) ?_
  conv => whnf
  rw [← evt_eq] at h
  refine branch_i (fun c1 => ?_) (fun c1 => ?_) <;> rw [c1] at h <;> try rw [c1] <;> conv => whnf
  rotate_left
  focus exact ⟨[], rfl, qbE h rfl⟩
  refine branch_i (fun c2 => ?_) (fun c2 => ?_) <;> rw [c2] at h <;> try rw [c2] <;> conv => whnf
  rotate_left
  focus exact ⟨[], rfl, qbE h rfl⟩
  refine branch_i (fun c3 => ?_) (fun c3 => ?_) <;> rw [c3] at h <;> try rw [c3] <;> conv => whnf
  rotate_left
  focus exact ⟨[], rfl, qbE h rfl⟩
  refine .pure (EqV_spec h1 ⟨rfl, ?_⟩)
  conv => whnf
  cases c4 : decide (a.b = b.b) <;> rw [c4] at h <;> conv => whnf
  focus exact ⟨[], rfl, qbE h rfl⟩
  refine .pure (EqV_spec h2 ⟨rfl, ?_⟩)
  conv => whnf
  cases c5 : decide (a.a = b.a) <;> rw [c5] at h <;> conv => whnf
  focus exact ⟨[], rfl, qbE h rfl⟩
  refine .pure (evsame_spec (a := a.ch) (b := b.ch) hl ⟨rfl, ?_⟩)
  conv => whnf
  exact ⟨[], rfl, h⟩

set_option maxHeartbeats 4000000 in
theorem Rchange_spec {a b : Chg} (hl : a.c.length < 1000000) (h : Q (.bool (decide (a = b))) []) : ACall Tryd.prog 40 0 [chA a, chA b] [] Q := by
  refine by_body Tryd.func40 0 rfl (Nat.le_of_ble_eq_true rfl) ?_
  conv => whnf
  rw [← chg_eq] at h
  refine .pure (RSame_spec (l := a.c) (k := a.ks) (l2 := b.c) (k2 := b.ks) hl ⟨rfl, ?_⟩)
  conv => whnf
  have hs : sameS a.c a.ks b.c b.ks = (decide (a.ks = b.ks) && decide (a.c = b.c)) := rfl
  cases c0 : sameS a.c a.ks b.c b.ks <;> rw [c0] at hs <;> rw [← hs] at h <;> conv => whnf
  focus exact ⟨[], rfl, qbE h (by simp)⟩
  refine branch_i (fun c1 => ?_) (fun c1 => ?_) <;> rw [c1] at h <;> try rw [c1] <;> conv => whnf
  rotate_left
  focus exact ⟨[], rfl, qbE h rfl⟩
  refine branch_i (fun c2 => ?_) (fun c2 => ?_) <;> rw [c2] at h <;> try rw [c2] <;> conv => whnf
  rotate_left
  focus exact ⟨[], rfl, qbE h rfl⟩
  rw [col_eq]
  exact ⟨[], rfl, qbE h (by simp)⟩

set_option maxHeartbeats 4000000 in
theorem EvRSame_spec {a b : Evt} (h1 : a.b.length < 9223372036854775808) (h2 : a.a.length < 9223372036854775808) (hl : a.ch.c.length < 1000000) (h : Q (.bool (decide (a = b))) []) : ACall Tryd.prog 22 0 [evA a, evA b] [] Q := by
  refine by_body Tryd.func22 0 rfl (Nat.le_of_ble_eq_true rfl) ?_
  conv => whnf
  rw [← evt_eq] at h
  refine .pure (Rchange_spec (a := a.ch) (b := b.ch) hl ⟨rfl, ?_⟩)
  conv => whnf
  refine .pure (VSame_spec h1 ⟨rfl, ?_⟩)
  conv => whnf
  refine .pure (VSame_spec h2 ⟨rfl, ?_⟩)
  conv => whnf
  cases c1 : decide (a.ch = b.ch) <;> rw [c1] at h <;> conv => whnf
  focus exact ⟨[], rfl, qbE h (by simp)⟩
  cases c2 : decide (a.b = b.b) <;> rw [c2] at h <;> conv => whnf
  focus exact ⟨[], rfl, qbE h (by simp)⟩
  cases c3 : decide (a.a = b.a) <;> rw [c3] at h <;> conv => whnf
  focus exact ⟨[], rfl, qbE h (by simp)⟩
  refine branch_i (fun c4 => ?_) (fun c4 => ?_) <;> rw [c4] at h <;> try rw [c4] <;> conv => whnf
  rotate_left
  focus exact ⟨[], rfl, qbE h (by simp)⟩
  refine branch_i (fun c5 => ?_) (fun c5 => ?_) <;> rw [c5] at h <;> try rw [c5] <;> conv => whnf
  rotate_left
  focus exact ⟨[], rfl, qbE h (by simp)⟩
  exact ⟨[], rfl, qbE h (by simp)⟩

theorem EvName_spec {s : List UInt8} (h : Q (.str (s.take 40)) []) : ACall Tryd.prog 10 0 [.str s] [] Q := by
  refine by_body Tryd.func10 0 rfl (Nat.le_of_ble_eq_true rfl) ?_
  conv => whnf
  refine branch_i (fun c => ?_) (fun c => ?_) <;> try rw [c] <;> conv => whnf
  · have c' := of_decide_eq_true c
    refine ⟨⟨by omega, by omega⟩, ?_⟩
    conv => whnf
    exact ⟨[], rfl, h⟩
  · have c' := of_decide_eq_false c
    rw [List.take_of_length_le (by omega)] at h
    exact ⟨[], rfl, h⟩

end Go.Proofs.YtokifgdmddnpoaaDoorPg

/- Events: changes cut short; numbers of kinds. -/
namespace Go.Proofs.YtokifgdmddnpoaaDoorPg
open Go Go.RowKit
set_option linter.unusedSimpArgs false
set_option linter.unusedVariables false

variable {Q : V → List O → Prop}

set_option maxHeartbeats 8000000 in
theorem EvCut_spec {c : Chg} (h : Q (chA (cutCh c)) []) : ACall Tryd.prog 17 0 [chA c] [] Q := by
  refine ACall.ret (by_body Tryd.func17 0 rfl (Nat.le_of_ble_eq_true rfl) ?_)
  conv => whnf
  refine .pure (EvName_spec ⟨rfl, ?_⟩)
  conv => whnf
  refine .pure (EvName_spec ⟨rfl, ?_⟩)
  conv => whnf
  have hlk := cols_len c.c
  refine ⟨⟨[1, 2, 3, 4], fun m vs H => ∃ i : Nat, vs = [.ptr 0 0, .ptr 1 0, .ms 3 2 0 (cols ((c.c.take i).map cutC)).length false, fI i] ∧
    H = [.cells [fI c.k, .str (c.t.take 40), .sl 3 (cols c.c) false, fI c.ks, .str (c.col.n.take 40), fI c.col.k, .bool c.col.o], .cells [fI 0, .str [], .nils, fI 0, .str [], fI 0, .bool false], .buf (cols ((c.c.take i).map cutC))] ∧ i ≤ c.c.length ∧ i ≤ 20 ∧ m = 20 - i,
    .frz 21 (.adopt (.sub _ _ (.cons (VSub.refl _) (.cons (VSub.refl _) (.cons (VSub.ms0 3 2 0 false) (VSubs.refl _)))) (HSub.refl _) (.go [0, 1, 2] rfl 20 (by omega) ⟨0, rfl, rfl, by omega, by omega, rfl⟩))), ?_⟩⟩
  rintro m vs H ⟨i, rfl, rfl, hi, hi2, rfl⟩
  conv => whnf
  refine branch_i (fun c1 => ?_) (fun c1 => ?_) <;> try rw [c1] <;> conv => whnf
  focus refine branch_i (fun c2 => ?_) (fun c2 => ?_) <;> try rw [c2] <;> conv => whnf
  focus
    have c' := of_decide_eq_true c1
    have c2' := of_decide_eq_true c2
    have hlt : i < c.c.length := by omega
    have hget : c.c[i]? = some c.c[i] := List.getElem?_eq_getElem hlt
    generalize c.c[i] = d at *
    have hsnoc : cols ((c.c.take (i + 1)).map cutC) = cols ((c.c.take i).map cutC) ++ [[V.str (d.n.take 40), V.int .i64 d.k, V.bool d.o]] := by
      rw [List.take_add_one, hget]
      simp [cols, cutC, colC]
    have hlen : (cols ((c.c.take i).map cutC)).length = i := by rw [cols_len, List.length_map, List.length_take]; omega
    refine ⟨_, ⟨by omega, cols_get hget⟩, ?_⟩
    conv => whnf
    refine .pure (EvName_spec ⟨rfl, ?_⟩)
    conv => whnf
    refine ⟨Nat.le_refl 1, ?_⟩
    refine app_gen rfl rfl rfl (Nat.le_trans (Nat.mul_le_mul_right _ (Nat.add_le_add (Nat.le_of_eq hlen) (show 1 ≤ 1 by omega))) (show (i + 1) * 32 ≤ 70368744177664 by omega)) ?_
    conv => whnf
    refine .go [0, 1, 5] rfl (20 - (i + 1)) (by omega) ⟨i + 1, ?_, ?_, by omega, by omega, rfl⟩
    · rw [hsnoc, List.length_append]
      show [V.ptr 0 0, V.ptr 1 0, V.ms 3 2 0 ((cols ((c.c.take i).map cutC)).length + 1) false, V.int .i64 (IntKind.i64.wrap ((i : Int) + 1))] = _
      rw [wrapE (by omega)]; rfl
    · rw [hsnoc]; rfl
  all_goals
    have he : (c.c.take i).map cutC = cutL c.c := by
      unfold cutL
      congr 1
      first
        | (have c' := of_decide_eq_false c1; rw [List.take_of_length_le (by omega), List.take_of_length_le (by omega)])
        | (have c' := of_decide_eq_false c2; rw [show i = 20 by omega])
    rw [he]
    refine ⟨[2], rfl, .frz 0 rfl (by repeat (first | exact trivial | refine And.intro (Nat.le_of_eq (Nat.zero_add _)) ?_)) (.done [] rfl ?_)⟩
    show Q (.agg [fI c.k, .str (c.t.take 40), .sl 3 (List.take (cols (cutL c.c)).length (cols (cutL c.c))) false, fI c.ks, .str (c.col.n.take 40), fI c.col.k, .bool c.col.o]) []
    rw [List.take_length]; exact h

def ints6 : List Int := [1, 2, 7, 8, 9, 10]
def numK (k : Int) : Bool := decide (k = 1) || (decide (k = 2) || (decide (k = 7) || (decide (k = 8) || (decide (k = 9) || decide (k = 10)))))

set_option maxHeartbeats 8000000 in
theorem Index6_spec {k : Int} (h1 : numK k = true → ∀ i : Nat, Q (fI i) []) (h0 : numK k = false → Q (fI (-1)) []) : ACall Tryd.prog 90 0 [.sl 1 (ints6.map fun n => [fI n]) true, fI k] [] Q := by
  refine by_body Tryd.func90 0 rfl (Nat.le_of_ble_eq_true rfl) ?_
  conv => whnf
  refine ⟨⟨[0, 1, 7, 8], fun m ws H => ∃ i : Nat, ws = [.sl 1 (ints6.map fun n => [fI n]) true, fI k, fI 6, fI i] ∧ H = [] ∧ i ≤ 6 ∧ (∀ j n, j < i → ints6[j]? = some n → n ≠ k) ∧ m = 6 - i,
    .at 6 ⟨0, rfl, rfl, by omega, fun j n hj => by omega, rfl⟩, ?_⟩⟩
  rintro m ws H ⟨i, rfl, rfl, hi, hn, rfl⟩
  have hmem : ∀ j n, ints6[j]? = some n → n = k → numK k = true := fun j n hj e => by
    subst e
    have : n ∈ ints6 := List.mem_of_getElem? hj
    simp only [ints6, List.mem_cons, List.not_mem_nil, or_false] at this
    unfold numK
    rcases this with h | h | h | h | h | h <;> subst h <;> decide
  conv => whnf
  refine branch_i (fun c => ?_) (fun c => ?_) <;> try rw [c] <;> conv => whnf
  · have c' := of_decide_eq_true c
    have hl6 : ints6.length = 6 := rfl
    have hg : ints6[i]? = some ints6[i] := List.getElem?_eq_getElem (by omega)
    generalize ints6[i] = n at *
    refine ⟨[fI n], ⟨by omega, (by
      show (ints6.map fun n => [fI n])[i]? = _
      rw [List.getElem?_map, hg]; rfl)⟩, ?_⟩
    conv => whnf
    refine branch_i (fun c2 => ?_) (fun c2 => ?_) <;> try rw [c2] <;> conv => whnf
    · exact ⟨[], rfl, h1 (hmem i n hg (of_decide_eq_true c2).symm) i⟩
    · refine .go [] rfl (6 - (i + 1)) (by omega) ⟨i + 1, ?_, rfl, by omega, fun j x hj hx => ?_, rfl⟩
      · show [V.sl 1 (ints6.map fun n => [fI n]) true, fI k, fI 6, V.int .i64 (IntKind.i64.wrap ((i : Int) + 1))] = _
        rw [wrapE (by omega)]; rfl
      · rcases Nat.lt_or_ge j i with h2 | h2
        · exact hn j x h2 hx
        · have : j = i := by omega
          subst this
          rw [hg] at hx; cases hx
          exact fun e => of_decide_eq_false c2 e.symm
  · have c' := of_decide_eq_false c
    have : i = 6 := by omega
    subst this
    have hf : numK k = false := by
      have g : ∀ j n, j < 6 → ints6[j]? = some n → decide (k = n) = false := fun j n hj hx => decide_eq_false fun e => hn j n hj hx e.symm
      unfold numK
      rw [g 0 1 (by omega) rfl, g 1 2 (by omega) rfl, g 2 7 (by omega) rfl, g 3 8 (by omega) rfl, g 4 9 (by omega) rfl, g 5 10 (by omega) rfl]; rfl
    exact ⟨[], rfl, h0 hf⟩

theorem Contains6_spec {k : Int} (h : Q (.bool (numK k)) []) : ACall Tryd.prog 70 0 [.sl 1 (ints6.map fun n => [fI n]) true, fI k] [] Q := by
  refine by_body Tryd.func70 0 rfl (Nat.le_of_ble_eq_true rfl) ?_
  conv => whnf
  refine .pure (Index6_spec (fun e i => ⟨rfl, ?_⟩) (fun e => ⟨rfl, ?_⟩))
  · conv => whnf
    rw [e] at h
    refine ⟨[], rfl, ?_⟩
    show Q (.bool (decide (0 ≤ (i : Int)))) []
    rw [decide_eq_true (by omega)]; exact h
  · conv => whnf
    rw [e] at h
    exact ⟨[], rfl, h⟩

theorem numbered_spec {k : Int} (h : Q (.bool (numK k)) []) : ACall Tryd.prog 39 0 [fI k] [] Q := by
  refine by_body Tryd.func39 0 rfl (Nat.le_of_ble_eq_true rfl) ?_
  conv => whnf
  refine .frz 0 rfl rfl (by repeat (first | exact trivial | refine And.intro (Nat.le_refl _) ?_)) (.pure (Contains6_spec ⟨rfl, ?_⟩))
  conv => whnf
  exact ⟨[], rfl, h⟩

def rowK (k : Int) : Bool := decide (k = 3) || (decide (k = 4) || decide (k = 5))

theorem rowed_spec {k : Int} (h : Q (.bool (rowK k)) []) : ACall Tryd.prog 36 0 [fI k] [] Q := by
  refine by_body Tryd.func36 0 rfl (Nat.le_of_ble_eq_true rfl) ?_
  conv => whnf
  unfold rowK at h
  refine branch_i (fun c1 => ?_) (fun c1 => ?_) <;> rw [c1] at h <;> try rw [c1] <;> conv => whnf
  focus exact ⟨[], rfl, h⟩
  refine branch_i (fun c2 => ?_) (fun c2 => ?_) <;> rw [c2] at h <;> try rw [c2] <;> conv => whnf
  focus exact ⟨[], rfl, h⟩
  exact ⟨[], rfl, h⟩

/-- the example's event -/
def ev7 : Evt := ⟨7, 5, [], [], [], chg0⟩

theorem ev7_sub : VSub (.agg [fI 7, fI 5, .str [], .nils, .nils, fI 0, .str [], .nils, fI 0, .str [], fI 0, .bool false]) (evA ev7) :=
  .agg (.cons (.refl _) (.cons (.refl _) (.cons (.refl _) (.cons (nils_sl3 false) (.cons (nils_sl3 false) (.cons (.refl _) (.cons (.refl _) (.cons (nils_sl3 false) (VSubs.refl _)))))))))

set_option maxHeartbeats 8000000 in
theorem May7_spec (h : Q (fI 0) []) : ACall Tryd.prog 19 0 [evA ev7, .sl 3 [] false] [] Q := by
  refine by_body Tryd.func19 0 rfl (Nat.le_of_ble_eq_true rfl) ?_
  conv => whnf
  refine .pure (rowed_spec ⟨rfl, ?_⟩)
  conv => whnf
  refine .pure (numbered_spec ⟨rfl, ?_⟩)
  conv => whnf
  refine .pure (ACall.args (.cons (.refl _) (.cons ev7_sub (VSubs.refl _))) (EvSame_spec (a := ev7) (b := ev7) (by simp [ev7]) (by simp [ev7]) (by simp [ev7, chg0]) ⟨rfl, ?_⟩))
  rw [decide_eq_true rfl]
  conv => whnf
  exact ⟨[], rfl, h⟩

end Go.Proofs.YtokifgdmddnpoaaDoorPg

/- Readers of bytes: the program's. -/
namespace Go.Proofs.YtokifgdmddnpoaaDoorPg
open Go Go.RowKit
set_option linter.unusedSimpArgs false
set_option linter.unusedVariables false

variable {Q : V → List O → Prop}

/-- a reader: what is left, the error -/
def rdO (s : List UInt8) (f : Bool) (e : Int) : O := .cells [.sl 1 (bs s) f, .int .i64 e]

theorem bs_take (s : List UInt8) (n : Nat) : List.take n (bs s) = bs (s.take n) := by simp [bs, List.map_take]
theorem bs_drop (s : List UInt8) (n : Nat) : List.drop n (bs s) = bs (s.drop n) := by simp [bs, List.map_drop]

theorem bs_drop_rd (s : List UInt8) (n : Nat) (f : Bool) (e : Int) : O.cells [.sl 1 (List.drop n (bs s)) f, .int .i64 e] = rdO (s.drop n) f e := by rw [bs_drop]; rfl

def digInv (s : List UInt8) (f : Bool) (m : Nat) (ws : List V) (H : List O) : Prop :=
  ∃ (i N : Nat) (q : List UInt8), ws = [.ptr 0 0, .int .u64 (N : Int), .sl 1 (bs s) f, fI i] ∧ H = [rdO q f 0] ∧ i ≤ 10 ∧ N < 128 ^ i ∧ digF (10 - i) i N q = digL s ∧ m = 10 - i

end Go.Proofs.YtokifgdmddnpoaaDoorPg

/- Readers of bytes: numbers, texts, bytes. -/
namespace Go.Proofs.YtokifgdmddnpoaaDoorPg
open Go Go.RowKit
set_option linter.unusedSimpArgs false
set_option linter.unusedVariables false

variable {Q : V → List O → Prop}

theorem wrapL {n : Int} (h : -9223372036854775808 ≤ n ∧ n ≤ 9223372036854775807) : IntKind.i64.wrap n = n := by rw [IntKind.wrap_i64]; omega

theorem wrapN {n : Nat} (h : n ≤ 9223372036854775807) : IntKind.i64.wrap (n : Int) = (n : Int) := by rw [IntKind.wrap_i64]; omega

def endE (s : List UInt8) (e : Int) : Int := if e = 0 ∧ s ≠ [] then 2 else e

end Go.Proofs.YtokifgdmddnpoaaDoorPg

/- Readers of bytes: the document's. -/
namespace Go.Proofs.YtokifgdmddnpoaaDoorPg
open Go Go.RowKit
set_option linter.unusedSimpArgs false
set_option linter.unusedVariables false

variable {Q : V → List O → Prop}

def rtInv (s : List UInt8) (f : Bool) (m : Nat) (ws : List V) (H : List O) : Prop :=
  ∃ (i N : Nat), ws = [.sl 1 (bs s) f, .int .u64 (N : Int), .int .u64 (IntKind.u64.wrap ((128 ^ i : Nat) : Int)), fI i] ∧ H = [] ∧ i ≤ 10 ∧ i ≤ s.length ∧ N < 128 ^ i ∧ digF (10 - i) i N (s.drop i) = digL s ∧ m = 10 - i

theorem pow_bd {i : Nat} (h : i ≤ 9) : 128 ^ i ≤ 9223372036854775808 := by
  obtain rfl | rfl | rfl | rfl | rfl | rfl | rfl | rfl | rfl | rfl : i = 0 ∨ i = 1 ∨ i = 2 ∨ i = 3 ∨ i = 4 ∨ i = 5 ∨ i = 6 ∨ i = 7 ∨ i = 8 ∨ i = 9 := by omega
  all_goals decide

theorem pow_bd8 {i : Nat} (h : i ≤ 8) : 128 ^ i ≤ 72057594037927936 := by
  obtain rfl | rfl | rfl | rfl | rfl | rfl | rfl | rfl | rfl : i = 0 ∨ i = 1 ∨ i = 2 ∨ i = 3 ∨ i = 4 ∨ i = 5 ∨ i = 6 ∨ i = 7 ∨ i = 8 := by omega
  all_goals decide

end Go.Proofs.YtokifgdmddnpoaaDoorPg

/- Writers of bytes: numbers and texts, the program's and the document's. -/
namespace Go.Proofs.YtokifgdmddnpoaaDoorPg
open Go Go.RowKit
set_option linter.unusedSimpArgs false
set_option linter.unusedVariables false

variable {Q : V → List O → Prop}

theorem bs_ne {l : List UInt8} (h : l ≠ []) : ∃ x r, bs l = x :: r := by
  cases l with
  | nil => exact absurd rfl h
  | cons b l => exact ⟨_, _, rfl⟩

theorem bs_snoc (l : List UInt8) (b : UInt8) : bs l ++ [[.int .u8 b.toNat]] = bs (l ++ [b]) := by rw [bs_app]; rfl

theorem own_spec {l : List UInt8} {f : Bool} (h : Q (.sl 1 (bs l) true) []) : ACall Tryd.prog 86 0 [.sl 1 (bs l) f] [] Q := by
  refine by_body Tryd.func86 0 rfl (Nat.le_of_ble_eq_true rfl) ?_
  conv => whnf
  refine ⟨⟨by omega, rfl, by omega⟩, ?_⟩
  conv => whnf
  refine ⟨[], rfl, ?_⟩
  show Q (.sl 1 (List.take ((bs l).length : Int).toNat (bs l)) true) []
  rw [Int.toNat_natCast, List.take_length]; exact h

/-- the byte of a digit that others follow -/
theorem hi7 (m : Nat) (h : m < 2 ^ 64) : IntKind.u8.wrap ↑(BitVec.ofInt IntKind.u8.bits (IntKind.u8.wrap (m : Int)) ||| BitVec.ofInt IntKind.u8.bits 128).toNat = (((UInt8.ofNat (m % 128 + 128)).toNat : Nat) : Int) := by
  have e0 : (UInt8.ofNat (m % 128 + 128)).toNat = m % 128 + 128 := ofNat_lt (by omega)
  have ew : ∀ n : Int, IntKind.u8.wrap n = n % 256 := fun n => by simp [IntKind.wrap, IntKind.bits, IntKind.signed]
  have e1 : (BitVec.ofInt 8 (IntKind.u8.wrap (m : Int))).toNat = m % 256 := by
    rw [BitVec.toNat_ofInt, ew]
    have : ((2 : Nat) ^ 8 : Nat) = 256 := by decide
    omega
  have e2 : (BitVec.ofInt 8 128).toNat = 128 := by decide
  have e3 : (BitVec.ofInt IntKind.u8.bits (IntKind.u8.wrap (m : Int)) ||| BitVec.ofInt IntKind.u8.bits 128).toNat = m % 128 + 128 := by
    show (BitVec.ofInt 8 (IntKind.u8.wrap (m : Int)) ||| BitVec.ofInt 8 128).toNat = _
    rw [BitVec.toNat_or, e1, e2]
    apply Nat.eq_of_testBit_eq
    intro i
    rw [show m % 128 + 128 = 2 ^ 7 * 1 + m % 128 by omega, Nat.testBit_or, Nat.testBit_two_pow_mul_add 1 (show m % 128 < 2 ^ 7 by omega)]
    rcases Nat.lt_or_ge i 7 with h7 | h7
    · rw [if_pos h7, show (128 : Nat) = 2 ^ 7 from rfl, Nat.testBit_two_pow, show (256 : Nat) = 2 ^ 8 from rfl, Nat.testBit_mod_two_pow, Nat.testBit_mod_two_pow]
      simp only [h7, show i < 8 by omega, decide_true, Bool.true_and, show ¬ (7 = i) by omega, decide_false, Bool.or_false]
    · rw [if_neg (by omega)]
      rcases Nat.eq_or_lt_of_le h7 with h8 | h8
      · subst h8
        rw [show (128 : Nat) = 2 ^ 7 from rfl, Nat.testBit_two_pow]
        simp
      · rw [show (128 : Nat) = 2 ^ 7 from rfl, Nat.testBit_two_pow, show (256 : Nat) = 2 ^ 8 from rfl, Nat.testBit_mod_two_pow]
        rw [show (1 : Nat) = 2 ^ 0 from rfl, Nat.testBit_two_pow]
        simp only [show ¬ (i < 8) by omega, decide_false, Bool.false_and, Bool.false_or]
        rw [decide_eq_false (by omega), decide_eq_false (by omega)]
  rw [e3, e0, ew]; omega

theorem lo7 (m : Nat) (h : m < 128) : IntKind.u8.wrap (m : Int) = (((UInt8.ofNat m).toNat : Nat) : Int) := by
  have e0 : (UInt8.ofNat m).toNat = m := ofNat_lt (by omega)
  have ew : ∀ n : Int, IntKind.u8.wrap n = n % 256 := fun n => by simp [IntKind.wrap, IntKind.bits, IntKind.signed]
  rw [e0, ew]; omega

theorem shr7 (m : Nat) : Int.fdiv (m : Int) (2 ^ min (7 : Int).toNat IntKind.u64.bits) = ((m / 128 : Nat) : Int) := by
  show Int.fdiv (m : Int) (2 ^ 7) = _
  rw [show ((2 : Int) ^ 7) = ((128 : Nat) : Int) from rfl, Int.fdiv_eq_ediv_of_nonneg _ (by omega)]
  rfl

def digInvW (l : List UInt8) (N : Nat) (m : Nat) (ws : List V) (H : List O) : Prop :=
  ∃ (out : List UInt8) (n f : Nat), m = f + 1 ∧ n < 128 ^ (f + 1) ∧ f ≤ 9 ∧ n < 2 ^ 64 ∧ out ++ digWF f n = l ++ digW N ∧ out.length ≤ l.length + 9 ∧
    ((ws = [.sl 1 (bs out) true, .int .u64 n] ∧ H = []) ∨ (ws = [.ms 1 0 0 out.length false, .int .u64 n] ∧ H = [.buf (bs out)]))

set_option maxRecDepth 8000 in
set_option maxHeartbeats 8000000 in
theorem digits_w {l : List UInt8} {N : Nat} (hN : N < 2 ^ 64) (hl : l.length ≤ 1099511627776) (h : Q (.ms 1 0 0 (l ++ digW N).length false) [.buf (bs (l ++ digW N))]) : ACall Tryd.prog 85 0 [.sl 1 (bs l) true, .int .u64 N] [] Q := by
  refine by_body Tryd.func85 0 rfl (Nat.le_of_ble_eq_true rfl) ?_
  conv => whnf
  refine ⟨⟨[0, 1], digInvW l N, .at 10 ⟨l, N, 9, rfl, ?_, by omega, hN, rfl, by omega, .inl ⟨rfl, rfl⟩⟩, ?_⟩⟩
  · exact Nat.lt_of_lt_of_le hN (by decide)
  rintro m ws H ⟨out, n, f, rfl, hn, hf, hn64, hout, hlen, hshape⟩
  have hlo := bs_len out
  have hd : n < 128 → digWF f n = [UInt8.ofNat n] := fun hlt => by
    cases f with
    | zero => rfl
    | succ f => rw [digWF, if_pos hlt]
  have ne1 : ∀ x : V, [[x]] ≠ ([] : List (List V)) := fun x => by simp
  rcases hshape with ⟨rfl, rfl⟩ | ⟨rfl, rfl⟩ <;> conv => whnf
  · refine branch_i (fun c => ?_) (fun c => ?_) <;> try rw [c] <;> conv => whnf
    · have c' := of_decide_eq_true c
      obtain ⟨g, rfl⟩ : ∃ g, f = g + 1 := by
        cases f with
        | zero => omega
        | succ g => exact ⟨g, rfl⟩
      have hdn : digWF (g + 1) n = UInt8.ofNat (n % 128 + 128) :: digWF g (n / 128) := by rw [digWF, if_neg (by omega)]
      rw [hdn] at hout
      rw [hi7 n hn64]
      have fin : ∀ (i : Nat) (ws : List V) (H : List O), ws = [.ms 1 1 0 (out ++ [UInt8.ofNat (n % 128 + 128)]).length false, .int .u64 (Int.fdiv (n : Int) (2 ^ min (7 : Int).toNat IntKind.u64.bits))] → (getO H 1 = .buf (bs (out ++ [UInt8.ofNat (n % 128 + 128)]))) → H.length = 2 → ANext 0 (g + 1 + 1) (digInvW l N) ws H := fun i ws H e1 e2 e3 => by
        subst e1
        refine .go [1] ?_ (g + 1) (by omega) ⟨out ++ [UInt8.ofNat (n % 128 + 128)], n / 128, g, rfl, ?_, by omega, by omega, ?_, ?_, .inr ⟨?_, ?_⟩⟩
        · rw [e3]; rfl
        · rw [Nat.pow_succ] at hn
          exact Nat.div_lt_of_lt_mul (by rw [Nat.mul_comm]; exact hn)
        · rw [← hout]; simp
        · have := congrArg List.length hout
          have h10 := digW_len N
          have := digWF_pos g (n / 128)
          simp only [List.length_append, List.length_cons, List.length_nil] at *
          omega
        · rw [shr7]; rfl
        · simp only [gather, e2]; rfl
      have hcases : out = [] ∨ out ≠ [] := by cases out <;> simp
      rcases hcases with rfl | hne
      · refine ⟨Nat.le_refl 1, ?_⟩
        conv => whnf
        refine ⟨(show 1 * 1 ≤ 70368744177664 by decide), ?_⟩
        conv => whnf
        refine ⟨(show (0 : Int) ≤ 7 by decide), ?_⟩
        conv => whnf
        exact fin 1 _ [_, _] rfl rfl rfl
      · obtain ⟨x, r, hx⟩ := bs_ne hne
        refine ⟨Nat.le_refl 1, ?_⟩
        rw [hx]
        conv => whnf
        rw [← hx]
        refine ⟨fun e => absurd e (ne1 _), fun _ => ?_⟩
        conv => whnf
        refine ⟨(show (bs out ++ [[V.int .u8 ((UInt8.ofNat (n % 128 + 128)).toNat : Int)]]).length * 1 ≤ 70368744177664 by rw [List.length_append, hlo]; simp only [List.length_cons, List.length_nil]; omega), ?_⟩
        conv => whnf
        refine ⟨(show (0 : Int) ≤ 7 by decide), ?_⟩
        conv => whnf
        refine fin 1 _ _ ?_ ?_ rfl
        · show [V.ms 1 1 0 (bs out ++ [[V.int .u8 ((UInt8.ofNat (n % 128 + 128)).toNat : Int)]]).length false, .int .u64 (Int.fdiv (n : Int) (2 ^ min (7 : Int).toNat IntKind.u64.bits))] = _
          rw [bs_snoc, bs_len]
        · show O.buf (bs out ++ [[V.int .u8 ((UInt8.ofNat (n % 128 + 128)).toNat : Int)]]) = _
          rw [bs_snoc]
    · have c' := of_decide_eq_false c
      rw [hd (by omega)] at hout
      rw [lo7 n (by omega)]
      have hcases : out = [] ∨ out ≠ [] := by cases out <;> simp
      rcases hcases with rfl | hne
      · refine ⟨Nat.le_refl 1, ?_⟩
        conv => whnf
        refine ⟨(show 1 * 1 ≤ 70368744177664 by decide), ?_⟩
        conv => whnf
        rw [← hout] at h
        exact ⟨[1], rfl, h⟩
      · obtain ⟨x, r, hx⟩ := bs_ne hne
        refine ⟨Nat.le_refl 1, ?_⟩
        rw [hx]
        conv => whnf
        rw [← hx]
        refine ⟨fun e => absurd e (ne1 _), fun _ => ?_⟩
        conv => whnf
        refine ⟨(show (bs out ++ [[V.int .u8 ((UInt8.ofNat n).toNat : Int)]]).length * 1 ≤ 70368744177664 by rw [List.length_append, hlo]; simp only [List.length_cons, List.length_nil]; omega), ?_⟩
        conv => whnf
        rw [← hout, ← bs_len, ← bs_snoc] at h
        exact ⟨[1], rfl, h⟩
  · refine branch_i (fun c => ?_) (fun c => ?_) <;> try rw [c] <;> conv => whnf
    · have c' := of_decide_eq_true c
      obtain ⟨g, rfl⟩ : ∃ g, f = g + 1 := by
        cases f with
        | zero => omega
        | succ g => exact ⟨g, rfl⟩
      have hdn : digWF (g + 1) n = UInt8.ofNat (n % 128 + 128) :: digWF g (n / 128) := by rw [digWF, if_neg (by omega)]
      rw [hdn] at hout
      rw [hi7 n hn64]
      refine ⟨Nat.le_refl 1, ?_⟩
      conv => whnf
      refine ⟨by rw [hlo]; rfl, (show (List.drop 0 (bs out) ++ [[V.int .u8 ((UInt8.ofNat (n % 128 + 128)).toNat : Int)]]).length * 1 ≤ 70368744177664 by rw [List.length_append, List.drop_zero, hlo]; simp only [List.length_cons, List.length_nil]; omega), ?_⟩
      conv => whnf
      refine ⟨(show (0 : Int) ≤ 7 by decide), ?_⟩
      conv => whnf
      refine .go [2] rfl (g + 1) (by omega) ⟨out ++ [UInt8.ofNat (n % 128 + 128)], n / 128, g, rfl, ?_, by omega, by omega, ?_, ?_, .inr ⟨?_, ?_⟩⟩
      · rw [Nat.pow_succ] at hn
        exact Nat.div_lt_of_lt_mul (by rw [Nat.mul_comm]; exact hn)
      · rw [← hout]; simp
      · have := congrArg List.length hout
        have h10 := digW_len N
        have := digWF_pos g (n / 128)
        simp only [List.length_append, List.length_cons, List.length_nil] at *
        omega
      · show [V.ms 1 0 0 (List.drop 0 (bs out) ++ [[V.int .u8 ((UInt8.ofNat (n % 128 + 128)).toNat : Int)]]).length false, .int .u64 (Int.fdiv (n : Int) (2 ^ min (7 : Int).toNat IntKind.u64.bits))] = _
        rw [shr7, List.drop_zero, bs_snoc, bs_len]
      · show [O.buf (List.drop 0 (bs out) ++ [[V.int .u8 ((UInt8.ofNat (n % 128 + 128)).toNat : Int)]])] = _
        rw [List.drop_zero, bs_snoc]
    · have c' := of_decide_eq_false c
      rw [hd (by omega)] at hout
      rw [lo7 n (by omega)]
      refine ⟨Nat.le_refl 1, ?_⟩
      conv => whnf
      refine ⟨by rw [hlo]; rfl, (show (List.drop 0 (bs out) ++ [[V.int .u8 ((UInt8.ofNat n).toNat : Int)]]).length * 1 ≤ 70368744177664 by rw [List.length_append, List.drop_zero, hlo]; simp only [List.length_cons, List.length_nil]; omega), ?_⟩
      conv => whnf
      rw [← hout, ← bs_len, ← bs_snoc] at h
      exact ⟨[2], rfl, h⟩

end Go.Proofs.YtokifgdmddnpoaaDoorPg

/- Writers of bytes: numbers and texts whole. -/
namespace Go.Proofs.YtokifgdmddnpoaaDoorPg
open Go Go.RowKit
set_option linter.unusedSimpArgs false
set_option linter.unusedVariables false

variable {Q : V → List O → Prop}

theorem u64_of {n : Int} (h0 : 0 ≤ n) (h1 : n ≤ 9223372036854775807) : IntKind.u64.wrap n = ((n.toNat : Nat) : Int) := by rw [wrap_u64]; omega

theorem WNumber_spec {l : List UInt8} {f : Bool} {n : Int} (h0 : 0 ≤ n) (h1 : n ≤ 9223372036854775807) (hl : l.length ≤ 1099511627776) (h : Q (.ms 1 0 0 (l ++ numW n).length false) [.buf (bs (l ++ numW n))]) :
    ACall Tryd.prog 65 0 [.sl 1 (bs l) f, .int .i64 n] [] Q := by
  refine by_body Tryd.func65 0 rfl (Nat.le_of_ble_eq_true rfl) ?_
  conv => whnf
  refine .pure (own_spec ⟨rfl, ?_⟩)
  conv => whnf
  rw [u64_of h0 h1]
  refine .call [] 0 ⟨rfl, rfl, rfl⟩ (digits_w (N := n.toNat) (by omega) hl ?_)
  conv => whnf
  exact ⟨[0], rfl, h⟩

theorem WText_spec {l s : List UInt8} {f : Bool} (hs : s.length ≤ 1099511627776) (hl : l.length ≤ 1099511627776) (h : Q (.ms 1 0 0 (l ++ txtW s).length false) [.buf (bs (l ++ txtW s))]) :
    ACall Tryd.prog 63 0 [.sl 1 (bs l) f, .str s] [] Q := by
  refine by_body Tryd.func63 0 rfl (Nat.le_of_ble_eq_true rfl) ?_
  conv => whnf
  refine .call [] 0 ⟨rfl, rfl, rfl⟩ (WNumber_spec (n := (s.length : Int)) (by omega) (by omega) hl ?_)
  conv => whnf
  have hd := digW_len s.length
  have e : bs (l ++ numW (s.length : Int)) ++ bs s = bs (l ++ txtW s) := by
    rw [← bs_app, List.append_assoc]; rfl
  refine ⟨by rw [bs_len]; rfl, (show (List.drop 0 (bs (l ++ numW (s.length : Int))) ++ bs s).length * 1 ≤ 70368744177664 by
    rw [List.drop_zero, e, bs_len]
    unfold txtW
    simp only [List.length_append]; omega), ?_⟩
  conv => whnf
  refine ⟨[1], rfl, ?_⟩
  show Q (.ms 1 0 0 (List.drop 0 (bs (l ++ numW (s.length : Int))) ++ bs s).length false) [.buf (List.drop 0 (bs (l ++ numW (s.length : Int))) ++ bs s)]
  rw [List.drop_zero, e, bs_len]
  exact h

def rdigInv (N : Nat) (m : Nat) (ws : List V) (H : List O) : Prop :=
  ∃ (out : List UInt8) (n f : Nat), m = f + 1 ∧ n < 128 ^ (f + 1) ∧ f ≤ 9 ∧ n < 2 ^ 64 ∧ out ++ digWF f n = digW N ∧ out.length ≤ 9 ∧
    ((out = [] ∧ ws = [.int .u64 n, .nils] ∧ H = []) ∨ (ws = [.int .u64 n, .ms 1 0 0 out.length false] ∧ H = [.buf (bs out)]))

theorem tdiv128 (n : Nat) (h : n < 2 ^ 64) : IntKind.u64.wrap (Int.tdiv (n : Int) 128) = ((n / 128 : Nat) : Int) := by
  rw [show Int.tdiv (n : Int) 128 = ((n / 128 : Nat) : Int) from rfl, wrap_u64]; omega

theorem tmod128 (n : Nat) : IntKind.u8.wrap (Int.tmod (n : Int) 128) = ((n % 128 : Nat) : Int) := by
  have ew : ∀ n : Int, IntKind.u8.wrap n = n % 256 := fun n => by simp [IntKind.wrap, IntKind.bits, IntKind.signed]
  rw [show Int.tmod (n : Int) 128 = ((n % 128 : Nat) : Int) from rfl, ew]; omega

theorem add128 (n : Nat) : IntKind.u8.wrap (((n % 128 : Nat) : Int) + 128) = (((UInt8.ofNat (n % 128 + 128)).toNat : Nat) : Int) := by
  have ew : ∀ n : Int, IntKind.u8.wrap n = n % 256 := fun n => by simp [IntKind.wrap, IntKind.bits, IntKind.signed]
  rw [ew, ofNat_lt (by omega)]; omega

/-- Bytes put behind bytes. -/
theorem app_bs {i j n m : Nat} {f : Bool} {X Y : List UInt8} {H : List O} {K : V → List O → Prop} (hij : Nat.beq i j = false) (hX : getO H i = .buf (bs X)) (hY : getO H j = .buf (bs Y)) (hn : n = X.length) (hm : m = Y.length) (hs : X.length + Y.length ≤ 70368744177664)
    (hK : copyH (setO H i .dead ++ [.buf (bs (X ++ Y))]) fun H' => K (.ms 1 (setO H i .dead).length 0 (X ++ Y).length false) H') :
    0 + m ≤ (bs Y).length ∧ aapp 1 1 (.ms 1 i 0 n false) (.ms 1 j 0 m f) (List.take m (List.drop 0 (bs Y))) H K := by
  subst hn hm
  refine ⟨by rw [bs_len]; omega, ?_⟩
  unfold aapp sameBuf
  simp only [hij]
  unfold aappend
  simp only [show Nat.beq 1 1 = true from rfl, hX]
  refine ⟨by rw [bs_len]; rfl, ?_⟩
  have e : List.drop 0 (bs X) ++ List.take Y.length (List.drop 0 (bs Y)) = bs (X ++ Y) := by
    rw [List.drop_zero, List.drop_zero, bs_app, ← bs_len Y, List.take_length]
  rw [e]
  refine ⟨by rw [bs_len, List.length_append]; omega, ?_⟩
  rw [bs_len]
  exact hK

theorem app_str {i n : Nat} {X s : List UInt8} {H : List O} {K : V → List O → Prop} (hX : getO H i = .buf (bs X)) (hn : n = X.length) (hs : X.length + s.length ≤ 70368744177664)
    (hK : copyH (setO H i .dead ++ [.buf (bs (X ++ s))]) fun H' => K (.ms 1 (setO H i .dead).length 0 (X ++ s).length false) H') :
    aapp 1 1 (.ms 1 i 0 n false) (.str s) (bs s) H K := by
  subst hn
  unfold aapp sameBuf
  simp only
  unfold aappend
  simp only [show Nat.beq 1 1 = true from rfl, hX]
  refine ⟨by rw [bs_len]; rfl, ?_⟩
  have e : List.drop 0 (bs X) ++ bs s = bs (X ++ s) := by
    rw [List.drop_zero, bs_app]
  rw [e]
  refine ⟨by rw [bs_len, List.length_append]; omega, ?_⟩
  rw [bs_len]
  exact hK

theorem numW_len (n : Int) : (numW n).length ≤ 10 := digW_len _

end Go.Proofs.YtokifgdmddnpoaaDoorPg
