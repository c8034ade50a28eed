/- Own texts, laid together: Pg13DNames, Pg13DSch, Pg13DSchB, Pg13DSchC, Pg13DSchD, Pg13DSchE, Pg13DSchH, Pg13DValC, Pg13DValD, Pg13DSchF, Pg13DSchG, Pg13DSchI, Pg13DSchJ, Pg13DValE. -/
import Derived.Test.YtgikkoeckdhgkaaDoorPgM17
import Derived.Lib.Bytealg
import Derived.Laws.BitsLemmas
import Derived.Test.YtgikkoeckdhgkaaDoorPgM12
import Derived.Test.YtgikkoeckdhgkaaDoorPgM13
/- The library's searches, and the names of a schema. -/
namespace Go.Proofs.YtgikkoeckdhgkaaDoorPg
open Go Go.RowKit
set_option linter.unusedSimpArgs false
set_option linter.unusedVariables false

variable {Q : V → List O → Prop}

theorem IdxByteStr_ext {H : List O} (s : List UInt8) (c : Int) : AExt Tryd.prog 95 [.str s, .int .u8 c] H (.int .i64 (Lib.indexByte s c.toNat.toUInt8)) := ⟨fun I ρ w us _ h => by
  obtain ⟨u0, l0, e0, h0, h⟩ := h.cons_inv
  obtain ⟨u1, l1, e1, h1, h⟩ := h.cons_inv
  have e2 : l1 = [] := List.eq_nil_of_length_eq_zero h.1.symm
  obtain ⟨b, hb, rfl⟩ := vr_str h0
  have := vr_int h1
  subst this
  have eu : us = #[Value.string b, Value.int .u8 c] := by
    apply Array.ext'
    rw [e0, e1, e2]
  subst eu
  refine ⟨_, ?_, .int _ _ _⟩
  rw [run_callFunc_extern Tryd.func95 (by kernel_rfl) (by kernel_rfl) (by kernel_rfl) (e := Extern.BytealgIndexByte.indexByte) (by kernel_rfl), Lib.run_indexByteString, hb]
  rfl⟩

theorem IndexByteL_spec {s : List UInt8} {c : Int} (h : Q (.int .i64 (Lib.indexByte s c.toNat.toUInt8)) []) : ACall Tryd.prog 92 0 [.str s, .int .u8 c] [] Q := by
  refine by_body Tryd.func92 0 rfl (Nat.le_of_ble_eq_true rfl) ?_
  conv => whnf
  refine ⟨_, IdxByteStr_ext s c, ?_⟩
  conv => whnf
  exact ⟨[], rfl, h⟩

theorem IndexByte_spec {s : List UInt8} {c : Int} (h : Q (.int .i64 (Lib.indexByte s c.toNat.toUInt8)) []) : ACall Tryd.prog 83 0 [.str s, .int .u8 c] [] Q := by
  refine by_body Tryd.func83 0 rfl (Nat.le_of_ble_eq_true rfl) ?_
  conv => whnf
  refine .call [] 0 ⟨rfl, rfl, rfl⟩ (IndexByteL_spec ?_)
  conv => whnf
  exact ⟨[], rfl, h⟩

theorem ValidRune_spec {r : Int} (h : ∀ b, Utf8.valid r = b → Q (.bool b) []) : ACall Tryd.prog 84 0 [.int .i32 r] [] Q := by
  refine by_body Tryd.func84 0 rfl (Nat.le_of_ble_eq_true rfl) ?_
  conv => whnf
  refine branch_i (fun c => ?_) (fun c => ?_) <;> try rw [c] <;> conv => whnf
  all_goals try (refine branch_i (fun c => ?_) (fun c => ?_) <;> try rw [c] <;> conv => whnf)
  all_goals try (refine branch_i (fun c => ?_) (fun c => ?_) <;> try rw [c] <;> conv => whnf)
  all_goals try (refine branch_i (fun c => ?_) (fun c => ?_) <;> try rw [c] <;> conv => whnf)
  all_goals simp only [decide_eq_true_eq, decide_eq_false_iff_not] at *
  all_goals first
    | exact ⟨[], rfl, h true (by simp [Utf8.valid]; omega)⟩
    | exact ⟨[], rfl, h false (by simp [Utf8.valid]; omega)⟩

theorem StrIndex_one {s : List UInt8} {b : UInt8} (hs : s.length ≠ 1) (h : Q (.int .i64 (Lib.indexByte s b)) []) : ACall Tryd.prog 87 0 [.str s, .str [b]] [] Q := by
  refine by_body Tryd.func87 0 rfl (Nat.le_of_ble_eq_true rfl) ?_
  conv => whnf
  refine branch_i (fun c => ?_) (fun c => ?_) <;> try rw [c] <;> conv => whnf
  · exfalso
    simp at c
    rw [← c] at hs
    simp at hs
  · refine ⟨b, ⟨by decide, rfl⟩, ?_⟩
    conv => whnf
    refine .call [] 0 ⟨rfl, rfl, rfl⟩ (IndexByteL_spec ?_)
    conv => whnf
    exact ⟨[], rfl, by rw [show ((b.toNat : Int).toNat.toUInt8) = b by simp]; exact h⟩

theorem Index_one {s : List UInt8} {b : UInt8} (hs : s.length ≠ 1) (h : Q (.int .i64 (Lib.indexByte s b)) []) : ACall Tryd.prog 74 0 [.str s, .str [b]] [] Q := by
  refine by_body Tryd.func74 0 rfl (Nat.le_of_ble_eq_true rfl) ?_
  conv => whnf
  refine .call [] 0 ⟨rfl, rfl, rfl⟩ (StrIndex_one hs ?_)
  conv => whnf
  exact ⟨[], rfl, h⟩

theorem Contains_one {s : List UInt8} {b : UInt8} (hs : s.length ≠ 1) (h : Q (.bool (decide (0 ≤ Lib.indexByte s b))) []) : ACall Tryd.prog 57 0 [.str s, .str [b]] [] Q := by
  refine by_body Tryd.func57 0 rfl (Nat.le_of_ble_eq_true rfl) ?_
  conv => whnf
  refine .call [] 0 ⟨rfl, rfl, rfl⟩ (Index_one hs ?_)
  conv => whnf
  exact ⟨[], rfl, h⟩

theorem indexByte_none : ∀ (s : List UInt8) (c : UInt8), (∀ b ∈ s, b ≠ c) → Lib.indexByte s c = -1
  | [], c, _ => rfl
  | b :: l, c, h => by
    unfold Lib.indexByte
    have : (b == c) = false := by simpa using h b (by simp)
    rw [this, indexByte_none l c fun x hx => h x (by simp [hx])]
    rfl

theorem decL_ascii {b : UInt8} {r : List UInt8} (h : b.toNat < 128) : decL (b :: r) = (b.toNat, 1) := by
  simp [decL, h]

theorem drop_facts {α : Type} {s : List α} {pos : Nat} {b : α} {l : List α} (h : s.drop pos = b :: l) : b ∈ s ∧ pos < s.length ∧ s.drop (pos + 1) = l ∧ s = s.take pos ++ b :: l := by
  have hb : b ∈ s.drop pos := by rw [h]; simp
  refine ⟨List.mem_of_mem_drop hb, ?_, ?_, ?_⟩
  · rcases Nat.lt_or_ge pos s.length with h' | h'
    · exact h'
    · rw [List.drop_eq_nil_iff.2 h'] at h; cases h
  · rw [← List.drop_drop, h]; rfl
  · rw [← h, List.take_append_drop]

theorem last_byte {r : Int} (hv : Utf8.valid r = true) (h : ¬ (0 ≤ r ∧ r < 128)) : ∃ c, (Utf8.encode r).data.toList[(Utf8.encode r).data.toList.length - 1]? = some c ∧ 128 ≤ c.toNat ∧ 2 ≤ (Utf8.encode r).data.toList.length ∧ (Utf8.encode r).data.toList.length ≤ 4 := by
  have h0 : 0 ≤ r := by simp [Utf8.valid] at hv; omega
  obtain ⟨g1, g2, g3⟩ := encode_facts r hv (by omega)
  generalize Utf8.encode r = ba at *
  have hsz : ba.data.toList.length = ba.size := by rw [Array.length_toList]; rfl
  have hlt : ba.size - 1 < ba.size := by omega
  refine ⟨ba[ba.size - 1], ?_, g3 hlt, by omega, by omega⟩
  rw [hsz, Array.getElem?_toList]
  exact Array.getElem?_eq_getElem hlt

theorem wrap_i64 {x : Int} (h0 : -9223372036854775808 ≤ x) (h1 : x < 9223372036854775808) : IntKind.i64.wrap x = x := by
  rw [IntKind.wrap_i64]; omega

/-- strings.IndexRune over a text of ASCII. -/
theorem IndexRune_ascii {s : List UInt8} (hs : ∀ b ∈ s, b.toNat < 128) {r : Int} (h0 : 0 ≤ r ∧ r < 128 → Q (.int .i64 (Lib.indexByte s (IntKind.u8.wrap r).toNat.toUInt8)) []) (h1 : ¬ (0 ≤ r ∧ r < 128) → Q (.int .i64 (-1)) []) : ACall Tryd.prog 73 0 [.str s, .int .i32 r] [] Q := by
  refine by_body Tryd.func73 0 rfl (Nat.le_of_ble_eq_true rfl) ?_
  conv => whnf
  refine branch_i (fun c => ?_) (fun c => ?_) <;> try rw [c] <;> conv => whnf
  focus refine branch_i (fun c2 => ?_) (fun c2 => ?_) <;> try rw [c2] <;> conv => whnf
  focus
    refine .call [] 0 ⟨rfl, rfl, rfl⟩ (IndexByte_spec ?_)
    conv => whnf
    exact ⟨[], rfl, h0 ⟨of_decide_eq_true c, of_decide_eq_true c2⟩⟩
  all_goals
    have hr : ¬ (0 ≤ r ∧ r < 128) := by intro h; simp at *; omega
    replace h1 := h1 hr
    clear h0
    refine branch_i (fun c => ?_) (fun c => ?_) <;> try rw [c] <;> conv => whnf
    · refine ⟨⟨[175], fun n vs H => vs = [.ptr 0 0] ∧ ∃ pos, H = [.iter s pos] ∧ n = s.length - pos, .at (s.length - 0) ⟨rfl, 0, rfl, rfl⟩, ?_⟩⟩
      rintro n vs H ⟨rfl, pos, rfl, rfl⟩
      conv => whnf
      refine ⟨fun hd => ?_, fun b l hd => ?_⟩
      · conv => whnf
        exact ⟨[], rfl, h1⟩
      · obtain ⟨d1, d2, d3, d4⟩ := drop_facts hd
        rw [decL_ascii (hs b d1)]
        conv => whnf
        refine branch_i (fun c => ?_) (fun c => ?_) <;> try rw [c] <;> conv => whnf
        · have := of_decide_eq_true c
          have := hs b d1
          simp at *
          omega
        · refine .go [0] rfl (s.length - (pos + 1)) (by omega) ⟨rfl, pos + 1, rfl, rfl⟩
    · refine .call [] 0 ⟨rfl, rfl, rfl⟩ (ValidRune_spec fun v hv => ?_)
      conv => whnf
      refine branch_i (fun c => ?_) (fun c => ?_) <;> try rw [c] <;> conv => whnf
      · exact ⟨[], rfl, h1⟩
      · have hv' : v = true := by simpa using c
        subst hv'
        obtain ⟨c, l1, l2, l3, l4⟩ := last_byte hv hr
        generalize (Utf8.encode r).data.toList = rs at *
        have hw : IntKind.i64.wrap ((rs.length : Int) - 1) = (rs.length : Int) - 1 := wrap_i64 (by omega) (by omega)
        refine ⟨⟨[0, 7, 8, 9], fun n vs H => H = [] ∧ vs = [.str s, .str rs, .int .i64 ((rs.length : Int) - 1), .int .i64 ((rs.length : Int) - 1)], .at 0 ⟨rfl, ?_⟩, ?_⟩⟩
        · show [V.str s, V.str rs, V.int .i64 (IntKind.i64.wrap ((rs.length : Int) - 1)), V.int .i64 (IntKind.i64.wrap ((rs.length : Int) - 1))] = _
          rw [hw]
        rintro n vs H ⟨rfl, rfl⟩
        conv => whnf
        refine branch_i (fun c3 => ?_) (fun c3 => ?_) <;> try rw [c3] <;> conv => whnf
        · have hlt : rs.length - 1 < s.length := by simp at c3; omega
          have ht : ((rs.length : Int) - 1).toNat = rs.length - 1 := by omega
          have hsb : s[rs.length - 1]? = some (s[rs.length - 1]) := List.getElem?_eq_getElem hlt
          have hb := hs _ (List.getElem_mem hlt)
          generalize s[rs.length - 1] = b at *
          refine ⟨List.range 7, by kernel_rfl, by kernel_rfl, ?_⟩
          conv => whnf
          refine ⟨b, ⟨by omega, by rw [ht]; exact hsb⟩, ?_⟩
          conv => whnf
          refine ⟨c, ⟨by omega, by rw [ht]; exact l1⟩, ?_⟩
          conv => whnf
          refine branch_i (fun c4 => ?_) (fun c4 => ?_) <;> try rw [c4] <;> conv => whnf
          · refine ⟨List.range 9, by kernel_rfl, by kernel_rfl, ?_⟩
            conv => whnf
            have hw2 : IntKind.i64.wrap ((rs.length : Int) - 1 + 1) = (rs.length : Int) := by rw [wrap_i64 (by omega) (by omega)]; omega
            refine ⟨?_, ?_⟩
            · simp only [hw2]; omega
            conv => whnf
            refine ⟨c, ⟨by omega, by rw [ht]; exact l1⟩, ?_⟩
            conv => whnf
            refine .call [] 0 ⟨rfl, rfl, rfl⟩ (IndexByte_spec ?_)
            rw [indexByte_none _ _ (fun x hx => ?_)]
            · conv => whnf
              exact ⟨[], rfl, h1⟩
            · have := hs x (List.mem_of_mem_drop hx)
              intro e
              rw [e] at this
              simp at this
              omega
          · exfalso
            simp at c4
            omega
        · exact ⟨[], rfl, h1⟩

theorem ContainsRune_ascii {s : List UInt8} (hs : ∀ b ∈ s, b.toNat < 128) {r : Int} (h0 : 0 ≤ r ∧ r < 128 → Q (.bool (decide (0 ≤ Lib.indexByte s (IntKind.u8.wrap r).toNat.toUInt8))) []) (h1 : ¬ (0 ≤ r ∧ r < 128) → Q (.bool false) []) : ACall Tryd.prog 56 0 [.str s, .int .i32 r] [] Q := by
  refine by_body Tryd.func56 0 rfl (Nat.le_of_ble_eq_true rfl) ?_
  conv => whnf
  refine .call [] 0 ⟨rfl, rfl, rfl⟩ (IndexRune_ascii hs (fun c => ?_) (fun c => ?_))
  · conv => whnf
    exact ⟨[], rfl, h0 c⟩
  · conv => whnf
    exact ⟨[], rfl, h1 c⟩

/-- the letters, digits and the underline -/
def set37 : List UInt8 := [97, 98, 99, 100, 101, 102, 103, 104, 105, 106, 107, 108, 109, 110, 111, 112, 113, 114, 115, 116, 117, 118, 119, 120, 121, 122, 48, 49, 50, 51, 52, 53, 54, 55, 56, 57, 95]
def set26 : List UInt8 := set37.take 26

def okByte (b : UInt8) : Bool := decide (0 ≤ Lib.indexByte set37 b)
def okHead (b : UInt8) : Bool := decide (0 ≤ Lib.indexByte set26 b)

def nameOk (s : List UInt8) : Bool :=
  s.all okByte && (decide (s.length ≤ 32) && match s with
    | [] => false
    | b :: _ => okHead b)

theorem set37_ascii : ∀ b ∈ set37, b.toNat < 128 := by decide

/-- A code point that begins with a byte beyond ASCII is beyond ASCII. -/
theorem decL_high {b : UInt8} {r : List UInt8} (h : ¬ b.toNat < 128) : ¬ ((0 : Int) ≤ Int.ofNat (decL (b :: r)).1 ∧ Int.ofNat (decL (b :: r)).1 < 128) := by
  have key : 128 ≤ (decL (b :: r)).1 := by
    unfold decL
    simp only [List.getD_cons_zero]
    rw [if_neg h]
    repeat' split
    all_goals first
      | (simp [Utf8.runeError]; done)
      | (simp at *; omega)
  intro ⟨_, h2⟩
  simp at h2
  omega

theorem u8_wrap_byte (b : UInt8) : (IntKind.u8.wrap (Int.ofNat b.toNat)).toNat.toUInt8 = b := by
  have h := b.toNat_lt
  have : IntKind.u8.wrap (Int.ofNat b.toNat) = (b.toNat : Int) := by rw [IntKind.wrap_u8]; simp; omega
  rw [this]
  simp

theorem okByte_ascii {b : UInt8} (h : okByte b = true) : b.toNat < 128 := by
  refine Decidable.by_contra fun hb => ?_
  have : Lib.indexByte set37 b = -1 := indexByte_none _ _ fun x hx e => hb (e ▸ set37_ascii x hx)
  unfold okByte at h
  rw [this] at h
  simp at h

theorem nameOk_false {s : List UInt8} {b : UInt8} (hb : b ∈ s) (h : okByte b = false) : nameOk s = false := by
  unfold nameOk
  have : s.all okByte = false := by
    cases hx : s.all okByte with
    | false => rfl
    | true => rw [List.all_eq_true.1 hx b hb] at h; cases h
  rw [this]; rfl

theorem Name_spec {s : List UInt8} (h : Q (.bool (nameOk s)) []) : ACall Tryd.prog 31 0 [.str s] [] Q := by
  refine by_body Tryd.func31 0 rfl (Nat.le_of_ble_eq_true rfl) ?_
  conv => whnf
  refine ⟨⟨[0, 6], fun n vs H => vs = [.str s, .ptr 0 0] ∧ ∃ pos, H = [.iter s pos] ∧ n = s.length - pos ∧ (s.take pos).all okByte = true, .at (s.length - 0) ⟨rfl, 0, rfl, rfl, rfl⟩, ?_⟩⟩
  rintro n vs H ⟨rfl, pos, rfl, rfl, hall⟩
  conv => whnf
  refine ⟨fun hd => ?_, fun b l hd => ?_⟩
  · have hle := List.drop_eq_nil_iff.1 hd
    rw [List.take_of_length_le hle] at hall
    clear hd hle
    cases s with
    | nil =>
      conv => whnf
      exact ⟨[], rfl, h⟩
    | cons b l =>
      have e : nameOk (b :: l) = (decide ((b :: l).length ≤ 32) && okHead b) := by unfold nameOk; rw [hall]; rfl
      rw [e] at h
      conv => whnf
      refine branch_i (fun c => ?_) (fun c => ?_) <;> try rw [c] <;> conv => whnf
      · have hl : decide ((b :: l).length ≤ 32) = true := by simp at *; omega
        rw [hl, Bool.true_and] at h
        refine ⟨⟨by decide, by simp; omega⟩, ?_⟩
        conv => whnf
        refine .call [] 0 ⟨rfl, rfl, rfl⟩ (Contains_one (b := b) (by decide) ?_)
        conv => whnf
        exact ⟨[], rfl, h⟩
      · have hl : decide ((b :: l).length ≤ 32) = false := by simp at *; omega
        rw [hl, Bool.false_and] at h
        exact ⟨[], rfl, h⟩
  · obtain ⟨d1, d2, d3, d4⟩ := drop_facts hd
    conv => whnf
    refine .call [] 0 ⟨rfl, rfl, rfl⟩ (ContainsRune_ascii set37_ascii (fun c => ?_) (fun c => ?_))
    · have hb : b.toNat < 128 := Decidable.by_contra fun hb => decL_high hb c
      rw [decL_ascii hb]
      simp only [u8_wrap_byte]
      conv => whnf
      refine branch_i (fun c2 => ?_) (fun c2 => ?_) <;> try rw [c2] <;> conv => whnf
      · rw [nameOk_false d1 (by simpa [okByte] using c2)] at h
        exact ⟨[], rfl, h⟩
      · refine .go [0] rfl (s.length - (pos + 1)) (by omega) ⟨rfl, pos + 1, rfl, rfl, ?_⟩
        have : s.take (pos + 1) = s.take pos ++ [b] := by
          rw [List.take_add_one]
          congr 1
          have : s[pos]? = some b := by rw [← List.head?_drop, hd]; rfl
          rw [this]; rfl
        rw [this, List.all_append, hall]
        simpa [okByte] using c2
    · rw [nameOk_false d1 (by
        cases hx : okByte b with
        | false => rfl
        | true =>
          have hb := okByte_ascii hx
          rw [decL_ascii hb] at c
          exact absurd ⟨by simp, by simp; omega⟩ c)] at h
      conv => whnf
      exact ⟨[], rfl, h⟩

end Go.Proofs.YtgikkoeckdhgkaaDoorPg

/- Schemas: the functions. -/
namespace Go.Proofs.YtgikkoeckdhgkaaDoorPg
open Go Go.RowKit
set_option linter.unusedSimpArgs false
set_option linter.unusedVariables false

variable {Q : V → List O → Prop}

theorem take_snoc {α : Type} {P : α → Prop} {l : List α} {i : Nat} {x : α} (h : ∀ c ∈ l.take i, P c) (hx : l[i]? = some x) (hp : P x) : ∀ c ∈ l.take (i + 1), P c := by
  intro c hc
  rw [List.take_add_one, hx] at hc
  rcases List.mem_append.1 hc with hc | hc
  · exact h c hc
  · simp at hc; subst hc; exact hp

theorem Find1_spec {c : Col} {name : List UInt8} (h : Q (.bool (decide (c.n = name))) [.cells [.str name]]) : ACall Tryd.prog 76 1 [.agg [.str c.n, fI c.k, .bool c.o], .ptr 0 0] [.cells [.str name]] Q := by
  refine by_body Tryd.func76 1 rfl (Nat.le_of_ble_eq_true rfl) ?_
  conv => whnf
  exact ⟨[0], rfl, h⟩

theorem IndexFunc_spec {l : List Col} {name : List UInt8} (hl : l.length < 1000000) (h : Q (fI (fnd name l 0)) [.cells [.str name]]) :
    ACall Tryd.prog 75 1 [.sl 3 (cols l) false, .fn (.func 76) [] [.ptr 0 0]] [.cells [.str name]] Q := by
  refine by_body Tryd.func75 1 rfl (Nat.le_of_ble_eq_true rfl) ?_
  conv => whnf
  have hlk := cols_len l
  refine ⟨⟨[0, 1, 7, 8], fun m vs H => ∃ i : Nat, vs = [.sl 3 (cols l) false, .fn (.func 76) [] [.ptr 0 0], fI (cols l).length, fI i] ∧ H = [.cells [.str name]] ∧ (∀ c ∈ l.take i, c.n ≠ name) ∧ i ≤ l.length ∧ m = l.length - i, .at _ ⟨0, rfl, rfl, by simp, Nat.zero_le _, rfl⟩, ?_⟩⟩
  rintro m vs H ⟨i, rfl, rfl, hn, hi, rfl⟩
  conv => whnf
  refine branch_i (fun c => ?_) (fun c => ?_) <;> try rw [c] <;> conv => whnf
  · have c' := of_decide_eq_true c
    have hlt : i < l.length := by omega
    have hget : l[i]? = some l[i] := List.getElem?_eq_getElem hlt
    refine ⟨_, ⟨by omega, cols_get hget⟩, ?_⟩
    conv => whnf
    refine .call [0] 1 ⟨rfl, rfl, rfl⟩ (Find1_spec ?_)
    conv => whnf
    refine branch_i (fun c2 => ?_) (fun c2 => ?_) <;> try rw [c2] <;> conv => whnf
    · rw [fnd_here hn hget (of_decide_eq_true c2)] at h
      exact ⟨[0], rfl, h⟩
    · refine .go [0] rfl (l.length - (i + 1)) (by omega) ⟨i + 1, ?_, rfl, take_snoc hn hget (of_decide_eq_false c2), by omega, rfl⟩
      show [V.sl 3 (cols l) false, V.fn (.func 76) [] [.ptr 0 0], fI (cols l).length, V.int .i64 (IntKind.i64.wrap ((i : Int) + 1))] = _
      rw [show IntKind.i64.wrap ((i : Int) + 1) = ((i + 1 : Nat) : Int) by rw [IntKind.wrap_i64]; omega]
  · have c' := of_decide_eq_false c
    rw [List.take_of_length_le (by omega)] at hn
    rw [fnd_none hn] at h
    exact ⟨[0], rfl, h⟩

theorem Find_spec {l : List Col} {keys : Int} {name : List UInt8} (hl : l.length < 1000000) (h : Q (fI (fnd name l 0)) []) :
    ACall Tryd.prog 59 0 [sch l keys, .str name] [] Q := by
  refine by_body Tryd.func59 0 rfl (Nat.le_of_ble_eq_true rfl) ?_
  conv => whnf
  refine .call [1] 1 ⟨rfl, rfl, rfl⟩ (IndexFunc_spec hl ?_)
  conv => whnf
  exact ⟨[], rfl, h⟩

theorem RFind_spec {l : List Col} {keys : Int} {name : List UInt8} (hl : l.length < 1000000) (h : Q (fI (fnd name l 0)) []) :
    ACall Tryd.prog 44 0 [sch l keys, .str name] [] Q := by
  refine by_body Tryd.func44 0 rfl (Nat.le_of_ble_eq_true rfl) ?_
  conv => whnf
  have hlk := cols_len l
  refine ⟨⟨[1, 2, 5], fun m vs H => ∃ i : Nat, vs = [.str name, .ptr 0 0, fI i] ∧ H = [.cells [.sl 3 (cols l) false, fI keys]] ∧ (∀ c ∈ l.take i, c.n ≠ name) ∧ i ≤ l.length ∧ m = l.length - i, .at _ ⟨0, rfl, rfl, by simp, Nat.zero_le _, rfl⟩, ?_⟩⟩
  rintro m vs H ⟨i, rfl, rfl, hn, hi, rfl⟩
  conv => whnf
  refine branch_i (fun c => ?_) (fun c => ?_) <;> try rw [c] <;> conv => whnf
  · have c' := of_decide_eq_true c
    have hlt : i < l.length := by omega
    have hget : l[i]? = some l[i] := List.getElem?_eq_getElem hlt
    refine ⟨_, ⟨by omega, cols_get hget⟩, ?_⟩
    conv => whnf
    refine branch_i (fun c2 => ?_) (fun c2 => ?_) <;> try rw [c2] <;> conv => whnf
    · rw [fnd_here hn hget (of_decide_eq_true c2)] at h
      exact ⟨[], rfl, h⟩
    · refine .go [0] rfl (l.length - (i + 1)) (by omega) ⟨i + 1, ?_, rfl, take_snoc hn hget (of_decide_eq_false c2), by omega, rfl⟩
      show [V.str name, V.ptr 0 0, V.int .i64 (IntKind.i64.wrap ((i : Int) + 1))] = _
      rw [show IntKind.i64.wrap ((i : Int) + 1) = ((i + 1 : Nat) : Int) by rw [IntKind.wrap_i64]; omega]
  · have c' := of_decide_eq_false c
    rw [List.take_of_length_le (by omega)] at hn
    rw [fnd_none hn] at h
    exact ⟨[], rfl, h⟩

end Go.Proofs.YtgikkoeckdhgkaaDoorPg

/- Schemas: which may be. -/
namespace Go.Proofs.YtgikkoeckdhgkaaDoorPg
open Go Go.RowKit
set_option linter.unusedSimpArgs false
set_option linter.unusedVariables false

variable {Q : V → List O → Prop}

def kindOk (k : Int) : Bool := decide (1 ≤ k) && decide (k ≤ 4)

theorem kind_spec {k : Int} (h : Q (.bool (kindOk k)) []) : ACall Tryd.prog 58 0 [fI k] [] Q := by
  refine by_body Tryd.func58 0 rfl (Nat.le_of_ble_eq_true rfl) ?_
  conv => whnf
  unfold kindOk at h
  refine branch_i (fun c => ?_) (fun c => ?_) <;> rw [c] at h <;> try rw [c] <;> conv => whnf
  · exact ⟨[], rfl, h⟩
  · exact ⟨[], rfl, h⟩

/-- the document's words for a byte of a name -/
def okB (n : Int) : Bool := !(((decide (n < 97) || decide (122 < n)) && (decide (n < 48) || decide (57 < n))) && !decide (n = 95))
def okH (n : Int) : Bool := !(decide (n < 97) || decide (122 < n))

theorem okB_eq : ∀ n : Fin 256, okB (n.val : Int) = okByte (UInt8.ofNat n.val) := by decide +kernel
theorem okH_eq : ∀ n : Fin 256, okH (n.val : Int) = okHead (UInt8.ofNat n.val) := by decide +kernel

theorem okB_byte (b : UInt8) : okB (b.toNat : Int) = okByte b := by
  have := okB_eq ⟨b.toNat, b.toNat_lt⟩
  simpa using this
theorem okH_byte (b : UInt8) : okH (b.toNat : Int) = okHead b := by
  have := okH_eq ⟨b.toNat, b.toNat_lt⟩
  simpa using this

theorem RName_spec {s : List UInt8} (h : Q (.bool (nameOk s)) []) : ACall Tryd.prog 40 0 [.str s] [] Q := by
  refine by_body Tryd.func40 0 rfl (Nat.le_of_ble_eq_true rfl) ?_
  conv => whnf
  cases s with
  | nil => exact ⟨[], rfl, h⟩
  | cons b r =>
    rw [show decide (((b :: r).length : Int) < 1) = false by simp; omega]
    conv => whnf
    refine branch_i (fun c1 => ?_) (fun c1 => ?_) <;> try rw [c1] <;> conv => whnf
    focus
      have e : nameOk (b :: r) = false := by unfold nameOk; rw [show decide ((b :: r).length ≤ 32) = false by simp at c1; simp; omega]; simp
      rw [e] at h
      exact ⟨[], rfl, h⟩
    have hl : decide ((b :: r).length ≤ 32) = true := by simp at c1; simp; omega
    have hho := okH_byte b
    unfold okH at hho
    refine ⟨b, ⟨by decide, rfl⟩, ?_⟩
    conv => whnf
    refine branch_i (fun c2 => ?_) (fun c2 => ?_) <;> try rw [c2] <;> conv => whnf
    focus
      rw [c2] at hho
      have e : nameOk (b :: r) = false := by unfold nameOk; simp [← hho]
      rw [e] at h
      exact ⟨[], rfl, h⟩
    refine ⟨b, ⟨by decide, rfl⟩, ?_⟩
    conv => whnf
    refine branch_i (fun c3 => ?_) (fun c3 => ?_) <;> try rw [c3] <;> conv => whnf
    focus
      rw [c2, c3] at hho
      have e : nameOk (b :: r) = false := by unfold nameOk; simp [← hho]
      rw [e] at h
      exact ⟨[], rfl, h⟩
    rw [c2, c3] at hho
    have e : nameOk (b :: r) = (b :: r).all okByte := by unfold nameOk; rw [hl]; simp [← hho]
    rw [e] at h
    have hlen := of_decide_eq_true hl
    clear e hl c1 c2 c3 hho
    generalize b :: r = s at *
    refine ⟨⟨[0, 3], fun m vs H => ∃ i : Nat, vs = [.str s, fI i] ∧ H = [] ∧ (∀ c ∈ s.take i, okByte c = true) ∧ i ≤ s.length ∧ m = s.length - i, .at _ ⟨0, rfl, rfl, by simp, Nat.zero_le _, rfl⟩, ?_⟩⟩
    rintro m vs H ⟨i, rfl, rfl, hn, hi, rfl⟩
    conv => whnf
    refine branch_i (fun c => ?_) (fun c => ?_) <;> try rw [c] <;> conv => whnf
    · have c' := of_decide_eq_true c
      have hlt : i < s.length := by omega
      have hget : s[i]? = some s[i] := List.getElem?_eq_getElem hlt
      refine ⟨s[i], ⟨by omega, hget⟩, ?_⟩
      have hob := okB_byte s[i]
      have hmem : s[i] ∈ s := List.getElem_mem hlt
      generalize s[i] = b at *
      conv => whnf
      refine branch_i (fun c => ?_) (fun c => ?_) <;> try rw [c] <;> conv => whnf
      all_goals try (refine branch_i (fun c => ?_) (fun c => ?_) <;> try rw [c] <;> conv => whnf)
      all_goals try (refine branch_i (fun c => ?_) (fun c => ?_) <;> try rw [c] <;> conv => whnf)
      all_goals try (refine branch_i (fun c => ?_) (fun c => ?_) <;> try rw [c] <;> conv => whnf)
      all_goals try (refine branch_i (fun c => ?_) (fun c => ?_) <;> try rw [c] <;> conv => whnf)
      all_goals simp only [decide_eq_true_eq, decide_eq_false_iff_not, Bool.not_eq_true', Bool.not_eq_false'] at *
      all_goals first
        | (have hb : okByte b = true := by rw [← hob]; simp [okB]; omega
           refine .go [] rfl (s.length - (i + 1)) (by omega) ⟨i + 1, ?_, rfl, take_snoc hn hget hb, by omega, rfl⟩
           show [V.str s, V.int .i64 (IntKind.i64.wrap ((i : Int) + 1))] = _
           rw [show IntKind.i64.wrap ((i : Int) + 1) = ((i + 1 : Nat) : Int) by rw [IntKind.wrap_i64]; omega])
        | (have hb : okByte b = false := by rw [← hob]; simp [okB]; omega
           have e : s.all okByte = false := by
             cases hx : s.all okByte with
             | false => rfl
             | true => rw [List.all_eq_true.1 hx b hmem] at hb; cases hb
           rw [e] at h
           exact ⟨[], rfl, h⟩)
    · have c' := of_decide_eq_false c
      rw [List.take_of_length_le (by omega)] at hn
      rw [show s.all okByte = true by simpa using hn] at h
      exact ⟨[], rfl, h⟩

end Go.Proofs.YtgikkoeckdhgkaaDoorPg

/- Schemas: which may be. -/
namespace Go.Proofs.YtgikkoeckdhgkaaDoorPg
open Go Go.RowKit
set_option linter.unusedSimpArgs false
set_option linter.unusedVariables false

variable {Q : V → List O → Prop}

def mayC (l : List Col) (keys : Int) (i : Nat) (c : Col) : Bool := nameOk c.n && (kindOk c.k && (decide (fnd c.n l 0 = (i : Int)) && !(decide ((i : Int) < keys) && c.o)))
def mayH (l : List Col) (keys : Int) : Bool := decide (1 ≤ keys) && (decide (keys ≤ 4) && (decide (keys ≤ (l.length : Int)) && decide (l.length ≤ 16)))
def mayS (l : List Col) (keys : Int) : Bool := mayH l keys && (List.range l.length).all fun i => match l[i]? with
  | some c => mayC l keys i c
  | none => true

theorem mayS_head {l : List Col} {keys : Int} (h : mayH l keys = false) : mayS l keys = false := by unfold mayS; rw [h]; rfl
theorem mayS_no {l : List Col} {keys : Int} {i : Nat} {c : Col} (hc : l[i]? = some c) (h : mayC l keys i c = false) : mayS l keys = false := by
  unfold mayS
  have : ((List.range l.length).all fun i => match l[i]? with | some c => mayC l keys i c | none => true) = false := by
    rw [List.all_eq_false]
    refine ⟨i, by rw [List.mem_range]; exact (List.getElem?_eq_some_iff.1 hc).1, ?_⟩
    rw [hc]; simp [h]
  rw [this, Bool.and_false]
theorem mayS_yes {l : List Col} {keys : Int} (h0 : mayH l keys = true) (h : ∀ i c, l[i]? = some c → mayC l keys i c = true) : mayS l keys = true := by
  unfold mayS
  rw [h0, Bool.true_and, List.all_eq_true]
  intro i hi
  cases hc : l[i]? with
  | none => rfl
  | some c => exact h i c hc

theorem all_snoc {l : List Col} {P : Nat → Col → Prop} {i : Nat} {c : Col} (h : ∀ j c, j < i → l[j]? = some c → P j c) (hc : l[i]? = some c) (hp : P i c) : ∀ j c, j < i + 1 → l[j]? = some c → P j c := by
  intro j d hj hd
  by_cases e : j = i
  · subst e; rw [hc] at hd; cases hd; exact hp
  · exact h j d (by omega) hd

theorem May_any {l : List Col} {keys : Int} (h : Q (.bool (mayS l keys)) []) : ACall Tryd.prog 32 0 [sch l keys] [] Q := by
  refine by_body Tryd.func32 0 rfl (Nat.le_of_ble_eq_true rfl) ?_
  conv => whnf
  have hlk := cols_len l
  refine branch_i (fun c1 => ?_) (fun c1 => ?_) <;> try rw [c1] <;> conv => whnf
  focus
    rw [mayS_head (by unfold mayH; simp at c1 ⊢; omega)] at h
    exact ⟨[], rfl, h⟩
  refine branch_i (fun c2 => ?_) (fun c2 => ?_) <;> try rw [c2] <;> conv => whnf
  focus
    rw [mayS_head (by unfold mayH; simp at c2 ⊢; omega)] at h
    exact ⟨[], rfl, h⟩
  refine branch_i (fun c3 => ?_) (fun c3 => ?_) <;> try rw [c3] <;> conv => whnf
  focus
    have c3' := of_decide_eq_true c3
    simp only at c3'
    rw [mayS_head (by unfold mayH; simp at c1 c2 ⊢; split at c3' <;> omega)] at h
    exact ⟨[], rfl, h⟩
  have c3' := of_decide_eq_false c3
  simp only at c3'
  have hh : mayH l keys = true := by unfold mayH; simp at c1 c2 ⊢; split at c3' <;> omega
  have hl : l.length < 1000000 := by unfold mayH at hh; simp at hh; omega
  clear c1 c2 c3 c3'
  refine ⟨⟨[1, 24, 25, 26], fun m vs H => ∃ i : Nat, vs = [.ptr 0 0, .sl 3 (cols l) false, fI (cols l).length, fI i] ∧ H = [.cells [.sl 3 (cols l) false, fI keys]] ∧ (∀ j c, j < i → l[j]? = some c → mayC l keys j c = true) ∧ i ≤ l.length ∧ m = l.length - i, .at _ ⟨0, rfl, rfl, fun j c hj => by omega, Nat.zero_le _, rfl⟩, ?_⟩⟩
  rintro m vs H ⟨i, rfl, rfl, hn, hi, rfl⟩
  conv => whnf
  refine branch_i (fun c => ?_) (fun c => ?_) <;> try rw [c] <;> conv => whnf
  · have c' := of_decide_eq_true c
    have hlt : i < l.length := by omega
    have hget : l[i]? = some l[i] := List.getElem?_eq_getElem hlt
    generalize l[i] = d at *
    have hno := mayS_no (l := l) (keys := keys) hget
    have hyes : mayC l keys i d = true → (∀ j c, j < i + 1 → l[j]? = some c → mayC l keys j c = true) := all_snoc hn hget
    unfold mayC at hno hyes
    have hret : mayS l keys = false → Q (.bool false) [] := fun e => by rw [e] at h; exact h
    refine ⟨_, ⟨by omega, cols_get hget⟩, ?_⟩
    conv => whnf
    refine .call [] 0 ⟨rfl, rfl, rfl⟩ (Name_spec ?_)
    conv => whnf
    refine branch_i (fun c1 => ?_) (fun c1 => ?_) <;> try rw [c1] <;> conv => whnf
    focus
      exact ⟨[], rfl, hret (hno (by simp at c1; rw [c1]; rfl))⟩
    refine .call [] 0 ⟨rfl, rfl, rfl⟩ (kind_spec ?_)
    conv => whnf
    refine branch_i (fun c2 => ?_) (fun c2 => ?_) <;> try rw [c2] <;> conv => whnf
    focus
      exact ⟨[], rfl, hret (hno (by simp at c2; rw [c2]; simp))⟩
    refine .call [] 0 ⟨rfl, rfl, rfl⟩ (Find_spec hl ?_)
    conv => whnf
    refine branch_i (fun c3 => ?_) (fun c3 => ?_) <;> try rw [c3] <;> conv => whnf
    focus
      exact ⟨[], rfl, hret (hno (by simp at c3; simp [c3]))⟩
    simp at c1 c2 c3
    refine branch_i (fun c4 => ?_) (fun c4 => ?_) <;> try rw [c4] <;> conv => whnf
    focus
      refine branch_i (fun c5 => ?_) (fun c5 => ?_) <;> try rw [c5] <;> conv => whnf
      focus
        exact ⟨[], rfl, hret (hno (by rw [c4, c5]; simp))⟩
    all_goals
      refine .go [0] rfl (l.length - (i + 1)) (by omega) ⟨i + 1, ?_, rfl, hyes (by first | (rw [c1, c2, c3, c4, c5]; simp; done) | (rw [c1, c2, c3, c4]; simp; done)), by omega, rfl⟩
      show [V.ptr 0 0, V.sl 3 (cols l) false, fI (cols l).length, V.int .i64 (IntKind.i64.wrap ((i : Int) + 1))] = _
      rw [show IntKind.i64.wrap ((i : Int) + 1) = ((i + 1 : Nat) : Int) by rw [IntKind.wrap_i64]; omega]
  · have c' := of_decide_eq_false c
    rw [mayS_yes hh fun j c hc => hn j c (by have := (List.getElem?_eq_some_iff.1 hc).1; omega) hc] at h
    exact ⟨[], rfl, h⟩

theorem May_spec {l : List Col} {keys : Int} (hl : l.length < 1000000) (h : Q (.bool (mayS l keys)) []) : ACall Tryd.prog 32 0 [sch l keys] [] Q := May_any h

theorem RMay_any {l : List Col} {keys : Int} (h : Q (.bool (mayS l keys)) []) : ACall Tryd.prog 41 0 [sch l keys] [] Q := by
  refine by_body Tryd.func41 0 rfl (Nat.le_of_ble_eq_true rfl) ?_
  conv => whnf
  have hlk := cols_len l
  refine branch_i (fun c1 => ?_) (fun c1 => ?_) <;> try rw [c1] <;> conv => whnf
  focus
    rw [mayS_head (by unfold mayH; simp at c1 ⊢; omega)] at h
    exact ⟨[], rfl, h⟩
  refine branch_i (fun c2 => ?_) (fun c2 => ?_) <;> try rw [c2] <;> conv => whnf
  focus
    rw [mayS_head (by unfold mayH; simp at c2 ⊢; omega)] at h
    exact ⟨[], rfl, h⟩
  refine branch_i (fun c3 => ?_) (fun c3 => ?_) <;> try rw [c3] <;> conv => whnf
  focus
    rw [mayS_head (by unfold mayH; simp at c3 ⊢; omega)] at h
    exact ⟨[], rfl, h⟩
  refine branch_i (fun c4 => ?_) (fun c4 => ?_) <;> try rw [c4] <;> conv => whnf
  focus
    rw [mayS_head (by unfold mayH; simp at c4 ⊢; omega)] at h
    exact ⟨[], rfl, h⟩
  refine branch_i (fun c5 => ?_) (fun c5 => ?_) <;> try rw [c5] <;> conv => whnf
  focus
    rw [mayS_head (by unfold mayH; simp at c5 ⊢; omega)] at h
    exact ⟨[], rfl, h⟩
  have hh : mayH l keys = true := by unfold mayH; simp at c1 c2 c3 c4 c5 ⊢; omega
  have hl : l.length < 1000000 := by unfold mayH at hh; simp at hh; omega
  clear c1 c2 c3 c4 c5
  refine ⟨⟨[1, 3, 4], fun m vs H => ∃ i : Nat, vs = [.ptr 0 0, fI (cols l).length, fI i] ∧ H = [.cells [.sl 3 (cols l) false, fI keys]] ∧ (∀ j c, j < i → l[j]? = some c → mayC l keys j c = true) ∧ i ≤ l.length ∧ m = l.length - i, .at _ ⟨0, rfl, rfl, fun j c hj => by omega, Nat.zero_le _, rfl⟩, ?_⟩⟩
  rintro m vs H ⟨i, rfl, rfl, hn, hi, rfl⟩
  conv => whnf
  refine branch_i (fun c => ?_) (fun c => ?_) <;> try rw [c] <;> conv => whnf
  · have c' := of_decide_eq_true c
    have hlt : i < l.length := by omega
    have hget : l[i]? = some l[i] := List.getElem?_eq_getElem hlt
    generalize l[i] = d at *
    have hno := mayS_no (l := l) (keys := keys) hget
    have hyes : mayC l keys i d = true → (∀ j c, j < i + 1 → l[j]? = some c → mayC l keys j c = true) := all_snoc hn hget
    unfold mayC at hno hyes
    have hret : mayS l keys = false → Q (.bool false) [] := fun e => by rw [e] at h; exact h
    refine ⟨_, ⟨by omega, cols_get hget⟩, ?_⟩
    conv => whnf
    refine .call [] 0 ⟨rfl, rfl, rfl⟩ (RName_spec ?_)
    conv => whnf
    refine branch_i (fun c1 => ?_) (fun c1 => ?_) <;> try rw [c1] <;> conv => whnf
    focus
      exact ⟨[], rfl, hret (hno (by simp at c1; rw [c1]; rfl))⟩
    refine branch_i (fun c2 => ?_) (fun c2 => ?_) <;> try rw [c2] <;> conv => whnf
    focus
      exact ⟨[], rfl, hret (hno (by unfold kindOk; simp at c2; simp; omega))⟩
    refine branch_i (fun c3 => ?_) (fun c3 => ?_) <;> try rw [c3] <;> conv => whnf
    focus
      exact ⟨[], rfl, hret (hno (by unfold kindOk; simp at c3; simp; omega))⟩
    have hk : kindOk d.k = true := by unfold kindOk; simp at c2 c3 ⊢; omega
    simp at c1
    clear c2 c3
    refine branch_i (fun c4 => ?_) (fun c4 => ?_) <;> try rw [c4] <;> conv => whnf
    focus
      refine branch_i (fun c5 => ?_) (fun c5 => ?_) <;> try rw [c5] <;> conv => whnf
      focus
        exact ⟨[], rfl, hret (hno (by rw [c4, c5]; simp))⟩
    all_goals
      refine ⟨⟨[1, 3, 4, 5, 7], fun m vs H => ∃ (k : Nat) (bo : Bool), vs = [.ptr 0 0, fI (cols l).length, fI i, .ptr 1 0, fI k] ∧ H = [.cells [.sl 3 (cols l) false, fI keys], .cells [.str d.n, fI d.k, .bool bo]] ∧ (∀ c ∈ l.take k, c.n ≠ d.n) ∧ k ≤ i ∧ m = i - k, .at _ ⟨0, _, rfl, rfl, by simp, Nat.zero_le _, rfl⟩, ?_⟩⟩
      rintro m vs H ⟨k, bo, rfl, rfl, hnk, hk2, rfl⟩
      conv => whnf
      refine branch_i (fun c6 => ?_) (fun c6 => ?_) <;> try rw [c6] <;> conv => whnf
      · have c6' := of_decide_eq_true c6
        have hget2 : l[k]? = some l[k] := List.getElem?_eq_getElem (by omega)
        generalize l[k] = x at *
        refine ⟨List.range 9, by kernel_rfl, by kernel_rfl, ?_⟩
        conv => whnf
        refine ⟨_, ⟨by omega, cols_get hget2⟩, ?_⟩
        conv => whnf
        refine branch_i (fun c7 => ?_) (fun c7 => ?_) <;> try rw [c7] <;> conv => whnf
        · have hf := fnd_here hnk hget2 (of_decide_eq_true c7)
          exact ⟨[], rfl, hret (hno (by rw [hf]; simp; intro _ _ e; omega))⟩
        · refine .go [0, 1] rfl (i - (k + 1)) (by omega) ⟨k + 1, bo, ?_, rfl, take_snoc hnk hget2 (of_decide_eq_false c7), by omega, rfl⟩
          show [V.ptr 0 0, fI (cols l).length, fI i, V.ptr 1 0, V.int .i64 (IntKind.i64.wrap ((k : Int) + 1))] = _
          rw [show IntKind.i64.wrap ((k : Int) + 1) = ((k + 1 : Nat) : Int) by rw [IntKind.wrap_i64]; omega]
      · have c6' := of_decide_eq_false c6
        have hki : k = i := by omega
        subst hki
        have hf := fnd_here hnk hget rfl
        refine .go [0] rfl (l.length - (k + 1)) (by omega) ⟨k + 1, ?_, rfl, hyes (by first | (rw [c1, hk, hf, c4, c5]; simp; done) | (rw [c1, hk, hf, c4]; simp; done)), by omega, rfl⟩
        show [V.ptr 0 0, fI (cols l).length, V.int .i64 (IntKind.i64.wrap ((k : Int) + 1))] = _
        rw [show IntKind.i64.wrap ((k : Int) + 1) = ((k + 1 : Nat) : Int) by rw [IntKind.wrap_i64]; omega]
  · have c' := of_decide_eq_false c
    rw [mayS_yes hh fun j c hc => hn j c (by have := (List.getElem?_eq_some_iff.1 hc).1; omega) hc] at h
    exact ⟨[], rfl, h⟩

theorem RMay_spec {l : List Col} {keys : Int} (hl : l.length < 1000000) (h : Q (.bool (mayS l keys)) []) : ACall Tryd.prog 41 0 [sch l keys] [] Q := RMay_any h

end Go.Proofs.YtgikkoeckdhgkaaDoorPg

/- Schemas: which are the same, and copies. -/
namespace Go.Proofs.YtgikkoeckdhgkaaDoorPg
open Go Go.RowKit
set_option linter.unusedSimpArgs false
set_option linter.unusedVariables false

variable {Q : V → List O → Prop}

def sameS (l : List Col) (k : Int) (l2 : List Col) (k2 : Int) : Bool := decide (k = k2) && decide (l = l2)

theorem col_eq (d e : Col) : (decide (d.n = e.n) && (decide (d.k = e.k) && (d.o == e.o && true))) = decide (d = e) := by
  cases d; cases e
  rename_i n k o n2 k2 o2
  cases o <;> cases o2 <;> simp [Col.mk.injEq]

theorem SClone_spec {l : List Col} (hl : l.length < 1000000) (h : Q (.ms 3 0 0 l.length false) [.buf (cols l)]) :
    ACall Tryd.prog 60 0 [.sl 3 (cols l) false] [] Q := by
  have hlk := cols_len l
  cases l with
  | nil =>
    refine ACall.sub (ACall.sel (ACall.adopt (by_body Tryd.func60 0 rfl (Nat.le_of_ble_eq_true rfl) ?_)))
    conv => whnf
    refine ⟨?_, ?_⟩
    · conv => whnf
      exact ⟨[], rfl, [0], rfl, _, _, VSub.ms0 3 0 0 false, HSub.refl _, h⟩
    · conv => whnf
      refine ⟨by decide, fun _ => ?_, fun e => absurd rfl e⟩
      conv => whnf
      exact ⟨[0], rfl, [0], rfl, _, _, VSub.msRoom 3 0 0, HSub.refl _, h⟩
  | cons c r =>
    refine by_body Tryd.func60 0 rfl (Nat.le_of_ble_eq_true rfl) ?_
    conv => whnf
    refine ⟨by decide, fun e => by simp [cols] at e, fun _ => ?_⟩
    conv => whnf
    refine ⟨(show (cols (c :: r)).length * 32 ≤ 70368744177664 by rw [hlk]; omega), ?_⟩
    conv => whnf
    exact ⟨[1], rfl, by rw [← hlk] at h; exact h⟩

theorem Clone_spec {l : List Col} {keys : Int} (hl : l.length < 1000000) (h : Q (.agg [.ms 3 0 0 l.length false, fI keys]) [.buf (cols l)]) :
    ACall Tryd.prog 33 0 [sch l keys] [] Q := by
  refine by_body Tryd.func33 0 rfl (Nat.le_of_ble_eq_true rfl) ?_
  conv => whnf
  refine ⟨[0, 1, 3, 4, 2, 5, 6], by kernel_rfl, by kernel_rfl, ?_⟩
  conv => whnf
  refine .call [] 0 ⟨rfl, rfl, rfl⟩ (SClone_spec hl ?_)
  repeat (refine ⟨rfl, ?_⟩)
  conv => whnf
  exact ⟨[2], rfl, h⟩

end Go.Proofs.YtgikkoeckdhgkaaDoorPg

/- Schemas: few columns. -/
namespace Go.Proofs.YtgikkoeckdhgkaaDoorPg
open Go Go.RowKit
set_option linter.unusedSimpArgs false
set_option linter.unusedVariables false

variable {Q : V → List O → Prop}

end Go.Proofs.YtgikkoeckdhgkaaDoorPg

/- Schemas: changes. -/
namespace Go.Proofs.YtgikkoeckdhgkaaDoorPg
open Go Go.RowKit
set_option linter.unusedSimpArgs false
set_option linter.unusedVariables false

variable {Q : V → List O → Prop}

theorem cols_erase (l : List Col) (i : Nat) : cols (l.eraseIdx i) = (cols l).take i ++ (cols l).drop (i + 1) := by
  rw [List.eraseIdx_eq_take_drop_succ]; simp [cols]

theorem del_tail {α : Type} {a b : List α} {z : α} {n : Nat} (ha : a.length = n - 1) (hb : (a ++ b).length = n) (hn : 0 < n) :
    (a ++ b).take (n - 1) ++ List.replicate (n - (n - 1)) z ++ (a ++ b).drop (n - 1 + (n - (n - 1))) = a ++ [z] := by
  rw [show n - (n - 1) = 1 by omega, show n - 1 + 1 = n by omega, List.drop_of_length_le (by omega), ← ha, List.take_left]
  simp

theorem wrap_i64_of {n : Int} (h : -9223372036854775808 ≤ n ∧ n ≤ 9223372036854775807) : IntKind.i64.wrap n = n := by rw [IntKind.wrap_i64]; omega

/-- a schema behind a change, and the error -/
abbrev Res := List Col × Int × Int
def resS (r : Res) : V := .tup [sch r.1 r.2.1, fI r.2.2]

def addS (l : List Col) (keys : Int) (c : Col) : Res :=
  if nameOk c.n && kindOk c.k && c.o then
    if 0 ≤ fnd c.n l 0 then ([], 0, 8) else if l.length = 16 then ([], 0, 10) else (l ++ [c], keys, 0)
  else ([], 0, 1)

def cutS (l : List Col) (keys : Int) (c : Col) : Res :=
  if fnd c.n l 0 < 0 then ([], 0, 7) else if fnd c.n l 0 < keys then ([], 0, 10) else (l.eraseIdx (fnd c.n l 0).toNat, keys, 0)

def setKind (l : List Col) (i : Nat) (k : Int) : List Col := l.modify i fun c => { c with k := k }

def retS (l : List Col) (keys : Int) (c : Col) : Res :=
  if fnd c.n l 0 < 0 then ([], 0, 7)
  else if fnd c.n l 0 < keys then ([], 0, 10)
  else if ((l[(fnd c.n l 0).toNat]?).map Col.o).getD false = false then ([], 0, 10)
  else if kindOk c.k then (setKind l (fnd c.n l 0).toNat c.k, keys, 0) else ([], 0, 1)

def applyS (l : List Col) (keys : Int) (k : Int) (c : Col) : Res :=
  if k = 3 then addS l keys c else if k = 4 then cutS l keys c else if k = 5 then retS l keys c else ([], 0, 5)

theorem err_sub (e : Int) : VSub (.tup [.agg [.nils, fI 0], fI e]) (resS ([], 0, e)) := VSub.tup (.cons (VSub.agg (.cons (VSub.nils 3 false) (VSubs.refl _))) (VSubs.refl _))

theorem fnd_lt {name : List UInt8} : ∀ {l : List Col} {i : Nat}, fnd name l i < 0 ∨ ((i : Int) ≤ fnd name l i ∧ fnd name l i < i + l.length)
  | [], i => .inl (by unfold fnd; omega)
  | c :: l, i => by
    unfold fnd
    split
    · right; simp only [List.length_cons]; omega
    · rcases fnd_lt (name := name) (l := l) (i := i + 1) with h | h
      · exact .inl h
      · right; simp only [List.length_cons]; omega

theorem set_kind {l : List Col} {i : Nat} {c : Col} (h : l[i]? = some c) (k : Int) : (cols l).set i [.str c.n, fI k, .bool c.o] = cols (setKind l i k) := by
  have hlt := (List.getElem?_eq_some_iff.1 h).1
  refine List.ext_getElem? fun j => ?_
  unfold setKind cols
  rw [List.getElem?_set, List.getElem?_map, List.getElem?_map, List.getElem?_modify]
  by_cases e : i = j
  · subst e; rw [h]; simp [hlt, colC]
  · simp [e]

/-- a change -/
def chg (k : Int) (x1 x2 x3 : V) (c : Col) : V := .agg [fI k, x1, x2, x3, .str c.n, fI c.k, .bool c.o]

end Go.Proofs.YtgikkoeckdhgkaaDoorPg

/- Rows: copies, and how they turn. -/
namespace Go.Proofs.YtgikkoeckdhgkaaDoorPg
open Go Go.RowKit
set_option linter.unusedSimpArgs false
set_option linter.unusedVariables false

variable {Q : V → List O → Prop}

theorem VClone_spec {l : List Val} (hl : l.length < 1000000) (h : Q (.ms 3 0 0 l.length false) [.buf (vals l)]) :
    ACall Tryd.prog 38 0 [.sl 3 (vals l) false] [] Q := by
  have hlk := vals_len l
  cases l with
  | nil =>
    refine ACall.sub (ACall.sel (ACall.adopt (by_body Tryd.func38 0 rfl (Nat.le_of_ble_eq_true rfl) ?_)))
    conv => whnf
    refine ⟨?_, ?_⟩
    · conv => whnf
      exact ⟨[], rfl, [0], rfl, _, _, VSub.ms0 3 0 0 false, HSub.refl _, h⟩
    · conv => whnf
      refine ⟨by decide, fun _ => ?_, fun e => absurd rfl e⟩
      conv => whnf
      exact ⟨[0], rfl, [0], rfl, _, _, VSub.msRoom 3 0 0, HSub.refl _, h⟩
  | cons c r =>
    refine by_body Tryd.func38 0 rfl (Nat.le_of_ble_eq_true rfl) ?_
    conv => whnf
    refine ⟨by decide, fun e => by simp [vals] at e, fun _ => ?_⟩
    conv => whnf
    refine ⟨(show (vals (c :: r)).length * 32 ≤ 70368744177664 by rw [hlk]; omega), ?_⟩
    conv => whnf
    exact ⟨[1], rfl, by rw [← hlk] at h; exact h⟩

theorem vals_erase (l : List Val) (i : Nat) : vals (l.eraseIdx i) = (vals l).take i ++ (vals l).drop (i + 1) := by
  rw [List.eraseIdx_eq_take_drop_succ]; simp [vals]

/-- a row behind a change -/
def turnS (l : List Col) (k : Int) (c : Col) (r : List Val) : List Val :=
  if k = 3 then r ++ [val0] else if k = 4 then r.eraseIdx (fnd c.n l 0).toNat else if k = 5 then r.set (fnd c.n l 0).toNat val0 else r

theorem set_vals (l : List Val) (i : Nat) (v : Val) : (vals l).set i (valC v) = vals (l.set i v) := by
  simp [vals, List.map_set]

/-- a change that can be -/
def CanTurn (l : List Col) (k : Int) (c : Col) (n : Nat) : Prop := k = 3 ∨ ((k = 4 ∨ k = 5) ∧ 0 < fnd c.n l 0 ∧ fnd c.n l 0 < n)

/-- the document's turn, of the first so many values -/
def rtN (i : Int) (k : Int) (r : List Val) : Nat → List Val
  | 0 => []
  | j + 1 => if (j : Int) = i ∧ k = 5 then rtN i k r j ++ [val0] else if (j : Int) = i ∧ k = 4 then rtN i k r j else rtN i k r j ++ [r.getD j val0]

theorem take_snoc' {r : List Val} {j : Nat} (h : j < r.length) : r.take (j + 1) = r.take j ++ [r.getD j val0] := by
  rw [List.take_add_one, List.getElem?_eq_getElem h]
  simp [List.getD, List.getElem?_eq_getElem h]

theorem rtN_len (i k : Int) (r : List Val) : ∀ j, (rtN i k r j).length ≤ j
  | 0 => by simp [rtN]
  | j + 1 => by
    have := rtN_len i k r j
    unfold rtN
    repeat' split
    all_goals first | (rw [List.length_append, List.length_singleton]; omega) | omega

theorem rtN_3 (i : Int) (r : List Val) : ∀ j, j ≤ r.length → rtN i 3 r j = r.take j
  | 0, _ => by simp [rtN]
  | j + 1, h => by
    rw [rtN, if_neg (by omega), if_neg (by omega), rtN_3 i r j (by omega), take_snoc' (by omega)]

theorem rtN_4 (i : Nat) (r : List Val) : ∀ j, j ≤ r.length → rtN i 4 r j = (r.take j).eraseIdx i
  | 0, _ => by simp [rtN]
  | j + 1, h => by
    have hl : (r.take j).length = j := by rw [List.length_take]; omega
    rw [rtN, if_neg (by omega), rtN_4 i r j (by omega), take_snoc' (by omega)]
    by_cases e : j = i
    · subst e
      rw [if_pos ⟨rfl, rfl⟩, List.eraseIdx_append_of_length_le (by omega), hl]
      simp [List.eraseIdx_of_length_le (show (r.take j).length ≤ j by omega)]
    · rw [if_neg (by omega)]
      rcases Nat.lt_or_ge i j with h1 | h1
      · rw [List.eraseIdx_append_of_lt_length (by omega)]
      · rw [List.eraseIdx_of_length_le (by omega), List.eraseIdx_of_length_le (by rw [List.length_append, List.length_singleton]; omega)]

theorem rtN_5 (i : Nat) (r : List Val) : ∀ j, j ≤ r.length → rtN i 5 r j = (r.take j).set i val0
  | 0, _ => by simp [rtN]
  | j + 1, h => by
    have hl : (r.take j).length = j := by rw [List.length_take]; omega
    rw [rtN, rtN_5 i r j (by omega), take_snoc' (by omega)]
    by_cases e : j = i
    · subst e
      rw [if_pos ⟨rfl, rfl⟩, List.set_append_right _ _ (by omega), hl, List.set_eq_of_length_le (show (r.take j).length ≤ j by omega)]
      simp
    · rw [if_neg (by omega), if_neg (by omega)]
      rcases Nat.lt_or_ge i j with h1 | h1
      · rw [List.set_append_left _ _ (by omega)]
      · rw [List.set_eq_of_length_le (by omega), List.set_eq_of_length_le (by rw [List.length_append, List.length_singleton]; omega)]

theorem turn_eq {l : List Col} {k : Int} {c : Col} {r : List Val} (hc : CanTurn l k c r.length) :
    (if k = 3 then rtN (fnd c.n l 0) k r r.length ++ [val0] else rtN (fnd c.n l 0) k r r.length) = turnS l k c r := by
  unfold turnS
  by_cases c1 : k = 3
  · subst c1; rw [if_pos rfl, if_pos rfl, rtN_3 _ _ _ (Nat.le_refl _), List.take_length]
  obtain ⟨i, hi⟩ : ∃ i : Nat, fnd c.n l 0 = i := ⟨(fnd c.n l 0).toNat, by rcases hc with h1 | ⟨_, h2, _⟩; exact absurd h1 c1; omega⟩
  rw [if_neg c1, if_neg c1, hi, Int.toNat_natCast]
  by_cases c2 : k = 4
  · subst c2; rw [if_pos rfl, rtN_4 _ _ _ (Nat.le_refl _), List.take_length]
  have c3 : k = 5 := by rcases hc with h1 | ⟨h1, _⟩; exact absurd h1 c1; rcases h1 with h1 | h1; exact absurd h1 c2; exact h1
  subst c3
  rw [if_neg (by omega), if_pos rfl, rtN_5 _ _ _ (Nat.le_refl _), List.take_length]

end Go.Proofs.YtgikkoeckdhgkaaDoorPg

/- Keys of values: the document's function. -/
namespace Go.Proofs.YtgikkoeckdhgkaaDoorPg
open Go Go.RowKit
set_option linter.unusedSimpArgs false
set_option linter.unusedVariables false

variable {Q : V → List O → Prop}

set_option maxHeartbeats 8000000 in
set_option maxRecDepth 10000 in
theorem VKey_spec {l : List Val} {f : Bool} (hl : l.length ≤ 1000) (hv : ∀ v ∈ l, v.t.length ≤ 4096) (h : Q (.str (keyS l)) []) : ACall Tryd.prog 69 0 [.sl 3 (vals l) f] [] Q := by
  have hlv := vals_len l
  refine by_body Tryd.func69 0 rfl (Nat.le_of_ble_eq_true rfl) ?_
  conv => whnf
  refine ⟨⟨[0, 3, 4], fun m ws H => ∃ i : Nat, ws = [.sl 3 (vals l) f, .ms 1 0 0 (bs (keyS (l.take i))).length false, fI i] ∧ H = [.buf (bs (keyS (l.take i)))] ∧ i ≤ l.length ∧ m = l.length - i,
    .frz (l.length + 1) (.adopt (.sub _ _ (.cons (VSub.refl _) (.cons (ms0_row 1 0) (VSubs.refl _))) (HSub.refl _) (.go [0] rfl l.length (by omega) ⟨0, rfl, rfl, by omega, rfl⟩))), ?_⟩⟩
  rintro m ws H ⟨i, rfl, rfl, hi, rfl⟩
  conv => whnf
  refine branch_i (fun c1 => ?_) (fun c1 => ?_) <;> try rw [c1] <;> conv => whnf
  rotate_left
  focus
    have c1' := of_decide_eq_false c1
    rw [List.take_of_length_le (by omega)]
    refine ⟨(by omega : 0 + (bs (keyS l)).length ≤ (bs (keyS l)).length), keyS l, ?_, ?_⟩
    · show bytesOfEs (List.take (bs (keyS l)).length (List.drop 0 (bs (keyS l)))) = _
      rw [List.drop_zero, List.take_length]; exact bytesOfEs_bs _
    conv => whnf
    exact ⟨[], rfl, h⟩
  have c1' := of_decide_eq_true c1
  have hlt : i < l.length := by omega
  have hg : l[i]? = some l[i] := List.getElem?_eq_getElem hlt
  have hvt := hv l[i] (List.getElem_mem hlt)
  generalize l[i] = v at *
  have hsn := keyS_snoc hg
  have hP : (keyS (l.take i)).length ≤ 9000000 := Nat.le_trans (keyS_len fun w hw => hv w (List.mem_of_mem_take hw)) (by rw [List.length_take]; omega)
  generalize hPe : keyS (l.take i) = P at *
  refine ⟨_, ⟨by omega, vals_get hg⟩, ?_⟩
  conv => whnf
  refine ⟨Nat.le_refl _, ?_⟩
  conv => whnf
  refine ⟨rfl, ?_⟩
  conv => whnf
  refine ⟨Nat.le_trans (Nat.mul_le_mul_right _ (by rw [List.length_append, List.length_take, List.drop_zero]; exact Nat.add_le_add (show _ ≤ 9000000 by simp only [bs_len, List.length_append, List.length_cons, List.length_nil, List.length_take, List.length_drop]; omega) (Nat.le_trans (Nat.min_le_left _ _) (by decide)))) (show (9000000 + 2) * 1 ≤ 70368744177664 by omega), ?_⟩
  conv => whnf
  have goI : IntKind.i64.wrap ((i : Int) + 1) = ((i + 1 : Nat) : Int) := by rw [wrapI (by omega)]; rfl
  by_cases k1 : v.k = 1
  focus
    have hk : keyV v = [b8 v.k, b8 v.n] := by unfold keyV keyT; rw [if_pos k1]
    rw [hk] at hsn
    rw [show decide (v.k = 1) = true by simp [k1]]
    conv => whnf
    refine ⟨Nat.le_refl _, ?_⟩
    conv => whnf
    refine ⟨rfl, ?_⟩
    conv => whnf
    refine ⟨Nat.le_trans (Nat.mul_le_mul_right _ (by rw [List.length_append, List.length_take, List.drop_zero]; exact Nat.add_le_add (show _ ≤ 9000001 by simp only [bs_len, List.length_append, List.length_cons, List.length_nil, List.length_take, List.length_drop]; omega) (Nat.le_trans (Nat.min_le_left _ _) (by decide)))) (show (9000001 + 2) * 1 ≤ 70368744177664 by omega), ?_⟩
    conv => whnf
    refine .go [5] rfl (l.length - (i + 1)) (by omega) ⟨i + 1, ?_, ?_, by omega, rfl⟩
    · show [V.sl 3 (vals l) f, V.ms 1 0 0 (bs P ++ [[V.int .u8 (IntKind.u8.wrap v.k)]] ++ [[V.int .u8 (IntKind.u8.wrap v.n)]]).length false, V.int .i64 (IntKind.i64.wrap ((i : Int) + 1))] = _
      rw [goI, hsn]; simp [bs]
    · show [O.buf (bs P ++ [[V.int .u8 (IntKind.u8.wrap v.k)]] ++ [[V.int .u8 (IntKind.u8.wrap v.n)]])] = _
      rw [hsn]; simp [bs, b8_wrap]
  rw [show decide (v.k = 1) = false by simp [k1]]
  conv => whnf
  by_cases k2 : v.k = 2
  focus
    have hk : keyV v = b8 v.k :: beB (keyM v.n) 8 := by unfold keyV keyT; rw [if_neg k1, if_pos k2]
    rw [hk] at hsn
    rw [show decide (v.k = 2) = true by simp [k2]]
    conv => whnf
    refine ⟨⟨[0, 3, 4, 6, 7], fun m ws H => ∃ (j : Nat), ws = [.sl 3 (vals l) f, .ms 1 1 0 (bs (P ++ b8 v.k :: beB (keyM v.n) j)).length false, fI i, .int .u64 (beS (keyM v.n) j), fI j] ∧
      H = [.cells (valC v), .buf (bs (P ++ b8 v.k :: beB (keyM v.n) j))] ∧ j ≤ 8 ∧ m = 8 - j, .frz 9 (.go [1, 3] rfl 8 (by omega) ⟨0, ?_, ?_, by omega, rfl⟩), ?_⟩⟩
    · show [V.sl 3 (vals l) f, V.ms 1 1 0 (bs P ++ [[V.int .u8 (IntKind.u8.wrap v.k)]]).length false, fI i, V.int .u64 (keyM v.n), fI 0] = _
      simp [bs, beB, beS]
    · show [O.cells (valC v), O.buf (bs P ++ [[V.int .u8 (IntKind.u8.wrap v.k)]])] = _
      simp [bs, beB, b8_wrap]
    rintro m ws H ⟨j, rfl, rfl, hj, rfl⟩
    conv => whnf
    have hbl := beB_len (keyM v.n) j
    refine branch_i (fun d1 => ?_) (fun d1 => ?_) <;> try rw [d1] <;> conv => whnf
    focus
      have d1' := of_decide_eq_true d1
      refine ⟨by decide, ?_⟩
      conv => whnf
      refine ⟨Nat.le_refl _, ?_⟩
      conv => whnf
      refine ⟨rfl, ?_⟩
      conv => whnf
      refine ⟨Nat.le_trans (Nat.mul_le_mul_right _ (by rw [List.length_append, List.length_take, List.drop_zero]; exact Nat.add_le_add (show _ ≤ 9000009 by simp only [bs_len, List.length_append, List.length_cons, List.length_nil, List.length_take, List.length_drop]; omega) (Nat.le_trans (Nat.min_le_left _ _) (by decide)))) (show (9000009 + 2) * 1 ≤ 70368744177664 by omega), ?_⟩
      conv => whnf
      refine .go [0, 3] rfl (8 - (j + 1)) (by omega) ⟨j + 1, ?_, ?_, by omega, rfl⟩
      · show [V.sl 3 (vals l) f, V.ms 1 1 0 (bs (P ++ b8 v.k :: beB (keyM v.n) j) ++ [[V.int .u8 (IntKind.u8.wrap (IntKind.u64.wrap ((beS (keyM v.n) j).tdiv 72057594037927936)))]]).length false, fI i, V.int .u64 (IntKind.u64.wrap (beS (keyM v.n) j * 256)), V.int .i64 (IntKind.i64.wrap ((j : Int) + 1))] = _
        rw [wrapI (n := (j : Int) + 1) (by omega)]; simp [bs, beB, beS]
      · show [O.cells (valC v), O.buf (bs (P ++ b8 v.k :: beB (keyM v.n) j) ++ [[V.int .u8 (IntKind.u8.wrap (IntKind.u64.wrap ((beS (keyM v.n) j).tdiv 72057594037927936)))]])] = _
        simp [bs, beB, b8_wrap]
    have d1' := of_decide_eq_false d1
    have hj8 : j = 8 := by omega
    subst hj8
    refine .go [1] rfl (l.length - (i + 1)) (by omega) ⟨i + 1, ?_, ?_, by omega, rfl⟩
    · show [V.sl 3 (vals l) f, V.ms 1 0 0 (bs (P ++ b8 v.k :: beB (keyM v.n) 8)).length false, V.int .i64 (IntKind.i64.wrap ((i : Int) + 1))] = _
      rw [goI, hsn]
    · show [O.buf (bs (P ++ b8 v.k :: beB (keyM v.n) 8))] = _
      rw [hsn]
  rw [show decide (v.k = 2) = false by simp [k2]]
  conv => whnf
  by_cases k34 : v.k = 3 ∨ v.k = 4
  rotate_left
  focus
    have hk : keyV v = [b8 v.k] := by unfold keyV keyT; rw [if_neg k1, if_neg k2, if_neg k34]
    rw [hk] at hsn
    rw [show decide (v.k = 3) = false by simp; omega]
    conv => whnf
    rw [show decide (v.k = 4) = false by simp; omega]
    conv => whnf
    refine .go [3] rfl (l.length - (i + 1)) (by omega) ⟨i + 1, ?_, ?_, by omega, rfl⟩
    · show [V.sl 3 (vals l) f, V.ms 1 0 0 (bs P ++ [[V.int .u8 (IntKind.u8.wrap v.k)]]).length false, V.int .i64 (IntKind.i64.wrap ((i : Int) + 1))] = _
      rw [goI, hsn]; simp [bs]
    · show [O.buf (bs P ++ [[V.int .u8 (IntKind.u8.wrap v.k)]])] = _
      rw [hsn]; simp [bs, b8_wrap]
  have hk : keyV v = b8 v.k :: (escL v.t ++ [0, 1]) := by unfold keyV keyT; rw [if_neg k1, if_neg k2, if_pos k34]
  rw [hk] at hsn
  by_cases k3 : v.k = 3
  focus
    rw [show decide (v.k = 3) = true by simp [k3]]
    conv => whnf
  rotate_left
  focus
    rw [show decide (v.k = 3) = false by simp [k3]]
    conv => whnf
    rw [show decide (v.k = 4) = true by simp; omega]
    conv => whnf
  all_goals
    refine ⟨⟨[0, 3, 4, 5, 8], fun m ws H => ∃ (j : Nat), ws = [.sl 3 (vals l) f, .ms 1 1 0 (bs (P ++ b8 v.k :: escL (v.t.take j))).length false, fI i, .ptr 0 0, fI j] ∧
      H = [.cells (valC v), .buf (bs (P ++ b8 v.k :: escL (v.t.take j)))] ∧ j ≤ v.t.length ∧ m = v.t.length - j, .frz (v.t.length + 1) (.go [1, 3] rfl v.t.length (by omega) ⟨0, ?_, ?_, by omega, rfl⟩), ?_⟩⟩
    · show [V.sl 3 (vals l) f, V.ms 1 1 0 (bs P ++ [[V.int .u8 (IntKind.u8.wrap v.k)]]).length false, fI i, V.ptr 0 0, fI 0] = _
      simp [bs, escL]
    · show [O.cells (valC v), O.buf (bs P ++ [[V.int .u8 (IntKind.u8.wrap v.k)]])] = _
      simp [bs, escL, b8_wrap]
    rintro m ws H ⟨j, rfl, rfl, hj, rfl⟩
    conv => whnf
    have hel := escL_len (v.t.take j)
    rw [List.length_take] at hel
    refine branch_i (fun d1 => ?_) (fun d1 => ?_) <;> try rw [d1] <;> conv => whnf
    focus
      have d1' := of_decide_eq_true d1
      have hjl : j < v.t.length := by omega
      have hgb : v.t[j]? = some v.t[j] := List.getElem?_eq_getElem hjl
      generalize v.t[j] = b at *
      have hes := escL_snoc hgb
      refine ⟨b, ⟨by omega, hgb⟩, ?_⟩
      conv => whnf
      refine ⟨Nat.le_refl _, ?_⟩
      conv => whnf
      refine ⟨rfl, ?_⟩
      conv => whnf
      refine ⟨Nat.le_trans (Nat.mul_le_mul_right _ (by rw [List.length_append, List.length_take, List.drop_zero]; exact Nat.add_le_add (show _ ≤ 9010000 by simp only [bs_len, List.length_append, List.length_cons, List.length_nil, List.length_take, List.length_drop]; omega) (Nat.le_trans (Nat.min_le_left _ _) (by decide)))) (show (9010000 + 2) * 1 ≤ 70368744177664 by omega), ?_⟩
      conv => whnf
      refine ⟨b, ⟨by omega, hgb⟩, ?_⟩
      conv => whnf
      by_cases hb : b = 0
      · subst hb
        conv => whnf
        refine ⟨Nat.le_refl _, ?_⟩
        conv => whnf
        refine ⟨rfl, ?_⟩
        conv => whnf
        refine ⟨Nat.le_trans (Nat.mul_le_mul_right _ (by rw [List.length_append, List.length_take, List.drop_zero]; exact Nat.add_le_add (show _ ≤ 9010001 by simp only [bs_len, List.length_append, List.length_cons, List.length_nil, List.length_take, List.length_drop]; omega) (Nat.le_trans (Nat.min_le_left _ _) (by decide)))) (show (9010001 + 2) * 1 ≤ 70368744177664 by omega), ?_⟩
        conv => whnf
        have he : escB 0 = [0, 255] := rfl
        rw [he] at hes
        refine .go [0, 5] rfl (v.t.length - (j + 1)) (by omega) ⟨j + 1, ?_, ?_, by omega, rfl⟩
        · show [V.sl 3 (vals l) f, V.ms 1 1 0 (bs (P ++ b8 v.k :: escL (v.t.take j)) ++ [[V.int .u8 ((0 : UInt8).toNat : Int)]] ++ [[V.int .u8 255]]).length false, fI i, V.ptr 0 0, V.int .i64 (IntKind.i64.wrap ((j : Int) + 1))] = _
          rw [wrapI (n := (j : Int) + 1) (by omega), hes]; simp [bs]
        · show [O.cells (valC v), O.buf (bs (P ++ b8 v.k :: escL (v.t.take j)) ++ [[V.int .u8 ((0 : UInt8).toNat : Int)]] ++ [[V.int .u8 255]])] = _
          rw [hes]; simp [bs]
      · have hb' : ¬ (b.toNat : Int) = 0 := fun e => hb (by
          have : b.toNat = 0 := by omega
          exact UInt8.toNat_inj.1 (by rw [this]; rfl))
        rw [show decide ((b.toNat : Int) = 0) = false by simp only [hb', decide_false]]
        conv => whnf
        have he : escB b = [b] := by unfold escB; rw [if_neg hb]
        rw [he] at hes
        refine .go [0, 3] rfl (v.t.length - (j + 1)) (by omega) ⟨j + 1, ?_, ?_, by omega, rfl⟩
        · show [V.sl 3 (vals l) f, V.ms 1 1 0 (bs (P ++ b8 v.k :: escL (v.t.take j)) ++ [[V.int .u8 (b.toNat : Int)]]).length false, fI i, V.ptr 0 0, V.int .i64 (IntKind.i64.wrap ((j : Int) + 1))] = _
          rw [wrapI (n := (j : Int) + 1) (by omega), hes]; simp [bs]
        · show [O.cells (valC v), O.buf (bs (P ++ b8 v.k :: escL (v.t.take j)) ++ [[V.int .u8 (b.toNat : Int)]])] = _
          rw [hes]; simp [bs]
    have d1' := of_decide_eq_false d1
    have hjt : j = v.t.length := by omega
    subst hjt
    rw [List.take_length] at hel ⊢
    refine ⟨Nat.le_refl _, ?_⟩
    conv => whnf
    refine ⟨rfl, ?_⟩
    conv => whnf
    refine ⟨Nat.le_trans (Nat.mul_le_mul_right _ (by rw [List.length_append, List.length_take, List.drop_zero]; exact Nat.add_le_add (show _ ≤ 9010000 by simp only [bs_len, List.length_append, List.length_cons, List.length_nil, List.length_take, List.length_drop]; omega) (Nat.le_trans (Nat.min_le_left _ _) (by decide)))) (show (9010000 + 2) * 1 ≤ 70368744177664 by omega), ?_⟩
    conv => whnf
    refine .go [3] rfl (l.length - (i + 1)) (by omega) ⟨i + 1, ?_, ?_, by omega, rfl⟩
    · show [V.sl 3 (vals l) f, V.ms 1 0 0 (bs (P ++ b8 v.k :: escL v.t) ++ [[V.int .u8 0], [V.int .u8 1]]).length false, V.int .i64 (IntKind.i64.wrap ((i : Int) + 1))] = _
      rw [goI, hsn]; simp [bs]
    · show [O.buf (bs (P ++ b8 v.k :: escL v.t) ++ [[V.int .u8 0], [V.int .u8 1]])] = _
      rw [hsn]; simp [bs]

end Go.Proofs.YtgikkoeckdhgkaaDoorPg

/- Schemas: one that may be, made of any. -/
namespace Go.Proofs.YtgikkoeckdhgkaaDoorPg
open Go Go.RowKit
set_option linter.unusedSimpArgs false
set_option linter.unusedVariables false

variable {Q : V → List O → Prop}

/-- Find, in columns that may still be written. -/
theorem RFindM_spec {l : List Col} {keys : Int} {name : List UInt8} (hl : l.length < 1000000) (h : Q (fI (fnd name l 0)) [.buf (cols l)]) :
    ACall Tryd.prog 44 1 [.agg [.ms 3 0 0 (cols l).length false, fI keys], .str name] [.buf (cols l)] Q := by
  refine by_body Tryd.func44 1 rfl (Nat.le_of_ble_eq_true rfl) ?_
  conv => whnf
  have hlk := cols_len l
  refine ⟨⟨[1, 2, 5], fun m vs H => ∃ i : Nat, vs = [.str name, .ptr 1 0, fI i] ∧ H = [.buf (cols l), .cells [.ms 3 0 0 (cols l).length false, fI keys]] ∧ (∀ c ∈ l.take i, c.n ≠ name) ∧ i ≤ l.length ∧ m = l.length - i, .at _ ⟨0, rfl, rfl, by simp, Nat.zero_le _, rfl⟩, ?_⟩⟩
  rintro m vs H ⟨i, rfl, rfl, hn, hi, rfl⟩
  conv => whnf
  refine branch_i (fun c => ?_) (fun c => ?_) <;> try rw [c] <;> conv => whnf
  · have c' := of_decide_eq_true c
    have hlt : i < l.length := by omega
    have hget : l[i]? = some l[i] := List.getElem?_eq_getElem hlt
    refine ⟨by omega, ?_⟩
    conv => whnf
    refine ⟨_, cols_get hget, ?_⟩
    conv => whnf
    refine branch_i (fun c2 => ?_) (fun c2 => ?_) <;> try rw [c2] <;> conv => whnf
    · rw [fnd_here hn hget (of_decide_eq_true c2)] at h
      exact ⟨[0], rfl, h⟩
    · refine .go [0, 1] rfl (l.length - (i + 1)) (by omega) ⟨i + 1, ?_, rfl, take_snoc hn hget (of_decide_eq_false c2), by omega, rfl⟩
      show [V.str name, V.ptr 1 0, V.int .i64 (IntKind.i64.wrap ((i : Int) + 1))] = _
      rw [show IntKind.i64.wrap ((i : Int) + 1) = ((i + 1 : Nat) : Int) by rw [IntKind.wrap_i64]; omega]
  · have c' := of_decide_eq_false c
    rw [List.take_of_length_le (by omega)] at hn
    rw [fnd_none hn] at h
    exact ⟨[0], rfl, h⟩

theorem pool_get {i : Nat} (h : i < 6) : poolS[i]? = some (poolS.getD i []) := by
  have : i < poolS.length := h
  simp [List.getD, List.getElem?_eq_getElem this]

def GInv (l : List Col) (keys : Int) (G : List Col) (K : Int) (m : Nat) (vs : List V) (H : List O) : Prop :=
  ∃ j : Nat, vs = [.ptr 0 0, .ptr 1 0, .ptr 2 0, fI j] ∧ H = [.cells [.sl 3 (cols l) false, fI keys], .cells [.nils, fI 0], .cells [.ms 3 3 0 (cols (clearK j G)).length false, fI K], .buf (cols (clearK j G))] ∧ j ≤ K.toNat ∧ m = K.toNat - j

set_option maxHeartbeats 4000000 in
theorem RGood_spec {l : List Col} {keys : Int} (hkr : -9223372036854775808 ≤ keys ∧ keys ≤ 9223372036854775807) (h : Q (sch (goodL nameOk l keys) (goodK nameOk l keys)) []) : ACall Tryd.prog 20 0 [sch l keys] [] Q := by
  refine ACall.ret (by_body Tryd.func20 0 rfl (Nat.le_of_ble_eq_true rfl) ?_)
  conv => whnf
  have hlk := cols_len l
  refine ⟨⟨[1, 2, 3, 4, 5], fun m vs H => ∃ i : Nat, vs = [.ptr 0 0, .ptr 1 0, .ptr 2 0, .sl 1 (poolS.map fun s => [.str s]) true, fI i] ∧
    H = [.cells [.sl 3 (cols l) false, fI keys], .cells [.nils, fI 0], .cells [.ms 3 3 0 (cols (gN nameOk l i)).length false, fI 0], .buf (cols (gN nameOk l i))] ∧ i ≤ l.length ∧ i ≤ 6 ∧ m = 6 - i,
    .frz 7 (.frz 3 rfl (by repeat (first | exact trivial | refine And.intro (Nat.le_of_eq (Nat.zero_add _)) ?_)) (.adopt (.sub _ _ (VSubs.refl _) (.cons (.refl _) (.cons (.refl _) (.cons (.cells (.cons (VSub.ms0 3 4 0 false) (VSubs.refl _))) (.cons (.refl _) (HSub.refl _))))) (.go [0, 1, 2, 4] rfl 6 (by omega) ⟨0, rfl, rfl, by omega, by omega, rfl⟩)))), ?_⟩⟩
  rintro m vs H ⟨i, rfl, rfl, hi, hi2, rfl⟩
  conv => whnf
  refine branch_i (fun c => ?_) (fun c => ?_) <;> try rw [c] <;> conv => whnf
  focus refine branch_i (fun c2 => ?_) (fun c2 => ?_) <;> try rw [c2] <;> conv => whnf
  focus
    have c' := of_decide_eq_true c
    have c2' := of_decide_eq_true c2
    have hlt : i < l.length := by omega
    have hget : l[i]? = some l[i] := List.getElem?_eq_getElem hlt
    generalize l[i] = d at *
    have hgN : gN nameOk l (i + 1) = stepG nameOk (gN nameOk l i) i d := by
      show (match l[i]? with | some c => stepG nameOk (gN nameOk l i) i c | none => gN nameOk l i) = _
      rw [hget]
    have hgl := gN_len nameOk l i
    have hwi : IntKind.i64.wrap ((i : Int) + 1) = ((i + 1 : Nat) : Int) := by rw [IntKind.wrap_i64]; omega
    have hpg : (poolS.map fun s => [V.str s])[i]? = some [.str (poolS.getD i [])] := by rw [List.getElem?_map, pool_get (by omega)]; rfl
    generalize hg : gN nameOk l i = g at *
    have hgc := cols_len g
    refine ⟨_, ⟨by omega, cols_get hget⟩, ?_⟩
    conv => whnf
    refine branch_i (fun c3 => ?_) (fun c3 => ?_) <;> try rw [c3] <;> conv => whnf
    all_goals
      refine ⟨by decide, ?_⟩
      conv => whnf
    focus
      rw [show IntKind.i64.wrap (1 + (IntKind.i64.wrap (0 - IntKind.i64.wrap (d.k + 1))).tmod 4) = gKind d.k by unfold gKind natI; rw [if_pos (of_decide_eq_true c3)]]
    rotate_left
    focus
      rw [show IntKind.i64.wrap (1 + d.k.tmod 4) = gKind d.k by unfold gKind natI; rw [if_neg (of_decide_eq_false c3)]]
    all_goals
      refine .call [] 0 ⟨rfl, rfl, rfl⟩ (RName_spec ?_)
      conv => whnf
      refine branch_i (fun c4 => ?_) (fun c4 => ?_) <;> try rw [c4] <;> conv => whnf
    all_goals first
      | (have hnm : gName nameOk g i d = poolS.getD i [] := by unfold gName; rw [if_pos (.inl (by simpa using c4))]
         refine ⟨[V.str (poolS.getD i [])], ⟨by omega, hpg⟩, ?_⟩
         conv => whnf)
      | (refine .call [3] 1 ⟨rfl, rfl, rfl⟩ (RFindM_spec (by omega) ?_)
         conv => whnf
         refine branch_i (fun c5 => ?_) (fun c5 => ?_) <;> try rw [c5] <;> conv => whnf
         focus
           have hnm : gName nameOk g i d = poolS.getD i [] := by unfold gName; rw [if_pos (.inr (of_decide_eq_true c5))]
           refine ⟨[V.str (poolS.getD i [])], ⟨by omega, hpg⟩, ?_⟩
           conv => whnf
         rotate_left
         have hnm : gName nameOk g i d = d.n := by
           unfold gName
           rw [if_neg]
           rintro (hx | hx)
           · simp [hx] at c4
           · exact of_decide_eq_false c5 hx)
    all_goals
      unfold stepG at hgN
      rw [hnm] at hgN
      refine .call [3] 1 ⟨rfl, rfl, rfl⟩ (RFindM_spec (by omega) ?_)
      conv => whnf
      refine branch_i (fun c6 => ?_) (fun c6 => ?_) <;> try rw [c6] <;> conv => whnf
      · rw [if_pos (of_decide_eq_true c6)] at hgN
        refine ⟨Nat.le_refl _, ?_⟩
        conv => whnf
        refine ⟨rfl, ?_⟩
        conv => whnf
        refine ⟨Nat.le_trans (Nat.mul_le_mul_right _ (by rw [List.length_append, List.length_take, List.drop_zero]; exact Nat.add_le_add (show (cols g).length ≤ i by omega) (Nat.min_le_left _ _))) (show (i + 1) * 32 ≤ 70368744177664 by omega), ?_⟩
        conv => whnf
        refine .go [0, 1, 2, 6] rfl (6 - (i + 1)) (by omega) ⟨i + 1, ?_, ?_, by omega, by omega, rfl⟩
        · show [V.ptr 0 0, V.ptr 1 0, V.ptr 2 0, V.sl 1 (poolS.map fun s => [V.str s]) true, V.int .i64 (IntKind.i64.wrap ((i : Int) + 1))] = _
          rw [hwi]
        · rw [hgN, cols_app]
          rfl
      · rw [if_neg (of_decide_eq_false c6)] at hgN
        refine .go [0, 1, 2, 3] rfl (6 - (i + 1)) (by omega) ⟨i + 1, ?_, ?_, by omega, by omega, rfl⟩
        · show [V.ptr 0 0, V.ptr 1 0, V.ptr 2 0, V.sl 1 (poolS.map fun s => [V.str s]) true, V.int .i64 (IntKind.i64.wrap ((i : Int) + 1))] = _
          rw [hwi]
        · rw [hgN]; rfl
  all_goals
    have hgi : gN nameOk l i = gN nameOk l (min l.length 6) := by
      congr 1
      first
        | (have c' := of_decide_eq_false c; omega)
        | (have c' := of_decide_eq_false c2; omega)
    have hG := gCols_len nameOk l
    have hGd : gCols nameOk l = match gN nameOk l i with | [] => [⟨[105, 100], 2, false⟩] | g => g := by rw [hgi]; rfl
    have hgl := gN_len nameOk l i
    clear hgi c
    try clear c2
    generalize gN nameOk l i = g at *
    have hmin : ∀ n : Nat, (if (3 : Int) < (n : Int) then (3 : Int) else (n : Int)) = ((min n 3 : Nat) : Int) := fun n => by split <;> omega
    have hneg : keys < 0 → natI keys = IntKind.i64.wrap (0 - IntKind.i64.wrap (keys + 1)) := fun h => by unfold natI; rw [if_pos h]
    have hpos : ¬ keys < 0 → natI keys = keys := fun h => by unfold natI; rw [if_neg h]
    rcases g with _ | ⟨x, r⟩
    focus
      simp only at hGd
      conv => whnf
      refine ⟨Nat.le_refl _, ?_⟩
      conv => whnf
      refine ⟨rfl, ?_⟩
      conv => whnf
      refine ⟨(show (1 : Nat) * 32 ≤ 70368744177664 by decide), ?_⟩
      conv => whnf
      refine branch_i (fun c3 => ?_) (fun c3 => ?_) <;> try rw [c3] <;> conv => whnf
      all_goals
        refine ⟨(show (1 : Int) ≠ 0 by decide), ?_⟩
        conv => whnf
        refine ⟨⟨[1, 2, 3, 10], GInv l keys (gCols nameOk l) (gKeys (gCols nameOk l).length keys), .frz ((gKeys (gCols nameOk l).length keys).toNat + 1) (.go [0, 1, 2, 5] rfl (gKeys (gCols nameOk l).length keys).toNat (by omega) ⟨0, rfl, ?_, Nat.zero_le _, rfl⟩), ?_⟩⟩
        focus
          first
            | (have hx := hneg (of_decide_eq_true c3)
               show [O.cells [.sl 3 (cols l) false, fI keys], .cells [.nils, fI 0], .cells [.ms 3 3 0 1 false, V.int .i64 (IntKind.i64.wrap (1 + (IntKind.i64.wrap (0 - IntKind.i64.wrap (keys + 1))).tmod 1))], .buf [[V.str [105, 100], V.int .i64 2, V.bool false]]] = _
               rw [← hx, hGd]; rfl)
            | (have hx := hpos (of_decide_eq_false c3)
               show [O.cells [.sl 3 (cols l) false, fI keys], .cells [.nils, fI 0], .cells [.ms 3 3 0 1 false, V.int .i64 (IntKind.i64.wrap (1 + keys.tmod 1))], .buf [[V.str [105, 100], V.int .i64 2, V.bool false]]] = _
               rw [hGd]; unfold gKeys; rw [hx]; rfl)
    rotate_left 2
    focus
      simp only at hGd
      conv => whnf
      refine branch_i (fun c3 => ?_) (fun c3 => ?_) <;> try rw [c3] <;> conv => whnf
      all_goals
        refine ⟨(show (if (3 : Int) < ((cols (x :: r)).length : Int) then (3 : Int) else ((cols (x :: r)).length : Int)) ≠ 0 by rw [hmin, cols_len]; simp), ?_⟩
        conv => whnf
        refine ⟨⟨[1, 2, 3, 10], GInv l keys (gCols nameOk l) (gKeys (gCols nameOk l).length keys), .frz ((gKeys (gCols nameOk l).length keys).toNat + 1) (.go [0, 1, 2, 3] rfl (gKeys (gCols nameOk l).length keys).toNat (by omega) ⟨0, rfl, ?_, Nat.zero_le _, rfl⟩), ?_⟩⟩
        focus
          first
            | (have hx := hneg (of_decide_eq_true c3)
               show [O.cells [.sl 3 (cols l) false, fI keys], .cells [.nils, fI 0], .cells [.ms 3 3 0 (cols (x :: r)).length false, V.int .i64 (IntKind.i64.wrap (1 + (IntKind.i64.wrap (0 - IntKind.i64.wrap (keys + 1))).tmod (if (3 : Int) < ((cols (x :: r)).length : Int) then (3 : Int) else ((cols (x :: r)).length : Int))))], .buf (cols (x :: r))] = _
               rw [← hx, hmin, show min (cols (x :: r)).length 3 = min (x :: r).length 3 by rw [cols_len], hGd]; rfl)
            | (have hx := hpos (of_decide_eq_false c3)
               show [O.cells [.sl 3 (cols l) false, fI keys], .cells [.nils, fI 0], .cells [.ms 3 3 0 (cols (x :: r)).length false, V.int .i64 (IntKind.i64.wrap (1 + keys.tmod (if (3 : Int) < ((cols (x :: r)).length : Int) then (3 : Int) else ((cols (x :: r)).length : Int))))], .buf (cols (x :: r))] = _
               rw [hmin, show min (cols (x :: r)).length 3 = min (x :: r).length 3 by rw [cols_len], hGd]; unfold gKeys; rw [hx]; rfl)
    all_goals
      have hKo := gKeys_ok hG.1 hkr
      clear hGd hneg hpos c3
      have hgood : goodL nameOk l keys = clearK (gKeys (gCols nameOk l).length keys).toNat (gCols nameOk l) := rfl
      have hgk : goodK nameOk l keys = gKeys (gCols nameOk l).length keys := rfl
      rw [hgood, hgk] at h
      clear hgood hgk
      generalize gKeys (gCols nameOk l).length keys = K at *
      generalize gCols nameOk l = G at *
      rintro m vs H ⟨j, rfl, rfl, hj, rfl⟩
      have hcl := clearK_len j G
      have hcc := cols_len (clearK j G)
      conv => whnf
      refine branch_i (fun c => ?_) (fun c => ?_) <;> try rw [c] <;> conv => whnf
      · have c' := of_decide_eq_true c
        have hlt : j < G.length := by omega
        have hget : G[j]? = some G[j] := List.getElem?_eq_getElem hlt
        generalize G[j] = d at *
        have hget2 : (clearK j G)[j]? = some d := by rw [clearK_get, hget]; simp
        have hsn := clearK_snoc hget
        refine ⟨by omega, ?_⟩
        conv => whnf
        refine ⟨_, cols_get hget2, ?_⟩
        conv => whnf
        have hset : cols (clearK (j + 1) G) = (cols (clearK j G)).set j [V.str d.n, V.int .i64 d.k, V.bool false] := by
          rw [← hsn]; simp [cols, List.map_set, colC]
        have hsl : (cols (clearK (j + 1) G)).length = (cols (clearK j G)).length := by rw [hset, List.length_set]
        refine .go [0, 1, 2, 3] rfl (K.toNat - (j + 1)) (by omega) ⟨j + 1, ?_, ?_, by omega, rfl⟩
        · show [V.ptr 0 0, V.ptr 1 0, V.ptr 2 0, V.int .i64 (IntKind.i64.wrap ((j : Int) + 1))] = _
          rw [show IntKind.i64.wrap ((j : Int) + 1) = ((j + 1 : Nat) : Int) by rw [IntKind.wrap_i64]; omega]
        · show [O.cells [.sl 3 (cols l) false, fI keys], .cells [.nils, fI 0], .cells [.ms 3 3 0 (cols (clearK j G)).length false, fI K], .buf ((cols (clearK j G)).set j [V.str d.n, V.int .i64 d.k, V.bool false])] = _
          rw [← hset, ← hsl]
      · have c' := of_decide_eq_false c
        have e : j = K.toNat := by omega
        subst e
        refine ⟨[3], rfl, .frz 0 rfl (by repeat (first | exact trivial | refine And.intro (Nat.le_of_eq (Nat.zero_add _)) ?_)) (.done [] rfl ?_)⟩
        show Q (.agg [.sl 3 (List.take (cols (clearK K.toNat G)).length (cols (clearK K.toNat G))) false, fI K]) []
        rw [List.take_length]; exact h

end Go.Proofs.YtgikkoeckdhgkaaDoorPg

/- Schemas: the one that is made may be. -/
namespace Go.Proofs.YtgikkoeckdhgkaaDoorPg
open Go Go.RowKit
set_option linter.unusedSimpArgs false
set_option linter.unusedVariables false

variable {Q : V → List O → Prop}

theorem fnd_neg {name : List UInt8} : ∀ {l : List Col} {i : Nat}, fnd name l i < 0 → ∀ c ∈ l, c.n ≠ name
  | [], _, _, c, hc => by simp at hc
  | d :: l, i, h, c, hc => by
    unfold fnd at h
    split at h
    · omega
    · rename_i hn
      rcases List.mem_cons.1 hc with rfl | hc
      · exact hn
      · exact fnd_neg h c hc

def NamesOk (l : List Col) : Prop := (l.map Col.n).Pairwise (· ≠ ·)
def ColOk (c : Col) : Prop := nameOk c.n = true ∧ kindOk c.k = true

theorem fnd_at {l : List Col} (h : NamesOk l) {i : Nat} {c : Col} (hc : l[i]? = some c) : fnd c.n l 0 = i := by
  refine fnd_here (fun d hd => ?_) hc rfl
  obtain ⟨j, hj, rfl⟩ := List.mem_iff_getElem.1 hd
  rw [List.length_take] at hj
  have hlt := (List.getElem?_eq_some_iff.1 hc).1
  have he := (List.getElem?_eq_some_iff.1 hc).2
  have := List.pairwise_iff_getElem.1 h j i (by simp; omega) (by simpa using hlt) (by omega)
  simp only [List.getElem_map] at this
  rw [List.getElem_take, ← he]
  exact this

theorem pool_ok : ∀ i < 6, nameOk (poolS.getD i []) = true := by decide

theorem kindOk_g {k : Int} (h : -9223372036854775808 ≤ k ∧ k ≤ 9223372036854775807) : kindOk (gKind k) = true := by
  have := gKind_ok h
  unfold kindOk
  simp; omega

def I64 (k : Int) : Prop := -9223372036854775808 ≤ k ∧ k ≤ 9223372036854775807

theorem step_ok {g : List Col} {i : Nat} {c : Col} (hi : i < 6) (h1 : NamesOk g) (h2 : ∀ d ∈ g, ColOk d) (hc : I64 c.k) : NamesOk (stepG nameOk g i c) ∧ ∀ d ∈ stepG nameOk g i c, ColOk d := by
  unfold stepG
  split
  · rename_i hf
    have hne := fnd_neg hf
    have hok : nameOk (gName nameOk g i c) = true := by
      unfold gName
      split
      · exact pool_ok i hi
      · rename_i hx
        cases h : nameOk c.n with
        | true => rfl
        | false => exact absurd (.inl h) hx
    refine ⟨?_, fun d hd => ?_⟩
    · unfold NamesOk
      rw [List.map_append, List.pairwise_append]
      refine ⟨h1, by simp, fun a ha b hb => ?_⟩
      obtain ⟨d, hd, rfl⟩ := List.mem_map.1 ha
      simp at hb
      subst hb
      exact hne d hd
    · rcases List.mem_append.1 hd with hd | hd
      · exact h2 d hd
      · simp at hd
        subst hd
        exact ⟨hok, kindOk_g hc⟩
  · exact ⟨h1, h2⟩

theorem gN_ok {l : List Col} (hl : ∀ c ∈ l, I64 c.k) : ∀ i ≤ 6, NamesOk (gN nameOk l i) ∧ ∀ d ∈ gN nameOk l i, ColOk d
  | 0, _ => by simp [gN, NamesOk]
  | i + 1, hi => by
    have ih := gN_ok hl i (by omega)
    unfold gN
    split
    · rename_i c hc
      exact step_ok (by omega) ih.1 ih.2 (hl c (List.mem_of_getElem? hc))
    · exact ih

theorem gCols_ok {l : List Col} (hl : ∀ c ∈ l, I64 c.k) : NamesOk (gCols nameOk l) ∧ ∀ d ∈ gCols nameOk l, ColOk d := by
  have := gN_ok hl (min l.length 6) (by omega)
  unfold gCols
  split
  · refine ⟨by simp [NamesOk], fun d hd => ?_⟩
    simp at hd
    subst hd
    exact ⟨by decide, by decide⟩
  · exact this

theorem clearK_names (k : Nat) (l : List Col) : (clearK k l).map Col.n = l.map Col.n := by
  refine List.ext_getElem? fun i => ?_
  rw [List.getElem?_map, List.getElem?_map, clearK_get]
  cases l[i]? with
  | none => rfl
  | some c => by_cases h : i < k <;> simp [h]

theorem good_names {l : List Col} (hl : ∀ c ∈ l, I64 c.k) (keys : Int) : NamesOk (goodL nameOk l keys) ∧ ∀ d ∈ goodL nameOk l keys, ColOk d := by
  obtain ⟨h1, h2⟩ := gCols_ok hl
  unfold goodL
  refine ⟨by unfold NamesOk; rw [clearK_names]; exact h1, fun d hd => ?_⟩
  obtain ⟨i, hi⟩ := List.mem_iff_getElem?.1 hd
  rw [clearK_get] at hi
  cases hc : (gCols nameOk l)[i]? with
  | none => rw [hc] at hi; cases hi
  | some c =>
    rw [hc] at hi
    have := h2 c (List.mem_of_getElem? hc)
    simp only [Option.map_some, Option.some.injEq] at hi
    subst hi
    split
    · exact this
    · exact this

theorem good_len (l : List Col) (keys : Int) : 1 ≤ (goodL nameOk l keys).length ∧ (goodL nameOk l keys).length ≤ 6 := by
  unfold goodL
  rw [clearK_len]; exact gCols_len _ _

theorem good_keys {l : List Col} {keys : Int} (hk : I64 keys) : 1 ≤ goodK nameOk l keys ∧ goodK nameOk l keys ≤ 3 ∧ goodK nameOk l keys ≤ (goodL nameOk l keys).length := by
  unfold goodK goodL
  rw [clearK_len]
  exact gKeys_ok (gCols_len _ _).1 hk

theorem good_may {l : List Col} {keys : Int} (hl : ∀ c ∈ l, I64 c.k) (hk : I64 keys) : mayS (goodL nameOk l keys) (goodK nameOk l keys) = true := by
  obtain ⟨h1, h2⟩ := good_names hl keys
  obtain ⟨k1, k2, k3⟩ := good_keys (l := l) hk
  have hlen := good_len l keys
  refine mayS_yes (by unfold mayH; simp; omega) fun i c hc => ?_
  obtain ⟨g1, g2⟩ := h2 c (List.mem_of_getElem? hc)
  unfold mayC
  rw [g1, g2, fnd_at h1 hc]
  simp
  rcases Int.lt_or_le (i : Int) (goodK nameOk l keys) with hi | hi
  rotate_left
  · exact .inl hi
  refine .inr ?_
  unfold goodL at hc
  rw [clearK_get] at hc
  cases hd : (gCols nameOk l)[i]? with
  | none => rw [hd] at hc; cases hc
  | some d =>
    rw [hd] at hc
    simp only [Option.map_some, Option.some.injEq] at hc
    have : i < (gKeys (gCols nameOk l).length keys).toNat := by
      unfold goodK at hi
      omega
    rw [if_pos this] at hc
    rw [← hc]

end Go.Proofs.YtgikkoeckdhgkaaDoorPg

/- Schemas: the example; the law SchemaMay. -/
namespace Go.Proofs.YtgikkoeckdhgkaaDoorPg
open Go Go.RowKit
set_option linter.unusedSimpArgs false
set_option linter.unusedVariables false

variable {Q : V → List O → Prop}

def idS : List UInt8 := [105, 100]
def nameS : List UInt8 := [110, 97, 109, 101]
def exCols : List Col := [⟨idS, 2, false⟩, ⟨nameS, 3, false⟩]

theorem ex_cut1 : applyS exCols 1 4 ⟨idS, 0, false⟩ = ([], 0, 10) := by decide
theorem ex_cut2 : applyS exCols 1 4 ⟨nameS, 0, false⟩ = ([⟨idS, 2, false⟩], 1, 0) := by decide
theorem ex_may : mayS exCols 1 = true := by decide

theorem same_self (l : List Col) (k : Int) : sameS l k l k = true := by simp [sameS]

theorem VSub.of_eq {a b : V} (h : a = b) : VSub a b := by subst h; exact VSub.refl _

theorem frz_cols (a : List Col) (n : Nat) (hn : n = a.length) : VSub (.sl 3 (List.take n (List.drop 0 (cols a))) false) (.sl 3 (cols a) false) :=
  VSub.of_eq (by subst hn; rw [List.drop_zero, List.take_of_length_le (by rw [cols_len]; omega)])

theorem cutL_ok {l : List Col} (hl : ∀ c ∈ l, I64 c.k) : ∀ c ∈ cutL l, I64 c.k := by
  intro c hc
  simp only [cutL, List.mem_map] at hc
  obtain ⟨d, hd, rfl⟩ := hc
  exact hl d (List.mem_of_mem_take hd)

theorem cols_of : ∀ {es : List (List V)}, (∀ x ∈ es, ∃ (s : List UInt8) (k : Int) (o : Bool), x = [.str s, .int .i64 k, .bool o] ∧ I64 k) → ∃ l, es = cols l ∧ ∀ c ∈ l, I64 c.k
  | [], _ => ⟨[], rfl, by simp⟩
  | x :: es, h => by
    obtain ⟨s, k, o, rfl, hk⟩ := h x (by simp)
    obtain ⟨l, rfl, hl⟩ := cols_of (es := es) fun y hy => h y (by simp [hy])
    exact ⟨⟨s, k, o⟩ :: l, rfl, by simpa using ⟨hk, hl⟩⟩

theorem i64_wf {k : Int} (h : (Lit.int .i64 k).wf = true) : I64 k := by
  have h' : (decide (IntKind.i64.min ≤ k) && decide (k ≤ IntKind.i64.max)) = true := h
  rw [Bool.and_eq_true] at h'
  exact ⟨of_decide_eq_true h'.1, of_decide_eq_true h'.2⟩

theorem sch_in {vs : List V} (h : Shp tt 8 27 vs) : ∃ l k, argV tt 27 vs = sch l k ∧ (∀ c ∈ l, I64 c.k) ∧ I64 k := by
  obtain ⟨_, _, ⟨es, _, g1, rfl⟩, ⟨_, _, ⟨k, hk, rfl⟩, rfl, rfl⟩, rfl⟩ := h
  obtain ⟨l, rfl, hl⟩ := cols_of fun x hx => by
    obtain ⟨_, _, ⟨s, _, rfl⟩, ⟨_, _, ⟨k, hk, rfl⟩, ⟨_, _, ⟨o, rfl⟩, rfl, rfl⟩, rfl⟩, rfl⟩ := g1 x hx
    exact ⟨s, k, o, rfl, i64_wf hk⟩
  exact ⟨l, k, rfl, hl, i64_wf hk⟩

end Go.Proofs.YtgikkoeckdhgkaaDoorPg

/- Schemas: what a change leaves may be; the law SchemaApplies. -/
namespace Go.Proofs.YtgikkoeckdhgkaaDoorPg
open Go Go.RowKit
set_option linter.unusedSimpArgs false
set_option linter.unusedVariables false

variable {Q : V → List O → Prop}

structure SchOk (l : List Col) (keys : Int) : Prop where
  names : NamesOk l
  cols : ∀ d ∈ l, ColOk d
  lo : 1 ≤ keys
  hi : keys ≤ 4
  len : keys ≤ l.length
  most : l.length ≤ 16
  keyed : ∀ (i : Nat) (c : Col), (i : Int) < keys → l[i]? = some c → c.o = false

theorem SchOk.may {l : List Col} {keys : Int} (h : SchOk l keys) : mayS l keys = true := by
  have h1 := h.lo; have h2 := h.hi; have h3 := h.len; have h4 := h.most
  refine mayS_yes (by unfold mayH; simp; omega) fun i c hc => ?_
  obtain ⟨g1, g2⟩ := h.cols c (List.mem_of_getElem? hc)
  unfold mayC
  rw [g1, g2, fnd_at h.names hc]
  simp
  rcases Int.lt_or_le (i : Int) keys with hi | hi
  rotate_left
  · exact .inl hi
  · exact .inr (h.keyed i c hi hc)

theorem good_ok {l : List Col} {keys : Int} (hl : ∀ c ∈ l, I64 c.k) (hk : I64 keys) : SchOk (goodL nameOk l keys) (goodK nameOk l keys) := by
  obtain ⟨h1, h2⟩ := good_names hl keys
  obtain ⟨k1, k2, k3⟩ := good_keys (l := l) hk
  have hlen := good_len l keys
  refine ⟨h1, h2, k1, by omega, k3, by omega, fun i c hi hc => ?_⟩
  unfold goodL at hc
  rw [clearK_get] at hc
  cases hd : (gCols nameOk l)[i]? with
  | none => rw [hd] at hc; cases hc
  | some d =>
    rw [hd] at hc
    simp only [Option.map_some, Option.some.injEq] at hc
    have : i < (gKeys (gCols nameOk l).length keys).toNat := by
      unfold goodK at hi
      omega
    rw [if_pos this] at hc
    rw [← hc]

theorem good_len6 (l : List Col) (keys : Int) : (goodL nameOk l keys).length ≤ 6 := (good_len l keys).2

theorem add_ok {l : List Col} {keys : Int} {c : Col} (h : SchOk l keys) (he : (addS l keys c).2.2 = 0) : SchOk (addS l keys c).1 (addS l keys c).2.1 := by
  unfold addS at he ⊢
  by_cases h1 : (nameOk c.n && kindOk c.k && c.o) = true
  rotate_left
  · rw [if_neg h1] at he; simp at he
  rw [if_pos h1] at he ⊢
  by_cases h2 : 0 ≤ fnd c.n l 0
  · rw [if_pos h2] at he; simp at he
  rw [if_neg h2] at he ⊢
  by_cases h3 : l.length = 16
  · rw [if_pos h3] at he; simp at he
  rw [if_neg h3]
  simp only [Bool.and_eq_true] at h1
  have h4 := h.most; have h5 := h.len
  refine ⟨?_, fun d hd => ?_, h.lo, h.hi, by simp only [List.length_append, List.length_singleton]; omega, by simp only [List.length_append, List.length_singleton]; omega, fun i d hi hd => ?_⟩
  · unfold NamesOk
    rw [List.map_append, List.pairwise_append]
    refine ⟨h.names, by simp, fun a ha b hb => ?_⟩
    obtain ⟨d, hd, rfl⟩ := List.mem_map.1 ha
    simp at hb
    subst hb
    exact fnd_neg (i := 0) (by omega) d hd
  · rcases List.mem_append.1 hd with hd | hd
    · exact h.cols d hd
    · simp at hd; subst hd; exact ⟨h1.1.1, h1.1.2⟩
  · have hi' : (i : Int) < keys := hi
    refine h.keyed i d hi' ?_
    rwa [List.getElem?_append_left (by omega)] at hd

theorem cut_ok {l : List Col} {keys : Int} {c : Col} (h : SchOk l keys) (he : (cutS l keys c).2.2 = 0) : SchOk (cutS l keys c).1 (cutS l keys c).2.1 := by
  unfold cutS at he ⊢
  by_cases h1 : fnd c.n l 0 < 0
  · rw [if_pos h1] at he; simp at he
  rw [if_neg h1] at he ⊢
  by_cases h2 : fnd c.n l 0 < keys
  · rw [if_pos h2] at he; simp at he
  rw [if_neg h2]
  have hf := fnd_lt (name := c.n) (l := l) (i := 0)
  have h3 := h.lo; have h4 := h.most; have h5 := h.len
  generalize hi : (fnd c.n l 0).toNat = i
  have hlt : i < l.length := by omega
  have hk : keys ≤ (i : Int) := by omega
  refine ⟨?_, fun d hd => h.cols d ((List.eraseIdx_sublist _ _).subset hd), h.lo, h.hi, by simp only [List.length_eraseIdx, if_pos hlt]; omega, by simp only [List.length_eraseIdx, if_pos hlt]; omega, fun j d hj hd => ?_⟩
  · unfold NamesOk
    exact h.names.sublist ((List.eraseIdx_sublist _ _).map _)
  · have hj' : (j : Int) < keys := hj
    simp only [List.getElem?_eraseIdx] at hd
    rw [if_pos (by omega)] at hd
    exact h.keyed j d hj hd

theorem setKind_len (l : List Col) (i : Nat) (k : Int) : (setKind l i k).length = l.length := by simp [setKind]
theorem setKind_names (l : List Col) (i : Nat) (k : Int) : (setKind l i k).map Col.n = l.map Col.n := by
  refine List.ext_getElem? fun j => ?_
  rw [List.getElem?_map, List.getElem?_map, setKind, List.getElem?_modify]
  cases l[j]? with
  | none => simp
  | some d => by_cases e : i = j <;> simp [e]

theorem ret_ok {l : List Col} {keys : Int} {c : Col} (h : SchOk l keys) (he : (retS l keys c).2.2 = 0) : SchOk (retS l keys c).1 (retS l keys c).2.1 := by
  unfold retS at he ⊢
  by_cases h1 : fnd c.n l 0 < 0
  · rw [if_pos h1] at he; simp at he
  rw [if_neg h1] at he ⊢
  by_cases h2 : fnd c.n l 0 < keys
  · rw [if_pos h2] at he; simp at he
  rw [if_neg h2] at he ⊢
  by_cases h3 : ((l[(fnd c.n l 0).toNat]?).map Col.o).getD false = false
  · rw [if_pos h3] at he; simp at he
  rw [if_neg h3] at he ⊢
  by_cases h4 : kindOk c.k = true
  rotate_left
  · rw [if_neg h4] at he; simp at he
  rw [if_pos h4]
  have hf := fnd_lt (name := c.n) (l := l) (i := 0)
  have g3 := h.lo; have g4 := h.most; have g5 := h.len
  generalize hi : (fnd c.n l 0).toNat = i
  have hlt : i < l.length := by omega
  have hk : keys ≤ (i : Int) := by omega
  refine ⟨by unfold NamesOk; rw [setKind_names]; exact h.names, fun d hd => ?_, h.lo, h.hi, by simp only [setKind_len]; omega, by simp only [setKind_len]; omega, fun j d hj hd => ?_⟩
  · obtain ⟨j, hj⟩ := List.mem_iff_getElem?.1 hd
    rw [setKind, List.getElem?_modify] at hj
    cases hx : l[j]? with
    | none => rw [hx] at hj; simp at hj
    | some x =>
      rw [hx] at hj
      have hx' := h.cols x (List.mem_of_getElem? hx)
      by_cases e : i = j
      · simp [e] at hj; subst hj; exact ⟨hx'.1, h4⟩
      · simp [e] at hj; subst hj; exact hx'
  · have hj' : (j : Int) < keys := hj
    have hne : i ≠ j := by omega
    rw [setKind, List.getElem?_modify] at hd
    cases hx : l[j]? with
    | none => rw [hx] at hd; simp at hd
    | some x =>
      rw [hx] at hd
      simp [hne] at hd
      subst hd
      exact h.keyed j x hj' hx

theorem apply_ok {l : List Col} {keys k : Int} {c : Col} (h : SchOk l keys) (he : (applyS l keys k c).2.2 = 0) : SchOk (applyS l keys k c).1 (applyS l keys k c).2.1 := by
  unfold applyS at he ⊢
  by_cases h1 : k = 3
  · rw [if_pos h1] at he ⊢; exact add_ok h he
  rw [if_neg h1] at he ⊢
  by_cases h2 : k = 4
  · rw [if_pos h2] at he ⊢; exact cut_ok h he
  rw [if_neg h2] at he ⊢
  by_cases h3 : k = 5
  · rw [if_pos h3] at he ⊢; exact ret_ok h he
  rw [if_neg h3] at he
  simp at he

theorem apply_len (l : List Col) (keys k : Int) (c : Col) : (applyS l keys k c).1.length ≤ l.length + 1 := by
  have he : ∀ i, (l.eraseIdx i).length ≤ l.length + 1 := fun i => by have := (List.eraseIdx_sublist l i).length_le; omega
  unfold applyS addS cutS retS
  repeat' split
  all_goals first | exact he _ | simp [setKind_len]

theorem chg_in {vs : List V} (h : Shp tt 8 58 vs) : ∃ k s l k3 c, argV tt 58 vs = chg k (.str s) (.sl 3 (cols l) false) (fI k3) c ∧ I64 k ∧ I64 c.k := by
  obtain ⟨_, _, ⟨k, hk, rfl⟩, ⟨_, _, ⟨s, _, rfl⟩, ⟨_, _, ⟨_, _, ⟨es, _, g1, rfl⟩, ⟨_, _, ⟨k3, hk3, rfl⟩, rfl, rfl⟩, rfl⟩, ⟨_, _, ⟨_, _, ⟨n, _, rfl⟩, ⟨_, _, ⟨ck, hck, rfl⟩, ⟨_, _, ⟨o, rfl⟩, rfl, rfl⟩, rfl⟩, rfl⟩, rfl, rfl⟩, rfl⟩, rfl⟩, rfl⟩ := h
  obtain ⟨l, rfl, hl⟩ := cols_of fun x hx => by
    obtain ⟨_, _, ⟨s, _, rfl⟩, ⟨_, _, ⟨k, hk, rfl⟩, ⟨_, _, ⟨o, rfl⟩, rfl, rfl⟩, rfl⟩, rfl⟩ := g1 x hx
    exact ⟨s, k, o, rfl, i64_wf hk⟩
  exact ⟨k, s, l, k3, ⟨n, ck, o⟩, rfl, i64_wf hk, i64_wf hck⟩

end Go.Proofs.YtgikkoeckdhgkaaDoorPg

/- Keys and fits of rows: the document's functions; the laws SchemaBack and SchemaTurns. -/
namespace Go.Proofs.YtgikkoeckdhgkaaDoorPg
open Go Go.RowKit
set_option linter.unusedSimpArgs false
set_option linter.unusedVariables false

variable {Q : V → List O → Prop}

def TextsOk (vs : List Val) : Prop := ∀ v ∈ vs, v.t.length < 1000000000000000000

/-- do the first so many values stand? -/
def standN (l : List Col) (vs : List Val) (n : Nat) : Prop := ∀ (i : Nat) (c : Col) (v : Val), i < n → l[i]? = some c → vs[i]? = some v → standsV c v = true

theorem keyOk_no {l : List Col} {keys : Nat} {vs : List Val} {i : Nat} {c : Col} {v : Val} (hi : i < keys) (hc : l[i]? = some c) (hv : vs[i]? = some v) (h : standsV c v = false) : keyOkL l keys vs = false := by
  unfold keyOkL
  have : (List.range keys).all (stAt l vs) = false := by
    rw [Bool.eq_false_iff]
    intro hx
    rw [List.all_eq_true] at hx
    have := hx i (List.mem_range.2 hi)
    rw [stAt_some hc hv, h] at this; cases this
  rw [this, Bool.and_false]

theorem keyOk_yes {l : List Col} {keys : Nat} {vs : List Val} (hk : keys ≤ vs.length) (h : standN l vs keys) : keyOkL l keys vs = true := by
  unfold keyOkL
  rw [decide_eq_true hk, Bool.true_and, List.all_eq_true]
  intro i hi
  exact stAt_yes fun c v => h i c v (List.mem_range.1 hi)

theorem standN_text {l : List Col} {vs : List Val} {n : Nat} (h : standN l vs n) (hn : n ≤ l.length) : ∀ v ∈ vs.take n, v.t.length ≤ 4096 := by
  intro v hv
  obtain ⟨i, hi⟩ := List.mem_iff_getElem?.1 hv
  have hlt := (List.getElem?_eq_some_iff.1 hi).1
  rw [List.length_take] at hlt
  rw [List.getElem?_take_of_lt (by omega)] at hi
  exact stands_text (h i l[i] v (by omega) (List.getElem?_eq_getElem (by omega)) hi)

def keyR (l : List Col) (keys : Nat) (vs : List Val) : V := if keyOkL l keys vs then .tup [.str (keyS (vs.take keys)), fI 0] else .tup [.str [], fI 9]

theorem RKey_spec {l : List Col} {keys : Nat} {vs : List Val} {f : Bool} (hl : l.length ≤ 1000) (hk : keys ≤ l.length) (ht : TextsOk vs) (h : Q (keyR l keys vs) []) :
    ACall Tryd.prog 47 0 [sch l keys, .sl 3 (vals vs) f] [] Q := by
  have hlc := cols_len l
  have hlv := vals_len vs
  refine by_body Tryd.func47 0 rfl (Nat.le_of_ble_eq_true rfl) ?_
  conv => whnf
  unfold keyR at h
  refine branch_i (fun c1 => ?_) (fun c1 => ?_) <;> try rw [c1] <;> conv => whnf
  focus
    have c1' := of_decide_eq_true c1
    have e : keyOkL l keys vs = false := by unfold keyOkL; rw [decide_eq_false (by omega), Bool.false_and]
    rw [e] at h
    exact ⟨[], rfl, h⟩
  have c1' := of_decide_eq_false c1
  refine ⟨⟨[1, 2, 6], fun m ws H => ∃ i : Nat, ws = [.sl 3 (vals vs) f, .ptr 0 0, fI i] ∧ H = [.cells [.sl 3 (cols l) false, fI keys]] ∧ standN l vs i ∧ i ≤ keys ∧ m = keys - i,
    .at keys ⟨0, rfl, rfl, fun i c v hi => by omega, Nat.zero_le _, rfl⟩, ?_⟩⟩
  rintro m ws H ⟨i, rfl, rfl, hs, hi, rfl⟩
  conv => whnf
  refine branch_i (fun c2 => ?_) (fun c2 => ?_) <;> try rw [c2] <;> conv => whnf
  focus
    have c2' := of_decide_eq_true c2
    have hi1 : i < l.length := by omega
    have hi2 : i < vs.length := by omega
    have g1 : l[i]? = some l[i] := List.getElem?_eq_getElem hi1
    have g2 : vs[i]? = some vs[i] := List.getElem?_eq_getElem hi2
    have htt := ht vs[i] (List.getElem_mem hi2)
    generalize l[i] = c at *
    generalize vs[i] = v at *
    refine ⟨List.range 11, by kernel_rfl, by kernel_rfl, ?_⟩
    conv => whnf
    refine ⟨_, ⟨by omega, cols_get g1⟩, ?_⟩
    conv => whnf
    refine ⟨_, ⟨by omega, vals_get g2⟩, ?_⟩
    conv => whnf
    refine .pure (stands_spec (c := c) (v := v) htt ⟨rfl, ?_⟩)
    conv => whnf
    cases e : standsV c v
    · conv => whnf
      rw [keyOk_no (by omega) g1 g2 e] at h
      exact ⟨[], rfl, h⟩
    · conv => whnf
      refine .go [0] rfl (keys - (i + 1)) (by omega) ⟨i + 1, ?_, rfl, fun j c' v' hj hc' hv' => ?_, by omega, rfl⟩
      · show [V.sl 3 (vals vs) f, V.ptr 0 0, V.int .i64 (IntKind.i64.wrap ((i : Int) + 1))] = _
        rw [wrapI (by omega)]; rfl
      · rcases Nat.lt_or_ge j i with h1 | h1
        · exact hs j c' v' h1 hc' hv'
        · have : j = i := by omega
          subst this
          rw [g1] at hc'; rw [g2] at hv'; cases hc'; cases hv'; exact e
  have c2' := of_decide_eq_false c2
  have hie : i = keys := by omega
  subst hie
  rw [keyOk_yes (by omega) hs, if_pos rfl] at h
  refine ⟨⟨by omega, by omega⟩, ?_⟩
  conv => whnf
  rw [Int.toNat_natCast, show List.take i (vals vs) = vals (vs.take i) by simp [vals, List.map_take]]
  refine .pure (VKey_spec (by rw [List.length_take]; omega) (standN_text hs hk) ⟨rfl, ?_⟩)
  conv => whnf
  exact ⟨[], rfl, h⟩

theorem RFits_spec {l : List Col} {keys : Int} {vs : List Val} {f : Bool} (hl : l.length ≤ 1000) (ht : TextsOk vs) (h : Q (.bool (fitsL l vs)) []) :
    ACall Tryd.prog 42 0 [sch l keys, .sl 3 (vals vs) f] [] Q := by
  have hlc := cols_len l
  have hlv := vals_len vs
  refine by_body Tryd.func42 0 rfl (Nat.le_of_ble_eq_true rfl) ?_
  conv => whnf
  refine branch_i (fun c1 => ?_) (fun c1 => ?_) <;> try rw [c1] <;> conv => whnf
  focus
    have e : fitsL l vs = false := by
      unfold fitsL
      rw [decide_eq_false (by simp at c1; omega), Bool.false_and]
    rw [e] at h
    exact ⟨[], rfl, h⟩
  have hlen : vs.length = l.length := by simp at c1; omega
  clear c1
  refine ⟨⟨[1, 2, 5], fun m ws H => ∃ i : Nat, ws = [.sl 3 (vals vs) f, .ptr 0 0, fI i] ∧ H = [.cells [.sl 3 (cols l) false, fI keys]] ∧ standN l vs i ∧ i ≤ vs.length ∧ m = vs.length - i,
    .at _ ⟨0, rfl, rfl, fun i c v hi => by omega, Nat.zero_le _, rfl⟩, ?_⟩⟩
  rintro m ws H ⟨i, rfl, rfl, hs, hi, rfl⟩
  conv => whnf
  refine branch_i (fun c2 => ?_) (fun c2 => ?_) <;> try rw [c2] <;> conv => whnf
  focus
    have c2' := of_decide_eq_true c2
    have hi1 : i < l.length := by omega
    have hi2 : i < vs.length := by omega
    have g1 : l[i]? = some l[i] := List.getElem?_eq_getElem hi1
    have g2 : vs[i]? = some vs[i] := List.getElem?_eq_getElem hi2
    have htt := ht vs[i] (List.getElem_mem hi2)
    generalize l[i] = c at *
    generalize vs[i] = v at *
    refine ⟨List.range 11, by kernel_rfl, by kernel_rfl, ?_⟩
    conv => whnf
    refine ⟨_, ⟨by omega, cols_get g1⟩, ?_⟩
    conv => whnf
    refine ⟨_, ⟨by omega, vals_get g2⟩, ?_⟩
    conv => whnf
    refine .pure (stands_spec (c := c) (v := v) htt ⟨rfl, ?_⟩)
    conv => whnf
    cases e : standsV c v
    · conv => whnf
      have e2 : fitsL l vs = false := by
        have := keyOk_no (keys := vs.length) hi2 g1 g2 e
        unfold keyOkL at this
        unfold fitsL
        rw [decide_eq_true (Nat.le_refl _), Bool.true_and] at this
        rw [this, Bool.and_false]
      rw [e2] at h
      exact ⟨[], rfl, h⟩
    · conv => whnf
      refine .go [0] rfl (vs.length - (i + 1)) (by omega) ⟨i + 1, ?_, rfl, fun j c' v' hj hc' hv' => ?_, by omega, rfl⟩
      · show [V.sl 3 (vals vs) f, V.ptr 0 0, V.int .i64 (IntKind.i64.wrap ((i : Int) + 1))] = _
        rw [wrapI (by omega)]; rfl
      · rcases Nat.lt_or_ge j i with h1 | h1
        · exact hs j c' v' h1 hc' hv'
        · have : j = i := by omega
          subst this
          rw [g1] at hc'; rw [g2] at hv'; cases hc'; cases hv'; exact e
  have c2' := of_decide_eq_false c2
  have hie : i = vs.length := by omega
  subst hie
  rw [fits_yes hlen fun j c v hc hv => hs j c v (List.getElem?_eq_some_iff.1 hv).1 hc hv] at h
  exact ⟨[], rfl, h⟩

end Go.Proofs.YtgikkoeckdhgkaaDoorPg
