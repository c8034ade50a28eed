/- The library's searches, and the names of a schema. -/
import Derived.Test.YtcgpgpbnpjbhhaaPg04By
import Derived.Lib.Bytealg
import Derived.Laws.BitsLemmas
namespace Go.Proofs.YtcgpgpbnpjbhhaaPg
open Go Go.RowKit
set_option linter.unusedVariables false

variable {Q : V → List O → Prop}

theorem IdxByteStr_ext (s : List UInt8) (c : Int) : AExt Try.prog 56 [.str s, .int .u8 c] (.int .i64 (Lib.indexByte s c.toNat.toUInt8)) := ⟨fun I ρ w us h => by
  obtain ⟨u0, l0, e0, h0, h⟩ := h.cons_inv
  obtain ⟨u1, l1, e1, h1, h⟩ := h.cons_inv
  have e2 : l1 = [] := List.eq_nil_of_length_eq_zero h.1.symm
  obtain ⟨b, hb, rfl⟩ := vr_str h0
  have := vr_int h1
  subst this
  have eu : us = #[Value.string b, Value.int .u8 c] := by
    apply Array.ext'
    rw [e0, e1, e2]
  subst eu
  refine ⟨_, ?_, .int _ _ _⟩
  rw [run_callFunc_extern Try.func56 (by kernel_rfl) (by kernel_rfl) (by kernel_rfl) (e := Extern.BytealgIndexByte.indexByte) (by kernel_rfl), Lib.run_indexByteString, hb]
  rfl⟩

theorem IndexByteL_spec {s : List UInt8} {c : Int} (h : Q (.int .i64 (Lib.indexByte s c.toNat.toUInt8)) []) : ACall Try.prog 54 0 [.str s, .int .u8 c] [] Q := by
  refine by_body Try.func54 0 rfl (Nat.le_of_ble_eq_true rfl) ?_
  conv => whnf
  refine ⟨_, IdxByteStr_ext s c, ?_⟩
  conv => whnf
  exact ⟨[], rfl, h⟩

theorem IndexByte_spec {s : List UInt8} {c : Int} (h : Q (.int .i64 (Lib.indexByte s c.toNat.toUInt8)) []) : ACall Try.prog 49 0 [.str s, .int .u8 c] [] Q := by
  refine by_body Try.func49 0 rfl (Nat.le_of_ble_eq_true rfl) ?_
  conv => whnf
  refine .call [] 0 ⟨rfl, rfl, rfl⟩ (IndexByteL_spec ?_)
  conv => whnf
  exact ⟨[], rfl, h⟩

theorem ValidRune_spec {r : Int} (h : ∀ b, Utf8.valid r = b → Q (.bool b) []) : ACall Try.prog 50 0 [.int .i32 r] [] Q := by
  refine by_body Try.func50 0 rfl (Nat.le_of_ble_eq_true rfl) ?_
  conv => whnf
  refine branch_i (fun c => ?_) (fun c => ?_) <;> try rw [c] <;> conv => whnf
  all_goals try (refine branch_i (fun c => ?_) (fun c => ?_) <;> try rw [c] <;> conv => whnf)
  all_goals try (refine branch_i (fun c => ?_) (fun c => ?_) <;> try rw [c] <;> conv => whnf)
  all_goals try (refine branch_i (fun c => ?_) (fun c => ?_) <;> try rw [c] <;> conv => whnf)
  all_goals simp only [decide_eq_true_eq, decide_eq_false_iff_not] at *
  all_goals first
    | exact ⟨[], rfl, h true (by simp [Utf8.valid]; omega)⟩
    | exact ⟨[], rfl, h false (by simp [Utf8.valid]; omega)⟩

theorem StrIndex_one {s : List UInt8} {b : UInt8} (hs : s.length ≠ 1) (h : Q (.int .i64 (Lib.indexByte s b)) []) : ACall Try.prog 53 0 [.str s, .str [b]] [] Q := by
  refine by_body Try.func53 0 rfl (Nat.le_of_ble_eq_true rfl) ?_
  conv => whnf
  refine branch_i (fun c => ?_) (fun c => ?_) <;> try rw [c] <;> conv => whnf
  · exfalso
    simp at c
    rw [← c] at hs
    simp at hs
  · refine ⟨b, ⟨by decide, rfl⟩, ?_⟩
    conv => whnf
    refine .call [] 0 ⟨rfl, rfl, rfl⟩ (IndexByteL_spec ?_)
    conv => whnf
    exact ⟨[], rfl, by rw [show ((b.toNat : Int).toNat.toUInt8) = b by simp]; exact h⟩

theorem Index_one {s : List UInt8} {b : UInt8} (hs : s.length ≠ 1) (h : Q (.int .i64 (Lib.indexByte s b)) []) : ACall Try.prog 45 0 [.str s, .str [b]] [] Q := by
  refine by_body Try.func45 0 rfl (Nat.le_of_ble_eq_true rfl) ?_
  conv => whnf
  refine .call [] 0 ⟨rfl, rfl, rfl⟩ (StrIndex_one hs ?_)
  conv => whnf
  exact ⟨[], rfl, h⟩

theorem Contains_one {s : List UInt8} {b : UInt8} (hs : s.length ≠ 1) (h : Q (.bool (decide (0 ≤ Lib.indexByte s b))) []) : ACall Try.prog 30 0 [.str s, .str [b]] [] Q := by
  refine by_body Try.func30 0 rfl (Nat.le_of_ble_eq_true rfl) ?_
  conv => whnf
  refine .call [] 0 ⟨rfl, rfl, rfl⟩ (Index_one hs ?_)
  conv => whnf
  exact ⟨[], rfl, h⟩

theorem indexByte_none : ∀ (s : List UInt8) (c : UInt8), (∀ b ∈ s, b ≠ c) → Lib.indexByte s c = -1
  | [], c, _ => rfl
  | b :: l, c, h => by
    unfold Lib.indexByte
    have : (b == c) = false := by simpa using h b (by simp)
    rw [this, indexByte_none l c fun x hx => h x (by simp [hx])]
    rfl

theorem decL_ascii {b : UInt8} {r : List UInt8} (h : b.toNat < 128) : decL (b :: r) = (b.toNat, 1) := by
  simp [decL, h]

theorem drop_facts {α : Type} {s : List α} {pos : Nat} {b : α} {l : List α} (h : s.drop pos = b :: l) : b ∈ s ∧ pos < s.length ∧ s.drop (pos + 1) = l ∧ s = s.take pos ++ b :: l := by
  have hb : b ∈ s.drop pos := by rw [h]; simp
  refine ⟨List.mem_of_mem_drop hb, ?_, ?_, ?_⟩
  · rcases Nat.lt_or_ge pos s.length with h' | h'
    · exact h'
    · rw [List.drop_eq_nil_iff.2 h'] at h; cases h
  · rw [← List.drop_drop, h]; rfl
  · rw [← h, List.take_append_drop]

theorem last_byte {r : Int} (hv : Utf8.valid r = true) (h : ¬ (0 ≤ r ∧ r < 128)) : ∃ c, (Utf8.encode r).data.toList[(Utf8.encode r).data.toList.length - 1]? = some c ∧ 128 ≤ c.toNat ∧ 2 ≤ (Utf8.encode r).data.toList.length ∧ (Utf8.encode r).data.toList.length ≤ 4 := by
  have h0 : 0 ≤ r := by simp [Utf8.valid] at hv; omega
  obtain ⟨g1, g2, g3⟩ := encode_facts r hv (by omega)
  generalize Utf8.encode r = ba at *
  have hsz : ba.data.toList.length = ba.size := by rw [Array.length_toList]; rfl
  have hlt : ba.size - 1 < ba.size := by omega
  refine ⟨ba[ba.size - 1], ?_, g3 hlt, by omega, by omega⟩
  rw [hsz, Array.getElem?_toList]
  exact Array.getElem?_eq_getElem hlt

theorem wrap_i64 {x : Int} (h0 : -9223372036854775808 ≤ x) (h1 : x < 9223372036854775808) : IntKind.i64.wrap x = x := by
  rw [IntKind.wrap_i64]; omega

/-- strings.IndexRune over a text of ASCII. -/
theorem IndexRune_ascii {s : List UInt8} (hs : ∀ b ∈ s, b.toNat < 128) {r : Int} (h0 : 0 ≤ r ∧ r < 128 → Q (.int .i64 (Lib.indexByte s (IntKind.u8.wrap r).toNat.toUInt8)) []) (h1 : ¬ (0 ≤ r ∧ r < 128) → Q (.int .i64 (-1)) []) : ACall Try.prog 44 0 [.str s, .int .i32 r] [] Q := by
  refine by_body Try.func44 0 rfl (Nat.le_of_ble_eq_true rfl) ?_
  conv => whnf
  refine branch_i (fun c => ?_) (fun c => ?_) <;> try rw [c] <;> conv => whnf
  focus refine branch_i (fun c2 => ?_) (fun c2 => ?_) <;> try rw [c2] <;> conv => whnf
  focus
    refine .call [] 0 ⟨rfl, rfl, rfl⟩ (IndexByte_spec ?_)
    conv => whnf
    exact ⟨[], rfl, h0 ⟨of_decide_eq_true c, of_decide_eq_true c2⟩⟩
  all_goals
    have hr : ¬ (0 ≤ r ∧ r < 128) := by intro h; simp at *; omega
    replace h1 := h1 hr
    clear h0
    refine branch_i (fun c => ?_) (fun c => ?_) <;> try rw [c] <;> conv => whnf
    · refine ⟨⟨[175], fun n vs H => vs = [.ptr 0 0] ∧ ∃ pos, H = [.iter s pos] ∧ n = s.length - pos, .at (s.length - 0) ⟨rfl, 0, rfl, rfl⟩, ?_⟩⟩
      rintro n vs H ⟨rfl, pos, rfl, rfl⟩
      conv => whnf
      refine ⟨fun hd => ?_, fun b l hd => ?_⟩
      · conv => whnf
        exact ⟨[], rfl, h1⟩
      · obtain ⟨d1, d2, d3, d4⟩ := drop_facts hd
        rw [decL_ascii (hs b d1)]
        conv => whnf
        refine branch_i (fun c => ?_) (fun c => ?_) <;> try rw [c] <;> conv => whnf
        · have := of_decide_eq_true c
          have := hs b d1
          simp at *
          omega
        · refine .go [0] rfl (s.length - (pos + 1)) (by omega) ⟨rfl, pos + 1, rfl, rfl⟩
    · refine .call [] 0 ⟨rfl, rfl, rfl⟩ (ValidRune_spec fun v hv => ?_)
      conv => whnf
      refine branch_i (fun c => ?_) (fun c => ?_) <;> try rw [c] <;> conv => whnf
      · exact ⟨[], rfl, h1⟩
      · have hv' : v = true := by simpa using c
        subst hv'
        obtain ⟨c, l1, l2, l3, l4⟩ := last_byte hv hr
        generalize (Utf8.encode r).data.toList = rs at *
        have hw : IntKind.i64.wrap ((rs.length : Int) - 1) = (rs.length : Int) - 1 := wrap_i64 (by omega) (by omega)
        refine ⟨⟨[0, 7, 8, 9], fun n vs H => H = [] ∧ vs = [.str s, .str rs, .int .i64 ((rs.length : Int) - 1), .int .i64 ((rs.length : Int) - 1)], .at 0 ⟨rfl, ?_⟩, ?_⟩⟩
        · show [V.str s, V.str rs, V.int .i64 (IntKind.i64.wrap ((rs.length : Int) - 1)), V.int .i64 (IntKind.i64.wrap ((rs.length : Int) - 1))] = _
          rw [hw]
        rintro n vs H ⟨rfl, rfl⟩
        conv => whnf
        refine branch_i (fun c3 => ?_) (fun c3 => ?_) <;> try rw [c3] <;> conv => whnf
        · have hlt : rs.length - 1 < s.length := by simp at c3; omega
          have ht : ((rs.length : Int) - 1).toNat = rs.length - 1 := by omega
          have hsb : s[rs.length - 1]? = some (s[rs.length - 1]) := List.getElem?_eq_getElem hlt
          have hb := hs _ (List.getElem_mem hlt)
          generalize s[rs.length - 1] = b at *
          refine ⟨List.range 7, by kernel_rfl, by kernel_rfl, ?_⟩
          conv => whnf
          refine ⟨b, ⟨by omega, by rw [ht]; exact hsb⟩, ?_⟩
          conv => whnf
          refine ⟨c, ⟨by omega, by rw [ht]; exact l1⟩, ?_⟩
          conv => whnf
          refine branch_i (fun c4 => ?_) (fun c4 => ?_) <;> try rw [c4] <;> conv => whnf
          · refine ⟨List.range 9, by kernel_rfl, by kernel_rfl, ?_⟩
            conv => whnf
            have hw2 : IntKind.i64.wrap ((rs.length : Int) - 1 + 1) = (rs.length : Int) := by rw [wrap_i64 (by omega) (by omega)]; omega
            refine ⟨?_, ?_⟩
            · simp only [hw2]; omega
            conv => whnf
            refine ⟨c, ⟨by omega, by rw [ht]; exact l1⟩, ?_⟩
            conv => whnf
            refine .call [] 0 ⟨rfl, rfl, rfl⟩ (IndexByte_spec ?_)
            rw [indexByte_none _ _ (fun x hx => ?_)]
            · conv => whnf
              exact ⟨[], rfl, h1⟩
            · have := hs x (List.mem_of_mem_drop hx)
              intro e
              rw [e] at this
              simp at this
              omega
          · exfalso
            simp at c4
            omega
        · exact ⟨[], rfl, h1⟩

theorem ContainsRune_ascii {s : List UInt8} (hs : ∀ b ∈ s, b.toNat < 128) {r : Int} (h0 : 0 ≤ r ∧ r < 128 → Q (.bool (decide (0 ≤ Lib.indexByte s (IntKind.u8.wrap r).toNat.toUInt8))) []) (h1 : ¬ (0 ≤ r ∧ r < 128) → Q (.bool false) []) : ACall Try.prog 29 0 [.str s, .int .i32 r] [] Q := by
  refine by_body Try.func29 0 rfl (Nat.le_of_ble_eq_true rfl) ?_
  conv => whnf
  refine .call [] 0 ⟨rfl, rfl, rfl⟩ (IndexRune_ascii hs (fun c => ?_) (fun c => ?_))
  · conv => whnf
    exact ⟨[], rfl, h0 c⟩
  · conv => whnf
    exact ⟨[], rfl, h1 c⟩

/-- the letters, digits and the underline -/
def set37 : List UInt8 := [97, 98, 99, 100, 101, 102, 103, 104, 105, 106, 107, 108, 109, 110, 111, 112, 113, 114, 115, 116, 117, 118, 119, 120, 121, 122, 48, 49, 50, 51, 52, 53, 54, 55, 56, 57, 95]
def set26 : List UInt8 := set37.take 26

def okByte (b : UInt8) : Bool := decide (0 ≤ Lib.indexByte set37 b)
def okHead (b : UInt8) : Bool := decide (0 ≤ Lib.indexByte set26 b)

def nameOk (s : List UInt8) : Bool :=
  s.all okByte && (decide (s.length ≤ 32) && match s with
    | [] => false
    | b :: _ => okHead b)

theorem set37_ascii : ∀ b ∈ set37, b.toNat < 128 := by decide

/-- A code point that begins with a byte beyond ASCII is beyond ASCII. -/
theorem decL_high {b : UInt8} {r : List UInt8} (h : ¬ b.toNat < 128) : ¬ ((0 : Int) ≤ Int.ofNat (decL (b :: r)).1 ∧ Int.ofNat (decL (b :: r)).1 < 128) := by
  have key : 128 ≤ (decL (b :: r)).1 := by
    unfold decL
    simp only [List.getD_cons_zero]
    rw [if_neg h]
    repeat' split
    all_goals first
      | (simp [Utf8.runeError]; done)
      | (simp at *; omega)
  intro ⟨_, h2⟩
  simp at h2
  omega

theorem u8_wrap_byte (b : UInt8) : (IntKind.u8.wrap (Int.ofNat b.toNat)).toNat.toUInt8 = b := by
  have h := b.toNat_lt
  have : IntKind.u8.wrap (Int.ofNat b.toNat) = (b.toNat : Int) := by rw [IntKind.wrap_u8]; simp; omega
  rw [this]
  simp

theorem okByte_ascii {b : UInt8} (h : okByte b = true) : b.toNat < 128 := by
  refine Decidable.by_contra fun hb => ?_
  have : Lib.indexByte set37 b = -1 := indexByte_none _ _ fun x hx e => hb (e ▸ set37_ascii x hx)
  unfold okByte at h
  rw [this] at h
  simp at h

theorem nameOk_false {s : List UInt8} {b : UInt8} (hb : b ∈ s) (h : okByte b = false) : nameOk s = false := by
  unfold nameOk
  have : s.all okByte = false := by
    cases hx : s.all okByte with
    | false => rfl
    | true => rw [List.all_eq_true.1 hx b hb] at h; cases h
  rw [this]; rfl

theorem Name_spec {s : List UInt8} (h : Q (.bool (nameOk s)) []) : ACall Try.prog 14 0 [.str s] [] Q := by
  refine by_body Try.func14 0 rfl (Nat.le_of_ble_eq_true rfl) ?_
  conv => whnf
  refine ⟨⟨[0, 6], fun n vs H => vs = [.str s, .ptr 0 0] ∧ ∃ pos, H = [.iter s pos] ∧ n = s.length - pos ∧ (s.take pos).all okByte = true, .at (s.length - 0) ⟨rfl, 0, rfl, rfl, rfl⟩, ?_⟩⟩
  rintro n vs H ⟨rfl, pos, rfl, rfl, hall⟩
  conv => whnf
  refine ⟨fun hd => ?_, fun b l hd => ?_⟩
  · have hle := List.drop_eq_nil_iff.1 hd
    rw [List.take_of_length_le hle] at hall
    clear hd hle
    cases s with
    | nil =>
      conv => whnf
      exact ⟨[], rfl, h⟩
    | cons b l =>
      have e : nameOk (b :: l) = (decide ((b :: l).length ≤ 32) && okHead b) := by unfold nameOk; rw [hall]; rfl
      rw [e] at h
      conv => whnf
      refine branch_i (fun c => ?_) (fun c => ?_) <;> try rw [c] <;> conv => whnf
      · have hl : decide ((b :: l).length ≤ 32) = true := by simp at *; omega
        rw [hl, Bool.true_and] at h
        refine ⟨⟨by decide, by simp; omega⟩, ?_⟩
        conv => whnf
        refine .call [] 0 ⟨rfl, rfl, rfl⟩ (Contains_one (b := b) (by decide) ?_)
        conv => whnf
        exact ⟨[], rfl, h⟩
      · have hl : decide ((b :: l).length ≤ 32) = false := by simp at *; omega
        rw [hl, Bool.false_and] at h
        exact ⟨[], rfl, h⟩
  · obtain ⟨d1, d2, d3, d4⟩ := drop_facts hd
    conv => whnf
    refine .call [] 0 ⟨rfl, rfl, rfl⟩ (ContainsRune_ascii set37_ascii (fun c => ?_) (fun c => ?_))
    · have hb : b.toNat < 128 := Decidable.by_contra fun hb => decL_high hb c
      rw [decL_ascii hb]
      simp only [u8_wrap_byte]
      conv => whnf
      refine branch_i (fun c2 => ?_) (fun c2 => ?_) <;> try rw [c2] <;> conv => whnf
      · rw [nameOk_false d1 (by simpa [okByte] using c2)] at h
        exact ⟨[], rfl, h⟩
      · refine .go [0] rfl (s.length - (pos + 1)) (by omega) ⟨rfl, pos + 1, rfl, rfl, ?_⟩
        have : s.take (pos + 1) = s.take pos ++ [b] := by
          rw [List.take_add_one]
          congr 1
          have : s[pos]? = some b := by rw [← List.head?_drop, hd]; rfl
          rw [this]; rfl
        rw [this, List.all_append, hall]
        simpa [okByte] using c2
    · rw [nameOk_false d1 (by
        cases hx : okByte b with
        | false => rfl
        | true =>
          have hb := okByte_ascii hx
          rw [decL_ascii hb] at c
          exact absurd ⟨by simp, by simp; omega⟩ c)] at h
      conv => whnf
      exact ⟨[], rfl, h⟩

end Go.Proofs.YtcgpgpbnpjbhhaaPg
