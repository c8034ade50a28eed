/- Own texts, laid together: PgU8, PgVal4, PgVal5, PgVal6, PgLess, PgCh1, PgCh2, PgCh3, PgCh4, PgLay1, PgLay2, PgLay3, PgLay4, PgE9, PgCh5, PgE91. -/
import Derived.Test.YtocjhaahifpnbaaDoorPgM13
import Derived.Test.YtocjhaahifpnbaaDoorPgM7
import Derived.Lib.ValidU
import Derived.Test.YtocjhaahifpnbaaDoorPgM12
/- The decoder's word on a text, and the document's: the same. -/
namespace Go.Proofs.YtocjhaahifpnbaaDoorPg
open Go Go.RowKit
set_option linter.unusedSimpArgs false

theorem decodeL_eq (l : List UInt8) : Lib.decodeL l = decL l := by
  unfold Lib.decodeL
  have := @dec_eq Globs.none ⟨l.toArray⟩ 0
  simpa using this

theorem dec_asc {c : UInt8} {r : List UInt8} (h : c.toNat < 128) : decL (c :: r) = (c.toNat, 1) := by
  unfold decL
  simp [h]

theorem getD_cons (c : UInt8) (r : List UInt8) (k : Nat) : (c :: r).getD (k + 1) 0 = r.getD k 0 := by simp [List.getD]

/-- how the decoder goes, its bytes as numbers -/
def decN (c n x0 x1 x2 : Nat) : Nat × Nat :=
  if c < 128 then (c, 1)
  else if c / 32 = 6 ∧ 1 ≤ n ∧ x0 / 64 = 2 then (if 128 ≤ (c % 32) * 64 + x0 % 64 then ((c % 32) * 64 + x0 % 64, 2) else (65533, 1))
  else if c / 16 = 14 ∧ 2 ≤ n ∧ x0 / 64 = 2 ∧ x1 / 64 = 2 then (if 2048 ≤ (c % 16) * 4096 + x0 % 64 * 64 + x1 % 64 ∧ Utf8.valid (((c % 16) * 4096 + x0 % 64 * 64 + x1 % 64 : Nat) : Int) = true then ((c % 16) * 4096 + x0 % 64 * 64 + x1 % 64, 3) else (65533, 1))
  else if c / 8 = 30 ∧ 3 ≤ n ∧ x0 / 64 = 2 ∧ x1 / 64 = 2 ∧ x2 / 64 = 2 then (if 65536 ≤ (c % 8) * 262144 + x0 % 64 * 4096 + x1 % 64 * 64 + x2 % 64 ∧ Utf8.valid (((c % 8) * 262144 + x0 % 64 * 4096 + x1 % 64 * 64 + x2 % 64 : Nat) : Int) = true then ((c % 8) * 262144 + x0 % 64 * 4096 + x1 % 64 * 64 + x2 % 64, 4) else (65533, 1))
  else (65533, 1)

theorem decL_N (c : UInt8) (r : List UInt8) : decL (c :: r) = decN c.toNat r.length (r.getD 0 0).toNat (r.getD 1 0).toNat (r.getD 2 0).toNat := by
  unfold decL decN
  simp only [getD_cons, List.length_cons, List.getD_cons_zero, Utf8.runeError, beq_iff_eq, Bool.and_eq_true, decide_eq_true_eq, ge_iff_le, Nat.lt_add_one_iff, Nat.lt_add_left_iff_pos]
  generalize (r.getD 0 0).toNat = x0
  generalize (r.getD 1 0).toNat = x1
  generalize (r.getD 2 0).toNat = x2
  have c3 : ((c.toNat / 16 = 14 ∧ 1 ≤ r.length ∧ x0 / 64 = 2) ∧ 2 ≤ r.length ∧ x1 / 64 = 2) ↔ (c.toNat / 16 = 14 ∧ 2 ≤ r.length ∧ x0 / 64 = 2 ∧ x1 / 64 = 2) := by omega
  have c4 : (((c.toNat / 8 = 30 ∧ 1 ≤ r.length ∧ x0 / 64 = 2) ∧ 2 ≤ r.length ∧ x1 / 64 = 2) ∧ 3 ≤ r.length ∧ x2 / 64 = 2) ↔ (c.toNat / 8 = 30 ∧ 3 ≤ r.length ∧ x0 / 64 = 2 ∧ x1 / 64 = 2 ∧ x2 / 64 = 2) := by omega
  simp only [c3, c4]

theorem valid_iff (n : Nat) : Utf8.valid (n : Int) = true ↔ (n < 55296 ∨ (57344 ≤ n ∧ n ≤ 1114111)) := by
  unfold Utf8.valid
  simp
  omega

theorem badV_iff (v least : Int) : badV v least = true ↔ (v < least ∨ 1114111 < v ∨ (55296 ≤ v ∧ v ≤ 57343)) := by
  unfold badV
  simp

theorem get_getD {r : List UInt8} {k : Nat} (h : k < r.length) : r[k]? = some (r.getD k 0) := by simp [List.getD, List.getElem?_eq_getElem h]

theorem cv_step {r : List UInt8} {v0 : Int} {k : Nat} {v : Int} (h : cv r v0 k = some v) (hk : k < r.length) :
    cv r v0 (k + 1) = if 128 ≤ (r.getD k 0).toNat ∧ (r.getD k 0).toNat < 192 then some (64 * v + (r.getD k 0).toNat - 128) else none := by
  simp only [cv, h, get_getD hk]

/-- the document's head, its bytes as numbers -/
theorem u8head_two {c : UInt8} {r : List UInt8} (h : 192 ≤ c.toNat ∧ c.toNat < 224) : u8head c r = if 1 ≤ r.length ∧ (128 ≤ (r.getD 0 0).toNat ∧ (r.getD 0 0).toNat < 192) ∧ badV (64 * ((c.toNat : Int) - 192) + (r.getD 0 0).toNat - 128) 128 = false then some 1 else none := by
  have hl : lead (c.toNat : Int) = some (1, 128, (c.toNat : Int) - 192) := by unfold lead; rw [if_neg (by omega), if_pos (by omega)]
  unfold u8head
  rw [if_neg (by omega), hl]
  by_cases n1 : 1 ≤ r.length
  rotate_left
  · simp only [if_pos (show r.length < 1 by omega)]; rw [if_neg (by omega)]
  simp only [if_neg (show ¬ r.length < 1 by omega)]
  have s1 := cv_step (r := r) (v0 := (c.toNat : Int) - 192) (v := (c.toNat : Int) - 192) (k := 0) rfl (by omega)
  simp only [Nat.zero_add, Nat.reduceAdd] at s1
  by_cases a0 : 128 ≤ (r.getD 0 0).toNat ∧ (r.getD 0 0).toNat < 192
  rotate_left
  · rw [if_neg a0] at s1
    simp only [s1]; rw [if_neg (by intro hx; exact a0 hx.2.1)]
  rw [if_pos a0] at s1
  simp only [s1]
  cases hb : badV (64 * ((c.toNat : Int) - 192) + (r.getD 0 0).toNat - 128) 128
  · simp only [Bool.false_eq_true, if_false]; rw [if_pos ⟨n1, a0, trivial⟩]
  · simp

theorem u8head_three {c : UInt8} {r : List UInt8} (h : 224 ≤ c.toNat ∧ c.toNat < 240) : u8head c r = if 2 ≤ r.length ∧ (128 ≤ (r.getD 0 0).toNat ∧ (r.getD 0 0).toNat < 192) ∧ (128 ≤ (r.getD 1 0).toNat ∧ (r.getD 1 0).toNat < 192) ∧
    badV (64 * (64 * ((c.toNat : Int) - 224) + (r.getD 0 0).toNat - 128) + (r.getD 1 0).toNat - 128) 2048 = false then some 2 else none := by
  have hl : lead (c.toNat : Int) = some (2, 2048, (c.toNat : Int) - 224) := by unfold lead; rw [if_neg (by omega), if_neg (by omega), if_pos (by omega)]
  unfold u8head
  rw [if_neg (by omega), hl]
  by_cases n1 : 2 ≤ r.length
  rotate_left
  · simp only [if_pos (show r.length < 2 by omega)]; rw [if_neg (by omega)]
  simp only [if_neg (show ¬ r.length < 2 by omega)]
  have s1 := cv_step (r := r) (v0 := (c.toNat : Int) - 224) (v := (c.toNat : Int) - 224) (k := 0) rfl (by omega)
  simp only [Nat.zero_add, Nat.reduceAdd] at s1
  by_cases a0 : 128 ≤ (r.getD 0 0).toNat ∧ (r.getD 0 0).toNat < 192
  rotate_left
  · rw [if_neg a0] at s1
    simp only [cv_none s1 (m := 2) (by omega)]; rw [if_neg (by intro hx; exact a0 hx.2.1)]
  rw [if_pos a0] at s1
  have s2 := cv_step s1 (by omega)
  simp only [Nat.reduceAdd] at s2
  by_cases a1 : 128 ≤ (r.getD 1 0).toNat ∧ (r.getD 1 0).toNat < 192
  rotate_left
  · rw [if_neg a1] at s2
    simp only [s2]; rw [if_neg (by intro hx; exact a1 hx.2.2.1)]
  rw [if_pos a1] at s2
  simp only [s2]
  cases hb : badV (64 * (64 * ((c.toNat : Int) - 224) + (r.getD 0 0).toNat - 128) + (r.getD 1 0).toNat - 128) 2048
  · simp only [Bool.false_eq_true, if_false]; rw [if_pos ⟨n1, a0, a1, trivial⟩]
  · simp

theorem u8head_four {c : UInt8} {r : List UInt8} (h : 240 ≤ c.toNat ∧ c.toNat < 248) : u8head c r = if 3 ≤ r.length ∧ (128 ≤ (r.getD 0 0).toNat ∧ (r.getD 0 0).toNat < 192) ∧ (128 ≤ (r.getD 1 0).toNat ∧ (r.getD 1 0).toNat < 192) ∧ (128 ≤ (r.getD 2 0).toNat ∧ (r.getD 2 0).toNat < 192) ∧
    badV (64 * (64 * (64 * ((c.toNat : Int) - 240) + (r.getD 0 0).toNat - 128) + (r.getD 1 0).toNat - 128) + (r.getD 2 0).toNat - 128) 65536 = false then some 3 else none := by
  have hl : lead (c.toNat : Int) = some (3, 65536, (c.toNat : Int) - 240) := by unfold lead; rw [if_neg (by omega), if_neg (by omega), if_neg (by omega), if_pos (by omega)]
  unfold u8head
  rw [if_neg (by omega), hl]
  by_cases n1 : 3 ≤ r.length
  rotate_left
  · simp only [if_pos (show r.length < 3 by omega)]; rw [if_neg (by omega)]
  simp only [if_neg (show ¬ r.length < 3 by omega)]
  have s1 := cv_step (r := r) (v0 := (c.toNat : Int) - 240) (v := (c.toNat : Int) - 240) (k := 0) rfl (by omega)
  simp only [Nat.zero_add, Nat.reduceAdd] at s1
  by_cases a0 : 128 ≤ (r.getD 0 0).toNat ∧ (r.getD 0 0).toNat < 192
  rotate_left
  · rw [if_neg a0] at s1
    simp only [cv_none s1 (m := 3) (by omega)]; rw [if_neg (by intro hx; exact a0 hx.2.1)]
  rw [if_pos a0] at s1
  have s2 := cv_step s1 (by omega)
  simp only [Nat.reduceAdd] at s2
  by_cases a1 : 128 ≤ (r.getD 1 0).toNat ∧ (r.getD 1 0).toNat < 192
  rotate_left
  · rw [if_neg a1] at s2
    simp only [cv_none s2 (m := 3) (by omega)]; rw [if_neg (by intro hx; exact a1 hx.2.2.1)]
  rw [if_pos a1] at s2
  have s3 := cv_step s2 (by omega)
  simp only [Nat.reduceAdd] at s3
  by_cases a2 : 128 ≤ (r.getD 2 0).toNat ∧ (r.getD 2 0).toNat < 192
  rotate_left
  · rw [if_neg a2] at s3
    simp only [s3]; rw [if_neg (by intro hx; exact a2 hx.2.2.2.1)]
  rw [if_pos a2] at s3
  simp only [s3]
  cases hb : badV (64 * (64 * (64 * ((c.toNat : Int) - 240) + (r.getD 0 0).toNat - 128) + (r.getD 1 0).toNat - 128) + (r.getD 2 0).toNat - 128) 65536
  · simp only [Bool.false_eq_true, if_false]; rw [if_pos ⟨n1, a0, a1, a2, trivial⟩]
  · simp

theorem u8head_asc {c : UInt8} {r : List UInt8} (h : c.toNat < 128) : u8head c r = some 0 := by
  unfold u8head; rw [if_pos (by omega)]

theorem u8head_none {c : UInt8} {r : List UInt8} (h : 128 ≤ c.toNat) (h2 : c.toNat < 192 ∨ 248 ≤ c.toNat) : u8head c r = none := by
  have hl : lead (c.toNat : Int) = none := by
    unfold lead
    rcases h2 with h2 | h2
    · rw [if_pos (by omega)]
    · rw [if_neg (by omega), if_neg (by omega), if_neg (by omega), if_neg (by omega)]
  unfold u8head
  rw [if_neg (by omega), hl]

/-- What the one says of the first code point the other says. -/
theorem heads (c : UInt8) (r : List UInt8) : (u8head c r = none ∧ decL (c :: r) = (65533, 1)) ∨ ∃ n, u8head c r = some n ∧ (decL (c :: r)).2 = n + 1 ∧ ¬ ((decL (c :: r)).1 = 65533 ∧ (decL (c :: r)).2 = 1) := by
  have hc : c.toNat < 256 := c.toNat_lt
  have b0 : (r.getD 0 0).toNat < 256 := (r.getD 0 0).toNat_lt
  have b1 : (r.getD 1 0).toNat < 256 := (r.getD 1 0).toNat_lt
  have b2 : (r.getD 2 0).toNat < 256 := (r.getD 2 0).toNat_lt
  rw [decL_N]
  by_cases k1 : c.toNat < 128
  · refine .inr ⟨0, u8head_asc k1, ?_⟩
    unfold decN; rw [if_pos k1]; simp; omega
  by_cases k2 : c.toNat < 192 ∨ 248 ≤ c.toNat
  · refine .inl ⟨u8head_none (by omega) k2, ?_⟩
    unfold decN; rw [if_neg k1, if_neg (by omega), if_neg (by omega), if_neg (by omega)]
  by_cases k3 : c.toNat < 224
  · rw [u8head_two ⟨by omega, k3⟩]
    split
    · rename_i hx
      unfold decN
      rw [if_neg k1]
      obtain ⟨g1, g2, g3⟩ := hx
      have g3' : ¬ badV (64 * ((c.toNat : Int) - 192) + (r.getD 0 0).toNat - 128) 128 = true := by rw [g3]; decide
      rw [badV_iff] at g3'
      refine .inr ⟨1, rfl, ?_⟩
      rw [if_pos (by omega), if_pos (by omega)]
      simp
    · rename_i hx
      refine .inl ⟨rfl, ?_⟩
      unfold decN
      rw [if_neg k1]
      by_cases q : c.toNat / 32 = 6 ∧ 1 ≤ r.length ∧ (r.getD 0 0).toNat / 64 = 2
      · rw [if_pos q]
        rw [if_neg]
        intro hge
        refine hx ⟨q.2.1, by omega, ?_⟩
        rw [Bool.eq_false_iff, ne_eq, badV_iff]
        omega
      · rw [if_neg q, if_neg (by omega), if_neg (by omega)]
  by_cases k4 : c.toNat < 240
  · rw [u8head_three ⟨by omega, k4⟩]
    split
    · rename_i hx
      unfold decN
      rw [if_neg k1, if_neg (by omega)]
      obtain ⟨g1, g2, g3, g4⟩ := hx
      have g4' : ¬ badV (64 * (64 * ((c.toNat : Int) - 224) + (r.getD 0 0).toNat - 128) + (r.getD 1 0).toNat - 128) 2048 = true := by rw [g4]; decide
      rw [badV_iff] at g4'
      refine .inr ⟨2, rfl, ?_⟩
      rw [if_pos (by omega), if_pos (by rw [valid_iff]; omega)]
      simp
    · rename_i hx
      refine .inl ⟨rfl, ?_⟩
      unfold decN
      rw [if_neg k1, if_neg (by omega)]
      by_cases q : c.toNat / 16 = 14 ∧ 2 ≤ r.length ∧ (r.getD 0 0).toNat / 64 = 2 ∧ (r.getD 1 0).toNat / 64 = 2
      · rw [if_pos q]
        rw [if_neg]
        rw [valid_iff]
        intro hge
        refine hx ⟨q.2.1, by omega, by omega, ?_⟩
        rw [Bool.eq_false_iff, ne_eq, badV_iff]
        omega
      · rw [if_neg q, if_neg (by omega)]
  rw [u8head_four ⟨by omega, by omega⟩]
  split
  · rename_i hx
    unfold decN
    rw [if_neg k1, if_neg (by omega), if_neg (by omega)]
    obtain ⟨g1, g2, g3, g4, g5⟩ := hx
    have g5' : ¬ badV (64 * (64 * (64 * ((c.toNat : Int) - 240) + (r.getD 0 0).toNat - 128) + (r.getD 1 0).toNat - 128) + (r.getD 2 0).toNat - 128) 65536 = true := by rw [g5]; decide
    rw [badV_iff] at g5'
    refine .inr ⟨3, rfl, ?_⟩
    rw [if_pos (by omega), if_pos (by rw [valid_iff]; omega)]
    simp
  · rename_i hx
    refine .inl ⟨rfl, ?_⟩
    unfold decN
    rw [if_neg k1, if_neg (by omega), if_neg (by omega)]
    by_cases q : c.toNat / 8 = 30 ∧ 3 ≤ r.length ∧ (r.getD 0 0).toNat / 64 = 2 ∧ (r.getD 1 0).toNat / 64 = 2 ∧ (r.getD 2 0).toNat / 64 = 2
    · rw [if_pos q]
      rw [if_neg]
      rw [valid_iff]
      intro hge
      refine hx ⟨q.2.1, by omega, by omega, by omega, ?_⟩
      rw [Bool.eq_false_iff, ne_eq, badV_iff]
      omega
    · rw [if_neg q]

theorem validGo_u8 : ∀ (n : Nat) (l : List UInt8), l.length ≤ n → Lib.validGoD n l = u8 l
  | 0, l, h => by
    have : l = [] := List.eq_nil_of_length_eq_zero (by omega)
    subst this; rfl
  | n + 1, [], _ => rfl
  | n + 1, c :: r, h => by
    unfold Lib.validGoD
    rw [if_neg (by simp), decodeL_eq, u8_cons]
    rw [List.length_cons] at h
    rcases heads c r with ⟨h1, h2⟩ | ⟨m, h1, h2, h3⟩
    · rw [h1, h2]; rfl
    · rw [h1, if_neg h3, h2]
      rw [validGo_u8 n _ (by rw [List.length_drop, List.length_cons]; omega), List.drop_succ_cons]

theorem valid_u8 (l : List UInt8) : Lib.validD l = u8 l := validGo_u8 _ _ (Nat.le_refl _)

end Go.Proofs.YtocjhaahifpnbaaDoorPg

/- Keys of values: a number's bytes, shifted. -/
namespace Go.Proofs.YtocjhaahifpnbaaDoorPg
open Go Go.RowKit

theorem xor_top {a : Nat} (h : a < 18446744073709551616) : a ^^^ 9223372036854775808 = (a + 9223372036854775808) % 18446744073709551616 := by
  have key : ∀ r : Nat, r < 2 ^ 63 → r ^^^ 2 ^ 63 = 2 ^ 63 * 1 + r := fun r hr => by
    apply Nat.eq_of_testBit_eq
    intro j
    rw [Nat.testBit_xor, Nat.testBit_two_pow_mul_add 1 hr, Nat.testBit_two_pow]
    by_cases h1 : j < 63
    · rw [if_pos h1]
      have : ¬ 63 = j := by omega
      simp [this]
    · rw [if_neg h1]
      have h2 : r.testBit j = false := Nat.testBit_lt_two_pow (Nat.lt_of_lt_of_le hr (Nat.pow_le_pow_right (by decide) (by omega)))
      rw [h2]
      by_cases h3 : j = 63
      · subst h3; rfl
      · obtain ⟨k, hk⟩ : ∃ k, j - 63 = k + 1 := ⟨j - 64, by omega⟩
        rw [hk]
        have : ¬ 63 = j := by omega
        simp [this]
        exact (Nat.testBit_lt_two_pow (x := 1) (i := k + 1) (Nat.one_lt_two_pow (by omega)))
  have e63 : (2 : Nat) ^ 63 = 9223372036854775808 := by decide
  rw [e63] at key
  by_cases c : a < 9223372036854775808
  · rw [key a c]; omega
  · have h1 := key (a - 9223372036854775808) (by omega)
    have h2 : a = (a - 9223372036854775808) ^^^ 9223372036854775808 := by rw [h1]; omega
    rw [h2, Nat.xor_assoc, Nat.xor_self, Nat.xor_zero, ← h2]
    omega

theorem wrap_u64 (n : Int) : IntKind.u64.wrap n = n % 18446744073709551616 := by
  simp [IntKind.wrap, IntKind.bits, IntKind.signed]

theorem keyM_bd (n : Int) : 0 ≤ keyM n ∧ keyM n < 18446744073709551616 := by
  unfold keyM; rw [wrap_u64]; omega

theorem xor_keyM (n : Int) : IntKind.u64.wrap ↑((BitVec.ofInt IntKind.u64.bits (IntKind.u64.wrap n)).toNat ^^^ (9223372036854775808#IntKind.u64.bits).toNat) = keyM n := by
  have e1 : (BitVec.ofInt IntKind.u64.bits (IntKind.u64.wrap n)).toNat = (n % 18446744073709551616).toNat := by
    rw [wrap_u64]
    show (BitVec.ofInt 64 _).toNat = _
    rw [BitVec.toNat_ofInt]
    have : (2 : Int) ^ 64 = 18446744073709551616 := by decide
    omega
  have e2 : (9223372036854775808#IntKind.u64.bits).toNat = 9223372036854775808 := rfl
  rw [e1, e2, xor_top (by omega), wrap_u64]
  unfold keyM
  rw [wrap_u64, wrap_u64]
  omega

theorem xor_keyB (n : Int) : IntKind.u64.wrap ↑(BitVec.ofInt IntKind.u64.bits (IntKind.u64.wrap n) ^^^ BitVec.ofInt IntKind.u64.bits 9223372036854775808).toNat = keyM n := by
  rw [← xor_keyM n, BitVec.toNat_xor]
  rfl

theorem b8_mod {x y : Int} (h : x % 256 = y % 256) : b8 x = b8 y := by unfold b8; rw [h]

theorem byte_eq (n : Int) (j : Nat) (hj : j < 8) : b8 ((keyM n).fdiv (2 ^ min (IntKind.i64.wrap (8 * IntKind.i64.wrap (7 - (j : Int)))).toNat IntKind.u64.bits)) = b8 (IntKind.u64.wrap ((beS (keyM n) j).tdiv 72057594037927936)) := by
  obtain ⟨h0, h1⟩ := keyM_bd n
  generalize keyM n = m at *
  apply b8_mod
  rw [wrap_u64]
  have e : (IntKind.i64.wrap (8 * IntKind.i64.wrap (7 - (j : Int)))).toNat = 56 - 8 * j := by
    rw [IntKind.wrap_i64, IntKind.wrap_i64]; omega
  rw [e]
  have e2 : min (56 - 8 * j) IntKind.u64.bits = 56 - 8 * j := by show min (56 - 8 * j) 64 = _; omega
  rw [e2]
  have nn : ∀ k, 0 ≤ beS m k := fun k => by
    cases k with
    | zero => exact h0
    | succ k => unfold beS; rw [wrap_u64]; omega
  rw [Int.tdiv_eq_ediv_of_nonneg (nn j)]
  have hp : ∀ k : Nat, (0 : Int) ≤ 2 ^ k := fun k => Int.le_of_lt (Int.pow_pos (by decide))
  rw [Int.fdiv_eq_ediv_of_nonneg _ (hp _)]
  clear nn e e2
  obtain rfl | rfl | rfl | rfl | rfl | rfl | rfl | rfl : j = 0 ∨ j = 1 ∨ j = 2 ∨ j = 3 ∨ j = 4 ∨ j = 5 ∨ j = 6 ∨ j = 7 := by omega
  · have hq : (2 : Int) ^ (56 - 8 * 0) = 72057594037927936 := by decide
    rw [hq]
    simp only [beS]
    omega
  · have hq : (2 : Int) ^ (56 - 8 * 1) = 281474976710656 := by decide
    rw [hq]
    simp only [beS, wrap_u64]
    omega
  · have hq : (2 : Int) ^ (56 - 8 * 2) = 1099511627776 := by decide
    rw [hq]
    simp only [beS, wrap_u64]
    omega
  · have hq : (2 : Int) ^ (56 - 8 * 3) = 4294967296 := by decide
    rw [hq]
    simp only [beS, wrap_u64]
    omega
  · have hq : (2 : Int) ^ (56 - 8 * 4) = 16777216 := by decide
    rw [hq]
    simp only [beS, wrap_u64]
    omega
  · have hq : (2 : Int) ^ (56 - 8 * 5) = 65536 := by decide
    rw [hq]
    simp only [beS, wrap_u64]
    omega
  · have hq : (2 : Int) ^ (56 - 8 * 6) = 256 := by decide
    rw [hq]
    simp only [beS, wrap_u64]
    omega
  · have hq : (2 : Int) ^ (56 - 8 * 7) = 1 := by decide
    rw [hq]
    simp only [beS, wrap_u64]
    omega

end Go.Proofs.YtocjhaahifpnbaaDoorPg

/- Keys of values: what they are read as. -/
namespace Go.Proofs.YtocjhaahifpnbaaDoorPg
open Go Go.RowKit

/-- the text at the beginning of a key, what is left, whether there is one -/
def tx (acc : List UInt8) : List UInt8 → List UInt8 × List UInt8 × Bool
  | [] => ([], [], false)
  | [_] => ([], [], false)
  | c :: d :: r => if c = 0 then (if d = 1 then (acc, r, true) else if d = 255 then tx (acc ++ [0]) r else ([], [], false)) else tx (acc ++ [c]) (d :: r)

theorem tx_short {acc l : List UInt8} (h : l.length ≤ 1) : tx acc l = ([], [], false) := by
  match l, h with
  | [], _ => simp [tx]
  | [_], _ => simp [tx]

theorem tx_len : ∀ (n : Nat) (acc l : List UInt8), l.length ≤ n → (tx acc l).1.length ≤ acc.length + l.length ∧ (tx acc l).2.1.length ≤ l.length
  | 0, acc, l, h => by
    have : l = [] := List.eq_nil_of_length_eq_zero (by omega)
    subst this; simp [tx]
  | n + 1, acc, [], h => by simp [tx]
  | n + 1, acc, [_], h => by simp [tx]
  | n + 1, acc, c :: d :: r, h => by
    simp only [List.length_cons] at h
    unfold tx
    split
    · split
      · simp only [List.length_cons]; omega
      · split
        · have := tx_len n (acc ++ [0]) r (by omega)
          simp only [List.length_append, List.length_cons, List.length_nil] at this ⊢; omega
        · simp only [List.length_nil]; omega
    · have := tx_len n (acc ++ [c]) (d :: r) (by simp only [List.length_cons]; omega)
      simp only [List.length_append, List.length_cons, List.length_nil] at this ⊢; omega

theorem tx_esc (rest : List UInt8) : ∀ (t acc : List UInt8), tx acc (escL t ++ 0 :: 1 :: rest) = (acc ++ t, rest, true)
  | [], acc => by simp [escL, tx]
  | b :: t, acc => by
    have e : escL (b :: t) = escB b ++ escL t := by simp [escL]
    rw [e]
    unfold escB
    by_cases hb : b = 0
    · subst hb
      rw [if_pos rfl]
      simp only [List.cons_append, List.nil_append]
      rw [tx, if_pos rfl, if_neg (by decide), if_pos rfl, tx_esc rest t]
      simp
    · rw [if_neg hb]
      simp only [List.cons_append, List.nil_append]
      obtain ⟨d, r, hd⟩ : ∃ d r, escL t ++ 0 :: 1 :: rest = d :: r := by
        cases hx : escL t with
        | nil => exact ⟨_, _, rfl⟩
        | cons x y => exact ⟨_, _, rfl⟩
      rw [hd, tx, if_neg hb, ← hd, tx_esc rest t]
      simp

theorem tx_back : ∀ (n : Nat) (acc l a r : List UInt8), l.length ≤ n → tx acc l = (a, r, true) → ∃ t, a = acc ++ t ∧ l = escL t ++ 0 :: 1 :: r
  | 0, acc, l, a, r, h, hx => by
    have : l = [] := List.eq_nil_of_length_eq_zero (by omega)
    subst this; simp [tx] at hx
  | n + 1, acc, [], a, r, h, hx => by simp [tx] at hx
  | n + 1, acc, [_], a, r, h, hx => by simp [tx] at hx
  | n + 1, acc, c :: d :: q, a, r, h, hx => by
    simp only [List.length_cons] at h
    unfold tx at hx
    split at hx
    · rename_i hc
      subst hc
      split at hx
      · rename_i hd
        subst hd
        cases hx
        exact ⟨[], by simp, by simp [escL]⟩
      · split at hx
        · rename_i hd
          subst hd
          obtain ⟨t, e1, e2⟩ := tx_back n (acc ++ [0]) q a r (by omega) hx
          refine ⟨0 :: t, by rw [e1]; simp, ?_⟩
          have e : escL (0 :: t) = [0, 255] ++ escL t := by simp [escL, escB]
          rw [e, e2]; simp
        · simp at hx
    · rename_i hc
      obtain ⟨t, e1, e2⟩ := tx_back n (acc ++ [c]) (d :: q) a r (by simp only [List.length_cons]; omega) hx
      refine ⟨c :: t, by rw [e1]; simp, ?_⟩
      have e : escL (c :: t) = [c] ++ escL t := by simp [escL, escB, hc]
      rw [e, e2]; simp

/-- a number of bytes -/
def deB (l : List UInt8) : Int := l.foldl (fun n b => n * 256 + (b.toNat : Int)) 0

/-- the value at the beginning of a key, what is left, whether there is one -/
def oneP (c : UInt8) (r : List UInt8) : Val × List UInt8 × Bool :=
  if (c.toNat : Int) = 1 then (⟨1, ((r.headD 0).toNat : Int), []⟩, r.tail, decide (r ≠ []))
  else if (c.toNat : Int) = 2 then (if 8 ≤ r.length then (⟨2, deB (r.take 8) - 9223372036854775808, []⟩, r.drop 8, true) else (⟨2, 0, []⟩, r, false))
  else if (c.toNat : Int) = 3 ∨ (c.toNat : Int) = 4 then (⟨c.toNat, 0, (tx [] r).1⟩, (tx [] r).2.1, (tx [] r).2.2)
  else (⟨c.toNat, 0, []⟩, r, true)

def oneT : List UInt8 → Val × List UInt8 × Bool
  | [] => (val0, [], false)
  | c :: r => ((oneP c r).1, (oneP c r).2.1, (oneP c r).2.2 && mayV (oneP c r).1)

def valuesF : Nat → List Val → List UInt8 → Option (List Val)
  | 0, _, _ => none
  | f + 1, acc, s => if s = [] then some acc else if (oneT s).2.2 then valuesF f (acc ++ [(oneT s).1]) (oneT s).2.1 else none

def valuesL (s : List UInt8) : Option (List Val) := valuesF (s.length + 1) [] s

theorem oneP_len (c : UInt8) (r : List UInt8) : (oneP c r).2.1.length ≤ r.length ∧ (oneP c r).1.t.length ≤ r.length := by
  unfold oneP
  have := tx_len r.length [] r (Nat.le_refl _)
  simp only [List.length_nil] at this
  repeat' split
  all_goals simp only [List.length_tail, List.length_drop, List.length_nil]
  all_goals omega

theorem oneT_len {s : List UInt8} (h : s ≠ []) : (oneT s).2.1.length < s.length ∧ (oneT s).1.t.length ≤ s.length := by
  cases s with
  | nil => exact absurd rfl h
  | cons c r =>
    have := oneP_len c r
    simp only [oneT, List.length_cons]
    omega

theorem deB_be {m : Int} (h0 : 0 ≤ m) (h1 : m < 18446744073709551616) : deB (beB m 8) = m := by
  have bt : ∀ x : Int, ((b8 x).toNat : Int) = x % 256 := fun x => by rw [← b8_wrap]; simp [IntKind.wrap, IntKind.bits, IntKind.signed]
  have nn : ∀ k, 0 ≤ beS m k := fun k => by
    cases k with
    | zero => exact h0
    | succ k => unfold beS; rw [wrap_u64]; omega
  have fold : ∀ (l : List UInt8) (b : UInt8), deB (l ++ [b]) = deB l * 256 + (b.toNat : Int) := fun l b => by simp [deB, List.foldl_append]
  have z0 : beS m 0 = m := rfl
  have st : ∀ k, beS m (k + 1) = (beS m k * 256) % 18446744073709551616 := fun k => by rw [beS, wrap_u64]
  have sd : ∀ k, deB (beB m (k + 1)) = deB (beB m k) * 256 + (beS m k / 72057594037927936) % 256 := fun k => by
    rw [beB, fold, bt, wrap_u64, Int.tdiv_eq_ediv_of_nonneg (nn k)]
    have := nn k
    generalize beS m k = y at *
    omega
  have y0 : deB (beB m 0) = 0 := rfl
  clear nn bt fold
  have s1 := st 0
  rw [z0] at s1
  have z1 : beS m 1 = (m * 256) % 18446744073709551616 := by rw [s1]
  have y1 : deB (beB m 1) = m / 72057594037927936 := by
    rw [sd 0, y0, z0]; omega
  have s2 := st 1
  rw [z1] at s2
  have z2 : beS m 2 = (m * 65536) % 18446744073709551616 := by rw [s2]; omega
  have y2 : deB (beB m 2) = m / 281474976710656 := by
    rw [sd 1, y1, z1]; omega
  have s3 := st 2
  rw [z2] at s3
  have z3 : beS m 3 = (m * 16777216) % 18446744073709551616 := by rw [s3]; omega
  have y3 : deB (beB m 3) = m / 1099511627776 := by
    rw [sd 2, y2, z2]; omega
  have s4 := st 3
  rw [z3] at s4
  have z4 : beS m 4 = (m * 4294967296) % 18446744073709551616 := by rw [s4]; omega
  have y4 : deB (beB m 4) = m / 4294967296 := by
    rw [sd 3, y3, z3]; omega
  have s5 := st 4
  rw [z4] at s5
  have z5 : beS m 5 = (m * 1099511627776) % 18446744073709551616 := by rw [s5]; omega
  have y5 : deB (beB m 5) = m / 16777216 := by
    rw [sd 4, y4, z4]; omega
  have s6 := st 5
  rw [z5] at s6
  have z6 : beS m 6 = (m * 281474976710656) % 18446744073709551616 := by rw [s6]; omega
  have y6 : deB (beB m 6) = m / 65536 := by
    rw [sd 5, y5, z5]; omega
  have s7 := st 6
  rw [z6] at s7
  have z7 : beS m 7 = (m * 72057594037927936) % 18446744073709551616 := by rw [s7]; omega
  have y7 : deB (beB m 7) = m / 256 := by
    rw [sd 6, y6, z6]; omega
  have s8 := st 7
  rw [z7] at s8
  have z8 : beS m 8 = (m * 18446744073709551616) % 18446744073709551616 := by rw [s8]; omega
  have y8 : deB (beB m 8) = m / 1 := by
    rw [sd 7, y7, z7]; omega
  rw [y8]; omega

set_option maxHeartbeats 4000000 in
theorem be_deB {l : List UInt8} (h : l.length = 8) : beB (deB l) 8 = l ∧ 0 ≤ deB l ∧ deB l < 18446744073709551616 := by
  match l, h with
  | [a, b, c, d, e, f, g, i], _ =>
    have ha := a.toNat_lt; have hb := b.toNat_lt; have hc := c.toNat_lt; have hd := d.toNat_lt; have he := e.toNat_lt; have hf := f.toNat_lt; have hg := g.toNat_lt; have hi := i.toNat_lt
    have hm : deB [a, b, c, d, e, f, g, i] = (((((((a.toNat * 256 + b.toNat) * 256 + c.toNat) * 256 + d.toNat) * 256 + e.toNat) * 256 + f.toNat) * 256 + g.toNat) * 256 + i.toNat : Int) := by
      simp [deB]
    refine ⟨?_, by rw [hm]; omega, by rw [hm]; omega⟩
    generalize hM : deB [a, b, c, d, e, f, g, i] = m at *
    have nn : ∀ k, 0 ≤ beS m k := fun k => by
      cases k with
      | zero => show 0 ≤ m; omega
      | succ k => unfold beS; rw [wrap_u64]; omega
    have bb : ∀ (x : Int) (y : UInt8), x % 256 = y.toNat → b8 x = y := fun x y hx => by
      apply UInt8.toNat_inj.1
      have : ((b8 x).toNat : Int) = x % 256 := by rw [← b8_wrap]; simp [IntKind.wrap, IntKind.bits, IntKind.signed]
      omega
    have step : ∀ k, IntKind.u64.wrap ((beS m k).tdiv 72057594037927936) = (beS m k / 72057594037927936) % 18446744073709551616 := fun k => by
      rw [wrap_u64, Int.tdiv_eq_ediv_of_nonneg (nn k)]
    simp only [beB, List.nil_append, List.cons_append, step]
    clear nn step
    simp only [beS, wrap_u64]
    rw [bb _ a (by omega), bb _ b (by omega), bb _ c (by omega), bb _ d (by omega), bb _ e (by omega), bb _ f (by omega), bb _ g (by omega), bb _ i (by omega)]

def I64V (n : Int) : Prop := -9223372036854775808 ≤ n ∧ n ≤ 9223372036854775807

theorem b8_nat {x : Int} (h : 0 ≤ x ∧ x < 256) : ((b8 x).toNat : Int) = x := by
  rw [← b8_wrap]
  have : IntKind.u8.wrap x = x % 256 := by simp [IntKind.wrap, IntKind.bits, IntKind.signed]
  rw [this]; omega

theorem b8_toNat (c : UInt8) : b8 (c.toNat : Int) = c := by
  apply UInt8.toNat_inj.1
  have := b8_nat (x := c.toNat) ⟨by omega, by have := c.toNat_lt; omega⟩
  omega

theorem keyM_de {n : Int} (h : I64V n) : keyM n - 9223372036854775808 = n := by
  obtain ⟨h1, h2⟩ := h
  unfold keyM; rw [wrap_u64, wrap_u64]; omega

theorem oneT_key {v : Val} (hm : mayV v = true) (hn : I64V v.n) (rest : List UInt8) : oneT (keyV v ++ rest) = (v, rest, true) := by
  obtain ⟨k, n, t⟩ := v
  have hm0 := hm
  unfold mayV at hm
  simp only at hm hn
  have fin : ∀ (c : UInt8) (r : List UInt8), keyV ⟨k, n, t⟩ ++ rest = c :: r → oneP c r = (⟨k, n, t⟩, rest, true) → oneT (keyV ⟨k, n, t⟩ ++ rest) = (⟨k, n, t⟩, rest, true) := fun c r e1 e2 => by
    rw [e1]; simp only [oneT, e2, hm0, Bool.true_and]
  by_cases c0 : k = 0
  · subst c0
    rw [if_pos rfl] at hm
    simp at hm
    obtain ⟨rfl, rfl⟩ := hm
    exact fin 0 rest rfl rfl
  rw [if_neg c0] at hm
  by_cases c1 : k = 1
  · subst c1
    rw [if_pos rfl] at hm
    simp at hm
    obtain ⟨rfl, hm⟩ := hm
    rcases hm with rfl | rfl
    · exact fin 1 (0 :: rest) rfl rfl
    · exact fin 1 (1 :: rest) rfl rfl
  rw [if_neg c1] at hm
  by_cases c2 : k = 2
  · subst c2
    rw [if_pos rfl] at hm
    simp at hm
    subst hm
    refine fin 2 (beB (keyM n) 8 ++ rest) rfl ?_
    have hl := beB_len (keyM n) 8
    unfold oneP
    rw [if_neg (by decide), if_pos (by decide), if_pos (by rw [List.length_append]; omega)]
    rw [List.take_left' hl, List.drop_left' hl, deB_be (keyM_bd n).1 (keyM_bd n).2, keyM_de hn]
  rw [if_neg c2] at hm
  have c34 : (k = 3 ∨ k = 4) ∧ n = 0 := by
    by_cases c3 : k = 3
    · rw [if_pos c3] at hm
      simp at hm
      exact ⟨.inl c3, hm.1.2⟩
    · rw [if_neg c3] at hm
      by_cases c4 : k = 4
      · rw [if_pos c4] at hm
        simp at hm
        exact ⟨.inr c4, hm.1⟩
      · rw [if_neg c4] at hm; cases hm
  obtain ⟨c34, rfl⟩ := c34
  have ek : keyV ⟨k, 0, t⟩ ++ rest = b8 k :: (escL t ++ 0 :: 1 :: rest) := by
    unfold keyV keyT
    rw [if_neg c1, if_neg c2, if_pos c34]
    simp
  refine fin _ _ ek ?_
  have e8 := b8_nat (x := k) (by omega)
  unfold oneP
  rw [e8, if_neg c1, if_neg c2, if_pos c34, tx_esc]
  rfl

theorem oneT_back {s : List UInt8} {v : Val} {r : List UInt8} (h : oneT s = (v, r, true)) : keyV v ++ r = s ∧ mayV v = true := by
  cases s with
  | nil => simp [oneT] at h
  | cons c q =>
    simp only [oneT, Prod.mk.injEq, Bool.and_eq_true] at h
    obtain ⟨h1, h2, h3, h4⟩ := h
    rw [h1] at h4
    refine ⟨?_, h4⟩
    unfold oneP at h1 h2 h3
    by_cases c1 : (c.toNat : Int) = 1
    · rw [if_pos c1] at h1 h2 h3
      subst h1
      simp only [decide_eq_true_eq] at h3
      cases q with
      | nil => exact absurd rfl h3
      | cons d q =>
        simp only [List.tail_cons] at h2
        subst h2
        show b8 1 :: (keyT _ ++ q) = _
        unfold keyT
        rw [if_pos rfl, List.headD_cons, b8_toNat, ← c1, b8_toNat]
        rfl
    rw [if_neg c1] at h1 h2 h3
    by_cases c2 : (c.toNat : Int) = 2
    · rw [if_pos c2] at h1 h2 h3
      by_cases c8 : 8 ≤ q.length
      · rw [if_pos c8] at h1 h2 h3
        subst h1
        simp only at h2
        subst h2
        obtain ⟨g1, g2, g3⟩ := be_deB (l := q.take 8) (by rw [List.length_take]; omega)
        show b8 2 :: (keyT _ ++ _) = _
        unfold keyT
        rw [if_neg (show ¬ (2 : Int) = 1 by decide), if_pos (show (2 : Int) = 2 from rfl)]
        have e : keyM (deB (q.take 8) - 9223372036854775808) = deB (q.take 8) := by
          unfold keyM; rw [wrap_u64, wrap_u64]; omega
        rw [e, g1, List.take_append_drop, ← c2, b8_toNat]
      · rw [if_neg c8] at h3; cases h3
    rw [if_neg c2] at h1 h2 h3
    by_cases c34 : (c.toNat : Int) = 3 ∨ (c.toNat : Int) = 4
    · rw [if_pos c34] at h1 h2 h3
      obtain ⟨t, e1, e2⟩ := tx_back q.length [] q (tx [] q).1 (tx [] q).2.1 (Nat.le_refl _) (by rw [← h3])
      subst h1
      simp only at h2
      subst h2
      show b8 _ :: (keyT _ ++ _) = _
      unfold keyT
      rw [if_neg c1, if_neg c2, if_pos c34, b8_toNat, e1, List.nil_append]
      conv => rhs; rw [e2]
      simp
    rw [if_neg c34] at h1 h2 h3
    simp only at h2
    subst h1 h2
    have hc0 : (c.toNat : Int) = 0 := by
      unfold mayV at h4
      by_cases c0 : (c.toNat : Int) = 0
      · exact c0
      · simp only at h4
        rw [if_neg c0, if_neg c1, if_neg c2, if_neg (fun e => c34 (.inl e)), if_neg (fun e => c34 (.inr e))] at h4
        cases h4
    show b8 _ :: (keyT _ ++ _) = _
    unfold keyT
    rw [if_neg c1, if_neg c2, if_neg c34, b8_toNat]
    rfl

theorem keyV_ne (v : Val) (r : List UInt8) : keyV v ++ r ≠ [] := by unfold keyV; simp

theorem keyS_cons (v : Val) (l : List Val) : keyS (v :: l) = keyV v ++ keyS l := by simp [keyS]

theorem valuesF_key : ∀ (l : List Val) (f : Nat) (acc : List Val), (∀ v ∈ l, mayV v = true ∧ I64V v.n) → (keyS l).length < f → valuesF f acc (keyS l) = some (acc ++ l)
  | l, 0, acc, _, h => by omega
  | [], f + 1, acc, _, _ => by simp [valuesF, keyS]
  | v :: l, f + 1, acc, hm, h => by
    have h1 := hm v (by simp)
    rw [keyS_cons] at h ⊢
    rw [valuesF, if_neg (keyV_ne _ _), oneT_key h1.1 h1.2]
    simp only [if_true]
    rw [valuesF_key l f _ (fun w hw => hm w (by simp [hw])) (by rw [List.length_append] at h; unfold keyV at h; rw [List.length_cons] at h; omega)]
    simp

theorem valuesF_back : ∀ (f : Nat) (acc : List Val) (s : List UInt8) (l : List Val), valuesF f acc s = some l → keyS l = keyS acc ++ s ∧ ((∀ v ∈ acc, mayV v = true) → ∀ v ∈ l, mayV v = true)
  | 0, _, _, _, h => by simp [valuesF] at h
  | f + 1, acc, s, l, h => by
    unfold valuesF at h
    split at h
    · rename_i hs
      cases h
      subst hs
      exact ⟨by simp, fun h => h⟩
    · split at h
      · rename_i ho
        obtain ⟨g1, g2⟩ := oneT_back (s := s) (v := (oneT s).1) (r := (oneT s).2.1) (by rw [← ho])
        obtain ⟨k1, k2⟩ := valuesF_back f _ _ _ h
        refine ⟨?_, fun ha => k2 fun w hw => ?_⟩
        · rw [k1]
          have : keyS (acc ++ [(oneT s).1]) = keyS acc ++ keyV (oneT s).1 := by simp [keyS]
          rw [this, List.append_assoc, g1]
        · rcases List.mem_append.1 hw with h1 | h1
          · exact ha w h1
          · simp at h1; subst h1; exact g2
      · cases h

end Go.Proofs.YtocjhaahifpnbaaDoorPg

/- Keys of values: a number's bytes, read. -/
namespace Go.Proofs.YtocjhaahifpnbaaDoorPg
open Go Go.RowKit

theorem deB_snoc (l : List UInt8) (b : UInt8) : deB (l ++ [b]) = deB l * 256 + (b.toNat : Int) := by simp [deB, List.foldl_append]

theorem deB_take {r : List UInt8} {j : Nat} {b : UInt8} (h : r[j]? = some b) : deB (r.take (j + 1)) = deB (r.take j) * 256 + (b.toNat : Int) := by
  rw [List.take_add_one, h]
  exact deB_snoc _ _

theorem deB_bd : ∀ (r : List UInt8) (j : Nat), j ≤ r.length → 0 ≤ deB (r.take j) ∧ deB (r.take j) < 256 ^ j
  | r, 0, _ => by simp [deB]
  | r, j + 1, h => by
    have hg : r[j]? = some r[j] := List.getElem?_eq_getElem (by omega)
    have ih := deB_bd r j (by omega)
    have hb := (r[j]).toNat_lt
    rw [deB_take hg, Int.pow_succ]
    generalize (256 : Int) ^ j = p at *
    omega

theorem pow_le8 {j : Nat} (h : j < 8) : (256 : Int) ^ j ≤ 72057594037927936 := by
  obtain rfl | rfl | rfl | rfl | rfl | rfl | rfl | rfl : j = 0 ∨ j = 1 ∨ j = 2 ∨ j = 3 ∨ j = 4 ∨ j = 5 ∨ j = 6 ∨ j = 7 := by omega
  all_goals decide

theorem or_step {n : Int} {b : UInt8} (h0 : 0 ≤ n) (h1 : n < 72057594037927936) :
    IntKind.u64.wrap ↑(BitVec.ofInt IntKind.u64.bits (IntKind.u64.wrap (n * 2 ^ min (8 : Int).toNat IntKind.u64.bits)) ||| BitVec.ofInt IntKind.u64.bits (IntKind.u64.wrap (b.toNat : Int))).toNat = n * 256 + (b.toNat : Int) := by
  have hb := b.toNat_lt
  have e0 : (2 : Int) ^ min (8 : Int).toNat IntKind.u64.bits = 256 := by decide
  rw [e0, wrap_u64, wrap_u64, wrap_u64]
  have p64 : (2 : Int) ^ 64 = 18446744073709551616 := by decide
  have e1 : (BitVec.ofInt 64 (n * 256 % 18446744073709551616)).toNat = 2 ^ 8 * n.toNat := by
    rw [BitVec.toNat_ofInt]
    have e8 : (2 : Nat) ^ 8 = 256 := by decide
    omega
  have e2 : (BitVec.ofInt 64 ((b.toNat : Int) % 18446744073709551616)).toNat = b.toNat := by
    rw [BitVec.toNat_ofInt]; omega
  have e3 : (BitVec.ofInt 64 (n * 256 % 18446744073709551616) ||| BitVec.ofInt 64 ((b.toNat : Int) % 18446744073709551616)).toNat = 2 ^ 8 * n.toNat + b.toNat := by
    rw [BitVec.toNat_or, e1, e2, Nat.two_pow_add_eq_or_of_lt (by simpa using hb)]
  show ((BitVec.ofInt 64 (n * 256 % 18446744073709551616) ||| BitVec.ofInt 64 ((b.toNat : Int) % 18446744073709551616)).toNat : Int) % _ = _
  rw [e3]
  have e8 : (2 : Nat) ^ 8 = 256 := by decide
  omega

theorem xor_back {m : Int} (h0 : 0 ≤ m) (h1 : m < 18446744073709551616) : IntKind.i64.wrap (IntKind.u64.wrap ↑(BitVec.ofInt IntKind.u64.bits m ^^^ BitVec.ofInt IntKind.u64.bits 9223372036854775808).toNat) = m - 9223372036854775808 := by
  have e := xor_keyB m
  rw [wrap_u64 m, show m % 18446744073709551616 = m by omega] at e
  rw [e]
  unfold keyM
  rw [wrap_u64, wrap_u64, IntKind.wrap_i64]
  omega

end Go.Proofs.YtocjhaahifpnbaaDoorPg

/- The order of texts. -/
namespace Go.Proofs.YtocjhaahifpnbaaDoorPg
open Go Go.RowKit

theorem less_total : ∀ {a b : List UInt8}, Op.bytesLess a b = false → Op.bytesLess b a = false → a = b
  | [], [], _, _ => rfl
  | [], _ :: _, h, _ => by simp [Op.bytesLess] at h
  | _ :: _, [], _, h => by simp [Op.bytesLess] at h
  | x :: a, y :: b, h, g => by
    simp only [Op.bytesLess, Bool.or_eq_false_iff, decide_eq_false_iff_not, Bool.and_eq_false_iff, beq_eq_false_iff_ne] at h g
    have hxy : x = y := by
      have h1 : ¬ x.toNat < y.toNat := fun hh => h.1 (UInt8.lt_iff_toNat_lt.2 hh)
      have h2 : ¬ y.toNat < x.toNat := fun hh => g.1 (UInt8.lt_iff_toNat_lt.2 hh)
      exact UInt8.toNat_inj.1 (by omega)
    subst hxy
    rcases h.2 with h2 | h2
    · exact absurd rfl h2
    · rcases g.2 with g2 | g2
      · exact absurd rfl g2
      · rw [less_total h2 g2]

theorem less_irrefl : ∀ (a : List UInt8), Op.bytesLess a a = false
  | [] => rfl
  | x :: a => by
    have h1 : ¬ x < x := fun h => by have := UInt8.lt_iff_toNat_lt.1 h; omega
    simp [Op.bytesLess, less_irrefl a, h1]

theorem less_trans : ∀ {a b c : List UInt8}, Op.bytesLess a b = true → Op.bytesLess b c = true → Op.bytesLess a c = true
  | _, _, [], _, h => by cases ‹List UInt8› <;> simp [Op.bytesLess] at h
  | [], _, _ :: _, _, _ => by simp [Op.bytesLess]
  | x :: a, [], z :: c, h, _ => by simp [Op.bytesLess] at h
  | x :: a, y :: b, z :: c, h, g => by
    simp only [Op.bytesLess, Bool.or_eq_true, decide_eq_true_eq, Bool.and_eq_true, beq_iff_eq] at h g ⊢
    rcases h with h | ⟨rfl, h⟩
    · rcases g with g | ⟨rfl, g⟩
      · left
        have := UInt8.lt_iff_toNat_lt.1 h
        have := UInt8.lt_iff_toNat_lt.1 g
        exact UInt8.lt_iff_toNat_lt.2 (by omega)
      · exact .inl h
    · rcases g with g | ⟨rfl, g⟩
      · exact .inl g
      · exact .inr ⟨rfl, less_trans h g⟩

theorem less_asymm {a b : List UInt8} (h : Op.bytesLess a b = true) : Op.bytesLess b a = false := by
  cases hb : Op.bytesLess b a with
  | false => rfl
  | true => have := less_trans h hb; rw [less_irrefl] at this; cases this

theorem less_ne {a b : List UInt8} (h : Op.bytesLess a b = true) : a ≠ b := fun e => by rw [e, less_irrefl] at h; cases h

theorem le_eq (a b : List UInt8) : (Op.bytesLess a b || decide (a = b)) = !Op.bytesLess b a := by
  cases h : Op.bytesLess a b
  · cases g : Op.bytesLess b a
    · simp [less_total h g]
    · have := less_ne g
      have e : ¬ a = b := fun e => this e.symm
      simp [e]
  · simp [less_asymm h]

theorem gt_eq (a b : List UInt8) : (!(Op.bytesLess a b || decide (a = b))) = Op.bytesLess b a := by rw [le_eq, Bool.not_not]

theorem half_eq {i j : Nat} (h : i + j < 1000000000) : IntKind.i64.wrap ((IntKind.u64.wrap (IntKind.i64.wrap ((i : Int) + (j : Int)))).fdiv (2 ^ min (1 : Int).toNat IntKind.u64.bits)) = (((i + j) / 2 : Nat) : Int) := by
  have e : (2 : Int) ^ min (1 : Int).toNat IntKind.u64.bits = 2 := by decide
  have w : ∀ n : Int, IntKind.u64.wrap n = n % 18446744073709551616 := fun n => by simp [IntKind.wrap, IntKind.bits, IntKind.signed]
  rw [e, Int.fdiv_eq_ediv_of_nonneg _ (by decide), w, IntKind.wrap_i64, IntKind.wrap_i64]
  omega

end Go.Proofs.YtocjhaahifpnbaaDoorPg

/- Works of copying: plain laws. -/
namespace Go.Proofs.YtocjhaahifpnbaaDoorPg
open Go Go.RowKit
set_option linter.unusedSimpArgs false

structure Wk where
  t : List UInt8
  d : Bool
  k : List UInt8
deriving DecidableEq

def wkC (w : Wk) : List V := [.str w.t, .bool w.d, .str w.k]
def wkA (w : Wk) : V := .agg [.str w.t, .bool w.d, .str w.k]
def wks (l : List Wk) : List (List V) := l.map wkC
def wk0 : Wk := ⟨[], false, []⟩

theorem wks_len (l : List Wk) : (wks l).length = l.length := by simp [wks]
theorem wks_get {l : List Wk} {i : Nat} {w : Wk} (h : l[i]? = some w) : (wks l)[i]? = some (wkC w) := by simp [wks, h]
theorem wks_take (l : List Wk) (n : Nat) : List.take n (wks l) = wks (l.take n) := by simp [wks, List.map_take]
theorem wks_drop (l : List Wk) (n : Nat) : List.drop n (wks l) = wks (l.drop n) := by simp [wks, List.map_drop]
theorem wks_app (a b : List Wk) : wks (a ++ b) = wks a ++ wks b := by simp [wks]
theorem wks_set (l : List Wk) (i : Nat) (w : Wk) : (wks l).set i (wkC w) = wks (l.set i w) := by simp [wks, List.map_set]

/-- few works of short texts -/
def fewC (w : Wk) : Wk := ⟨w.t.take 40, w.d, w.k.take 40⟩
def fewN (l : List Wk) (n : Nat) : List Wk := (l.take n).map fewC
def fewL (l : List Wk) : List Wk := fewN l 6

theorem fewN_snoc {l : List Wk} {i : Nat} {w : Wk} (h : l[i]? = some w) : fewN l (i + 1) = fewN l i ++ [fewC w] := by
  unfold fewN; rw [List.take_add_one, h]; simp

theorem fewN_len (l : List Wk) (n : Nat) : (fewN l n).length ≤ n := by unfold fewN; rw [List.length_map, List.length_take]; omega

/-- where a table's work stands -/
def atL (l : List Wk) (t : List UInt8) : Option Nat := l.findIdx? fun w => decide (w.t = t)
def atI (l : List Wk) (t : List UInt8) : Int := match atL l t with | some i => (i : Int) | none => -1

def NoneBefore (l : List Wk) (t : List UInt8) (i : Nat) : Prop := ∀ (j : Nat) (w : Wk), j < i → l[j]? = some w → w.t ≠ t

theorem at_some {l : List Wk} {t : List UInt8} {i : Nat} {w : Wk} (hn : NoneBefore l t i) (hi : l[i]? = some w) (ht : w.t = t) : atL l t = some i := by
  unfold atL
  rw [List.findIdx?_eq_some_iff_getElem]
  obtain ⟨h1, h2⟩ := List.getElem?_eq_some_iff.1 hi
  refine ⟨h1, by rw [h2]; simp [ht], fun j hj => ?_⟩
  have := hn j l[j] hj (List.getElem?_eq_getElem (by omega))
  simp [this]

theorem at_none {l : List Wk} {t : List UInt8} (hn : NoneBefore l t l.length) : atL l t = none := by
  unfold atL
  rw [List.findIdx?_eq_none_iff]
  intro w hw
  obtain ⟨j, hj⟩ := List.mem_iff_getElem?.1 hw
  have := hn j w (List.getElem?_eq_some_iff.1 hj).1 hj
  simp [this]

theorem at_get {l : List Wk} {t : List UInt8} {i : Nat} (h : atL l t = some i) : ∃ w, l[i]? = some w ∧ w.t = t ∧ NoneBefore l t i := by
  unfold atL at h
  rw [List.findIdx?_eq_some_iff_getElem] at h
  obtain ⟨h1, h2, h3⟩ := h
  refine ⟨l[i], List.getElem?_eq_getElem h1, by simpa using h2, fun j w hj hw => ?_⟩
  obtain ⟨g1, rfl⟩ := List.getElem?_eq_some_iff.1 hw
  simpa using h3 j hj

theorem at_no {l : List Wk} {t : List UInt8} (h : atL l t = none) : ∀ w ∈ l, w.t ≠ t := by
  unfold atL at h
  rw [List.findIdx?_eq_none_iff] at h
  intro w hw
  simpa using h w hw

/-- rising tables -/
def SortedW (l : List Wk) : Prop := l.Pairwise fun x y => Op.bytesLess x.t y.t = true

theorem sorted_get {l : List Wk} (h : SortedW l) {i j : Nat} {x y : Wk} (hij : i < j) (hi : l[i]? = some x) (hj : l[j]? = some y) : Op.bytesLess x.t y.t = true := by
  obtain ⟨h1, rfl⟩ := List.getElem?_eq_some_iff.1 hi
  obtain ⟨h2, rfl⟩ := List.getElem?_eq_some_iff.1 hj
  exact List.pairwise_iff_getElem.1 h i j h1 h2 hij

/-- how many tables come before one -/
def posL (l : List Wk) (t : List UInt8) : Nat := (l.takeWhile fun w => Op.bytesLess w.t t).length

theorem pos_le (l : List Wk) (t : List UInt8) : posL l t ≤ l.length := by
  unfold posL
  exact (List.takeWhile_sublist _).length_le

theorem takeW_imp {p : Wk → Bool} : ∀ {l : List Wk} {w : Wk}, w ∈ l.takeWhile p → p w = true
  | [], w, h => by simp at h
  | x :: l, w, h => by
    rw [List.takeWhile_cons] at h
    split at h
    · rename_i hx
      rcases List.mem_cons.1 h with rfl | h
      · exact hx
      · exact takeW_imp h
    · simp at h

theorem pos_before {l : List Wk} {t : List UInt8} {j : Nat} {w : Wk} (hj : j < posL l t) (h : l[j]? = some w) : Op.bytesLess w.t t = true := by
  unfold posL at hj
  have h1 : (l.takeWhile fun w => Op.bytesLess w.t t)[j]? = some w := by
    have := List.takeWhile_prefix (l := l) (fun w => Op.bytesLess w.t t)
    obtain ⟨r, hr⟩ := this
    rw [← hr] at h
    rw [List.getElem?_append_left hj] at h
    exact h
  exact takeW_imp (List.mem_of_getElem? h1)

theorem pos_at : ∀ {l : List Wk} {t : List UInt8} {w : Wk}, l[posL l t]? = some w → Op.bytesLess w.t t = false
  | [], t, w, h => by simp at h
  | x :: l, t, w, h => by
    cases hx : Op.bytesLess x.t t with
    | true =>
      have e : posL (x :: l) t = posL l t + 1 := by simp [posL, List.takeWhile_cons, hx]
      rw [e] at h
      exact pos_at (l := l) (by simpa using h)
    | false =>
      have e : posL (x :: l) t = 0 := by simp [posL, List.takeWhile_cons, hx]
      rw [e] at h
      simp at h; subst h; exact hx

/-- the place by two bounds -/
theorem pos_unique {l : List Wk} {t : List UInt8} {i : Nat} (hi : i ≤ l.length) (h1 : ∀ (j : Nat) (w : Wk), j < i → l[j]? = some w → Op.bytesLess w.t t = true) (h2 : ∀ w, l[i]? = some w → Op.bytesLess w.t t = false) : posL l t = i := by
  have hp := pos_le l t
  rcases Nat.lt_trichotomy (posL l t) i with h | h | h
  · have hlt : posL l t < l.length := by omega
    have g := List.getElem?_eq_getElem hlt
    have a := pos_at g
    have b := h1 _ _ h g
    rw [a] at b; cases b
  · exact h
  · have hlt : i < l.length := by omega
    have g := List.getElem?_eq_getElem hlt
    have a := pos_before h g
    have b := h2 _ g
    rw [a] at b; cases b

theorem at_sorted {l : List Wk} {t : List UInt8} {i : Nat} (hs : SortedW l) (h : atL l t = some i) : posL l t = i := by
  obtain ⟨w, hw, ht, _⟩ := at_get h
  refine pos_unique (Nat.le_of_lt (List.getElem?_eq_some_iff.1 hw).1) (fun j x hj hx => ?_) (fun x hx => ?_)
  · have := sorted_get hs hj hx hw
    rw [ht] at this; exact this
  · rw [hw] at hx; cases hx; rw [ht]; exact less_irrefl t

theorem at_pos {l : List Wk} {t : List UInt8} (hs : SortedW l) : (atL l t).isSome = (match l[posL l t]? with | some w => decide (w.t = t) | none => false) := by
  cases h : atL l t with
  | some i =>
    obtain ⟨w, hw, ht, _⟩ := at_get h
    rw [at_sorted hs h, hw]; simp [ht]
  | none =>
    have := at_no h
    cases hg : l[posL l t]? with
    | none => rfl
    | some w => simp [this w (List.mem_of_getElem? hg)]

/-- works with one more -/
def insW (l : List Wk) (w : Wk) : List Wk := l.take (posL l w.t) ++ w :: l.drop (posL l w.t)
def addL (l : List Wk) (t : List UInt8) : List Wk := insW l ⟨t, false, []⟩
def addE (nm : List UInt8 → Bool) (l : List Wk) (t : List UInt8) : Int := if nm t = false then 6 else if (atL l t).isSome then 8 else 0

theorem ins_sorted' {l : List Wk} {w : Wk} (hs : SortedW l) (hn : atL l w.t = none) : SortedW (insW l w) := by
  unfold SortedW insW
  rw [List.pairwise_append]
  refine ⟨List.Pairwise.sublist (List.take_sublist _ _) hs, ?_, fun x hx y hy => ?_⟩
  · rw [List.pairwise_cons]
    refine ⟨fun y hy => ?_, List.Pairwise.sublist (List.drop_sublist _ _) hs⟩
    obtain ⟨j, hj⟩ := List.mem_iff_getElem?.1 hy
    rw [List.getElem?_drop] at hj
    have hlt := (List.getElem?_eq_some_iff.1 hj).1
    have hne : y.t ≠ w.t := at_no hn y (List.mem_of_getElem? hj)
    have hpl : posL l w.t < l.length := by omega
    have hp := pos_at (List.getElem?_eq_getElem hpl)
    cases hb : Op.bytesLess w.t y.t with
    | true => rfl
    | false =>
      exfalso
      cases hc : Op.bytesLess y.t w.t with
      | false => exact hne (less_total hc hb)
      | true =>
        cases j with
        | zero =>
          rw [Nat.add_zero, List.getElem?_eq_getElem hpl] at hj
          cases hj
          rw [hp] at hc; cases hc
        | succ j =>
          have := sorted_get hs (by omega) (List.getElem?_eq_getElem hpl) hj
          have := less_trans this hc
          rw [hp] at this; cases this
  · obtain ⟨i, hi⟩ := List.mem_iff_getElem?.1 hx
    have hil := (List.getElem?_eq_some_iff.1 hi).1
    rw [List.length_take] at hil
    rw [List.getElem?_take_of_lt (by omega)] at hi
    have hxw := pos_before (show i < posL l w.t by omega) hi
    rcases List.mem_cons.1 hy with rfl | hy
    · exact hxw
    · obtain ⟨j, hj⟩ := List.mem_iff_getElem?.1 hy
      rw [List.getElem?_drop] at hj
      exact sorted_get hs (by omega) hi hj

theorem ins_at {l : List Wk} {w : Wk} : (insW l w)[posL l w.t]? = some w := by
  have hp := pos_le l w.t
  unfold insW
  rw [List.getElem?_append_right (by rw [List.length_take]; omega), List.length_take, Nat.min_eq_left hp, Nat.sub_self]
  rfl

theorem at_ins {l : List Wk} {w : Wk} : atL (insW l w) w.t = some (posL l w.t) := by
  refine at_some (fun j x hj hx => ?_) ins_at rfl
  have hp := pos_le l w.t
  unfold insW at hx
  rw [List.getElem?_append_left (by rw [List.length_take]; omega), List.getElem?_take_of_lt hj] at hx
  exact less_ne (pos_before hj hx)

theorem ins_set {l : List Wk} {w v : Wk} (h : v.t = w.t) : (insW l w).set (posL l w.t) v = insW l v := by
  have hp := pos_le l w.t
  unfold insW
  rw [h, List.set_append_right _ _ (by rw [List.length_take]; omega), List.length_take, Nat.min_eq_left hp, Nat.sub_self]
  rfl

theorem ins_len (l : List Wk) (w : Wk) : (insW l w).length = l.length + 1 := by
  have hp := pos_le l w.t
  unfold insW
  rw [List.length_append, List.length_cons, List.length_take, List.length_drop]; omega

theorem ins_mem' {l : List Wk} {w x : Wk} (h : x ∈ insW l w) : x = w ∨ x ∈ l := by
  unfold insW at h
  rcases List.mem_append.1 h with h | h
  · exact .inr (List.mem_of_mem_take h)
  · rcases List.mem_cons.1 h with h | h
    · exact .inl h
    · exact .inr (List.mem_of_mem_drop h)

theorem mem_ins {l : List Wk} {w x : Wk} (h : x ∈ l) : x ∈ insW l w := by
  unfold insW
  rw [← List.take_append_drop (posL l w.t) l] at h
  rcases List.mem_append.1 h with h | h
  · exact List.mem_append_left _ h
  · exact List.mem_append_right _ (List.mem_cons_of_mem _ h)

/-- in rising works a table stands once -/
theorem at_mem {l : List Wk} {x : Wk} (hs : SortedW l) (h : x ∈ l) : ∃ i, atL l x.t = some i ∧ l[i]? = some x := by
  obtain ⟨i, hi⟩ := List.mem_iff_getElem?.1 h
  refine ⟨i, at_some (fun j w hj hw e => ?_) hi rfl, hi⟩
  have := sorted_get hs hj hw hi
  rw [e, less_irrefl] at this; cases this

/-- is a key covered? -/
def covW (w : Wk) (key : List UInt8) : Bool := w.d || (!decide (w.k = []) && !Op.bytesLess w.k key)
def covL (l : List Wk) (t key : List UInt8) : Bool := match (atL l t).bind fun i => l[i]? with
  | some w => covW w key
  | none => false

theorem cov_mem {l : List Wk} {x : Wk} (hs : SortedW l) (h : x ∈ l) (key : List UInt8) : covL l x.t key = covW x key := by
  obtain ⟨i, h1, h2⟩ := at_mem hs h
  unfold covL
  rw [h1]; simp [h2]

theorem cov_true {l : List Wk} {t key : List UInt8} (h : covL l t key = true) : ∃ (i : Nat) (w : Wk), atL l t = some i ∧ l[i]? = some w ∧ w.t = t ∧ covW w key = true := by
  unfold covL at h
  cases ha : atL l t with
  | none => rw [ha] at h; cases h
  | some i =>
    obtain ⟨w, hw, ht, _⟩ := at_get ha
    rw [ha] at h
    simp [hw] at h
    exact ⟨i, w, rfl, hw, ht, h⟩

/-- is a text a key? -/
def isKeyL (s : List UInt8) : Bool := match valuesL s with | some l => !decide (l = []) | none => false

theorem isKey_nil : isKeyL [] = false := by simp [isKeyL, valuesL, valuesF]

theorem keyS_ne {l : List Val} (h : l ≠ []) : keyS l ≠ [] := by
  cases l with
  | nil => exact absurd rfl h
  | cons v l => rw [keyS_cons]; exact keyV_ne v _

theorem isKey_keyS {l : List Val} (hl : ∀ v ∈ l, mayV v = true ∧ I64V v.n) (h : l ≠ []) : isKeyL (keyS l) = true := by
  unfold isKeyL valuesL
  rw [valuesF_key l _ [] hl (by omega)]
  simp [h]

/-- works of which one goes on -/
def goE (l : List Wk) (t last : List UInt8) (done : Bool) : Int := match (atL l t).bind fun i => l[i]? with
  | some w => if (w.d || (!done && (!isKeyL last || !Op.bytesLess w.k last))) = true then 14 else 0
  | none => 7
def goL (l : List Wk) (t last : List UInt8) (done : Bool) : List Wk := match atL l t with
  | some i => l.set i ⟨t, done, if done then [] else last⟩
  | none => l

theorem go_ok {l : List Wk} {t last : List UInt8} {done : Bool} (h : goE l t last done = 0) : ∃ (i : Nat) (w : Wk), atL l t = some i ∧ l[i]? = some w ∧ w.t = t ∧ w.d = false ∧ (done = true ∨ (isKeyL last = true ∧ Op.bytesLess w.k last = true)) ∧ goL l t last done = l.set i ⟨t, done, if done then [] else last⟩ := by
  unfold goE at h
  cases ha : atL l t with
  | none => rw [ha] at h; simp at h
  | some i =>
    obtain ⟨w, hw, ht, _⟩ := at_get ha
    rw [ha] at h
    simp only [Option.bind_some, hw] at h
    refine ⟨i, w, rfl, hw, ht, ?_⟩
    cases hd : w.d <;> simp [hd] at h
    refine ⟨rfl, ?_, by unfold goL; rw [ha]⟩
    cases done <;> simp at h ⊢
    exact h

theorem set_sorted {l : List Wk} {i : Nat} {w v : Wk} (hs : SortedW l) (hi : l[i]? = some w) (h : v.t = w.t) : SortedW (l.set i v) := by
  unfold SortedW
  rw [List.pairwise_iff_getElem]
  intro a b ha hb hab
  rw [List.length_set] at ha hb
  have g : ∀ j, (hj : j < (l.set i v).length) → ((l.set i v)[j]).t = (l[j]'(by rw [List.length_set] at hj; exact hj)).t := fun j hj => by
    rw [List.getElem_set]
    split
    · rename_i e
      subst e
      obtain ⟨h1, h2⟩ := List.getElem?_eq_some_iff.1 hi
      rw [h2, h]
    · rfl
  rw [g a, g b]
  exact List.pairwise_iff_getElem.1 hs a b ha hb hab

/-- what is covered stays so when a work goes on -/
theorem cov_go {l : List Wk} {t last key : List UInt8} {done : Bool} (hs : SortedW l) (hc : covL l t key = true) (hg : goE l t last done = 0) : covL (goL l t last done) t key = true := by
  obtain ⟨i, w, h1, h2, h3, h4⟩ := cov_true hc
  obtain ⟨j, x, g1, g2, g3, g4, g5, g6⟩ := go_ok hg
  rw [h1] at g1; cases g1
  rw [h2] at g2; cases g2
  have hs' := set_sorted (v := ⟨t, done, if done then [] else last⟩) hs h2 h3.symm
  have hlt := (List.getElem?_eq_some_iff.1 h2).1
  have hm : (⟨t, done, if done then [] else last⟩ : Wk) ∈ l.set i ⟨t, done, if done then [] else last⟩ := List.mem_of_getElem? (i := i) (by rw [List.getElem?_set_self hlt])
  rw [g6]
  have := cov_mem hs' hm key
  simp only at this
  rw [this]
  rcases g5 with rfl | ⟨k1, k2⟩
  · simp [covW]
  · cases done with
    | true => simp [covW]
    | false =>
      unfold covW at h4 ⊢
      rw [g4] at h4
      simp only [Bool.false_or, Bool.and_eq_true, Bool.not_eq_true', decide_eq_false_iff_not, Bool.false_eq_true, if_false] at h4 ⊢
      refine ⟨fun e => ?_, ?_⟩
      · rw [e, isKey_nil] at k1; cases k1
      · cases hb : Op.bytesLess last key with
        | false => rfl
        | true =>
          have := less_trans k2 hb
          rw [h4.2] at this; cases this

theorem cov_ins {l : List Wk} {v : Wk} {t key : List UInt8} (hs : SortedW l) (hn : atL l v.t = none) (hc : covL l t key = true) : covL (insW l v) t key = true := by
  obtain ⟨i, w, h1, h2, h3, h4⟩ := cov_true hc
  have := cov_mem (ins_sorted' hs hn) (mem_ins (w := v) (List.mem_of_getElem? h2)) key
  rw [h3] at this
  rw [this]; exact h4

end Go.Proofs.YtocjhaahifpnbaaDoorPg

/- Works that may be, made of any. -/
namespace Go.Proofs.YtocjhaahifpnbaaDoorPg
open Go Go.RowKit

def poolL : List (List UInt8) := [[116], [117], [118], [119]]
def wName (nm : List UInt8 → Bool) (i : Nat) (w : Wk) : List UInt8 := if nm w.t then w.t else poolL.getD i []
def wNum (w : Wk) : Int := ((w.k.headD 0).toNat : Int).tmod 9
def wKey (w : Wk) : List UInt8 := if w.d = false ∧ w.k ≠ [] then keyS [⟨2, wNum w, []⟩] else []
def wWk (nm : List UInt8 → Bool) (i : Nat) (w : Wk) : Wk := ⟨wName nm i w, w.d, wKey w⟩
def wStep (nm : List UInt8 → Bool) (o : List Wk) (i : Nat) (w : Wk) : List Wk := if addE nm o (wName nm i w) = 0 then insW o (wWk nm i w) else o
def goodWN (nm : List UInt8 → Bool) (l : List Wk) : Nat → List Wk
  | 0 => []
  | i + 1 => match l[i]? with
    | some w => wStep nm (goodWN nm l i) i w
    | none => goodWN nm l i
def goodW (nm : List UInt8 → Bool) (l : List Wk) : List Wk := goodWN nm l 4

theorem goodWN_stop {nm : List UInt8 → Bool} {l : List Wk} : ∀ {n : Nat}, l.length ≤ n → goodWN nm l n = goodWN nm l l.length
  | 0, h => by rw [show l.length = 0 by omega]
  | n + 1, h => by
    by_cases e : l.length = n + 1
    · rw [e]
    · have : l[n]? = none := List.getElem?_eq_none (by omega)
      rw [goodWN, this]
      exact goodWN_stop (by omega)

/-- a work that may be, with a short key -/
structure WkOk (nm : List UInt8 → Bool) (w : Wk) : Prop where
  name : nm w.t = true
  key : w.k = [] ∨ (w.d = false ∧ isKeyL w.k = true)
  short : w.k.length ≤ 40
  tab : w.t.length ≤ 40

structure WksOk (nm : List UInt8 → Bool) (l : List Wk) : Prop where
  sorted : SortedW l
  each : ∀ w ∈ l, WkOk nm w
  few : l.length ≤ 8

theorem ikey_ok {n : Int} (h : I64V n) : isKeyL (keyS [⟨2, n, []⟩]) = true := by
  refine isKey_keyS (fun v hv => ?_) (by simp)
  simp at hv; subst hv
  exact ⟨by simp [mayV], h⟩

theorem ikey_len (n : Int) : (keyS [⟨2, n, []⟩]).length = 9 := by
  have : keyS [⟨2, n, []⟩] = b8 2 :: beB (keyM n) 8 := by simp [keyS, keyV, keyT]
  rw [this, List.length_cons, beB_len]

theorem wNum_bd (w : Wk) : I64V (wNum w) := by
  unfold I64V wNum
  have := (w.k.headD 0).toNat_lt
  rw [Int.tmod_eq_emod_of_nonneg (by omega)]
  omega

theorem wWk_ok {nm : List UInt8 → Bool} {i : Nat} {w : Wk} (hn : nm (wName nm i w) = true) (hl : (wName nm i w).length ≤ 40) : WkOk nm (wWk nm i w) := by
  refine ⟨hn, ?_, ?_, hl⟩
  · show wKey w = [] ∨ _
    unfold wKey
    by_cases c : w.d = false ∧ w.k ≠ []
    · exact .inr ⟨c.1, by show isKeyL (wKey w) = true; unfold wKey; rw [if_pos c]; exact ikey_ok (wNum_bd w)⟩
    · exact .inl (by rw [if_neg c])
  · show (wKey w).length ≤ 40
    unfold wKey
    split
    · rw [ikey_len]; omega
    · simp

theorem addE_ok {nm : List UInt8 → Bool} {l : List Wk} {t : List UInt8} (h : addE nm l t = 0) : nm t = true ∧ atL l t = none := by
  unfold addE at h
  cases h1 : nm t <;> simp [h1] at h ⊢
  exact h

theorem ins_ok {nm : List UInt8 → Bool} {l : List Wk} {w : Wk} (hl : WksOk nm l) (hw : WkOk nm w) (hn : atL l w.t = none) (hf : l.length ≤ 7) : WksOk nm (insW l w) :=
  ⟨ins_sorted' hl.sorted hn, fun x hx => by
    rcases ins_mem' hx with rfl | h
    · exact hw
    · exact hl.each x h, by rw [ins_len]; omega⟩

theorem pool_len : ∀ i, (poolL.getD i []).length ≤ 40
  | 0 => by decide
  | 1 => by decide
  | 2 => by decide
  | 3 => by decide
  | i + 4 => by simp [poolL, List.getD]

theorem goodWN_ok {nm : List UInt8 → Bool} {l : List Wk} (ht : ∀ w ∈ l, w.t.length ≤ 40) : ∀ i, i ≤ 4 → WksOk nm (goodWN nm l i) ∧ (goodWN nm l i).length ≤ i
  | 0, _ => ⟨⟨List.Pairwise.nil, by simp [goodWN], by simp [goodWN]⟩, by simp [goodWN]⟩
  | i + 1, h => by
    obtain ⟨h1, h2⟩ := goodWN_ok (nm := nm) ht i (by omega)
    unfold goodWN
    cases hg : l[i]? with
    | none => exact ⟨h1, by simp only; omega⟩
    | some w =>
      simp only
      unfold wStep
      by_cases c : addE nm (goodWN nm l i) (wName nm i w) = 0
      · obtain ⟨c1, c2⟩ := addE_ok c
        rw [if_pos c]
        have hlen : (wName nm i w).length ≤ 40 := by
          unfold wName
          split
          · exact ht w (List.mem_of_getElem? hg)
          · exact pool_len i
        exact ⟨ins_ok h1 (wWk_ok c1 hlen) c2 (by omega), by rw [ins_len]; omega⟩
      · rw [if_neg c]
        exact ⟨h1, by omega⟩

theorem goodW_ok {nm : List UInt8 → Bool} {l : List Wk} (ht : ∀ w ∈ l, w.t.length ≤ 40) : WksOk nm (goodW nm l) ∧ (goodW nm l).length ≤ 4 := goodWN_ok ht 4 (by omega)

theorem few_t {l : List Wk} {n : Nat} : ∀ w ∈ fewN l n, w.t.length ≤ 40 ∧ w.k.length ≤ 40 := fun w hw => by
  unfold fewN at hw
  obtain ⟨x, _, rfl⟩ := List.mem_map.1 hw
  exact ⟨by unfold fewC; rw [List.length_take]; omega, by unfold fewC; rw [List.length_take]; omega⟩

/-- the next work -/
def nextL (l : List Wk) : Option Wk := l.find? fun w => !w.d
def nextR (l : List Wk) : V := match nextL l with | some w => .tup [wkA w, .bool true] | none => .tup [wkA wk0, .bool false]

theorem next_at {l : List Wk} {i : Nat} {w : Wk} (hb : ∀ (j : Nat) (x : Wk), j < i → l[j]? = some x → x.d = true) (hi : l[i]? = some w) (hd : w.d = false) : nextL l = some w := by
  unfold nextL
  obtain ⟨h1, h2⟩ := List.getElem?_eq_some_iff.1 hi
  rw [List.find?_eq_some_iff_getElem]
  refine ⟨by simp [hd], i, h1, h2, fun j hj => ?_⟩
  simp [hb j l[j] hj (List.getElem?_eq_getElem (by omega))]

theorem next_none {l : List Wk} (hb : ∀ (j : Nat) (x : Wk), j < l.length → l[j]? = some x → x.d = true) : nextL l = none := by
  unfold nextL
  rw [List.find?_eq_none]
  intro x hx
  obtain ⟨j, hj⟩ := List.mem_iff_getElem?.1 hx
  simp [hb j x (List.getElem?_eq_some_iff.1 hj).1 hj]

/-- may a work stand in its place? -/
def stepW (nm : List UInt8 → Bool) (l : List Wk) (j : Nat) : Bool := match l[j]? with
  | some w => nm w.t && (decide (j = 0) || (match l[j - 1]? with | some p => Op.bytesLess p.t w.t | none => true)) && (decide (w.k = []) || (isKeyL w.k && !w.d))
  | none => true
def rightL (nm : List UInt8 → Bool) (l : List Wk) : Bool := (List.range l.length).all (stepW nm l)

theorem right_no {nm : List UInt8 → Bool} {l : List Wk} {i : Nat} (hi : i < l.length) (h : stepW nm l i = false) : rightL nm l = false := by
  unfold rightL
  rw [Bool.eq_false_iff]
  intro hx
  rw [List.all_eq_true] at hx
  have := hx i (List.mem_range.2 hi)
  rw [h] at this; cases this

theorem right_yes {nm : List UInt8 → Bool} {l : List Wk} (h : ∀ i, i < l.length → stepW nm l i = true) : rightL nm l = true := by
  unfold rightL
  rw [List.all_eq_true]
  exact fun i hi => h i (List.mem_range.1 hi)

theorem ok_right {nm : List UInt8 → Bool} {l : List Wk} (h : WksOk nm l) : rightL nm l = true := right_yes fun i hi => by
  have hg := List.getElem?_eq_getElem hi
  have hw := h.each l[i] (List.getElem_mem hi)
  unfold stepW
  rw [hg]
  simp only [hw.name, Bool.true_and, Bool.and_eq_true, Bool.or_eq_true, decide_eq_true_eq]
  refine ⟨?_, ?_⟩
  · by_cases c : i = 0
    · exact .inl c
    · right
      have hp := List.getElem?_eq_getElem (show i - 1 < l.length by omega)
      rw [hp]
      exact sorted_get h.sorted (by omega) hp hg
  · rcases hw.key with k | ⟨k1, k2⟩
    · exact .inl k
    · exact .inr ⟨k2, by rw [k1]; rfl⟩

theorem go_wok {nm : List UInt8 → Bool} {l : List Wk} {t last : List UInt8} {done : Bool} (h : WksOk nm l) (hl : last.length ≤ 40) (hg : goE l t last done = 0) : WksOk nm (goL l t last done) := by
  obtain ⟨i, w, h1, h2, h3, h4, h5, h6⟩ := go_ok hg
  have hw := h.each w (List.mem_of_getElem? h2)
  rw [h6]
  refine ⟨set_sorted h.sorted h2 h3.symm, fun x hx => ?_, by rw [List.length_set]; exact h.few⟩
  rcases List.mem_or_eq_of_mem_set hx with hx | rfl
  · exact h.each x hx
  · refine ⟨by show nm t = true; rw [← h3]; exact hw.name, ?_, ?_, by show t.length ≤ 40; rw [← h3]; exact hw.tab⟩
    · cases done with
      | true => exact .inl rfl
      | false =>
        rcases h5 with h5 | ⟨h5, _⟩
        · cases h5
        · exact .inr ⟨rfl, h5⟩
    · show (if done = true then [] else last).length ≤ 40
      split
      · simp
      · exact hl

end Go.Proofs.YtocjhaahifpnbaaDoorPg

/- Is a text a key? The document's way. -/
namespace Go.Proofs.YtocjhaahifpnbaaDoorPg
open Go Go.RowKit

/-- the text at the beginning, and where it ends -/
def rtx (b : List UInt8) : List UInt8 → List UInt8 × List UInt8
  | [] => (b, [])
  | [x] => (b, [x])
  | x :: y :: r => if x = 0 then (if y = 255 then rtx (b ++ [0]) r else (b, x :: y :: r)) else rtx (b ++ [x]) (y :: r)

theorem rtx_short {b l : List UInt8} (h : l.length ≤ 1) : rtx b l = (b, l) := by
  match l, h with
  | [], _ => rfl
  | [_], _ => rfl

theorem rtx_len : ∀ (n : Nat) (b l : List UInt8), l.length ≤ n → (rtx b l).1.length + (rtx b l).2.length ≤ b.length + l.length ∧ (rtx b l).2.length ≤ l.length
  | 0, b, l, h => by
    have : l = [] := List.eq_nil_of_length_eq_zero (by omega)
    subst this; simp [rtx]
  | n + 1, b, [], h => by simp [rtx]
  | n + 1, b, [x], h => by simp [rtx]
  | n + 1, b, x :: y :: r, h => by
    simp only [List.length_cons] at h
    unfold rtx
    split
    · split
      · have := rtx_len n (b ++ [0]) r (by omega)
        simp only [List.length_append, List.length_cons, List.length_nil] at this ⊢; omega
      · simp
    · have := rtx_len n (b ++ [x]) (y :: r) (by simp only [List.length_cons]; omega)
      simp only [List.length_append, List.length_cons, List.length_nil] at this ⊢; omega

theorem rtx_esc (rest : List UInt8) : ∀ (t b : List UInt8), rtx b (escL t ++ 0 :: 1 :: rest) = (b ++ t, 0 :: 1 :: rest)
  | [], b => by simp [escL, rtx]
  | x :: t, b => by
    have e : escL (x :: t) = escB x ++ escL t := by simp [escL]
    rw [e]
    unfold escB
    by_cases hx : x = 0
    · subst hx
      rw [if_pos rfl]
      simp only [List.cons_append, List.nil_append]
      rw [rtx, if_pos rfl, if_pos rfl, rtx_esc rest t]
      simp
    · rw [if_neg hx]
      simp only [List.cons_append, List.nil_append]
      obtain ⟨d, r, hd⟩ : ∃ d r, escL t ++ 0 :: 1 :: rest = d :: r := by
        cases hy : escL t with
        | nil => exact ⟨_, _, rfl⟩
        | cons u v => exact ⟨_, _, rfl⟩
      rw [hd, rtx, if_neg hx, ← hd, rtx_esc rest t]
      simp

def refP (c : UInt8) (r : List UInt8) : Option (Val × List UInt8) :=
  if (c.toNat : Int) = 1 then (if r = [] then none else some (⟨c.toNat, ((r.headD 0).toNat : Int), []⟩, r.tail))
  else if (c.toNat : Int) = 2 then (if 8 ≤ r.length then some (⟨c.toNat, deB (r.take 8) - 9223372036854775808, []⟩, r.drop 8) else none)
  else if (c.toNat : Int) = 3 ∨ (c.toNat : Int) = 4 then (if (rtx [] r).2.length ≤ 1 ∨ (rtx [] r).2.getD 1 0 ≠ 1 then none else some (⟨c.toNat, 0, (rtx [] r).1⟩, (rtx [] r).2.drop 2))
  else some (⟨c.toNat, 0, []⟩, r)

def refF : Nat → List Val → List UInt8 → Option (List Val)
  | 0, _, _ => none
  | f + 1, acc, s => match s with
    | [] => some acc
    | c :: r => match refP c r with
      | some (v, q) => if mayV v then refF f (acc ++ [v]) q else none
      | none => none

def refL (s : List UInt8) : Option (List Val) := refF (s.length + 1) [] s
def refK (s : List UInt8) : Bool := match refL s with | some l => decide (0 < l.length) && decide (keyS l = s) | none => false

theorem refP_len {c : UInt8} {r q : List UInt8} {v : Val} (h : refP c r = some (v, q)) : q.length ≤ r.length ∧ v.t.length ≤ r.length ∧ I64V v.n := by
  have hc := c.toNat_lt
  unfold refP at h
  have hx := rtx_len r.length [] r (Nat.le_refl _)
  simp only [List.length_nil] at hx
  split at h
  · split at h
    · cases h
    · cases h
      have := (r.headD 0).toNat_lt
      refine ⟨by rw [List.length_tail]; omega, by simp, ?_⟩
      unfold I64V; simp only; omega
  split at h
  · split at h
    · rename_i h8
      cases h
      obtain ⟨g1, g2⟩ := deB_bd r 8 h8
      have e256 : (256 : Int) ^ 8 = 18446744073709551616 := by decide
      refine ⟨by rw [List.length_drop]; omega, by simp, ?_⟩
      unfold I64V; simp only; omega
    · cases h
  split at h
  · split at h
    · cases h
    · cases h
      refine ⟨by rw [List.length_drop]; omega, by simp only; omega, ?_⟩
      unfold I64V; simp only; omega
  · cases h
    refine ⟨Nat.le_refl _, by simp, ?_⟩
    unfold I64V; simp only; omega

theorem refF_none {f : Nat} {acc : List Val} {c : UInt8} {r : List UInt8} (h : refP c r = none) : refF (f + 1) acc (c :: r) = none := by
  simp only [refF, h]
theorem refF_no {f : Nat} {acc : List Val} {c : UInt8} {r q : List UInt8} {v : Val} (h : refP c r = some (v, q)) (hm : mayV v = false) : refF (f + 1) acc (c :: r) = none := by
  simp only [refF, h, hm, Bool.false_eq_true, if_false]
theorem refF_yes {f : Nat} {acc : List Val} {c : UInt8} {r q : List UInt8} {v : Val} (h : refP c r = some (v, q)) (hm : mayV v = true) : refF (f + 1) acc (c :: r) = refF f (acc ++ [v]) q := by
  simp only [refF, h, hm, if_true]

theorem refP_key {v : Val} (hm : mayV v = true) (hn : I64V v.n) (rest : List UInt8) : ∃ c r, keyV v ++ rest = c :: r ∧ refP c r = some (v, rest) := by
  obtain ⟨k, n, t⟩ := v
  have ho := oneT_key hm hn rest
  obtain ⟨r, hr⟩ : ∃ r, keyV ⟨k, n, t⟩ ++ rest = b8 k :: r := ⟨_, rfl⟩
  rw [hr] at ho
  refine ⟨b8 k, r, hr, ?_⟩
  simp only [oneT, Prod.mk.injEq, Bool.and_eq_true] at ho
  obtain ⟨h1, h2, h3, h4⟩ := ho
  unfold oneP at h1 h2 h3
  unfold refP
  by_cases c1 : ((b8 k).toNat : Int) = 1
  · rw [if_pos c1] at h1 h2 h3 ⊢
    simp only [decide_eq_true_eq] at h3
    rw [if_neg h3, c1]
    simp only at h1 h2
    rw [h1, h2]
  rw [if_neg c1] at h1 h2 h3 ⊢
  by_cases c2 : ((b8 k).toNat : Int) = 2
  · rw [if_pos c2] at h1 h2 h3 ⊢
    by_cases c8 : 8 ≤ r.length
    · rw [if_pos c8] at h1 h2 h3 ⊢
      simp only at h1 h2
      rw [c2, h1, h2]
    · rw [if_neg c8] at h3; cases h3
  rw [if_neg c2] at h1 h2 h3 ⊢
  by_cases c34 : ((b8 k).toNat : Int) = 3 ∨ ((b8 k).toNat : Int) = 4
  · rw [if_pos c34] at h1 h2 h3 ⊢
    obtain ⟨t', e1, e2⟩ := tx_back r.length [] r (tx [] r).1 (tx [] r).2.1 (Nat.le_refl _) (by rw [← h3])
    simp only at h1 h2
    rw [e1] at h1
    rw [h2] at e2
    rw [e2, rtx_esc]
    simp only [List.nil_append] at h1 ⊢
    rw [if_neg (by simp), h1]
    rfl
  · rw [if_neg c34] at h1 h2 h3 ⊢
    simp only at h1 h2
    rw [h1, h2]

theorem refF_key : ∀ (l : List Val) (f : Nat) (acc : List Val), (∀ v ∈ l, mayV v = true ∧ I64V v.n) → (keyS l).length < f → refF f acc (keyS l) = some (acc ++ l)
  | l, 0, acc, _, h => by omega
  | [], f + 1, acc, _, _ => by simp [refF, keyS]
  | v :: l, f + 1, acc, hm, h => by
    have h1 := hm v (by simp)
    rw [keyS_cons] at h ⊢
    obtain ⟨c, r, e1, e2⟩ := refP_key h1.1 h1.2 (keyS l)
    rw [e1] at h ⊢
    have hlen : (keyS l).length ≤ r.length := (refP_len e2).1
    simp only [List.length_cons] at h
    simp only [refF, e2, h1.1, if_true]
    rw [refF_key l f _ (fun w hw => hm w (by simp [hw])) (by omega)]
    simp

theorem refF_ok : ∀ (f : Nat) (acc : List Val) (s : List UInt8) (l : List Val), refF f acc s = some l → (∀ v ∈ acc, mayV v = true ∧ I64V v.n) → ∀ v ∈ l, mayV v = true ∧ I64V v.n
  | 0, _, _, _, h, _ => by simp [refF] at h
  | f + 1, acc, [], l, h, ha => by simp [refF] at h; subst h; exact ha
  | f + 1, acc, c :: r, l, h, ha => by
    simp only [refF] at h
    cases hp : refP c r with
    | none => rw [hp] at h; cases h
    | some p =>
      obtain ⟨v, q⟩ := p
      rw [hp] at h
      simp only at h
      split at h
      · rename_i hm
        refine refF_ok f _ q l h fun w hw => ?_
        rcases List.mem_append.1 hw with h1 | h1
        · exact ha w h1
        · simp at h1; subst h1; exact ⟨hm, (refP_len hp).2.2⟩
      · cases h

theorem refF_len : ∀ (f : Nat) (acc : List Val) (s : List UInt8) (l : List Val), refF f acc s = some l → l.length ≤ acc.length + s.length
  | 0, _, _, _, h => by simp [refF] at h
  | f + 1, acc, [], l, h => by simp [refF] at h; subst h; simp
  | f + 1, acc, c :: r, l, h => by
    simp only [refF] at h
    cases hp : refP c r with
    | none => rw [hp] at h; cases h
    | some p =>
      obtain ⟨v, q⟩ := p
      rw [hp] at h
      simp only at h
      split at h
      · have h1 := refF_len f _ q l h
        have h2 := (refP_len hp).1
        rw [List.length_append, List.length_singleton] at h1
        rw [List.length_cons]; omega
      · cases h

theorem valuesF_n : ∀ (f : Nat) (acc : List Val) (s : List UInt8) (l : List Val), valuesF f acc s = some l → (∀ v ∈ acc, I64V v.n) → ∀ v ∈ l, I64V v.n
  | 0, _, _, _, h, _ => by simp [valuesF] at h
  | f + 1, acc, s, l, h, ha => by
    unfold valuesF at h
    split at h
    · cases h; exact ha
    · rename_i hne
      split at h
      · refine valuesF_n f _ _ l h fun w hw => ?_
        rcases List.mem_append.1 hw with h1 | h1
        · exact ha w h1
        · simp at h1; subst h1
          cases s with
          | nil => exact absurd rfl hne
          | cons c r =>
            show I64V (oneP c r).1.n
            unfold oneP
            have hb := (r.headD 0).toNat_lt
            split
            · unfold I64V; simp only; omega
            split
            · split
              · rename_i h8
                obtain ⟨g1, g2⟩ := deB_bd r 8 h8
                have e256 : (256 : Int) ^ 8 = 18446744073709551616 := by decide
                unfold I64V; simp only; omega
              · unfold I64V; simp only; omega
            split
            · unfold I64V; simp only; omega
            · unfold I64V; simp only; omega
      · cases h

theorem refK_eq (s : List UInt8) : refK s = isKeyL s := by
  have e : refK s = true ↔ isKeyL s = true := by
    constructor
    · intro h
      unfold refK at h
      cases hr : refL s with
      | none => rw [hr] at h; cases h
      | some l =>
        rw [hr] at h
        simp only [Bool.and_eq_true, decide_eq_true_eq] at h
        rw [← h.2]
        exact isKey_keyS (refF_ok _ [] s l hr (by simp)) (fun e => by rw [e] at h; simp at h)
    · intro h
      unfold isKeyL at h
      cases hv : valuesL s with
      | none => rw [hv] at h; cases h
      | some l =>
        rw [hv] at h
        simp only [Bool.not_eq_true', decide_eq_false_iff_not] at h
        obtain ⟨h1, h2⟩ := valuesF_back _ [] s l hv
        have h3 := valuesF_n _ [] s l hv (by simp)
        have hs : keyS l = s := by rw [h1]; simp [keyS]
        have := refF_key l (s.length + 1) [] (fun v hm => ⟨h2 (by simp) v hm, h3 v hm⟩) (by rw [hs]; omega)
        unfold refK refL
        rw [hs] at this
        rw [this]
        simp only [List.nil_append, hs, decide_true, Bool.and_true, decide_eq_true_eq]
        exact List.length_pos_iff.2 h
  cases h1 : refK s <;> cases h2 : isKeyL s <;> simp_all

end Go.Proofs.YtocjhaahifpnbaaDoorPg

/- Works that are not done: how many. -/
namespace Go.Proofs.YtocjhaahifpnbaaDoorPg
open Go Go.RowKit

def cntU (l : List Wk) : Nat := (l.filter fun w => !w.d).length

theorem cntU_snoc {l : List Wk} {i : Nat} {w : Wk} (h : l[i]? = some w) : cntU (l.take (i + 1)) = cntU (l.take i) + (if w.d then 0 else 1) := by
  unfold cntU
  rw [List.take_add_one, h, List.filter_append, List.length_append]
  cases hd : w.d <;> simp [hd]

theorem cntU_set : ∀ {l : List Wk} {i : Nat} {w v : Wk}, l[i]? = some w → w.d = false → v.d = true → cntU (l.set i v) + 1 = cntU l
  | [], i, w, v, h, _, _ => by simp at h
  | x :: l, 0, w, v, h, hw, hv => by
    simp at h; subst h
    simp [cntU, hw, hv]
  | x :: l, i + 1, w, v, h, hw, hv => by
    have ih := cntU_set (l := l) (i := i) (by simpa using h) hw hv
    unfold cntU at ih ⊢
    cases hx : x.d
    · simp only [List.set_cons_succ, List.filter_cons, hx, Bool.not_false, if_true, List.length_cons]; omega
    · simp only [List.set_cons_succ, List.filter_cons, hx, Bool.not_true, Bool.false_eq_true, if_false]; exact ih

theorem next_some {l : List Wk} (h : 0 < cntU l) : ∃ w, nextL l = some w ∧ w.d = false ∧ w ∈ l := by
  cases hn : nextL l with
  | none =>
    unfold nextL at hn
    rw [List.find?_eq_none] at hn
    have : l.filter (fun w => !w.d) = [] := by rw [List.filter_eq_nil_iff]; exact hn
    unfold cntU at h; rw [this] at h; simp at h
  | some w =>
    have h1 := List.find?_some hn
    exact ⟨w, rfl, by simpa using h1, List.mem_of_find?_eq_some hn⟩

theorem next_zero {l : List Wk} (h : cntU l = 0) : nextL l = none := by
  cases hn : nextL l with
  | none => rfl
  | some w =>
    have h1 := List.find?_some hn
    have h2 := List.mem_of_find?_eq_some hn
    have : w ∈ l.filter (fun w => !w.d) := List.mem_filter.2 ⟨h2, h1⟩
    unfold cntU at h
    have := List.length_pos_of_mem this
    omega

theorem goes_done {nm : List UInt8 → Bool} {l : List Wk} {w : Wk} (h : WksOk nm l) (hw : w ∈ l) (hd : w.d = false) : goE l w.t [] true = 0 ∧ WksOk nm (goL l w.t [] true) ∧ covL (goL l w.t [] true) w.t (keyS [⟨2, 3, []⟩]) = true ∧ cntU (goL l w.t [] true) + 1 = cntU l ∧ (goL l w.t [] true).length = l.length := by
  obtain ⟨i, h1, h2⟩ := at_mem h.sorted hw
  have he : goE l w.t [] true = 0 := by
    unfold goE; rw [h1]; simp [h2, hd]
  have hg : goL l w.t [] true = l.set i ⟨w.t, true, []⟩ := by unfold goL; rw [h1]; rfl
  have hok := go_wok h (by simp) he
  refine ⟨he, hok, ?_, ?_, by rw [hg, List.length_set]⟩
  · have hlt := (List.getElem?_eq_some_iff.1 h2).1
    have hm : (⟨w.t, true, []⟩ : Wk) ∈ goL l w.t [] true := by rw [hg]; exact List.mem_of_getElem? (i := i) (by rw [List.getElem?_set_self hlt])
    exact cov_mem hok.sorted hm _
  · rw [hg]; exact cntU_set h2 hd rfl

end Go.Proofs.YtocjhaahifpnbaaDoorPg

/- Numbers and texts as bytes, read: plain functions. -/
namespace Go.Proofs.YtocjhaahifpnbaaDoorPg
open Go Go.RowKit

/-- a number of 64 bits at the beginning of bytes, from its digit i on: the number, what is left, the error (4: too few; 2: none) -/
def digF : Nat → Nat → Int → List UInt8 → Int × List UInt8 × Int
  | 0, _, _, _ => (0, [], 2)
  | _ + 1, _, _, [] => (0, [], 4)
  | f + 1, i, n, b :: r =>
    if i = 9 ∧ 1 < b.toNat % 128 then (0, [], 2)
    else if b.toNat < 128 then (if b = 0 ∧ 0 < i then (0, [], 2) else (n + ((b.toNat % 128 : Nat) : Int) * 128 ^ i, r, 0))
    else digF f (i + 1) (n + ((b.toNat % 128 : Nat) : Int) * 128 ^ i) r

/-- .. of the whole -/
def digL (s : List UInt8) : Int × List UInt8 × Int := digF 10 0 0 s

/-- a number below 2^63 -/
def numL (s : List UInt8) : Int × List UInt8 × Int :=
  if (digL s).2.2 = 0 then (if (digL s).1 ≤ 9223372036854775807 then digL s else (0, s, 2)) else (0, s, (digL s).2.2)

/-- a text of at most so many bytes -/
def txtL (most : Int) (s : List UInt8) : List UInt8 × List UInt8 × Int :=
  if (numL s).2.2 = 0 then
    (if most < (numL s).1 then ([], s, 2)
     else if ((numL s).2.1.length : Int) < (numL s).1 then ([], s, 4)
     else ((numL s).2.1.take (numL s).1.toNat, (numL s).2.1.drop (numL s).1.toNat, 0))
  else ([], s, (numL s).2.2)

theorem digF_len : ∀ (f i : Nat) (n : Int) (s : List UInt8), (digF f i n s).2.1.length ≤ s.length
  | 0, i, n, s => by simp [digF]
  | f + 1, i, n, [] => by simp [digF]
  | f + 1, i, n, b :: r => by
    have ih := digF_len f (i + 1) (n + ((b.toNat % 128 : Nat) : Int) * 128 ^ i) r
    unfold digF
    split
    · simp
    split
    · split
      · simp
      · simp only [List.length_cons]; omega
    · simp only [List.length_cons]; omega

end Go.Proofs.YtocjhaahifpnbaaDoorPg

/- Digits to the base 128: the bits. -/
namespace Go.Proofs.YtocjhaahifpnbaaDoorPg
open Go Go.RowKit

theorem or_add {n d k : Nat} (h : n < 2 ^ k) : n ||| (d * 2 ^ k) = n + d * 2 ^ k := by
  rw [Nat.mul_comm d, Nat.or_comm, ← Nat.two_pow_add_eq_or_of_lt h, Nat.add_comm]

theorem and_127 (b : Nat) : b &&& 127 = b % 128 := by
  have := Nat.and_two_pow_sub_one_eq_mod b 7
  simpa using this

theorem low7 (b : UInt8) : IntKind.u64.wrap (IntKind.u8.wrap ↑(BitVec.ofInt IntKind.u8.bits (b.toNat : Int) &&& ~~~BitVec.ofInt IntKind.u8.bits 128).toNat) = ((b.toNat % 128 : Nat) : Int) := by
  have hb := b.toNat_lt
  have e1 : (BitVec.ofInt 8 (b.toNat : Int)).toNat = b.toNat := by
    rw [BitVec.toNat_ofInt]
    have : (2 : Int) ^ 8 = 256 := by decide
    omega
  have e2 : (~~~BitVec.ofInt 8 128).toNat = 127 := by decide
  have e3 : (BitVec.ofInt IntKind.u8.bits (b.toNat : Int) &&& ~~~BitVec.ofInt IntKind.u8.bits 128).toNat = b.toNat % 128 := by
    show (BitVec.ofInt 8 (b.toNat : Int) &&& ~~~BitVec.ofInt 8 128).toNat = _
    rw [BitVec.toNat_and, e1, e2, and_127]
  rw [e3, wrap_u64]
  have : IntKind.u8.wrap ((b.toNat % 128 : Nat) : Int) = ((b.toNat % 128 : Nat) : Int) % 256 := by simp [IntKind.wrap, IntKind.bits, IntKind.signed]
  rw [this]; omega

theorem pow128 (i : Nat) : (128 : Nat) ^ i = 2 ^ (7 * i) := by
  rw [Nat.pow_mul]

theorem or_dig {i N d : Nat} (hi : i ≤ 9) (hd : d < 128) (h9 : i = 9 → d ≤ 1) (hN : N < 128 ^ i) :
    IntKind.u64.wrap ↑(BitVec.ofInt IntKind.u64.bits (N : Int) ||| BitVec.ofInt IntKind.u64.bits (IntKind.u64.wrap ((d : Int) * 2 ^ min (IntKind.i64.wrap (7 * (i : Int))).toNat IntKind.u64.bits))).toNat = ((N + d * 128 ^ i : Nat) : Int) := by
  have e1 : (IntKind.i64.wrap (7 * (i : Int))).toNat = 7 * i := by rw [IntKind.wrap_i64, Int.emod_eq_of_lt (by omega) (by omega)]; omega
  have e2 : min (7 * i) IntKind.u64.bits = 7 * i := by show min (7 * i) 64 = _; omega
  rw [e1, e2]
  rw [pow128] at hN ⊢
  have p64 : (2 : Nat) ^ 64 = 18446744073709551616 := by decide
  have hlt : d * 2 ^ (7 * i) + 2 ^ (7 * i) ≤ 18446744073709551616 := by
    obtain rfl | rfl | rfl | rfl | rfl | rfl | rfl | rfl | rfl | rfl : i = 0 ∨ i = 1 ∨ i = 2 ∨ i = 3 ∨ i = 4 ∨ i = 5 ∨ i = 6 ∨ i = 7 ∨ i = 8 ∨ i = 9 := by omega
    all_goals (simp only [Nat.reduceMul, Nat.reducePow]; omega)
  have e3 : ((d : Int) * 2 ^ (7 * i)) = ((d * 2 ^ (7 * i) : Nat) : Int) := by
    rw [Int.natCast_mul, Int.natCast_pow]; rfl
  rw [e3]
  generalize hm : d * 2 ^ (7 * i) = m at *
  have f1 : (BitVec.ofInt 64 (N : Int)).toNat = N := by rw [BitVec.toNat_ofInt]; omega
  have f2 : (BitVec.ofInt 64 (IntKind.u64.wrap (m : Int))).toNat = m := by rw [BitVec.toNat_ofInt, wrap_u64]; omega
  have f3 : (BitVec.ofInt 64 (N : Int) ||| BitVec.ofInt 64 (IntKind.u64.wrap (m : Int))).toNat = N + m := by
    rw [BitVec.toNat_or, f1, f2, ← hm, or_add hN]
  show IntKind.u64.wrap ↑(BitVec.ofInt 64 (N : Int) ||| BitVec.ofInt 64 (IntKind.u64.wrap (m : Int))).toNat = _
  rw [f3, wrap_u64]
  omega

end Go.Proofs.YtocjhaahifpnbaaDoorPg

/- Numbers and texts as bytes, written; and read again. -/
namespace Go.Proofs.YtocjhaahifpnbaaDoorPg
open Go Go.RowKit

/-- a number's digits to the base 128, the lowest first: at most f and one more of them -/
def digWF : Nat → Nat → List UInt8
  | 0, n => [UInt8.ofNat n]
  | f + 1, n => if n < 128 then [UInt8.ofNat n] else UInt8.ofNat (n % 128 + 128) :: digWF f (n / 128)

def digW (n : Nat) : List UInt8 := digWF 9 n

def numW (n : Int) : List UInt8 := digW n.toNat

def txtW (s : List UInt8) : List UInt8 := digW s.length ++ s

theorem digWF_len : ∀ (f n : Nat), (digWF f n).length ≤ f + 1
  | 0, n => by simp [digWF]
  | f + 1, n => by
    unfold digWF
    split
    · simp
    · have := digWF_len f (n / 128)
      simp only [List.length_cons]; omega

theorem digW_len (n : Nat) : (digW n).length ≤ 10 := digWF_len 9 n

theorem digWF_pos (f n : Nat) : 0 < (digWF f n).length := by
  cases f <;> unfold digWF <;> (try split) <;> simp

theorem txtW_len (s : List UInt8) : (txtW s).length ≤ 10 + s.length := by
  unfold txtW
  have := digW_len s.length
  rw [List.length_append]; omega

theorem ofNat_lt {n : Nat} (h : n < 256) : (UInt8.ofNat n).toNat = n := by
  rw [UInt8.toNat_ofNat']; omega

/-- what is written is read as it was -/
theorem digF_W : ∀ (f i N m : Nat) (r : List UInt8), i + f = 9 → m < 128 ^ (f + 1) → N + m * 128 ^ i < 2 ^ 64 → (0 < i → 0 < m) →
    digF (f + 1) i N (digWF f m ++ r) = (((N + m * 128 ^ i : Nat) : Int), r, 0) := by
  intro f
  induction f with
  | zero =>
    intro i N m r hi hm hN hp
    have hi9 : i = 9 := by omega
    have hm1 : m < 128 := by simpa using hm
    have hm2 : m ≤ 1 := by
      subst hi9
      have e1 : (128 : Nat) ^ 9 = 9223372036854775808 := by decide
      have e2 : (2 : Nat) ^ 64 = 18446744073709551616 := by decide
      rw [e1, e2] at hN
      omega
    have hb : (UInt8.ofNat m).toNat = m := ofNat_lt (by omega)
    simp only [digWF, List.cons_append, List.nil_append, digF, hb]
    have hmm : m % 128 = m := by omega
    rw [hmm, if_neg (by omega), if_pos hm1, if_neg ?_]
    · rw [Int.natCast_add, Int.natCast_mul, Int.natCast_pow]; rfl
    · rintro ⟨e, h0⟩
      have := hp h0
      have : (UInt8.ofNat m).toNat = 0 := by rw [e]; rfl
      omega
  | succ f ih =>
    intro i N m r hi hm hN hp
    unfold digWF
    by_cases h : m < 128
    · rw [if_pos h]
      have hb : (UInt8.ofNat m).toNat = m := ofNat_lt (by omega)
      have hmm : m % 128 = m := by omega
      simp only [List.cons_append, List.nil_append, digF, hb]
      rw [hmm, if_neg (by omega), if_pos h, if_neg ?_]
      · rw [Int.natCast_add, Int.natCast_mul, Int.natCast_pow]; rfl
      · rintro ⟨e, h0⟩
        have := hp h0
        have : (UInt8.ofNat m).toNat = 0 := by rw [e]; rfl
        omega
    · rw [if_neg h]
      have hb : (UInt8.ofNat (m % 128 + 128)).toNat = m % 128 + 128 := ofNat_lt (by omega)
      have hmm : (m % 128 + 128) % 128 = m % 128 := by omega
      simp only [List.cons_append]
      rw [digF, hb, hmm, if_neg (by omega), if_neg (by omega)]
      have hc : (N : Int) + ((m % 128 : Nat) : Int) * 128 ^ i = ((N + m % 128 * 128 ^ i : Nat) : Int) := by
        rw [Int.natCast_add, Int.natCast_mul, Int.natCast_pow]; rfl
      rw [hc]
      have hdm : m % 128 + m / 128 * 128 = m := by omega
      have hex : N + m % 128 * 128 ^ i + m / 128 * 128 ^ (i + 1) = N + m * 128 ^ i := by
        rw [Nat.pow_succ]
        have : m / 128 * (128 ^ i * 128) = (m / 128 * 128) * 128 ^ i := by
          rw [Nat.mul_comm (128 ^ i), Nat.mul_assoc]
        rw [this]
        have h2 : m * 128 ^ i = (m % 128 + m / 128 * 128) * 128 ^ i := by rw [hdm]
        rw [h2, Nat.add_mul]; omega
      rw [ih (i + 1) (N + m % 128 * 128 ^ i) (m / 128) r (by omega) ?_ (by rw [hex]; exact hN) (fun _ => by omega), hex]
      rw [Nat.pow_succ 128 (f + 1)] at hm
      exact Nat.div_lt_of_lt_mul (by rw [Nat.mul_comm]; exact hm)

theorem digL_W {n : Nat} (h : n < 2 ^ 64) (r : List UInt8) : digL (digW n ++ r) = ((n : Int), r, 0) := by
  unfold digL digW
  have := digF_W 9 0 0 n r rfl (Nat.lt_of_lt_of_le h (by decide)) (by simpa using h) (by omega)
  simpa using this

/-- what is read is written as it was -/
theorem digF_back : ∀ (f i N : Nat) (s r : List UInt8) (v : Int), i + f = 9 → digF (f + 1) i N s = (v, r, 0) →
    ∃ m, v = ((N + m * 128 ^ i : Nat) : Int) ∧ s = digWF f m ++ r ∧ m < 128 ^ (f + 1) ∧ (0 < i → 0 < m) := by
  intro f
  induction f with
  | zero =>
    intro i N s r v hi h
    cases s with
    | nil => simp [digF] at h
    | cons b s =>
      unfold digF at h
      split at h
      · simp at h
      split at h
      · rename_i h1 h2
        split at h
        · simp at h
        · rename_i h3
          simp only [Prod.mk.injEq] at h
          obtain ⟨rfl, rfl, _⟩ := h
          have hbm : b.toNat % 128 = b.toNat := by omega
          refine ⟨b.toNat, ?_, ?_, by simpa using h2, ?_⟩
          · rw [hbm, Int.natCast_add, Int.natCast_mul, Int.natCast_pow]; rfl
          · simp [digWF]
          · intro h0
            rcases Nat.eq_zero_or_pos b.toNat with e | e
            · exact absurd ⟨UInt8.toNat_inj.1 e, h0⟩ h3
            · exact e
      · simp [digF] at h
  | succ f ih =>
    intro i N s r v hi h
    cases s with
    | nil => simp [digF] at h
    | cons b s =>
      unfold digF at h
      have hbl := b.toNat_lt
      split at h
      · simp at h
      split at h
      · rename_i h1 h2
        split at h
        · simp at h
        · rename_i h3
          simp only [Prod.mk.injEq] at h
          obtain ⟨rfl, rfl, _⟩ := h
          have hbm : b.toNat % 128 = b.toNat := by omega
          refine ⟨b.toNat, ?_, ?_, ?_, ?_⟩
          · rw [hbm, Int.natCast_add, Int.natCast_mul, Int.natCast_pow]; rfl
          · unfold digWF; rw [if_pos h2]; simp
          · exact Nat.lt_of_lt_of_le h2 (by rw [Nat.pow_succ]; exact Nat.le_mul_of_pos_left _ (Nat.pow_pos (by decide)))
          · intro h0
            rcases Nat.eq_zero_or_pos b.toNat with e | e
            · exact absurd ⟨UInt8.toNat_inj.1 e, h0⟩ h3
            · exact e
      · rename_i h1 h2
        have hc : (N : Int) + ((b.toNat % 128 : Nat) : Int) * 128 ^ i = ((N + b.toNat % 128 * 128 ^ i : Nat) : Int) := by
          rw [Int.natCast_add, Int.natCast_mul, Int.natCast_pow]; rfl
        rw [hc] at h
        obtain ⟨m, e1, e2, e3, e4⟩ := ih (i + 1) _ s r v (by omega) h
        have hm0 := e4 (by omega)
        refine ⟨b.toNat % 128 + m * 128, ?_, ?_, ?_, fun _ => by omega⟩
        · rw [e1]
          congr 1
          rw [Nat.add_mul, Nat.pow_succ]
          have : m * (128 ^ i * 128) = m * 128 * 128 ^ i := by rw [Nat.mul_comm (128 ^ i), Nat.mul_assoc]
          omega
        · rw [e2]
          have hne : ¬ b.toNat % 128 + m * 128 < 128 := by omega
          have hd : (b.toNat % 128 + m * 128) / 128 = m := by omega
          have hmod : (b.toNat % 128 + m * 128) % 128 + 128 = b.toNat := by omega
          rw [show digWF (f + 1) (b.toNat % 128 + m * 128) = UInt8.ofNat ((b.toNat % 128 + m * 128) % 128 + 128) :: digWF f ((b.toNat % 128 + m * 128) / 128) by rw [digWF, if_neg hne]]
          rw [hd, hmod]
          simp
        · rw [Nat.pow_succ 128 (f + 1)]; omega

theorem digL_back {s r : List UInt8} {v : Int} (h : digL s = (v, r, 0)) : ∃ n : Nat, v = (n : Int) ∧ s = digW n ++ r := by
  obtain ⟨m, e1, e2, _, _⟩ := digF_back 9 0 0 s r v rfl (by simpa [digL] using h)
  exact ⟨m, by simpa using e1, e2⟩

theorem numL_W {n : Int} (h0 : 0 ≤ n) (h1 : n ≤ 9223372036854775807) (r : List UInt8) : numL (numW n ++ r) = (n, r, 0) := by
  unfold numL numW
  have e : digL (digW n.toNat ++ r) = (n, r, 0) := by
    have e64 : (2 : Nat) ^ 64 = 18446744073709551616 := by decide
    rw [digL_W (by omega)]
    rw [Int.toNat_of_nonneg h0]
  rw [e]
  simp [h1]

theorem numL_back {s r : List UInt8} {v : Int} (h : numL s = (v, r, 0)) : 0 ≤ v ∧ v ≤ 9223372036854775807 ∧ s = numW v ++ r := by
  unfold numL at h
  split at h
  · split at h
    · rename_i h1 h2
      obtain ⟨n, rfl, hs⟩ := digL_back h
      rw [h] at h2
      refine ⟨by omega, h2, ?_⟩
      unfold numW
      rw [Int.toNat_natCast]; exact hs
    · simp at h
  · rename_i h1
    simp only [Prod.mk.injEq] at h
    exact absurd h.2.2 h1

/-- an error leaves what there was, and tells no number -/
theorem numL_err {s : List UInt8} (h : (numL s).2.2 ≠ 0) : (numL s).1 = 0 ∧ (numL s).2.1 = s := by
  unfold numL at h ⊢
  split
  · split
    · rename_i h1 h2
      rw [if_pos h1, if_pos h2] at h
      exact absurd h1 h
    · exact ⟨rfl, rfl⟩
  · exact ⟨rfl, rfl⟩

theorem digF_nonneg : ∀ (f i : Nat) (N : Int) (s : List UInt8), 0 ≤ N → 0 ≤ (digF f i N s).1
  | 0, _, _, _, _ => by simp [digF]
  | f + 1, i, N, [], _ => by simp [digF]
  | f + 1, i, N, b :: r, h => by
    have hp : (0 : Int) ≤ ((b.toNat % 128 : Nat) : Int) * 128 ^ i := Int.mul_nonneg (by omega) (Int.pow_nonneg (by decide))
    unfold digF
    split
    · simp
    split
    · split
      · simp
      · show 0 ≤ N + _
        omega
    · exact digF_nonneg f (i + 1) _ r (by omega)

theorem digL_nonneg (s : List UInt8) : 0 ≤ (digL s).1 := digF_nonneg 10 0 0 s (by decide)

theorem numL_nonneg (s : List UInt8) : 0 ≤ (numL s).1 := by
  unfold numL
  split
  · split
    · exact digL_nonneg s
    · simp
  · simp

theorem numL_le (s : List UInt8) : (numL s).1 ≤ 9223372036854775807 := by
  unfold numL
  split
  · split
    · assumption
    · simp
  · simp

theorem numL_len (s : List UInt8) : (numL s).2.1.length ≤ s.length := by
  unfold numL
  split
  · split
    · exact digF_len _ _ _ _
    · exact Nat.le_refl _
  · exact Nat.le_refl _

theorem txtL_W {s : List UInt8} {most : Int} (hm : (s.length : Int) ≤ most) (hl : (s.length : Int) ≤ 9223372036854775807) (r : List UInt8) : txtL most (txtW s ++ r) = (s, r, 0) := by
  unfold txtL txtW
  have e : numL (digW s.length ++ s ++ r) = ((s.length : Int), s ++ r, 0) := by
    have := numL_W (n := (s.length : Int)) (by omega) hl (s ++ r)
    rw [List.append_assoc]
    simpa [numW] using this
  rw [e]
  simp only [if_true]
  rw [if_neg (by omega), if_neg (by simp; omega)]
  simp

theorem txtL_back {s r t : List UInt8} {most : Int} (h : txtL most s = (t, r, 0)) : (t.length : Int) ≤ most ∧ s = txtW t ++ r := by
  unfold txtL at h
  split at h
  · rename_i h1
    split at h
    · simp at h
    split at h
    · simp at h
    · rename_i h2 h3
      simp only [Prod.mk.injEq] at h
      obtain ⟨rfl, rfl, _⟩ := h
      obtain ⟨a, b, c⟩ := numL_back (s := s) (v := (numL s).1) (r := (numL s).2.1) (by rw [← h1])
      have hl : (List.take (numL s).1.toNat (numL s).2.1).length = (numL s).1.toNat := by rw [List.length_take]; omega
      refine ⟨by rw [hl]; omega, ?_⟩
      unfold txtW
      rw [hl, List.append_assoc, List.take_append_drop]
      exact c
  · rename_i h1
    simp only [Prod.mk.injEq] at h
    exact absurd h.2.2 h1

theorem txtL_err {s : List UInt8} {most : Int} (h : (txtL most s).2.2 ≠ 0) : (txtL most s).1 = [] ∧ (txtL most s).2.1 = s := by
  unfold txtL at h ⊢
  split
  · rename_i h1
    rw [if_pos h1] at h
    split
    · exact ⟨rfl, rfl⟩
    · rename_i h2
      rw [if_neg h2] at h
      split
      · exact ⟨rfl, rfl⟩
      · rename_i h3
        rw [if_neg h3] at h
        exact absurd rfl h
  · exact ⟨rfl, rfl⟩

theorem txtL_len (most : Int) (s : List UInt8) : (txtL most s).2.1.length ≤ s.length ∧ (txtL most s).1.length ≤ s.length := by
  have := numL_len s
  unfold txtL
  split
  · split
    · simp
    split
    · simp
    · simp only [List.length_drop, List.length_take]; omega
  · simp

end Go.Proofs.YtocjhaahifpnbaaDoorPg

/- Readers and writers: plain functions with an error that stays. -/
namespace Go.Proofs.YtocjhaahifpnbaaDoorPg
open Go Go.RowKit

def rNum (s : List UInt8) (e : Int) : Int × List UInt8 × Int := if e = 0 then numL s else (0, s, e)
def rTxt (most : Int) (s : List UInt8) (e : Int) : List UInt8 × List UInt8 × Int := if e = 0 then txtL most s else ([], s, e)
def bytL (s : List UInt8) : Int × List UInt8 × Int := match s with
  | [] => (0, [], 4)
  | b :: r => ((b.toNat : Int), r, 0)
def rByt (s : List UInt8) (e : Int) : Int × List UInt8 × Int := if e = 0 then bytL s else (0, s, e)

theorem rNum_ok {s r : List UInt8} {e v : Int} (h : rNum s e = (v, r, 0)) : e = 0 ∧ 0 ≤ v ∧ v ≤ 9223372036854775807 ∧ s = numW v ++ r := by
  unfold rNum at h
  split at h
  · rename_i h0
    exact ⟨h0, numL_back h⟩
  · rename_i h0
    simp only [Prod.mk.injEq] at h
    exact absurd h.2.2 h0

theorem rTxt_ok {s r t : List UInt8} {e most : Int} (h : rTxt most s e = (t, r, 0)) : e = 0 ∧ (t.length : Int) ≤ most ∧ s = txtW t ++ r := by
  unfold rTxt at h
  split at h
  · rename_i h0
    exact ⟨h0, txtL_back h⟩
  · rename_i h0
    simp only [Prod.mk.injEq] at h
    exact absurd h.2.2 h0

theorem rByt_ok {s r : List UInt8} {e v : Int} (h : rByt s e = (v, r, 0)) : e = 0 ∧ ∃ b : UInt8, v = (b.toNat : Int) ∧ s = b :: r := by
  unfold rByt at h
  split at h
  · rename_i h0
    refine ⟨h0, ?_⟩
    cases s with
    | nil => simp [bytL] at h
    | cons b q =>
      simp only [bytL, Prod.mk.injEq] at h
      obtain ⟨rfl, rfl, _⟩ := h
      exact ⟨b, rfl, rfl⟩
  · rename_i h0
    simp only [Prod.mk.injEq] at h
    exact absurd h.2.2 h0

theorem rNum_W {n : Int} (h0 : 0 ≤ n) (h1 : n ≤ 9223372036854775807) (r : List UInt8) : rNum (numW n ++ r) 0 = (n, r, 0) := by
  unfold rNum; rw [if_pos rfl, numL_W h0 h1]

theorem rTxt_W {s : List UInt8} {most : Int} (hm : (s.length : Int) ≤ most) (hl : (s.length : Int) ≤ 9223372036854775807) (r : List UInt8) : rTxt most (txtW s ++ r) 0 = (s, r, 0) := by
  unfold rTxt; rw [if_pos rfl, txtL_W hm hl]

theorem rByt_W (b : UInt8) (r : List UInt8) : rByt (b :: r) 0 = ((b.toNat : Int), r, 0) := rfl

theorem rNum_len (s : List UInt8) (e : Int) : (rNum s e).2.1.length ≤ s.length := by
  unfold rNum; split
  · exact numL_len s
  · exact Nat.le_refl _
theorem rNum_nonneg (s : List UInt8) (e : Int) : 0 ≤ (rNum s e).1 := by
  unfold rNum; split
  · exact numL_nonneg s
  · simp
theorem rNum_le (s : List UInt8) (e : Int) : (rNum s e).1 ≤ 9223372036854775807 := by
  unfold rNum; split
  · exact numL_le s
  · simp
theorem rTxt_len (most : Int) (s : List UInt8) (e : Int) : (rTxt most s e).2.1.length ≤ s.length ∧ (rTxt most s e).1.length ≤ s.length := by
  unfold rTxt; split
  · exact txtL_len most s
  · simp
theorem rByt_len (s : List UInt8) (e : Int) : (rByt s e).2.1.length ≤ s.length ∧ ((rByt s e).2.2 = 0 → (rByt s e).2.1.length + 1 ≤ s.length) := by
  unfold rByt; split
  · cases s with
    | nil => simp [bytL]
    | cons b r => simp [bytL]
  · rename_i h; simp [h]
theorem rByt_bd (s : List UInt8) (e : Int) : 0 ≤ (rByt s e).1 ∧ (rByt s e).1 ≤ 255 := by
  unfold rByt; split
  · cases s with
    | nil => simp [bytL]
    | cons b r => have := b.toNat_lt; simp only [bytL]; omega
  · simp
/-- an error stays -/
theorem rNum_e {s : List UInt8} {e : Int} (h : e ≠ 0) : (rNum s e) = (0, s, e) := by unfold rNum; rw [if_neg h]
theorem rTxt_e {most : Int} {s : List UInt8} {e : Int} (h : e ≠ 0) : (rTxt most s e) = ([], s, e) := by unfold rTxt; rw [if_neg h]
theorem rByt_e {s : List UInt8} {e : Int} (h : e ≠ 0) : (rByt s e) = (0, s, e) := by unfold rByt; rw [if_neg h]

/-- how many bytes a number takes -/
theorem digF_suf : ∀ (f i : Nat) (n : Int) (s : List UInt8), (digF f i n s).2.2 = 0 → ∃ k, k ≤ s.length ∧ k ≤ f ∧ (digF f i n s).2.1 = s.drop k
  | 0, i, n, s, h => by simp [digF] at h
  | f + 1, i, n, [], h => by simp [digF] at h
  | f + 1, i, n, b :: r, h => by
    unfold digF at h ⊢
    split at h
    · simp at h
    rename_i h1
    rw [if_neg h1]
    split at h
    · rename_i h2
      rw [if_pos h2]
      split at h
      · simp at h
      · rename_i h3
        rw [if_neg h3]
        exact ⟨1, by simp, by omega, rfl⟩
    · rename_i h2
      rw [if_neg h2]
      obtain ⟨k, a, b', c⟩ := digF_suf f (i + 1) _ r h
      exact ⟨k + 1, by simp only [List.length_cons]; omega, by omega, by rw [c]; rfl⟩

end Go.Proofs.YtocjhaahifpnbaaDoorPg

/- A contract whose arguments become immutable, or whose objects are let go, ahead of the call. -/
namespace Go.Proofs.YtocjhaahifpnbaaDoorPg
open Go Go.RowKit
set_option linter.unusedSectionVars false
variable [Globs]
set_option linter.unusedVariables false
set_option linter.unusedSimpArgs false

theorem frzL_get {id : Nat} {o : O} : ∀ {l : List V} {i : Nat} {v : V}, (frzL id o l)[i]? = some v → ∃ x, l[i]? = some x ∧ v = frzV id o x
  | [], i, v, h => by simp [frzL] at h
  | x :: l, 0, v, h => by simp [frzL] at h; exact ⟨x, rfl, h.symm⟩
  | x :: l, i + 1, v, h => by
    simp only [frzL, List.getElem?_cons_succ] at h
    obtain ⟨y, h1, h2⟩ := frzL_get h
    exact ⟨y, by simpa using h1, h2⟩

theorem frzL_len {id : Nat} {o : O} : ∀ (l : List V), (frzL id o l).length = l.length
  | [] => rfl
  | x :: l => by simp [frzL, frzL_len l]

theorem ACall.frzIn {P : Program} {f : FuncId} {k : Nat} {args : List V} {H : List O} {Q : V → List O → Prop} (id : Nat) (hok : frzOk (getO H id) = true) (hfit : frzFit id (getO H id) args [] H)
    (h : ACall P f k (frzL id (getO H id) args) (frzH id (getO H id) 0 H) Q) : ACall P f k args H Q := by
  refine ⟨fun I ρ w us hst hk ha => ?_⟩
  have hne : getO H id ≠ .dead := fun e => by rw [e] at hok; cases hok
  have ho := getO_some (H := H) (id := id) rfl hne
  have hlt : id < ρ.length := by rw [hst.len]; exact (List.getElem?_eq_some_iff.1 ho).1
  obtain ⟨I2, g1, g2, g3⟩ := frz_st hst (List.getElem?_eq_getElem hlt) ho hok (frzFit_h hfit) k
  refine (h.out I2 ρ w us g1 (by rw [frzH_len]; exact hk) ⟨by rw [frzL_len]; exact ha.1, fun i a u hi hu => ?_⟩).mono ?_
  · obtain ⟨x, hx, rfl⟩ := frzL_get hi
    exact g3 _ _ (frzFit_v hfit (List.mem_of_getElem? hx)) (ha.2 i x u hx hu)
  · rintro en w' ⟨v, r, I', ρ', H', h1, h2, h3, h4, h5⟩
    exact ⟨v, r, I', ρ', H', h1, h2, h3, g2.trans h4, h5⟩

theorem ACall.selIn {P : Program} {f : FuncId} {args : List V} {H : List O} {Q : V → List O → Prop} (sel : List Nat) (hsel : selOk sel H.length 0 = true)
    (h : ACall P f 0 (args.map (renV (idx sel))) (gather (idx sel) H sel) Q) : ACall P f 0 args H Q := by
  refine ⟨fun I ρ w us hst hk ha => ?_⟩
  obtain ⟨g1, g2, g3⟩ := sel_step hst hsel (Step.refl 0 I ρ H w)
  refine (h.out I _ w us g1 (Nat.zero_le _) ⟨by rw [List.length_map]; exact ha.1, fun i a u hi hu => ?_⟩).mono ?_
  · rw [List.getElem?_map] at hi
    cases hx : args[i]? with
    | none => rw [hx] at hi; cases hi
    | some x =>
      rw [hx] at hi; cases hi
      exact (ha.2 i x u hx hu).ren g2
  · rintro en w' ⟨v, r, I', ρ', H', h1, h2, h3, h4, h5⟩
    exact ⟨v, r, I', ρ', H', h1, h2, h3, g3.trans h4, h5⟩

theorem frzV_pure {id : Nat} {o : O} {v : V} (h : pureV v = true) : frzV id o v = v := by
  cases v with
  | fn g a b => cases a with
    | nil => cases b with
      | nil => rfl
      | cons x y => simp [pureV] at h
    | cons x y => simp [pureV] at h
  | _ => first | rfl | simp [pureV] at h

theorem renV_pure {f : Nat → Option Nat} {v : V} (h : pureV v = true) : renV f v = v := by
  cases v with
  | fn g a b => cases a with
    | nil => cases b with
      | nil => rfl
      | cons x y => simp [pureV] at h
    | cons x y => simp [pureV] at h
  | _ => first | rfl | simp [pureV] at h

theorem frzL_pure {id : Nat} {o : O} : ∀ {l : List V}, l.all pureV = true → frzL id o l = l
  | [], _ => rfl
  | v :: l, h => by
    simp only [List.all_cons, Bool.and_eq_true] at h
    simp only [frzL, frzV_pure h.1, frzL_pure h.2]

theorem map_pure {f : Nat → Option Nat} : ∀ {l : List V}, l.all pureV = true → l.map (renV f) = l
  | [], _ => rfl
  | v :: l, h => by
    simp only [List.all_cons, Bool.and_eq_true] at h
    simp only [List.map_cons, renV_pure h.1, map_pure h.2]

theorem msV_pure {id : Nat} {v : V} (h : pureV v = true) : msV id v = [] := by
  cases v with
  | fn g a b => cases a with
    | nil => cases b with
      | nil => rfl
      | cons x y => simp [pureV] at h
    | cons x y => simp [pureV] at h
  | _ => first | rfl | simp [pureV] at h

theorem msL_pure {id : Nat} : ∀ {l : List V}, l.all pureV = true → msL id l = []
  | [], _ => rfl
  | v :: l, h => by
    simp only [List.all_cons, Bool.and_eq_true] at h
    simp only [msL, msV_pure h.1, msL_pure h.2, List.nil_append]

/-- A buffer that is handed over becomes immutable; an empty place is left. -/
theorem ACall.eat {P : Program} {f : FuncId} {z : Nat} {es : List (List V)} {full : Bool} {as : List V} {len : Nat} {Q : V → List O → Prop} (hlen : len = es.length) (hp : as.all pureV = true)
    (h : ACall P f 0 (.sl z es full :: as) [] fun r H' => Q (renV (outH 0 1) r) (weave 0 H' [.dead])) : ACall P f 1 (.ms z 0 0 len full :: as) [.buf es] Q := by
  subst hlen
  refine ACall.stay 1 rfl (ACall.frzIn 0 rfl ?_ (ACall.selIn [] rfl ?_))
  · show msLe es.length (msL 0 (.ms z 0 0 es.length full :: as) ++ ([] ++ ([] ++ [])))
    simp only [msL, msV, Nat.beq_refl, msL_pure hp, List.append_nil, msLe]
    exact ⟨by omega, trivial⟩
  · have e : (frzL 0 (getO [O.buf es] 0) (.ms z 0 0 es.length full :: as)).map (renV (idx [])) = .sl z es full :: as := by
      show (frzV 0 (.buf es) (.ms z 0 0 es.length full) :: frzL 0 (.buf es) as).map (renV (idx [])) = _
      rw [frz_ms_eq, frzL_pure hp, List.map_cons, map_pure hp]; rfl
    rw [e]; exact h

end Go.Proofs.YtocjhaahifpnbaaDoorPg

/- Points as bytes: plain laws. -/
namespace Go.Proofs.YtocjhaahifpnbaaDoorPg
open Go Go.RowKit

def wkW (w : Wk) : List UInt8 := txtW w.t ++ (if w.d then 1 else 0) :: txtW w.k
def wksW (l : List Wk) : List UInt8 := l.flatMap wkW
def ptW (a m c : Int) (l : List Wk) : List UInt8 := numW a ++ (numW m ++ (numW c ++ (numW l.length ++ wksW l)))

/-- a work read: it, the byte of 'done', what is left, the error -/
def workR (B : Int) (s : List UInt8) (e : Int) : Wk × Int × List UInt8 × Int :=
  (⟨(rTxt B s e).1, decide ((rByt (rTxt B s e).2.1 (rTxt B s e).2.2).1 = 1), (rTxt B (rByt (rTxt B s e).2.1 (rTxt B s e).2.2).2.1 (rByt (rTxt B s e).2.1 (rTxt B s e).2.2).2.2).1⟩,
   (rByt (rTxt B s e).2.1 (rTxt B s e).2.2).1,
   (rTxt B (rByt (rTxt B s e).2.1 (rTxt B s e).2.2).2.1 (rByt (rTxt B s e).2.1 (rTxt B s e).2.2).2.2).2.1,
   (rTxt B (rByt (rTxt B s e).2.1 (rTxt B s e).2.2).2.1 (rByt (rTxt B s e).2.1 (rTxt B s e).2.2).2.2).2.2)

/-- the program's -/
def worksP (B : Int) : Nat → List Wk → List UInt8 → Int → Option (List Wk × List UInt8 × Int)
  | 0, acc, s, e => some (acc, s, e)
  | n + 1, acc, s, e => if e = 0 then (if 1 < (workR B s e).2.1 then none else worksP B n (acc ++ [(workR B s e).1]) (workR B s e).2.2.1 (workR B s e).2.2.2) else some (acc, s, e)

/-- the document's -/
def worksR (B : Int) : Nat → List Wk → List UInt8 → Int → List Wk × List UInt8 × Int
  | 0, acc, s, e => (acc, s, e)
  | n + 1, acc, s, e => if e = 0 then worksR B n (acc ++ [(workR B s e).1]) (workR B s e).2.2.1 (workR B s e).2.2.2 else (acc, s, e)

theorem works_PR (B : Int) : ∀ (n : Nat) (acc : List Wk) (s : List UInt8) (e : Int) (r : List Wk × List UInt8 × Int), worksP B n acc s e = some r → worksR B n acc s e = r
  | 0, acc, s, e, r, h => by simpa [worksP, worksR] using h
  | n + 1, acc, s, e, r, h => by
    unfold worksP at h; unfold worksR
    split at h
    · rename_i h0
      rw [if_pos h0]
      split at h
      · cases h
      · exact works_PR B n _ _ _ r h
    · rename_i h0
      rw [if_neg h0]; simpa using h

theorem workR_back {B : Int} {s : List UInt8} {e : Int} (h0 : (workR B s e).2.2.2 = 0) (h1 : (workR B s e).2.1 ≤ 1) : e = 0 ∧ s = wkW (workR B s e).1 ++ (workR B s e).2.2.1 := by
  unfold workR at h0 h1 ⊢
  simp only at h0 h1 ⊢
  generalize ht : rTxt B s e = T at *
  obtain ⟨t, s1, e1⟩ := T
  simp only at h0 h1 ⊢
  generalize hb : rByt s1 e1 = D at *
  obtain ⟨d, s2, e2⟩ := D
  simp only at h0 h1 ⊢
  generalize hk : rTxt B s2 e2 = K at *
  obtain ⟨k, s3, e3⟩ := K
  simp only at h0 h1 ⊢
  subst h0
  obtain ⟨rfl, _, rfl⟩ := rTxt_ok hk
  obtain ⟨rfl, b, rfl, rfl⟩ := rByt_ok hb
  obtain ⟨rfl, _, rfl⟩ := rTxt_ok ht
  refine ⟨rfl, ?_⟩
  unfold wkW
  simp only [List.append_assoc, List.cons_append]
  have hb1 : b.toNat ≤ 1 := by omega
  congr 1
  rcases Nat.lt_or_ge b.toNat 1 with hh | hh
  · have : b = 0 := UInt8.toNat_inj.1 (by simpa using (show b.toNat = 0 by omega))
    subst this; rfl
  · have : b = 1 := UInt8.toNat_inj.1 (by simpa using (show b.toNat = 1 by omega))
    subst this; rfl

theorem worksP_e {B : Int} {n : Nat} {acc : List Wk} {s : List UInt8} {e : Int} (h : e ≠ 0) : worksP B n acc s e = some (acc, s, e) := by
  cases n with
  | zero => rfl
  | succ n => unfold worksP; rw [if_neg h]

theorem worksP_back (B : Int) : ∀ (n : Nat) (acc ws : List Wk) (s r : List UInt8) (e : Int), worksP B n acc s e = some (ws, r, 0) → e = 0 ∧ ∃ l, ws = acc ++ l ∧ l.length = n ∧ s = wksW l ++ r
  | 0, acc, ws, s, r, e, h => by
    simp only [worksP, Option.some.injEq, Prod.mk.injEq] at h
    obtain ⟨rfl, rfl, rfl⟩ := h
    exact ⟨rfl, [], by simp, rfl, rfl⟩
  | n + 1, acc, ws, s, r, e, h => by
    unfold worksP at h
    split at h
    · rename_i h0
      split at h
      · cases h
      · rename_i h1
        obtain ⟨e0, l, rfl, hl, hs⟩ := worksP_back B n _ ws _ r _ h
        obtain ⟨_, hb⟩ := workR_back e0 (by omega)
        refine ⟨h0, (workR B s e).1 :: l, by simp, by simp [hl], ?_⟩
        conv => lhs; rw [hb, hs]
        simp [wksW, List.append_assoc]
    · rename_i h0
      simp only [Option.some.injEq, Prod.mk.injEq] at h
      exact absurd h.2.2 h0

theorem workR_W {B : Int} {w : Wk} (ht : (w.t.length : Int) ≤ B) (hk : (w.k.length : Int) ≤ B) (hB : B ≤ 9223372036854775807) (r : List UInt8) :
    ∃ d : Int, d ≤ 1 ∧ workR B (wkW w ++ r) 0 = (w, d, r, 0) := by
  obtain ⟨t, d, k⟩ := w
  unfold wkW workR
  simp only [List.append_assoc, List.cons_append]
  rw [rTxt_W ht (by omega)]
  simp only
  rw [rByt_W]
  simp only
  rw [rTxt_W hk (by omega)]
  cases d
  · exact ⟨0, by decide, rfl⟩
  · exact ⟨1, by decide, rfl⟩

theorem worksP_W {B : Int} (hB : B ≤ 9223372036854775807) (r : List UInt8) : ∀ (l acc : List Wk), (∀ w ∈ l, (w.t.length : Int) ≤ B ∧ (w.k.length : Int) ≤ B) → worksP B l.length acc (wksW l ++ r) 0 = some (acc ++ l, r, 0)
  | [], acc, _ => by simp [worksP, wksW]
  | w :: l, acc, h => by
    have e : wksW (w :: l) ++ r = wkW w ++ (wksW l ++ r) := by simp [wksW, List.append_assoc]
    rw [e]
    obtain ⟨d, hd, hw⟩ := workR_W (h w (by simp)).1 (h w (by simp)).2 hB (wksW l ++ r)
    rw [List.length_cons, worksP, if_pos rfl, hw]
    simp only
    rw [if_neg (by omega), worksP_W hB r l _ fun x hx => h x (by simp [hx])]
    simp

/-- The head of a point, read. -/
def hd1 (b : List UInt8) := rNum b 0
def hd2 (b : List UInt8) := rNum (hd1 b).2.1 (hd1 b).2.2
def hd3 (b : List UInt8) := rNum (hd2 b).2.1 (hd2 b).2.2
def hd4 (b : List UInt8) := rNum (hd3 b).2.1 (hd3 b).2.2

/-- the program's reading of a point; none: there is none -/
def readP (may : Int → Int → Int → List Wk → Bool) (b : List UInt8) : Option (Int × Int × Int × List Wk) :=
  match worksP b.length (hd4 b).1.toNat [] (hd4 b).2.1 (hd4 b).2.2 with
  | none => none
  | some (ws, s, e) => if e = 0 ∧ s = [] ∧ may (hd1 b).1 (hd2 b).1 (hd3 b).1 ws = true then some ((hd1 b).1, (hd2 b).1, (hd3 b).1, ws) else none

/-- the document's -/
def readR (may : Int → Int → Int → List Wk → Bool) (b : List UInt8) : Option (Int × Int × Int × List Wk) :=
  if may (hd1 b).1 (hd2 b).1 (hd3 b).1 (worksR b.length (hd4 b).1.toNat [] (hd4 b).2.1 (hd4 b).2.2).1 = true ∧ ptW (hd1 b).1 (hd2 b).1 (hd3 b).1 (worksR b.length (hd4 b).1.toNat [] (hd4 b).2.1 (hd4 b).2.2).1 = b
  then some ((hd1 b).1, (hd2 b).1, (hd3 b).1, (worksR b.length (hd4 b).1.toNat [] (hd4 b).2.1 (hd4 b).2.2).1) else none

theorem wksW_len : ∀ {l : List Wk} {w : Wk}, w ∈ l → w.t.length ≤ (wksW l).length ∧ w.k.length ≤ (wksW l).length
  | [], w, h => by cases h
  | v :: l, w, h => by
    have e : wksW (v :: l) = wkW v ++ wksW l := by simp [wksW]
    rw [e, List.length_append]
    rcases List.mem_cons.1 h with rfl | h
    · unfold wkW txtW
      simp only [List.length_append, List.length_cons]; omega
    · have := wksW_len h; omega

theorem wksW_cnt : ∀ (l : List Wk), l.length ≤ (wksW l).length
  | [] => Nat.le_refl _
  | v :: l => by
    have e : wksW (v :: l) = wkW v ++ wksW l := by simp [wksW]
    have := wksW_cnt l
    rw [e, List.length_append]
    unfold wkW
    simp only [List.length_append, List.length_cons]; omega

/-- what is written is read as it was -/
theorem readP_W {may : Int → Int → Int → List Wk → Bool} {a m c : Int} {l : List Wk} (ha : 0 ≤ a ∧ a ≤ 9223372036854775807) (hm : 0 ≤ m ∧ m ≤ 9223372036854775807) (hc : 0 ≤ c ∧ c ≤ 9223372036854775807)
    (hl : ((ptW a m c l).length : Int) ≤ 9223372036854775807) (hmay : may a m c l = true) : readP may (ptW a m c l) = some (a, m, c, l) := by
  have hwl : (wksW l).length ≤ (ptW a m c l).length := by unfold ptW; simp only [List.length_append]; omega
  have hcnt := wksW_cnt l
  have e1 : hd1 (ptW a m c l) = (a, numW m ++ (numW c ++ (numW l.length ++ wksW l)), 0) := rNum_W ha.1 ha.2 _
  have e2 : hd2 (ptW a m c l) = (m, numW c ++ (numW l.length ++ wksW l), 0) := by unfold hd2; rw [e1]; exact rNum_W hm.1 hm.2 _
  have e3 : hd3 (ptW a m c l) = (c, numW l.length ++ wksW l, 0) := by unfold hd3; rw [e2]; exact rNum_W hc.1 hc.2 _
  have e4 : hd4 (ptW a m c l) = ((l.length : Int), wksW l, 0) := by unfold hd4; rw [e3]; exact rNum_W (by omega) (by omega) _
  unfold readP
  rw [e1, e2, e3, e4]
  simp only [Int.toNat_natCast]
  have := worksP_W (B := ((ptW a m c l).length : Int)) hl [] l [] fun w hw => by have := wksW_len hw; omega
  rw [List.append_nil, List.nil_append] at this
  rw [this]
  simp [hmay]

theorem readP_back {may : Int → Int → Int → List Wk → Bool} {b : List UInt8} {a m c : Int} {l : List Wk} (h : readP may b = some (a, m, c, l)) : b = ptW a m c l ∧ may a m c l = true ∧
    (hd1 b).1 = a ∧ (hd2 b).1 = m ∧ (hd3 b).1 = c ∧ (worksR b.length (hd4 b).1.toNat [] (hd4 b).2.1 (hd4 b).2.2).1 = l := by
  unfold readP at h
  split at h
  · cases h
  · rename_i ws s e hw
    split at h
    · rename_i hh
      obtain ⟨rfl, rfl, hmay⟩ := hh
      simp only [Option.some.injEq, Prod.mk.injEq] at h
      obtain ⟨rfl, rfl, rfl, rfl⟩ := h
      have hr := works_PR _ _ _ _ _ _ hw
      refine ⟨?_, hmay, rfl, rfl, rfl, by rw [hr]⟩
      obtain ⟨e4, l, hl, hn, hs⟩ := worksP_back _ _ _ _ _ _ _ hw
      rw [List.nil_append] at hl
      subst hl
      rw [List.append_nil] at hs
      have p4 : rNum (hd3 b).2.1 (hd3 b).2.2 = ((hd4 b).1, (hd4 b).2.1, 0) := by
        show hd4 b = _
        rw [← e4]
      obtain ⟨e3, h4a, _, h4⟩ := rNum_ok p4
      have p3 : rNum (hd2 b).2.1 (hd2 b).2.2 = ((hd3 b).1, (hd3 b).2.1, 0) := by
        show hd3 b = _
        rw [← e3]
      obtain ⟨e2, _, _, h3⟩ := rNum_ok p3
      have p2 : rNum (hd1 b).2.1 (hd1 b).2.2 = ((hd2 b).1, (hd2 b).2.1, 0) := by
        show hd2 b = _
        rw [← e2]
      obtain ⟨e1, _, _, h2⟩ := rNum_ok p2
      have p1 : rNum b 0 = ((hd1 b).1, (hd1 b).2.1, 0) := by
        show hd1 b = _
        rw [← e1]
      obtain ⟨_, _, _, h1⟩ := rNum_ok p1
      have hn' : (hd4 b).1 = (ws.length : Int) := by omega
      conv => lhs; rw [h1, h2, h3, h4, hs, hn']
      rfl
    · cases h

theorem read_eq {may : Int → Int → Int → List Wk → Bool} (hmay : ∀ a m c l, may a m c l = true → 0 ≤ a ∧ 0 ≤ m ∧ 0 ≤ c) {b : List UInt8} (hb : (b.length : Int) ≤ 9223372036854775807) : readP may b = readR may b := by
  cases hp : readP may b with
  | some r =>
    obtain ⟨a, m, c, l⟩ := r
    obtain ⟨h1, h2, h3, h4, h5, h6⟩ := readP_back hp
    unfold readR
    rw [h3, h4, h5, h6, if_pos ⟨h2, h1.symm⟩]
  | none =>
    unfold readR
    split
    · rename_i h
      obtain ⟨h1, h2⟩ := h
      exfalso
      obtain ⟨ga, gm, gc⟩ := hmay _ _ _ _ h1
      generalize hl : (worksR b.length (hd4 b).1.toNat [] (hd4 b).2.1 (hd4 b).2.2).1 = l at *
      have := readP_W (may := may) (a := (hd1 b).1) (m := (hd2 b).1) (c := (hd3 b).1) (l := l) ⟨ga, rNum_le _ _⟩ ⟨gm, rNum_le _ _⟩ ⟨gc, rNum_le _ _⟩ (by rw [h2]; exact hb) h1
      rw [h2, hp] at this
      cases this
    · rfl

/-- how great what is read is -/
theorem workR_bd {B : Int} {s : List UInt8} {e : Int} : (workR B s e).1.t.length ≤ s.length ∧ (workR B s e).1.k.length ≤ s.length ∧ (workR B s e).2.2.1.length ≤ s.length ∧
    ((workR B s e).2.2.2 = 0 → (workR B s e).2.2.1.length + 1 ≤ s.length) := by
  unfold workR
  simp only
  have h1 := rTxt_len B s e
  generalize ht : rTxt B s e = T at *
  obtain ⟨t, s1, e1⟩ := T
  have h2 := rByt_len s1 e1
  simp only at h1 ⊢
  generalize hb : rByt s1 e1 = D at *
  obtain ⟨d, s2, e2⟩ := D
  have h3 := rTxt_len B s2 e2
  simp only at h2 ⊢
  generalize hk : rTxt B s2 e2 = K at *
  obtain ⟨k, s3, e3⟩ := K
  simp only at h3 ⊢
  refine ⟨by omega, by omega, by omega, fun h0 => ?_⟩
  subst h0
  have := (rTxt_ok hk).1
  have := h2.2 this
  omega

end Go.Proofs.YtocjhaahifpnbaaDoorPg

/- Appending, as lemmas. -/
namespace Go.Proofs.YtocjhaahifpnbaaDoorPg
open Go Go.RowKit
set_option linter.unusedSectionVars false
variable [Globs]

theorem app_gen {z b i n : Nat} {x : V} {X ys : List (List V)} {H : List O} {K : V → List O → Prop} (hx : sameBuf (.ms z i 0 n false) x = false) (hX : getO H i = .buf X) (hn : n = X.length) (hs : (X.length + ys.length) * b ≤ 70368744177664)
    (hK : copyH (setO H i .dead ++ [.buf (X ++ ys)]) fun H' => K (.ms z (setO H i .dead).length 0 (X.length + ys.length) false) H') : aapp z b (.ms z i 0 n false) x ys H K := by
  subst hn
  unfold aapp
  simp only [hx]
  unfold aappend
  simp only [Nat.beq_refl, hX, List.drop_zero]
  refine ⟨rfl, ?_⟩
  unfold newBuf
  rw [List.length_append]
  exact ⟨hs, hK⟩

theorem app_nil {z b : Nat} {x : V} {ys : List (List V)} {H : List O} {K : V → List O → Prop} (hs : ys.length * b ≤ 70368744177664)
    (hK : copyH (H ++ [.buf ys]) fun H' => K (.ms z H.length 0 ys.length false) H') : aapp z b .nils x ys H K := ⟨hs, hK⟩

/-- .. where the append is laid open already -/
theorem app_gen2 {z b n : Nat} {X ys : List (List V)} {H : List O} {K : V → List O → Prop} (hn : n = X.length) (hs : (X.length + ys.length) * b ≤ 70368744177664)
    (hK : copyH (H ++ [.buf (X ++ ys)]) fun H' => K (.ms z H.length 0 (X.length + ys.length) false) H') : n + 0 = X.length ∧ newBuf z b (List.drop 0 X ++ ys) H K := by
  subst hn
  refine ⟨rfl, ?_⟩
  rw [List.drop_zero]
  unfold newBuf
  rw [List.length_append]
  exact ⟨hs, hK⟩

end Go.Proofs.YtocjhaahifpnbaaDoorPg
