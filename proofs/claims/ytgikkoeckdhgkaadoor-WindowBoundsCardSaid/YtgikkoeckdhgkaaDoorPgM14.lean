/- Own texts, laid together: PgU8, PgVal4, PgVal5, PgVal6, PgCh1, PgEv1, PgE9, PgE91, PgEv2, PgWin2, PgWin3, PgWin4, PgWin5, PgLay1, PgLay2, PgLay3, PgLay4. -/
import Derived.Test.YtgikkoeckdhgkaaDoorPgM13
import Derived.Test.YtgikkoeckdhgkaaDoorPgM7
import Derived.Lib.ValidU
import Derived.Test.YtgikkoeckdhgkaaDoorPgM12
/- The decoder's word on a text, and the document's: the same. -/
namespace Go.Proofs.YtgikkoeckdhgkaaDoorPg
open Go Go.RowKit
set_option linter.unusedSimpArgs false

theorem decodeL_eq (l : List UInt8) : Lib.decodeL l = decL l := by
  unfold Lib.decodeL
  have := @dec_eq Globs.none ⟨l.toArray⟩ 0
  simpa using this

theorem dec_asc {c : UInt8} {r : List UInt8} (h : c.toNat < 128) : decL (c :: r) = (c.toNat, 1) := by
  unfold decL
  simp [h]

theorem getD_cons (c : UInt8) (r : List UInt8) (k : Nat) : (c :: r).getD (k + 1) 0 = r.getD k 0 := by simp [List.getD]

/-- how the decoder goes, its bytes as numbers -/
def decN (c n x0 x1 x2 : Nat) : Nat × Nat :=
  if c < 128 then (c, 1)
  else if c / 32 = 6 ∧ 1 ≤ n ∧ x0 / 64 = 2 then (if 128 ≤ (c % 32) * 64 + x0 % 64 then ((c % 32) * 64 + x0 % 64, 2) else (65533, 1))
  else if c / 16 = 14 ∧ 2 ≤ n ∧ x0 / 64 = 2 ∧ x1 / 64 = 2 then (if 2048 ≤ (c % 16) * 4096 + x0 % 64 * 64 + x1 % 64 ∧ Utf8.valid (((c % 16) * 4096 + x0 % 64 * 64 + x1 % 64 : Nat) : Int) = true then ((c % 16) * 4096 + x0 % 64 * 64 + x1 % 64, 3) else (65533, 1))
  else if c / 8 = 30 ∧ 3 ≤ n ∧ x0 / 64 = 2 ∧ x1 / 64 = 2 ∧ x2 / 64 = 2 then (if 65536 ≤ (c % 8) * 262144 + x0 % 64 * 4096 + x1 % 64 * 64 + x2 % 64 ∧ Utf8.valid (((c % 8) * 262144 + x0 % 64 * 4096 + x1 % 64 * 64 + x2 % 64 : Nat) : Int) = true then ((c % 8) * 262144 + x0 % 64 * 4096 + x1 % 64 * 64 + x2 % 64, 4) else (65533, 1))
  else (65533, 1)

theorem decL_N (c : UInt8) (r : List UInt8) : decL (c :: r) = decN c.toNat r.length (r.getD 0 0).toNat (r.getD 1 0).toNat (r.getD 2 0).toNat := by
  unfold decL decN
  simp only [getD_cons, List.length_cons, List.getD_cons_zero, Utf8.runeError, beq_iff_eq, Bool.and_eq_true, decide_eq_true_eq, ge_iff_le, Nat.lt_add_one_iff, Nat.lt_add_left_iff_pos]
  generalize (r.getD 0 0).toNat = x0
  generalize (r.getD 1 0).toNat = x1
  generalize (r.getD 2 0).toNat = x2
  have c3 : ((c.toNat / 16 = 14 ∧ 1 ≤ r.length ∧ x0 / 64 = 2) ∧ 2 ≤ r.length ∧ x1 / 64 = 2) ↔ (c.toNat / 16 = 14 ∧ 2 ≤ r.length ∧ x0 / 64 = 2 ∧ x1 / 64 = 2) := by omega
  have c4 : (((c.toNat / 8 = 30 ∧ 1 ≤ r.length ∧ x0 / 64 = 2) ∧ 2 ≤ r.length ∧ x1 / 64 = 2) ∧ 3 ≤ r.length ∧ x2 / 64 = 2) ↔ (c.toNat / 8 = 30 ∧ 3 ≤ r.length ∧ x0 / 64 = 2 ∧ x1 / 64 = 2 ∧ x2 / 64 = 2) := by omega
  simp only [c3, c4]

theorem valid_iff (n : Nat) : Utf8.valid (n : Int) = true ↔ (n < 55296 ∨ (57344 ≤ n ∧ n ≤ 1114111)) := by
  unfold Utf8.valid
  simp
  omega

theorem badV_iff (v least : Int) : badV v least = true ↔ (v < least ∨ 1114111 < v ∨ (55296 ≤ v ∧ v ≤ 57343)) := by
  unfold badV
  simp

theorem get_getD {r : List UInt8} {k : Nat} (h : k < r.length) : r[k]? = some (r.getD k 0) := by simp [List.getD, List.getElem?_eq_getElem h]

theorem cv_step {r : List UInt8} {v0 : Int} {k : Nat} {v : Int} (h : cv r v0 k = some v) (hk : k < r.length) :
    cv r v0 (k + 1) = if 128 ≤ (r.getD k 0).toNat ∧ (r.getD k 0).toNat < 192 then some (64 * v + (r.getD k 0).toNat - 128) else none := by
  simp only [cv, h, get_getD hk]

/-- the document's head, its bytes as numbers -/
theorem u8head_two {c : UInt8} {r : List UInt8} (h : 192 ≤ c.toNat ∧ c.toNat < 224) : u8head c r = if 1 ≤ r.length ∧ (128 ≤ (r.getD 0 0).toNat ∧ (r.getD 0 0).toNat < 192) ∧ badV (64 * ((c.toNat : Int) - 192) + (r.getD 0 0).toNat - 128) 128 = false then some 1 else none := by
  have hl : lead (c.toNat : Int) = some (1, 128, (c.toNat : Int) - 192) := by unfold lead; rw [if_neg (by omega), if_pos (by omega)]
  unfold u8head
  rw [if_neg (by omega), hl]
  by_cases n1 : 1 ≤ r.length
  rotate_left
  · simp only [if_pos (show r.length < 1 by omega)]; rw [if_neg (by omega)]
  simp only [if_neg (show ¬ r.length < 1 by omega)]
  have s1 := cv_step (r := r) (v0 := (c.toNat : Int) - 192) (v := (c.toNat : Int) - 192) (k := 0) rfl (by omega)
  simp only [Nat.zero_add, Nat.reduceAdd] at s1
  by_cases a0 : 128 ≤ (r.getD 0 0).toNat ∧ (r.getD 0 0).toNat < 192
  rotate_left
  · rw [if_neg a0] at s1
    simp only [s1]; rw [if_neg (by intro hx; exact a0 hx.2.1)]
  rw [if_pos a0] at s1
  simp only [s1]
  cases hb : badV (64 * ((c.toNat : Int) - 192) + (r.getD 0 0).toNat - 128) 128
  · simp only [Bool.false_eq_true, if_false]; rw [if_pos ⟨n1, a0, trivial⟩]
  · simp

theorem u8head_three {c : UInt8} {r : List UInt8} (h : 224 ≤ c.toNat ∧ c.toNat < 240) : u8head c r = if 2 ≤ r.length ∧ (128 ≤ (r.getD 0 0).toNat ∧ (r.getD 0 0).toNat < 192) ∧ (128 ≤ (r.getD 1 0).toNat ∧ (r.getD 1 0).toNat < 192) ∧
    badV (64 * (64 * ((c.toNat : Int) - 224) + (r.getD 0 0).toNat - 128) + (r.getD 1 0).toNat - 128) 2048 = false then some 2 else none := by
  have hl : lead (c.toNat : Int) = some (2, 2048, (c.toNat : Int) - 224) := by unfold lead; rw [if_neg (by omega), if_neg (by omega), if_pos (by omega)]
  unfold u8head
  rw [if_neg (by omega), hl]
  by_cases n1 : 2 ≤ r.length
  rotate_left
  · simp only [if_pos (show r.length < 2 by omega)]; rw [if_neg (by omega)]
  simp only [if_neg (show ¬ r.length < 2 by omega)]
  have s1 := cv_step (r := r) (v0 := (c.toNat : Int) - 224) (v := (c.toNat : Int) - 224) (k := 0) rfl (by omega)
  simp only [Nat.zero_add, Nat.reduceAdd] at s1
  by_cases a0 : 128 ≤ (r.getD 0 0).toNat ∧ (r.getD 0 0).toNat < 192
  rotate_left
  · rw [if_neg a0] at s1
    simp only [cv_none s1 (m := 2) (by omega)]; rw [if_neg (by intro hx; exact a0 hx.2.1)]
  rw [if_pos a0] at s1
  have s2 := cv_step s1 (by omega)
  simp only [Nat.reduceAdd] at s2
  by_cases a1 : 128 ≤ (r.getD 1 0).toNat ∧ (r.getD 1 0).toNat < 192
  rotate_left
  · rw [if_neg a1] at s2
    simp only [s2]; rw [if_neg (by intro hx; exact a1 hx.2.2.1)]
  rw [if_pos a1] at s2
  simp only [s2]
  cases hb : badV (64 * (64 * ((c.toNat : Int) - 224) + (r.getD 0 0).toNat - 128) + (r.getD 1 0).toNat - 128) 2048
  · simp only [Bool.false_eq_true, if_false]; rw [if_pos ⟨n1, a0, a1, trivial⟩]
  · simp

theorem u8head_four {c : UInt8} {r : List UInt8} (h : 240 ≤ c.toNat ∧ c.toNat < 248) : u8head c r = if 3 ≤ r.length ∧ (128 ≤ (r.getD 0 0).toNat ∧ (r.getD 0 0).toNat < 192) ∧ (128 ≤ (r.getD 1 0).toNat ∧ (r.getD 1 0).toNat < 192) ∧ (128 ≤ (r.getD 2 0).toNat ∧ (r.getD 2 0).toNat < 192) ∧
    badV (64 * (64 * (64 * ((c.toNat : Int) - 240) + (r.getD 0 0).toNat - 128) + (r.getD 1 0).toNat - 128) + (r.getD 2 0).toNat - 128) 65536 = false then some 3 else none := by
  have hl : lead (c.toNat : Int) = some (3, 65536, (c.toNat : Int) - 240) := by unfold lead; rw [if_neg (by omega), if_neg (by omega), if_neg (by omega), if_pos (by omega)]
  unfold u8head
  rw [if_neg (by omega), hl]
  by_cases n1 : 3 ≤ r.length
  rotate_left
  · simp only [if_pos (show r.length < 3 by omega)]; rw [if_neg (by omega)]
  simp only [if_neg (show ¬ r.length < 3 by omega)]
  have s1 := cv_step (r := r) (v0 := (c.toNat : Int) - 240) (v := (c.toNat : Int) - 240) (k := 0) rfl (by omega)
  simp only [Nat.zero_add, Nat.reduceAdd] at s1
  by_cases a0 : 128 ≤ (r.getD 0 0).toNat ∧ (r.getD 0 0).toNat < 192
  rotate_left
  · rw [if_neg a0] at s1
    simp only [cv_none s1 (m := 3) (by omega)]; rw [if_neg (by intro hx; exact a0 hx.2.1)]
  rw [if_pos a0] at s1
  have s2 := cv_step s1 (by omega)
  simp only [Nat.reduceAdd] at s2
  by_cases a1 : 128 ≤ (r.getD 1 0).toNat ∧ (r.getD 1 0).toNat < 192
  rotate_left
  · rw [if_neg a1] at s2
    simp only [cv_none s2 (m := 3) (by omega)]; rw [if_neg (by intro hx; exact a1 hx.2.2.1)]
  rw [if_pos a1] at s2
  have s3 := cv_step s2 (by omega)
  simp only [Nat.reduceAdd] at s3
  by_cases a2 : 128 ≤ (r.getD 2 0).toNat ∧ (r.getD 2 0).toNat < 192
  rotate_left
  · rw [if_neg a2] at s3
    simp only [s3]; rw [if_neg (by intro hx; exact a2 hx.2.2.2.1)]
  rw [if_pos a2] at s3
  simp only [s3]
  cases hb : badV (64 * (64 * (64 * ((c.toNat : Int) - 240) + (r.getD 0 0).toNat - 128) + (r.getD 1 0).toNat - 128) + (r.getD 2 0).toNat - 128) 65536
  · simp only [Bool.false_eq_true, if_false]; rw [if_pos ⟨n1, a0, a1, a2, trivial⟩]
  · simp

theorem u8head_asc {c : UInt8} {r : List UInt8} (h : c.toNat < 128) : u8head c r = some 0 := by
  unfold u8head; rw [if_pos (by omega)]

theorem u8head_none {c : UInt8} {r : List UInt8} (h : 128 ≤ c.toNat) (h2 : c.toNat < 192 ∨ 248 ≤ c.toNat) : u8head c r = none := by
  have hl : lead (c.toNat : Int) = none := by
    unfold lead
    rcases h2 with h2 | h2
    · rw [if_pos (by omega)]
    · rw [if_neg (by omega), if_neg (by omega), if_neg (by omega), if_neg (by omega)]
  unfold u8head
  rw [if_neg (by omega), hl]

/-- What the one says of the first code point the other says. -/
theorem heads (c : UInt8) (r : List UInt8) : (u8head c r = none ∧ decL (c :: r) = (65533, 1)) ∨ ∃ n, u8head c r = some n ∧ (decL (c :: r)).2 = n + 1 ∧ ¬ ((decL (c :: r)).1 = 65533 ∧ (decL (c :: r)).2 = 1) := by
  have hc : c.toNat < 256 := c.toNat_lt
  have b0 : (r.getD 0 0).toNat < 256 := (r.getD 0 0).toNat_lt
  have b1 : (r.getD 1 0).toNat < 256 := (r.getD 1 0).toNat_lt
  have b2 : (r.getD 2 0).toNat < 256 := (r.getD 2 0).toNat_lt
  rw [decL_N]
  by_cases k1 : c.toNat < 128
  · refine .inr ⟨0, u8head_asc k1, ?_⟩
    unfold decN; rw [if_pos k1]; simp; omega
  by_cases k2 : c.toNat < 192 ∨ 248 ≤ c.toNat
  · refine .inl ⟨u8head_none (by omega) k2, ?_⟩
    unfold decN; rw [if_neg k1, if_neg (by omega), if_neg (by omega), if_neg (by omega)]
  by_cases k3 : c.toNat < 224
  · rw [u8head_two ⟨by omega, k3⟩]
    split
    · rename_i hx
      unfold decN
      rw [if_neg k1]
      obtain ⟨g1, g2, g3⟩ := hx
      have g3' : ¬ badV (64 * ((c.toNat : Int) - 192) + (r.getD 0 0).toNat - 128) 128 = true := by rw [g3]; decide
      rw [badV_iff] at g3'
      refine .inr ⟨1, rfl, ?_⟩
      rw [if_pos (by omega), if_pos (by omega)]
      simp
    · rename_i hx
      refine .inl ⟨rfl, ?_⟩
      unfold decN
      rw [if_neg k1]
      by_cases q : c.toNat / 32 = 6 ∧ 1 ≤ r.length ∧ (r.getD 0 0).toNat / 64 = 2
      · rw [if_pos q]
        rw [if_neg]
        intro hge
        refine hx ⟨q.2.1, by omega, ?_⟩
        rw [Bool.eq_false_iff, ne_eq, badV_iff]
        omega
      · rw [if_neg q, if_neg (by omega), if_neg (by omega)]
  by_cases k4 : c.toNat < 240
  · rw [u8head_three ⟨by omega, k4⟩]
    split
    · rename_i hx
      unfold decN
      rw [if_neg k1, if_neg (by omega)]
      obtain ⟨g1, g2, g3, g4⟩ := hx
      have g4' : ¬ badV (64 * (64 * ((c.toNat : Int) - 224) + (r.getD 0 0).toNat - 128) + (r.getD 1 0).toNat - 128) 2048 = true := by rw [g4]; decide
      rw [badV_iff] at g4'
      refine .inr ⟨2, rfl, ?_⟩
      rw [if_pos (by omega), if_pos (by rw [valid_iff]; omega)]
      simp
    · rename_i hx
      refine .inl ⟨rfl, ?_⟩
      unfold decN
      rw [if_neg k1, if_neg (by omega)]
      by_cases q : c.toNat / 16 = 14 ∧ 2 ≤ r.length ∧ (r.getD 0 0).toNat / 64 = 2 ∧ (r.getD 1 0).toNat / 64 = 2
      · rw [if_pos q]
        rw [if_neg]
        rw [valid_iff]
        intro hge
        refine hx ⟨q.2.1, by omega, by omega, ?_⟩
        rw [Bool.eq_false_iff, ne_eq, badV_iff]
        omega
      · rw [if_neg q, if_neg (by omega)]
  rw [u8head_four ⟨by omega, by omega⟩]
  split
  · rename_i hx
    unfold decN
    rw [if_neg k1, if_neg (by omega), if_neg (by omega)]
    obtain ⟨g1, g2, g3, g4, g5⟩ := hx
    have g5' : ¬ badV (64 * (64 * (64 * ((c.toNat : Int) - 240) + (r.getD 0 0).toNat - 128) + (r.getD 1 0).toNat - 128) + (r.getD 2 0).toNat - 128) 65536 = true := by rw [g5]; decide
    rw [badV_iff] at g5'
    refine .inr ⟨3, rfl, ?_⟩
    rw [if_pos (by omega), if_pos (by rw [valid_iff]; omega)]
    simp
  · rename_i hx
    refine .inl ⟨rfl, ?_⟩
    unfold decN
    rw [if_neg k1, if_neg (by omega), if_neg (by omega)]
    by_cases q : c.toNat / 8 = 30 ∧ 3 ≤ r.length ∧ (r.getD 0 0).toNat / 64 = 2 ∧ (r.getD 1 0).toNat / 64 = 2 ∧ (r.getD 2 0).toNat / 64 = 2
    · rw [if_pos q]
      rw [if_neg]
      rw [valid_iff]
      intro hge
      refine hx ⟨q.2.1, by omega, by omega, by omega, ?_⟩
      rw [Bool.eq_false_iff, ne_eq, badV_iff]
      omega
    · rw [if_neg q]

theorem validGo_u8 : ∀ (n : Nat) (l : List UInt8), l.length ≤ n → Lib.validGoD n l = u8 l
  | 0, l, h => by
    have : l = [] := List.eq_nil_of_length_eq_zero (by omega)
    subst this; rfl
  | n + 1, [], _ => rfl
  | n + 1, c :: r, h => by
    unfold Lib.validGoD
    rw [if_neg (by simp), decodeL_eq, u8_cons]
    rw [List.length_cons] at h
    rcases heads c r with ⟨h1, h2⟩ | ⟨m, h1, h2, h3⟩
    · rw [h1, h2]; rfl
    · rw [h1, if_neg h3, h2]
      rw [validGo_u8 n _ (by rw [List.length_drop, List.length_cons]; omega), List.drop_succ_cons]

theorem valid_u8 (l : List UInt8) : Lib.validD l = u8 l := validGo_u8 _ _ (Nat.le_refl _)

end Go.Proofs.YtgikkoeckdhgkaaDoorPg

/- Keys of values: a number's bytes, shifted. -/
namespace Go.Proofs.YtgikkoeckdhgkaaDoorPg
open Go Go.RowKit

theorem xor_top {a : Nat} (h : a < 18446744073709551616) : a ^^^ 9223372036854775808 = (a + 9223372036854775808) % 18446744073709551616 := by
  have key : ∀ r : Nat, r < 2 ^ 63 → r ^^^ 2 ^ 63 = 2 ^ 63 * 1 + r := fun r hr => by
    apply Nat.eq_of_testBit_eq
    intro j
    rw [Nat.testBit_xor, Nat.testBit_two_pow_mul_add 1 hr, Nat.testBit_two_pow]
    by_cases h1 : j < 63
    · rw [if_pos h1]
      have : ¬ 63 = j := by omega
      simp [this]
    · rw [if_neg h1]
      have h2 : r.testBit j = false := Nat.testBit_lt_two_pow (Nat.lt_of_lt_of_le hr (Nat.pow_le_pow_right (by decide) (by omega)))
      rw [h2]
      by_cases h3 : j = 63
      · subst h3; rfl
      · obtain ⟨k, hk⟩ : ∃ k, j - 63 = k + 1 := ⟨j - 64, by omega⟩
        rw [hk]
        have : ¬ 63 = j := by omega
        simp [this]
        exact (Nat.testBit_lt_two_pow (x := 1) (i := k + 1) (Nat.one_lt_two_pow (by omega)))
  have e63 : (2 : Nat) ^ 63 = 9223372036854775808 := by decide
  rw [e63] at key
  by_cases c : a < 9223372036854775808
  · rw [key a c]; omega
  · have h1 := key (a - 9223372036854775808) (by omega)
    have h2 : a = (a - 9223372036854775808) ^^^ 9223372036854775808 := by rw [h1]; omega
    rw [h2, Nat.xor_assoc, Nat.xor_self, Nat.xor_zero, ← h2]
    omega

theorem wrap_u64 (n : Int) : IntKind.u64.wrap n = n % 18446744073709551616 := by
  simp [IntKind.wrap, IntKind.bits, IntKind.signed]

theorem keyM_bd (n : Int) : 0 ≤ keyM n ∧ keyM n < 18446744073709551616 := by
  unfold keyM; rw [wrap_u64]; omega

theorem xor_keyM (n : Int) : IntKind.u64.wrap ↑((BitVec.ofInt IntKind.u64.bits (IntKind.u64.wrap n)).toNat ^^^ (9223372036854775808#IntKind.u64.bits).toNat) = keyM n := by
  have e1 : (BitVec.ofInt IntKind.u64.bits (IntKind.u64.wrap n)).toNat = (n % 18446744073709551616).toNat := by
    rw [wrap_u64]
    show (BitVec.ofInt 64 _).toNat = _
    rw [BitVec.toNat_ofInt]
    have : (2 : Int) ^ 64 = 18446744073709551616 := by decide
    omega
  have e2 : (9223372036854775808#IntKind.u64.bits).toNat = 9223372036854775808 := rfl
  rw [e1, e2, xor_top (by omega), wrap_u64]
  unfold keyM
  rw [wrap_u64, wrap_u64]
  omega

theorem xor_keyB (n : Int) : IntKind.u64.wrap ↑(BitVec.ofInt IntKind.u64.bits (IntKind.u64.wrap n) ^^^ BitVec.ofInt IntKind.u64.bits 9223372036854775808).toNat = keyM n := by
  rw [← xor_keyM n, BitVec.toNat_xor]
  rfl

theorem b8_mod {x y : Int} (h : x % 256 = y % 256) : b8 x = b8 y := by unfold b8; rw [h]

theorem byte_eq (n : Int) (j : Nat) (hj : j < 8) : b8 ((keyM n).fdiv (2 ^ min (IntKind.i64.wrap (8 * IntKind.i64.wrap (7 - (j : Int)))).toNat IntKind.u64.bits)) = b8 (IntKind.u64.wrap ((beS (keyM n) j).tdiv 72057594037927936)) := by
  obtain ⟨h0, h1⟩ := keyM_bd n
  generalize keyM n = m at *
  apply b8_mod
  rw [wrap_u64]
  have e : (IntKind.i64.wrap (8 * IntKind.i64.wrap (7 - (j : Int)))).toNat = 56 - 8 * j := by
    rw [IntKind.wrap_i64, IntKind.wrap_i64]; omega
  rw [e]
  have e2 : min (56 - 8 * j) IntKind.u64.bits = 56 - 8 * j := by show min (56 - 8 * j) 64 = _; omega
  rw [e2]
  have nn : ∀ k, 0 ≤ beS m k := fun k => by
    cases k with
    | zero => exact h0
    | succ k => unfold beS; rw [wrap_u64]; omega
  rw [Int.tdiv_eq_ediv_of_nonneg (nn j)]
  have hp : ∀ k : Nat, (0 : Int) ≤ 2 ^ k := fun k => Int.le_of_lt (Int.pow_pos (by decide))
  rw [Int.fdiv_eq_ediv_of_nonneg _ (hp _)]
  clear nn e e2
  obtain rfl | rfl | rfl | rfl | rfl | rfl | rfl | rfl : j = 0 ∨ j = 1 ∨ j = 2 ∨ j = 3 ∨ j = 4 ∨ j = 5 ∨ j = 6 ∨ j = 7 := by omega
  · have hq : (2 : Int) ^ (56 - 8 * 0) = 72057594037927936 := by decide
    rw [hq]
    simp only [beS]
    omega
  · have hq : (2 : Int) ^ (56 - 8 * 1) = 281474976710656 := by decide
    rw [hq]
    simp only [beS, wrap_u64]
    omega
  · have hq : (2 : Int) ^ (56 - 8 * 2) = 1099511627776 := by decide
    rw [hq]
    simp only [beS, wrap_u64]
    omega
  · have hq : (2 : Int) ^ (56 - 8 * 3) = 4294967296 := by decide
    rw [hq]
    simp only [beS, wrap_u64]
    omega
  · have hq : (2 : Int) ^ (56 - 8 * 4) = 16777216 := by decide
    rw [hq]
    simp only [beS, wrap_u64]
    omega
  · have hq : (2 : Int) ^ (56 - 8 * 5) = 65536 := by decide
    rw [hq]
    simp only [beS, wrap_u64]
    omega
  · have hq : (2 : Int) ^ (56 - 8 * 6) = 256 := by decide
    rw [hq]
    simp only [beS, wrap_u64]
    omega
  · have hq : (2 : Int) ^ (56 - 8 * 7) = 1 := by decide
    rw [hq]
    simp only [beS, wrap_u64]
    omega

end Go.Proofs.YtgikkoeckdhgkaaDoorPg

/- Keys of values: what they are read as. -/
namespace Go.Proofs.YtgikkoeckdhgkaaDoorPg
open Go Go.RowKit

/-- the text at the beginning of a key, what is left, whether there is one -/
def tx (acc : List UInt8) : List UInt8 → List UInt8 × List UInt8 × Bool
  | [] => ([], [], false)
  | [_] => ([], [], false)
  | c :: d :: r => if c = 0 then (if d = 1 then (acc, r, true) else if d = 255 then tx (acc ++ [0]) r else ([], [], false)) else tx (acc ++ [c]) (d :: r)

theorem tx_short {acc l : List UInt8} (h : l.length ≤ 1) : tx acc l = ([], [], false) := by
  match l, h with
  | [], _ => simp [tx]
  | [_], _ => simp [tx]

theorem tx_len : ∀ (n : Nat) (acc l : List UInt8), l.length ≤ n → (tx acc l).1.length ≤ acc.length + l.length ∧ (tx acc l).2.1.length ≤ l.length
  | 0, acc, l, h => by
    have : l = [] := List.eq_nil_of_length_eq_zero (by omega)
    subst this; simp [tx]
  | n + 1, acc, [], h => by simp [tx]
  | n + 1, acc, [_], h => by simp [tx]
  | n + 1, acc, c :: d :: r, h => by
    simp only [List.length_cons] at h
    unfold tx
    split
    · split
      · simp only [List.length_cons]; omega
      · split
        · have := tx_len n (acc ++ [0]) r (by omega)
          simp only [List.length_append, List.length_cons, List.length_nil] at this ⊢; omega
        · simp only [List.length_nil]; omega
    · have := tx_len n (acc ++ [c]) (d :: r) (by simp only [List.length_cons]; omega)
      simp only [List.length_append, List.length_cons, List.length_nil] at this ⊢; omega

theorem tx_esc (rest : List UInt8) : ∀ (t acc : List UInt8), tx acc (escL t ++ 0 :: 1 :: rest) = (acc ++ t, rest, true)
  | [], acc => by simp [escL, tx]
  | b :: t, acc => by
    have e : escL (b :: t) = escB b ++ escL t := by simp [escL]
    rw [e]
    unfold escB
    by_cases hb : b = 0
    · subst hb
      rw [if_pos rfl]
      simp only [List.cons_append, List.nil_append]
      rw [tx, if_pos rfl, if_neg (by decide), if_pos rfl, tx_esc rest t]
      simp
    · rw [if_neg hb]
      simp only [List.cons_append, List.nil_append]
      obtain ⟨d, r, hd⟩ : ∃ d r, escL t ++ 0 :: 1 :: rest = d :: r := by
        cases hx : escL t with
        | nil => exact ⟨_, _, rfl⟩
        | cons x y => exact ⟨_, _, rfl⟩
      rw [hd, tx, if_neg hb, ← hd, tx_esc rest t]
      simp

theorem tx_back : ∀ (n : Nat) (acc l a r : List UInt8), l.length ≤ n → tx acc l = (a, r, true) → ∃ t, a = acc ++ t ∧ l = escL t ++ 0 :: 1 :: r
  | 0, acc, l, a, r, h, hx => by
    have : l = [] := List.eq_nil_of_length_eq_zero (by omega)
    subst this; simp [tx] at hx
  | n + 1, acc, [], a, r, h, hx => by simp [tx] at hx
  | n + 1, acc, [_], a, r, h, hx => by simp [tx] at hx
  | n + 1, acc, c :: d :: q, a, r, h, hx => by
    simp only [List.length_cons] at h
    unfold tx at hx
    split at hx
    · rename_i hc
      subst hc
      split at hx
      · rename_i hd
        subst hd
        cases hx
        exact ⟨[], by simp, by simp [escL]⟩
      · split at hx
        · rename_i hd
          subst hd
          obtain ⟨t, e1, e2⟩ := tx_back n (acc ++ [0]) q a r (by omega) hx
          refine ⟨0 :: t, by rw [e1]; simp, ?_⟩
          have e : escL (0 :: t) = [0, 255] ++ escL t := by simp [escL, escB]
          rw [e, e2]; simp
        · simp at hx
    · rename_i hc
      obtain ⟨t, e1, e2⟩ := tx_back n (acc ++ [c]) (d :: q) a r (by simp only [List.length_cons]; omega) hx
      refine ⟨c :: t, by rw [e1]; simp, ?_⟩
      have e : escL (c :: t) = [c] ++ escL t := by simp [escL, escB, hc]
      rw [e, e2]; simp

/-- a number of bytes -/
def deB (l : List UInt8) : Int := l.foldl (fun n b => n * 256 + (b.toNat : Int)) 0

/-- the value at the beginning of a key, what is left, whether there is one -/
def oneP (c : UInt8) (r : List UInt8) : Val × List UInt8 × Bool :=
  if (c.toNat : Int) = 1 then (⟨1, ((r.headD 0).toNat : Int), []⟩, r.tail, decide (r ≠ []))
  else if (c.toNat : Int) = 2 then (if 8 ≤ r.length then (⟨2, deB (r.take 8) - 9223372036854775808, []⟩, r.drop 8, true) else (⟨2, 0, []⟩, r, false))
  else if (c.toNat : Int) = 3 ∨ (c.toNat : Int) = 4 then (⟨c.toNat, 0, (tx [] r).1⟩, (tx [] r).2.1, (tx [] r).2.2)
  else (⟨c.toNat, 0, []⟩, r, true)

def oneT : List UInt8 → Val × List UInt8 × Bool
  | [] => (val0, [], false)
  | c :: r => ((oneP c r).1, (oneP c r).2.1, (oneP c r).2.2 && mayV (oneP c r).1)

def valuesF : Nat → List Val → List UInt8 → Option (List Val)
  | 0, _, _ => none
  | f + 1, acc, s => if s = [] then some acc else if (oneT s).2.2 then valuesF f (acc ++ [(oneT s).1]) (oneT s).2.1 else none

def valuesL (s : List UInt8) : Option (List Val) := valuesF (s.length + 1) [] s

theorem oneP_len (c : UInt8) (r : List UInt8) : (oneP c r).2.1.length ≤ r.length ∧ (oneP c r).1.t.length ≤ r.length := by
  unfold oneP
  have := tx_len r.length [] r (Nat.le_refl _)
  simp only [List.length_nil] at this
  repeat' split
  all_goals simp only [List.length_tail, List.length_drop, List.length_nil]
  all_goals omega

theorem oneT_len {s : List UInt8} (h : s ≠ []) : (oneT s).2.1.length < s.length ∧ (oneT s).1.t.length ≤ s.length := by
  cases s with
  | nil => exact absurd rfl h
  | cons c r =>
    have := oneP_len c r
    simp only [oneT, List.length_cons]
    omega

theorem deB_be {m : Int} (h0 : 0 ≤ m) (h1 : m < 18446744073709551616) : deB (beB m 8) = m := by
  have bt : ∀ x : Int, ((b8 x).toNat : Int) = x % 256 := fun x => by rw [← b8_wrap]; simp [IntKind.wrap, IntKind.bits, IntKind.signed]
  have nn : ∀ k, 0 ≤ beS m k := fun k => by
    cases k with
    | zero => exact h0
    | succ k => unfold beS; rw [wrap_u64]; omega
  have fold : ∀ (l : List UInt8) (b : UInt8), deB (l ++ [b]) = deB l * 256 + (b.toNat : Int) := fun l b => by simp [deB, List.foldl_append]
  have z0 : beS m 0 = m := rfl
  have st : ∀ k, beS m (k + 1) = (beS m k * 256) % 18446744073709551616 := fun k => by rw [beS, wrap_u64]
  have sd : ∀ k, deB (beB m (k + 1)) = deB (beB m k) * 256 + (beS m k / 72057594037927936) % 256 := fun k => by
    rw [beB, fold, bt, wrap_u64, Int.tdiv_eq_ediv_of_nonneg (nn k)]
    have := nn k
    generalize beS m k = y at *
    omega
  have y0 : deB (beB m 0) = 0 := rfl
  clear nn bt fold
  have s1 := st 0
  rw [z0] at s1
  have z1 : beS m 1 = (m * 256) % 18446744073709551616 := by rw [s1]
  have y1 : deB (beB m 1) = m / 72057594037927936 := by
    rw [sd 0, y0, z0]; omega
  have s2 := st 1
  rw [z1] at s2
  have z2 : beS m 2 = (m * 65536) % 18446744073709551616 := by rw [s2]; omega
  have y2 : deB (beB m 2) = m / 281474976710656 := by
    rw [sd 1, y1, z1]; omega
  have s3 := st 2
  rw [z2] at s3
  have z3 : beS m 3 = (m * 16777216) % 18446744073709551616 := by rw [s3]; omega
  have y3 : deB (beB m 3) = m / 1099511627776 := by
    rw [sd 2, y2, z2]; omega
  have s4 := st 3
  rw [z3] at s4
  have z4 : beS m 4 = (m * 4294967296) % 18446744073709551616 := by rw [s4]; omega
  have y4 : deB (beB m 4) = m / 4294967296 := by
    rw [sd 3, y3, z3]; omega
  have s5 := st 4
  rw [z4] at s5
  have z5 : beS m 5 = (m * 1099511627776) % 18446744073709551616 := by rw [s5]; omega
  have y5 : deB (beB m 5) = m / 16777216 := by
    rw [sd 4, y4, z4]; omega
  have s6 := st 5
  rw [z5] at s6
  have z6 : beS m 6 = (m * 281474976710656) % 18446744073709551616 := by rw [s6]; omega
  have y6 : deB (beB m 6) = m / 65536 := by
    rw [sd 5, y5, z5]; omega
  have s7 := st 6
  rw [z6] at s7
  have z7 : beS m 7 = (m * 72057594037927936) % 18446744073709551616 := by rw [s7]; omega
  have y7 : deB (beB m 7) = m / 256 := by
    rw [sd 6, y6, z6]; omega
  have s8 := st 7
  rw [z7] at s8
  have z8 : beS m 8 = (m * 18446744073709551616) % 18446744073709551616 := by rw [s8]; omega
  have y8 : deB (beB m 8) = m / 1 := by
    rw [sd 7, y7, z7]; omega
  rw [y8]; omega

set_option maxHeartbeats 4000000 in
theorem be_deB {l : List UInt8} (h : l.length = 8) : beB (deB l) 8 = l ∧ 0 ≤ deB l ∧ deB l < 18446744073709551616 := by
  match l, h with
  | [a, b, c, d, e, f, g, i], _ =>
    have ha := a.toNat_lt; have hb := b.toNat_lt; have hc := c.toNat_lt; have hd := d.toNat_lt; have he := e.toNat_lt; have hf := f.toNat_lt; have hg := g.toNat_lt; have hi := i.toNat_lt
    have hm : deB [a, b, c, d, e, f, g, i] = (((((((a.toNat * 256 + b.toNat) * 256 + c.toNat) * 256 + d.toNat) * 256 + e.toNat) * 256 + f.toNat) * 256 + g.toNat) * 256 + i.toNat : Int) := by
      simp [deB]
    refine ⟨?_, by rw [hm]; omega, by rw [hm]; omega⟩
    generalize hM : deB [a, b, c, d, e, f, g, i] = m at *
    have nn : ∀ k, 0 ≤ beS m k := fun k => by
      cases k with
      | zero => show 0 ≤ m; omega
      | succ k => unfold beS; rw [wrap_u64]; omega
    have bb : ∀ (x : Int) (y : UInt8), x % 256 = y.toNat → b8 x = y := fun x y hx => by
      apply UInt8.toNat_inj.1
      have : ((b8 x).toNat : Int) = x % 256 := by rw [← b8_wrap]; simp [IntKind.wrap, IntKind.bits, IntKind.signed]
      omega
    have step : ∀ k, IntKind.u64.wrap ((beS m k).tdiv 72057594037927936) = (beS m k / 72057594037927936) % 18446744073709551616 := fun k => by
      rw [wrap_u64, Int.tdiv_eq_ediv_of_nonneg (nn k)]
    simp only [beB, List.nil_append, List.cons_append, step]
    clear nn step
    simp only [beS, wrap_u64]
    rw [bb _ a (by omega), bb _ b (by omega), bb _ c (by omega), bb _ d (by omega), bb _ e (by omega), bb _ f (by omega), bb _ g (by omega), bb _ i (by omega)]

def I64V (n : Int) : Prop := -9223372036854775808 ≤ n ∧ n ≤ 9223372036854775807

theorem b8_nat {x : Int} (h : 0 ≤ x ∧ x < 256) : ((b8 x).toNat : Int) = x := by
  rw [← b8_wrap]
  have : IntKind.u8.wrap x = x % 256 := by simp [IntKind.wrap, IntKind.bits, IntKind.signed]
  rw [this]; omega

theorem b8_toNat (c : UInt8) : b8 (c.toNat : Int) = c := by
  apply UInt8.toNat_inj.1
  have := b8_nat (x := c.toNat) ⟨by omega, by have := c.toNat_lt; omega⟩
  omega

theorem keyM_de {n : Int} (h : I64V n) : keyM n - 9223372036854775808 = n := by
  obtain ⟨h1, h2⟩ := h
  unfold keyM; rw [wrap_u64, wrap_u64]; omega

theorem oneT_key {v : Val} (hm : mayV v = true) (hn : I64V v.n) (rest : List UInt8) : oneT (keyV v ++ rest) = (v, rest, true) := by
  obtain ⟨k, n, t⟩ := v
  have hm0 := hm
  unfold mayV at hm
  simp only at hm hn
  have fin : ∀ (c : UInt8) (r : List UInt8), keyV ⟨k, n, t⟩ ++ rest = c :: r → oneP c r = (⟨k, n, t⟩, rest, true) → oneT (keyV ⟨k, n, t⟩ ++ rest) = (⟨k, n, t⟩, rest, true) := fun c r e1 e2 => by
    rw [e1]; simp only [oneT, e2, hm0, Bool.true_and]
  by_cases c0 : k = 0
  · subst c0
    rw [if_pos rfl] at hm
    simp at hm
    obtain ⟨rfl, rfl⟩ := hm
    exact fin 0 rest rfl rfl
  rw [if_neg c0] at hm
  by_cases c1 : k = 1
  · subst c1
    rw [if_pos rfl] at hm
    simp at hm
    obtain ⟨rfl, hm⟩ := hm
    rcases hm with rfl | rfl
    · exact fin 1 (0 :: rest) rfl rfl
    · exact fin 1 (1 :: rest) rfl rfl
  rw [if_neg c1] at hm
  by_cases c2 : k = 2
  · subst c2
    rw [if_pos rfl] at hm
    simp at hm
    subst hm
    refine fin 2 (beB (keyM n) 8 ++ rest) rfl ?_
    have hl := beB_len (keyM n) 8
    unfold oneP
    rw [if_neg (by decide), if_pos (by decide), if_pos (by rw [List.length_append]; omega)]
    rw [List.take_left' hl, List.drop_left' hl, deB_be (keyM_bd n).1 (keyM_bd n).2, keyM_de hn]
  rw [if_neg c2] at hm
  have c34 : (k = 3 ∨ k = 4) ∧ n = 0 := by
    by_cases c3 : k = 3
    · rw [if_pos c3] at hm
      simp at hm
      exact ⟨.inl c3, hm.1.2⟩
    · rw [if_neg c3] at hm
      by_cases c4 : k = 4
      · rw [if_pos c4] at hm
        simp at hm
        exact ⟨.inr c4, hm.1⟩
      · rw [if_neg c4] at hm; cases hm
  obtain ⟨c34, rfl⟩ := c34
  have ek : keyV ⟨k, 0, t⟩ ++ rest = b8 k :: (escL t ++ 0 :: 1 :: rest) := by
    unfold keyV keyT
    rw [if_neg c1, if_neg c2, if_pos c34]
    simp
  refine fin _ _ ek ?_
  have e8 := b8_nat (x := k) (by omega)
  unfold oneP
  rw [e8, if_neg c1, if_neg c2, if_pos c34, tx_esc]
  rfl

theorem oneT_back {s : List UInt8} {v : Val} {r : List UInt8} (h : oneT s = (v, r, true)) : keyV v ++ r = s ∧ mayV v = true := by
  cases s with
  | nil => simp [oneT] at h
  | cons c q =>
    simp only [oneT, Prod.mk.injEq, Bool.and_eq_true] at h
    obtain ⟨h1, h2, h3, h4⟩ := h
    rw [h1] at h4
    refine ⟨?_, h4⟩
    unfold oneP at h1 h2 h3
    by_cases c1 : (c.toNat : Int) = 1
    · rw [if_pos c1] at h1 h2 h3
      subst h1
      simp only [decide_eq_true_eq] at h3
      cases q with
      | nil => exact absurd rfl h3
      | cons d q =>
        simp only [List.tail_cons] at h2
        subst h2
        show b8 1 :: (keyT _ ++ q) = _
        unfold keyT
        rw [if_pos rfl, List.headD_cons, b8_toNat, ← c1, b8_toNat]
        rfl
    rw [if_neg c1] at h1 h2 h3
    by_cases c2 : (c.toNat : Int) = 2
    · rw [if_pos c2] at h1 h2 h3
      by_cases c8 : 8 ≤ q.length
      · rw [if_pos c8] at h1 h2 h3
        subst h1
        simp only at h2
        subst h2
        obtain ⟨g1, g2, g3⟩ := be_deB (l := q.take 8) (by rw [List.length_take]; omega)
        show b8 2 :: (keyT _ ++ _) = _
        unfold keyT
        rw [if_neg (show ¬ (2 : Int) = 1 by decide), if_pos (show (2 : Int) = 2 from rfl)]
        have e : keyM (deB (q.take 8) - 9223372036854775808) = deB (q.take 8) := by
          unfold keyM; rw [wrap_u64, wrap_u64]; omega
        rw [e, g1, List.take_append_drop, ← c2, b8_toNat]
      · rw [if_neg c8] at h3; cases h3
    rw [if_neg c2] at h1 h2 h3
    by_cases c34 : (c.toNat : Int) = 3 ∨ (c.toNat : Int) = 4
    · rw [if_pos c34] at h1 h2 h3
      obtain ⟨t, e1, e2⟩ := tx_back q.length [] q (tx [] q).1 (tx [] q).2.1 (Nat.le_refl _) (by rw [← h3])
      subst h1
      simp only at h2
      subst h2
      show b8 _ :: (keyT _ ++ _) = _
      unfold keyT
      rw [if_neg c1, if_neg c2, if_pos c34, b8_toNat, e1, List.nil_append]
      conv => rhs; rw [e2]
      simp
    rw [if_neg c34] at h1 h2 h3
    simp only at h2
    subst h1 h2
    have hc0 : (c.toNat : Int) = 0 := by
      unfold mayV at h4
      by_cases c0 : (c.toNat : Int) = 0
      · exact c0
      · simp only at h4
        rw [if_neg c0, if_neg c1, if_neg c2, if_neg (fun e => c34 (.inl e)), if_neg (fun e => c34 (.inr e))] at h4
        cases h4
    show b8 _ :: (keyT _ ++ _) = _
    unfold keyT
    rw [if_neg c1, if_neg c2, if_neg c34, b8_toNat]
    rfl

theorem keyV_ne (v : Val) (r : List UInt8) : keyV v ++ r ≠ [] := by unfold keyV; simp

theorem keyS_cons (v : Val) (l : List Val) : keyS (v :: l) = keyV v ++ keyS l := by simp [keyS]

theorem valuesF_key : ∀ (l : List Val) (f : Nat) (acc : List Val), (∀ v ∈ l, mayV v = true ∧ I64V v.n) → (keyS l).length < f → valuesF f acc (keyS l) = some (acc ++ l)
  | l, 0, acc, _, h => by omega
  | [], f + 1, acc, _, _ => by simp [valuesF, keyS]
  | v :: l, f + 1, acc, hm, h => by
    have h1 := hm v (by simp)
    rw [keyS_cons] at h ⊢
    rw [valuesF, if_neg (keyV_ne _ _), oneT_key h1.1 h1.2]
    simp only [if_true]
    rw [valuesF_key l f _ (fun w hw => hm w (by simp [hw])) (by rw [List.length_append] at h; unfold keyV at h; rw [List.length_cons] at h; omega)]
    simp

theorem valuesF_back : ∀ (f : Nat) (acc : List Val) (s : List UInt8) (l : List Val), valuesF f acc s = some l → keyS l = keyS acc ++ s ∧ ((∀ v ∈ acc, mayV v = true) → ∀ v ∈ l, mayV v = true)
  | 0, _, _, _, h => by simp [valuesF] at h
  | f + 1, acc, s, l, h => by
    unfold valuesF at h
    split at h
    · rename_i hs
      cases h
      subst hs
      exact ⟨by simp, fun h => h⟩
    · split at h
      · rename_i ho
        obtain ⟨g1, g2⟩ := oneT_back (s := s) (v := (oneT s).1) (r := (oneT s).2.1) (by rw [← ho])
        obtain ⟨k1, k2⟩ := valuesF_back f _ _ _ h
        refine ⟨?_, fun ha => k2 fun w hw => ?_⟩
        · rw [k1]
          have : keyS (acc ++ [(oneT s).1]) = keyS acc ++ keyV (oneT s).1 := by simp [keyS]
          rw [this, List.append_assoc, g1]
        · rcases List.mem_append.1 hw with h1 | h1
          · exact ha w h1
          · simp at h1; subst h1; exact g2
      · cases h

end Go.Proofs.YtgikkoeckdhgkaaDoorPg

/- Keys of values: a number's bytes, read. -/
namespace Go.Proofs.YtgikkoeckdhgkaaDoorPg
open Go Go.RowKit

theorem deB_snoc (l : List UInt8) (b : UInt8) : deB (l ++ [b]) = deB l * 256 + (b.toNat : Int) := by simp [deB, List.foldl_append]

theorem deB_take {r : List UInt8} {j : Nat} {b : UInt8} (h : r[j]? = some b) : deB (r.take (j + 1)) = deB (r.take j) * 256 + (b.toNat : Int) := by
  rw [List.take_add_one, h]
  exact deB_snoc _ _

theorem deB_bd : ∀ (r : List UInt8) (j : Nat), j ≤ r.length → 0 ≤ deB (r.take j) ∧ deB (r.take j) < 256 ^ j
  | r, 0, _ => by simp [deB]
  | r, j + 1, h => by
    have hg : r[j]? = some r[j] := List.getElem?_eq_getElem (by omega)
    have ih := deB_bd r j (by omega)
    have hb := (r[j]).toNat_lt
    rw [deB_take hg, Int.pow_succ]
    generalize (256 : Int) ^ j = p at *
    omega

theorem pow_le8 {j : Nat} (h : j < 8) : (256 : Int) ^ j ≤ 72057594037927936 := by
  obtain rfl | rfl | rfl | rfl | rfl | rfl | rfl | rfl : j = 0 ∨ j = 1 ∨ j = 2 ∨ j = 3 ∨ j = 4 ∨ j = 5 ∨ j = 6 ∨ j = 7 := by omega
  all_goals decide

theorem or_step {n : Int} {b : UInt8} (h0 : 0 ≤ n) (h1 : n < 72057594037927936) :
    IntKind.u64.wrap ↑(BitVec.ofInt IntKind.u64.bits (IntKind.u64.wrap (n * 2 ^ min (8 : Int).toNat IntKind.u64.bits)) ||| BitVec.ofInt IntKind.u64.bits (IntKind.u64.wrap (b.toNat : Int))).toNat = n * 256 + (b.toNat : Int) := by
  have hb := b.toNat_lt
  have e0 : (2 : Int) ^ min (8 : Int).toNat IntKind.u64.bits = 256 := by decide
  rw [e0, wrap_u64, wrap_u64, wrap_u64]
  have p64 : (2 : Int) ^ 64 = 18446744073709551616 := by decide
  have e1 : (BitVec.ofInt 64 (n * 256 % 18446744073709551616)).toNat = 2 ^ 8 * n.toNat := by
    rw [BitVec.toNat_ofInt]
    have e8 : (2 : Nat) ^ 8 = 256 := by decide
    omega
  have e2 : (BitVec.ofInt 64 ((b.toNat : Int) % 18446744073709551616)).toNat = b.toNat := by
    rw [BitVec.toNat_ofInt]; omega
  have e3 : (BitVec.ofInt 64 (n * 256 % 18446744073709551616) ||| BitVec.ofInt 64 ((b.toNat : Int) % 18446744073709551616)).toNat = 2 ^ 8 * n.toNat + b.toNat := by
    rw [BitVec.toNat_or, e1, e2, Nat.two_pow_add_eq_or_of_lt (by simpa using hb)]
  show ((BitVec.ofInt 64 (n * 256 % 18446744073709551616) ||| BitVec.ofInt 64 ((b.toNat : Int) % 18446744073709551616)).toNat : Int) % _ = _
  rw [e3]
  have e8 : (2 : Nat) ^ 8 = 256 := by decide
  omega

theorem xor_back {m : Int} (h0 : 0 ≤ m) (h1 : m < 18446744073709551616) : IntKind.i64.wrap (IntKind.u64.wrap ↑(BitVec.ofInt IntKind.u64.bits m ^^^ BitVec.ofInt IntKind.u64.bits 9223372036854775808).toNat) = m - 9223372036854775808 := by
  have e := xor_keyB m
  rw [wrap_u64 m, show m % 18446744073709551616 = m by omega] at e
  rw [e]
  unfold keyM
  rw [wrap_u64, wrap_u64, IntKind.wrap_i64]
  omega

end Go.Proofs.YtgikkoeckdhgkaaDoorPg

/- Works of copying: plain laws. -/
namespace Go.Proofs.YtgikkoeckdhgkaaDoorPg
open Go Go.RowKit
set_option linter.unusedSimpArgs false

structure Wk where
  t : List UInt8
  d : Bool
  k : List UInt8
deriving DecidableEq

def wkC (w : Wk) : List V := [.str w.t, .bool w.d, .str w.k]
def wkA (w : Wk) : V := .agg [.str w.t, .bool w.d, .str w.k]
def wks (l : List Wk) : List (List V) := l.map wkC
def wk0 : Wk := ⟨[], false, []⟩

theorem wks_len (l : List Wk) : (wks l).length = l.length := by simp [wks]
theorem wks_get {l : List Wk} {i : Nat} {w : Wk} (h : l[i]? = some w) : (wks l)[i]? = some (wkC w) := by simp [wks, h]
theorem wks_take (l : List Wk) (n : Nat) : List.take n (wks l) = wks (l.take n) := by simp [wks, List.map_take]
theorem wks_drop (l : List Wk) (n : Nat) : List.drop n (wks l) = wks (l.drop n) := by simp [wks, List.map_drop]
theorem wks_app (a b : List Wk) : wks (a ++ b) = wks a ++ wks b := by simp [wks]
theorem wks_set (l : List Wk) (i : Nat) (w : Wk) : (wks l).set i (wkC w) = wks (l.set i w) := by simp [wks, List.map_set]

/-- few works of short texts -/
def fewC (w : Wk) : Wk := ⟨w.t.take 40, w.d, w.k.take 40⟩
def fewN (l : List Wk) (n : Nat) : List Wk := (l.take n).map fewC
def fewL (l : List Wk) : List Wk := fewN l 6

theorem fewN_snoc {l : List Wk} {i : Nat} {w : Wk} (h : l[i]? = some w) : fewN l (i + 1) = fewN l i ++ [fewC w] := by
  unfold fewN; rw [List.take_add_one, h]; simp

theorem fewN_len (l : List Wk) (n : Nat) : (fewN l n).length ≤ n := by unfold fewN; rw [List.length_map, List.length_take]; omega

/-- where a table's work stands -/
def atL (l : List Wk) (t : List UInt8) : Option Nat := l.findIdx? fun w => decide (w.t = t)
def atI (l : List Wk) (t : List UInt8) : Int := match atL l t with | some i => (i : Int) | none => -1

def NoneBefore (l : List Wk) (t : List UInt8) (i : Nat) : Prop := ∀ (j : Nat) (w : Wk), j < i → l[j]? = some w → w.t ≠ t

theorem at_some {l : List Wk} {t : List UInt8} {i : Nat} {w : Wk} (hn : NoneBefore l t i) (hi : l[i]? = some w) (ht : w.t = t) : atL l t = some i := by
  unfold atL
  rw [List.findIdx?_eq_some_iff_getElem]
  obtain ⟨h1, h2⟩ := List.getElem?_eq_some_iff.1 hi
  refine ⟨h1, by rw [h2]; simp [ht], fun j hj => ?_⟩
  have := hn j l[j] hj (List.getElem?_eq_getElem (by omega))
  simp [this]

theorem at_none {l : List Wk} {t : List UInt8} (hn : NoneBefore l t l.length) : atL l t = none := by
  unfold atL
  rw [List.findIdx?_eq_none_iff]
  intro w hw
  obtain ⟨j, hj⟩ := List.mem_iff_getElem?.1 hw
  have := hn j w (List.getElem?_eq_some_iff.1 hj).1 hj
  simp [this]

theorem at_get {l : List Wk} {t : List UInt8} {i : Nat} (h : atL l t = some i) : ∃ w, l[i]? = some w ∧ w.t = t ∧ NoneBefore l t i := by
  unfold atL at h
  rw [List.findIdx?_eq_some_iff_getElem] at h
  obtain ⟨h1, h2, h3⟩ := h
  refine ⟨l[i], List.getElem?_eq_getElem h1, by simpa using h2, fun j w hj hw => ?_⟩
  obtain ⟨g1, rfl⟩ := List.getElem?_eq_some_iff.1 hw
  simpa using h3 j hj

theorem at_no {l : List Wk} {t : List UInt8} (h : atL l t = none) : ∀ w ∈ l, w.t ≠ t := by
  unfold atL at h
  rw [List.findIdx?_eq_none_iff] at h
  intro w hw
  simpa using h w hw

/-- rising tables -/
def SortedW (l : List Wk) : Prop := l.Pairwise fun x y => Op.bytesLess x.t y.t = true

theorem sorted_get {l : List Wk} (h : SortedW l) {i j : Nat} {x y : Wk} (hij : i < j) (hi : l[i]? = some x) (hj : l[j]? = some y) : Op.bytesLess x.t y.t = true := by
  obtain ⟨h1, rfl⟩ := List.getElem?_eq_some_iff.1 hi
  obtain ⟨h2, rfl⟩ := List.getElem?_eq_some_iff.1 hj
  exact List.pairwise_iff_getElem.1 h i j h1 h2 hij

/-- how many tables come before one -/
def posL (l : List Wk) (t : List UInt8) : Nat := (l.takeWhile fun w => Op.bytesLess w.t t).length

theorem pos_le (l : List Wk) (t : List UInt8) : posL l t ≤ l.length := by
  unfold posL
  exact (List.takeWhile_sublist _).length_le

theorem takeW_imp {p : Wk → Bool} : ∀ {l : List Wk} {w : Wk}, w ∈ l.takeWhile p → p w = true
  | [], w, h => by simp at h
  | x :: l, w, h => by
    rw [List.takeWhile_cons] at h
    split at h
    · rename_i hx
      rcases List.mem_cons.1 h with rfl | h
      · exact hx
      · exact takeW_imp h
    · simp at h

theorem pos_before {l : List Wk} {t : List UInt8} {j : Nat} {w : Wk} (hj : j < posL l t) (h : l[j]? = some w) : Op.bytesLess w.t t = true := by
  unfold posL at hj
  have h1 : (l.takeWhile fun w => Op.bytesLess w.t t)[j]? = some w := by
    have := List.takeWhile_prefix (l := l) (fun w => Op.bytesLess w.t t)
    obtain ⟨r, hr⟩ := this
    rw [← hr] at h
    rw [List.getElem?_append_left hj] at h
    exact h
  exact takeW_imp (List.mem_of_getElem? h1)

theorem pos_at : ∀ {l : List Wk} {t : List UInt8} {w : Wk}, l[posL l t]? = some w → Op.bytesLess w.t t = false
  | [], t, w, h => by simp at h
  | x :: l, t, w, h => by
    cases hx : Op.bytesLess x.t t with
    | true =>
      have e : posL (x :: l) t = posL l t + 1 := by simp [posL, List.takeWhile_cons, hx]
      rw [e] at h
      exact pos_at (l := l) (by simpa using h)
    | false =>
      have e : posL (x :: l) t = 0 := by simp [posL, List.takeWhile_cons, hx]
      rw [e] at h
      simp at h; subst h; exact hx

/-- the place by two bounds -/
theorem pos_unique {l : List Wk} {t : List UInt8} {i : Nat} (hi : i ≤ l.length) (h1 : ∀ (j : Nat) (w : Wk), j < i → l[j]? = some w → Op.bytesLess w.t t = true) (h2 : ∀ w, l[i]? = some w → Op.bytesLess w.t t = false) : posL l t = i := by
  have hp := pos_le l t
  rcases Nat.lt_trichotomy (posL l t) i with h | h | h
  · have hlt : posL l t < l.length := by omega
    have g := List.getElem?_eq_getElem hlt
    have a := pos_at g
    have b := h1 _ _ h g
    rw [a] at b; cases b
  · exact h
  · have hlt : i < l.length := by omega
    have g := List.getElem?_eq_getElem hlt
    have a := pos_before h g
    have b := h2 _ g
    rw [a] at b; cases b

theorem at_sorted {l : List Wk} {t : List UInt8} {i : Nat} (hs : SortedW l) (h : atL l t = some i) : posL l t = i := by
  obtain ⟨w, hw, ht, _⟩ := at_get h
  refine pos_unique (Nat.le_of_lt (List.getElem?_eq_some_iff.1 hw).1) (fun j x hj hx => ?_) (fun x hx => ?_)
  · have := sorted_get hs hj hx hw
    rw [ht] at this; exact this
  · rw [hw] at hx; cases hx; rw [ht]; exact less_irrefl t

theorem at_pos {l : List Wk} {t : List UInt8} (hs : SortedW l) : (atL l t).isSome = (match l[posL l t]? with | some w => decide (w.t = t) | none => false) := by
  cases h : atL l t with
  | some i =>
    obtain ⟨w, hw, ht, _⟩ := at_get h
    rw [at_sorted hs h, hw]; simp [ht]
  | none =>
    have := at_no h
    cases hg : l[posL l t]? with
    | none => rfl
    | some w => simp [this w (List.mem_of_getElem? hg)]

/-- works with one more -/
def insW (l : List Wk) (w : Wk) : List Wk := l.take (posL l w.t) ++ w :: l.drop (posL l w.t)
def addL (l : List Wk) (t : List UInt8) : List Wk := insW l ⟨t, false, []⟩
def addE (nm : List UInt8 → Bool) (l : List Wk) (t : List UInt8) : Int := if nm t = false then 6 else if (atL l t).isSome then 8 else 0

theorem ins_sorted' {l : List Wk} {w : Wk} (hs : SortedW l) (hn : atL l w.t = none) : SortedW (insW l w) := by
  unfold SortedW insW
  rw [List.pairwise_append]
  refine ⟨List.Pairwise.sublist (List.take_sublist _ _) hs, ?_, fun x hx y hy => ?_⟩
  · rw [List.pairwise_cons]
    refine ⟨fun y hy => ?_, List.Pairwise.sublist (List.drop_sublist _ _) hs⟩
    obtain ⟨j, hj⟩ := List.mem_iff_getElem?.1 hy
    rw [List.getElem?_drop] at hj
    have hlt := (List.getElem?_eq_some_iff.1 hj).1
    have hne : y.t ≠ w.t := at_no hn y (List.mem_of_getElem? hj)
    have hpl : posL l w.t < l.length := by omega
    have hp := pos_at (List.getElem?_eq_getElem hpl)
    cases hb : Op.bytesLess w.t y.t with
    | true => rfl
    | false =>
      exfalso
      cases hc : Op.bytesLess y.t w.t with
      | false => exact hne (less_total hc hb)
      | true =>
        cases j with
        | zero =>
          rw [Nat.add_zero, List.getElem?_eq_getElem hpl] at hj
          cases hj
          rw [hp] at hc; cases hc
        | succ j =>
          have := sorted_get hs (by omega) (List.getElem?_eq_getElem hpl) hj
          have := less_trans this hc
          rw [hp] at this; cases this
  · obtain ⟨i, hi⟩ := List.mem_iff_getElem?.1 hx
    have hil := (List.getElem?_eq_some_iff.1 hi).1
    rw [List.length_take] at hil
    rw [List.getElem?_take_of_lt (by omega)] at hi
    have hxw := pos_before (show i < posL l w.t by omega) hi
    rcases List.mem_cons.1 hy with rfl | hy
    · exact hxw
    · obtain ⟨j, hj⟩ := List.mem_iff_getElem?.1 hy
      rw [List.getElem?_drop] at hj
      exact sorted_get hs (by omega) hi hj

theorem ins_at {l : List Wk} {w : Wk} : (insW l w)[posL l w.t]? = some w := by
  have hp := pos_le l w.t
  unfold insW
  rw [List.getElem?_append_right (by rw [List.length_take]; omega), List.length_take, Nat.min_eq_left hp, Nat.sub_self]
  rfl

theorem at_ins {l : List Wk} {w : Wk} : atL (insW l w) w.t = some (posL l w.t) := by
  refine at_some (fun j x hj hx => ?_) ins_at rfl
  have hp := pos_le l w.t
  unfold insW at hx
  rw [List.getElem?_append_left (by rw [List.length_take]; omega), List.getElem?_take_of_lt hj] at hx
  exact less_ne (pos_before hj hx)

theorem ins_set {l : List Wk} {w v : Wk} (h : v.t = w.t) : (insW l w).set (posL l w.t) v = insW l v := by
  have hp := pos_le l w.t
  unfold insW
  rw [h, List.set_append_right _ _ (by rw [List.length_take]; omega), List.length_take, Nat.min_eq_left hp, Nat.sub_self]
  rfl

theorem ins_len (l : List Wk) (w : Wk) : (insW l w).length = l.length + 1 := by
  have hp := pos_le l w.t
  unfold insW
  rw [List.length_append, List.length_cons, List.length_take, List.length_drop]; omega

theorem ins_mem' {l : List Wk} {w x : Wk} (h : x ∈ insW l w) : x = w ∨ x ∈ l := by
  unfold insW at h
  rcases List.mem_append.1 h with h | h
  · exact .inr (List.mem_of_mem_take h)
  · rcases List.mem_cons.1 h with h | h
    · exact .inl h
    · exact .inr (List.mem_of_mem_drop h)

theorem mem_ins {l : List Wk} {w x : Wk} (h : x ∈ l) : x ∈ insW l w := by
  unfold insW
  rw [← List.take_append_drop (posL l w.t) l] at h
  rcases List.mem_append.1 h with h | h
  · exact List.mem_append_left _ h
  · exact List.mem_append_right _ (List.mem_cons_of_mem _ h)

/-- in rising works a table stands once -/
theorem at_mem {l : List Wk} {x : Wk} (hs : SortedW l) (h : x ∈ l) : ∃ i, atL l x.t = some i ∧ l[i]? = some x := by
  obtain ⟨i, hi⟩ := List.mem_iff_getElem?.1 h
  refine ⟨i, at_some (fun j w hj hw e => ?_) hi rfl, hi⟩
  have := sorted_get hs hj hw hi
  rw [e, less_irrefl] at this; cases this

/-- is a key covered? -/
def covW (w : Wk) (key : List UInt8) : Bool := w.d || (!decide (w.k = []) && !Op.bytesLess w.k key)
def covL (l : List Wk) (t key : List UInt8) : Bool := match (atL l t).bind fun i => l[i]? with
  | some w => covW w key
  | none => false

theorem cov_mem {l : List Wk} {x : Wk} (hs : SortedW l) (h : x ∈ l) (key : List UInt8) : covL l x.t key = covW x key := by
  obtain ⟨i, h1, h2⟩ := at_mem hs h
  unfold covL
  rw [h1]; simp [h2]

theorem cov_true {l : List Wk} {t key : List UInt8} (h : covL l t key = true) : ∃ (i : Nat) (w : Wk), atL l t = some i ∧ l[i]? = some w ∧ w.t = t ∧ covW w key = true := by
  unfold covL at h
  cases ha : atL l t with
  | none => rw [ha] at h; cases h
  | some i =>
    obtain ⟨w, hw, ht, _⟩ := at_get ha
    rw [ha] at h
    simp [hw] at h
    exact ⟨i, w, rfl, hw, ht, h⟩

/-- is a text a key? -/
def isKeyL (s : List UInt8) : Bool := match valuesL s with | some l => !decide (l = []) | none => false

theorem isKey_nil : isKeyL [] = false := by simp [isKeyL, valuesL, valuesF]

theorem keyS_ne {l : List Val} (h : l ≠ []) : keyS l ≠ [] := by
  cases l with
  | nil => exact absurd rfl h
  | cons v l => rw [keyS_cons]; exact keyV_ne v _

theorem isKey_keyS {l : List Val} (hl : ∀ v ∈ l, mayV v = true ∧ I64V v.n) (h : l ≠ []) : isKeyL (keyS l) = true := by
  unfold isKeyL valuesL
  rw [valuesF_key l _ [] hl (by omega)]
  simp [h]

/-- works of which one goes on -/
def goE (l : List Wk) (t last : List UInt8) (done : Bool) : Int := match (atL l t).bind fun i => l[i]? with
  | some w => if (w.d || (!done && (!isKeyL last || !Op.bytesLess w.k last))) = true then 14 else 0
  | none => 7
def goL (l : List Wk) (t last : List UInt8) (done : Bool) : List Wk := match atL l t with
  | some i => l.set i ⟨t, done, if done then [] else last⟩
  | none => l

theorem go_ok {l : List Wk} {t last : List UInt8} {done : Bool} (h : goE l t last done = 0) : ∃ (i : Nat) (w : Wk), atL l t = some i ∧ l[i]? = some w ∧ w.t = t ∧ w.d = false ∧ (done = true ∨ (isKeyL last = true ∧ Op.bytesLess w.k last = true)) ∧ goL l t last done = l.set i ⟨t, done, if done then [] else last⟩ := by
  unfold goE at h
  cases ha : atL l t with
  | none => rw [ha] at h; simp at h
  | some i =>
    obtain ⟨w, hw, ht, _⟩ := at_get ha
    rw [ha] at h
    simp only [Option.bind_some, hw] at h
    refine ⟨i, w, rfl, hw, ht, ?_⟩
    cases hd : w.d <;> simp [hd] at h
    refine ⟨rfl, ?_, by unfold goL; rw [ha]⟩
    cases done <;> simp at h ⊢
    exact h

theorem set_sorted {l : List Wk} {i : Nat} {w v : Wk} (hs : SortedW l) (hi : l[i]? = some w) (h : v.t = w.t) : SortedW (l.set i v) := by
  unfold SortedW
  rw [List.pairwise_iff_getElem]
  intro a b ha hb hab
  rw [List.length_set] at ha hb
  have g : ∀ j, (hj : j < (l.set i v).length) → ((l.set i v)[j]).t = (l[j]'(by rw [List.length_set] at hj; exact hj)).t := fun j hj => by
    rw [List.getElem_set]
    split
    · rename_i e
      subst e
      obtain ⟨h1, h2⟩ := List.getElem?_eq_some_iff.1 hi
      rw [h2, h]
    · rfl
  rw [g a, g b]
  exact List.pairwise_iff_getElem.1 hs a b ha hb hab

/-- what is covered stays so when a work goes on -/
theorem cov_go {l : List Wk} {t last key : List UInt8} {done : Bool} (hs : SortedW l) (hc : covL l t key = true) (hg : goE l t last done = 0) : covL (goL l t last done) t key = true := by
  obtain ⟨i, w, h1, h2, h3, h4⟩ := cov_true hc
  obtain ⟨j, x, g1, g2, g3, g4, g5, g6⟩ := go_ok hg
  rw [h1] at g1; cases g1
  rw [h2] at g2; cases g2
  have hs' := set_sorted (v := ⟨t, done, if done then [] else last⟩) hs h2 h3.symm
  have hlt := (List.getElem?_eq_some_iff.1 h2).1
  have hm : (⟨t, done, if done then [] else last⟩ : Wk) ∈ l.set i ⟨t, done, if done then [] else last⟩ := List.mem_of_getElem? (i := i) (by rw [List.getElem?_set_self hlt])
  rw [g6]
  have := cov_mem hs' hm key
  simp only at this
  rw [this]
  rcases g5 with rfl | ⟨k1, k2⟩
  · simp [covW]
  · cases done with
    | true => simp [covW]
    | false =>
      unfold covW at h4 ⊢
      rw [g4] at h4
      simp only [Bool.false_or, Bool.and_eq_true, Bool.not_eq_true', decide_eq_false_iff_not, Bool.false_eq_true, if_false] at h4 ⊢
      refine ⟨fun e => ?_, ?_⟩
      · rw [e, isKey_nil] at k1; cases k1
      · cases hb : Op.bytesLess last key with
        | false => rfl
        | true =>
          have := less_trans k2 hb
          rw [h4.2] at this; cases this

theorem cov_ins {l : List Wk} {v : Wk} {t key : List UInt8} (hs : SortedW l) (hn : atL l v.t = none) (hc : covL l t key = true) : covL (insW l v) t key = true := by
  obtain ⟨i, w, h1, h2, h3, h4⟩ := cov_true hc
  have := cov_mem (ins_sorted' hs hn) (mem_ins (w := v) (List.mem_of_getElem? h2)) key
  rw [h3] at this
  rw [this]; exact h4

end Go.Proofs.YtgikkoeckdhgkaaDoorPg

/- Tables in a row: plain laws. -/
namespace Go.Proofs.YtgikkoeckdhgkaaDoorPg
open Go Go.RowKit

structure Tb where
  n : List UInt8
  c : List Col
  k : Int
deriving DecidableEq

def tbC (t : Tb) : List V := [.str t.n, .sl 3 (cols t.c) false, .int .i64 t.k]
def tbA (t : Tb) : V := .agg [.str t.n, .sl 3 (cols t.c) false, .int .i64 t.k]
def tbs (l : List Tb) : List (List V) := l.map tbC

theorem tbs_len (l : List Tb) : (tbs l).length = l.length := by simp [tbs]
theorem tbs_get {l : List Tb} {i : Nat} {t : Tb} (h : l[i]? = some t) : (tbs l)[i]? = some (tbC t) := by simp [tbs, h]
theorem tbs_take (l : List Tb) (n : Nat) : List.take n (tbs l) = tbs (l.take n) := by simp [tbs, List.map_take]
theorem tbs_drop (l : List Tb) (n : Nat) : List.drop n (tbs l) = tbs (l.drop n) := by simp [tbs, List.map_drop]
theorem tbs_app (a b : List Tb) : tbs (a ++ b) = tbs a ++ tbs b := by simp [tbs]
theorem tbs_one (t : Tb) : [tbC t] = tbs [t] := rfl

/-- as works: names alone -/
def nw (t : Tb) : Wk := ⟨t.n, false, []⟩
def nws (l : List Tb) : List Wk := l.map nw

theorem nws_len (l : List Tb) : (nws l).length = l.length := by simp [nws]
theorem nws_get {l : List Tb} {i : Nat} {t : Tb} (h : l[i]? = some t) : (nws l)[i]? = some (nw t) := by simp [nws, h]
theorem nws_inv {l : List Tb} {i : Nat} {w : Wk} (h : (nws l)[i]? = some w) : ∃ t, l[i]? = some t ∧ w = nw t := by
  simp only [nws, List.getElem?_map] at h
  cases hl : l[i]? with
  | none => rw [hl] at h; cases h
  | some t => rw [hl] at h; cases h; exact ⟨t, rfl, rfl⟩

def SortedT (l : List Tb) : Prop := SortedW (nws l)
def atT (l : List Tb) (n : List UInt8) : Option Nat := atL (nws l) n
def posT (l : List Tb) (n : List UInt8) : Nat := posL (nws l) n
def insT (l : List Tb) (t : Tb) : List Tb := l.take (posT l t.n) ++ t :: l.drop (posT l t.n)

theorem posT_le (l : List Tb) (n : List UInt8) : posT l n ≤ l.length := by
  have := pos_le (nws l) n
  rw [nws_len] at this; exact this

theorem ins_nws (l : List Tb) (t : Tb) : nws (insT l t) = insW (nws l) (nw t) := by
  unfold insT insW posT
  have e : (nw t).t = t.n := rfl
  simp [nws, List.map_take, List.map_drop, e]

theorem insT_len (l : List Tb) (t : Tb) : (insT l t).length = l.length + 1 := by
  have := posT_le l t.n
  unfold insT
  simp only [List.length_append, List.length_take, List.length_cons, List.length_drop]; omega

theorem atT_get {l : List Tb} {n : List UInt8} {i : Nat} (h : atT l n = some i) : ∃ t, l[i]? = some t ∧ t.n = n ∧ i < l.length := by
  obtain ⟨w, hw, hn, _⟩ := at_get h
  obtain ⟨t, ht, rfl⟩ := nws_inv hw
  exact ⟨t, ht, hn, (List.getElem?_eq_some_iff.1 ht).1⟩

/-- a table's schema -/
def findT (l : List Tb) (n : List UInt8) : Option (List Col × Int) :=
  match (atT l n).bind fun i => l[i]? with
  | some t => some (t.c, t.k)
  | none => none

theorem find_some {l : List Tb} {n : List UInt8} {i : Nat} {t : Tb} (h : atT l n = some i) (ht : l[i]? = some t) : findT l n = some (t.c, t.k) := by
  unfold findT
  rw [h]
  simp [ht]

theorem find_none {l : List Tb} {n : List UInt8} (h : atT l n = none) : findT l n = none := by
  unfold findT
  rw [h]; rfl

def findR (o : Option (List Col × Int)) : V :=
  match o with
  | some (c, k) => .tup [sch c k, .bool true]
  | none => .tup [sch [] 0, .bool false]

/-- may a table stand there? -/
def stepT (nm : List UInt8 → Bool) (may : List Col → Int → Bool) (l : List Tb) (i : Nat) : Bool := match l[i]? with
  | some t => nm t.n && (may t.c t.k && (decide (i = 0) || (match l[i - 1]? with | some p => Op.bytesLess p.n t.n | none => true)))
  | none => true
def rightT (nm : List UInt8 → Bool) (may : List Col → Int → Bool) (l : List Tb) : Bool := (List.range l.length).all (stepT nm may l) && decide (l.length ≤ 64)

variable {nm : List UInt8 → Bool} {may : List Col → Int → Bool}

theorem rightT_no {l : List Tb} {i : Nat} (hi : i < l.length) (h : stepT nm may l i = false) : rightT nm may l = false := by
  unfold rightT
  cases hr : (List.range l.length).all (stepT nm may l) with
  | false => rfl
  | true =>
    have := List.all_eq_true.1 hr i (List.mem_range.2 hi)
    rw [h] at this; cases this

theorem rightT_yes {l : List Tb} (h : ∀ i, i < l.length → stepT nm may l i = true) : rightT nm may l = decide (l.length ≤ 64) := by
  unfold rightT
  rw [List.all_eq_true.2 fun i hi => h i (List.mem_range.1 hi), Bool.true_and]

structure TbOk (nm : List UInt8 → Bool) (may : List Col → Int → Bool) (t : Tb) : Prop where
  name : nm t.n = true
  sch : may t.c t.k = true

structure TbsOk (nm : List UInt8 → Bool) (may : List Col → Int → Bool) (l : List Tb) : Prop where
  sorted : SortedT l
  each : ∀ t ∈ l, TbOk nm may t

theorem ok_rightT {l : List Tb} (h : TbsOk nm may l) (hl : l.length ≤ 64) : rightT nm may l = true := by
  rw [rightT_yes, decide_eq_true hl]
  intro i hi
  have hg : l[i]? = some l[i] := List.getElem?_eq_getElem hi
  have hm := h.each l[i] (List.getElem_mem hi)
  unfold stepT
  rw [hg]
  simp only [hm.name, hm.sch, Bool.true_and]
  rcases Nat.eq_zero_or_pos i with h0 | h0
  · rw [decide_eq_true h0]; rfl
  · have hp : l[i - 1]? = some l[i - 1] := List.getElem?_eq_getElem (by omega)
    rw [hp]
    simp only
    have := sorted_get h.sorted (show i - 1 < i by omega) (nws_get hp) (nws_get hg)
    rw [show Op.bytesLess l[i - 1].n l[i].n = true from this]
    simp

theorem right_ok {l : List Tb} (h : rightT nm may l = true) : TbsOk nm may l ∧ l.length ≤ 64 := by
  unfold rightT at h
  rw [Bool.and_eq_true, decide_eq_true_eq] at h
  obtain ⟨h1, h2⟩ := h
  have hst : ∀ i, i < l.length → stepT nm may l i = true := fun i hi => List.all_eq_true.1 h1 i (List.mem_range.2 hi)
  have hone : ∀ (i : Nat) (t : Tb), l[i]? = some t → nm t.n = true ∧ may t.c t.k = true ∧ (i = 0 ∨ ∀ p, l[i - 1]? = some p → Op.bytesLess p.n t.n = true) := fun i t ht => by
    have := hst i (List.getElem?_eq_some_iff.1 ht).1
    unfold stepT at this
    rw [ht] at this
    simp only [Bool.and_eq_true, Bool.or_eq_true, decide_eq_true_eq] at this
    refine ⟨this.1, this.2.1, ?_⟩
    rcases this.2.2 with h0 | h0
    · exact .inl h0
    · right
      intro p hp
      rw [hp] at h0; exact h0
  refine ⟨⟨?_, fun t ht => ?_⟩, h2⟩
  · unfold SortedT SortedW
    have key : ∀ (d i : Nat) (x y : Tb), l[i]? = some x → l[i + d + 1]? = some y → Op.bytesLess x.n y.n = true := by
      intro d
      induction d with
      | zero =>
        intro i x y hx hy
        rcases (hone _ y hy).2.2 with h0 | h0
        · omega
        · exact h0 x (by simpa using hx)
      | succ d ih =>
        intro i x y hx hy
        have hlt := (List.getElem?_eq_some_iff.1 hy).1
        have hz : l[i + d + 1]? = some l[i + d + 1] := List.getElem?_eq_getElem (by omega)
        have a := ih i x _ hx hz
        rcases (hone _ y hy).2.2 with h0 | h0
        · omega
        · exact less_trans a (h0 _ (by rw [show i + (d + 1) + 1 - 1 = i + d + 1 by omega]; exact hz))
    rw [List.pairwise_iff_getElem]
    intro i j hi hj hij
    rw [nws_len] at hi hj
    have hx : l[i]? = some l[i] := List.getElem?_eq_getElem hi
    have hy : l[j]? = some l[j] := List.getElem?_eq_getElem hj
    have := key (j - i - 1) i l[i] l[j] hx (by rw [show i + (j - i - 1) + 1 = j by omega]; exact hy)
    simpa [nws, nw] using this
  · obtain ⟨i, hi⟩ := List.getElem?_of_mem ht
    exact ⟨(hone i t hi).1, (hone i t hi).2.1⟩

theorem insT_ok {l : List Tb} {t : Tb} (h : TbsOk nm may l) (ht : TbOk nm may t) (hn : atT l t.n = none) : TbsOk nm may (insT l t) := by
  refine ⟨?_, fun x hx => ?_⟩
  · unfold SortedT
    rw [ins_nws]
    exact ins_sorted' h.sorted hn
  · unfold insT at hx
    rcases List.mem_append.1 hx with h1 | h1
    · exact h.each x (List.mem_of_mem_take h1)
    · rcases List.mem_cons.1 h1 with rfl | h1
      · exact ht
      · exact h.each x (List.mem_of_mem_drop h1)

end Go.Proofs.YtgikkoeckdhgkaaDoorPg

/- A contract whose arguments become immutable, or whose objects are let go, ahead of the call. -/
namespace Go.Proofs.YtgikkoeckdhgkaaDoorPg
open Go Go.RowKit
set_option linter.unusedSectionVars false
variable [Globs]
set_option linter.unusedVariables false
set_option linter.unusedSimpArgs false

theorem frzL_get {id : Nat} {o : O} : ∀ {l : List V} {i : Nat} {v : V}, (frzL id o l)[i]? = some v → ∃ x, l[i]? = some x ∧ v = frzV id o x
  | [], i, v, h => by simp [frzL] at h
  | x :: l, 0, v, h => by simp [frzL] at h; exact ⟨x, rfl, h.symm⟩
  | x :: l, i + 1, v, h => by
    simp only [frzL, List.getElem?_cons_succ] at h
    obtain ⟨y, h1, h2⟩ := frzL_get h
    exact ⟨y, by simpa using h1, h2⟩

theorem frzL_len {id : Nat} {o : O} : ∀ (l : List V), (frzL id o l).length = l.length
  | [] => rfl
  | x :: l => by simp [frzL, frzL_len l]

theorem ACall.frzIn {P : Program} {f : FuncId} {k : Nat} {args : List V} {H : List O} {Q : V → List O → Prop} (id : Nat) (hok : frzOk (getO H id) = true) (hfit : frzFit id (getO H id) args [] H)
    (h : ACall P f k (frzL id (getO H id) args) (frzH id (getO H id) 0 H) Q) : ACall P f k args H Q := by
  refine ⟨fun I ρ w us hst hk ha => ?_⟩
  have hne : getO H id ≠ .dead := fun e => by rw [e] at hok; cases hok
  have ho := getO_some (H := H) (id := id) rfl hne
  have hlt : id < ρ.length := by rw [hst.len]; exact (List.getElem?_eq_some_iff.1 ho).1
  obtain ⟨I2, g1, g2, g3⟩ := frz_st hst (List.getElem?_eq_getElem hlt) ho hok (frzFit_h hfit) k
  refine (h.out I2 ρ w us g1 (by rw [frzH_len]; exact hk) ⟨by rw [frzL_len]; exact ha.1, fun i a u hi hu => ?_⟩).mono ?_
  · obtain ⟨x, hx, rfl⟩ := frzL_get hi
    exact g3 _ _ (frzFit_v hfit (List.mem_of_getElem? hx)) (ha.2 i x u hx hu)
  · rintro en w' ⟨v, r, I', ρ', H', h1, h2, h3, h4, h5⟩
    exact ⟨v, r, I', ρ', H', h1, h2, h3, g2.trans h4, h5⟩

theorem ACall.selIn {P : Program} {f : FuncId} {args : List V} {H : List O} {Q : V → List O → Prop} (sel : List Nat) (hsel : selOk sel H.length 0 = true)
    (h : ACall P f 0 (args.map (renV (idx sel))) (gather (idx sel) H sel) Q) : ACall P f 0 args H Q := by
  refine ⟨fun I ρ w us hst hk ha => ?_⟩
  obtain ⟨g1, g2, g3⟩ := sel_step hst hsel (Step.refl 0 I ρ H w)
  refine (h.out I _ w us g1 (Nat.zero_le _) ⟨by rw [List.length_map]; exact ha.1, fun i a u hi hu => ?_⟩).mono ?_
  · rw [List.getElem?_map] at hi
    cases hx : args[i]? with
    | none => rw [hx] at hi; cases hi
    | some x =>
      rw [hx] at hi; cases hi
      exact (ha.2 i x u hx hu).ren g2
  · rintro en w' ⟨v, r, I', ρ', H', h1, h2, h3, h4, h5⟩
    exact ⟨v, r, I', ρ', H', h1, h2, h3, g3.trans h4, h5⟩

theorem frzV_pure {id : Nat} {o : O} {v : V} (h : pureV v = true) : frzV id o v = v := by
  cases v with
  | fn g a b => cases a with
    | nil => cases b with
      | nil => rfl
      | cons x y => simp [pureV] at h
    | cons x y => simp [pureV] at h
  | _ => first | rfl | simp [pureV] at h

theorem renV_pure {f : Nat → Option Nat} {v : V} (h : pureV v = true) : renV f v = v := by
  cases v with
  | fn g a b => cases a with
    | nil => cases b with
      | nil => rfl
      | cons x y => simp [pureV] at h
    | cons x y => simp [pureV] at h
  | _ => first | rfl | simp [pureV] at h

theorem frzL_pure {id : Nat} {o : O} : ∀ {l : List V}, l.all pureV = true → frzL id o l = l
  | [], _ => rfl
  | v :: l, h => by
    simp only [List.all_cons, Bool.and_eq_true] at h
    simp only [frzL, frzV_pure h.1, frzL_pure h.2]

theorem map_pure {f : Nat → Option Nat} : ∀ {l : List V}, l.all pureV = true → l.map (renV f) = l
  | [], _ => rfl
  | v :: l, h => by
    simp only [List.all_cons, Bool.and_eq_true] at h
    simp only [List.map_cons, renV_pure h.1, map_pure h.2]

theorem msV_pure {id : Nat} {v : V} (h : pureV v = true) : msV id v = [] := by
  cases v with
  | fn g a b => cases a with
    | nil => cases b with
      | nil => rfl
      | cons x y => simp [pureV] at h
    | cons x y => simp [pureV] at h
  | _ => first | rfl | simp [pureV] at h

theorem msL_pure {id : Nat} : ∀ {l : List V}, l.all pureV = true → msL id l = []
  | [], _ => rfl
  | v :: l, h => by
    simp only [List.all_cons, Bool.and_eq_true] at h
    simp only [msL, msV_pure h.1, msL_pure h.2, List.nil_append]

/-- A buffer that is handed over becomes immutable; an empty place is left. -/
theorem ACall.eat {P : Program} {f : FuncId} {z : Nat} {es : List (List V)} {full : Bool} {as : List V} {len : Nat} {Q : V → List O → Prop} (hlen : len = es.length) (hp : as.all pureV = true)
    (h : ACall P f 0 (.sl z es full :: as) [] fun r H' => Q (renV (outH 0 1) r) (weave 0 H' [.dead])) : ACall P f 1 (.ms z 0 0 len full :: as) [.buf es] Q := by
  subst hlen
  refine ACall.stay 1 rfl (ACall.frzIn 0 rfl ?_ (ACall.selIn [] rfl ?_))
  · show msLe es.length (msL 0 (.ms z 0 0 es.length full :: as) ++ ([] ++ ([] ++ [])))
    simp only [msL, msV, Nat.beq_refl, msL_pure hp, List.append_nil, msLe]
    exact ⟨by omega, trivial⟩
  · have e : (frzL 0 (getO [O.buf es] 0) (.ms z 0 0 es.length full :: as)).map (renV (idx [])) = .sl z es full :: as := by
      show (frzV 0 (.buf es) (.ms z 0 0 es.length full) :: frzL 0 (.buf es) as).map (renV (idx [])) = _
      rw [frz_ms_eq, frzL_pure hp, List.map_cons, map_pure hp]; rfl
    rw [e]; exact h

end Go.Proofs.YtgikkoeckdhgkaaDoorPg

/- Appending, as lemmas. -/
namespace Go.Proofs.YtgikkoeckdhgkaaDoorPg
open Go Go.RowKit
set_option linter.unusedSectionVars false
variable [Globs]

theorem app_gen {z b i n : Nat} {x : V} {X ys : List (List V)} {H : List O} {K : V → List O → Prop} (hx : sameBuf (.ms z i 0 n false) x = false) (hX : getO H i = .buf X) (hn : n = X.length) (hs : (X.length + ys.length) * b ≤ 70368744177664)
    (hK : copyH (setO H i .dead ++ [.buf (X ++ ys)]) fun H' => K (.ms z (setO H i .dead).length 0 (X.length + ys.length) false) H') : aapp z b (.ms z i 0 n false) x ys H K := by
  subst hn
  unfold aapp
  simp only [hx]
  unfold aappend
  simp only [Nat.beq_refl, hX, List.drop_zero]
  refine ⟨rfl, ?_⟩
  unfold newBuf
  rw [List.length_append]
  exact ⟨hs, hK⟩

theorem app_nil {z b : Nat} {x : V} {ys : List (List V)} {H : List O} {K : V → List O → Prop} (hs : ys.length * b ≤ 70368744177664)
    (hK : copyH (H ++ [.buf ys]) fun H' => K (.ms z H.length 0 ys.length false) H') : aapp z b .nils x ys H K := ⟨hs, hK⟩

/-- .. where the append is laid open already -/
theorem app_gen2 {z b n : Nat} {X ys : List (List V)} {H : List O} {K : V → List O → Prop} (hn : n = X.length) (hs : (X.length + ys.length) * b ≤ 70368744177664)
    (hK : copyH (H ++ [.buf (X ++ ys)]) fun H' => K (.ms z H.length 0 (X.length + ys.length) false) H') : n + 0 = X.length ∧ newBuf z b (List.drop 0 X ++ ys) H K := by
  subst hn
  refine ⟨rfl, ?_⟩
  rw [List.drop_zero]
  unfold newBuf
  rw [List.length_append]
  exact ⟨hs, hK⟩

end Go.Proofs.YtgikkoeckdhgkaaDoorPg

/- Events: plain. -/
namespace Go.Proofs.YtgikkoeckdhgkaaDoorPg
open Go Go.RowKit

/-- a change of tables -/
structure Chg where
  k : Int
  t : List UInt8
  c : List Col
  ks : Int
  col : Col
deriving DecidableEq

def col0 : Col := ⟨[], 0, false⟩
def chg0 : Chg := ⟨0, [], [], 0, col0⟩
def chC (c : Chg) : List V := [.int .i64 c.k, .str c.t, .sl 3 (cols c.c) false, .int .i64 c.ks, .str c.col.n, .int .i64 c.col.k, .bool c.col.o]
def chA (c : Chg) : V := .agg [.int .i64 c.k, .str c.t, .sl 3 (cols c.c) false, .int .i64 c.ks, .str c.col.n, .int .i64 c.col.k, .bool c.col.o]

/-- an event -/
structure Evt where
  k : Int
  n : Int
  t : List UInt8
  b : List Val
  a : List Val
  ch : Chg
deriving DecidableEq

def evC (e : Evt) : List V := [.int .i64 e.k, .int .i64 e.n, .str e.t, .sl 3 (vals e.b) false, .sl 3 (vals e.a) false, .int .i64 e.ch.k, .str e.ch.t, .sl 3 (cols e.ch.c) false, .int .i64 e.ch.ks, .str e.ch.col.n, .int .i64 e.ch.col.k, .bool e.ch.col.o]
def evA (e : Evt) : V := .agg [.int .i64 e.k, .int .i64 e.n, .str e.t, .sl 3 (vals e.b) false, .sl 3 (vals e.a) false, .int .i64 e.ch.k, .str e.ch.t, .sl 3 (cols e.ch.c) false, .int .i64 e.ch.ks, .str e.ch.col.n, .int .i64 e.ch.col.k, .bool e.ch.col.o]

theorem chg_eq (a b : Chg) : (decide (a.k = b.k) && (decide (a.t = b.t) && (decide (a.col = b.col) && (decide (a.ks = b.ks) && decide (a.c = b.c))))) = decide (a = b) := by
  cases a; cases b
  simp only [Chg.mk.injEq, ← Bool.decide_and]
  congr 1
  apply propext
  constructor
  · rintro ⟨h1, h2, h3, h4, h5⟩; exact ⟨h1, h2, h5, h4, h3⟩
  · rintro ⟨h1, h2, h5, h4, h3⟩; exact ⟨h1, h2, h3, h4, h5⟩

theorem evt_eq (a b : Evt) : (decide (a.k = b.k) && (decide (a.n = b.n) && (decide (a.t = b.t) && (decide (a.b = b.b) && (decide (a.a = b.a) && decide (a.ch = b.ch)))))) = decide (a = b) := by
  cases a; cases b
  simp only [Evt.mk.injEq, ← Bool.decide_and]

/-- a column of changes cut short -/
def cutCh (c : Chg) : Chg := { c with t := c.t.take 40, c := cutL c.c, col := { c.col with n := c.col.n.take 40 } }

end Go.Proofs.YtgikkoeckdhgkaaDoorPg

/- A window: what is done to one. -/
namespace Go.Proofs.YtgikkoeckdhgkaaDoorPg
open Go Go.RowKit

structure WS where
  size : Int
  is : Bool
  num : Int
  t : Tb
  after : List UInt8
  fin : List UInt8
  last : Bool
  sp : Bool
  rows : List Rw

def tb0 : Tb := ⟨[], [], 0⟩
def shutW (size : Int) : WS := ⟨size, false, 0, tb0, [], [], false, false, []⟩

/-- The document's window, as a value. -/
def wsV (w : WS) : V := .agg [.int .i64 w.size, .bool w.is, .int .i64 w.num, .str w.t.n, .sl 3 (cols w.t.c) false, .int .i64 w.t.k, .str w.after, .str w.fin, .bool w.last, .bool w.sp, .sl 1 (rws w.rows) false]

def kyT (t : Tb) (r : Rw) : List UInt8 := kyR t.c t.k.toNat r
def kvT (t : Tb) (l : List Rw) : KR := kvR t.c t.k.toNat l

/-- may rows stand behind a key, one behind the other; the last one's key -/
def riseN (t : Tb) (after : List UInt8) : List Rw → Option (List UInt8)
  | [] => some after
  | r :: l => if fitsL t.c r && Op.bytesLess after (kyT t r) then riseN t (kyT t r) l else none

def openOk (nm : List UInt8 → Bool) (my : List Col → Int → Bool) (size num : Int) (t : Tb) (rows : List Rw) : Bool :=
  !decide (num < 0) && (nm t.n && (my t.c t.k && !decide (size < (rows.length : Int))))

def openS (nm : List UInt8 → Bool) (my : List Col → Int → Bool) (w : WS) (num : Int) (t : Tb) (after : List UInt8) (rows : List Rw) : WS × Int :=
  if w.is then (w, 14)
  else if openOk nm my w.size num t rows then
    match riseN t after rows with
    | some fin => (⟨w.size, true, num, t, after, fin, decide ((rows.length : Int) < w.size), false, rows⟩, 0)
    | none => (w, 1)
  else (w, 1)

/-- is a key in it -/
def inW (w : WS) (k : List UInt8) : Bool := Op.bytesLess w.after k && (w.last || !Op.bytesLess w.fin k)

def spoilW (w : WS) : WS := { w with sp := true, rows := [] }

def takeFit (w : WS) (e : Evt) : Bool := if e.k = 5 then keyOkL w.t.c w.t.k.toNat e.b && decide ((e.b.length : Int) = w.t.k) else fitsL w.t.c e.a

def takeS (w : WS) (e : Evt) : WS × Int :=
  if w.is = false ∨ w.sp = true then (w, 0)
  else if e.k = 6 ∧ e.ch.t = w.t.n then (spoilW w, 0)
  else if e.k < 3 ∨ 5 < e.k ∨ e.t ≠ w.t.n then (w, 0)
  else if takeFit w e = false then (w, 9)
  else if e.k = 5 then
    (if inW w (kyT w.t e.b) then { w with rows := cutR w.t.c w.t.k.toNat w.rows (kyT w.t e.b) } else w, 0)
  else if inW w (kyT w.t e.a) = false then (w, 0)
  else if w.size < ((putR w.t.c w.t.k.toNat w.rows e.a).length : Int) then (spoilW w, 0)
  else ({ w with rows := putR w.t.c w.t.k.toNat w.rows e.a }, 0)

/-- rows made of any, the first so many -/
def rowsN (t : Tb) (most : Int) (l : List Rw) : List Rw := (l.take most.toNat).foldl (fun acc r => putR t.c t.k.toNat acc (rowL t.c r)) []

/-- What an open window's tree must be. -/
structure WOk (w : WS) (t : Tr Rw) (n : Int) (m : Nat) : Prop where
  ok : TOk t n m
  eq : inL t = kvT w.t w.rows
  may : 1 ≤ w.t.k ∧ w.t.k ≤ w.t.c.length ∧ w.t.c.length ≤ 16

end Go.Proofs.YtgikkoeckdhgkaaDoorPg

/- Rows by their keys: what stands at a key; changes that are taken twice. -/
namespace Go.Proofs.YtgikkoeckdhgkaaDoorPg
open Go Go.RowKit

def look (k : List UInt8) : KR → Option Rw
  | [] => none
  | x :: l => if x.1 = k then some x.2 else look k l

theorem look_ins (k key : List UInt8) (r : Rw) : ∀ l : KR, look k (insL key r l) = if k = key then some r else look k l
  | [] => by
    simp only [insL, look]
    by_cases h : k = key
    · simp [h]
    · have : ¬ key = k := fun e => h e.symm
      simp [h, this]
  | (a, s) :: l => by
    simp only [insL]
    by_cases h1 : Op.bytesLess key a = true
    · rw [if_pos h1]
      simp only [look]
      by_cases h : k = key
      · simp [h]
      · have : ¬ key = k := fun e => h e.symm
        simp [h, this]
    · rw [if_neg h1]
      by_cases h2 : Op.bytesLess a key = true
      · rw [if_pos h2]
        simp only [look]
        rw [look_ins k key r l]
        by_cases h : a = k
        · subst h
          rw [if_pos rfl, if_neg (less_ne h2)]
          simp
        · rw [if_neg h, if_neg h]
      · rw [if_neg h2]
        have e : key = a := less_total (by simpa using h1) (by simpa using h2)
        subst e
        simp only [look]
        by_cases h : k = key
        · simp [h]
        · have : ¬ key = k := fun e => h e.symm
          simp [h, this]

theorem look_filter (P : List UInt8 → Bool) (k : List UInt8) : ∀ l : KR, look k (l.filter fun x => P x.1) = if P k then look k l else none
  | [] => by simp [look]
  | (a, s) :: l => by
    rw [List.filter_cons]
    have ih := look_filter P k l
    by_cases h : P a = true
    · simp only [h, if_true, look]
      by_cases e : a = k
      · subst e; simp [h]
      · rw [if_neg e, if_neg e, ih]
    · simp only [h, Bool.false_eq_true, if_false, look]
      rw [ih]
      by_cases e : a = k
      · subst e; simp [h]
      · rw [if_neg e]

theorem look_del (k key : List UInt8) (l : KR) : look k (delL key l) = if k = key then none else look k l := by
  unfold delL
  rw [look_filter (fun x => !decide (x = key)) k l]
  by_cases h : k = key
  · simp [h]
  · simp [h]

theorem look_none {k : List UInt8} : ∀ {l : KR}, (∀ x ∈ l, x.1 ≠ k) → look k l = none
  | [], _ => rfl
  | (a, s) :: l, h => by
    simp only [look]
    rw [if_neg (h (a, s) (by simp)), look_none fun x hx => h x (by simp [hx])]

theorem look_mem {k : List UInt8} {r : Rw} : ∀ {l : KR}, look k l = some r → (k, r) ∈ l
  | [], h => by simp [look] at h
  | (a, s) :: l, h => by
    simp only [look] at h
    by_cases e : a = k
    · rw [if_pos e] at h
      cases h; subst e; simp
    · rw [if_neg e] at h
      exact List.mem_cons_of_mem _ (look_mem h)

theorem sorted_tail {a : List UInt8} {s : Rw} {l : KR} (h : SortedL ((a, s) :: l)) : SortedL l ∧ ∀ x ∈ l, Op.bytesLess a x.1 = true := by
  unfold SortedL at *
  rw [List.pairwise_cons] at h
  exact ⟨h.2, fun x hx => h.1 x hx⟩

theorem look_ext : ∀ {a b : KR}, SortedL a → SortedL b → (∀ k, look k a = look k b) → a = b
  | [], [], _, _, _ => rfl
  | [], (y, s) :: b, _, _, h => by have := h y; simp [look] at this
  | (x, r) :: a, [], _, _, h => by have := h x; simp [look] at this
  | (x, r) :: a, (y, s) :: b, ha, hb, h => by
    obtain ⟨ha1, ha2⟩ := sorted_tail ha
    obtain ⟨hb1, hb2⟩ := sorted_tail hb
    have hx := h x
    have hy := h y
    simp only [look, if_true] at hx hy
    by_cases e : x = y
    · subst e
      simp only [if_true, Option.some.injEq] at hx
      subst hx
      congr 1
      refine look_ext ha1 hb1 fun k => ?_
      by_cases ek : k = x
      · subst ek
        rw [look_none fun z hz e => less_ne (ha2 z hz) e.symm, look_none fun z hz e => less_ne (hb2 z hz) e.symm]
      · have := h k
        have hk : ¬ x = k := fun e => ek e.symm
        simp only [look, if_neg hk] at this
        exact this
    · exfalso
      have e' : ¬ y = x := fun h => e h.symm
      rw [if_neg e'] at hx
      rw [if_neg e] at hy
      have m1 := look_mem hx.symm
      have m2 := look_mem hy
      have l1 := hb2 _ m1
      have l2 := ha2 _ m2
      simp only at l1 l2
      rw [less_asymm l1] at l2
      cases l2

theorem kvR_inj {C : List Col} {K : Nat} {a b : List Rw} (h : kvR C K a = kvR C K b) : a = b := by
  have := congrArg (List.map Prod.snd) h
  unfold kvR at this
  rw [List.map_map, List.map_map] at this
  simpa [Function.comp_def] using this

theorem kvR_filter (C : List Col) (K : Nat) (P : List UInt8 → Bool) (l : List Rw) : kvR C K (l.filter fun r => P (kyR C K r)) = (kvR C K l).filter fun x => P x.1 := by
  unfold kvR
  rw [List.filter_map]
  rfl

/-! ### events, at a key -/
def stepK (C : List Col) (K : Nat) (k : List UInt8) (o : Option Rw) (e : Evt) : Option Rw :=
  if e.k = 5 then (if k = kyR C K e.b then none else o) else (if k = kyR C K e.a then some e.a else o)
def foldK (C : List Col) (K : Nat) (k : List UInt8) (es : List Evt) (o : Option Rw) : Option Rw := es.foldl (stepK C K k) o
def turnE (C : List Col) (K : Nat) (l : List Rw) (e : Evt) : List Rw := if e.k = 5 then cutR C K l (kyR C K e.b) else putR C K l e.a

theorem look_turn {C : List Col} {K : Nat} {l : List Rw} (hs : SortedL (kvR C K l)) (k : List UInt8) (e : Evt) : look k (kvR C K (turnE C K l e)) = stepK C K k (look k (kvR C K l)) e := by
  unfold turnE stepK
  split
  · rw [← kv_cut _ hs, look_del]
  · rw [← kv_put, look_ins]

theorem turn_sorted {C : List Col} {K : Nat} {l : List Rw} (hs : SortedL (kvR C K l)) (e : Evt) : SortedL (kvR C K (turnE C K l e)) := by
  unfold turnE
  split
  · exact cut_sorted _ hs
  · exact put_sorted _ hs

theorem turns_sorted {C : List Col} {K : Nat} : ∀ (es : List Evt) {l : List Rw}, SortedL (kvR C K l) → SortedL (kvR C K (es.foldl (turnE C K) l))
  | [], _, h => h
  | e :: es, _, h => turns_sorted es (turn_sorted h e)

theorem look_turns {C : List Col} {K : Nat} (k : List UInt8) : ∀ (es : List Evt) {l : List Rw}, SortedL (kvR C K l) → look k (kvR C K (es.foldl (turnE C K) l)) = foldK C K k es (look k (kvR C K l))
  | [], _, _ => rfl
  | e :: es, l, h => by
    rw [List.foldl_cons, look_turns k es (turn_sorted h e), look_turn h]
    rfl

theorem step_kind (C : List Col) (K : Nat) (k : List UInt8) (e : Evt) : (∀ o, stepK C K k o e = o) ∨ ∃ c, ∀ o, stepK C K k o e = c := by
  unfold stepK
  split
  · by_cases h : k = kyR C K e.b
    · exact .inr ⟨none, fun o => if_pos h⟩
    · exact .inl fun o => if_neg h
  · by_cases h : k = kyR C K e.a
    · exact .inr ⟨some e.a, fun o => if_pos h⟩
    · exact .inl fun o => if_neg h

theorem fold_kind (C : List Col) (K : Nat) (k : List UInt8) : ∀ es : List Evt, (∀ o, foldK C K k es o = o) ∨ ∃ c, ∀ o, foldK C K k es o = c
  | [] => .inl fun _ => rfl
  | e :: es => by
    have ht : ∀ o, foldK C K k (e :: es) o = foldK C K k es (stepK C K k o e) := fun o => rfl
    rcases fold_kind C K k es with h | ⟨c, h⟩
    · rcases step_kind C K k e with g | ⟨c, g⟩
      · exact .inl fun o => by rw [ht, h, g]
      · exact .inr ⟨c, fun o => by rw [ht, h, g]⟩
    · exact .inr ⟨c, fun o => by rw [ht, h]⟩

theorem fold_idem (C : List Col) (K : Nat) (k : List UInt8) (es : List Evt) (o : Option Rw) : foldK C K k es (foldK C K k es o) = foldK C K k es o := by
  rcases fold_kind C K k es with h | ⟨c, h⟩ <;> simp [h]

theorem fold_app (C : List Col) (K : Nat) (k : List UInt8) (a b : List Evt) (o : Option Rw) : foldK C K k (a ++ b) o = foldK C K k b (foldK C K k a o) := by simp [foldK]

end Go.Proofs.YtgikkoeckdhgkaaDoorPg

/- A window that takes an event: what stands at a key then. -/
namespace Go.Proofs.YtgikkoeckdhgkaaDoorPg
open Go Go.RowKit

theorem cut_inL {α : Type} {t : Tr α} (hs : SortedL (inL t)) (key : List UInt8) : inL (if (fndT key t).isNil then t else cutT key t) = delL key (inL t) := by
  rw [find_has key t hs]
  cases hc : hasL key (inL t) with
  | true =>
    simp only [Bool.not_true, Bool.false_eq_true, if_false]
    exact inL_cut t key hs
  | false =>
    simp only [Bool.not_false, if_true]
    refine (delL_none fun x hx e => ?_).symm
    have : hasL key (inL t) = true := by simp only [hasL, List.any_eq_true]; exact ⟨x, hx, by simp [e]⟩
    rw [this] at hc; cases hc

/-- What is true of a window, as the document has it. -/
structure WGood (w : WS) : Prop where
  pos : 1 ≤ w.size
  may : w.is = true → 1 ≤ w.t.k ∧ w.t.k ≤ w.t.c.length ∧ w.t.c.length ≤ 16
  srt : SortedL (kvT w.t w.rows)
  inn : ∀ r ∈ w.rows, Op.bytesLess w.after (kyT w.t r) = true
  few : (w.rows.length : Int) ≤ w.size
  txt : ∀ r ∈ w.rows, r.length ≤ 1000
  shut : w.is = false → w = shutW w.size
  spo : w.sp = true → w.rows = []
  fit : ∀ r ∈ w.rows, fitsL w.t.c r = true

theorem WGood.shutOk {n : Int} (h : 1 ≤ n) : WGood (shutW n) :=
  ⟨h, fun e => absurd e (by simp [shutW]), by simp [shutW, kvT, kvR, SortedL], fun r hr => absurd hr List.not_mem_nil, (by simp [shutW]; omega), fun r hr => absurd hr List.not_mem_nil, fun _ => rfl, fun _ => rfl, fun r hr => absurd hr List.not_mem_nil⟩

theorem spoil_good {w : WS} (h : WGood w) (hi : w.is = true) : WGood (spoilW w) :=
  ⟨h.pos, fun _ => h.may hi, by simp [spoilW, kvT, kvR, SortedL], fun r hr => absurd hr List.not_mem_nil, (by have := h.pos; simp [spoilW]; omega), fun r hr => absurd hr List.not_mem_nil, fun e => absurd e (by rw [show (spoilW w).is = w.is from rfl, hi]; simp), fun _ => rfl, fun r hr => absurd hr List.not_mem_nil⟩

theorem fits_len {l : List Col} {vs : List Val} (h : fitsL l vs = true) : vs.length = l.length := by
  unfold fitsL at h
  rw [Bool.and_eq_true, decide_eq_true_eq] at h
  exact h.1

theorem inW_after {w : WS} {k : List UInt8} (h : inW w k = true) : Op.bytesLess w.after k = true := by
  unfold inW at h
  rw [Bool.and_eq_true] at h
  exact h.1

theorem take_good {w : WS} (h : WGood w) (e : Evt) : WGood (takeS w e).1 := by
  unfold takeS
  split
  · exact h
  rename_i h1
  have hi : w.is = true := by
    cases hx : w.is with
    | true => rfl
    | false => exact absurd (.inl hx) h1
  have hsp : w.sp = false := by
    cases hx : w.sp with
    | false => rfl
    | true => exact absurd (.inr hx) h1
  split
  · exact spoil_good h hi
  split
  · exact h
  split
  · exact h
  rename_i hf
  have hm := h.may hi
  split
  · split
    · refine ⟨h.pos, h.may, cut_sorted _ h.srt, fun r hr => h.inn r (cut_mem hr), ?_, fun r hr => h.txt r (cut_mem hr), fun e => absurd e (by show ¬ w.is = false; rw [hi]; simp), fun e => absurd e (by show ¬ w.sp = true; rw [hsp]; simp), fun r hr => h.fit r (cut_mem hr)⟩
      have := cut_len w.t.c w.t.k.toNat w.rows (kyT w.t e.b)
      have := h.few
      show ((cutR w.t.c w.t.k.toNat w.rows (kyT w.t e.b)).length : Int) ≤ w.size
      omega
    · exact h
  rename_i h5
  split
  · exact h
  rename_i hin
  split
  · exact spoil_good h hi
  · rename_i hsz
    have hfit : fitsL w.t.c e.a = true := by
      unfold takeFit at hf
      rw [if_neg h5] at hf
      simpa using hf
    refine ⟨h.pos, h.may, put_sorted _ h.srt, fun r hr => ?_, by show ((putR w.t.c w.t.k.toNat w.rows e.a).length : Int) ≤ w.size; omega, fun r hr => ?_, fun e => absurd e (by show ¬ w.is = false; rw [hi]; simp), fun e => absurd e (by show ¬ w.sp = true; rw [hsp]; simp), fun r hr => by rcases put_mem hr with rfl | hr; exact hfit; exact h.fit r hr⟩
    · rcases put_mem hr with rfl | hr
      · have hin' : inW w (kyT w.t e.a) = true := by simpa using hin
        exact inW_after hin'
      · exact h.inn r hr
    · rcases put_mem hr with rfl | hr
      · have := fits_len hfit; omega
      · exact h.txt r hr

theorem take_same (w : WS) (e : Evt) : (takeS w e).1.is = w.is ∧ (takeS w e).1.t = w.t ∧ (takeS w e).1.size = w.size := by
  unfold takeS
  split
  · exact ⟨rfl, rfl, rfl⟩
  split
  · exact ⟨rfl, rfl, rfl⟩
  split
  · exact ⟨rfl, rfl, rfl⟩
  split
  · exact ⟨rfl, rfl, rfl⟩
  split
  · split <;> exact ⟨rfl, rfl, rfl⟩
  split
  · exact ⟨rfl, rfl, rfl⟩
  split <;> exact ⟨rfl, rfl, rfl⟩

/-- what an event does at each key -/
theorem take_look {w : WS} {e : Evt} (hi : w.is = true) (hs : w.sp = false) (h3 : 3 ≤ e.k) (h5 : e.k ≤ 5) (ht : e.t = w.t.n) (hf : takeFit w e = true) (hso : SortedL (kvT w.t w.rows))
    (hl : ∀ k, inW w k = false → look k (kvT w.t w.rows) = none) :
    (takeS w e).2 = 0 ∧ ((takeS w e).1 = spoilW w ∨ ∃ rows', (takeS w e).1 = { w with rows := rows' } ∧ SortedL (kvT w.t rows') ∧
      ∀ k, look k (kvT w.t rows') = if inW w k then stepK w.t.c w.t.k.toNat k (look k (kvT w.t w.rows)) e else none) := by
  unfold takeS
  rw [if_neg (by rw [hi, hs]; simp), if_neg (fun hh => by have := hh.1; omega), if_neg (fun hh => by rcases hh with hh | hh | hh; omega; omega; exact hh ht), if_neg (by rw [hf]; simp)]
  have same : ∀ key, inW w key = false → (∀ k, k ≠ key → stepK w.t.c w.t.k.toNat k (look k (kvT w.t w.rows)) e = look k (kvT w.t w.rows)) →
      ∀ k, look k (kvT w.t w.rows) = if inW w k then stepK w.t.c w.t.k.toNat k (look k (kvT w.t w.rows)) e else none := fun key hk hne k => by
    cases hw : inW w k with
    | false => rw [hl k hw]; simp
    | true =>
      rw [if_pos rfl, hne k]
      intro e; subst e; rw [hk] at hw; cases hw
  have step : ∀ rows', SortedL (kvT w.t rows') → (∀ k, look k (kvT w.t rows') = stepK w.t.c w.t.k.toNat k (look k (kvT w.t w.rows)) e) → (∀ k, inW w k = false → stepK w.t.c w.t.k.toNat k (look k (kvT w.t w.rows)) e = look k (kvT w.t w.rows)) →
      ∀ k, look k (kvT w.t rows') = if inW w k then stepK w.t.c w.t.k.toNat k (look k (kvT w.t w.rows)) e else none := fun rows' _ he hn k => by
    cases hw : inW w k with
    | true => rw [if_pos rfl]; exact he k
    | false => rw [he k, hn k hw, hl k hw]; simp
  by_cases hk : e.k = 5
  · rw [if_pos hk]
    refine ⟨rfl, .inr ?_⟩
    have hst : ∀ k, k ≠ kyT w.t e.b → stepK w.t.c w.t.k.toNat k (look k (kvT w.t w.rows)) e = look k (kvT w.t w.rows) := fun k hne => by
      unfold stepK; rw [if_pos hk]; exact if_neg hne
    cases hin : inW w (kyT w.t e.b) with
    | true =>
      refine ⟨_, rfl, cut_sorted _ hso, ?_⟩
      refine step _ (cut_sorted _ hso) (fun k => ?_) (fun k hw => hst k fun e => by subst e; rw [hin] at hw; cases hw)
      show look k (kvR w.t.c w.t.k.toNat (cutR w.t.c w.t.k.toNat w.rows (kyT w.t e.b))) = _
      rw [← kv_cut _ hso, look_del]
      unfold stepK
      rw [if_pos hk]; rfl
    | false =>
      exact ⟨w.rows, rfl, hso, same _ hin hst⟩
  · rw [if_neg hk]
    have hst : ∀ k, k ≠ kyT w.t e.a → stepK w.t.c w.t.k.toNat k (look k (kvT w.t w.rows)) e = look k (kvT w.t w.rows) := fun k hne => by
      unfold stepK; rw [if_neg hk]; exact if_neg hne
    cases hin : inW w (kyT w.t e.a) with
    | false =>
      rw [if_pos rfl]
      exact ⟨rfl, .inr ⟨w.rows, rfl, hso, same _ hin hst⟩⟩
    | true =>
      rw [if_neg (by simp)]
      split
      · exact ⟨rfl, .inl rfl⟩
      · refine ⟨rfl, .inr ⟨_, rfl, put_sorted _ hso, ?_⟩⟩
        refine step _ (put_sorted _ hso) (fun k => ?_) (fun k hw => hst k fun e => by subst e; rw [hin] at hw; cases hw)
        show look k (kvR w.t.c w.t.k.toNat (putR w.t.c w.t.k.toNat w.rows e.a)) = _
        rw [← kv_put, look_ins]
        unfold stepK
        rw [if_neg hk]; rfl

/-! ### what is opened -/
theorem rise_rows {t : Tb} : ∀ {rows : List Rw} {after fin : List UInt8}, riseN t after rows = some fin →
    SortedL (kvT t rows) ∧ (∀ r ∈ rows, Op.bytesLess after (kyT t r) = true ∧ fitsL t.c r = true ∧ Op.bytesLess fin (kyT t r) = false) ∧ (rows = [] → fin = after) ∧ Op.bytesLess fin after = false
  | [], after, fin, h => by
    simp only [riseN, Option.some.injEq] at h
    subst h
    exact ⟨by simp [kvT, kvR, SortedL], by simp, fun _ => rfl, less_irrefl _⟩
  | r :: l, after, fin, h => by
    simp only [riseN] at h
    split at h
    · rename_i hc
      rw [Bool.and_eq_true] at hc
      obtain ⟨h1, h2, h3, h4⟩ := rise_rows h
      have hfa : Op.bytesLess fin after = false := by
        cases hx : Op.bytesLess fin after with
        | false => rfl
        | true => rw [less_trans hx hc.2] at h4; cases h4
      refine ⟨?_, ?_, fun e => absurd e (List.cons_ne_nil _ _), hfa⟩
      · unfold SortedL kvT kvR at *
        rw [List.map_cons, List.pairwise_cons]
        refine ⟨fun x hx => ?_, h1⟩
        obtain ⟨y, hy, rfl⟩ := List.mem_map.1 hx
        exact (h2 y hy).1
      · intro x hx
        rcases List.mem_cons.1 hx with rfl | hx
        · exact ⟨hc.2, hc.1, h4⟩
        · exact ⟨less_trans hc.2 (h2 x hx).1, (h2 x hx).2⟩
    · cases h

theorem rise_app (t : Tb) : ∀ (a b : List Rw) (after : List UInt8), riseN t after (a ++ b) = (riseN t after a).bind fun f => riseN t f b
  | [], _, _ => rfl
  | r :: l, b, after => by
    simp only [List.cons_append, riseN]
    split
    · exact rise_app t l b _
    · rfl

theorem le_less {a b c : List UInt8} (h1 : Op.bytesLess b a = false) (h2 : Op.bytesLess b c = true) : Op.bytesLess a c = true := by
  by_cases e : a = b
  · subst e; exact h2
  · cases h : Op.bytesLess a b with
    | true => exact less_trans h h2
    | false => exact absurd (less_total h h1) e

/-- one more row behind an end -/
theorem rise_tree {b : Tb} {after fin : List UInt8} {l : List Rw} {r : Rw} {t : Tr Rw} {n : Int} {m : Nat} (hr : riseN b after l = some fin) (h : TOk t n m) (he : inL t = kvT b l) (hk : Op.bytesLess fin (kyT b r) = true) (hm : m < 1000000) :
    TOk (putT (kyT b r) r t) (if (fndT (kyT b r) t).isNil then IntKind.i64.wrap (n + 1) else n) (m + 1) ∧ inL (putT (kyT b r) r t) = kvT b (l ++ [r]) := by
  refine ⟨h.put (by omega) _ _, ?_⟩
  rw [inL_put _ _ _ h.srt, he]
  obtain ⟨_, h2, _, _⟩ := rise_rows hr
  rw [ins_last fun x hx => ?_]
  · unfold kvT; rw [kvR_app]; rfl
  · unfold kvT kvR at hx
    obtain ⟨y, hy, rfl⟩ := List.mem_map.1 hx
    exact le_less (h2 y hy).2.2 hk

theorem open_cases (nm : List UInt8 → Bool) (my : List Col → Int → Bool) (size num : Int) (b : Tb) (after : List UInt8) (rows : List Rw) :
    (openS nm my (shutW size) num b after rows = (shutW size, 1)) ∨
      (∃ fin, riseN b after rows = some fin ∧ openOk nm my size num b rows = true ∧ openS nm my (shutW size) num b after rows = (⟨size, true, num, b, after, fin, decide ((rows.length : Int) < size), false, rows⟩, 0)) := by
  have e : openS nm my (shutW size) num b after rows = if openOk nm my size num b rows then
      (match riseN b after rows with
      | some fin => ((⟨size, true, num, b, after, fin, decide ((rows.length : Int) < size), false, rows⟩ : WS), (0 : Int))
      | none => (shutW size, (1 : Int))) else (shutW size, (1 : Int)) := by
    show (if false = true then _ else if openOk nm my size num b rows = true then _ else _) = _
    rw [if_neg (by simp)]
    rfl
  rw [e]
  cases hk : openOk nm my size num b rows with
  | false => exact .inl rfl
  | true =>
    rw [if_pos rfl]
    cases hr : riseN b after rows with
    | none => exact .inl rfl
    | some fin => exact .inr ⟨fin, rfl, rfl, rfl⟩

theorem open_good {nm : List UInt8 → Bool} {my : List Col → Int → Bool} {size num : Int} {b : Tb} {after fin : List UInt8} {rows : List Rw} (hs : 1 ≤ size) (hr : riseN b after rows = some fin) (ho : openOk nm my size num b rows = true)
    (hm : my b.c b.k = true → 1 ≤ b.k ∧ b.k ≤ b.c.length ∧ b.c.length ≤ 16) : WGood ⟨size, true, num, b, after, fin, decide ((rows.length : Int) < size), false, rows⟩ := by
  obtain ⟨h1, h2, h3, h4⟩ := rise_rows hr
  unfold openOk at ho
  simp only [Bool.and_eq_true, Bool.not_eq_true', decide_eq_false_iff_not] at ho
  have hb := hm ho.2.2.1
  refine ⟨hs, fun _ => hb, h1, fun r hr => (h2 r hr).1, ?_, fun r hr => ?_, fun e => absurd e (by simp), fun e => absurd e (by simp), fun r hr => (h2 r hr).2.1⟩
  · have := ho.2.2.2
    simp only at this ⊢
    omega
  · have := fits_len (h2 r hr).2.1
    omega

end Go.Proofs.YtgikkoeckdhgkaaDoorPg

/- A window over a part of a table: what it has behind a row of changes. -/
namespace Go.Proofs.YtgikkoeckdhgkaaDoorPg
open Go Go.RowKit

def lastK (t : Tb) (after : List UInt8) : List Rw → List UInt8
  | [] => after
  | r :: l => lastK t (kyT t r) l

theorem lastK_snoc (t : Tb) (r : Rw) : ∀ (l : List Rw) (after : List UInt8), lastK t after (l ++ [r]) = kyT t r
  | [], _ => rfl
  | x :: l, after => by simp only [List.cons_append, lastK]; exact lastK_snoc t r l _

theorem rise_some {t : Tb} : ∀ {rows : List Rw} {after : List UInt8}, SortedL (kvT t rows) → (∀ r ∈ rows, fitsL t.c r = true ∧ Op.bytesLess after (kyT t r) = true) → riseN t after rows = some (lastK t after rows)
  | [], _, _, _ => rfl
  | r :: l, after, hs, h => by
    unfold SortedL kvT kvR at hs
    rw [List.map_cons, List.pairwise_cons] at hs
    simp only [riseN, lastK]
    rw [if_pos (by rw [(h r (by simp)).1, (h r (by simp)).2]; rfl)]
    refine rise_some hs.2 fun x hx => ⟨(h x (by simp [hx])).1, ?_⟩
    exact hs.1 (kyR t.c t.k.toNat x, x) (List.mem_map.2 ⟨x, hx, rfl⟩)

theorem keyOk_of_fits {C : List Col} {K : Nat} {r : Rw} (hK : K ≤ C.length) (h : fitsL C r = true) : keyOkL C K r = true := by
  have hl := fits_len h
  unfold fitsL at h
  unfold keyOkL
  rw [Bool.and_eq_true, List.all_eq_true] at h ⊢
  rw [decide_eq_true_eq] at h ⊢
  exact ⟨by omega, fun i hi => h.2 i (List.mem_range.2 (by have := List.mem_range.1 hi; omega))⟩

theorem kyS_ne {r : Rw} {K : Nat} (h1 : 1 ≤ K) (h2 : K ≤ r.length) : keyS (r.take K) ≠ [] := by
  cases r with
  | nil => simp at h2; omega
  | cons v l =>
    obtain ⟨K, rfl⟩ : ∃ k, K = k + 1 := ⟨K - 1, by omega⟩
    simp [keyS, keyV]

theorem less_nil (k : List UInt8) (h : k ≠ []) : Op.bytesLess [] k = true := by cases k <;> simp_all [Op.bytesLess]

theorem ky_pos {C : List Col} {K : Nat} {r : Rw} (h1 : 1 ≤ K) (h : keyOkL C K r = true) : Op.bytesLess [] (kyR C K r) = true := by
  have h2 : K ≤ r.length := by
    unfold keyOkL at h
    rw [Bool.and_eq_true, decide_eq_true_eq] at h
    exact h.1
  unfold kyR
  rw [if_pos h]
  exact less_nil _ (kyS_ne h1 h2)

/-- rows of a table, in their order -/
structure RowsOk (t : Tb) (l : List Rw) : Prop where
  srt : SortedL (kvT t l)
  fit : ∀ r ∈ l, fitsL t.c r = true

structure TbK (t : Tb) : Prop where
  lo : 1 ≤ t.k
  hi : t.k ≤ t.c.length
  few : t.c.length ≤ 16

theorem TbK.nat {t : Tb} (h : TbK t) : 1 ≤ t.k.toNat ∧ t.k.toNat ≤ t.c.length := ⟨by have := h.lo; omega, by have := h.hi; omega⟩

theorem RowsOk.pos {t : Tb} {l : List Rw} (ht : TbK t) (h : RowsOk t l) : ∀ r ∈ l, Op.bytesLess [] (kyT t r) = true := fun r hr =>
  ky_pos ht.nat.1 (keyOk_of_fits ht.nat.2 (h.fit r hr))

theorem RowsOk.take {t : Tb} {l : List Rw} (h : RowsOk t l) (n : Nat) : RowsOk t (l.take n) :=
  ⟨by have := h.srt; unfold kvT kvR SortedL at *; rw [List.map_take]; exact List.Pairwise.sublist (List.take_sublist _ _) this, fun r hr => h.fit r (List.mem_of_mem_take hr)⟩

theorem RowsOk.put {t : Tb} {l : List Rw} (h : RowsOk t l) {r : Rw} (hr : fitsL t.c r = true) : RowsOk t (putR t.c t.k.toNat l r) :=
  ⟨put_sorted r h.srt, fun x hx => by rcases put_mem hx with rfl | hx; exact hr; exact h.fit x hx⟩

theorem RowsOk.cut {t : Tb} {l : List Rw} (h : RowsOk t l) (key : List UInt8) : RowsOk t (cutR t.c t.k.toNat l key) :=
  ⟨cut_sorted key h.srt, fun x hx => h.fit x (cut_mem hx)⟩

theorem RowsOk.nil (t : Tb) : RowsOk t [] := ⟨by simp [kvT, kvR, SortedL], by simp⟩

/-- an event of a row of the table -/
structure EvF (t : Tb) (e : Evt) : Prop where
  lo : 3 ≤ e.k
  hi : e.k ≤ 5
  name : e.t = t.n
  fit : e.k ≠ 5 → fitsL t.c e.a = true
  key : e.k = 5 → keyOkL t.c t.k.toNat e.b = true ∧ (e.b.length : Int) = t.k

theorem RowsOk.turn {t : Tb} {l : List Rw} (h : RowsOk t l) {e : Evt} (he : EvF t e) : RowsOk t (turnE t.c t.k.toNat l e) := by
  unfold turnE
  split
  · exact h.cut _
  · rename_i hk; exact h.put (he.fit hk)

theorem RowsOk.turns {t : Tb} : ∀ (es : List Evt) {l : List Rw}, RowsOk t l → (∀ e ∈ es, EvF t e) → RowsOk t (es.foldl (turnE t.c t.k.toNat) l)
  | [], _, h, _ => h
  | e :: es, _, h, hs => RowsOk.turns es (h.turn (hs e (by simp))) fun x hx => hs x (by simp [hx])

theorem turn_len (C : List Col) (K : Nat) (l : List Rw) (e : Evt) : (turnE C K l e).length ≤ l.length + 1 := by
  unfold turnE
  split
  · have := cut_len C K l (kyR C K e.b); omega
  · exact put_len _ _ _ _

theorem turns_len (C : List Col) (K : Nat) : ∀ (es : List Evt) (l : List Rw), (es.foldl (turnE C K) l).length ≤ l.length + es.length
  | [], l => by simp
  | e :: es, l => by
    have := turns_len C K es (turnE C K l e)
    have := turn_len C K l e
    rw [List.foldl_cons, List.length_cons]; omega

/-- within: all, or up to a key -/
def within (last : Bool) (fin k : List UInt8) : Bool := last || !Op.bytesLess fin k

theorem first_part {t : Tb} {now : List Rw} (ht : TbK t) (h : RowsOk t now) {m : Nat} (hm : m < now.length) (k : List UInt8) :
    look k (kvT t (now.take (m + 1))) = if within false (lastK t [] (now.take (m + 1))) k then look k (kvT t now) else none := by
  have hg : now[m]? = some now[m] := List.getElem?_eq_getElem hm
  have e1 : now.take (m + 1) = now.take m ++ [now[m]] := by rw [List.take_add_one, hg]; rfl
  have hfin : lastK t [] (now.take (m + 1)) = kyT t now[m] := by rw [e1, lastK_snoc]
  rw [hfin]
  have e2 : now = now.take (m + 1) ++ now.drop (m + 1) := (List.take_append_drop _ _).symm
  have hs := h.srt
  have e3 : kvT t now = kvT t (now.take m) ++ (kyT t now[m], now[m]) :: kvT t (now.drop (m + 1)) := by
    have e5 : now = now.take m ++ now[m] :: now.drop (m + 1) := by
      conv => lhs; rw [e2, e1]
      simp
    have e6 : ∀ (a b : List Rw) (x : Rw), kvT t (a ++ x :: b) = kvT t a ++ (kyT t x, x) :: kvT t b := fun a b x => by unfold kvT kvR kyT; rw [List.map_append, List.map_cons]
    rw [← e6, ← e5]
  have e4 : kvT t (now.take (m + 1)) = kvT t (now.take m) ++ [(kyT t now[m], now[m])] := by rw [e1]; unfold kvT kvR kyT; rw [List.map_append]; rfl
  rw [e3] at hs
  obtain ⟨_, _, h3, h4, _⟩ := sorted_mid hs
  have hf : kvT t (now.take (m + 1)) = (kvT t now).filter fun x => within false (kyT t now[m]) x.1 := by
    rw [e3, List.filter_append, List.filter_cons, e4]
    have f1 : (kvT t (now.take m)).filter (fun x => within false (kyT t now[m]) x.1) = kvT t (now.take m) := List.filter_eq_self.2 fun x hx => by
      unfold within
      rw [less_asymm (h3 x hx)]; rfl
    have f2 : (kvT t (now.drop (m + 1))).filter (fun x => within false (kyT t now[m]) x.1) = [] := List.filter_eq_nil_iff.2 fun x hx => by
      unfold within
      rw [h4 x hx]; simp
    have f3 : within false (kyT t now[m]) (kyT t now[m]) = true := by unfold within; rw [less_irrefl]; rfl
    rw [f1, f2, f3]; rfl
  rw [hf, look_filter (within false (kyT t now[m])) k]

/-- What a window has, opened over the rows of a time, behind changes. -/
structure Fol (w : WS) (t : Tb) (size : Int) (last : Bool) (fin : List UInt8) (S : List Rw) (es : List Evt) : Prop where
  tb : w.t = t
  is : w.is = true
  num : w.num = 3
  size : w.size = size
  after : w.after = []
  fn : w.fin = fin
  lst : w.last = last
  good : WGood w
  has : w.sp = false → ∀ k, look k (kvT t w.rows) = if within last fin k then foldK t.c t.k.toNat k es (look k (kvT t S)) else none

theorem look_pos {t : Tb} {l : List Rw} (h : ∀ r ∈ l, Op.bytesLess [] (kyT t r) = true) : look [] (kvT t l) = none := look_none fun x hx e => by
  unfold kvT kvR at hx
  obtain ⟨r, hr, rfl⟩ := List.mem_map.1 hx
  have := h r hr
  rw [show kyT t r = [] from e, less_irrefl] at this
  cases this

theorem ky_ne_nil {t : Tb} (ht : TbK t) {e : Evt} (he : EvF t e) (o : Option Rw) : stepK t.c t.k.toNat [] o e = o := by
  unfold stepK
  split
  · rename_i hk
    have := ky_pos ht.nat.1 (he.key hk).1
    exact if_neg fun e => by rw [← e, less_irrefl] at this; cases this
  · rename_i hk
    have := ky_pos ht.nat.1 (keyOk_of_fits ht.nat.2 (he.fit hk))
    exact if_neg fun e => by rw [← e, less_irrefl] at this; cases this

theorem fold_nil {t : Tb} (ht : TbK t) : ∀ (es : List Evt), (∀ e ∈ es, EvF t e) → ∀ o, foldK t.c t.k.toNat [] es o = o
  | [], _, _ => rfl
  | e :: es, h, o => by
    show foldK t.c t.k.toNat [] es (stepK t.c t.k.toNat [] o e) = o
    rw [ky_ne_nil ht (h e (by simp)), fold_nil ht es fun x hx => h x (by simp [hx])]

theorem Fol.take {w : WS} {t : Tb} {size : Int} {last : Bool} {fin : List UInt8} {S : List Rw} {es : List Evt} (ht : TbK t) (hS : RowsOk t S) (h : Fol w t size last fin S es) {e : Evt} (he : EvF t e) (hes : ∀ e ∈ es, EvF t e) :
    (takeS w e).2 = 0 ∧ Fol (takeS w e).1 t size last fin S (es ++ [e]) := by
  cases hs : w.sp with
  | true =>
    have e0 : takeS w e = (w, 0) := by unfold takeS; rw [if_pos (.inr hs)]
    rw [e0]
    exact ⟨rfl, h.tb, h.is, h.num, h.size, h.after, h.fn, h.lst, h.good, fun hf => by rw [hs] at hf; cases hf⟩
  | false =>
    have hin : ∀ k, inW w k = (Op.bytesLess [] k && within last fin k) := fun k => by unfold inW within; rw [h.after, h.fn, h.lst]
    have hfit : takeFit w e = true := by
      unfold takeFit
      rw [h.tb]
      split
      · rename_i hk
        rw [(he.key hk).1, (he.key hk).2]; simp
      · rename_i hk; exact he.fit hk
    have hz : ∀ k, Op.bytesLess [] k = false → k = [] := fun k hk => by cases k <;> simp_all [Op.bytesLess]
    have hl : ∀ k, inW w k = false → look k (kvT w.t w.rows) = none := fun k hk => by
      rw [hin, Bool.and_eq_false_iff] at hk
      rw [h.tb, h.has hs k]
      rcases hk with hk | hk
      · rw [hz k hk, fold_nil ht es hes, look_pos (hS.pos ht)]; simp
      · rw [hk]; simp
    obtain ⟨h1, h2⟩ := take_look h.is hs he.lo he.hi (by rw [he.name, h.tb]) hfit h.good.srt hl
    refine ⟨h1, ?_⟩
    have hg := take_good h.good e
    rcases h2 with h2 | ⟨rows', h2, hso, hlk⟩
    · rw [h2] at hg ⊢
      exact ⟨h.tb, h.is, h.num, h.size, h.after, h.fn, h.lst, hg, fun hf => by cases hf⟩
    · rw [h2] at hg ⊢
      refine ⟨h.tb, h.is, h.num, h.size, h.after, h.fn, h.lst, hg, fun _ k => ?_⟩
      show look k (kvT t rows') = _
      have hk := hlk k
      rw [h.tb, hin k, h.has hs k] at hk
      rw [hk, fold_app]
      cases hw : within last fin k with
      | false => simp
      | true =>
        cases hb : Op.bytesLess [] k with
        | true => rfl
        | false =>
          rw [hz k hb]
          simp only [Bool.false_and, Bool.false_eq_true, if_false, if_true]
          show none = stepK t.c t.k.toNat [] (foldK t.c t.k.toNat [] es (look [] (kvT t S))) e
          rw [ky_ne_nil ht he, fold_nil ht es hes, look_pos (hS.pos ht)]

/-- At the end the window has the table's rows, within it. -/
theorem Fol.ends {w : WS} {t : Tb} {size : Int} {last : Bool} {fin : List UInt8} {S0 : List Rw} {a b : List Evt} (ht : TbK t) (h0 : RowsOk t S0) (ha : ∀ e ∈ a, EvF t e) (hb : ∀ e ∈ b, EvF t e)
    (h : Fol w t size last fin (a.foldl (turnE t.c t.k.toNat) S0) (a ++ b)) (hs : w.sp = false) :
    w.rows = ((b.foldl (turnE t.c t.k.toNat) (a.foldl (turnE t.c t.k.toNat) S0)).filter fun r => within last fin (kyT t r)) := by
  have hS := RowsOk.turns a h0 ha
  have hE := RowsOk.turns b hS hb
  have hflt : ∀ l : List Rw, kvR t.c t.k.toNat (l.filter fun r => within last fin (kyT t r)) = (kvR t.c t.k.toNat l).filter fun x => within last fin x.1 := fun l => kvR_filter t.c t.k.toNat (within last fin) l
  refine kvR_inj (C := t.c) (K := t.k.toNat) (look_ext ?_ ?_ fun k => ?_)
  · have := h.good.srt; rw [h.tb] at this; exact this
  · rw [hflt]
    exact List.Pairwise.filter _ hE.srt
  · rw [hflt, look_filter (within last fin)]
    have := h.has hs k
    unfold kvT at this
    rw [this]
    cases hw : within last fin k with
    | false => simp
    | true =>
      simp only [if_true]
      rw [look_turns k b hS.srt, fold_app, look_turns k a h0.srt, fold_idem]

end Go.Proofs.YtgikkoeckdhgkaaDoorPg

/- Numbers and texts as bytes, read: plain functions. -/
namespace Go.Proofs.YtgikkoeckdhgkaaDoorPg
open Go Go.RowKit

/-- a number of 64 bits at the beginning of bytes, from its digit i on: the number, what is left, the error (4: too few; 2: none) -/
def digF : Nat → Nat → Int → List UInt8 → Int × List UInt8 × Int
  | 0, _, _, _ => (0, [], 2)
  | _ + 1, _, _, [] => (0, [], 4)
  | f + 1, i, n, b :: r =>
    if i = 9 ∧ 1 < b.toNat % 128 then (0, [], 2)
    else if b.toNat < 128 then (if b = 0 ∧ 0 < i then (0, [], 2) else (n + ((b.toNat % 128 : Nat) : Int) * 128 ^ i, r, 0))
    else digF f (i + 1) (n + ((b.toNat % 128 : Nat) : Int) * 128 ^ i) r

/-- .. of the whole -/
def digL (s : List UInt8) : Int × List UInt8 × Int := digF 10 0 0 s

/-- a number below 2^63 -/
def numL (s : List UInt8) : Int × List UInt8 × Int :=
  if (digL s).2.2 = 0 then (if (digL s).1 ≤ 9223372036854775807 then digL s else (0, s, 2)) else (0, s, (digL s).2.2)

/-- a text of at most so many bytes -/
def txtL (most : Int) (s : List UInt8) : List UInt8 × List UInt8 × Int :=
  if (numL s).2.2 = 0 then
    (if most < (numL s).1 then ([], s, 2)
     else if ((numL s).2.1.length : Int) < (numL s).1 then ([], s, 4)
     else ((numL s).2.1.take (numL s).1.toNat, (numL s).2.1.drop (numL s).1.toNat, 0))
  else ([], s, (numL s).2.2)

theorem digF_len : ∀ (f i : Nat) (n : Int) (s : List UInt8), (digF f i n s).2.1.length ≤ s.length
  | 0, i, n, s => by simp [digF]
  | f + 1, i, n, [] => by simp [digF]
  | f + 1, i, n, b :: r => by
    have ih := digF_len f (i + 1) (n + ((b.toNat % 128 : Nat) : Int) * 128 ^ i) r
    unfold digF
    split
    · simp
    split
    · split
      · simp
      · simp only [List.length_cons]; omega
    · simp only [List.length_cons]; omega

end Go.Proofs.YtgikkoeckdhgkaaDoorPg

/- Digits to the base 128: the bits. -/
namespace Go.Proofs.YtgikkoeckdhgkaaDoorPg
open Go Go.RowKit

theorem or_add {n d k : Nat} (h : n < 2 ^ k) : n ||| (d * 2 ^ k) = n + d * 2 ^ k := by
  rw [Nat.mul_comm d, Nat.or_comm, ← Nat.two_pow_add_eq_or_of_lt h, Nat.add_comm]

theorem and_127 (b : Nat) : b &&& 127 = b % 128 := by
  have := Nat.and_two_pow_sub_one_eq_mod b 7
  simpa using this

theorem low7 (b : UInt8) : IntKind.u64.wrap (IntKind.u8.wrap ↑(BitVec.ofInt IntKind.u8.bits (b.toNat : Int) &&& ~~~BitVec.ofInt IntKind.u8.bits 128).toNat) = ((b.toNat % 128 : Nat) : Int) := by
  have hb := b.toNat_lt
  have e1 : (BitVec.ofInt 8 (b.toNat : Int)).toNat = b.toNat := by
    rw [BitVec.toNat_ofInt]
    have : (2 : Int) ^ 8 = 256 := by decide
    omega
  have e2 : (~~~BitVec.ofInt 8 128).toNat = 127 := by decide
  have e3 : (BitVec.ofInt IntKind.u8.bits (b.toNat : Int) &&& ~~~BitVec.ofInt IntKind.u8.bits 128).toNat = b.toNat % 128 := by
    show (BitVec.ofInt 8 (b.toNat : Int) &&& ~~~BitVec.ofInt 8 128).toNat = _
    rw [BitVec.toNat_and, e1, e2, and_127]
  rw [e3, wrap_u64]
  have : IntKind.u8.wrap ((b.toNat % 128 : Nat) : Int) = ((b.toNat % 128 : Nat) : Int) % 256 := by simp [IntKind.wrap, IntKind.bits, IntKind.signed]
  rw [this]; omega

theorem pow128 (i : Nat) : (128 : Nat) ^ i = 2 ^ (7 * i) := by
  rw [Nat.pow_mul]

theorem or_dig {i N d : Nat} (hi : i ≤ 9) (hd : d < 128) (h9 : i = 9 → d ≤ 1) (hN : N < 128 ^ i) :
    IntKind.u64.wrap ↑(BitVec.ofInt IntKind.u64.bits (N : Int) ||| BitVec.ofInt IntKind.u64.bits (IntKind.u64.wrap ((d : Int) * 2 ^ min (IntKind.i64.wrap (7 * (i : Int))).toNat IntKind.u64.bits))).toNat = ((N + d * 128 ^ i : Nat) : Int) := by
  have e1 : (IntKind.i64.wrap (7 * (i : Int))).toNat = 7 * i := by rw [IntKind.wrap_i64, Int.emod_eq_of_lt (by omega) (by omega)]; omega
  have e2 : min (7 * i) IntKind.u64.bits = 7 * i := by show min (7 * i) 64 = _; omega
  rw [e1, e2]
  rw [pow128] at hN ⊢
  have p64 : (2 : Nat) ^ 64 = 18446744073709551616 := by decide
  have hlt : d * 2 ^ (7 * i) + 2 ^ (7 * i) ≤ 18446744073709551616 := by
    obtain rfl | rfl | rfl | rfl | rfl | rfl | rfl | rfl | rfl | rfl : i = 0 ∨ i = 1 ∨ i = 2 ∨ i = 3 ∨ i = 4 ∨ i = 5 ∨ i = 6 ∨ i = 7 ∨ i = 8 ∨ i = 9 := by omega
    all_goals (simp only [Nat.reduceMul, Nat.reducePow]; omega)
  have e3 : ((d : Int) * 2 ^ (7 * i)) = ((d * 2 ^ (7 * i) : Nat) : Int) := by
    rw [Int.natCast_mul, Int.natCast_pow]; rfl
  rw [e3]
  generalize hm : d * 2 ^ (7 * i) = m at *
  have f1 : (BitVec.ofInt 64 (N : Int)).toNat = N := by rw [BitVec.toNat_ofInt]; omega
  have f2 : (BitVec.ofInt 64 (IntKind.u64.wrap (m : Int))).toNat = m := by rw [BitVec.toNat_ofInt, wrap_u64]; omega
  have f3 : (BitVec.ofInt 64 (N : Int) ||| BitVec.ofInt 64 (IntKind.u64.wrap (m : Int))).toNat = N + m := by
    rw [BitVec.toNat_or, f1, f2, ← hm, or_add hN]
  show IntKind.u64.wrap ↑(BitVec.ofInt 64 (N : Int) ||| BitVec.ofInt 64 (IntKind.u64.wrap (m : Int))).toNat = _
  rw [f3, wrap_u64]
  omega

end Go.Proofs.YtgikkoeckdhgkaaDoorPg

/- Numbers and texts as bytes, written; and read again. -/
namespace Go.Proofs.YtgikkoeckdhgkaaDoorPg
open Go Go.RowKit

/-- a number's digits to the base 128, the lowest first: at most f and one more of them -/
def digWF : Nat → Nat → List UInt8
  | 0, n => [UInt8.ofNat n]
  | f + 1, n => if n < 128 then [UInt8.ofNat n] else UInt8.ofNat (n % 128 + 128) :: digWF f (n / 128)

def digW (n : Nat) : List UInt8 := digWF 9 n

def numW (n : Int) : List UInt8 := digW n.toNat

def txtW (s : List UInt8) : List UInt8 := digW s.length ++ s

theorem digWF_len : ∀ (f n : Nat), (digWF f n).length ≤ f + 1
  | 0, n => by simp [digWF]
  | f + 1, n => by
    unfold digWF
    split
    · simp
    · have := digWF_len f (n / 128)
      simp only [List.length_cons]; omega

theorem digW_len (n : Nat) : (digW n).length ≤ 10 := digWF_len 9 n

theorem digWF_pos (f n : Nat) : 0 < (digWF f n).length := by
  cases f <;> unfold digWF <;> (try split) <;> simp

theorem txtW_len (s : List UInt8) : (txtW s).length ≤ 10 + s.length := by
  unfold txtW
  have := digW_len s.length
  rw [List.length_append]; omega

theorem ofNat_lt {n : Nat} (h : n < 256) : (UInt8.ofNat n).toNat = n := by
  rw [UInt8.toNat_ofNat']; omega

/-- what is written is read as it was -/
theorem digF_W : ∀ (f i N m : Nat) (r : List UInt8), i + f = 9 → m < 128 ^ (f + 1) → N + m * 128 ^ i < 2 ^ 64 → (0 < i → 0 < m) →
    digF (f + 1) i N (digWF f m ++ r) = (((N + m * 128 ^ i : Nat) : Int), r, 0) := by
  intro f
  induction f with
  | zero =>
    intro i N m r hi hm hN hp
    have hi9 : i = 9 := by omega
    have hm1 : m < 128 := by simpa using hm
    have hm2 : m ≤ 1 := by
      subst hi9
      have e1 : (128 : Nat) ^ 9 = 9223372036854775808 := by decide
      have e2 : (2 : Nat) ^ 64 = 18446744073709551616 := by decide
      rw [e1, e2] at hN
      omega
    have hb : (UInt8.ofNat m).toNat = m := ofNat_lt (by omega)
    simp only [digWF, List.cons_append, List.nil_append, digF, hb]
    have hmm : m % 128 = m := by omega
    rw [hmm, if_neg (by omega), if_pos hm1, if_neg ?_]
    · rw [Int.natCast_add, Int.natCast_mul, Int.natCast_pow]; rfl
    · rintro ⟨e, h0⟩
      have := hp h0
      have : (UInt8.ofNat m).toNat = 0 := by rw [e]; rfl
      omega
  | succ f ih =>
    intro i N m r hi hm hN hp
    unfold digWF
    by_cases h : m < 128
    · rw [if_pos h]
      have hb : (UInt8.ofNat m).toNat = m := ofNat_lt (by omega)
      have hmm : m % 128 = m := by omega
      simp only [List.cons_append, List.nil_append, digF, hb]
      rw [hmm, if_neg (by omega), if_pos h, if_neg ?_]
      · rw [Int.natCast_add, Int.natCast_mul, Int.natCast_pow]; rfl
      · rintro ⟨e, h0⟩
        have := hp h0
        have : (UInt8.ofNat m).toNat = 0 := by rw [e]; rfl
        omega
    · rw [if_neg h]
      have hb : (UInt8.ofNat (m % 128 + 128)).toNat = m % 128 + 128 := ofNat_lt (by omega)
      have hmm : (m % 128 + 128) % 128 = m % 128 := by omega
      simp only [List.cons_append]
      rw [digF, hb, hmm, if_neg (by omega), if_neg (by omega)]
      have hc : (N : Int) + ((m % 128 : Nat) : Int) * 128 ^ i = ((N + m % 128 * 128 ^ i : Nat) : Int) := by
        rw [Int.natCast_add, Int.natCast_mul, Int.natCast_pow]; rfl
      rw [hc]
      have hdm : m % 128 + m / 128 * 128 = m := by omega
      have hex : N + m % 128 * 128 ^ i + m / 128 * 128 ^ (i + 1) = N + m * 128 ^ i := by
        rw [Nat.pow_succ]
        have : m / 128 * (128 ^ i * 128) = (m / 128 * 128) * 128 ^ i := by
          rw [Nat.mul_comm (128 ^ i), Nat.mul_assoc]
        rw [this]
        have h2 : m * 128 ^ i = (m % 128 + m / 128 * 128) * 128 ^ i := by rw [hdm]
        rw [h2, Nat.add_mul]; omega
      rw [ih (i + 1) (N + m % 128 * 128 ^ i) (m / 128) r (by omega) ?_ (by rw [hex]; exact hN) (fun _ => by omega), hex]
      rw [Nat.pow_succ 128 (f + 1)] at hm
      exact Nat.div_lt_of_lt_mul (by rw [Nat.mul_comm]; exact hm)

theorem digL_W {n : Nat} (h : n < 2 ^ 64) (r : List UInt8) : digL (digW n ++ r) = ((n : Int), r, 0) := by
  unfold digL digW
  have := digF_W 9 0 0 n r rfl (Nat.lt_of_lt_of_le h (by decide)) (by simpa using h) (by omega)
  simpa using this

/-- what is read is written as it was -/
theorem digF_back : ∀ (f i N : Nat) (s r : List UInt8) (v : Int), i + f = 9 → digF (f + 1) i N s = (v, r, 0) →
    ∃ m, v = ((N + m * 128 ^ i : Nat) : Int) ∧ s = digWF f m ++ r ∧ m < 128 ^ (f + 1) ∧ (0 < i → 0 < m) := by
  intro f
  induction f with
  | zero =>
    intro i N s r v hi h
    cases s with
    | nil => simp [digF] at h
    | cons b s =>
      unfold digF at h
      split at h
      · simp at h
      split at h
      · rename_i h1 h2
        split at h
        · simp at h
        · rename_i h3
          simp only [Prod.mk.injEq] at h
          obtain ⟨rfl, rfl, _⟩ := h
          have hbm : b.toNat % 128 = b.toNat := by omega
          refine ⟨b.toNat, ?_, ?_, by simpa using h2, ?_⟩
          · rw [hbm, Int.natCast_add, Int.natCast_mul, Int.natCast_pow]; rfl
          · simp [digWF]
          · intro h0
            rcases Nat.eq_zero_or_pos b.toNat with e | e
            · exact absurd ⟨UInt8.toNat_inj.1 e, h0⟩ h3
            · exact e
      · simp [digF] at h
  | succ f ih =>
    intro i N s r v hi h
    cases s with
    | nil => simp [digF] at h
    | cons b s =>
      unfold digF at h
      have hbl := b.toNat_lt
      split at h
      · simp at h
      split at h
      · rename_i h1 h2
        split at h
        · simp at h
        · rename_i h3
          simp only [Prod.mk.injEq] at h
          obtain ⟨rfl, rfl, _⟩ := h
          have hbm : b.toNat % 128 = b.toNat := by omega
          refine ⟨b.toNat, ?_, ?_, ?_, ?_⟩
          · rw [hbm, Int.natCast_add, Int.natCast_mul, Int.natCast_pow]; rfl
          · unfold digWF; rw [if_pos h2]; simp
          · exact Nat.lt_of_lt_of_le h2 (by rw [Nat.pow_succ]; exact Nat.le_mul_of_pos_left _ (Nat.pow_pos (by decide)))
          · intro h0
            rcases Nat.eq_zero_or_pos b.toNat with e | e
            · exact absurd ⟨UInt8.toNat_inj.1 e, h0⟩ h3
            · exact e
      · rename_i h1 h2
        have hc : (N : Int) + ((b.toNat % 128 : Nat) : Int) * 128 ^ i = ((N + b.toNat % 128 * 128 ^ i : Nat) : Int) := by
          rw [Int.natCast_add, Int.natCast_mul, Int.natCast_pow]; rfl
        rw [hc] at h
        obtain ⟨m, e1, e2, e3, e4⟩ := ih (i + 1) _ s r v (by omega) h
        have hm0 := e4 (by omega)
        refine ⟨b.toNat % 128 + m * 128, ?_, ?_, ?_, fun _ => by omega⟩
        · rw [e1]
          congr 1
          rw [Nat.add_mul, Nat.pow_succ]
          have : m * (128 ^ i * 128) = m * 128 * 128 ^ i := by rw [Nat.mul_comm (128 ^ i), Nat.mul_assoc]
          omega
        · rw [e2]
          have hne : ¬ b.toNat % 128 + m * 128 < 128 := by omega
          have hd : (b.toNat % 128 + m * 128) / 128 = m := by omega
          have hmod : (b.toNat % 128 + m * 128) % 128 + 128 = b.toNat := by omega
          rw [show digWF (f + 1) (b.toNat % 128 + m * 128) = UInt8.ofNat ((b.toNat % 128 + m * 128) % 128 + 128) :: digWF f ((b.toNat % 128 + m * 128) / 128) by rw [digWF, if_neg hne]]
          rw [hd, hmod]
          simp
        · rw [Nat.pow_succ 128 (f + 1)]; omega

theorem digL_back {s r : List UInt8} {v : Int} (h : digL s = (v, r, 0)) : ∃ n : Nat, v = (n : Int) ∧ s = digW n ++ r := by
  obtain ⟨m, e1, e2, _, _⟩ := digF_back 9 0 0 s r v rfl (by simpa [digL] using h)
  exact ⟨m, by simpa using e1, e2⟩

theorem numL_W {n : Int} (h0 : 0 ≤ n) (h1 : n ≤ 9223372036854775807) (r : List UInt8) : numL (numW n ++ r) = (n, r, 0) := by
  unfold numL numW
  have e : digL (digW n.toNat ++ r) = (n, r, 0) := by
    have e64 : (2 : Nat) ^ 64 = 18446744073709551616 := by decide
    rw [digL_W (by omega)]
    rw [Int.toNat_of_nonneg h0]
  rw [e]
  simp [h1]

theorem numL_back {s r : List UInt8} {v : Int} (h : numL s = (v, r, 0)) : 0 ≤ v ∧ v ≤ 9223372036854775807 ∧ s = numW v ++ r := by
  unfold numL at h
  split at h
  · split at h
    · rename_i h1 h2
      obtain ⟨n, rfl, hs⟩ := digL_back h
      rw [h] at h2
      refine ⟨by omega, h2, ?_⟩
      unfold numW
      rw [Int.toNat_natCast]; exact hs
    · simp at h
  · rename_i h1
    simp only [Prod.mk.injEq] at h
    exact absurd h.2.2 h1

/-- an error leaves what there was, and tells no number -/
theorem numL_err {s : List UInt8} (h : (numL s).2.2 ≠ 0) : (numL s).1 = 0 ∧ (numL s).2.1 = s := by
  unfold numL at h ⊢
  split
  · split
    · rename_i h1 h2
      rw [if_pos h1, if_pos h2] at h
      exact absurd h1 h
    · exact ⟨rfl, rfl⟩
  · exact ⟨rfl, rfl⟩

theorem digF_nonneg : ∀ (f i : Nat) (N : Int) (s : List UInt8), 0 ≤ N → 0 ≤ (digF f i N s).1
  | 0, _, _, _, _ => by simp [digF]
  | f + 1, i, N, [], _ => by simp [digF]
  | f + 1, i, N, b :: r, h => by
    have hp : (0 : Int) ≤ ((b.toNat % 128 : Nat) : Int) * 128 ^ i := Int.mul_nonneg (by omega) (Int.pow_nonneg (by decide))
    unfold digF
    split
    · simp
    split
    · split
      · simp
      · show 0 ≤ N + _
        omega
    · exact digF_nonneg f (i + 1) _ r (by omega)

theorem digL_nonneg (s : List UInt8) : 0 ≤ (digL s).1 := digF_nonneg 10 0 0 s (by decide)

theorem numL_nonneg (s : List UInt8) : 0 ≤ (numL s).1 := by
  unfold numL
  split
  · split
    · exact digL_nonneg s
    · simp
  · simp

theorem numL_le (s : List UInt8) : (numL s).1 ≤ 9223372036854775807 := by
  unfold numL
  split
  · split
    · assumption
    · simp
  · simp

theorem numL_len (s : List UInt8) : (numL s).2.1.length ≤ s.length := by
  unfold numL
  split
  · split
    · exact digF_len _ _ _ _
    · exact Nat.le_refl _
  · exact Nat.le_refl _

theorem txtL_W {s : List UInt8} {most : Int} (hm : (s.length : Int) ≤ most) (hl : (s.length : Int) ≤ 9223372036854775807) (r : List UInt8) : txtL most (txtW s ++ r) = (s, r, 0) := by
  unfold txtL txtW
  have e : numL (digW s.length ++ s ++ r) = ((s.length : Int), s ++ r, 0) := by
    have := numL_W (n := (s.length : Int)) (by omega) hl (s ++ r)
    rw [List.append_assoc]
    simpa [numW] using this
  rw [e]
  simp only [if_true]
  rw [if_neg (by omega), if_neg (by simp; omega)]
  simp

theorem txtL_back {s r t : List UInt8} {most : Int} (h : txtL most s = (t, r, 0)) : (t.length : Int) ≤ most ∧ s = txtW t ++ r := by
  unfold txtL at h
  split at h
  · rename_i h1
    split at h
    · simp at h
    split at h
    · simp at h
    · rename_i h2 h3
      simp only [Prod.mk.injEq] at h
      obtain ⟨rfl, rfl, _⟩ := h
      obtain ⟨a, b, c⟩ := numL_back (s := s) (v := (numL s).1) (r := (numL s).2.1) (by rw [← h1])
      have hl : (List.take (numL s).1.toNat (numL s).2.1).length = (numL s).1.toNat := by rw [List.length_take]; omega
      refine ⟨by rw [hl]; omega, ?_⟩
      unfold txtW
      rw [hl, List.append_assoc, List.take_append_drop]
      exact c
  · rename_i h1
    simp only [Prod.mk.injEq] at h
    exact absurd h.2.2 h1

theorem txtL_err {s : List UInt8} {most : Int} (h : (txtL most s).2.2 ≠ 0) : (txtL most s).1 = [] ∧ (txtL most s).2.1 = s := by
  unfold txtL at h ⊢
  split
  · rename_i h1
    rw [if_pos h1] at h
    split
    · exact ⟨rfl, rfl⟩
    · rename_i h2
      rw [if_neg h2] at h
      split
      · exact ⟨rfl, rfl⟩
      · rename_i h3
        rw [if_neg h3] at h
        exact absurd rfl h
  · exact ⟨rfl, rfl⟩

theorem txtL_len (most : Int) (s : List UInt8) : (txtL most s).2.1.length ≤ s.length ∧ (txtL most s).1.length ≤ s.length := by
  have := numL_len s
  unfold txtL
  split
  · split
    · simp
    split
    · simp
    · simp only [List.length_drop, List.length_take]; omega
  · simp

end Go.Proofs.YtgikkoeckdhgkaaDoorPg

/- Readers and writers: plain functions with an error that stays. -/
namespace Go.Proofs.YtgikkoeckdhgkaaDoorPg
open Go Go.RowKit

def rNum (s : List UInt8) (e : Int) : Int × List UInt8 × Int := if e = 0 then numL s else (0, s, e)
def rTxt (most : Int) (s : List UInt8) (e : Int) : List UInt8 × List UInt8 × Int := if e = 0 then txtL most s else ([], s, e)
def bytL (s : List UInt8) : Int × List UInt8 × Int := match s with
  | [] => (0, [], 4)
  | b :: r => ((b.toNat : Int), r, 0)
def rByt (s : List UInt8) (e : Int) : Int × List UInt8 × Int := if e = 0 then bytL s else (0, s, e)

theorem rNum_ok {s r : List UInt8} {e v : Int} (h : rNum s e = (v, r, 0)) : e = 0 ∧ 0 ≤ v ∧ v ≤ 9223372036854775807 ∧ s = numW v ++ r := by
  unfold rNum at h
  split at h
  · rename_i h0
    exact ⟨h0, numL_back h⟩
  · rename_i h0
    simp only [Prod.mk.injEq] at h
    exact absurd h.2.2 h0

theorem rTxt_ok {s r t : List UInt8} {e most : Int} (h : rTxt most s e = (t, r, 0)) : e = 0 ∧ (t.length : Int) ≤ most ∧ s = txtW t ++ r := by
  unfold rTxt at h
  split at h
  · rename_i h0
    exact ⟨h0, txtL_back h⟩
  · rename_i h0
    simp only [Prod.mk.injEq] at h
    exact absurd h.2.2 h0

theorem rByt_ok {s r : List UInt8} {e v : Int} (h : rByt s e = (v, r, 0)) : e = 0 ∧ ∃ b : UInt8, v = (b.toNat : Int) ∧ s = b :: r := by
  unfold rByt at h
  split at h
  · rename_i h0
    refine ⟨h0, ?_⟩
    cases s with
    | nil => simp [bytL] at h
    | cons b q =>
      simp only [bytL, Prod.mk.injEq] at h
      obtain ⟨rfl, rfl, _⟩ := h
      exact ⟨b, rfl, rfl⟩
  · rename_i h0
    simp only [Prod.mk.injEq] at h
    exact absurd h.2.2 h0

theorem rNum_W {n : Int} (h0 : 0 ≤ n) (h1 : n ≤ 9223372036854775807) (r : List UInt8) : rNum (numW n ++ r) 0 = (n, r, 0) := by
  unfold rNum; rw [if_pos rfl, numL_W h0 h1]

theorem rTxt_W {s : List UInt8} {most : Int} (hm : (s.length : Int) ≤ most) (hl : (s.length : Int) ≤ 9223372036854775807) (r : List UInt8) : rTxt most (txtW s ++ r) 0 = (s, r, 0) := by
  unfold rTxt; rw [if_pos rfl, txtL_W hm hl]

theorem rByt_W (b : UInt8) (r : List UInt8) : rByt (b :: r) 0 = ((b.toNat : Int), r, 0) := rfl

theorem rNum_len (s : List UInt8) (e : Int) : (rNum s e).2.1.length ≤ s.length := by
  unfold rNum; split
  · exact numL_len s
  · exact Nat.le_refl _
theorem rNum_nonneg (s : List UInt8) (e : Int) : 0 ≤ (rNum s e).1 := by
  unfold rNum; split
  · exact numL_nonneg s
  · simp
theorem rNum_le (s : List UInt8) (e : Int) : (rNum s e).1 ≤ 9223372036854775807 := by
  unfold rNum; split
  · exact numL_le s
  · simp
theorem rTxt_len (most : Int) (s : List UInt8) (e : Int) : (rTxt most s e).2.1.length ≤ s.length ∧ (rTxt most s e).1.length ≤ s.length := by
  unfold rTxt; split
  · exact txtL_len most s
  · simp
theorem rByt_len (s : List UInt8) (e : Int) : (rByt s e).2.1.length ≤ s.length ∧ ((rByt s e).2.2 = 0 → (rByt s e).2.1.length + 1 ≤ s.length) := by
  unfold rByt; split
  · cases s with
    | nil => simp [bytL]
    | cons b r => simp [bytL]
  · rename_i h; simp [h]
theorem rByt_bd (s : List UInt8) (e : Int) : 0 ≤ (rByt s e).1 ∧ (rByt s e).1 ≤ 255 := by
  unfold rByt; split
  · cases s with
    | nil => simp [bytL]
    | cons b r => have := b.toNat_lt; simp only [bytL]; omega
  · simp
/-- an error stays -/
theorem rNum_e {s : List UInt8} {e : Int} (h : e ≠ 0) : (rNum s e) = (0, s, e) := by unfold rNum; rw [if_neg h]
theorem rTxt_e {most : Int} {s : List UInt8} {e : Int} (h : e ≠ 0) : (rTxt most s e) = ([], s, e) := by unfold rTxt; rw [if_neg h]
theorem rByt_e {s : List UInt8} {e : Int} (h : e ≠ 0) : (rByt s e) = (0, s, e) := by unfold rByt; rw [if_neg h]

/-- how many bytes a number takes -/
theorem digF_suf : ∀ (f i : Nat) (n : Int) (s : List UInt8), (digF f i n s).2.2 = 0 → ∃ k, k ≤ s.length ∧ k ≤ f ∧ (digF f i n s).2.1 = s.drop k
  | 0, i, n, s, h => by simp [digF] at h
  | f + 1, i, n, [], h => by simp [digF] at h
  | f + 1, i, n, b :: r, h => by
    unfold digF at h ⊢
    split at h
    · simp at h
    rename_i h1
    rw [if_neg h1]
    split at h
    · rename_i h2
      rw [if_pos h2]
      split at h
      · simp at h
      · rename_i h3
        rw [if_neg h3]
        exact ⟨1, by simp, by omega, rfl⟩
    · rename_i h2
      rw [if_neg h2]
      obtain ⟨k, a, b', c⟩ := digF_suf f (i + 1) _ r h
      exact ⟨k + 1, by simp only [List.length_cons]; omega, by omega, by rw [c]; rfl⟩

end Go.Proofs.YtgikkoeckdhgkaaDoorPg
