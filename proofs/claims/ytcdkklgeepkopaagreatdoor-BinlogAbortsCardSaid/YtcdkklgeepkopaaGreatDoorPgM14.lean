/- Own texts, laid together: PgU8, PgIm2, PgIm3. -/
import Derived.Test.YtcdkklgeepkopaaGreatDoorPgM13
import Derived.Test.YtcdkklgeepkopaaGreatDoorPgM7
import Derived.Lib.ValidU
set_option linter.unusedSimpArgs false
namespace Go.Proofs.YtcdkklgeepkopaaGreatDoorPg
open Go Go.RowKit
theorem decodeL_eq (l : List UInt8) : Lib.decodeL l = decL l := by
 unfold Lib.decodeL;have := @dec_eq Globs.none ⟨l.toArray⟩ 0;simpa using this
theorem getD_cons (c : UInt8) (r : List UInt8) (k : Nat) : (c :: r).getD (k + 1) 0 = r.getD k 0 := by simp [List.getD]
def decN (c n x0 x1 x2 : Nat) : Nat × Nat :=
 if c < 128 then (c, 1)
 else if c / 32 = 6 /\ 1 <= n /\ x0 / 64 = 2 then (if 128 <= (c % 32) * 64 + x0 % 64 then ((c % 32) * 64 + x0 % 64, 2) else (65533, 1))
 else if c / 16 = 14 /\ 2 <= n /\ x0 / 64 = 2 /\ x1 / 64 = 2 then (if 2048 <= (c % 16) * 4096 + x0 % 64 * 64 + x1 % 64 /\ Utf8.valid (((c % 16) * 4096 + x0 % 64 * 64 + x1 % 64 : Nat) : Int) = true then ((c % 16) * 4096 + x0 % 64 * 64 + x1 % 64, 3) else (65533, 1))
 else if c / 8 = 30 /\ 3 <= n /\ x0 / 64 = 2 /\ x1 / 64 = 2 /\ x2 / 64 = 2 then (if 65536 <= (c % 8) * 262144 + x0 % 64 * 4096 + x1 % 64 * 64 + x2 % 64 /\ Utf8.valid (((c % 8) * 262144 + x0 % 64 * 4096 + x1 % 64 * 64 + x2 % 64 : Nat) : Int) = true then ((c % 8) * 262144 + x0 % 64 * 4096 + x1 % 64 * 64 + x2 % 64, 4) else (65533, 1))
 else (65533, 1)
theorem decL_N (c : UInt8) (r : List UInt8) : decL (c :: r) = decN c.toNat r.length (r.getD 0 0).toNat (r.getD 1 0).toNat (r.getD 2 0).toNat := by
 unfold decL decN;simp only [getD_cons, List.length_cons, List.getD_cons_zero, Utf8.runeError, beq_iff_eq, Bool.and_eq_true, decide_eq_true_eq, ge_iff_le, Nat.lt_add_one_iff, Nat.lt_add_left_iff_pos];generalize (r.getD 0 0).toNat = x0;generalize (r.getD 1 0).toNat = x1;generalize (r.getD 2 0).toNat = x2;have c3 : ((c.toNat / 16 = 14 /\ 1 <= r.length /\ x0 / 64 = 2) /\ 2 <= r.length /\ x1 / 64 = 2) ↔ (c.toNat / 16 = 14 /\ 2 <= r.length /\ x0 / 64 = 2 /\ x1 / 64 = 2) := by omega
 have c4 : (((c.toNat / 8 = 30 /\ 1 <= r.length /\ x0 / 64 = 2) /\ 2 <= r.length /\ x1 / 64 = 2) /\ 3 <= r.length /\ x2 / 64 = 2) ↔ (c.toNat / 8 = 30 /\ 3 <= r.length /\ x0 / 64 = 2 /\ x1 / 64 = 2 /\ x2 / 64 = 2) := by omega
 simp only [c3, c4]
theorem valid_iff (n : Nat) : Utf8.valid (n : Int) = true ↔ (n < 55296 \/ (57344 <= n /\ n <= 1114111)) := by
 unfold Utf8.valid;simp;omega
theorem badV_iff (v least : Int) : badV v least = true ↔ (v < least \/ 1114111 < v \/ (55296 <= v /\ v <= 57343)) := by
 unfold badV;simp
theorem get_getD {r : List UInt8} {k : Nat} (h : k < r.length) : r[k]? = some (r.getD k 0) := by simp [List.getD, lgZ h]
theorem cv_step {r : List UInt8} {v0 : Int} {k : Nat} {v : Int} (h : cv r v0 k = some v) (hk : k < r.length) :
 cv r v0 (k + 1) = if 128 <= (r.getD k 0).toNat /\ (r.getD k 0).toNat < 192 then some (64 * v + (r.getD k 0).toNat - 128) else none := by
 simp only [cv, h, get_getD hk]
theorem u8head_two {c : UInt8} {r : List UInt8} (h : 192 <= c.toNat /\ c.toNat < 224) : u8head c r = if 1 <= r.length /\ (128 <= (r.getD 0 0).toNat /\ (r.getD 0 0).toNat < 192) /\ badV (64 * ((c.toNat : Int) - 192) + (r.getD 0 0).toNat - 128) 128 = false then some 1 else none := by
 have hl : lead (c.toNat : Int) = some (1, 128, (c.toNat : Int) - 192) := by unfold lead; rw [if_neg (by omega), if_pos (by omega)]
 unfold u8head;rw [if_neg (by omega), hl]
 by_cases n1 : 1 <= r.length
 rotate_left
 . simp only [if_pos (show r.length < 1 by omega)]; rw [if_neg (by omega)]
 simp only [if_neg (show ¬ r.length < 1 by omega)]
 have s1 := cv_step (r := r) (v0 := (c.toNat : Int) - 192) (v := (c.toNat : Int) - 192) (k := 0) rfl (by omega)
 simp only [Nat.zero_add, Nat.reduceAdd] at s1;by_cases a0 : 128 <= (r.getD 0 0).toNat /\ (r.getD 0 0).toNat < 192
 rotate_left
 . rw [if_neg a0] at s1;simp only [s1]; rw [if_neg (by intro hx; exact a0 hx.2.1)]
 rw [if_pos a0] at s1;simp only [s1];cases hb : badV (64 * ((c.toNat : Int) - 192) + (r.getD 0 0).toNat - 128) 128
 . simp only [Bool.false_eq_true, if_false]; rw [if_pos ⟨n1, a0, trivial⟩]
 . simp
theorem u8head_three {c : UInt8} {r : List UInt8} (h : 224 <= c.toNat /\ c.toNat < 240) : u8head c r = if 2 <= r.length /\ (128 <= (r.getD 0 0).toNat /\ (r.getD 0 0).toNat < 192) /\ (128 <= (r.getD 1 0).toNat /\ (r.getD 1 0).toNat < 192) /\
 badV (64 * (64 * ((c.toNat : Int) - 224) + (r.getD 0 0).toNat - 128) + (r.getD 1 0).toNat - 128) 2048 = false then some 2 else none := by
 have hl : lead (c.toNat : Int) = some (2, 2048, (c.toNat : Int) - 224) := by unfold lead; rw [if_neg (by omega), if_neg (by omega), if_pos (by omega)]
 unfold u8head;rw [if_neg (by omega), hl]
 by_cases n1 : 2 <= r.length
 rotate_left
 . simp only [if_pos (show r.length < 2 by omega)]; rw [if_neg (by omega)]
 simp only [if_neg (show ¬ r.length < 2 by omega)]
 have s1 := cv_step (r := r) (v0 := (c.toNat : Int) - 224) (v := (c.toNat : Int) - 224) (k := 0) rfl (by omega)
 simp only [Nat.zero_add, Nat.reduceAdd] at s1;by_cases a0 : 128 <= (r.getD 0 0).toNat /\ (r.getD 0 0).toNat < 192
 rotate_left
 . rw [if_neg a0] at s1;simp only [cv_none s1 (m := 2) (by omega)]; rw [if_neg (by intro hx; exact a0 hx.2.1)]
 rw [if_pos a0] at s1;have s2 := cv_step s1 (by omega)
 simp only [Nat.reduceAdd] at s2;by_cases a1 : 128 <= (r.getD 1 0).toNat /\ (r.getD 1 0).toNat < 192
 rotate_left
 . rw [if_neg a1] at s2;simp only [s2]; rw [if_neg (by intro hx; exact a1 hx.2.2.1)]
 rw [if_pos a1] at s2;simp only [s2];cases hb : badV (64 * (64 * ((c.toNat : Int) - 224) + (r.getD 0 0).toNat - 128) + (r.getD 1 0).toNat - 128) 2048
 . simp only [Bool.false_eq_true, if_false]; rw [if_pos ⟨n1, a0, a1, trivial⟩]
 . simp
theorem u8head_four {c : UInt8} {r : List UInt8} (h : 240 <= c.toNat /\ c.toNat < 248) : u8head c r = if 3 <= r.length /\ (128 <= (r.getD 0 0).toNat /\ (r.getD 0 0).toNat < 192) /\ (128 <= (r.getD 1 0).toNat /\ (r.getD 1 0).toNat < 192) /\ (128 <= (r.getD 2 0).toNat /\ (r.getD 2 0).toNat < 192) /\
 badV (64 * (64 * (64 * ((c.toNat : Int) - 240) + (r.getD 0 0).toNat - 128) + (r.getD 1 0).toNat - 128) + (r.getD 2 0).toNat - 128) 65536 = false then some 3 else none := by
 have hl : lead (c.toNat : Int) = some (3, 65536, (c.toNat : Int) - 240) := by unfold lead; rw [if_neg (by omega), if_neg (by omega), if_neg (by omega), if_pos (by omega)]
 unfold u8head;rw [if_neg (by omega), hl]
 by_cases n1 : 3 <= r.length
 rotate_left
 . simp only [if_pos (show r.length < 3 by omega)]; rw [if_neg (by omega)]
 simp only [if_neg (show ¬ r.length < 3 by omega)]
 have s1 := cv_step (r := r) (v0 := (c.toNat : Int) - 240) (v := (c.toNat : Int) - 240) (k := 0) rfl (by omega)
 simp only [Nat.zero_add, Nat.reduceAdd] at s1;by_cases a0 : 128 <= (r.getD 0 0).toNat /\ (r.getD 0 0).toNat < 192
 rotate_left
 . rw [if_neg a0] at s1;simp only [cv_none s1 (m := 3) (by omega)]; rw [if_neg (by intro hx; exact a0 hx.2.1)]
 rw [if_pos a0] at s1;have s2 := cv_step s1 (by omega)
 simp only [Nat.reduceAdd] at s2;by_cases a1 : 128 <= (r.getD 1 0).toNat /\ (r.getD 1 0).toNat < 192
 rotate_left
 . rw [if_neg a1] at s2;simp only [cv_none s2 (m := 3) (by omega)]; rw [if_neg (by intro hx; exact a1 hx.2.2.1)]
 rw [if_pos a1] at s2;have s3 := cv_step s2 (by omega)
 simp only [Nat.reduceAdd] at s3;by_cases a2 : 128 <= (r.getD 2 0).toNat /\ (r.getD 2 0).toNat < 192
 rotate_left
 . rw [if_neg a2] at s3;simp only [s3]; rw [if_neg (by intro hx; exact a2 hx.2.2.2.1)]
 rw [if_pos a2] at s3;simp only [s3];cases hb : badV (64 * (64 * (64 * ((c.toNat : Int) - 240) + (r.getD 0 0).toNat - 128) + (r.getD 1 0).toNat - 128) + (r.getD 2 0).toNat - 128) 65536
 . simp only [Bool.false_eq_true, if_false]; rw [if_pos ⟨n1, a0, a1, a2, trivial⟩]
 . simp
theorem u8head_asc {c : UInt8} {r : List UInt8} (h : c.toNat < 128) : u8head c r = some 0 := by
 unfold u8head; rw [if_pos (by omega)]
theorem u8head_none {c : UInt8} {r : List UInt8} (h : 128 <= c.toNat) (h2 : c.toNat < 192 \/ 248 <= c.toNat) : u8head c r = none := by
 have hl : lead (c.toNat : Int) = none := by
  unfold lead;rcases h2 with h2 | h2
  . rw [if_pos (by omega)]
  . rw [if_neg (by omega), if_neg (by omega), if_neg (by omega), if_neg (by omega)]
 unfold u8head;rw [if_neg (by omega), hl]
theorem heads (c : UInt8) (r : List UInt8) : (u8head c r = none /\ decL (c :: r) = (65533, 1)) \/ ∃ n, u8head c r = some n /\ (decL (c :: r)).2 = n + 1 /\ ¬ ((decL (c :: r)).1 = 65533 /\ (decL (c :: r)).2 = 1) := by
 have hc : c.toNat < 256 := c.toNat_lt;have b0 : (r.getD 0 0).toNat < 256 := (r.getD 0 0).toNat_lt;have b1 : (r.getD 1 0).toNat < 256 := (r.getD 1 0).toNat_lt;have b2 : (r.getD 2 0).toNat < 256 := (r.getD 2 0).toNat_lt;rw [decL_N];by_cases k1 : c.toNat < 128
 . refine .inr ⟨0, u8head_asc k1, ?_⟩;unfold decN; rw [if_pos k1]; simp; omega
 by_cases k2 : c.toNat < 192 \/ 248 <= c.toNat
 . refine .inl ⟨u8head_none (by omega) k2, ?_⟩
   unfold decN; rw [if_neg k1, if_neg (by omega), if_neg (by omega), if_neg (by omega)]
 by_cases k3 : c.toNat < 224
 . rw [u8head_two ⟨by omega, k3⟩]
   split
   . rename_i hx;unfold decN;rw [if_neg k1];obtain ⟨g1, g2, g3⟩ := hx;have g3' : ¬ badV (64 * ((c.toNat : Int) - 192) + (r.getD 0 0).toNat - 128) 128 = true := by rw [g3]; decide
     rw [badV_iff] at g3';refine .inr ⟨1, rfl, ?_⟩;rw [if_pos (by omega), if_pos (by omega)]
     simp
   . rename_i hx;refine .inl ⟨rfl, ?_⟩;unfold decN;rw [if_neg k1];by_cases q : c.toNat / 32 = 6 /\ 1 <= r.length /\ (r.getD 0 0).toNat / 64 = 2
     . rw [if_pos q];rw [if_neg];intro hge;refine hx ⟨q.2.1, by omega, ?_⟩
       rw [Bool.eq_false_iff, ne_eq, badV_iff];omega
     . rw [if_neg q, if_neg (by omega), if_neg (by omega)]
 by_cases k4 : c.toNat < 240
 . rw [u8head_three ⟨by omega, k4⟩]
   split
   . rename_i hx;unfold decN;rw [if_neg k1, if_neg (by omega)]
     obtain ⟨g1, g2, g3, g4⟩ := hx;have g4' : ¬ badV (64 * (64 * ((c.toNat : Int) - 224) + (r.getD 0 0).toNat - 128) + (r.getD 1 0).toNat - 128) 2048 = true := by rw [g4]; decide
     rw [badV_iff] at g4';refine .inr ⟨2, rfl, ?_⟩;rw [if_pos (by omega), if_pos (by rw [valid_iff]; omega)]
     simp
   . rename_i hx;refine .inl ⟨rfl, ?_⟩;unfold decN;rw [if_neg k1, if_neg (by omega)]
     by_cases q : c.toNat / 16 = 14 /\ 2 <= r.length /\ (r.getD 0 0).toNat / 64 = 2 /\ (r.getD 1 0).toNat / 64 = 2
     . rw [if_pos q];rw [if_neg];rw [valid_iff];intro hge;refine hx ⟨q.2.1, by omega, by omega, ?_⟩
       rw [Bool.eq_false_iff, ne_eq, badV_iff];omega
     . rw [if_neg q, if_neg (by omega)]
 rw [u8head_four ⟨by omega, by omega⟩]
 split
 . rename_i hx;unfold decN;rw [if_neg k1, if_neg (by omega), if_neg (by omega)]
   obtain ⟨g1, g2, g3, g4, g5⟩ := hx;have g5' : ¬ badV (64 * (64 * (64 * ((c.toNat : Int) - 240) + (r.getD 0 0).toNat - 128) + (r.getD 1 0).toNat - 128) + (r.getD 2 0).toNat - 128) 65536 = true := by rw [g5]; decide
   rw [badV_iff] at g5';refine .inr ⟨3, rfl, ?_⟩;rw [if_pos (by omega), if_pos (by rw [valid_iff]; omega)]
   simp
 . rename_i hx;refine .inl ⟨rfl, ?_⟩;unfold decN;rw [if_neg k1, if_neg (by omega), if_neg (by omega)]
   by_cases q : c.toNat / 8 = 30 /\ 3 <= r.length /\ (r.getD 0 0).toNat / 64 = 2 /\ (r.getD 1 0).toNat / 64 = 2 /\ (r.getD 2 0).toNat / 64 = 2
   . rw [if_pos q];rw [if_neg];rw [valid_iff];intro hge;refine hx ⟨q.2.1, by omega, by omega, by omega, ?_⟩
     rw [Bool.eq_false_iff, ne_eq, badV_iff];omega
   . rw [if_neg q]
theorem validGo_u8 : ∀ (n : Nat) (l : List UInt8), l.length <= n -> Lib.validGoD n l = u8 l
 | 0, l, h => by
  have : l = [] := List.eq_nil_of_length_eq_zero (by omega)
  subst this; rfl
 | n + 1, [], _ => rfl
 | n + 1, c :: r, h => by
  unfold Lib.validGoD;rw [if_neg (by simp), decodeL_eq, u8_cons]
  rw [List.length_cons] at h;rcases heads c r with ⟨h1, h2⟩ | ⟨m, h1, h2, h3⟩
  . rw [h1, h2]; rfl
  . rw [h1, if_neg h3, h2];rw [validGo_u8 n _ (by rw [List.length_drop, List.length_cons]; omega), List.drop_succ_cons]
theorem valid_u8 (l : List UInt8) : Lib.validD l = u8 l := validGo_u8 _ _ (Nat.le_refl _)
end Go.Proofs.YtcdkklgeepkopaaGreatDoorPg
namespace Go.Proofs.YtcdkklgeepkopaaGreatDoorPg
open Go Go.RowKit
def unS (n : Int) : Int := if n % 2 = 0 then n / 2 else -(n / 2) - 1
def sgnL (s : List UInt8) : Int × List UInt8 × Int := if (digL s).2.2 = 0 then (unS (digL s).1, (digL s).2.1, 0) else (0, s, (digL s).2.2)
def rSgn (s : List UInt8) (e : Int) : Int × List UInt8 × Int := if e = 0 then sgnL s else (0, s, e)
theorem unS_sg (n : Int) : unS (sgU n : Nat) = n := by unfold unS sgU; split <;> split <;> omega
theorem sg_unS (n : Nat) : sgU (unS n) = n := by unfold unS sgU; split <;> split <;> omega
theorem digF_bd : ∀ (f i : Nat) (N : Int) (s : List UInt8), i + f = 10 -> 0 <= N -> N < 128 ^ i -> (digF f i N s).2.2 = 0 -> (digF f i N s).1 < 18446744073709551616 := by
 intro f;induction f with
 | zero => intro i N s _ _ _ h; simp [digF] at h
 | succ f ih =>
  intro i N s hi h0 h1 h;cases s with
  | nil => simp [digF] at h
  | cons b r =>
   have hb : b.toNat % 128 < 128 := Nat.mod_lt _ (by decide)
   have hp : (0 : Int) < 128 ^ i := Int.pow_pos (by decide)
   have hd : ((b.toNat % 128 : Nat) : Int) * 128 ^ i <= 127 * 128 ^ i := Int.mul_le_mul_of_nonneg_right (by omega) (Int.le_of_lt hp)
   have hd0 : 0 <= ((b.toNat % 128 : Nat) : Int) * 128 ^ i := Int.mul_nonneg (by omega) (Int.le_of_lt hp)
   have hs : (128 : Int) ^ (i + 1) = 128 ^ i * 128 := Int.pow_succ 128 i;unfold digF at h ⊢;split at h
   . simp at h
   rename_i h9;rw [if_neg h9];split at h
   . rename_i hlt;rw [if_pos hlt];split at h
     . simp at h
     rename_i hz;rw [if_neg hz];show N + ((b.toNat % 128 : Nat) : Int) * 128 ^ i < 18446744073709551616
     by_cases e9 : i = 9
     . subst e9;have hd1 : ((b.toNat % 128 : Nat) : Int) * 128 ^ 9 <= 1 * 128 ^ 9 := Int.mul_le_mul_of_nonneg_right (by omega) (by decide)
       have : (128 : Int) ^ 9 = 9223372036854775808 := by decide
       omega
     . have hle : (128 : Nat) ^ (i + 1) <= 128 ^ 9 := Nat.pow_le_pow_right (by decide) (by omega)
       have h2 : (128 : Int) ^ (i + 1) <= 9223372036854775808 := by
        have : ((128 ^ (i + 1) : Nat) : Int) <= ((128 ^ 9 : Nat) : Int) := Int.ofNat_le.2 hle;simpa using this
       omega
   . rename_i hlt;rw [if_neg hlt];exact ih (i + 1) _ r (by omega) (by omega) (by omega) h
theorem digL_bd {s : List UInt8} (h : (digL s).2.2 = 0) : (digL s).1 < 18446744073709551616 := digF_bd 10 0 0 s rfl (by decide) (by decide) h
theorem rSgn_W {n : Int} (h : -9223372036854775808 <= n /\ n <= 9223372036854775807) (r : List UInt8) : rSgn (sgW n ++ r) 0 = (n, r, 0) := by
 unfold rSgn sgnL sgW;have hb : sgU n < 2 ^ 64 := by unfold sgU; split <;> omega
 rw [if_pos rfl, digL_W hb];simp [unS_sg]
theorem rSgn_ok {s r : List UInt8} {e v : Int} (h : rSgn s e = (v, r, 0)) : e = 0 /\ (-9223372036854775808 <= v /\ v <= 9223372036854775807) /\ s = sgW v ++ r := by
 unfold rSgn at h;split at h
 rotate_left
 . rename_i h0; simp only [Prod.mk.injEq] at h; exact absurd h.2.2 h0
 rename_i h0;refine ⟨h0, ?_⟩;unfold sgnL at h;split at h
 rotate_left
 . rename_i h0; simp only [Prod.mk.injEq] at h; exact absurd h.2.2 h0
 rename_i hd;have hbd := digL_bd hd;rcases hq : digL s with ⟨x, q, y⟩
 rw [hq] at h hd hbd;simp only [Prod.mk.injEq] at h hd hbd;obtain ⟨rfl, rfl, _⟩ := h;subst hd;obtain ⟨n, rfl, hs⟩ := digL_back hq;refine ⟨by unfold unS; split <;> omega, ?_⟩
 unfold sgW;rw [sg_unS]; exact hs
theorem rSgn_bd (s : List UInt8) (e : Int) : -9223372036854775808 <= (rSgn s e).1 /\ (rSgn s e).1 <= 9223372036854775807 := by
 unfold rSgn sgnL;split
 . split
   . rename_i hd;have := digL_bd hd;have := digL_nonneg s;simp only;unfold unS;split <;> omega
   . simp
 . simp
def rBs : Nat -> List UInt8 -> Int -> List Nat × List UInt8 × Int
 | 0, s, e => ([], s, e)
 | j + 1, s, e => ((rBs j s e).1 ++ [(rByt (rBs j s e).2.1 (rBs j s e).2.2).1.toNat], (rByt (rBs j s e).2.1 (rBs j s e).2.2).2)
theorem rBs_len : ∀ (j : Nat) (s : List UInt8) (e : Int), (rBs j s e).1.length = j
 | 0, _, _ => rfl
 | j + 1, s, e => by simp [rBs, rBs_len j s e]
theorem rBs_lt : ∀ (j : Nat) (s : List UInt8) (e : Int), ∀ x ∈ (rBs j s e).1, x < 256
 | 0, _, _ => by simp [rBs]
 | j + 1, s, e => fun x hx => by
  simp only [rBs, List.mem_append, List.mem_singleton] at hx;rcases hx with hx | rfl
  . exact rBs_lt j s e x hx
  . have := rByt_bd (rBs j s e).2.1 (rBs j s e).2.2; omega
theorem rBs_suf : ∀ (j : Nat) (s : List UInt8) (e : Int), (rBs j s e).2.1.length <= s.length
 | 0, _, _ => Nat.le_refl _
 | j + 1, s, e => by
  have := (rByt_len (rBs j s e).2.1 (rBs j s e).2.2).1;have := rBs_suf j s e;simp only [rBs]; omega
theorem rBs_take : ∀ (k j : Nat) (s : List UInt8) (e : Int), j <= k -> (rBs k s e).1.take j = (rBs j s e).1
 | 0, j, s, e, h => by have : j = 0 := by omega
                       subst this; rfl
 | k + 1, j, s, e, h => by
  by_cases hj : j = k + 1
  . subst hj; rw [List.take_of_length_le (by rw [rBs_len]; exact Nat.le_refl _)]
  . rw [<- rBs_take k j s e (by omega)]
    simp only [rBs];rw [List.take_append_of_le_length (by rw [rBs_len]; omega)]
theorem rBs_W : ∀ (j : Nat) (l r : List UInt8), l.length = j -> rBs j (l ++ r) 0 = (l.map UInt8.toNat, r, 0) := by
 have gen : ∀ (j : Nat) (l r : List UInt8), j <= l.length -> rBs j (l ++ r) 0 = ((l.take j).map UInt8.toNat, l.drop j ++ r, 0) := by
  intro j;induction j with
  | zero => intro l r _; simp [rBs]
  | succ j ih =>
   intro l r h;have hg : l[j]? = some l[j] := lgZ (by omega)
   have hdr : l.drop j = l[j] :: l.drop (j + 1) := List.drop_eq_getElem_cons (by omega)
   simp only [rBs];rw [ih l r (by omega)]
   simp only [hdr, List.cons_append, rByt_W];rw [List.take_add_one, hg, List.map_append];rfl
 intro j l r h;rw [gen j l r (by omega), List.take_of_length_le (by omega), List.drop_of_length_le (by omega)]; rfl
theorem rBs_ok : ∀ (j : Nat) (s r : List UInt8) (e : Int) (B : List Nat), rBs j s e = (B, r, 0) -> e = 0 /\ ∃ l : List UInt8, l.length = j /\ s = l ++ r /\ B = l.map UInt8.toNat := by
 intro j;induction j with
 | zero => intro s r e B h; simp only [rBs, Prod.mk.injEq] at h; obtain ⟨rfl, rfl, rfl⟩ := h; exact ⟨rfl, [], rfl, rfl, rfl⟩
 | succ j ih =>
  intro s r e B h;simp only [rBs] at h;rcases hq : rBs j s e with ⟨B', s', e'⟩
  rw [hq] at h;rcases hy : rByt s' e' with ⟨x, q, y⟩
  rw [hy] at h;simp only [Prod.mk.injEq] at h;obtain ⟨rfl, rfl, rfl⟩ := h;obtain ⟨rfl, b, rfl, rfl⟩ := rByt_ok hy;obtain ⟨he, l, hl, rfl, rfl⟩ := ih _ _ _ _ hq;exact ⟨he, l ++ [b], by simp [hl], by simp, by simp⟩
def nulAt (B : List Nat) (i : Nat) : Bool := decide (B.getD (i / 8) 0 / 2 ^ (i % 8) % 2 = 1)
def padOk (B : List Nat) (n : Nat) : Bool := decide (B.getD ((n - 1) / 8) 0 / 2 ^ ((n - 1) % 8 + 1) = 0)
def rVal (k : Int) (nul : Bool) (s : List UInt8) (e : Int) : Val × List UInt8 × Int :=
 if nul then (⟨0, 0, []⟩, s, e)
 else if k = 1 then (⟨k, (rByt s e).1, []⟩, (rByt s e).2)
 else if k = 2 then (⟨k, (rSgn s e).1, []⟩, (rSgn s e).2)
 else (⟨k, 0, (rTxt 4096 s e).1⟩, (rTxt 4096 s e).2)
def kAt (C : List Col) (i : Nat) : Int := ((C[i]?).map Col.k).getD 0
def rVls (C : List Col) (f : Nat -> Bool) : Nat -> List UInt8 -> Int -> List Val × List UInt8 × Int
 | 0, s, e => ([], s, e)
 | i + 1, s, e => ((rVls C f i s e).1 ++ [(rVal (kAt C i) (f i) (rVls C f i s e).2.1 (rVls C f i s e).2.2).1], (rVal (kAt C i) (f i) (rVls C f i s e).2.1 (rVls C f i s e).2.2).2)
def rRow (C : List Col) (s : List UInt8) (e : Int) : Option (List Val) :=
 if padOk (rBs ((C.length + 7) / 8) s e).1 C.length then
  (if (rVls C (nulAt (rBs ((C.length + 7) / 8) s e).1) C.length (rBs ((C.length + 7) / 8) s e).2.1 (rBs ((C.length + 7) / 8) s e).2.2).2.2 = 0 /\
   fitsL C (rVls C (nulAt (rBs ((C.length + 7) / 8) s e).1) C.length (rBs ((C.length + 7) / 8) s e).2.1 (rBs ((C.length + 7) / 8) s e).2.2).1 = true
   then some (rVls C (nulAt (rBs ((C.length + 7) / 8) s e).1) C.length (rBs ((C.length + 7) / 8) s e).2.1 (rBs ((C.length + 7) / 8) s e).2.2).1 else none)
 else none
def rRowS (C : List Col) (s : List UInt8) (e : Int) : List UInt8 × Int :=
 (rVls C (nulAt (rBs ((C.length + 7) / 8) s e).1) C.length (rBs ((C.length + 7) / 8) s e).2.1 (rBs ((C.length + 7) / 8) s e).2.2).2
theorem rVls_len (C : List Col) (f : Nat -> Bool) : ∀ (i : Nat) (s : List UInt8) (e : Int), (rVls C f i s e).1.length = i
 | 0, _, _ => rfl
 | i + 1, s, e => by simp [rVls, rVls_len C f i s e]
theorem rVal_suf (k : Int) (nul : Bool) (s : List UInt8) (e : Int) : (rVal k nul s e).2.1.length <= s.length /\ (rVal k nul s e).1.t.length <= s.length /\ (-9223372036854775808 <= (rVal k nul s e).1.n /\ (rVal k nul s e).1.n <= 9223372036854775807) := by
 unfold rVal;split
 . simp
 split
 . have h1 := (rByt_len s e).1;have := rByt_bd s e;exact ⟨h1, by simp, by simp only; omega, by simp only; omega⟩
 split
 . refine ⟨?_, by simp, rSgn_bd s e⟩
   unfold rSgn sgnL;split
   . split
     . exact digF_len _ _ _ _
     . exact Nat.le_refl _
   . exact Nat.le_refl _
 . have := rTxt_len 4096 s e;exact ⟨this.1, this.2, by simp only; omega, by simp only; omega⟩
theorem rVls_suf (C : List Col) (f : Nat -> Bool) : ∀ (i : Nat) (s : List UInt8) (e : Int), (rVls C f i s e).2.1.length <= s.length /\ ∀ v ∈ (rVls C f i s e).1, v.t.length <= s.length /\ (-9223372036854775808 <= v.n /\ v.n <= 9223372036854775807)
 | 0, s, e => ⟨Nat.le_refl _, fun v hv => by simp [rVls] at hv⟩
 | i + 1, s, e => by
  obtain ⟨h1, h2⟩ := rVls_suf C f i s e;obtain ⟨h3, h4, h5⟩ := rVal_suf (kAt C i) (f i) (rVls C f i s e).2.1 (rVls C f i s e).2.2;refine ⟨by simp only [rVls]; omega, fun v hv => ?_⟩
  simp only [rVls, List.mem_append, List.mem_singleton] at hv;rcases hv with hv | rfl
  . exact h2 v hv
  . exact ⟨by omega, h5⟩
theorem rVal_ok {k : Int} {nul : Bool} {s r : List UInt8} {e : Int} {v : Val} (hk : 1 <= k /\ k <= 4) (h : rVal k nul s e = (v, r, 0)) : e = 0 /\ s = valW v ++ r /\ decide (v.k = 0) = nul := by
 unfold rVal at h;split at h
 . rename_i hn;simp only [Prod.mk.injEq] at h;obtain ⟨rfl, rfl, rfl⟩ := h;exact ⟨rfl, rfl, by rw [hn]; rfl⟩
 rename_i hn;have hn' : nul = false := by simpa using hn
 split at h
 . rename_i h1;rcases hy : rByt s e with ⟨x, q, y⟩
   rw [hy] at h;simp only [Prod.mk.injEq] at h;obtain ⟨rfl, rfl, rfl⟩ := h;obtain ⟨he, b, rfl, rfl⟩ := rByt_ok hy;refine ⟨he, ?_, by rw [hn']; exact decide_eq_false (by simp only; omega)⟩
   unfold valW;rw [if_pos h1];simp only [b8_toNat]; rfl
 split at h
 . rename_i h1 h2;rcases hy : rSgn s e with ⟨x, q, y⟩
   rw [hy] at h;simp only [Prod.mk.injEq] at h;obtain ⟨rfl, rfl, rfl⟩ := h;obtain ⟨he, _, hs⟩ := rSgn_ok hy;refine ⟨he, ?_, by rw [hn']; exact decide_eq_false (by simp only; omega)⟩
   unfold valW;rw [if_neg h1, if_pos h2]; exact hs
 . rename_i h1 h2;rcases hy : rTxt 4096 s e with ⟨x, q, y⟩
   rw [hy] at h;simp only [Prod.mk.injEq] at h;obtain ⟨rfl, rfl, rfl⟩ := h;obtain ⟨he, _, hs⟩ := rTxt_ok hy;refine ⟨he, ?_, by rw [hn']; exact decide_eq_false (by simp only; omega)⟩
   unfold valW;rw [if_neg h1, if_neg h2, if_pos (by simp only; omega)]; exact hs
theorem rVal_W {c : Col} {v : Val} (hs : standsV c v = true) (hn : -9223372036854775808 <= v.n /\ v.n <= 9223372036854775807) (r : List UInt8) : rVal c.k (decide (v.k = 0)) (valW v ++ r) 0 = (v, r, 0) := by
 unfold standsV at hs;simp only [Bool.and_eq_true, Bool.or_eq_true, decide_eq_true_eq] at hs;obtain ⟨hm, hk⟩ := hs;obtain ⟨k, n, t⟩ := v;simp only at *;unfold mayV at hm;simp only at hm;unfold rVal;by_cases h0 : k = 0
 . subst h0;simp only [if_true, Bool.and_eq_true, decide_eq_true_eq] at hm;obtain ⟨rfl, rfl⟩ := hm;rw [if_pos (by decide)]; rfl
 rw [if_neg (by simpa using h0)]
 have hck : c.k = k := by rcases hk with rfl | hk
                          . rfl
                          . exact absurd hk.1 h0
 rw [hck];rw [if_neg h0] at hm;unfold valW;simp only;by_cases h1 : k = 1
 . rw [if_pos h1] at hm;simp only [Bool.and_eq_true, Bool.or_eq_true, decide_eq_true_eq] at hm;obtain ⟨rfl, hn2⟩ := hm;rw [if_pos h1, if_pos h1];simp only [List.cons_append, List.nil_append, rByt_W];rcases hn2 with rfl | rfl <;> rfl
 rw [if_neg h1] at hm;rw [if_neg h1, if_neg h1];by_cases h2 : k = 2
 . rw [if_pos h2] at hm;simp only [decide_eq_true_eq] at hm;subst hm;rw [if_pos h2, if_pos h2, rSgn_W hn]
 rw [if_neg h2] at hm;rw [if_neg h2, if_neg h2];have h34 : k = 3 \/ k = 4 := by
  by_cases h3 : k = 3
  . exact .inl h3
  . rw [if_neg h3] at hm;by_cases h4 : k = 4
    . exact .inr h4
    . rw [if_neg h4] at hm; cases hm
 have hx : n = 0 /\ (t.length : Int) <= 4096 := by
  rcases h34 with rfl | rfl
  . rw [if_pos rfl] at hm;simp only [Bool.and_eq_true, decide_eq_true_eq] at hm;exact ⟨hm.1.2, hm.2⟩
  . rw [if_neg (by decide), if_pos rfl] at hm
    simp only [Bool.and_eq_true, decide_eq_true_eq] at hm;exact hm
 obtain ⟨rfl, ht⟩ := hx;rw [if_pos h34, rTxt_W ht (by omega)]
end Go.Proofs.YtcdkklgeepkopaaGreatDoorPg
namespace Go.Proofs.YtcdkklgeepkopaaGreatDoorPg
open Go Go.RowKit
theorem nulS_bit (r : List Val) (j : Nat) : ∀ (t u : Nat), u < t -> (nulS r j t / 2 ^ u % 2 = 1 ↔ ((r[8 * j + u]?).map Val.k) = some 0)
 | 0, _, h => by omega
 | t + 1, u, h => by
  have hlt := nulS_lt r j t;simp only [nulS];by_cases hu : u = t
  . subst hu;split
    . rename_i hb;rw [Nat.add_div_right _ (Nat.two_pow_pos u), Nat.div_eq_of_lt hlt]; simp [hb]
    . rename_i hb;rw [Nat.add_zero, Nat.div_eq_of_lt hlt]; simp [hb]
  . have ih := nulS_bit r j t u (by omega)
    rw [<- ih];split
    . have e : 2 ^ t = 2 ^ u * (2 * 2 ^ (t - u - 1)) := by
       rw [<- Nat.pow_succ', <- Nat.pow_add]; congr 1; omega
      rw [e, Nat.add_mul_div_left _ _ (Nat.two_pow_pos u), Nat.add_mul_mod_self_left]
    . rw [Nat.add_zero]
theorem nulS_eq (r : List Val) (j x : Nat) : ∀ (t : Nat), (∀ u, u < t -> (x / 2 ^ u % 2 = 1 ↔ ((r[8 * j + u]?).map Val.k) = some 0)) -> nulS r j t = x % 2 ^ t
 | 0, _ => by simp [nulS, Nat.mod_one]
 | t + 1, h => by
  have ih := nulS_eq r j x t fun u hu => h u (by omega)
  have hb := h t (by omega)
  simp only [nulS];rw [ih, Nat.mod_pow_succ];split
  . rename_i hx;rw [hb.2 hx]; simp
  . rename_i hx;have : x / 2 ^ t % 2 = 0 := by
     have : ¬ x / 2 ^ t % 2 = 1 := fun e => hx (hb.1 e)
     omega
    rw [this, Nat.mul_zero]
theorem nulW_get (r : List Val) {j : Nat} (h : j < (r.length + 7) / 8) : ((nulW r).map UInt8.toNat).getD j 0 = nulS r j 8 := by
 unfold nulW;rw [List.getD_eq_getElem?_getD, List.map_map, List.getElem?_map, List.getElem?_range h];have := nulS_lt r j 8;simp only [Option.map_some, Option.getD_some, Function.comp];show (UInt8.ofNat (nulS r j 8)).toNat = _
 rw [UInt8.toNat_ofNat'];exact Nat.mod_eq_of_lt this
theorem nulAt_W {r : List Val} {i : Nat} {v : Val} (h : r[i]? = some v) : nulAt ((nulW r).map UInt8.toNat) i = decide (v.k = 0) := by
 have hlt := (liZ.1 h).1;unfold nulAt;rw [nulW_get r (by omega)]
 have := nulS_bit r (i / 8) 8 (i % 8) (by omega)
 rw [show 8 * (i / 8) + i % 8 = i by omega, h] at this
 simp only [Option.map_some, Option.some.injEq] at this;exact decide_eq_decide.2 this
theorem nulS_small (r : List Val) (j : Nat) : ∀ t s, r.length <= 8 * j + s -> s <= t -> nulS r j t < 2 ^ s := fun t s h1 h2 => by
 rw [nulS_end r j s t h1 h2]; exact nulS_lt r j s
theorem padOk_W {r : List Val} (h : r ≠ []) : padOk ((nulW r).map UInt8.toNat) r.length = true := by
 have hp := List.length_pos_iff.2 h;unfold padOk;rw [nulW_get r (by omega)]
 refine decide_eq_true (Nat.div_eq_of_lt (nulS_small r _ 8 _ (by omega) (by omega)))
theorem nul_back {vs : List Val} {l : List UInt8} (h0 : vs ≠ []) (hl : l.length = (vs.length + 7) / 8) (hp : padOk (l.map UInt8.toNat) vs.length = true)
 (hn : ∀ i v, vs[i]? = some v -> decide (v.k = 0) = nulAt (l.map UInt8.toNat) i) : nulW vs = l := by
 have hvp := List.length_pos_iff.2 h0;refine List.ext_getElem? fun j => ?_
 by_cases hj : j < (vs.length + 7) / 8
 rotate_left
 . rw [List.getElem?_eq_none (by rw [nulW_len]; omega), List.getElem?_eq_none (by omega)]
 have hg : l[j]? = some l[j] := lgZ (by omega)
 generalize l[j] = b at hg;have hgd : (l.map UInt8.toNat).getD j 0 = b.toNat := by rw [List.getD_eq_getElem?_getD, List.getElem?_map, hg]; rfl
 have hb : b.toNat < 256 := b.toNat_lt;have key : nulS vs j 8 = b.toNat := by
  rw [nulS_eq vs j b.toNat 8, Nat.mod_eq_of_lt hb];intro u hu;by_cases hlt : 8 * j + u < vs.length
  . have hv : vs[8 * j + u]? = some vs[8 * j + u] := lgZ hlt;have := hn _ _ hv;rw [hv];simp only [Option.map_some, Option.some.injEq];unfold nulAt at this;rw [show (8 * j + u) / 8 = j by omega, show (8 * j + u) % 8 = u by omega, hgd] at this
    exact (decide_eq_decide.1 this).symm
  . rw [List.getElem?_eq_none (by omega)]
    simp only [Option.map_none, reduceCtorEq, iff_false];unfold padOk at hp;rw [show (vs.length - 1) / 8 = j by omega, hgd] at hp
    have hz := dtZ hp;have hsm : b.toNat < 2 ^ ((vs.length - 1) % 8 + 1) := by
     rcases Nat.div_eq_zero_iff.1 hz with h | h
     . exact absurd h (Nat.ne_of_gt (Nat.two_pow_pos _))
     . exact h
    have hle : 2 ^ ((vs.length - 1) % 8 + 1) <= 2 ^ u := Nat.pow_le_pow_right (by decide) (by omega)
    rw [Nat.div_eq_of_lt (Nat.lt_of_lt_of_le hsm hle)];decide
 rw [hg];unfold nulW;rw [List.getElem?_map, List.getElem?_range hj, Option.map_some, key];simp
theorem kAt_get {C : List Col} {i : Nat} {c : Col} (h : C[i]? = some c) : kAt C i = c.k := by unfold kAt; rw [h]; rfl
theorem rVls_ok {C : List Col} {f : Nat -> Bool} (hC : ∀ c ∈ C, 1 <= c.k /\ c.k <= 4) : ∀ (i : Nat) (s r : List UInt8) (e : Int) (vs : List Val), i <= C.length -> rVls C f i s e = (vs, r, 0) ->
 e = 0 /\ s = vs.flatMap valW ++ r /\ ∀ j v, vs[j]? = some v -> decide (v.k = 0) = f j := by
 intro i;induction i with
 | zero => intro s r e vs _ h; simp only [rVls, Prod.mk.injEq] at h; obtain ⟨rfl, rfl, rfl⟩ := h; exact ⟨rfl, rfl, fun j v h => by simp at h⟩
 | succ i ih =>
  intro s r e vs hi h;simp only [rVls] at h;have hg : C[i]? = some C[i] := lgZ (by omega)
  have hk := hC _ (List.getElem_mem (show i < C.length by omega))
  rw [kAt_get hg] at h;have hle := rVls_len C f i s e;rcases hq : rVls C f i s e with ⟨vs', s', e'⟩
  rw [hq] at h hle;rcases hy : rVal C[i].k (f i) s' e' with ⟨v, q, y⟩
  rw [hy] at h;simp only [Prod.mk.injEq] at h;obtain ⟨rfl, rfl, rfl⟩ := h;obtain ⟨rfl, rfl, hn⟩ := rVal_ok hk hy;obtain ⟨he, rfl, hall⟩ := ih _ _ _ _ (by omega) hq
  refine ⟨he, by simp, fun j w hw => ?_⟩
  simp only at hle;by_cases hj : j < vs'.length
  . rw [List.getElem?_append_left hj] at hw; exact hall j w hw
  . rw [List.getElem?_append_right (by omega)] at hw
    have : j - vs'.length = 0 := by
     have := (liZ.1 hw).1;simp at this; omega
    rw [this] at hw;cases hw;have : j = i := by omega
    subst this; exact hn
theorem rVls_W {C : List Col} {f : Nat -> Bool} {vs : List Val} (hst : ∀ (i : Nat) c v, C[i]? = some c -> vs[i]? = some v -> standsV c v = true) (hl : vs.length = C.length)
 (hf : ∀ (i : Nat) v, vs[i]? = some v -> f i = decide (v.k = 0)) (hn : ∀ v ∈ vs, -9223372036854775808 <= v.n /\ v.n <= 9223372036854775807) (r : List UInt8) :
 ∀ i, i <= vs.length -> rVls C f i (vs.flatMap valW ++ r) 0 = (vs.take i, (vs.drop i).flatMap valW ++ r, 0)
 | 0, _ => by simp [rVls]
 | i + 1, h => by
  have hg : C[i]? = some C[i] := lgZ (by omega)
  have hv : vs[i]? = some vs[i] := lgZ (by omega)
  have hdr : vs.drop i = vs[i] :: vs.drop (i + 1) := List.drop_eq_getElem_cons (by omega)
  simp only [rVls];rw [rVls_W hst hl hf hn r i (by omega), kAt_get hg, hf i _ hv]
  simp only [hdr, List.flatMap_cons, List.append_assoc];rw [rVal_W (hst i _ _ hg hv) (hn _ (List.getElem_mem (by omega)))]
  rw [List.take_add_one, hv];rfl
theorem fits_st {l : List Col} {vs : List Val} (h : fitsL l vs = true) : vs.length = l.length /\ ∀ (i : Nat) c v, l[i]? = some c -> vs[i]? = some v -> standsV c v = true := by
 unfold fitsL at h;rw [Bool.and_eq_true, decide_eq_true_eq, List.all_eq_true] at h;refine ⟨h.1, fun i c v hc hv => ?_⟩
 have := h.2 i (List.mem_range.2 (liZ.1 hv).1);rw [stAt_some hc hv] at this; exact this
theorem rRow_W {C : List Col} {vs : List Val} (h : fitsL C vs = true) (h0 : vs ≠ []) (hn : ∀ v ∈ vs, -9223372036854775808 <= v.n /\ v.n <= 9223372036854775807) (r : List UInt8) :
 rRow C (rowW vs ++ r) 0 = some vs /\ rRowS C (rowW vs ++ r) 0 = (r, 0) := by
 obtain ⟨hl, hst⟩ := fits_st h;have hb : rBs ((C.length + 7) / 8) (rowW vs ++ r) 0 = ((nulW vs).map UInt8.toNat, vs.flatMap valW ++ r, 0) := by
  unfold rowW;rw [List.append_assoc];exact rBs_W _ _ _ (by rw [nulW_len, hl])
 have hv : rVls C (nulAt ((nulW vs).map UInt8.toNat)) C.length (vs.flatMap valW ++ r) 0 = (vs, r, 0) := by
  rw [<- hl, rVls_W hst hl (fun i v hv => nulAt_W hv) hn r vs.length (Nat.le_refl _)]
  simp
 unfold rRow rRowS;rw [hb];simp only [hv];rw [<- hl, padOk_W h0];simp [h]
theorem rRow_ok {C : List Col} {vs : List Val} {s : List UInt8} {e : Int} (hC : ∀ c ∈ C, 1 <= c.k /\ c.k <= 4) (h0 : C ≠ []) (h : rRow C s e = some vs) :
 e = 0 /\ s = rowW vs ++ (rRowS C s e).1 /\ (rRowS C s e).2 = 0 /\ fitsL C vs = true := by
 unfold rRow at h;split at h
 rotate_left
 . cases h
 rename_i hp;split at h
 rotate_left
 . cases h
 rename_i hf;unfold rRowS;rcases hb : rBs ((C.length + 7) / 8) s e with ⟨B, s1, e1⟩
 rw [hb] at h hf hp;rcases hv : rVls C (nulAt B) C.length s1 e1 with ⟨vs', s2, e2⟩
 simp only at h hf hp ⊢;rw [hv] at h hf;simp only at h hf ⊢;obtain ⟨rfl, hf⟩ := hf;cases h;obtain ⟨rfl, rfl, hn⟩ := rVls_ok hC _ _ _ _ _ (Nat.le_refl _) hv;obtain ⟨rfl, l, hl, rfl, rfl⟩ := rBs_ok _ _ _ _ _ hb;have hlen := (fits_st hf).1;refine ⟨rfl, ?_, rfl, hf⟩;unfold rowW;rw [nul_back (l := l) (fun e => by rw [e] at hlen; exact h0 (List.length_eq_zero_iff.1 hlen.symm)) (by rw [hl, hlen]) (by rw [hlen]; exact hp) hn, List.append_assoc]
theorem rRow_bd {C : List Col} {vs : List Val} {s : List UInt8} {e : Int} (h : rRow C s e = some vs) : vs.length = C.length /\ ∀ v ∈ vs, v.t.length <= s.length /\ (-9223372036854775808 <= v.n /\ v.n <= 9223372036854775807) := by
 unfold rRow at h;split at h
 rotate_left
 . cases h
 split at h
 rotate_left
 . cases h
 cases h;have h1 := rBs_suf ((C.length + 7) / 8) s e;refine ⟨rVls_len _ _ _ _ _, fun v hv => ?_⟩
 obtain ⟨h2, h3⟩ := (rVls_suf C (nulAt (rBs ((C.length + 7) / 8) s e).1) C.length (rBs ((C.length + 7) / 8) s e).2.1 (rBs ((C.length + 7) / 8) s e).2.2).2 v hv;exact ⟨by omega, h3⟩
end Go.Proofs.YtcdkklgeepkopaaGreatDoorPg
