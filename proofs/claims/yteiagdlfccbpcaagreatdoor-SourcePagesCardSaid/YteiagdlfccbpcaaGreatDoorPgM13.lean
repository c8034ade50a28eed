/- Own texts, laid together: PgU8, PgIm2, PgIm3. -/
import Derived.Test.YteiagdlfccbpcaaGreatDoorPgM12
import Derived.Test.YteiagdlfccbpcaaGreatDoorPgM7
import Derived.Lib.ValidU
set_option linter.unusedSimpArgs false
namespace Go.Proofs.YteiagdlfccbpcaaGreatDoorPg
open Go Go.RowKit
section
theorem decodeL_eq (l:List UInt8):Lib.decodeL l = decL l:=by
 unfold Lib.decodeL;have:=@dec_eq Globs.none ⟨l.toArray⟩ 0;simpa using this
theorem getD_cons (c:UInt8) (r:List UInt8) (k:Nat):(c :: r).getD (k + 1) 0 = r.getD k 0:=by simp [List.getD]
def decN (c n x0 x1 x2:Nat):Nat × Nat :=
 if c < 128 then (c,1)
 else if c / 32 = 6 /\ 1 <= n /\ x0 / 64 = 2 then (if 128 <= (c % 32) * 64 + x0 % 64 then ((c % 32) * 64 + x0 % 64,2) else (65533,1))
 else if c / 16 = 14 /\ 2 <= n /\ x0 / 64 = 2 /\ x1 / 64 = 2 then (if 2048 <= (c % 16) * 4096 + x0 % 64 * 64 + x1 % 64 /\ Utf8.valid (((c % 16) * 4096 + x0 % 64 * 64 + x1 % 64:Nat):Int) = true then ((c % 16) * 4096 + x0 % 64 * 64 + x1 % 64,3) else (65533,1))
 else if c / 8 = 30 /\ 3 <= n /\ x0 / 64 = 2 /\ x1 / 64 = 2 /\ x2 / 64 = 2 then (if 65536 <= (c % 8) * 262144 + x0 % 64 * 4096 + x1 % 64 * 64 + x2 % 64 /\ Utf8.valid (((c % 8) * 262144 + x0 % 64 * 4096 + x1 % 64 * 64 + x2 % 64:Nat):Int) = true then ((c % 8) * 262144 + x0 % 64 * 4096 + x1 % 64 * 64 + x2 % 64,4) else (65533,1))
 else (65533,1)
theorem decL_N (c:UInt8) (r:List UInt8):decL (c :: r) = decN c.toNat r.length (r.getD 0 0).toNat (r.getD 1 0).toNat (r.getD 2 0).toNat:=by
 unfold decL decN;simp only [getD_cons,List.length_cons,List.getD_cons_zero,Utf8.runeError,beq_iff_eq,Bool.and_eq_true,decide_eq_true_eq,ge_iff_le,Nat.lt_add_one_iff,Nat.lt_add_left_iff_pos];generalize (r.getD 0 0).toNat = x0;generalize (r.getD 1 0).toNat = x1;generalize (r.getD 2 0).toNat = x2;have c3:((c.toNat / 16 = 14 /\ 1 <= r.length /\ x0 / 64 = 2) /\ 2 <= r.length /\ x1 / 64 = 2) ↔ (c.toNat / 16 = 14 /\ 2 <= r.length /\ x0 / 64 = 2 /\ x1 / 64 = 2):=by omega
 have c4:(((c.toNat / 8 = 30 /\ 1 <= r.length /\ x0 / 64 = 2) /\ 2 <= r.length /\ x1 / 64 = 2) /\ 3 <= r.length /\ x2 / 64 = 2) ↔ (c.toNat / 8 = 30 /\ 3 <= r.length /\ x0 / 64 = 2 /\ x1 / 64 = 2 /\ x2 / 64 = 2):=by omega
 simp only [c3,c4]
theorem valid_iff (n:Nat):Utf8.valid (n:Int) = true ↔ (n < 55296 \/ (57344 <= n /\ n <= 1114111)):=by
 unfold Utf8.valid;simp;omega
theorem badV_iff (v least:Int):badV v least = true ↔ (v < least \/ 1114111 < v \/ (55296 <= v /\ v <= 57343)):=by
 unfold badV;simp
theorem get_getD {r:List UInt8} {k:Nat} (h:k < r.length):r[k]? = some (r.getD k 0):=by simp [List.getD,lgZ h]
theorem cv_step {r:List UInt8} {v0:Int} {k:Nat} {v:Int} (h:cv r v0 k = some v) (hk:k < r.length) :
 cv r v0 (k + 1) = if 128 <= (r.getD k 0).toNat /\ (r.getD k 0).toNat < 192 then some (64 * v + (r.getD k 0).toNat - 128) else none:=by
 simp only [cv,h,get_getD hk]
theorem u8head_two {c:UInt8} {r:List UInt8} (h:192 <= c.toNat /\ c.toNat < 224):u8head c r = if 1 <= r.length /\ (128 <= (r.getD 0 0).toNat /\ (r.getD 0 0).toNat < 192) /\ badV (64 * ((c.toNat:Int) - 192) + (r.getD 0 0).toNat - 128) 128 = false then some 1 else none:=by
 have hl:lead (c.toNat:Int) = some (1,128,(c.toNat:Int) - 192):=by unfold lead; rw [if_neg (by omega),if_pos (by omega)]
 unfold u8head;rw [if_neg (by omega),hl]
 by_cases n1:1 <= r.length
 rotate_left
 . simp only [if_pos (show r.length < 1 by omega)]; rw [if_neg (by omega)]
 simp only [if_neg (show ¬ r.length < 1 by omega)]
 have s1:=cv_step (r:=r) (v0:=(c.toNat:Int) - 192) (v:=(c.toNat:Int) - 192) (k:=0) rfl (by omega)
 simp only [Nat.zero_add,Nat.reduceAdd] at s1;by_cases a0:128 <= (r.getD 0 0).toNat /\ (r.getD 0 0).toNat < 192
 rotate_left
 . rw [if_neg a0] at s1;simp only [s1]; rw [if_neg (by intro hx; exact a0 hx.2.1)]
 rw [if_pos a0] at s1;simp only [s1];cases hb:badV (64 * ((c.toNat:Int) - 192) + (r.getD 0 0).toNat - 128) 128
 . simp only [Bool.false_eq_true,if_false]; rw [if_pos ⟨n1,a0,trivial⟩]
 . simp
theorem u8head_three {c:UInt8} {r:List UInt8} (h:224 <= c.toNat /\ c.toNat < 240):u8head c r = if 2 <= r.length /\ (128 <= (r.getD 0 0).toNat /\ (r.getD 0 0).toNat < 192) /\ (128 <= (r.getD 1 0).toNat /\ (r.getD 1 0).toNat < 192) /\
 badV (64 * (64 * ((c.toNat:Int) - 224) + (r.getD 0 0).toNat - 128) + (r.getD 1 0).toNat - 128) 2048 = false then some 2 else none:=by
 have hl:lead (c.toNat:Int) = some (2,2048,(c.toNat:Int) - 224):=by unfold lead; rw [if_neg (by omega),if_neg (by omega),if_pos (by omega)]
 unfold u8head;rw [if_neg (by omega),hl]
 by_cases n1:2 <= r.length
 rotate_left
 . simp only [if_pos (show r.length < 2 by omega)]; rw [if_neg (by omega)]
 simp only [if_neg (show ¬ r.length < 2 by omega)]
 have s1:=cv_step (r:=r) (v0:=(c.toNat:Int) - 224) (v:=(c.toNat:Int) - 224) (k:=0) rfl (by omega)
 simp only [Nat.zero_add,Nat.reduceAdd] at s1;by_cases a0:128 <= (r.getD 0 0).toNat /\ (r.getD 0 0).toNat < 192
 rotate_left
 . rw [if_neg a0] at s1;simp only [cv_none s1 (m:=2) (by omega)]; rw [if_neg (by intro hx; exact a0 hx.2.1)]
 rw [if_pos a0] at s1;have s2:=cv_step s1 (by omega)
 simp only [Nat.reduceAdd] at s2;by_cases a1:128 <= (r.getD 1 0).toNat /\ (r.getD 1 0).toNat < 192
 rotate_left
 . rw [if_neg a1] at s2;simp only [s2]; rw [if_neg (by intro hx; exact a1 hx.2.2.1)]
 rw [if_pos a1] at s2;simp only [s2];cases hb:badV (64 * (64 * ((c.toNat:Int) - 224) + (r.getD 0 0).toNat - 128) + (r.getD 1 0).toNat - 128) 2048
 . simp only [Bool.false_eq_true,if_false]; rw [if_pos ⟨n1,a0,a1,trivial⟩]
 . simp
theorem u8head_four {c:UInt8} {r:List UInt8} (h:240 <= c.toNat /\ c.toNat < 248):u8head c r = if 3 <= r.length /\ (128 <= (r.getD 0 0).toNat /\ (r.getD 0 0).toNat < 192) /\ (128 <= (r.getD 1 0).toNat /\ (r.getD 1 0).toNat < 192) /\ (128 <= (r.getD 2 0).toNat /\ (r.getD 2 0).toNat < 192) /\
 badV (64 * (64 * (64 * ((c.toNat:Int) - 240) + (r.getD 0 0).toNat - 128) + (r.getD 1 0).toNat - 128) + (r.getD 2 0).toNat - 128) 65536 = false then some 3 else none:=by
 have hl:lead (c.toNat:Int) = some (3,65536,(c.toNat:Int) - 240):=by unfold lead; rw [if_neg (by omega),if_neg (by omega),if_neg (by omega),if_pos (by omega)]
 unfold u8head;rw [if_neg (by omega),hl]
 by_cases n1:3 <= r.length
 rotate_left
 . simp only [if_pos (show r.length < 3 by omega)]; rw [if_neg (by omega)]
 simp only [if_neg (show ¬ r.length < 3 by omega)]
 have s1:=cv_step (r:=r) (v0:=(c.toNat:Int) - 240) (v:=(c.toNat:Int) - 240) (k:=0) rfl (by omega)
 simp only [Nat.zero_add,Nat.reduceAdd] at s1;by_cases a0:128 <= (r.getD 0 0).toNat /\ (r.getD 0 0).toNat < 192
 rotate_left
 . rw [if_neg a0] at s1;simp only [cv_none s1 (m:=3) (by omega)]; rw [if_neg (by intro hx; exact a0 hx.2.1)]
 rw [if_pos a0] at s1;have s2:=cv_step s1 (by omega)
 simp only [Nat.reduceAdd] at s2;by_cases a1:128 <= (r.getD 1 0).toNat /\ (r.getD 1 0).toNat < 192
 rotate_left
 . rw [if_neg a1] at s2;simp only [cv_none s2 (m:=3) (by omega)]; rw [if_neg (by intro hx; exact a1 hx.2.2.1)]
 rw [if_pos a1] at s2;have s3:=cv_step s2 (by omega)
 simp only [Nat.reduceAdd] at s3;by_cases a2:128 <= (r.getD 2 0).toNat /\ (r.getD 2 0).toNat < 192
 rotate_left
 . rw [if_neg a2] at s3;simp only [s3]; rw [if_neg (by intro hx; exact a2 hx.2.2.2.1)]
 rw [if_pos a2] at s3;simp only [s3];cases hb:badV (64 * (64 * (64 * ((c.toNat:Int) - 240) + (r.getD 0 0).toNat - 128) + (r.getD 1 0).toNat - 128) + (r.getD 2 0).toNat - 128) 65536
 . simp only [Bool.false_eq_true,if_false]; rw [if_pos ⟨n1,a0,a1,a2,trivial⟩]
 . simp
theorem u8head_asc {c:UInt8} {r:List UInt8} (h:c.toNat < 128):u8head c r = some 0:=by
 unfold u8head; rw [if_pos (by omega)]
theorem u8head_none {c:UInt8} {r:List UInt8} (h:128 <= c.toNat) (h2:c.toNat < 192 \/ 248 <= c.toNat):u8head c r = none:=by
 have hl:lead (c.toNat:Int) = none:=by
  unfold lead;rcases h2 with h2 | h2
  . rw [if_pos (by omega)]
  . rw [if_neg (by omega),if_neg (by omega),if_neg (by omega),if_neg (by omega)]
 unfold u8head;rw [if_neg (by omega),hl]
theorem heads (c:UInt8) (r:List UInt8):(u8head c r = none /\ decL (c :: r) = (65533,1)) \/ ∃ n,u8head c r = some n /\ (decL (c :: r)).2 = n + 1 /\ ¬ ((decL (c :: r)).1 = 65533 /\ (decL (c :: r)).2 = 1):=by
 have hc:c.toNat < 256:=c.toNat_lt;have b0:(r.getD 0 0).toNat < 256:=(r.getD 0 0).toNat_lt;have b1:(r.getD 1 0).toNat < 256:=(r.getD 1 0).toNat_lt;have b2:(r.getD 2 0).toNat < 256:=(r.getD 2 0).toNat_lt;rw [decL_N];by_cases k1:c.toNat < 128
 . refine .inr ⟨0,u8head_asc k1,?_⟩;unfold decN; rw [if_pos k1]; simp; omega
 by_cases k2:c.toNat < 192 \/ 248 <= c.toNat
 . refine .inl ⟨u8head_none (by omega) k2,?_⟩
   unfold decN; rw [if_neg k1,if_neg (by omega),if_neg (by omega),if_neg (by omega)]
 by_cases k3:c.toNat < 224
 . rw [u8head_two ⟨by omega,k3⟩]
   split
   . rename_i hx;unfold decN;rw [if_neg k1];obtain ⟨g1,g2,g3⟩:=hx;have g3' : ¬ badV (64 * ((c.toNat:Int) - 192) + (r.getD 0 0).toNat - 128) 128 = true:=by rw [g3]; decide
     rw [badV_iff] at g3';refine .inr ⟨1,rfl,?_⟩;rw [if_pos (by omega),if_pos (by omega)]
     simp
   . rename_i hx;refine .inl ⟨rfl,?_⟩;unfold decN;rw [if_neg k1];by_cases q:c.toNat / 32 = 6 /\ 1 <= r.length /\ (r.getD 0 0).toNat / 64 = 2
     . rw [if_pos q];rw [if_neg];intro hge;refine hx ⟨q.2.1,by omega,?_⟩
       rw [Bool.eq_false_iff,ne_eq,badV_iff];omega
     . rw [if_neg q,if_neg (by omega),if_neg (by omega)]
 by_cases k4:c.toNat < 240
 . rw [u8head_three ⟨by omega,k4⟩]
   split
   . rename_i hx;unfold decN;rw [if_neg k1,if_neg (by omega)]
     obtain ⟨g1,g2,g3,g4⟩:=hx;have g4' : ¬ badV (64 * (64 * ((c.toNat:Int) - 224) + (r.getD 0 0).toNat - 128) + (r.getD 1 0).toNat - 128) 2048 = true:=by rw [g4]; decide
     rw [badV_iff] at g4';refine .inr ⟨2,rfl,?_⟩;rw [if_pos (by omega),if_pos (by rw [valid_iff]; omega)]
     simp
   . rename_i hx;refine .inl ⟨rfl,?_⟩;unfold decN;rw [if_neg k1,if_neg (by omega)]
     by_cases q:c.toNat / 16 = 14 /\ 2 <= r.length /\ (r.getD 0 0).toNat / 64 = 2 /\ (r.getD 1 0).toNat / 64 = 2
     . rw [if_pos q];rw [if_neg];rw [valid_iff];intro hge;refine hx ⟨q.2.1,by omega,by omega,?_⟩
       rw [Bool.eq_false_iff,ne_eq,badV_iff];omega
     . rw [if_neg q,if_neg (by omega)]
 rw [u8head_four ⟨by omega,by omega⟩]
 split
 . rename_i hx;unfold decN;rw [if_neg k1,if_neg (by omega),if_neg (by omega)]
   obtain ⟨g1,g2,g3,g4,g5⟩:=hx;have g5' : ¬ badV (64 * (64 * (64 * ((c.toNat:Int) - 240) + (r.getD 0 0).toNat - 128) + (r.getD 1 0).toNat - 128) + (r.getD 2 0).toNat - 128) 65536 = true:=by rw [g5]; decide
   rw [badV_iff] at g5';refine .inr ⟨3,rfl,?_⟩;rw [if_pos (by omega),if_pos (by rw [valid_iff]; omega)]
   simp
 . rename_i hx;refine .inl ⟨rfl,?_⟩;unfold decN;rw [if_neg k1,if_neg (by omega),if_neg (by omega)]
   by_cases q:c.toNat / 8 = 30 /\ 3 <= r.length /\ (r.getD 0 0).toNat / 64 = 2 /\ (r.getD 1 0).toNat / 64 = 2 /\ (r.getD 2 0).toNat / 64 = 2
   . rw [if_pos q];rw [if_neg];rw [valid_iff];intro hge;refine hx ⟨q.2.1,by omega,by omega,by omega,?_⟩
     rw [Bool.eq_false_iff,ne_eq,badV_iff];omega
   . rw [if_neg q]
theorem validGo_u8:∀ (n:Nat) (l:List UInt8),l.length <= n -> Lib.validGoD n l = u8 l
 | 0,l,h=>by
  have:l = []:=List.eq_nil_of_length_eq_zero (by omega)
  subst this; rfl
 | n + 1,[],_=>rfl
 | n + 1,c :: r,h=>by
  unfold Lib.validGoD;rw [if_neg (by simp),decodeL_eq,u8_cons]
  rw [List.length_cons] at h;rcases heads c r with ⟨h1,h2⟩ | ⟨m,h1,h2,h3⟩
  . rw [h1,h2]; rfl
  . rw [h1,if_neg h3,h2];rw [validGo_u8 n _ (by rw [List.length_drop,List.length_cons]; omega),List.drop_succ_cons]
theorem valid_u8 (l:List UInt8):Lib.validD l = u8 l:=validGo_u8 _ _ (Nat.le_refl _)
end
section
end
section
end
end Go.Proofs.YteiagdlfccbpcaaGreatDoorPg
