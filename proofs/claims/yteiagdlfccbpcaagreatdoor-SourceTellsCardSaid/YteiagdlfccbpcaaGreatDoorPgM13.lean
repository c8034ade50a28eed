/- Own texts, laid together: PgU8, PgIm2, PgIm3. -/
import Derived.Test.YteiagdlfccbpcaaGreatDoorPgM12
import Derived.Test.YteiagdlfccbpcaaGreatDoorPgM7
import Derived.Lib.ValidU
set_option linter.unusedSimpArgs false
namespace Go.Proofs.YteiagdlfccbpcaaGreatDoorPg
open Go Go.RowKit
section
theorem AR (l:List UInt8):Lib.decodeL l=gH l:=by
 unfold Lib.decodeL;have:=@EB Globs.none ⟨l.toArray⟩ 0;simpa using this
theorem Du (c:UInt8) (r:List UInt8) (k:Nat):(c::r).getD (k+1) 0=r.getD k 0:=by simp[List.getD]
def tX (c n x0 x1 x2:Nat):Nat × Nat :=
 if c<128 then(c,1)
 else if c / 32=6/\1<=n/\x0 / 64=2 then(if 128<=(c % 32)*64+x0 % 64 then((c % 32)*64+x0 % 64,2)else(65533,1))
 else if c / 16=14/\2<=n/\x0 / 64=2/\x1 / 64=2 then(if 2048<=(c % 16)*4096+x0 % 64*64+x1 % 64/\Utf8.valid (((c % 16)*4096+x0 % 64*64+x1 % 64:Nat):Int)=true then((c % 16)*4096+x0 % 64*64+x1 % 64,3)else(65533,1))
 else if c / 8=30/\3<=n/\x0 / 64=2/\x1 / 64=2/\x2 / 64=2 then(if 65536<=(c % 8)*262144+x0 % 64*4096+x1 % 64*64+x2 % 64/\Utf8.valid (((c % 8)*262144+x0 % 64*4096+x1 % 64*64+x2 % 64:Nat):Int)=true then((c % 8)*262144+x0 % 64*4096+x1 % 64*64+x2 % 64,4)else(65533,1))
 else(65533,1)
theorem Jg (c:UInt8) (r:List UInt8):gH (c::r)=tX c.toNat r.length (r.getD 0 0).toNat (r.getD 1 0).toNat (r.getD 2 0).toNat:=by
 unfold gH tX;simp only[Du,List.length_cons,List.getD_cons_zero,Utf8.runeError,beq_iff_eq,Bool.and_eq_true,decide_eq_true_eq,ge_iff_le,Nat.lt_add_one_iff,Nat.lt_add_left_iff_pos];generalize (r.getD 0 0).toNat=x0;generalize (r.getD 1 0).toNat=x1;generalize (r.getD 2 0).toNat=x2;have c3:((c.toNat / 16=14/\1<=r.length/\x0 / 64=2)/\2<=r.length/\x1 / 64=2) ↔ (c.toNat / 16=14/\2<=r.length/\x0 / 64=2/\x1 / 64=2):=by omega
 have c4:(((c.toNat / 8=30/\1<=r.length/\x0 / 64=2)/\2<=r.length/\x1 / 64=2)/\3<=r.length/\x2 / 64=2) ↔ (c.toNat / 8=30/\3<=r.length/\x0 / 64=2/\x1 / 64=2/\x2 / 64=2):=by omega
 simp only[c3,c4]
theorem l9 (n:Nat):Utf8.valid (n:Int)=true ↔ (n<55296\/(57344<=n/\n<=1114111)):=by
 unfold Utf8.valid;simp;omega
theorem ju (v least:Int):jj v least=true ↔ (v<least\/1114111<v\/(55296<=v/\v<=57343)):=by
 unfold jj;simp
theorem E0 {r:List UInt8} {k:Nat} (h:k<r.length):r[k]? = some (r.getD k 0):=by simp[List.getD,aS h]
theorem lS {r:List UInt8} {v0:Int} {k:Nat} {v:Int} (h:cv r v0 k=some v) (hk:k<r.length) :
 cv r v0 (k+1)=if 128<=(r.getD k 0).toNat/\(r.getD k 0).toNat<192 then some (64*v+(r.getD k 0).toNat-128)else none:=by
 simp only[cv,h,E0 hk]
theorem BC {c:UInt8} {r:List UInt8} (h:192<=c.toNat/\c.toNat<224):dN c r=if 1<=r.length/\(128<=(r.getD 0 0).toNat/\(r.getD 0 0).toNat<192)/\jj (64*((c.toNat:Int)-192)+(r.getD 0 0).toNat-128) 128=false then some 1 else none:=by
 have hl:kq (c.toNat:Int)=some (1,128,(c.toNat:Int)-192):=by unfold kq; rw[if_neg (by omega),if_pos (by omega)]
 unfold dN;rw[if_neg (by omega),hl]
 by_cases n1:1<=r.length
 rotate_left
 . simp only[if_pos (show r.length<1 by omega)]; rw[if_neg (by omega)]
 simp only[if_neg (show ¬r.length<1 by omega)]
 have s1:=lS (r:=r) (v0:=(c.toNat:Int)-192) (v:=(c.toNat:Int)-192) (k:=0) rfl (by omega)
 simp only[Nat.zero_add,Nat.reduceAdd]at s1;by_cases a0:128<=(r.getD 0 0).toNat/\(r.getD 0 0).toNat<192
 rotate_left
 . rw[if_neg a0]at s1;simp only[s1]; rw[if_neg (by intro hx; exact a0 hx.2.1)]
 rw[if_pos a0]at s1;simp only[s1];cases hb:jj (64*((c.toNat:Int)-192)+(r.getD 0 0).toNat-128) 128
 . simp only[Bool.false_eq_true,if_false]; rw[if_pos ⟨n1,a0,trivial⟩]
 . simp
theorem xk {c:UInt8} {r:List UInt8} (h:224<=c.toNat/\c.toNat<240):dN c r=if 2<=r.length/\(128<=(r.getD 0 0).toNat/\(r.getD 0 0).toNat<192)/\(128<=(r.getD 1 0).toNat/\(r.getD 1 0).toNat<192) /\
 jj (64*(64*((c.toNat:Int)-224)+(r.getD 0 0).toNat-128)+(r.getD 1 0).toNat-128) 2048=false then some 2 else none:=by
 have hl:kq (c.toNat:Int)=some (2,2048,(c.toNat:Int)-224):=by unfold kq; rw[if_neg (by omega),if_neg (by omega),if_pos (by omega)]
 unfold dN;rw[if_neg (by omega),hl]
 by_cases n1:2<=r.length
 rotate_left
 . simp only[if_pos (show r.length<2 by omega)]; rw[if_neg (by omega)]
 simp only[if_neg (show ¬r.length<2 by omega)]
 have s1:=lS (r:=r) (v0:=(c.toNat:Int)-224) (v:=(c.toNat:Int)-224) (k:=0) rfl (by omega)
 simp only[Nat.zero_add,Nat.reduceAdd]at s1;by_cases a0:128<=(r.getD 0 0).toNat/\(r.getD 0 0).toNat<192
 rotate_left
 . rw[if_neg a0]at s1;simp only[kg s1 (m:=2) (by omega)]; rw[if_neg (by intro hx; exact a0 hx.2.1)]
 rw[if_pos a0]at s1;have s2:=lS s1 (by omega)
 simp only[Nat.reduceAdd]at s2;by_cases a1:128<=(r.getD 1 0).toNat/\(r.getD 1 0).toNat<192
 rotate_left
 . rw[if_neg a1]at s2;simp only[s2]; rw[if_neg (by intro hx; exact a1 hx.2.2.1)]
 rw[if_pos a1]at s2;simp only[s2];cases hb:jj (64*(64*((c.toNat:Int)-224)+(r.getD 0 0).toNat-128)+(r.getD 1 0).toNat-128) 2048
 . simp only[Bool.false_eq_true,if_false]; rw[if_pos ⟨n1,a0,a1,trivial⟩]
 . simp
theorem zQ {c:UInt8} {r:List UInt8} (h:240<=c.toNat/\c.toNat<248):dN c r=if 3<=r.length/\(128<=(r.getD 0 0).toNat/\(r.getD 0 0).toNat<192)/\(128<=(r.getD 1 0).toNat/\(r.getD 1 0).toNat<192)/\(128<=(r.getD 2 0).toNat/\(r.getD 2 0).toNat<192) /\
 jj (64*(64*(64*((c.toNat:Int)-240)+(r.getD 0 0).toNat-128)+(r.getD 1 0).toNat-128)+(r.getD 2 0).toNat-128) 65536=false then some 3 else none:=by
 have hl:kq (c.toNat:Int)=some (3,65536,(c.toNat:Int)-240):=by unfold kq; rw[if_neg (by omega),if_neg (by omega),if_neg (by omega),if_pos (by omega)]
 unfold dN;rw[if_neg (by omega),hl]
 by_cases n1:3<=r.length
 rotate_left
 . simp only[if_pos (show r.length<3 by omega)]; rw[if_neg (by omega)]
 simp only[if_neg (show ¬r.length<3 by omega)]
 have s1:=lS (r:=r) (v0:=(c.toNat:Int)-240) (v:=(c.toNat:Int)-240) (k:=0) rfl (by omega)
 simp only[Nat.zero_add,Nat.reduceAdd]at s1;by_cases a0:128<=(r.getD 0 0).toNat/\(r.getD 0 0).toNat<192
 rotate_left
 . rw[if_neg a0]at s1;simp only[kg s1 (m:=3) (by omega)]; rw[if_neg (by intro hx; exact a0 hx.2.1)]
 rw[if_pos a0]at s1;have s2:=lS s1 (by omega)
 simp only[Nat.reduceAdd]at s2;by_cases a1:128<=(r.getD 1 0).toNat/\(r.getD 1 0).toNat<192
 rotate_left
 . rw[if_neg a1]at s2;simp only[kg s2 (m:=3) (by omega)]; rw[if_neg (by intro hx; exact a1 hx.2.2.1)]
 rw[if_pos a1]at s2;have s3:=lS s2 (by omega)
 simp only[Nat.reduceAdd]at s3;by_cases a2:128<=(r.getD 2 0).toNat/\(r.getD 2 0).toNat<192
 rotate_left
 . rw[if_neg a2]at s3;simp only[s3]; rw[if_neg (by intro hx; exact a2 hx.2.2.2.1)]
 rw[if_pos a2]at s3;simp only[s3];cases hb:jj (64*(64*(64*((c.toNat:Int)-240)+(r.getD 0 0).toNat-128)+(r.getD 1 0).toNat-128)+(r.getD 2 0).toNat-128) 65536
 . simp only[Bool.false_eq_true,if_false]; rw[if_pos ⟨n1,a0,a1,a2,trivial⟩]
 . simp
theorem BB {c:UInt8} {r:List UInt8} (h:c.toNat<128):dN c r=some 0:=by
 unfold dN; rw[if_pos (by omega)]
theorem zR {c:UInt8} {r:List UInt8} (h:128<=c.toNat) (h2:c.toNat<192\/248<=c.toNat):dN c r=none:=by
 have hl:kq (c.toNat:Int)=none:=by
  unfold kq;rcases h2 with h2 | h2
  . rw[if_pos (by omega)]
  . rw[if_neg (by omega),if_neg (by omega),if_neg (by omega),if_neg (by omega)]
 unfold dN;rw[if_neg (by omega),hl]
theorem KI (c:UInt8) (r:List UInt8):(dN c r=none/\gH (c::r)=(65533,1)) \/ ∃n,dN c r=some n/\(gH (c::r)).2=n+1 /\ ¬((gH (c::r)).1=65533/\(gH (c::r)).2=1):=by
 have hc:c.toNat<256:=c.toNat_lt;have b0:(r.getD 0 0).toNat<256:=(r.getD 0 0).toNat_lt;have b1:(r.getD 1 0).toNat<256:=(r.getD 1 0).toNat_lt;have b2:(r.getD 2 0).toNat<256:=(r.getD 2 0).toNat_lt;rw[Jg];by_cases k1:c.toNat<128
 . refine .inr ⟨0,BB k1,?_⟩;unfold tX; rw[if_pos k1]; simp; omega
 by_cases k2:c.toNat<192\/248<=c.toNat
 . refine .inl ⟨zR (by omega) k2,?_⟩
   unfold tX; rw[if_neg k1,if_neg (by omega),if_neg (by omega),if_neg (by omega)]
 by_cases k3:c.toNat<224
 . rw[BC ⟨by omega,k3⟩]
   split
   . rename_i hx;unfold tX;rw[if_neg k1];obtain⟨g1,g2,g3⟩:=hx;have g3' : ¬jj (64*((c.toNat:Int)-192)+(r.getD 0 0).toNat-128) 128=true:=by rw[g3]; decide
     rw[ju]at g3';refine .inr ⟨1,rfl,?_⟩;rw[if_pos (by omega),if_pos (by omega)]
     simp
   . rename_i hx;refine .inl ⟨rfl,?_⟩;unfold tX;rw[if_neg k1];by_cases q:c.toNat / 32=6/\1<=r.length/\(r.getD 0 0).toNat / 64=2
     . rw[if_pos q];rw[if_neg];intro hge;refine hx ⟨q.2.1,by omega,?_⟩
       rw[Bool.eq_false_iff,ne_eq,ju];omega
     . rw[if_neg q,if_neg (by omega),if_neg (by omega)]
 by_cases k4:c.toNat<240
 . rw[xk ⟨by omega,k4⟩]
   split
   . rename_i hx;unfold tX;rw[if_neg k1,if_neg (by omega)]
     obtain⟨g1,g2,g3,g4⟩:=hx;have g4' : ¬jj (64*(64*((c.toNat:Int)-224)+(r.getD 0 0).toNat-128)+(r.getD 1 0).toNat-128) 2048=true:=by rw[g4]; decide
     rw[ju]at g4';refine .inr ⟨2,rfl,?_⟩;rw[if_pos (by omega),if_pos (by rw[l9]; omega)]
     simp
   . rename_i hx;refine .inl ⟨rfl,?_⟩;unfold tX;rw[if_neg k1,if_neg (by omega)]
     by_cases q:c.toNat / 16=14/\2<=r.length/\(r.getD 0 0).toNat / 64=2/\(r.getD 1 0).toNat / 64=2
     . rw[if_pos q];rw[if_neg];rw[l9];intro hge;refine hx ⟨q.2.1,by omega,by omega,?_⟩
       rw[Bool.eq_false_iff,ne_eq,ju];omega
     . rw[if_neg q,if_neg (by omega)]
 rw[zQ ⟨by omega,by omega⟩]
 split
 . rename_i hx;unfold tX;rw[if_neg k1,if_neg (by omega),if_neg (by omega)]
   obtain⟨g1,g2,g3,g4,g5⟩:=hx;have g5' : ¬jj (64*(64*(64*((c.toNat:Int)-240)+(r.getD 0 0).toNat-128)+(r.getD 1 0).toNat-128)+(r.getD 2 0).toNat-128) 65536=true:=by rw[g5]; decide
   rw[ju]at g5';refine .inr ⟨3,rfl,?_⟩;rw[if_pos (by omega),if_pos (by rw[l9]; omega)]
   simp
 . rename_i hx;refine .inl ⟨rfl,?_⟩;unfold tX;rw[if_neg k1,if_neg (by omega),if_neg (by omega)]
   by_cases q:c.toNat / 8=30/\3<=r.length/\(r.getD 0 0).toNat / 64=2/\(r.getD 1 0).toNat / 64=2/\(r.getD 2 0).toNat / 64=2
   . rw[if_pos q];rw[if_neg];rw[l9];intro hge;refine hx ⟨q.2.1,by omega,by omega,by omega,?_⟩
     rw[Bool.eq_false_iff,ne_eq,ju];omega
   . rw[if_neg q]
theorem tD:∀(n:Nat) (l:List UInt8),l.length<=n->Lib.validGoD n l=u8 l
 | 0,l,h=>by
  have:l = []:=List.eq_nil_of_length_eq_zero (by omega)
  subst this; rfl
 | n+1,[],_=>rfl
 | n+1,c::r,h=>by
  unfold Lib.validGoD;rw[if_neg (by simp),AR,CL]
  rw[List.length_cons]at h;rcases KI c r with⟨h1,h2⟩ | ⟨m,h1,h2,h3⟩
  . rw[h1,h2]; rfl
  . rw[h1,if_neg h3,h2];rw[tD n _ (by rw[List.length_drop,List.length_cons]; omega),List.drop_succ_cons]
theorem Gt (l:List UInt8):Lib.validD l=u8 l:=tD _ _ (Nat.le_refl _)
def IV (n:Int):Int:=if n % 2=0 then n / 2 else -(n / 2)-1
def Bt (s:List UInt8):Int × List UInt8 × Int:=if(dL s).2.2=0 then(IV (dL s).1,(dL s).2.1,0)else(0,s,(dL s).2.2)
def mh (s:List UInt8) (e:Int):Int × List UInt8 × Int:=if e=0 then Bt s else(0,s,e)
theorem Kf (n:Int):IV (zX n:Nat)=n:=by unfold IV zX; split<;>split<;>omega
theorem J0 (n:Nat):zX (IV n)=n:=by unfold IV zX; split<;>split<;>omega
theorem G1:∀(f i:Nat) (N:Int) (s:List UInt8),i+f=10->0<=N->N<128 ^ i->(eA f i N s).2.2=0->(eA f i N s).1<18446744073709551616:=by
 intro f;induction f with
 | zero=>intro i N s _ _ _ h; simp[eA]at h
 | succ f ih =>
  intro i N s hi h0 h1 h;cases s with
  | nil=>simp[eA]at h
  | cons b r =>
   have hb:b.toNat % 128<128:=Nat.mod_lt _ (by decide)
   have hp:(0:Int)<128 ^ i:=Int.pow_pos (by decide)
   have hd:((b.toNat % 128:Nat):Int)*128 ^ i<=127*128 ^ i:=Int.mul_le_mul_of_nonneg_right (by omega) (Int.le_of_lt hp)
   have hd0:0<=((b.toNat % 128:Nat):Int)*128 ^ i:=Int.mul_nonneg (by omega) (Int.le_of_lt hp)
   have hs:(128:Int) ^ (i+1)=128 ^ i*128:=Int.pow_succ 128 i;unfold eA at h ⊢;split at h
   . simp at h
   rename_i h9;rw[if_neg h9];split at h
   . rename_i hlt;rw[if_pos hlt];split at h
     . simp at h
     rename_i hz;rw[if_neg hz];show N+((b.toNat % 128:Nat):Int)*128 ^ i<18446744073709551616
     by_cases e9:i=9
     . subst e9;have hd1:((b.toNat % 128:Nat):Int)*128 ^ 9<=1*128 ^ 9:=Int.mul_le_mul_of_nonneg_right (by omega) (by decide)
       have:(128:Int) ^ 9=9223372036854775808:=by decide
       omega
     . have hle:(128:Nat) ^ (i+1)<=128 ^ 9:=Nat.pow_le_pow_right (by decide) (by omega)
       have h2:(128:Int) ^ (i+1)<=9223372036854775808:=by
        have:((128 ^ (i+1):Nat):Int)<=((128 ^ 9:Nat):Int):=Int.ofNat_le.2 hle;simpa using this
       omega
   . rename_i hlt;rw[if_neg hlt];exact ih (i+1) _ r (by omega) (by omega) (by omega) h
theorem wh {s:List UInt8} (h:(dL s).2.2=0):(dL s).1<18446744073709551616:=G1 10 0 0 s rfl (by decide) (by decide) h
theorem JS {n:Int} (h:-9223372036854775808<=n/\n<=9223372036854775807) (r:List UInt8):mh (DS n++r) 0=(n,r,0):=by
 unfold mh Bt DS;have hb:zX n<2 ^ 64:=by unfold zX; split<;>omega
 rw[if_pos rfl,ED hb];simp[Kf]
theorem H8 {s r:List UInt8} {e v:Int} (h:mh s e=(v,r,0)):e=0/\(-9223372036854775808<=v/\v<=9223372036854775807)/\s=DS v++r:=by
 unfold mh at h;split at h
 rotate_left
 . rename_i h0; simp only[Prod.mk.injEq]at h; exact absurd h.2.2 h0
 rename_i h0;refine⟨h0,?_⟩;unfold Bt at h;split at h
 rotate_left
 . rename_i h0; simp only[Prod.mk.injEq]at h; exact absurd h.2.2 h0
 rename_i hd;have hbd:=wh hd;rcases hq:dL s with⟨x,q,y⟩
 rw[hq]at h hd hbd;simp only[Prod.mk.injEq]at h hd hbd;obtain⟨rfl,rfl,_⟩:=h;subst hd;obtain⟨n,rfl,hs⟩:=uH hq;refine⟨by unfold IV; split<;>omega,?_⟩
 unfold DS;rw[J0]; exact hs
theorem H7 (s:List UInt8) (e:Int):-9223372036854775808<=(mh s e).1/\(mh s e).1<=9223372036854775807:=by
 unfold mh Bt;split
 . split
   . rename_i hd;have:=wh hd;have:=i8 s;simp only;unfold IV;split<;>omega
   . simp
 . simp
def ek:Nat->List UInt8->Int->List Nat × List UInt8 × Int
 | 0,s,e=>([],s,e)
 | j+1,s,e=>((ek j s e).1 ++ [(aX (ek j s e).2.1 (ek j s e).2.2).1.toNat],(aX (ek j s e).2.1 (ek j s e).2.2).2)
theorem ou:∀(j:Nat) (s:List UInt8) (e:Int),(ek j s e).1.length=j
 | 0,_,_=>rfl
 | j+1,s,e=>by simp[ek,ou j s e]
theorem FO:∀(j:Nat) (s:List UInt8) (e:Int),∀x∈(ek j s e).1,x<256
 | 0,_,_=>by simp[ek]
 | j+1,s,e=>fun x hx=>by
  simp only[ek,List.mem_append,List.mem_singleton]at hx;rcases hx with hx | rfl
  . exact FO j s e x hx
  . have:=ov (ek j s e).2.1 (ek j s e).2.2; omega
theorem wV:∀(j:Nat) (s:List UInt8) (e:Int),(ek j s e).2.1.length<=s.length
 | 0,_,_=>Nat.le_refl _
 | j+1,s,e=>by
  have:=(lC (ek j s e).2.1 (ek j s e).2.2).1;have:=wV j s e;simp only[ek]; omega
theorem zn:∀(k j:Nat) (s:List UInt8) (e:Int),j<=k->(ek k s e).1.take j=(ek j s e).1
 | 0,j,s,e,h=>by have:j=0:=by omega
                 subst this; rfl
 | k+1,j,s,e,h=>by
  by_cases hj:j=k+1
  . subst hj; rw[List.take_of_length_le (by rw[ou]; exact Nat.le_refl _)]
  . rw[<-zn k j s e (by omega)]
    simp only[ek];rw[List.take_append_of_le_length (by rw[ou]; omega)]
theorem KV:∀(j:Nat) (l r:List UInt8),l.length=j->ek j (l++r) 0=(l.map UInt8.toNat,r,0):=by
 have gen:∀(j:Nat) (l r:List UInt8),j<=l.length->ek j (l++r) 0=((l.take j).map UInt8.toNat,l.drop j++r,0):=by
  intro j;induction j with
  | zero=>intro l r _; simp[ek]
  | succ j ih =>
   intro l r h;have hg:l[j]? = some l[j]:=aS (by omega)
   have hdr:l.drop j=l[j]::l.drop (j+1):=List.drop_eq_getElem_cons (by omega)
   simp only[ek];rw[ih l r (by omega)]
   simp only[hdr,List.cons_append,wW];rw[List.take_add_one,hg,List.map_append];rfl
 intro j l r h;rw[gen j l r (by omega),List.take_of_length_le (by omega),List.drop_of_length_le (by omega)]; rfl
theorem JQ:∀(j:Nat) (s r:List UInt8) (e:Int) (B:List Nat),ek j s e=(B,r,0)->e=0 /\ ∃l:List UInt8,l.length=j/\s=l++r/\B=l.map UInt8.toNat:=by
 intro j;induction j with
 | zero=>intro s r e B h; simp only[ek,Prod.mk.injEq]at h; obtain⟨rfl,rfl,rfl⟩:=h; exact⟨rfl,[],rfl,rfl,rfl⟩
 | succ j ih =>
  intro s r e B h;simp only[ek]at h;rcases hq:ek j s e with⟨B', s', e'⟩
  rw[hq]at h;rcases hy:aX s' e' with⟨x,q,y⟩
  rw[hy]at h;simp only[Prod.mk.injEq]at h;obtain⟨rfl,rfl,rfl⟩:=h;obtain⟨rfl,b,rfl,rfl⟩:=ow hy;obtain⟨he,l,hl,rfl,rfl⟩:=ih _ _ _ _ hq;exact⟨he,l ++ [b],by simp[hl],by simp,by simp⟩
def fi (B:List Nat) (i:Nat):Bool:=decide (B.getD (i / 8) 0 / 2 ^ (i % 8) % 2=1)
def oh (B:List Nat) (n:Nat):Bool:=decide (B.getD ((n-1) / 8) 0 / 2 ^ ((n-1) % 8+1)=0)
def kY (k:Int) (nul:Bool) (s:List UInt8) (e:Int):Val × List UInt8 × Int :=
 if nul then(⟨0,0,[]⟩,s,e)
 else if k=1 then(⟨k,(aX s e).1,[]⟩,(aX s e).2)
 else if k=2 then(⟨k,(mh s e).1,[]⟩,(mh s e).2)
 else(⟨k,0,(bi 4096 s e).1⟩,(bi 4096 s e).2)
def Jx (C:List Col) (i:Nat):Int:=((C[i]?).map Col.k).getD 0
def cU (C:List Col) (f:Nat->Bool):Nat->List UInt8->Int->List Val × List UInt8 × Int
 | 0,s,e=>([],s,e)
 | i+1,s,e=>((cU C f i s e).1 ++ [(kY (Jx C i) (f i) (cU C f i s e).2.1 (cU C f i s e).2.2).1],(kY (Jx C i) (f i) (cU C f i s e).2.1 (cU C f i s e).2.2).2)
def kF (C:List Col) (s:List UInt8) (e:Int):Option (List Val) :=
 if oh (ek ((C.length+7) / 8) s e).1 C.length then
  (if(cU C (fi (ek ((C.length+7) / 8) s e).1) C.length (ek ((C.length+7) / 8) s e).2.1 (ek ((C.length+7) / 8) s e).2.2).2.2=0 /\
   bB C (cU C (fi (ek ((C.length+7) / 8) s e).1) C.length (ek ((C.length+7) / 8) s e).2.1 (ek ((C.length+7) / 8) s e).2.2).1=true
   then some (cU C (fi (ek ((C.length+7) / 8) s e).1) C.length (ek ((C.length+7) / 8) s e).2.1 (ek ((C.length+7) / 8) s e).2.2).1 else none)
 else none
def oy (C:List Col) (s:List UInt8) (e:Int):List UInt8 × Int :=
 (cU C (fi (ek ((C.length+7) / 8) s e).1) C.length (ek ((C.length+7) / 8) s e).2.1 (ek ((C.length+7) / 8) s e).2.2).2
theorem lD (C:List Col) (f:Nat->Bool):∀(i:Nat) (s:List UInt8) (e:Int),(cU C f i s e).1.length=i
 | 0,_,_=>rfl
 | i+1,s,e=>by simp[cU,lD C f i s e]
theorem FQ (k:Int) (nul:Bool) (s:List UInt8) (e:Int):(kY k nul s e).2.1.length<=s.length/\(kY k nul s e).1.t.length<=s.length/\(-9223372036854775808<=(kY k nul s e).1.n/\(kY k nul s e).1.n<=9223372036854775807):=by
 unfold kY;split
 . simp
 split
 . have h1:=(lC s e).1;have:=ov s e;exact⟨h1,by simp,by simp only; omega,by simp only; omega⟩
 split
 . refine⟨?_,by simp,H7 s e⟩
   unfold mh Bt;split
   . split
     . exact sf _ _ _ _
     . exact Nat.le_refl _
   . exact Nat.le_refl _
 . have:=ta 4096 s e;exact⟨this.1,this.2,by simp only; omega,by simp only; omega⟩
theorem tc (C:List Col) (f:Nat->Bool):∀(i:Nat) (s:List UInt8) (e:Int),(cU C f i s e).2.1.length<=s.length /\ ∀v∈(cU C f i s e).1,v.t.length<=s.length/\(-9223372036854775808<=v.n/\v.n<=9223372036854775807)
 | 0,s,e=>⟨Nat.le_refl _,fun v hv=>by simp[cU]at hv⟩
 | i+1,s,e=>by
  obtain⟨h1,h2⟩:=tc C f i s e;obtain⟨h3,h4,h5⟩:=FQ (Jx C i) (f i) (cU C f i s e).2.1 (cU C f i s e).2.2;refine⟨by simp only[cU]; omega,fun v hv=>?_⟩
  simp only[cU,List.mem_append,List.mem_singleton]at hv;rcases hv with hv | rfl
  . exact h2 v hv
  . exact⟨by omega,h5⟩
theorem H9 {k:Int} {nul:Bool} {s r:List UInt8} {e:Int} {v:Val} (hk:1<=k/\k<=4) (h:kY k nul s e=(v,r,0)):e=0/\s=eF v++r/\decide (v.k=0)=nul:=by
 unfold kY at h;split at h
 . rename_i hn;simp only[Prod.mk.injEq]at h;obtain⟨rfl,rfl,rfl⟩:=h;exact⟨rfl,rfl,by rw[hn]; rfl⟩
 rename_i hn;have hn' : nul=false:=by simpa using hn
 split at h
 . rename_i h1;rcases hy:aX s e with⟨x,q,y⟩
   rw[hy]at h;simp only[Prod.mk.injEq]at h;obtain⟨rfl,rfl,rfl⟩:=h;obtain⟨he,b,rfl,rfl⟩:=ow hy;refine⟨he,?_,by rw[hn']; exact decide_eq_false (by simp only; omega)⟩
   unfold eF;rw[if_pos h1];simp only[rQ]; rfl
 split at h
 . rename_i h1 h2;rcases hy:mh s e with⟨x,q,y⟩
   rw[hy]at h;simp only[Prod.mk.injEq]at h;obtain⟨rfl,rfl,rfl⟩:=h;obtain⟨he,_,hs⟩:=H8 hy;refine⟨he,?_,by rw[hn']; exact decide_eq_false (by simp only; omega)⟩
   unfold eF;rw[if_neg h1,if_pos h2]; exact hs
 . rename_i h1 h2;rcases hy:bi 4096 s e with⟨x,q,y⟩
   rw[hy]at h;simp only[Prod.mk.injEq]at h;obtain⟨rfl,rfl,rfl⟩:=h;obtain⟨he,_,hs⟩:=qX hy;refine⟨he,?_,by rw[hn']; exact decide_eq_false (by simp only; omega)⟩
   unfold eF;rw[if_neg h1,if_neg h2,if_pos (by simp only; omega)]; exact hs
theorem JT {c:Col} {v:Val} (hs:bG c v=true) (hn:-9223372036854775808<=v.n/\v.n<=9223372036854775807) (r:List UInt8):kY c.k (decide (v.k=0)) (eF v++r) 0=(v,r,0):=by
 unfold bG at hs;simp only[Bool.and_eq_true,Bool.or_eq_true,decide_eq_true_eq]at hs;obtain⟨hm,hk⟩:=hs;obtain⟨k,n,t⟩:=v;simp only at *;unfold fK at hm;simp only at hm;unfold kY;by_cases h0:k=0
 . subst h0;simp only[if_true,Bool.and_eq_true,decide_eq_true_eq]at hm;obtain⟨rfl,rfl⟩:=hm;rw[if_pos (by decide)]; rfl
 rw[if_neg (by simpa using h0)]
 have hck:c.k=k:=by rcases hk with rfl | hk
                    . rfl
                    . exact absurd hk.1 h0
 rw[hck];rw[if_neg h0]at hm;unfold eF;simp only;by_cases h1:k=1
 . rw[if_pos h1]at hm;simp only[Bool.and_eq_true,Bool.or_eq_true,decide_eq_true_eq]at hm;obtain⟨rfl,hn2⟩:=hm;rw[if_pos h1,if_pos h1];simp only[List.cons_append,List.nil_append,wW];rcases hn2 with rfl | rfl<;>rfl
 rw[if_neg h1]at hm;rw[if_neg h1,if_neg h1];by_cases h2:k=2
 . rw[if_pos h2]at hm;simp only[decide_eq_true_eq]at hm;subst hm;rw[if_pos h2,if_pos h2,JS hn]
 rw[if_neg h2]at hm;rw[if_neg h2,if_neg h2];have h34:k=3\/k=4:=by
  by_cases h3:k=3
  . exact .inl h3
  . rw[if_neg h3]at hm;by_cases h4:k=4
    . exact .inr h4
    . rw[if_neg h4]at hm; cases hm
 have hx:n=0/\(t.length:Int)<=4096:=by
  rcases h34 with rfl | rfl
  . rw[if_pos rfl]at hm;simp only[Bool.and_eq_true,decide_eq_true_eq]at hm;exact⟨hm.1.2,hm.2⟩
  . rw[if_neg (by decide),if_pos rfl]at hm
    simp only[Bool.and_eq_true,decide_eq_true_eq]at hm;exact hm
 obtain⟨rfl,ht⟩:=hx;rw[if_pos h34,gL ht (by omega)]
theorem zb (r:List Val) (j:Nat):∀(t u:Nat),u<t->(dp r j t / 2 ^ u % 2=1 ↔ ((r[8*j+u]?).map Val.k)=some 0)
 | 0,_,h=>by omega
 | t+1,u,h=>by
  have hlt:=kz r j t;simp only[dp];by_cases hu:u=t
  . subst hu;split
    . rename_i hb;rw[Nat.add_div_right _ (Nat.two_pow_pos u),Nat.div_eq_of_lt hlt]; simp[hb]
    . rename_i hb;rw[Nat.add_zero,Nat.div_eq_of_lt hlt]; simp[hb]
  . have ih:=zb r j t u (by omega)
    rw[<-ih];split
    . have e:2 ^ t=2 ^ u*(2*2 ^ (t-u-1)):=by
       rw[<-Nat.pow_succ', <-Nat.pow_add]; congr 1; omega
      rw[e,Nat.add_mul_div_left _ _ (Nat.two_pow_pos u),Nat.add_mul_mod_self_left]
    . rw[Nat.add_zero]
theorem Cm (r:List Val) (j x:Nat):∀(t:Nat),(∀u,u<t->(x / 2 ^ u % 2=1 ↔ ((r[8*j+u]?).map Val.k)=some 0))->dp r j t=x % 2 ^ t
 | 0,_=>by simp[dp,Nat.mod_one]
 | t+1,h=>by
  have ih:=Cm r j x t fun u hu=>h u (by omega)
  have hb:=h t (by omega)
  simp only[dp];rw[ih,Nat.mod_pow_succ];split
  . rename_i hx;rw[hb.2 hx]; simp
  . rename_i hx;have:x / 2 ^ t % 2=0:=by
     have:¬x / 2 ^ t % 2=1:=fun e=>hx (hb.1 e)
     omega
    rw[this,Nat.mul_zero]
theorem zc (r:List Val) {j:Nat} (h:j<(r.length+7) / 8):((d6 r).map UInt8.toNat).getD j 0=dp r j 8:=by
 unfold d6;rw[List.getD_eq_getElem?_getD,List.map_map,List.getElem?_map,List.getElem?_range h];have:=kz r j 8;simp only[Option.map_some,Option.getD_some,Function.comp];show(UInt8.ofNat (dp r j 8)).toNat=_
 rw[UInt8.toNat_ofNat'];exact Nat.mod_eq_of_lt this
theorem HC {r:List Val} {i:Nat} {v:Val} (h:r[i]? = some v):fi ((d6 r).map UInt8.toNat) i=decide (v.k=0):=by
 have hlt:=(liZ.1 h).1;unfold fi;rw[zc r (by omega)]
 have:=zb r (i / 8) 8 (i % 8) (by omega)
 rw[show 8*(i / 8)+i % 8=i by omega,h]at this
 simp only[Option.map_some,Option.some.injEq]at this;exact decide_eq_decide.2 this
theorem Be (r:List Val) (j:Nat):∀t s,r.length<=8*j+s->s<=t->dp r j t<2 ^ s:=fun t s h1 h2=>by
 rw[og r j s t h1 h2]; exact kz r j s
theorem HO {r:List Val} (h:r ≠ []):oh ((d6 r).map UInt8.toNat) r.length=true:=by
 have hp:=List.length_pos_iff.2 h;unfold oh;rw[zc r (by omega)]
 refine decide_eq_true (Nat.div_eq_of_lt (Be r _ 8 _ (by omega) (by omega)))
theorem Fl {vs:List Val} {l:List UInt8} (h0:vs ≠ []) (hl:l.length=(vs.length+7) / 8) (hp:oh (l.map UInt8.toNat) vs.length=true)
 (hn:∀i v,vs[i]? = some v->decide (v.k=0)=fi (l.map UInt8.toNat) i):d6 vs=l:=by
 have hvp:=List.length_pos_iff.2 h0;refine List.ext_getElem? fun j=>?_
 by_cases hj:j<(vs.length+7) / 8
 rotate_left
 . rw[List.getElem?_eq_none (by rw[eP]; omega),List.getElem?_eq_none (by omega)]
 have hg:l[j]? = some l[j]:=aS (by omega)
 generalize l[j]=b at hg;have hgd:(l.map UInt8.toNat).getD j 0=b.toNat:=by rw[List.getD_eq_getElem?_getD,List.getElem?_map,hg]; rfl
 have hb:b.toNat<256:=b.toNat_lt;have key:dp vs j 8=b.toNat:=by
  rw[Cm vs j b.toNat 8,Nat.mod_eq_of_lt hb];intro u hu;by_cases hlt:8*j+u<vs.length
  . have hv:vs[8*j+u]? = some vs[8*j+u]:=aS hlt;have:=hn _ _ hv;rw[hv];simp only[Option.map_some,Option.some.injEq];unfold fi at this;rw[show(8*j+u) / 8=j by omega,show(8*j+u) % 8=u by omega,hgd]at this
    exact(decide_eq_decide.1 this).symm
  . rw[List.getElem?_eq_none (by omega)]
    simp only[Option.map_none,reduceCtorEq,iff_false];unfold oh at hp;rw[show(vs.length-1) / 8=j by omega,hgd]at hp
    have hz:=aB hp;have hsm:b.toNat<2 ^ ((vs.length-1) % 8+1):=by
     rcases Nat.div_eq_zero_iff.1 hz with h | h
     . exact absurd h (Nat.ne_of_gt (Nat.two_pow_pos _))
     . exact h
    have hle:2 ^ ((vs.length-1) % 8+1)<=2 ^ u:=Nat.pow_le_pow_right (by decide) (by omega)
    rw[Nat.div_eq_of_lt (Nat.lt_of_lt_of_le hsm hle)];decide
 rw[hg];unfold d6;rw[List.getElem?_map,List.getElem?_range hj,Option.map_some,key];simp
theorem wv {C:List Col} {i:Nat} {c:Col} (h:C[i]? = some c):Jx C i=c.k:=by unfold Jx; rw[h]; rfl
theorem Ia {C:List Col} {f:Nat->Bool} (hC:∀c∈C,1<=c.k/\c.k<=4):∀(i:Nat) (s r:List UInt8) (e:Int) (vs:List Val),i<=C.length->cU C f i s e=(vs,r,0) ->
 e=0/\s=vs.flatMap eF++r /\ ∀j v,vs[j]? = some v->decide (v.k=0)=f j:=by
 intro i;induction i with
 | zero=>intro s r e vs _ h; simp only[cU,Prod.mk.injEq]at h; obtain⟨rfl,rfl,rfl⟩:=h; exact⟨rfl,rfl,fun j v h=>by simp at h⟩
 | succ i ih =>
  intro s r e vs hi h;simp only[cU]at h;have hg:C[i]? = some C[i]:=aS (by omega)
  have hk:=hC _ (List.getElem_mem (show i<C.length by omega))
  rw[wv hg]at h;have hle:=lD C f i s e;rcases hq:cU C f i s e with⟨vs', s', e'⟩
  rw[hq]at h hle;rcases hy:kY C[i].k (f i) s' e' with⟨v,q,y⟩
  rw[hy]at h;simp only[Prod.mk.injEq]at h;obtain⟨rfl,rfl,rfl⟩:=h;obtain⟨rfl,rfl,hn⟩:=H9 hk hy;obtain⟨he,rfl,hall⟩:=ih _ _ _ _ (by omega) hq
  refine⟨he,by simp,fun j w hw=>?_⟩
  simp only at hle;by_cases hj:j<vs'.length
  . rw[List.getElem?_append_left hj]at hw; exact hall j w hw
  . rw[List.getElem?_append_right (by omega)]at hw
    have:j-vs'.length=0:=by
     have:=(liZ.1 hw).1;simp at this; omega
    rw[this]at hw;cases hw;have:j=i:=by omega
    subst this; exact hn
theorem FR {C:List Col} {f:Nat->Bool} {vs:List Val} (hst:∀(i:Nat) c v,C[i]? = some c->vs[i]? = some v->bG c v=true) (hl:vs.length=C.length)
 (hf:∀(i:Nat) v,vs[i]? = some v->f i=decide (v.k=0)) (hn:∀v∈vs,-9223372036854775808<=v.n/\v.n<=9223372036854775807) (r:List UInt8) :
 ∀i,i<=vs.length->cU C f i (vs.flatMap eF++r) 0=(vs.take i,(vs.drop i).flatMap eF++r,0)
 | 0,_=>by simp[cU]
 | i+1,h=>by
  have hg:C[i]? = some C[i]:=aS (by omega)
  have hv:vs[i]? = some vs[i]:=aS (by omega)
  have hdr:vs.drop i=vs[i]::vs.drop (i+1):=List.drop_eq_getElem_cons (by omega)
  simp only[cU];rw[FR hst hl hf hn r i (by omega),wv hg,hf i _ hv]
  simp only[hdr,List.flatMap_cons,List.append_assoc];rw[JT (hst i _ _ hg hv) (hn _ (List.getElem_mem (by omega)))]
  rw[List.take_add_one,hv];rfl
theorem Cf {l:List Col} {vs:List Val} (h:bB l vs=true):vs.length=l.length /\ ∀(i:Nat) c v,l[i]? = some c->vs[i]? = some v->bG c v=true:=by
 unfold bB at h;rw[Bool.and_eq_true,decide_eq_true_eq,List.all_eq_true]at h;refine⟨h.1,fun i c v hc hv=>?_⟩
 have:=h.2 i (List.mem_range.2 (liZ.1 hv).1);rw[io hc hv]at this; exact this
theorem wX {C:List Col} {vs:List Val} (h:bB C vs=true) (h0:vs ≠ []) (hn:∀v∈vs,-9223372036854775808<=v.n/\v.n<=9223372036854775807) (r:List UInt8) :
 kF C (dM vs++r) 0=some vs/\oy C (dM vs++r) 0=(r,0):=by
 obtain⟨hl,hst⟩:=Cf h;have hb:ek ((C.length+7) / 8) (dM vs++r) 0=((d6 vs).map UInt8.toNat,vs.flatMap eF++r,0):=by
  unfold dM;rw[List.append_assoc];exact KV _ _ _ (by rw[eP,hl])
 have hv:cU C (fi ((d6 vs).map UInt8.toNat)) C.length (vs.flatMap eF++r) 0=(vs,r,0):=by
  rw[<-hl,FR hst hl (fun i v hv=>HC hv) hn r vs.length (Nat.le_refl _)]
  simp
 unfold kF oy;rw[hb];simp only[hv];rw[<-hl,HO h0];simp[h]
theorem Cx {C:List Col} {vs:List Val} {s:List UInt8} {e:Int} (hC:∀c∈C,1<=c.k/\c.k<=4) (h0:C ≠ []) (h:kF C s e=some vs) :
 e=0/\s=dM vs++(oy C s e).1/\(oy C s e).2=0/\bB C vs=true:=by
 unfold kF at h;split at h
 rotate_left
 . cases h
 rename_i hp;split at h
 rotate_left
 . cases h
 rename_i hf;unfold oy;rcases hb:ek ((C.length+7) / 8) s e with⟨B,s1,e1⟩
 rw[hb]at h hf hp;rcases hv:cU C (fi B) C.length s1 e1 with⟨vs', s2,e2⟩
 simp only at h hf hp ⊢;rw[hv]at h hf;simp only at h hf ⊢;obtain⟨rfl,hf⟩:=hf;cases h;obtain⟨rfl,rfl,hn⟩:=Ia hC _ _ _ _ _ (Nat.le_refl _) hv;obtain⟨rfl,l,hl,rfl,rfl⟩:=JQ _ _ _ _ _ hb;have hlen:=(Cf hf).1;refine⟨rfl,?_,rfl,hf⟩;unfold dM;rw[Fl (l:=l) (fun e=>by rw[e]at hlen; exact h0 (List.length_eq_zero_iff.1 hlen.symm)) (by rw[hl,hlen]) (by rw[hlen]; exact hp) hn,List.append_assoc]
theorem qW {C:List Col} {vs:List Val} {s:List UInt8} {e:Int} (h:kF C s e=some vs):vs.length=C.length /\ ∀v∈vs,v.t.length<=s.length/\(-9223372036854775808<=v.n/\v.n<=9223372036854775807):=by
 unfold kF at h;split at h
 rotate_left
 . cases h
 split at h
 rotate_left
 . cases h
 cases h;have h1:=wV ((C.length+7) / 8) s e;refine⟨lD _ _ _ _ _,fun v hv=>?_⟩
 obtain⟨h2,h3⟩:=(tc C (fi (ek ((C.length+7) / 8) s e).1) C.length (ek ((C.length+7) / 8) s e).2.1 (ek ((C.length+7) / 8) s e).2.2).2 v hv;exact⟨by omega,h3⟩
end
end Go.Proofs.YteiagdlfccbpcaaGreatDoorPg
