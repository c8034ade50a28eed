/- Own texts, laid together: PgVal1, PgSch2, PgVal2, PgVal3, PgWin1, PgVal4, PgVal5, PgVal6, PgLay1, PgLay2, PgLay3, PgLay4, PgE9, PgCh1, PgEv1, PgEv2, PgIm1, PgCrc1, PgCrc2, PgE91. -/
import Derived.Test.YteiagdlfccbpcaaGreatDoorPgM11
import Derived.Laws.BitsLemmas
set_option linter.unusedSectionVars false
set_option linter.unusedSimpArgs false
set_option linter.unusedVariables false
namespace Go.Proofs.YteiagdlfccbpcaaGreatDoorPg
open Go Go.RowKit
section
structure Val where
 k:Int
 n:Int
 t:List UInt8
 deriving DecidableEq
def valC (v:Val):List V:=[.int .i64 v.k,.int .i64 v.n,.str v.t]
def vals (l:List Val):List (List V):=l.map valC
theorem vals_len (l:List Val):(vals l).length = l.length:=by simp [vals]
theorem vals_get {l:List Val} {i:Nat} {v:Val} (h:l[i]? = some v):(vals l)[i]? = some [.int .i64 v.k,.int .i64 v.n,.str v.t]:=by simp [vals,h,valC]
theorem vals_app (a b:List Val):vals (a ++ b) = vals a ++ vals b:=by simp [vals]
def val0:Val:=⟨0,0,[]⟩
def lead (c:Int):Option (Nat × Int × Int) :=
 if c < 192 then none else if c < 224 then some (1,128,c - 192) else if c < 240 then some (2,2048,c - 224) else if c < 248 then some (3,65536,c - 240) else none
def cv (r:List UInt8) (v0:Int):Nat -> Option Int
 | 0=>some v0
 | k + 1=>match cv r v0 k,r[k]? with
  | some v,some d=>if 128 <= d.toNat /\ d.toNat < 192 then some (64 * v + d.toNat - 128) else none
  | _,_=>none
def badV (v least:Int):Bool:=decide (v < least) || (decide (1114111 < v) || (decide (55296 <= v) && decide (v <= 57343)))
@[irreducible] def u8head (c:UInt8) (r:List UInt8):Option Nat :=
 if (c.toNat:Int) < 128 then some 0 else match lead c.toNat with
  | none=>none
  | some (n,least,v0)=>if r.length < n then none else match cv r v0 n with
   | none=>none
   | some v=>if badV v least then none else some n
def u8F:Nat -> List UInt8 -> Bool
 | _,[]=>true
 | 0,_ :: _=>false
 | f + 1,c :: r=>match u8head c r with
  | none=>false
  | some n=>u8F f (r.drop n)
def u8 (s:List UInt8):Bool:=u8F s.length s
theorem u8F_step (f:Nat) (c:UInt8) (r:List UInt8):u8F (f + 1) (c :: r) = match u8head c r with | none=>false | some n=>u8F f (r.drop n):=rfl
theorem u8F_more:∀ (f:Nat) (s:List UInt8),s.length <= f -> ∀ g,s.length <= g -> u8F f s = u8F g s
 | f,[],_,g,_=>by cases f<;>cases g<;>rfl
 | 0,_ :: _,h,_,_=>absurd h (by rw [List.length_cons]; omega)
 | f + 1,c :: r,h,0,hg=>absurd hg (by rw [List.length_cons]; omega)
 | f + 1,c :: r,h,g + 1,hg=>by
  rw [u8F_step,u8F_step];generalize u8head c r = x;cases x with
  | none=>rfl
  | some n=>exact u8F_more f (r.drop n) (by rw [List.length_cons] at h; rw [List.length_drop]; omega) g (by rw [List.length_cons] at hg; rw [List.length_drop]; omega)
theorem u8_nil:u8 [] = true:=rfl
theorem u8_cons (c:UInt8) (r:List UInt8):u8 (c :: r) = match u8head c r with | none=>false | some n=>u8 (r.drop n):=by
 unfold u8;rw [List.length_cons,u8F_step];generalize u8head c r = x;cases x with
 | none=>rfl
 | some n=>exact u8F_more _ _ (by rw [List.length_drop]; omega) _ (Nat.le_refl _)
theorem cv_none {r:List UInt8} {v0:Int} {k:Nat} (h:cv r v0 k = none):∀ {m:Nat},k <= m -> cv r v0 m = none
 | 0,hm=>by
  have:k = 0:=by omega
  subst this; exact h
 | m + 1,hm=>by
  rcases Nat.lt_or_ge k (m + 1) with hk | hk
  . have:=cv_none h (m:=m) (by omega)
    simp [cv,this]
  . have:k = m + 1:=by omega
    subst this; exact h
theorem cv_bound {r:List UInt8} {v0:Int} (h0:0 <= v0 /\ v0 < 32):∀ {k:Nat} {v:Int},cv r v0 k = some v -> 0 <= v /\ v < 32 * 64 ^ k
 | 0,v,h=>by simp [cv] at h; subst h; omega
 | k + 1,v,h=>by
  unfold cv at h;split at h<;>try (cases h; done)
  rename_i w d hw hd;have:=cv_bound h0 hw;split at h<;>try (cases h; done)
  rename_i hdd;simp at h;rw [Int.pow_succ];omega
end
section
def poolS:List (List UInt8):=[[105,100],[110,97,109,101],[110],[102,108,97,103],[114,97,119],[120]]
def natI (k:Int):Int:=if k < 0 then IntKind.i64.wrap (0 - IntKind.i64.wrap (k + 1)) else k
def gKind (k:Int):Int:=IntKind.i64.wrap (1 + (natI k).tmod 4)
def gName (ok:List UInt8 -> Bool) (out:List Col) (i:Nat) (c:Col):List UInt8 :=
 if ok c.n = false \/ 0 <= fnd c.n out 0 then poolS.getD i [] else c.n
def stepG (ok:List UInt8 -> Bool) (out:List Col) (i:Nat) (c:Col):List Col :=
 if fnd (gName ok out i c) out 0 < 0 then out ++ [⟨gName ok out i c,gKind c.k,c.o⟩] else out
def gN (ok:List UInt8 -> Bool) (l:List Col):Nat -> List Col
 | 0=>[]
 | i + 1=>match l[i]? with
  | some c=>stepG ok (gN ok l i) i c
  | none=>gN ok l i
def gCols (ok:List UInt8 -> Bool) (l:List Col):List Col :=
 match gN ok l (min l.length 6) with
 | []=>[⟨[105,100],2,false⟩]
 | g=>g
def gKeys (n:Nat) (keys:Int):Int:=IntKind.i64.wrap (1 + (natI keys).tmod ((min n 3:Nat):Int))
def clearK:Nat -> List Col -> List Col
 | 0,l=>l
 | _,[]=>[]
 | k + 1,c :: l=>{ c with o:=false } :: clearK k l
def goodL (ok:List UInt8 -> Bool) (l:List Col) (keys:Int):List Col:=clearK (gKeys (gCols ok l).length keys).toNat (gCols ok l)
def goodK (ok:List UInt8 -> Bool) (l:List Col) (keys:Int):Int:=gKeys (gCols ok l).length keys
theorem natI_nonneg {k:Int} (h:-9223372036854775808 <= k /\ k <= 9223372036854775807):0 <= natI k /\ natI k <= 9223372036854775807:=by
 unfold natI;split
 . have e1:IntKind.i64.wrap (k + 1) = k + 1:=by rw [IntKind.wrap_i64]; omega
   have e2:IntKind.i64.wrap (0 - (k + 1)) = - (k + 1):=by rw [IntKind.wrap_i64]; omega
   rw [e1,e2]; omega
 . omega
theorem gKind_ok {k:Int} (h:-9223372036854775808 <= k /\ k <= 9223372036854775807):1 <= gKind k /\ gKind k <= 4:=by
 have h1:=natI_nonneg h;unfold gKind;rw [IntKind.wrap_i64,Int.tmod_eq_emod_of_nonneg h1.1];omega
theorem gKeys_ok {n:Nat} (hn:1 <= n) {k:Int} (h:-9223372036854775808 <= k /\ k <= 9223372036854775807):1 <= gKeys n k /\ gKeys n k <= 3 /\ gKeys n k <= n:=by
 have h1:=natI_nonneg h;unfold gKeys;rw [IntKind.wrap_i64,Int.tmod_eq_emod_of_nonneg h1.1];have h2:0 < ((min n 3:Nat):Int):=by omega
 have h3:=Int.emod_lt_of_pos (natI k) h2;have h4:=Int.emod_nonneg (natI k) (show ((min n 3:Nat):Int) ≠ 0 by omega)
 generalize natI k % ((min n 3:Nat):Int) = r at *;omega
theorem gN_len (ok:List UInt8 -> Bool) (l:List Col):∀ i,(gN ok l i).length <= i
 | 0=>by simp [gN]
 | i + 1=>by
  have:=gN_len ok l i;unfold gN;split
  . unfold stepG; split<;>simp<;>omega
  . omega
theorem gCols_len (ok:List UInt8 -> Bool) (l:List Col):1 <= (gCols ok l).length /\ (gCols ok l).length <= 6:=by
 have:=gN_len ok l (min l.length 6);unfold gCols;split
 . simp
 . rename_i h;constructor
   . cases hg:gN ok l (min l.length 6) with
     | nil=>exact absurd hg h
     | cons=>simp
   . omega
theorem clearK_len:∀ (k:Nat) (l:List Col),(clearK k l).length = l.length
 | 0,l=>by simp [clearK]
 | _ + 1,[]=>by simp [clearK]
 | k + 1,c :: l=>by simp [clearK,clearK_len k l]
theorem clearK_get:∀ (k:Nat) (l:List Col) (i:Nat),(clearK k l)[i]? = (l[i]?).map fun c=>if i < k then { c with o:=false } else c
 | 0,l,i=>by simp [clearK]
 | _ + 1,[],i=>by simp [clearK]
 | k + 1,c :: l,0=>by simp [clearK]
 | k + 1,c :: l,i + 1=>by simp [clearK,clearK_get k l i]
theorem clearK_snoc {k:Nat} {l:List Col} {c:Col} (h:l[k]? = some c):(clearK k l).set k { c with o:=false } = clearK (k + 1) l:=by
 refine List.ext_getElem? fun i=>?_
 rw [clearK_get,List.getElem?_set,clearK_len,clearK_get];have hlt:=(liZ.1 h).1;by_cases e:k = i
 . subst e;have e2:=(liZ.1 h).2;simp [hlt,e2]
 . rw [if_neg e];by_cases g:i < k
   . have g2:i < k + 1:=by omega
     cases l[i]?<;>simp [g,g2]
   . have g2:¬ i < k + 1:=by omega
     cases l[i]?<;>simp [g,g2]
end
section
def mayV (v:Val):Bool :=
 if v.k = 0 then decide (v.n = 0) && decide (v.t = [])
 else if v.k = 1 then decide (v.t = []) && (decide (v.n = 0) || decide (v.n = 1))
 else if v.k = 2 then decide (v.t = [])
 else if v.k = 3 then u8 v.t && decide (v.n = 0) && decide ((v.t.length:Int) <= 4096)
 else if v.k = 4 then decide (v.n = 0) && decide ((v.t.length:Int) <= 4096)
 else false
def standsV (c:Col) (v:Val):Bool:=mayV v && (decide (v.k = c.k) || (decide (v.k = 0) && c.o))
def text40 (t:List UInt8):List UInt8:=if 40 < t.length then t.take 40 else t
def goodK5 (k:Int):Int:=(natI k).tmod 5
def goodV (v:Val):Val :=
 if goodK5 v.k = 1 then ⟨goodK5 v.k,if v.n.tmod 2 = 0 then 0 else 1,[]⟩
 else if goodK5 v.k = 2 then ⟨goodK5 v.k,v.n,[]⟩
 else if goodK5 v.k = 3 then ⟨goodK5 v.k,0,if u8 (text40 v.t) then text40 v.t else []⟩
 else if goodK5 v.k = 4 then ⟨goodK5 v.k,0,text40 v.t⟩
 else ⟨goodK5 v.k,0,[]⟩
def rowV (c:Col) (v:Val):Val:=if c.o = true /\ v.k.tmod 3 = 0 then val0 else goodV { v with k:=c.k }
def rowN (l:List Col) (vs:List Val):Nat -> List Val
 | 0=>[]
 | i + 1=>match l[i]? with
  | some c=>rowN l vs i ++ [rowV c (vs.getD i val0)]
  | none=>rowN l vs i
def rowL (l:List Col) (vs:List Val):List Val:=rowN l vs l.length
theorem rowN_len (l:List Col) (vs:List Val):∀ i,i <= l.length -> (rowN l vs i).length = i
 | 0,_=>rfl
 | i + 1,h=>by
  have:=rowN_len l vs i (by omega)
  have hg:l[i]? = some l[i]:=lgZ (by omega)
  simp [rowN,hg,this]
theorem rowN_get (l:List Col) (vs:List Val):∀ i,i <= l.length -> ∀ j,j < i -> (rowN l vs i)[j]? = (l[j]?).map fun c=>rowV c (vs.getD j val0)
 | 0,_,j,hj=>by omega
 | i + 1,h,j,hj=>by
  have hl:=rowN_len l vs i (by omega)
  have hg:l[i]? = some l[i]:=lgZ (by omega)
  simp only [rowN,hg];rcases Nat.lt_or_ge j i with h1 | h1
  . rw [List.getElem?_append_left (by omega)]; exact rowN_get l vs i (by omega) j h1
  . have e:j = i:=by omega
    subst e;rw [List.getElem?_append_right (by omega),hl,hg]
    simp
theorem rowL_len (l:List Col) (vs:List Val):(rowL l vs).length = l.length:=rowN_len l vs _ (Nat.le_refl _)
theorem rowL_get (l:List Col) (vs:List Val) {j:Nat} {c:Col} (h:l[j]? = some c):(rowL l vs)[j]? = some (rowV c (vs.getD j val0)):=by
 have:=rowN_get l vs _ (Nat.le_refl _) j (liZ.1 h).1;rw [rowL,this,h]; rfl
theorem text40_len (t:List UInt8):(text40 t).length <= 40:=by
 unfold text40; split
 . rw [List.length_take]; omega
 . omega
def stAt (l:List Col) (vs:List Val) (i:Nat):Bool:=match l[i]?,vs[i]? with
 | some c,some v=>standsV c v
 | _,_=>true
theorem stAt_some {l:List Col} {vs:List Val} {i:Nat} {c:Col} {v:Val} (hc:l[i]? = some c) (hv:vs[i]? = some v):stAt l vs i = standsV c v:=by unfold stAt; rw [hc,hv]
theorem stAt_yes {l:List Col} {vs:List Val} {i:Nat} (h:∀ (c:Col) (v:Val),l[i]? = some c -> vs[i]? = some v -> standsV c v = true):stAt l vs i = true:=by
 unfold stAt;split
 . rename_i c v hc hv; exact h c v hc hv
 . rfl
def fitsL (l:List Col) (vs:List Val):Bool:=decide (vs.length = l.length) && (List.range vs.length).all (stAt l vs)
def keyOkL (l:List Col) (keys:Nat) (vs:List Val):Bool:=decide (keys <= vs.length) && (List.range keys).all (stAt l vs)
theorem fits_yes {l:List Col} {vs:List Val} (hl:vs.length = l.length) (h:∀ (i:Nat) (c:Col) (v:Val),l[i]? = some c -> vs[i]? = some v -> standsV c v = true):fitsL l vs = true:=by
 unfold fitsL;rw [decide_eq_true hl,Bool.true_and,List.all_eq_true];intro i _;exact stAt_yes (h i)
end
section
def bs (l:List UInt8):List (List V):=l.map fun b=>[.int .u8 (b.toNat:Int)]
theorem bs_len (l:List UInt8):(bs l).length = l.length:=by simp [bs]
theorem bs_app (a b:List UInt8):bs (a ++ b) = bs a ++ bs b:=by simp [bs]
theorem bytesOfEs_bs:∀ l:List UInt8,bytesOfEs (bs l) = some l
 | []=>rfl
 | b :: l=>by
  have:=bytesOfEs_bs l;simp only [bs,List.map_cons] at this ⊢;simp only [bytesOfEs,this];simp
def b8 (n:Int):UInt8:=UInt8.ofNat (n % 256).toNat
theorem b8_wrap (n:Int):IntKind.u8.wrap n = ((b8 n).toNat:Int):=by
 have e:IntKind.u8.wrap n = n % 256:=by
  simp [IntKind.wrap,IntKind.bits,IntKind.signed]
 rw [e,b8];have h1:0 <= n % 256:=by omega
 have h2:n % 256 < 256:=by omega
 generalize n % 256 = m at *;have:(UInt8.ofNat m.toNat).toNat = m.toNat:=by
  rw [UInt8.toNat_ofNat']; omega
 rw [this]; omega
def beS (m:Int):Nat -> Int
 | 0=>m
 | k + 1=>IntKind.u64.wrap (beS m k * 256)
def beB (m:Int):Nat -> List UInt8
 | 0=>[]
 | k + 1=>beB m k ++ [b8 (IntKind.u64.wrap ((beS m k).tdiv 72057594037927936))]
theorem beB_len (m:Int):∀ k,(beB m k).length = k
 | 0=>rfl
 | k + 1=>by simp [beB,beB_len m k]
def escB (b:UInt8):List UInt8:=if b = 0 then [b,255] else [b]
def escL (t:List UInt8):List UInt8:=t.flatMap escB
theorem escL_snoc {t:List UInt8} {j:Nat} {b:UInt8} (h:t[j]? = some b):escL (t.take (j + 1)) = escL (t.take j) ++ escB b:=by
 rw [List.take_add_one,h]; simp [escL]
theorem escL_len:∀ t:List UInt8,(escL t).length <= 2 * t.length
 | []=>by simp [escL]
 | b :: t=>by
  have:=escL_len t;have e:escL (b :: t) = escB b ++ escL t:=by simp [escL]
  have hb:(escB b).length <= 2:=by unfold escB; split<;>simp
  rw [e,laZ,List.length_cons]; omega
def keyM (n:Int):Int:=IntKind.u64.wrap (IntKind.u64.wrap n + 9223372036854775808)
def keyT (v:Val):List UInt8 :=
 if v.k = 1 then [b8 v.n] else if v.k = 2 then beB (keyM v.n) 8 else if v.k = 3 \/ v.k = 4 then escL v.t ++ [0,1] else []
def keyV (v:Val):List UInt8:=b8 v.k :: keyT v
def keyS (l:List Val):List UInt8:=l.flatMap keyV
theorem keyS_snoc {l:List Val} {i:Nat} {v:Val} (h:l[i]? = some v):keyS (l.take (i + 1)) = keyS (l.take i) ++ keyV v:=by
 rw [List.take_add_one,h]; simp [keyS]
theorem keyV_len {v:Val} (h:v.t.length <= 4096):(keyV v).length <= 9000:=by
 unfold keyV keyT;have:=escL_len v.t;rw [List.length_cons]
 repeat' split
 all_goals first
  | (rw [beB_len]; omega)
  | (rw [laZ]; simp only [List.length_cons,List.length_nil]; omega)
  | (simp only [List.length_cons,List.length_nil]; omega)
theorem keyS_len:∀ {l:List Val},(∀ v ∈ l,v.t.length <= 4096) -> (keyS l).length <= 9000 * l.length
 | [],_=>by simp [keyS]
 | v :: l,h=>by
  have h1:=keyV_len (h v (by simp))
  have h2:=keyS_len (l:=l) fun w hw=>h w (by simp [hw])
  have e:keyS (v :: l) = keyV v ++ keyS l:=by simp [keyS]
  rw [e,laZ,List.length_cons]; omega
theorem may_text {v:Val} (h:mayV v = true):v.t.length <= 4096:=by
 unfold mayV at h
 repeat' split at h
 all_goals simp at h
 . rw [h.2]; simp
 . rw [h.1]; simp
 . rw [h]; simp
 . omega
 . omega
theorem stands_text {c:Col} {v:Val} (h:standsV c v = true):v.t.length <= 4096:=by
 unfold standsV at h;rw [Bool.and_eq_true] at h;exact may_text h.1
end
section
abbrev Rw:=List Val
def fR (r:Rw):V:=.sl 3 (vals r) false
def rws (l:List Rw):List (List V):=l.map fun r=>[fR r]
theorem rws_len (l:List Rw):(rws l).length = l.length:=by simp [rws]
theorem rws_app (a b:List Rw):rws (a ++ b) = rws a ++ rws b:=by simp [rws]
theorem rws_take (l:List Rw) (n:Nat):(rws l).take n = rws (l.take n):=by simp [rws,List.map_take]
theorem rws_drop (l:List Rw) (n:Nat):(rws l).drop n = rws (l.drop n):=by simp [rws,List.map_drop]
def kyR (C:List Col) (K:Nat) (r:Rw):List UInt8:=if keyOkL C K r then keyS (r.take K) else []
abbrev KR:=List (List UInt8 × Rw)
def kvR (C:List Col) (K:Nat) (l:List Rw):KR:=l.map fun r=>(kyR C K r,r)
theorem kvR_app (C:List Col) (K:Nat) (a b:List Rw):kvR C K (a ++ b) = kvR C K a ++ kvR C K b:=by simp [kvR]
theorem kvR_len (C:List Col) (K:Nat) (a:List Rw):(kvR C K a).length = a.length:=by simp [kvR]
def aheadR (C:List Col) (K:Nat) (key:List UInt8) (l:List Rw):List Rw:=l.takeWhile fun r=>Op.bytesLess (kyR C K r) key
def restR (C:List Col) (K:Nat) (key:List UInt8) (l:List Rw):List Rw:=l.dropWhile fun r=>Op.bytesLess (kyR C K r) key
theorem ahead_rest (C:List Col) (K:Nat) (key:List UInt8) (l:List Rw):aheadR C K key l ++ restR C K key l = l:=List.takeWhile_append_dropWhile
theorem ahead_less {C:List Col} {K:Nat} {key:List UInt8}:∀ {l:List Rw},∀ x ∈ aheadR C K key l,Op.bytesLess (kyR C K x) key = true
 | [],x,hx=>by simp [aheadR] at hx
 | y :: l,x,hx=>by
  unfold aheadR at hx;rw [List.takeWhile_cons] at hx;split at hx
  . rename_i hy;rcases List.mem_cons.1 hx with rfl | hx
    . exact hy
    . exact ahead_less x hx
  . simp at hx
theorem rest_head {C:List Col} {K:Nat} {key:List UInt8}:∀ {l:List Rw} {x:Rw} {r:List Rw},restR C K key l = x :: r -> Op.bytesLess (kyR C K x) key = false
 | [],x,r,h=>by simp [restR] at h
 | y :: l,x,r,h=>by
  unfold restR at h;rw [List.dropWhile_cons] at h;split at h
  . exact rest_head h
  . rename_i hy;cases h;simpa using hy
theorem kv_ahead {C:List Col} {K:Nat} {key:List UInt8} {l:List Rw}:∀ x ∈ kvR C K (aheadR C K key l),Op.bytesLess x.1 key = true:=fun x hx=>by
 simp only [kvR,List.mem_map] at hx;obtain ⟨r,hr,rfl⟩:=hx;exact ahead_less r hr
theorem kv_rest {C:List Col} {K:Nat} {key:List UInt8} {l:List Rw}:∀ x r,kvR C K (restR C K key l) = x :: r -> Op.bytesLess x.1 key = false:=fun x r h=>by
 cases hl:restR C K key l with
 | nil=>rw [hl] at h; simp [kvR] at h
 | cons y m =>
  rw [hl] at h;simp only [kvR,List.map_cons,List.cons.injEq] at h;rw [<- h.1];exact rest_head hl
def headIs (C:List Col) (K:Nat) (key:List UInt8):List Rw -> Bool
 | []=>false
 | x :: _=>decide (kyR C K x = key)
theorem head_kv (C:List Col) (K:Nat) (key:List UInt8) (l:List Rw):hasH key (kvR C K l) = headIs C K key l:=by cases l<;>rfl
def putR (C:List Col) (K:Nat) (l:List Rw) (r:Rw):List Rw :=
 aheadR C K (kyR C K r) l ++ r :: (if headIs C K (kyR C K r) (restR C K (kyR C K r) l) then (restR C K (kyR C K r) l).tail else restR C K (kyR C K r) l)
def cutR (C:List Col) (K:Nat) (l:List Rw) (key:List UInt8):List Rw :=
 if headIs C K key (restR C K key l) then aheadR C K key l ++ (restR C K key l).tail else l
theorem kv_put (C:List Col) (K:Nat) (l:List Rw) (r:Rw):insL (kyR C K r) r (kvR C K l) = kvR C K (putR C K l r):=by
 have e:kvR C K l = kvR C K (aheadR C K (kyR C K r) l) ++ kvR C K (restR C K (kyR C K r) l):=by rw [<- kvR_app,ahead_rest]
 rw [e,ins_split kv_ahead kv_rest,head_kv];unfold putR;rw [kvR_app];congr 1
 simp only [kvR,List.map_cons];congr 1
 split
 . rw [List.map_tail]
 . rfl
theorem kv_cut {C:List Col} {K:Nat} {l:List Rw} (key:List UInt8) (hs:SortedL (kvR C K l)):delL key (kvR C K l) = kvR C K (cutR C K l key):=by
 have e:kvR C K l = kvR C K (aheadR C K key l) ++ kvR C K (restR C K key l):=by rw [<- kvR_app,ahead_rest]
 rw [e] at hs ⊢;rw [del_split hs kv_ahead kv_rest,head_kv];unfold cutR;split
 . rw [kvR_app]; congr 1; simp [kvR,List.map_tail]
 . rw [<- e]
theorem put_sorted {C:List Col} {K:Nat} {l:List Rw} (r:Rw) (hs:SortedL (kvR C K l)):SortedL (kvR C K (putR C K l r)):=by rw [<- kv_put]; exact ins_sorted hs
theorem cut_sorted {C:List Col} {K:Nat} {l:List Rw} (key:List UInt8) (hs:SortedL (kvR C K l)):SortedL (kvR C K (cutR C K l key)):=by rw [<- kv_cut key hs]; exact del_sorted hs
theorem put_mem {C:List Col} {K:Nat} {l:List Rw} {r x:Rw} (h:x ∈ putR C K l r):x = r \/ x ∈ l:=by
 unfold putR at h;rw [List.mem_append,List.mem_cons] at h;have hm:∀ y,y ∈ aheadR C K (kyR C K r) l \/ y ∈ restR C K (kyR C K r) l -> y ∈ l:=fun y hy=>by
  rw [<- List.mem_append,ahead_rest] at hy; exact hy
 rcases h with h | h | h
 . exact .inr (hm _ (.inl h))
 . exact .inl h
 . split at h
   . exact .inr (hm _ (.inr (List.mem_of_mem_tail h)))
   . exact .inr (hm _ (.inr h))
theorem cut_mem {C:List Col} {K:Nat} {l:List Rw} {key:List UInt8} {x:Rw} (h:x ∈ cutR C K l key):x ∈ l:=by
 unfold cutR at h;have hm:∀ y,y ∈ aheadR C K key l \/ y ∈ restR C K key l -> y ∈ l:=fun y hy=>by
  rw [<- List.mem_append,ahead_rest] at hy; exact hy
 split at h
 . rw [List.mem_append] at h;rcases h with h | h
   . exact hm _ (.inl h)
   . exact hm _ (.inr (List.mem_of_mem_tail h))
 . exact h
theorem put_len (C:List Col) (K:Nat) (l:List Rw) (r:Rw):(putR C K l r).length <= l.length + 1:=by
 have e:=congrArg List.length (ahead_rest C K (kyR C K r) l);rw [laZ] at e;unfold putR;rw [laZ,List.length_cons];split
 . rw [List.length_tail]; omega
 . omega
theorem cut_len (C:List Col) (K:Nat) (l:List Rw) (key:List UInt8):(cutR C K l key).length <= l.length:=by
 have e:=congrArg List.length (ahead_rest C K key l);rw [laZ] at e;unfold cutR;split
 . rw [laZ,List.length_tail]; omega
 . exact Nat.le_refl _
theorem ins_last {key:List UInt8} {r:Rw}:∀ {l:KR},(∀ x ∈ l,Op.bytesLess x.1 key = true) -> insL key r l = l ++ [(key,r)]
 | [],_=>rfl
 | (k,v) :: l,h=>by
  have h1:=h (k,v) (by simp)
  simp only at h1;simp only [insL,List.cons_append];rw [if_neg (by rw [less_asymm h1]; simp),if_pos h1,ins_last fun x hx=>h x (by simp [hx])]
end
section
theorem xor_top {a:Nat} (h:a < 18446744073709551616):a ^^^ 9223372036854775808 = (a + 9223372036854775808) % 18446744073709551616:=by
 have key:∀ r:Nat,r < 2 ^ 63 -> r ^^^ 2 ^ 63 = 2 ^ 63 * 1 + r:=fun r hr=>by
  apply Nat.eq_of_testBit_eq;intro j;rw [Nat.testBit_xor,Nat.testBit_two_pow_mul_add 1 hr,Nat.testBit_two_pow];by_cases h1:j < 63
  . rw [if_pos h1];have:¬ 63 = j:=by omega
    simp [this]
  . rw [if_neg h1];have h2:r.testBit j = false:=Nat.testBit_lt_two_pow (Nat.lt_of_lt_of_le hr (Nat.pow_le_pow_right (by decide) (by omega)))
    rw [h2];by_cases h3:j = 63
    . subst h3; rfl
    . obtain ⟨k,hk⟩:∃ k,j - 63 = k + 1:=⟨j - 64,by omega⟩
      rw [hk];have:¬ 63 = j:=by omega
      simp [this];exact (Nat.testBit_lt_two_pow (x:=1) (i:=k + 1) (Nat.one_lt_two_pow (by omega)))
 have e63:(2:Nat) ^ 63 = 9223372036854775808:=by decide
 rw [e63] at key;by_cases c:a < 9223372036854775808
 . rw [key a c]; omega
 . have h1:=key (a - 9223372036854775808) (by omega)
   have h2:a = (a - 9223372036854775808) ^^^ 9223372036854775808:=by rw [h1]; omega
   rw [h2,Nat.xor_assoc,Nat.xor_self,Nat.xor_zero,<- h2];omega
theorem wrap_u64 (n:Int):IntKind.u64.wrap n = n % 18446744073709551616:=by
 simp [IntKind.wrap,IntKind.bits,IntKind.signed]
theorem keyM_bd (n:Int):0 <= keyM n /\ keyM n < 18446744073709551616:=by
 unfold keyM; rw [wrap_u64]; omega
theorem xor_keyM (n:Int):IntKind.u64.wrap ↑((BitVec.ofInt IntKind.u64.bits (IntKind.u64.wrap n)).toNat ^^^ (9223372036854775808#IntKind.u64.bits).toNat) = keyM n:=by
 have e1:(BitVec.ofInt IntKind.u64.bits (IntKind.u64.wrap n)).toNat = (n % 18446744073709551616).toNat:=by
  rw [wrap_u64];show (BitVec.ofInt 64 _).toNat = _
  rw [BitVec.toNat_ofInt];have:(2:Int) ^ 64 = 18446744073709551616:=by decide
  omega
 have e2:(9223372036854775808#IntKind.u64.bits).toNat = 9223372036854775808:=rfl;rw [e1,e2,xor_top (by omega),wrap_u64]
 unfold keyM;rw [wrap_u64,wrap_u64];omega
theorem xor_keyB (n:Int):IntKind.u64.wrap ↑(BitVec.ofInt IntKind.u64.bits (IntKind.u64.wrap n) ^^^ BitVec.ofInt IntKind.u64.bits 9223372036854775808).toNat = keyM n:=by
 rw [<- xor_keyM n,BitVec.toNat_xor];rfl
theorem b8_mod {x y:Int} (h:x % 256 = y % 256):b8 x = b8 y:=by unfold b8; rw [h]
theorem byte_eq (n:Int) (j:Nat) (hj:j < 8):b8 ((keyM n).fdiv (2 ^ min (IntKind.i64.wrap (8 * IntKind.i64.wrap (7 - (j:Int)))).toNat IntKind.u64.bits)) = b8 (IntKind.u64.wrap ((beS (keyM n) j).tdiv 72057594037927936)):=by
 obtain ⟨h0,h1⟩:=keyM_bd n;generalize keyM n = m at *;apply b8_mod;rw [wrap_u64];have e:(IntKind.i64.wrap (8 * IntKind.i64.wrap (7 - (j:Int)))).toNat = 56 - 8 * j:=by
  rw [IntKind.wrap_i64,IntKind.wrap_i64]; omega
 rw [e];have e2:min (56 - 8 * j) IntKind.u64.bits = 56 - 8 * j:=by show min (56 - 8 * j) 64 = _; omega
 rw [e2];have nn:∀ k,0 <= beS m k:=fun k=>by
  cases k with
  | zero=>exact h0
  | succ k=>unfold beS; rw [wrap_u64]; omega
 rw [Int.tdiv_eq_ediv_of_nonneg (nn j)];have hp:∀ k:Nat,(0:Int) <= 2 ^ k:=fun k=>Int.le_of_lt (Int.pow_pos (by decide))
 rw [Int.fdiv_eq_ediv_of_nonneg _ (hp _)];clear nn e e2;obtain rfl | rfl | rfl | rfl | rfl | rfl | rfl | rfl:j = 0 \/ j = 1 \/ j = 2 \/ j = 3 \/ j = 4 \/ j = 5 \/ j = 6 \/ j = 7:=by omega
 . have hq:(2:Int) ^ (56 - 8 * 0) = 72057594037927936:=by decide
   rw [hq];simp only [beS];omega
 . have hq:(2:Int) ^ (56 - 8 * 1) = 281474976710656:=by decide
   rw [hq];simp only [beS,wrap_u64];omega
 . have hq:(2:Int) ^ (56 - 8 * 2) = 1099511627776:=by decide
   rw [hq];simp only [beS,wrap_u64];omega
 . have hq:(2:Int) ^ (56 - 8 * 3) = 4294967296:=by decide
   rw [hq];simp only [beS,wrap_u64];omega
 . have hq:(2:Int) ^ (56 - 8 * 4) = 16777216:=by decide
   rw [hq];simp only [beS,wrap_u64];omega
 . have hq:(2:Int) ^ (56 - 8 * 5) = 65536:=by decide
   rw [hq];simp only [beS,wrap_u64];omega
 . have hq:(2:Int) ^ (56 - 8 * 6) = 256:=by decide
   rw [hq];simp only [beS,wrap_u64];omega
 . have hq:(2:Int) ^ (56 - 8 * 7) = 1:=by decide
   rw [hq];simp only [beS,wrap_u64];omega
end
section
def tx (acc:List UInt8):List UInt8 -> List UInt8 × List UInt8 × Bool
 | []=>([],[],false)
 | [_]=>([],[],false)
 | c :: d :: r=>if c = 0 then (if d = 1 then (acc,r,true) else if d = 255 then tx (acc ++ [0]) r else ([],[],false)) else tx (acc ++ [c]) (d :: r)
end
section
end
section
end
section
theorem or_add {n d k:Nat} (h:n < 2 ^ k):n ||| (d * 2 ^ k) = n + d * 2 ^ k:=by
 rw [Nat.mul_comm d,Nat.or_comm,<- Nat.two_pow_add_eq_or_of_lt h,Nat.add_comm]
end
section
def digWF:Nat -> Nat -> List UInt8
 | 0,n=>[UInt8.ofNat n]
 | f + 1,n=>if n < 128 then [UInt8.ofNat n] else UInt8.ofNat (n % 128 + 128) :: digWF f (n / 128)
def digW (n:Nat):List UInt8:=digWF 9 n
def numW (n:Int):List UInt8:=digW n.toNat
def txtW (s:List UInt8):List UInt8:=digW s.length ++ s
theorem digWF_len:∀ (f n:Nat),(digWF f n).length <= f + 1
 | 0,n=>by simp [digWF]
 | f + 1,n=>by
  unfold digWF;split
  . simp
  . have:=digWF_len f (n / 128);simp only [List.length_cons]; omega
theorem digW_len (n:Nat):(digW n).length <= 10:=digWF_len 9 n
theorem digWF_pos (f n:Nat):0 < (digWF f n).length:=by
 cases f<;>unfold digWF<;>(try split)<;>simp
theorem txtW_len (s:List UInt8):(txtW s).length <= 10 + s.length:=by
 unfold txtW;have:=digW_len s.length;rw [laZ]; omega
theorem ofNat_lt {n:Nat} (h:n < 256):(UInt8.ofNat n).toNat = n:=by
 rw [UInt8.toNat_ofNat']; omega
end
section
end
section
variable [Globs]
theorem frzL_get {id:Nat} {o:O}:∀ {l:List V} {i:Nat} {v:V},(frzL id o l)[i]? = some v -> ∃ x,l[i]? = some x /\ v = frzV id o x
 | [],i,v,h=>by simp [frzL] at h
 | x :: l,0,v,h=>by simp [frzL] at h; exact ⟨x,rfl,h.symm⟩
 | x :: l,i + 1,v,h=>by
  simp only [frzL,List.getElem?_cons_succ] at h;obtain ⟨y,h1,h2⟩:=frzL_get h;exact ⟨y,by simpa using h1,h2⟩
theorem frzL_len {id:Nat} {o:O}:∀ (l:List V),(frzL id o l).length = l.length
 | []=>rfl
 | x :: l=>by simp [frzL,frzL_len l]
theorem ACall.frzIn {P:Program} {f:FuncId} {k:Nat} {args:List V} {H:List O} {Q:V -> List O -> Prop} (id:Nat) (hok:frzOk (getO H id) = true) (hfit:frzFit id (getO H id) args [] H)
 (h:ACall P f k (frzL id (getO H id) args) (frzH id (getO H id) 0 H) Q):ACall P f k args H Q:=by
 refine ⟨fun I ρ w us hst hk ha=>?_⟩
 have hne:getO H id ≠ .dead:=fun e=>by rw [e] at hok; cases hok
 have ho:=getO_some (H:=H) (id:=id) rfl hne;have hlt:id < ρ.length:=by rw [hst.len]; exact (liZ.1 ho).1
 obtain ⟨I2,g1,g2,g3⟩:=frz_st hst (lgZ hlt) ho hok (frzFit_h hfit) k;refine (h.out I2 ρ w us g1 (by rw [frzH_len]; exact hk) ⟨by rw [frzL_len]; exact ha.1,fun i a u hi hu=>?_⟩).mono ?_
 . obtain ⟨x,hx,rfl⟩:=frzL_get hi;exact g3 _ _ (frzFit_v hfit (List.mem_of_getElem? hx)) (ha.2 i x u hx hu)
 . rintro en w' ⟨v,r,I', ρ', H', h1,h2,h3,h4,h5⟩;exact ⟨v,r,I', ρ', H', h1,h2,h3,g2.trans h4,h5⟩
theorem ACall.selIn {P:Program} {f:FuncId} {args:List V} {H:List O} {Q:V -> List O -> Prop} (sel:List Nat) (hsel:selOk sel H.length 0 = true)
 (h:ACall P f 0 (args.map (renV (idx sel))) (gather (idx sel) H sel) Q):ACall P f 0 args H Q:=by
 refine ⟨fun I ρ w us hst hk ha=>?_⟩
 obtain ⟨g1,g2,g3⟩:=sel_step hst hsel (Step.refl 0 I ρ H w);refine (h.out I _ w us g1 (Nat.zero_le _) ⟨by rw [List.length_map]; exact ha.1,fun i a u hi hu=>?_⟩).mono ?_
 . rw [List.getElem?_map] at hi;cases hx:args[i]? with
   | none=>rw [hx] at hi; cases hi
   | some x =>
    rw [hx] at hi; cases hi;exact (ha.2 i x u hx hu).ren g2
 . rintro en w' ⟨v,r,I', ρ', H', h1,h2,h3,h4,h5⟩;exact ⟨v,r,I', ρ', H', h1,h2,h3,g3.trans h4,h5⟩
theorem frzV_pure {id:Nat} {o:O} {v:V} (h:pureV v = true):frzV id o v = v:=by
 cases v with
 | fn g a b=>cases a with
  | nil=>cases b with
   | nil=>rfl
   | cons x y=>simp [pureV] at h
  | cons x y=>simp [pureV] at h
 | _=>first | rfl | simp [pureV] at h
theorem renV_pure {f:Nat -> Option Nat} {v:V} (h:pureV v = true):renV f v = v:=by
 cases v with
 | fn g a b=>cases a with
  | nil=>cases b with
   | nil=>rfl
   | cons x y=>simp [pureV] at h
  | cons x y=>simp [pureV] at h
 | _=>first | rfl | simp [pureV] at h
theorem frzL_pure {id:Nat} {o:O}:∀ {l:List V},l.all pureV = true -> frzL id o l = l
 | [],_=>rfl
 | v :: l,h=>by
  simp only [List.all_cons,Bool.and_eq_true] at h;simp only [frzL,frzV_pure h.1,frzL_pure h.2]
theorem map_pure {f:Nat -> Option Nat}:∀ {l:List V},l.all pureV = true -> l.map (renV f) = l
 | [],_=>rfl
 | v :: l,h=>by
  simp only [List.all_cons,Bool.and_eq_true] at h;simp only [List.map_cons,renV_pure h.1,map_pure h.2]
theorem msV_pure {id:Nat} {v:V} (h:pureV v = true):msV id v = []:=by
 cases v with
 | fn g a b=>cases a with
  | nil=>cases b with
   | nil=>rfl
   | cons x y=>simp [pureV] at h
  | cons x y=>simp [pureV] at h
 | _=>first | rfl | simp [pureV] at h
theorem msL_pure {id:Nat}:∀ {l:List V},l.all pureV = true -> msL id l = []
 | [],_=>rfl
 | v :: l,h=>by
  simp only [List.all_cons,Bool.and_eq_true] at h;simp only [msL,msV_pure h.1,msL_pure h.2,List.nil_append]
theorem ACall.eat {P:Program} {f:FuncId} {z:Nat} {es:List (List V)} {full:Bool} {as:List V} {len:Nat} {Q:V -> List O -> Prop} (hlen:len = es.length) (hp:as.all pureV = true)
 (h:ACall P f 0 (.sl z es full :: as) [] fun r H' => Q (renV (outH 0 1) r) (weave 0 H' [.dead])):ACall P f 1 (.ms z 0 0 len full :: as) [.buf es] Q:=by
 subst hlen;refine ACall.stay 1 rfl (ACall.frzIn 0 rfl ?_ (ACall.selIn [] rfl ?_))
 . show msLe es.length (msL 0 (.ms z 0 0 es.length full :: as) ++ ([] ++ ([] ++ [])))
   simp only [msL,msV,Nat.beq_refl,msL_pure hp,List.append_nil,msLe];exact ⟨by omega,trivial⟩
 . have e:(frzL 0 (getO [O.buf es] 0) (.ms z 0 0 es.length full :: as)).map (renV (idx [])) = .sl z es full :: as:=by
    show (frzV 0 (.buf es) (.ms z 0 0 es.length full) :: frzL 0 (.buf es) as).map (renV (idx [])) = _
    rw [frz_ms_eq,frzL_pure hp,List.map_cons,map_pure hp]; rfl
   rw [e]; exact h
end
section
structure Wk where
 t:List UInt8
 d:Bool
 k:List UInt8
deriving DecidableEq
def atL (l:List Wk) (t:List UInt8):Option Nat:=l.findIdx? fun w=>decide (w.t = t)
def atI (l:List Wk) (t:List UInt8):Int:=match atL l t with | some i=>(i:Int) | none=>-1
def NoneBefore (l:List Wk) (t:List UInt8) (i:Nat):Prop:=∀ (j:Nat) (w:Wk),j < i -> l[j]? = some w -> w.t ≠ t
theorem at_some {l:List Wk} {t:List UInt8} {i:Nat} {w:Wk} (hn:NoneBefore l t i) (hi:l[i]? = some w) (ht:w.t = t):atL l t = some i:=by
 unfold atL;rw [List.findIdx?_eq_some_iff_getElem];obtain ⟨h1,h2⟩:=liZ.1 hi;refine ⟨h1,by rw [h2]; simp [ht],fun j hj=>?_⟩
 have:=hn j l[j] hj (lgZ (by omega))
 simp [this]
theorem at_none {l:List Wk} {t:List UInt8} (hn:NoneBefore l t l.length):atL l t = none:=by
 unfold atL;rw [List.findIdx?_eq_none_iff];intro w hw;obtain ⟨j,hj⟩:=List.mem_iff_getElem?.1 hw;have:=hn j w (liZ.1 hj).1 hj;simp [this]
theorem at_get {l:List Wk} {t:List UInt8} {i:Nat} (h:atL l t = some i):∃ w,l[i]? = some w /\ w.t = t /\ NoneBefore l t i:=by
 unfold atL at h;rw [List.findIdx?_eq_some_iff_getElem] at h;obtain ⟨h1,h2,h3⟩:=h;refine ⟨l[i],lgZ h1,by simpa using h2,fun j w hj hw=>?_⟩
 obtain ⟨g1,rfl⟩:=liZ.1 hw;simpa using h3 j hj
theorem at_no {l:List Wk} {t:List UInt8} (h:atL l t = none):∀ w ∈ l,w.t ≠ t:=by
 unfold atL at h;rw [List.findIdx?_eq_none_iff] at h;intro w hw;simpa using h w hw
def SortedW (l:List Wk):Prop:=l.Pairwise fun x y=>Op.bytesLess x.t y.t = true
theorem sorted_get {l:List Wk} (h:SortedW l) {i j:Nat} {x y:Wk} (hij:i < j) (hi:l[i]? = some x) (hj:l[j]? = some y):Op.bytesLess x.t y.t = true:=by
 obtain ⟨h1,rfl⟩:=liZ.1 hi;obtain ⟨h2,rfl⟩:=liZ.1 hj;exact List.pairwise_iff_getElem.1 h i j h1 h2 hij
def posL (l:List Wk) (t:List UInt8):Nat:=(l.takeWhile fun w=>Op.bytesLess w.t t).length
theorem pos_le (l:List Wk) (t:List UInt8):posL l t <= l.length:=by
 unfold posL;exact (List.takeWhile_sublist _).length_le
theorem takeW_imp {p:Wk -> Bool}:∀ {l:List Wk} {w:Wk},w ∈ l.takeWhile p -> p w = true
 | [],w,h=>by simp at h
 | x :: l,w,h=>by
  rw [List.takeWhile_cons] at h;split at h
  . rename_i hx;rcases List.mem_cons.1 h with rfl | h
    . exact hx
    . exact takeW_imp h
  . simp at h
theorem pos_before {l:List Wk} {t:List UInt8} {j:Nat} {w:Wk} (hj:j < posL l t) (h:l[j]? = some w):Op.bytesLess w.t t = true:=by
 unfold posL at hj;have h1:(l.takeWhile fun w=>Op.bytesLess w.t t)[j]? = some w:=by
  have:=List.takeWhile_prefix (l:=l) (fun w=>Op.bytesLess w.t t)
  obtain ⟨r,hr⟩:=this;rw [<- hr] at h;rw [List.getElem?_append_left hj] at h;exact h
 exact takeW_imp (List.mem_of_getElem? h1)
theorem pos_at:∀ {l:List Wk} {t:List UInt8} {w:Wk},l[posL l t]? = some w -> Op.bytesLess w.t t = false
 | [],t,w,h=>by simp at h
 | x :: l,t,w,h=>by
  cases hx:Op.bytesLess x.t t with
  | true =>
   have e:posL (x :: l) t = posL l t + 1:=by simp [posL,List.takeWhile_cons,hx]
   rw [e] at h;exact pos_at (l:=l) (by simpa using h)
  | false =>
   have e:posL (x :: l) t = 0:=by simp [posL,List.takeWhile_cons,hx]
   rw [e] at h;simp at h; subst h; exact hx
theorem pos_unique {l:List Wk} {t:List UInt8} {i:Nat} (hi:i <= l.length) (h1:∀ (j:Nat) (w:Wk),j < i -> l[j]? = some w -> Op.bytesLess w.t t = true) (h2:∀ w,l[i]? = some w -> Op.bytesLess w.t t = false):posL l t = i:=by
 have hp:=pos_le l t;rcases Nat.lt_trichotomy (posL l t) i with h | h | h
 . have hlt:posL l t < l.length:=by omega
   have g:=lgZ hlt;have a:=pos_at g;have b:=h1 _ _ h g;rw [a] at b; cases b
 . exact h
 . have hlt:i < l.length:=by omega
   have g:=lgZ hlt;have a:=pos_before h g;have b:=h2 _ g;rw [a] at b; cases b
theorem at_sorted {l:List Wk} {t:List UInt8} {i:Nat} (hs:SortedW l) (h:atL l t = some i):posL l t = i:=by
 obtain ⟨w,hw,ht,_⟩:=at_get h;refine pos_unique (Nat.le_of_lt (liZ.1 hw).1) (fun j x hj hx=>?_) (fun x hx=>?_)
 . have:=sorted_get hs hj hx hw;rw [ht] at this; exact this
 . rw [hw] at hx; cases hx; rw [ht]; exact less_irrefl t
theorem at_pos {l:List Wk} {t:List UInt8} (hs:SortedW l):(atL l t).isSome = (match l[posL l t]? with | some w=>decide (w.t = t) | none=>false):=by
 cases h:atL l t with
 | some i =>
  obtain ⟨w,hw,ht,_⟩:=at_get h;rw [at_sorted hs h,hw]; simp [ht]
 | none =>
  have:=at_no h;cases hg:l[posL l t]? with
  | none=>rfl
  | some w=>simp [this w (List.mem_of_getElem? hg)]
def insW (l:List Wk) (w:Wk):List Wk:=l.take (posL l w.t) ++ w :: l.drop (posL l w.t)
theorem ins_sorted' {l:List Wk} {w:Wk} (hs:SortedW l) (hn:atL l w.t = none):SortedW (insW l w):=by
 unfold SortedW insW;rw [List.pairwise_append];refine ⟨List.Pairwise.sublist (List.take_sublist _ _) hs,?_,fun x hx y hy=>?_⟩
 . rw [List.pairwise_cons];refine ⟨fun y hy=>?_,List.Pairwise.sublist (List.drop_sublist _ _) hs⟩
   obtain ⟨j,hj⟩:=List.mem_iff_getElem?.1 hy;rw [List.getElem?_drop] at hj;have hlt:=(liZ.1 hj).1;have hne:y.t ≠ w.t:=at_no hn y (List.mem_of_getElem? hj);have hpl:posL l w.t < l.length:=by omega
   have hp:=pos_at (lgZ hpl);cases hb:Op.bytesLess w.t y.t with
   | true=>rfl
   | false =>
    exfalso;cases hc:Op.bytesLess y.t w.t with
    | false=>exact hne (less_total hc hb)
    | true =>
     cases j with
     | zero =>
      rw [Nat.add_zero,lgZ hpl] at hj;cases hj;rw [hp] at hc; cases hc
     | succ j =>
      have:=sorted_get hs (by omega) (lgZ hpl) hj
      have:=less_trans this hc;rw [hp] at this; cases this
 . obtain ⟨i,hi⟩:=List.mem_iff_getElem?.1 hx;have hil:=(liZ.1 hi).1;rw [List.length_take] at hil;rw [List.getElem?_take_of_lt (by omega)] at hi
   have hxw:=pos_before (show i < posL l w.t by omega) hi
   rcases List.mem_cons.1 hy with rfl | hy
   . exact hxw
   . obtain ⟨j,hj⟩:=List.mem_iff_getElem?.1 hy;rw [List.getElem?_drop] at hj;exact sorted_get hs (by omega) hi hj
theorem at_mem {l:List Wk} {x:Wk} (hs:SortedW l) (h:x ∈ l):∃ i,atL l x.t = some i /\ l[i]? = some x:=by
 obtain ⟨i,hi⟩:=List.mem_iff_getElem?.1 h;refine ⟨i,at_some (fun j w hj hw e=>?_) hi rfl,hi⟩
 have:=sorted_get hs hj hw hi;rw [e,less_irrefl] at this; cases this
end
section
structure Tb where
 n:List UInt8
 c:List Col
 k:Int
deriving DecidableEq
def tbC (t:Tb):List V:=[.str t.n,.sl 3 (cols t.c) false,.int .i64 t.k]
def tbA (t:Tb):V:=.agg [.str t.n,.sl 3 (cols t.c) false,.int .i64 t.k]
def tbs (l:List Tb):List (List V):=l.map tbC
theorem tbs_len (l:List Tb):(tbs l).length = l.length:=by simp [tbs]
theorem tbs_get {l:List Tb} {i:Nat} {t:Tb} (h:l[i]? = some t):(tbs l)[i]? = some (tbC t):=by simp [tbs,h]
theorem tbs_app (a b:List Tb):tbs (a ++ b) = tbs a ++ tbs b:=by simp [tbs]
def nw (t:Tb):Wk:=⟨t.n,false,[]⟩
def nws (l:List Tb):List Wk:=l.map nw
theorem nws_len (l:List Tb):(nws l).length = l.length:=by simp [nws]
theorem nws_get {l:List Tb} {i:Nat} {t:Tb} (h:l[i]? = some t):(nws l)[i]? = some (nw t):=by simp [nws,h]
theorem nws_inv {l:List Tb} {i:Nat} {w:Wk} (h:(nws l)[i]? = some w):∃ t,l[i]? = some t /\ w = nw t:=by
 simp only [nws,List.getElem?_map] at h;cases hl:l[i]? with
 | none=>rw [hl] at h; cases h
 | some t=>rw [hl] at h; cases h; exact ⟨t,rfl,rfl⟩
def SortedT (l:List Tb):Prop:=SortedW (nws l)
def atT (l:List Tb) (n:List UInt8):Option Nat:=atL (nws l) n
def posT (l:List Tb) (n:List UInt8):Nat:=posL (nws l) n
def insT (l:List Tb) (t:Tb):List Tb:=l.take (posT l t.n) ++ t :: l.drop (posT l t.n)
theorem posT_le (l:List Tb) (n:List UInt8):posT l n <= l.length:=by
 have:=pos_le (nws l) n;rw [nws_len] at this; exact this
theorem ins_nws (l:List Tb) (t:Tb):nws (insT l t) = insW (nws l) (nw t):=by
 unfold insT insW posT;have e:(nw t).t = t.n:=rfl;simp [nws,List.map_take,List.map_drop,e]
theorem insT_len (l:List Tb) (t:Tb):(insT l t).length = l.length + 1:=by
 have:=posT_le l t.n;unfold insT;simp only [laZ,List.length_take,List.length_cons,List.length_drop]; omega
theorem atT_get {l:List Tb} {n:List UInt8} {i:Nat} (h:atT l n = some i):∃ t,l[i]? = some t /\ t.n = n /\ i < l.length:=by
 obtain ⟨w,hw,hn,_⟩:=at_get h;obtain ⟨t,ht,rfl⟩:=nws_inv hw;exact ⟨t,ht,hn,(liZ.1 ht).1⟩
def findT (l:List Tb) (n:List UInt8):Option (List Col × Int) :=
 match (atT l n).bind fun i=>l[i]? with
 | some t=>some (t.c,t.k)
 | none=>none
theorem find_some {l:List Tb} {n:List UInt8} {i:Nat} {t:Tb} (h:atT l n = some i) (ht:l[i]? = some t):findT l n = some (t.c,t.k):=by
 unfold findT;rw [h];simp [ht]
theorem find_none {l:List Tb} {n:List UInt8} (h:atT l n = none):findT l n = none:=by
 unfold findT;rw [h]; rfl
def findR (o:Option (List Col × Int)):V :=
 match o with
 | some (c,k)=>.tup [sch c k,.bool true]
 | none=>.tup [sch [] 0,.bool false]
variable {nm:List UInt8 -> Bool} {may:List Col -> Int -> Bool}
structure TbOk (nm:List UInt8 -> Bool) (may:List Col -> Int -> Bool) (t:Tb):Prop where
 name:nm t.n = true
 sch:may t.c t.k = true
structure TbsOk (nm:List UInt8 -> Bool) (may:List Col -> Int -> Bool) (l:List Tb):Prop where
 sorted:SortedT l
 each:∀ t ∈ l,TbOk nm may t
theorem insT_ok {l:List Tb} {t:Tb} (h:TbsOk nm may l) (ht:TbOk nm may t) (hn:atT l t.n = none):TbsOk nm may (insT l t):=by
 refine ⟨?_,fun x hx=>?_⟩
 . unfold SortedT;rw [ins_nws];exact ins_sorted' h.sorted hn
 . unfold insT at hx;rcases List.mem_append.1 hx with h1 | h1
   . exact h.each x (List.mem_of_mem_take h1)
   . rcases List.mem_cons.1 h1 with rfl | h1
     . exact ht
     . exact h.each x (List.mem_of_mem_drop h1)
end
section
structure Chg where
 k:Int
 t:List UInt8
 c:List Col
 ks:Int
 col:Col
deriving DecidableEq
def col0:Col:=⟨[],0,false⟩
def chg0:Chg:=⟨0,[],[],0,col0⟩
def chC (c:Chg):List V:=[.int .i64 c.k,.str c.t,.sl 3 (cols c.c) false,.int .i64 c.ks,.str c.col.n,.int .i64 c.col.k,.bool c.col.o]
def chA (c:Chg):V:=.agg [.int .i64 c.k,.str c.t,.sl 3 (cols c.c) false,.int .i64 c.ks,.str c.col.n,.int .i64 c.col.k,.bool c.col.o]
structure Evt where
 k:Int
 n:Int
 t:List UInt8
 b:List Val
 a:List Val
 ch:Chg
deriving DecidableEq
def evC (e:Evt):List V:=[.int .i64 e.k,.int .i64 e.n,.str e.t,.sl 3 (vals e.b) false,.sl 3 (vals e.a) false,.int .i64 e.ch.k,.str e.ch.t,.sl 3 (cols e.ch.c) false,.int .i64 e.ch.ks,.str e.ch.col.n,.int .i64 e.ch.col.k,.bool e.ch.col.o]
def evA (e:Evt):V:=.agg [.int .i64 e.k,.int .i64 e.n,.str e.t,.sl 3 (vals e.b) false,.sl 3 (vals e.a) false,.int .i64 e.ch.k,.str e.ch.t,.sl 3 (cols e.ch.c) false,.int .i64 e.ch.ks,.str e.ch.col.n,.int .i64 e.ch.col.k,.bool e.ch.col.o]
theorem chg_eq (a b:Chg):(decide (a.k = b.k) && (decide (a.t = b.t) && (decide (a.col = b.col) && (decide (a.ks = b.ks) && decide (a.c = b.c))))) = decide (a = b):=by
 cases a; cases b;simp only [Chg.mk.injEq,<- Bool.decide_and];congr 1
 apply propext;constructor
 . rintro ⟨h1,h2,h3,h4,h5⟩; exact ⟨h1,h2,h5,h4,h3⟩
 . rintro ⟨h1,h2,h5,h4,h3⟩; exact ⟨h1,h2,h3,h4,h5⟩
theorem evt_eq (a b:Evt):(decide (a.k = b.k) && (decide (a.n = b.n) && (decide (a.t = b.t) && (decide (a.b = b.b) && (decide (a.a = b.a) && decide (a.ch = b.ch)))))) = decide (a = b):=by
 cases a; cases b;simp only [Evt.mk.injEq,<- Bool.decide_and]
end
section
def sgU (n:Int):Nat:=if 0 <= n then (2 * n).toNat else (2 * (-(n + 1)) + 1).toNat
def sgW (n:Int):List UInt8:=digW (sgU n)
def colW (c:Col):List UInt8:=txtW c.n ++ [b8 c.k,if c.o then 1 else 0]
def chgW (c:Chg):List UInt8 :=
 b8 c.k :: (txtW c.t ++ (if c.k = 1 then b8 c.ks :: b8 c.c.length :: c.c.flatMap colW else if c.k = 3 \/ c.k = 5 then colW c.col else if c.k = 4 then txtW c.col.n else []))
def valW (v:Val):List UInt8:=if v.k = 1 then [b8 v.n] else if v.k = 2 then sgW v.n else if v.k = 3 \/ v.k = 4 then txtW v.t else []
def nulS (r:List Val) (j:Nat):Nat -> Nat
 | 0=>0
 | t + 1=>nulS r j t + (if ((r[8 * j + t]?).map Val.k) = some 0 then 2 ^ t else 0)
def nulW (r:List Val):List UInt8:=(List.range ((r.length + 7) / 8)).map fun j=>UInt8.ofNat (nulS r j 8)
def rowW (r:List Val):List UInt8:=nulW r ++ r.flatMap valW
def evW (e:Evt):List UInt8 :=
 b8 e.k :: (if e.k = 6 then chgW e.ch else if e.k = 5 then txtW e.t ++ rowW e.b else if e.k = 3 \/ e.k = 4 then txtW e.t ++ rowW e.a else numW e.n)
theorem nulS_lt (r:List Val) (j:Nat):∀ t,nulS r j t < 2 ^ t
 | 0=>by simp [nulS]
 | t + 1=>by
  have:=nulS_lt r j t;simp only [nulS,Nat.pow_succ];split<;>omega
def nulN (r:List Val) (i:Nat):List UInt8:=(List.range ((r.length + 7) / 8)).map fun j=>UInt8.ofNat (nulS r j (min 8 (i - 8 * j)))
theorem nulN_len (r:List Val) (i:Nat):(nulN r i).length = (r.length + 7) / 8:=by simp [nulN]
theorem nulW_len (r:List Val):(nulW r).length = (r.length + 7) / 8:=by simp [nulW]
theorem nulS_end (r:List Val) (j:Nat):∀ t s,r.length <= 8 * j + t -> t <= s -> nulS r j s = nulS r j t
 | t,0,_,h=>by have:t = 0:=by omega
               subst this; rfl
 | t,s + 1,h1,h2=>by
  by_cases e:t = s + 1
  . subst e; rfl
  . simp only [nulS];rw [List.getElem?_eq_none (by omega),nulS_end r j t s h1 (by omega)]
    simp
theorem nulN_all (r:List Val):nulN r r.length = nulW r:=by
 unfold nulN nulW;refine List.map_congr_left fun j _=>?_
 congr 1
 by_cases h:8 <= r.length - 8 * j
 . rw [Nat.min_eq_left h]
 . rw [Nat.min_eq_right (by omega)]
   exact (nulS_end r j _ 8 (by omega) (by omega)).symm
theorem nulN_zero (r:List Val):nulN r 0 = List.replicate ((r.length + 7) / 8) 0:=by
 unfold nulN;refine List.ext_getElem? fun j=>?_
 rw [List.getElem?_map,List.getElem?_replicate];by_cases h:j < (r.length + 7) / 8
 . rw [List.getElem?_range h,if_pos h];simp [nulS]
 . rw [List.getElem?_eq_none (by simp; omega),if_neg h]; rfl
theorem nulN_get {r:List Val} {i j:Nat} (h:j < (r.length + 7) / 8):(nulN r i)[j]? = some (UInt8.ofNat (nulS r j (min 8 (i - 8 * j)))):=by
 unfold nulN;rw [List.getElem?_map,List.getElem?_range h]; rfl
theorem nulN_skip {r:List Val} {i:Nat} {v:Val} (hg:r[i]? = some v) (hk:v.k ≠ 0):nulN r (i + 1) = nulN r i:=by
 unfold nulN;refine List.map_congr_left fun j _=>?_
 congr 1
 by_cases h1:i < 8 * j
 . rw [show i + 1 - 8 * j = 0 by omega,show i - 8 * j = 0 by omega]
 . by_cases h2:8 * j + 8 <= i
   . rw [Nat.min_eq_left (by omega),Nat.min_eq_left (by omega)]
   . rw [Nat.min_eq_right (by omega),Nat.min_eq_right (by omega),show i + 1 - 8 * j = (i - 8 * j) + 1 by omega]
     simp only [nulS];rw [show 8 * j + (i - 8 * j) = i by omega,hg]
     simp [hk]
theorem nulN_set {r:List Val} {i:Nat} {v:Val} (hg:r[i]? = some v) (hk:v.k = 0) :
 nulN r (i + 1) = (nulN r i).set (i / 8) (UInt8.ofNat (nulS r (i / 8) (i % 8) + 2 ^ (i % 8))) /\ (nulN r i)[i / 8]? = some (UInt8.ofNat (nulS r (i / 8) (i % 8))):=by
 have hlt:=(liZ.1 hg).1;have hj:i / 8 < (r.length + 7) / 8:=by omega
 have hm:min 8 (i - 8 * (i / 8)) = i % 8:=by omega
 refine ⟨List.ext_getElem? fun j=>?_,by rw [nulN_get hj,hm]⟩
 rw [List.getElem?_set,nulN_len];by_cases e:i / 8 = j
 . subst e;rw [if_pos rfl,if_pos hj,nulN_get hj,show min 8 (i + 1 - 8 * (i / 8)) = i % 8 + 1 by omega]
   simp only [nulS];rw [show 8 * (i / 8) + i % 8 = i by omega,hg]
   simp [hk]
 . rw [if_neg e];by_cases hj2:j < (r.length + 7) / 8
   . rw [nulN_get hj2,nulN_get hj2];congr 3
     omega
   . rw [List.getElem?_eq_none (by rw [nulN_len]; omega),List.getElem?_eq_none (by rw [nulN_len]; omega)]
theorem sgW_len (n:Int):(sgW n).length <= 10:=digW_len _
theorem valW_len {v:Val} (h:v.t.length <= 4096):(valW v).length <= 4106:=by
 unfold valW;split
 . simp
 split
 . have:=sgW_len v.n; omega
 split
 . have:=txtW_len v.t; omega
 . simp
theorem vals_w {r:List Val} (h:∀ v ∈ r,v.t.length <= 4096):(r.flatMap valW).length <= 4106 * r.length:=by
 induction r with
 | nil=>simp
 | cons v l ih =>
  rw [List.flatMap_cons,laZ,List.length_cons];have:=valW_len (h v (by simp))
  have:=ih fun x hx=>h x (by simp [hx])
  omega
theorem valsW_snoc {r:List Val} {i:Nat} {v:Val} (h:r[i]? = some v):(r.take (i + 1)).flatMap valW = (r.take i).flatMap valW ++ valW v:=by
 rw [List.take_add_one,h,List.flatMap_append];simp
theorem colW_len {c:Col} (h:c.n.length <= 4096):(colW c).length <= 4108:=by
 unfold colW;rw [laZ];have:=txtW_len c.n;simp only [List.length_cons,List.length_nil];omega
theorem cols_w {l:List Col} (h:∀ c ∈ l,c.n.length <= 4096):(l.flatMap colW).length <= 4108 * l.length:=by
 induction l with
 | nil=>simp
 | cons v l ih =>
  rw [List.flatMap_cons,laZ,List.length_cons];have:=colW_len (h v (by simp))
  have:=ih fun x hx=>h x (by simp [hx])
  omega
theorem colsW_snoc {r:List Col} {i:Nat} {v:Col} (h:r[i]? = some v):(r.take (i + 1)).flatMap colW = (r.take i).flatMap colW ++ colW v:=by
 rw [List.take_add_one,h,List.flatMap_append];simp
structure ChB (c:Chg):Prop where
 t:c.t.length <= 4096
 few:c.c.length <= 64
 names:∀ x ∈ c.c,x.n.length <= 4096
 col:c.col.n.length <= 4096
end
section
def stp (c:Nat):Nat:=c / 2 ^^^ (if c % 2 = 1 then 3988292384 else 0)
def stpN:Nat -> Nat -> Nat
 | 0,c=>c
 | k + 1,c=>stpN k (stp c)
theorem stpN_add:∀ (a b c:Nat),stpN (a + b) c = stpN b (stpN a c)
 | 0,b,c=>by rw [Nat.zero_add]; rfl
 | a + 1,b,c=>by rw [show a + 1 + b = (a + b) + 1 by omega]; exact stpN_add a b (stp c)
theorem stpN_s (k c:Nat):stpN (k + 1) c = stp (stpN k c):=stpN_add k 1 c
theorem stp_xor (a b:Nat):stp (a ^^^ b) = stp a ^^^ stp b:=by
 unfold stp;rw [Nat.xor_div_two];have hm:(a ^^^ b) % 2 = (a % 2 + b % 2) % 2:=by
  have:=Nat.xor_mod_two_eq_one (a:=a) (b:=b);by_cases h:(a ^^^ b) % 2 = 1
  . have:=this.1 h; omega
  . have h2:¬ ¬ (a % 2 = 1 ↔ b % 2 = 1):=fun hn=>h (this.2 hn)
    have h3:(a % 2 = 1 ↔ b % 2 = 1):=Decidable.not_not.1 h2;by_cases ha:a % 2 = 1
    . have:=h3.1 ha; omega
    . have:¬ b % 2 = 1:=fun hb=>ha (h3.2 hb)
      omega
 rw [hm];rcases Nat.mod_two_eq_zero_or_one a with ha | ha<;>rcases Nat.mod_two_eq_zero_or_one b with hb | hb<;>rw [ha,hb]
 . simp
 . simp [Nat.xor_assoc]
 . simp only [show (1 + 0) % 2 = 1 from rfl,if_true,if_neg (show ¬ (0 = 1) by decide),Nat.xor_zero]
   rw [Nat.xor_assoc,Nat.xor_comm (b / 2),<- Nat.xor_assoc]
 . simp only [show (1 + 1) % 2 = 0 from rfl,if_true,if_neg (show ¬ (0 = 1) by decide),Nat.xor_zero]
   rw [Nat.xor_assoc,Nat.xor_comm 3988292384 (b / 2 ^^^ 3988292384),Nat.xor_assoc,Nat.xor_self,Nat.xor_zero]
theorem stpN_xor:∀ (k a b:Nat),stpN k (a ^^^ b) = stpN k a ^^^ stpN k b
 | 0,_,_=>rfl
 | k + 1,a,b=>by simp only [stpN]; rw [stp_xor,stpN_xor k]
theorem stp_even (k:Nat):stp (2 * k) = k:=by
 unfold stp;rw [show 2 * k % 2 = 0 by omega,if_neg (by decide),Nat.xor_zero]; omega
theorem stpN_mul:∀ (k a:Nat),stpN k (2 ^ k * a) = a
 | 0,a=>by simp [stpN]
 | k + 1,a=>by
  simp only [stpN];rw [show 2 ^ (k + 1) * a = 2 * (2 ^ k * a) by rw [Nat.pow_succ,Nat.mul_comm (2 ^ k) 2,Nat.mul_assoc],stp_even,stpN_mul k a]
theorem stp_lt {c:Nat} (h:c < 2 ^ 32):stp c < 2 ^ 32:=by
 unfold stp;refine Nat.xor_lt_two_pow (by omega) ?_
 split<;>decide
theorem stpN_lt:∀ (k:Nat) {c:Nat},c < 2 ^ 32 -> stpN k c < 2 ^ 32
 | 0,_,h=>h
 | k + 1,_,h=>stpN_lt k (stp_lt h)
def run (c:Nat):List UInt8 -> Nat
 | []=>c
 | b :: l=>run (stpN 8 (c ^^^ b.toNat)) l
theorem add_xor {a b:Nat} (ha:a < 256):a + 256 * b = a ^^^ (256 * b):=by
 have h:=or_add (n:=a) (d:=b) (k:=8) ha;have e:a ||| b * 2 ^ 8 = a ^^^ (256 * b):=by
  rw [show b * 2 ^ 8 = 256 * b by omega]
  refine Nat.eq_of_testBit_eq fun i=>?_
  rw [Nat.testBit_or,Nat.testBit_xor];by_cases hi:i < 8
  . have:(256 * b).testBit i = false:=by
     rw [show 256 * b = 2 ^ 8 * b from rfl,Nat.testBit_two_pow_mul]
     simp; omega
    rw [this]; simp
  . have:a.testBit i = false:=Nat.testBit_lt_two_pow (Nat.lt_of_lt_of_le ha (Nat.pow_le_pow_right (n:=2) (by decide) (show 8 <= i by omega)))
    rw [this]; simp
 rw [<- e,h]; omega
theorem run_lt:∀ (l:List UInt8) {c:Nat},c < 2 ^ 32 -> run c l < 2 ^ 32
 | [],_,h=>h
 | b :: l,c,h=>run_lt l (stpN_lt 8 (Nat.xor_lt_two_pow h (by have:=b.toNat_lt; omega)))
def crcS (l:List UInt8):Nat:=run 4294967295 l ^^^ 4294967295
def le4 (n:Nat):List UInt8:=[UInt8.ofNat n,UInt8.ofNat (n / 256),UInt8.ofNat (n / 65536),UInt8.ofNat (n / 16777216)]
def crcP (l:List UInt8):List UInt8:=l ++ le4 (crcS l)
theorem crcS_lt (l:List UInt8):crcS l < 2 ^ 32:=Nat.xor_lt_two_pow (run_lt l (by decide)) (by decide)
end
section
theorem wrap_u32 (n:Int):IntKind.u32.wrap n = n % 4294967296:=by simp [IntKind.wrap,IntKind.bits,IntKind.signed]
theorem wrap_u8 (n:Int):IntKind.u8.wrap n = n % 256:=by simp [IntKind.wrap,IntKind.bits,IntKind.signed]
theorem bv32 {a:Nat} (h:a < 2 ^ 32):(BitVec.ofInt 32 (a:Int)).toNat = a:=by rw [BitVec.toNat_ofInt]; omega
theorem bv8 {a:Nat} (h:a < 256):(BitVec.ofInt 8 (a:Int)).toNat = a:=by rw [BitVec.toNat_ofInt]; omega
theorem xor32 {a b:Nat} (ha:a < 2 ^ 32) (hb:b < 2 ^ 32):IntKind.u32.wrap ↑(BitVec.ofInt IntKind.u32.bits (a:Int) ^^^ BitVec.ofInt IntKind.u32.bits (b:Int)).toNat = ((a ^^^ b:Nat):Int):=by
 show IntKind.u32.wrap ↑(BitVec.ofInt 32 (a:Int) ^^^ BitVec.ofInt 32 (b:Int)).toNat = _
 rw [BitVec.toNat_xor,bv32 ha,bv32 hb,wrap_u32];have:=Nat.xor_lt_two_pow ha hb;omega
theorem xor8 {a b:Nat} (ha:a < 256) (hb:b < 256):IntKind.u8.wrap ↑(BitVec.ofInt IntKind.u8.bits (a:Int) ^^^ BitVec.ofInt IntKind.u8.bits (b:Int)).toNat = ((a ^^^ b:Nat):Int):=by
 show IntKind.u8.wrap ↑(BitVec.ofInt 8 (a:Int) ^^^ BitVec.ofInt 8 (b:Int)).toNat = _
 rw [BitVec.toNat_xor,bv8 ha,bv8 hb,wrap_u8];have:=Nat.xor_lt_two_pow (n:=8) (x:=a) (y:=b) (by omega) (by omega)
 omega
theorem and32_1 {a:Nat} (ha:a < 2 ^ 32):IntKind.u32.wrap ↑(BitVec.ofInt IntKind.u32.bits (a:Int) &&& BitVec.ofInt IntKind.u32.bits 1).toNat = ((a % 2:Nat):Int):=by
 show IntKind.u32.wrap ↑(BitVec.ofInt 32 (a:Int) &&& BitVec.ofInt 32 1).toNat = _
 rw [BitVec.toNat_and,bv32 ha,show (BitVec.ofInt 32 1).toNat = 1 from rfl,Nat.and_one_is_mod,wrap_u32]
 omega
theorem shr_u32 (a:Nat) {k:Nat} (hk:k <= 32):Int.fdiv (a:Int) (2 ^ min (k:Int).toNat IntKind.u32.bits) = ((a / 2 ^ k:Nat):Int):=by
 rw [Int.toNat_natCast,show min k IntKind.u32.bits = k from Nat.min_eq_left hk]
 rw [Int.fdiv_eq_ediv_of_nonneg _ (Int.pow_nonneg (by decide))]
 rw [Int.natCast_ediv,Int.natCast_pow]; rfl
theorem stp_code {c:Nat} (h:c < 2 ^ 32) :
 IntKind.u32.wrap ↑(BitVec.ofInt IntKind.u32.bits (Int.fdiv (c:Int) (2 ^ min (1:Int).toNat IntKind.u32.bits)) ^^^ BitVec.ofInt IntKind.u32.bits (IntKind.u32.wrap (3988292384 * IntKind.u32.wrap ↑(BitVec.ofInt IntKind.u32.bits (c:Int) &&& BitVec.ofInt IntKind.u32.bits 1).toNat))).toNat = ((stp c:Nat):Int):=by
 have e1:Int.fdiv (c:Int) (2 ^ min (1:Int).toNat IntKind.u32.bits) = ((c / 2:Nat):Int):=shr_u32 c (k:=1) (by decide)
 have e2:IntKind.u32.wrap (3988292384 * IntKind.u32.wrap ↑(BitVec.ofInt IntKind.u32.bits (c:Int) &&& BitVec.ofInt IntKind.u32.bits 1).toNat) = (((if c % 2 = 1 then 3988292384 else 0:Nat)):Int):=by
  rw [and32_1 h,wrap_u32];split<;>omega
 rw [e1,e2,xor32 (by omega) (by split<;>decide)]
 rfl
theorem tab_step (c:Nat) (x:UInt8):stpN 8 (c ^^^ x.toNat) = (c / 256) ^^^ stpN 8 ((c % 256) ^^^ x.toNat):=by
 have e:c = (c % 256) ^^^ (256 * (c / 256)):=by
  rw [<- add_xor (Nat.mod_lt _ (by decide))]; omega
 have e2:c ^^^ x.toNat = ((c % 256) ^^^ x.toNat) ^^^ (256 * (c / 256)):=by
  conv=>lhs; rw [e]
  rw [Nat.xor_assoc,Nat.xor_comm (256 * (c / 256)),<- Nat.xor_assoc]
 rw [e2,stpN_xor,show 256 * (c / 256) = 2 ^ 8 * (c / 256) from rfl,stpN_mul,Nat.xor_comm]
theorem run_snoc:∀ (l:List UInt8) (c:Nat) (b:UInt8),run c (l ++ [b]) = stpN 8 (run c l ^^^ b.toNat)
 | [],_,_=>rfl
 | _ :: l,c,b=>run_snoc l _ b
theorem le4_code {s i:Nat} (hs:s < 2 ^ 32) (hi:i < 4):IntKind.u8.wrap (Int.fdiv (s:Int) (2 ^ min (IntKind.i64.wrap (8 * (i:Int))).toNat IntKind.i64.bits)) = ((((le4 s).getD i 0).toNat:Nat):Int):=by
 have e0:(IntKind.i64.wrap (8 * (i:Int))).toNat = 8 * i:=by rw [IntKind.wrap_i64]; omega
 have e1:min (8 * i) IntKind.i64.bits = 8 * i:=by show min (8 * i) 64 = _; omega
 have e2:Int.fdiv (s:Int) (2 ^ (8 * i)) = ((s / 2 ^ (8 * i):Nat):Int):=by
  rw [Int.fdiv_eq_ediv_of_nonneg _ (Int.pow_nonneg (by decide)),Int.natCast_ediv,Int.natCast_pow]; rfl
 rw [e0,e1,e2,wrap_u8];obtain rfl | rfl | rfl | rfl:i = 0 \/ i = 1 \/ i = 2 \/ i = 3:=by omega
 all_goals
  simp only [le4,List.getD_cons_zero,List.getD_cons_succ,UInt8.toNat_ofNat', Nat.reduceMul,Nat.reducePow];omega
theorem le4_len (s:Nat):(le4 s).length = 4:=rfl
theorem crcP_len (b:List UInt8):(crcP b).length = b.length + 4:=by unfold crcP; rw [laZ,le4_len]
end
section
variable [Globs]
theorem app_gen {z b i n:Nat} {x:V} {X ys:List (List V)} {H:List O} {K:V -> List O -> Prop} (hx:sameBuf (.ms z i 0 n false) x = false) (hX:getO H i = .buf X) (hn:n = X.length) (hs:(X.length + ys.length) * b <= 70368744177664)
 (hK:copyH (setO H i .dead ++ [.buf (X ++ ys)]) fun H' => K (.ms z (setO H i .dead).length 0 (X.length + ys.length) false) H'):aapp z b (.ms z i 0 n false) x ys H K:=by
 subst hn;unfold aapp;simp only [hx];unfold aappend;simp only [Nat.beq_refl,hX,List.drop_zero];refine ⟨rfl,?_⟩;unfold newBuf;rw [laZ];exact ⟨hs,hK⟩
theorem app_gen2 {z b n:Nat} {X ys:List (List V)} {H:List O} {K:V -> List O -> Prop} (hn:n = X.length) (hs:(X.length + ys.length) * b <= 70368744177664)
 (hK:copyH (H ++ [.buf (X ++ ys)]) fun H' => K (.ms z H.length 0 (X.length + ys.length) false) H'):n + 0 = X.length /\ newBuf z b (List.drop 0 X ++ ys) H K:=by
 subst hn;refine ⟨rfl,?_⟩;rw [List.drop_zero];unfold newBuf;rw [laZ];exact ⟨hs,hK⟩
end
end Go.Proofs.YteiagdlfccbpcaaGreatDoorPg
