/- Own texts, laid together: PgVal1, PgSch2, PgVal2, PgVal3, PgWin1, PgVal4, PgVal5, PgVal6, PgLay1, PgLay2, PgLay3, PgLay4, PgE9, PgCh1, PgEv1, PgEv2, PgIm1, PgCrc1, PgCrc2, PgE91. -/
import Derived.Test.YteiagdlfccbpcaaGreatDoorPgM11
import Derived.Laws.BitsLemmas
set_option linter.unusedSectionVars false
set_option linter.unusedSimpArgs false
set_option linter.unusedVariables false
namespace Go.Proofs.YteiagdlfccbpcaaGreatDoorPg
open Go Go.RowKit
section
structure Val where
 k:Int
 n:Int
 t:List UInt8
 deriving DecidableEq
def cP (v:Val):List V:=[.int .i64 v.k,.int .i64 v.n,.str v.t]
def ah (l:List Val):List (List V):=l.map cP
theorem aC (l:List Val):(ah l).length=l.length:=by simp[ah]
theorem bU {l:List Val} {i:Nat} {v:Val} (h:l[i]? = some v):(ah l)[i]? = some [.int .i64 v.k,.int .i64 v.n,.str v.t]:=by simp[ah,h,cP]
theorem lJ (a b:List Val):ah (a++b)=ah a++ah b:=by simp[ah]
def val0:Val:=⟨0,0,[]⟩
def kq (c:Int):Option (Nat × Int × Int) :=
 if c<192 then none else if c<224 then some (1,128,c-192)else if c<240 then some (2,2048,c-224)else if c<248 then some (3,65536,c-240)else none
def cv (r:List UInt8) (v0:Int):Nat->Option Int
 | 0=>some v0
 | k+1=>match cv r v0 k,r[k]? with
  | some v,some d=>if 128<=d.toNat/\d.toNat<192 then some (64*v+d.toNat-128)else none
  | _,_=>none
def jj (v least:Int):Bool:=decide (v<least)||(decide (1114111<v)||(decide (55296<=v)&&decide (v<=57343)))
@[irreducible] def dN (c:UInt8) (r:List UInt8):Option Nat :=
 if(c.toNat:Int)<128 then some 0 else match kq c.toNat with
  | none=>none
  | some (n,least,v0)=>if r.length<n then none else match cv r v0 n with
   | none=>none
   | some v=>if jj v least then none else some n
def Kl:Nat->List UInt8->Bool
 | _,[]=>true
 | 0,_::_=>false
 | f+1,c::r=>match dN c r with
  | none=>false
  | some n=>Kl f (r.drop n)
def u8 (s:List UInt8):Bool:=Kl s.length s
theorem tC (f:Nat) (c:UInt8) (r:List UInt8):Kl (f+1) (c::r)=match dN c r with | none=>false | some n=>Kl f (r.drop n):=rfl
theorem zP:∀(f:Nat) (s:List UInt8),s.length<=f -> ∀g,s.length<=g->Kl f s=Kl g s
 | f,[],_,g,_=>by cases f<;>cases g<;>rfl
 | 0,_::_,h,_,_=>absurd h (by rw[List.length_cons]; omega)
 | f+1,c::r,h,0,hg=>absurd hg (by rw[List.length_cons]; omega)
 | f+1,c::r,h,g+1,hg=>by
  rw[tC,tC];generalize dN c r=x;cases x with
  | none=>rfl
  | some n=>exact zP f (r.drop n) (by rw[List.length_cons]at h; rw[List.length_drop]; omega) g (by rw[List.length_cons]at hg; rw[List.length_drop]; omega)
theorem Ke:u8 []=true:=rfl
theorem CL (c:UInt8) (r:List UInt8):u8 (c::r)=match dN c r with | none=>false | some n=>u8 (r.drop n):=by
 unfold u8;rw[List.length_cons,tC];generalize dN c r=x;cases x with
 | none=>rfl
 | some n=>exact zP _ _ (by rw[List.length_drop]; omega) _ (Nat.le_refl _)
theorem kg {r:List UInt8} {v0:Int} {k:Nat} (h:cv r v0 k=none):∀ {m:Nat},k<=m->cv r v0 m=none
 | 0,hm=>by
  have:k=0:=by omega
  subst this; exact h
 | m+1,hm=>by
  rcases Nat.lt_or_ge k (m+1)with hk | hk
  . have:=kg h (m:=m) (by omega)
    simp[cv,this]
  . have:k=m+1:=by omega
    subst this; exact h
theorem nH {r:List UInt8} {v0:Int} (h0:0<=v0/\v0<32):∀ {k:Nat} {v:Int},cv r v0 k=some v->0<=v/\v<32*64 ^ k
 | 0,v,h=>by simp[cv]at h; subst h; omega
 | k+1,v,h=>by
  unfold cv at h;split at h<;>try (cases h; done)
  rename_i w d hw hd;have:=nH h0 hw;split at h<;>try (cases h; done)
  rename_i hdd;simp at h;rw[Int.pow_succ];omega
def poolS:List (List UInt8):=[[105,100],[110,97,109,101],[110],[102,108,97,103],[114,97,119],[120]]
def kV (k:Int):Int:=if k<0 then IntKind.i64.wrap (0-IntKind.i64.wrap (k+1))else k
def nQ (k:Int):Int:=IntKind.i64.wrap (1+(kV k).tmod 4)
def mu (ok:List UInt8->Bool) (out:List Col) (i:Nat) (c:Col):List UInt8 :=
 if ok c.n=false\/0<=dQ c.n out 0 then poolS.getD i []else c.n
def stepG (ok:List UInt8->Bool) (out:List Col) (i:Nat) (c:Col):List Col :=
 if dQ (mu ok out i c) out 0<0 then out ++ [⟨mu ok out i c,nQ c.k,c.o⟩]else out
def gN (ok:List UInt8->Bool) (l:List Col):Nat->List Col
 | 0=>[]
 | i+1=>match l[i]? with
  | some c=>stepG ok (gN ok l i) i c
  | none=>gN ok l i
def dw (ok:List UInt8->Bool) (l:List Col):List Col :=
 match gN ok l (min l.length 6)with
 | []=>[⟨[105,100],2,false⟩]
 | g=>g
def fS (n:Nat) (keys:Int):Int:=IntKind.i64.wrap (1+(kV keys).tmod ((min n 3:Nat):Int))
def bV:Nat->List Col->List Col
 | 0,l=>l
 | _,[]=>[]
 | k+1,c::l=>{ c with o:=false } :: bV k l
def i9 (ok:List UInt8->Bool) (l:List Col) (keys:Int):List Col:=bV (fS (dw ok l).length keys).toNat (dw ok l)
def nS (ok:List UInt8->Bool) (l:List Col) (keys:Int):Int:=fS (dw ok l).length keys
theorem qe {k:Int} (h:-9223372036854775808<=k/\k<=9223372036854775807):0<=kV k/\kV k<=9223372036854775807:=by
 unfold kV;split
 . have e1:IntKind.i64.wrap (k+1)=k+1:=by rw[IntKind.wrap_i64]; omega
   have e2:IntKind.i64.wrap (0-(k+1)) = - (k+1):=by rw[IntKind.wrap_i64]; omega
   rw[e1,e2]; omega
 . omega
theorem EZ {k:Int} (h:-9223372036854775808<=k/\k<=9223372036854775807):1<=nQ k/\nQ k<=4:=by
 have h1:=qe h;unfold nQ;rw[IntKind.wrap_i64,Int.tmod_eq_emod_of_nonneg h1.1];omega
theorem yL {n:Nat} (hn:1<=n) {k:Int} (h:-9223372036854775808<=k/\k<=9223372036854775807):1<=fS n k/\fS n k<=3/\fS n k<=n:=by
 have h1:=qe h;unfold fS;rw[IntKind.wrap_i64,Int.tmod_eq_emod_of_nonneg h1.1];have h2:0<((min n 3:Nat):Int):=by omega
 have h3:=Int.emod_lt_of_pos (kV k) h2;have h4:=Int.emod_nonneg (kV k) (show((min n 3:Nat):Int)≠0 by omega)
 generalize kV k % ((min n 3:Nat):Int)=r at *;omega
theorem wt (ok:List UInt8->Bool) (l:List Col):∀i,(gN ok l i).length<=i
 | 0=>by simp[gN]
 | i+1=>by
  have:=wt ok l i;unfold gN;split
  . unfold stepG; split<;>simp<;>omega
  . omega
theorem o8 (ok:List UInt8->Bool) (l:List Col):1<=(dw ok l).length/\(dw ok l).length<=6:=by
 have:=wt ok l (min l.length 6);unfold dw;split
 . simp
 . rename_i h;constructor
   . cases hg:gN ok l (min l.length 6)with
     | nil=>exact absurd hg h
     | cons=>simp
   . omega
theorem iB:∀(k:Nat) (l:List Col),(bV k l).length=l.length
 | 0,l=>by simp[bV]
 | _+1,[]=>by simp[bV]
 | k+1,c::l=>by simp[bV,iB k l]
theorem eV:∀(k:Nat) (l:List Col) (i:Nat),(bV k l)[i]? = (l[i]?).map fun c=>if i<k then { c with o:=false } else c
 | 0,l,i=>by simp[bV]
 | _+1,[],i=>by simp[bV]
 | k+1,c::l,0=>by simp[bV]
 | k+1,c::l,i+1=>by simp[bV,eV k l i]
theorem yd {k:Nat} {l:List Col} {c:Col} (h:l[k]? = some c):(bV k l).set k { c with o:=false } = bV (k+1) l:=by
 refine List.ext_getElem? fun i=>?_
 rw[eV,List.getElem?_set,iB,eV];have hlt:=(liZ.1 h).1;by_cases e:k=i
 . subst e;have e2:=(liZ.1 h).2;simp[hlt,e2]
 . rw[if_neg e];by_cases g:i<k
   . have g2:i<k+1:=by omega
     cases l[i]?<;>simp[g,g2]
   . have g2:¬i<k+1:=by omega
     cases l[i]?<;>simp[g,g2]
def fK (v:Val):Bool :=
 if v.k=0 then decide (v.n=0)&&decide (v.t = [])
 else if v.k=1 then decide (v.t = [])&&(decide (v.n=0)||decide (v.n=1))
 else if v.k=2 then decide (v.t = [])
 else if v.k=3 then u8 v.t&&decide (v.n=0)&&decide ((v.t.length:Int)<=4096)
 else if v.k=4 then decide (v.n=0)&&decide ((v.t.length:Int)<=4096)
 else false
def bG (c:Col) (v:Val):Bool:=fK v&&(decide (v.k=c.k)||(decide (v.k=0)&&c.o))
def px (t:List UInt8):List UInt8:=if 40<t.length then t.take 40 else t
def iH (k:Int):Int:=(kV k).tmod 5
def iI (v:Val):Val :=
 if iH v.k=1 then⟨iH v.k,if v.n.tmod 2=0 then 0 else 1,[]⟩
 else if iH v.k=2 then⟨iH v.k,v.n,[]⟩
 else if iH v.k=3 then⟨iH v.k,0,if u8 (px v.t)then px v.t else []⟩
 else if iH v.k=4 then⟨iH v.k,0,px v.t⟩
 else⟨iH v.k,0,[]⟩
def kG (c:Col) (v:Val):Val:=if c.o=true/\v.k.tmod 3=0 then val0 else iI { v with k:=c.k }
def iQ (l:List Col) (vs:List Val):Nat->List Val
 | 0=>[]
 | i+1=>match l[i]? with
  | some c=>iQ l vs i ++ [kG c (vs.getD i val0)]
  | none=>iQ l vs i
def fN (l:List Col) (vs:List Val):List Val:=iQ l vs l.length
theorem oA (l:List Col) (vs:List Val):∀i,i<=l.length->(iQ l vs i).length=i
 | 0,_=>rfl
 | i+1,h=>by
  have:=oA l vs i (by omega)
  have hg:l[i]? = some l[i]:=aS (by omega)
  simp[iQ,hg,this]
theorem zy (l:List Col) (vs:List Val):∀i,i<=l.length -> ∀j,j<i->(iQ l vs i)[j]? = (l[j]?).map fun c=>kG c (vs.getD j val0)
 | 0,_,j,hj=>by omega
 | i+1,h,j,hj=>by
  have hl:=oA l vs i (by omega)
  have hg:l[i]? = some l[i]:=aS (by omega)
  simp only[iQ,hg];rcases Nat.lt_or_ge j i with h1 | h1
  . rw[List.getElem?_append_left (by omega)]; exact zy l vs i (by omega) j h1
  . have e:j=i:=by omega
    subst e;rw[List.getElem?_append_right (by omega),hl,hg]
    simp
theorem oz (l:List Col) (vs:List Val):(fN l vs).length=l.length:=oA l vs _ (Nat.le_refl _)
theorem zx (l:List Col) (vs:List Val) {j:Nat} {c:Col} (h:l[j]? = some c):(fN l vs)[j]? = some (kG c (vs.getD j val0)):=by
 have:=zy l vs _ (Nat.le_refl _) j (liZ.1 h).1;rw[fN,this,h]; rfl
theorem Bz (t:List UInt8):(px t).length<=40:=by
 unfold px; split
 . rw[List.length_take]; omega
 . omega
def Bu (l:List Col) (vs:List Val) (i:Nat):Bool:=match l[i]?,vs[i]? with
 | some c,some v=>bG c v
 | _,_=>true
theorem io {l:List Col} {vs:List Val} {i:Nat} {c:Col} {v:Val} (hc:l[i]? = some c) (hv:vs[i]? = some v):Bu l vs i=bG c v:=by unfold Bu; rw[hc,hv]
theorem zH {l:List Col} {vs:List Val} {i:Nat} (h:∀(c:Col) (v:Val),l[i]? = some c->vs[i]? = some v->bG c v=true):Bu l vs i=true:=by
 unfold Bu;split
 . rename_i c v hc hv; exact h c v hc hv
 . rfl
def bB (l:List Col) (vs:List Val):Bool:=decide (vs.length=l.length)&&(List.range vs.length).all (Bu l vs)
def aP (l:List Col) (keys:Nat) (vs:List Val):Bool:=decide (keys<=vs.length)&&(List.range keys).all (Bu l vs)
theorem sq {l:List Col} {vs:List Val} (hl:vs.length=l.length) (h:∀(i:Nat) (c:Col) (v:Val),l[i]? = some c->vs[i]? = some v->bG c v=true):bB l vs=true:=by
 unfold bB;rw[decide_eq_true hl,Bool.true_and,List.all_eq_true];intro i _;exact zH (h i)
def bs (l:List UInt8):List (List V):=l.map fun b=>[.int .u8 (b.toNat:Int)]
theorem al (l:List UInt8):(bs l).length=l.length:=by simp[bs]
theorem iA (a b:List UInt8):bs (a++b)=bs a++bs b:=by simp[bs]
theorem bz:∀l:List UInt8,cq (bs l)=some l
 | []=>rfl
 | b::l=>by
  have:=bz l;simp only[bs,List.map_cons]at this ⊢;simp only[cq,this];simp
def b8 (n:Int):UInt8:=UInt8.ofNat (n % 256).toNat
theorem bZ (n:Int):IntKind.u8.wrap n=((b8 n).toNat:Int):=by
 have e:IntKind.u8.wrap n=n % 256:=by
  simp[IntKind.wrap,IntKind.bits,IntKind.signed]
 rw[e,b8];have h1:0<=n % 256:=by omega
 have h2:n % 256<256:=by omega
 generalize n % 256=m at *;have:(UInt8.ofNat m.toNat).toNat=m.toNat:=by
  rw[UInt8.toNat_ofNat']; omega
 rw[this]; omega
def vV (m:Int):Nat->Int
 | 0=>m
 | k+1=>IntKind.u64.wrap (vV m k*256)
def qD (m:Int):Nat->List UInt8
 | 0=>[]
 | k+1=>qD m k ++ [b8 (IntKind.u64.wrap ((vV m k).tdiv 72057594037927936))]
theorem qF (m:Int):∀k,(qD m k).length=k
 | 0=>rfl
 | k+1=>by simp[qD,qF m k]
def sj (b:UInt8):List UInt8:=if b=0 then [b,255]else [b]
def eW (t:List UInt8):List UInt8:=t.flatMap sj
theorem uJ {t:List UInt8} {j:Nat} {b:UInt8} (h:t[j]? = some b):eW (t.take (j+1))=eW (t.take j)++sj b:=by
 rw[List.take_add_one,h]; simp[eW]
theorem nP:∀t:List UInt8,(eW t).length<=2*t.length
 | []=>by simp[eW]
 | b::t=>by
  have:=nP t;have e:eW (b::t)=sj b++eW t:=by simp[eW]
  have hb:(sj b).length<=2:=by unfold sj; split<;>simp
  rw[e,aD,List.length_cons]; omega
def fA (n:Int):Int:=IntKind.u64.wrap (IntKind.u64.wrap n+9223372036854775808)
def t7 (v:Val):List UInt8 :=
 if v.k=1 then [b8 v.n]else if v.k=2 then qD (fA v.n) 8 else if v.k=3\/v.k=4 then eW v.t ++ [0,1]else []
def hU (v:Val):List UInt8:=b8 v.k::t7 v
def eH (l:List Val):List UInt8:=l.flatMap hU
theorem uU {l:List Val} {i:Nat} {v:Val} (h:l[i]? = some v):eH (l.take (i+1))=eH (l.take i)++hU v:=by
 rw[List.take_add_one,h]; simp[eH]
theorem E3 {v:Val} (h:v.t.length<=4096):(hU v).length<=9000:=by
 unfold hU t7;have:=nP v.t;rw[List.length_cons]
 repeat' split
 all_goals first
  | (rw[qF]; omega)
  | (rw[aD]; simp only[List.length_cons,List.length_nil]; omega)
  | (simp only[List.length_cons,List.length_nil]; omega)
theorem sK:∀ {l:List Val},(∀v∈l,v.t.length<=4096)->(eH l).length<=9000*l.length
 | [],_=>by simp[eH]
 | v::l,h=>by
  have h1:=E3 (h v (by simp))
  have h2:=sK (l:=l) fun w hw=>h w (by simp[hw])
  have e:eH (v::l)=hU v++eH l:=by simp[eH]
  rw[e,aD,List.length_cons]; omega
theorem sR {v:Val} (h:fK v=true):v.t.length<=4096:=by
 unfold fK at h
 repeat' split at h
 all_goals simp at h
 . rw[h.2]; simp
 . rw[h.1]; simp
 . rw[h]; simp
 . omega
 . omega
theorem zJ {c:Col} {v:Val} (h:bG c v=true):v.t.length<=4096:=by
 unfold bG at h;rw[Bool.and_eq_true]at h;exact sR h.1
abbrev Rw:=List Val
def fR (r:Rw):V:=.sl 3 (ah r) false
def cK (l:List Rw):List (List V):=l.map fun r=>[fR r]
theorem cR (l:List Rw):(cK l).length=l.length:=by simp[cK]
theorem oC (a b:List Rw):cK (a++b)=cK a++cK b:=by simp[cK]
theorem iR (l:List Rw) (n:Nat):(cK l).take n=cK (l.take n):=by simp[cK,List.map_take]
theorem jR (l:List Rw) (n:Nat):(cK l).drop n=cK (l.drop n):=by simp[cK,List.map_drop]
def dK (C:List Col) (K:Nat) (r:Rw):List UInt8:=if aP C K r then eH (r.take K)else []
abbrev KR:=List (List UInt8 × Rw)
def iX (C:List Col) (K:Nat) (l:List Rw):KR:=l.map fun r=>(dK C K r,r)
theorem eS (C:List Col) (K:Nat) (a b:List Rw):iX C K (a++b)=iX C K a++iX C K b:=by simp[iX]
theorem wx (C:List Col) (K:Nat) (a:List Rw):(iX C K a).length=a.length:=by simp[iX]
def bD (C:List Col) (K:Nat) (key:List UInt8) (l:List Rw):List Rw:=l.takeWhile fun r=>Op.bytesLess (dK C K r) key
def cJ (C:List Col) (K:Nat) (key:List UInt8) (l:List Rw):List Rw:=l.dropWhile fun r=>Op.bytesLess (dK C K r) key
theorem dg (C:List Col) (K:Nat) (key:List UInt8) (l:List Rw):bD C K key l++cJ C K key l=l:=List.takeWhile_append_dropWhile
theorem rI {C:List Col} {K:Nat} {key:List UInt8}:∀ {l:List Rw},∀x∈bD C K key l,Op.bytesLess (dK C K x) key=true
 | [],x,hx=>by simp[bD]at hx
 | y::l,x,hx=>by
  unfold bD at hx;rw[List.takeWhile_cons]at hx;split at hx
  . rename_i hy;rcases List.mem_cons.1 hx with rfl | hx
    . exact hy
    . exact rI x hx
  . simp at hx
theorem va {C:List Col} {K:Nat} {key:List UInt8}:∀ {l:List Rw} {x:Rw} {r:List Rw},cJ C K key l=x::r->Op.bytesLess (dK C K x) key=false
 | [],x,r,h=>by simp[cJ]at h
 | y::l,x,r,h=>by
  unfold cJ at h;rw[List.dropWhile_cons]at h;split at h
  . exact va h
  . rename_i hy;cases h;simpa using hy
theorem nX {C:List Col} {K:Nat} {key:List UInt8} {l:List Rw}:∀x∈iX C K (bD C K key l),Op.bytesLess x.1 key=true:=fun x hx=>by
 simp only[iX,List.mem_map]at hx;obtain⟨r,hr,rfl⟩:=hx;exact rI r hr
theorem qT {C:List Col} {K:Nat} {key:List UInt8} {l:List Rw}:∀x r,iX C K (cJ C K key l)=x::r->Op.bytesLess x.1 key=false:=fun x r h=>by
 cases hl:cJ C K key l with
 | nil=>rw[hl]at h; simp[iX]at h
 | cons y m =>
  rw[hl]at h;simp only[iX,List.map_cons,List.cons.injEq]at h;rw[<-h.1];exact va hl
def dY (C:List Col) (K:Nat) (key:List UInt8):List Rw->Bool
 | []=>false
 | x::_=>decide (dK C K x=key)
theorem qQ (C:List Col) (K:Nat) (key:List UInt8) (l:List Rw):sA key (iX C K l)=dY C K key l:=by cases l<;>rfl
def jP (C:List Col) (K:Nat) (l:List Rw) (r:Rw):List Rw :=
 bD C K (dK C K r) l++r::(if dY C K (dK C K r) (cJ C K (dK C K r) l)then(cJ C K (dK C K r) l).tail else cJ C K (dK C K r) l)
def lj (C:List Col) (K:Nat) (l:List Rw) (key:List UInt8):List Rw :=
 if dY C K key (cJ C K key l)then bD C K key l++(cJ C K key l).tail else l
theorem A9 (C:List Col) (K:Nat) (l:List Rw) (r:Rw):fz (dK C K r) r (iX C K l)=iX C K (jP C K l r):=by
 have e:iX C K l=iX C K (bD C K (dK C K r) l)++iX C K (cJ C K (dK C K r) l):=by rw[<-eS,dg]
 rw[e,uQ nX qT,qQ];unfold jP;rw[eS];congr 1
 simp only[iX,List.map_cons];congr 1
 split
 . rw[List.map_tail]
 . rfl
theorem Fc {C:List Col} {K:Nat} {l:List Rw} (key:List UInt8) (hs:aO (iX C K l)):nK key (iX C K l)=iX C K (lj C K l key):=by
 have e:iX C K l=iX C K (bD C K key l)++iX C K (cJ C K key l):=by rw[<-eS,dg]
 rw[e]at hs ⊢;rw[Da hs nX qT,qQ];unfold lj;split
 . rw[eS]; congr 1; simp[iX,List.map_tail]
 . rw[<-e]
theorem Bj {C:List Col} {K:Nat} {l:List Rw} (r:Rw) (hs:aO (iX C K l)):aO (iX C K (jP C K l r)):=by rw[<-A9]; exact mV hs
theorem AO {C:List Col} {K:Nat} {l:List Rw} (key:List UInt8) (hs:aO (iX C K l)):aO (iX C K (lj C K l key)):=by rw[<-Fc key hs]; exact sc hs
theorem HS {C:List Col} {K:Nat} {l:List Rw} {r x:Rw} (h:x∈jP C K l r):x=r\/x∈l:=by
 unfold jP at h;rw[List.mem_append,List.mem_cons]at h;have hm:∀y,y∈bD C K (dK C K r) l\/y∈cJ C K (dK C K r) l->y∈l:=fun y hy=>by
  rw[<-List.mem_append,dg]at hy; exact hy
 rcases h with h | h | h
 . exact .inr (hm _ (.inl h))
 . exact .inl h
 . split at h
   . exact .inr (hm _ (.inr (List.mem_of_mem_tail h)))
   . exact .inr (hm _ (.inr h))
theorem GY {C:List Col} {K:Nat} {l:List Rw} {key:List UInt8} {x:Rw} (h:x∈lj C K l key):x∈l:=by
 unfold lj at h;have hm:∀y,y∈bD C K key l\/y∈cJ C K key l->y∈l:=fun y hy=>by
  rw[<-List.mem_append,dg]at hy; exact hy
 split at h
 . rw[List.mem_append]at h;rcases h with h | h
   . exact hm _ (.inl h)
   . exact hm _ (.inr (List.mem_of_mem_tail h))
 . exact h
theorem HR (C:List Col) (K:Nat) (l:List Rw) (r:Rw):(jP C K l r).length<=l.length+1:=by
 have e:=congrArg List.length (dg C K (dK C K r) l);rw[aD]at e;unfold jP;rw[aD,List.length_cons];split
 . rw[List.length_tail]; omega
 . omega
theorem GX (C:List Col) (K:Nat) (l:List Rw) (key:List UInt8):(lj C K l key).length<=l.length:=by
 have e:=congrArg List.length (dg C K key l);rw[aD]at e;unfold lj;split
 . rw[aD,List.length_tail]; omega
 . exact Nat.le_refl _
theorem yQ {key:List UInt8} {r:Rw}:∀ {l:KR},(∀x∈l,Op.bytesLess x.1 key=true)->fz key r l=l ++ [(key,r)]
 | [],_=>rfl
 | (k,v)::l,h=>by
  have h1:=h (k,v) (by simp)
  simp only at h1;simp only[fz,List.cons_append];rw[if_neg (by rw[fZ h1]; simp),if_pos h1,yQ fun x hx=>h x (by simp[hx])]
theorem Iw {a:Nat} (h:a<18446744073709551616):a ^^^ 9223372036854775808=(a+9223372036854775808) % 18446744073709551616:=by
 have key:∀r:Nat,r<2 ^ 63->r ^^^ 2 ^ 63=2 ^ 63*1+r:=fun r hr=>by
  apply Nat.eq_of_testBit_eq;intro j;rw[Nat.testBit_xor,Nat.testBit_two_pow_mul_add 1 hr,Nat.testBit_two_pow];by_cases h1:j<63
  . rw[if_pos h1];have:¬63=j:=by omega
    simp[this]
  . rw[if_neg h1];have h2:r.testBit j=false:=Nat.testBit_lt_two_pow (Nat.lt_of_lt_of_le hr (Nat.pow_le_pow_right (by decide) (by omega)))
    rw[h2];by_cases h3:j=63
    . subst h3; rfl
    . obtain⟨k,hk⟩:∃k,j-63=k+1:=⟨j-64,by omega⟩
      rw[hk];have:¬63=j:=by omega
      simp[this];exact(Nat.testBit_lt_two_pow (x:=1) (i:=k+1) (Nat.one_lt_two_pow (by omega)))
 have e63:(2:Nat) ^ 63=9223372036854775808:=by decide
 rw[e63]at key;by_cases c:a<9223372036854775808
 . rw[key a c]; omega
 . have h1:=key (a-9223372036854775808) (by omega)
   have h2:a=(a-9223372036854775808) ^^^ 9223372036854775808:=by rw[h1]; omega
   rw[h2,Nat.xor_assoc,Nat.xor_self,Nat.xor_zero,<-h2];omega
theorem aN (n:Int):IntKind.u64.wrap n=n % 18446744073709551616:=by
 simp[IntKind.wrap,IntKind.bits,IntKind.signed]
theorem Ht (n:Int):0<=fA n/\fA n<18446744073709551616:=by
 unfold fA; rw[aN]; omega
theorem Gw (n:Int):IntKind.u64.wrap ↑((BitVec.ofInt IntKind.u64.bits (IntKind.u64.wrap n)).toNat ^^^ (9223372036854775808#IntKind.u64.bits).toNat)=fA n:=by
 have e1:(BitVec.ofInt IntKind.u64.bits (IntKind.u64.wrap n)).toNat=(n % 18446744073709551616).toNat:=by
  rw[aN];show(BitVec.ofInt 64 _).toNat=_
  rw[BitVec.toNat_ofInt];have:(2:Int) ^ 64=18446744073709551616:=by decide
  omega
 have e2:(9223372036854775808#IntKind.u64.bits).toNat=9223372036854775808:=rfl;rw[e1,e2,Iw (by omega),aN]
 unfold fA;rw[aN,aN];omega
theorem Gv (n:Int):IntKind.u64.wrap ↑(BitVec.ofInt IntKind.u64.bits (IntKind.u64.wrap n) ^^^ BitVec.ofInt IntKind.u64.bits 9223372036854775808).toNat=fA n:=by
 rw[<-Gw n,BitVec.toNat_xor];rfl
theorem Jb {x y:Int} (h:x % 256=y % 256):b8 x=b8 y:=by unfold b8; rw[h]
theorem GR (n:Int) (j:Nat) (hj:j<8):b8 ((fA n).fdiv (2 ^ min (IntKind.i64.wrap (8*IntKind.i64.wrap (7-(j:Int)))).toNat IntKind.u64.bits))=b8 (IntKind.u64.wrap ((vV (fA n) j).tdiv 72057594037927936)):=by
 obtain⟨h0,h1⟩:=Ht n;generalize fA n=m at *;apply Jb;rw[aN];have e:(IntKind.i64.wrap (8*IntKind.i64.wrap (7-(j:Int)))).toNat=56-8*j:=by
  rw[IntKind.wrap_i64,IntKind.wrap_i64]; omega
 rw[e];have e2:min (56-8*j) IntKind.u64.bits=56-8*j:=by show min (56-8*j) 64=_; omega
 rw[e2];have nn:∀k,0<=vV m k:=fun k=>by
  cases k with
  | zero=>exact h0
  | succ k=>unfold vV; rw[aN]; omega
 rw[Int.tdiv_eq_ediv_of_nonneg (nn j)];have hp:∀k:Nat,(0:Int)<=2 ^ k:=fun k=>Int.le_of_lt (Int.pow_pos (by decide))
 rw[Int.fdiv_eq_ediv_of_nonneg _ (hp _)];clear nn e e2;obtain rfl | rfl | rfl | rfl | rfl | rfl | rfl | rfl:j=0\/j=1\/j=2\/j=3\/j=4\/j=5\/j=6\/j=7:=by omega
 . have hq:(2:Int) ^ (56-8*0)=72057594037927936:=by decide
   rw[hq];simp only[vV];omega
 . have hq:(2:Int) ^ (56-8*1)=281474976710656:=by decide
   rw[hq];simp only[vV,aN];omega
 . have hq:(2:Int) ^ (56-8*2)=1099511627776:=by decide
   rw[hq];simp only[vV,aN];omega
 . have hq:(2:Int) ^ (56-8*3)=4294967296:=by decide
   rw[hq];simp only[vV,aN];omega
 . have hq:(2:Int) ^ (56-8*4)=16777216:=by decide
   rw[hq];simp only[vV,aN];omega
 . have hq:(2:Int) ^ (56-8*5)=65536:=by decide
   rw[hq];simp only[vV,aN];omega
 . have hq:(2:Int) ^ (56-8*6)=256:=by decide
   rw[hq];simp only[vV,aN];omega
 . have hq:(2:Int) ^ (56-8*7)=1:=by decide
   rw[hq];simp only[vV,aN];omega
theorem AF {x:Int} (h:0<=x/\x<256):((b8 x).toNat:Int)=x:=by
 rw[<-bZ];have:IntKind.u8.wrap x=x % 256:=by simp[IntKind.wrap,IntKind.bits,IntKind.signed]
 rw[this]; omega
theorem rQ (c:UInt8):b8 (c.toNat:Int)=c:=by
 apply UInt8.toNat_inj.1;have:=AF (x:=c.toNat) ⟨by omega,by have:=c.toNat_lt; omega⟩
 omega
def eA:Nat->Nat->Int->List UInt8->Int × List UInt8 × Int
 | 0,_,_,_=>(0,[],2)
 | _+1,_,_,[]=>(0,[],4)
 | f+1,i,n,b::r =>
  if i=9/\1<b.toNat % 128 then(0,[],2)
  else if b.toNat<128 then(if b=0/\0<i then(0,[],2)else(n+((b.toNat % 128:Nat):Int)*128 ^ i,r,0))
  else eA f (i+1) (n+((b.toNat % 128:Nat):Int)*128 ^ i) r
def dL (s:List UInt8):Int × List UInt8 × Int:=eA 10 0 0 s
def bQ (s:List UInt8):Int × List UInt8 × Int :=
 if(dL s).2.2=0 then(if(dL s).1<=9223372036854775807 then dL s else(0,s,2))else(0,s,(dL s).2.2)
def pz (most:Int) (s:List UInt8):List UInt8 × List UInt8 × Int :=
 if(bQ s).2.2=0 then
  (if most<(bQ s).1 then([],s,2)
   else if((bQ s).2.1.length:Int)<(bQ s).1 then([],s,4)
   else((bQ s).2.1.take (bQ s).1.toNat,(bQ s).2.1.drop (bQ s).1.toNat,0))
 else([],s,(bQ s).2.2)
theorem sf:∀(f i:Nat) (n:Int) (s:List UInt8),(eA f i n s).2.1.length<=s.length
 | 0,i,n,s=>by simp[eA]
 | f+1,i,n,[]=>by simp[eA]
 | f+1,i,n,b::r=>by
  have ih:=sf f (i+1) (n+((b.toNat % 128:Nat):Int)*128 ^ i) r;unfold eA;split
  . simp
  split
  . split
    . simp
    . simp only[List.length_cons]; omega
  . simp only[List.length_cons]; omega
theorem JH {n d k:Nat} (h:n<2 ^ k):n ||| (d*2 ^ k)=n+d*2 ^ k:=by
 rw[Nat.mul_comm d,Nat.or_comm,<-Nat.two_pow_add_eq_or_of_lt h,Nat.add_comm]
def cD:Nat->Nat->List UInt8
 | 0,n=>[UInt8.ofNat n]
 | f+1,n=>if n<128 then [UInt8.ofNat n]else UInt8.ofNat (n % 128+128)::cD f (n / 128)
def md (n:Nat):List UInt8:=cD 9 n
def d7 (n:Int):List UInt8:=md n.toNat
def bm (s:List UInt8):List UInt8:=md s.length++s
theorem uI:∀(f n:Nat),(cD f n).length<=f+1
 | 0,n=>by simp[cD]
 | f+1,n=>by
  unfold cD;split
  . simp
  . have:=uI f (n / 128);simp only[List.length_cons]; omega
theorem fw (n:Nat):(md n).length<=10:=uI 9 n
theorem jz (f n:Nat):0<(cD f n).length:=by
 cases f<;>unfold cD<;>(try split)<;>simp
theorem dd (s:List UInt8):(bm s).length<=10+s.length:=by
 unfold bm;have:=fw s.length;rw[aD]; omega
theorem gx {n:Nat} (h:n<256):(UInt8.ofNat n).toNat=n:=by
 rw[UInt8.toNat_ofNat']; omega
theorem Jh:∀(f i N m:Nat) (r:List UInt8),i+f=9->m<128 ^ (f+1)->N+m*128 ^ i<2 ^ 64->(0<i->0<m) ->
 eA (f+1) i N (cD f m++r)=(((N+m*128 ^ i:Nat):Int),r,0):=by
 intro f;induction f with
 | zero =>
  intro i N m r hi hm hN hp;have hi9:i=9:=by omega
  have hm1:m<128:=by simpa using hm
  have hm2:m<=1:=by
   subst hi9;have e1:(128:Nat) ^ 9=9223372036854775808:=by decide
   have e2:(2:Nat) ^ 64=18446744073709551616:=by decide
   rw[e1,e2]at hN;omega
  have hb:(UInt8.ofNat m).toNat=m:=gx (by omega)
  simp only[cD,List.cons_append,List.nil_append,eA,hb];have hmm:m % 128=m:=by omega
  rw[hmm,if_neg (by omega),if_pos hm1,if_neg ?_]
  . rw[Int.natCast_add,Int.natCast_mul,Int.natCast_pow]; rfl
  . rintro⟨e,h0⟩;have:=hp h0;have:(UInt8.ofNat m).toNat=0:=by rw[e]; rfl
    omega
 | succ f ih =>
  intro i N m r hi hm hN hp;unfold cD;by_cases h:m<128
  . rw[if_pos h];have hb:(UInt8.ofNat m).toNat=m:=gx (by omega)
    have hmm:m % 128=m:=by omega
    simp only[List.cons_append,List.nil_append,eA,hb];rw[hmm,if_neg (by omega),if_pos h,if_neg ?_]
    . rw[Int.natCast_add,Int.natCast_mul,Int.natCast_pow]; rfl
    . rintro⟨e,h0⟩;have:=hp h0;have:(UInt8.ofNat m).toNat=0:=by rw[e]; rfl
      omega
  . rw[if_neg h];have hb:(UInt8.ofNat (m % 128+128)).toNat=m % 128+128:=gx (by omega)
    have hmm:(m % 128+128) % 128=m % 128:=by omega
    simp only[List.cons_append];rw[eA,hb,hmm,if_neg (by omega),if_neg (by omega)]
    have hc:(N:Int)+((m % 128:Nat):Int)*128 ^ i=((N+m % 128*128 ^ i:Nat):Int):=by
     rw[Int.natCast_add,Int.natCast_mul,Int.natCast_pow]; rfl
    rw[hc];have hdm:m % 128+m / 128*128=m:=by omega
    have hex:N+m % 128*128 ^ i+m / 128*128 ^ (i+1)=N+m*128 ^ i:=by
     rw[Nat.pow_succ];have:m / 128*(128 ^ i*128)=(m / 128*128)*128 ^ i:=by
      rw[Nat.mul_comm (128 ^ i),Nat.mul_assoc]
     rw[this];have h2:m*128 ^ i=(m % 128+m / 128*128)*128 ^ i:=by rw[hdm]
     rw[h2,Nat.add_mul]; omega
    rw[ih (i+1) (N+m % 128*128 ^ i) (m / 128) r (by omega) ?_ (by rw[hex]; exact hN) (fun _=>by omega),hex]
    rw[Nat.pow_succ 128 (f+1)]at hm;exact Nat.div_lt_of_lt_mul (by rw[Nat.mul_comm]; exact hm)
theorem ED {n:Nat} (h:n<2 ^ 64) (r:List UInt8):dL (md n++r)=((n:Int),r,0):=by
 unfold dL md;have:=Jh 9 0 0 n r rfl (Nat.lt_of_lt_of_le h (by decide)) (by simpa using h) (by omega)
 simpa using this
theorem Dc:∀(f i N:Nat) (s r:List UInt8) (v:Int),i+f=9->eA (f+1) i N s=(v,r,0) ->
 ∃m,v=((N+m*128 ^ i:Nat):Int)/\s=cD f m++r/\m<128 ^ (f+1)/\(0<i->0<m):=by
 intro f;induction f with
 | zero =>
  intro i N s r v hi h;cases s with
  | nil=>simp[eA]at h
  | cons b s =>
   unfold eA at h;split at h
   . simp at h
   split at h
   . rename_i h1 h2;split at h
     . simp at h
     . rename_i h3;simp only[Prod.mk.injEq]at h;obtain⟨rfl,rfl,_⟩:=h;have hbm:b.toNat % 128=b.toNat:=by omega
       refine⟨b.toNat,?_,?_,by simpa using h2,?_⟩
       . rw[hbm,Int.natCast_add,Int.natCast_mul,Int.natCast_pow]; rfl
       . simp[cD]
       . intro h0;rcases Nat.eq_zero_or_pos b.toNat with e | e
         . exact absurd ⟨UInt8.toNat_inj.1 e,h0⟩ h3
         . exact e
   . simp[eA]at h
 | succ f ih =>
  intro i N s r v hi h;cases s with
  | nil=>simp[eA]at h
  | cons b s =>
   unfold eA at h;have hbl:=b.toNat_lt;split at h
   . simp at h
   split at h
   . rename_i h1 h2;split at h
     . simp at h
     . rename_i h3;simp only[Prod.mk.injEq]at h;obtain⟨rfl,rfl,_⟩:=h;have hbm:b.toNat % 128=b.toNat:=by omega
       refine⟨b.toNat,?_,?_,?_,?_⟩
       . rw[hbm,Int.natCast_add,Int.natCast_mul,Int.natCast_pow]; rfl
       . unfold cD; rw[if_pos h2]; simp
       . exact Nat.lt_of_lt_of_le h2 (by rw[Nat.pow_succ]; exact Nat.le_mul_of_pos_left _ (Nat.pow_pos (by decide)))
       . intro h0;rcases Nat.eq_zero_or_pos b.toNat with e | e
         . exact absurd ⟨UInt8.toNat_inj.1 e,h0⟩ h3
         . exact e
   . rename_i h1 h2;have hc:(N:Int)+((b.toNat % 128:Nat):Int)*128 ^ i=((N+b.toNat % 128*128 ^ i:Nat):Int):=by
      rw[Int.natCast_add,Int.natCast_mul,Int.natCast_pow]; rfl
     rw[hc]at h;obtain⟨m,e1,e2,e3,e4⟩:=ih (i+1) _ s r v (by omega) h
     have hm0:=e4 (by omega)
     refine⟨b.toNat % 128+m*128,?_,?_,?_,fun _=>by omega⟩
     . rw[e1];congr 1
       rw[Nat.add_mul,Nat.pow_succ];have:m*(128 ^ i*128)=m*128*128 ^ i:=by rw[Nat.mul_comm (128 ^ i),Nat.mul_assoc]
       omega
     . rw[e2];have hne:¬b.toNat % 128+m*128<128:=by omega
       have hd:(b.toNat % 128+m*128) / 128=m:=by omega
       have hmod:(b.toNat % 128+m*128) % 128+128=b.toNat:=by omega
       rw[show cD (f+1) (b.toNat % 128+m*128)=UInt8.ofNat ((b.toNat % 128+m*128) % 128+128)::cD f ((b.toNat % 128+m*128) / 128) by rw[cD,if_neg hne]]
       rw[hd,hmod];simp
     . rw[Nat.pow_succ 128 (f+1)]; omega
theorem uH {s r:List UInt8} {v:Int} (h:dL s=(v,r,0)):∃n:Nat,v=(n:Int)/\s=md n++r:=by
 obtain⟨m,e1,e2,_,_⟩:=Dc 9 0 0 s r v rfl (by simpa [dL]using h)
 exact⟨m,by simpa using e1,e2⟩
theorem Bf {n:Int} (h0:0<=n) (h1:n<=9223372036854775807) (r:List UInt8):bQ (d7 n++r)=(n,r,0):=by
 unfold bQ d7;have e:dL (md n.toNat++r)=(n,r,0):=by
  have e64:(2:Nat) ^ 64=18446744073709551616:=by decide
  rw[ED (by omega)]
  rw[Int.toNat_of_nonneg h0]
 rw[e];simp[h1]
theorem pe {s r:List UInt8} {v:Int} (h:bQ s=(v,r,0)):0<=v/\v<=9223372036854775807/\s=d7 v++r:=by
 unfold bQ at h;split at h
 . split at h
   . rename_i h1 h2;obtain⟨n,rfl,hs⟩:=uH h;rw[h]at h2;refine⟨by omega,h2,?_⟩
     unfold d7;rw[Int.toNat_natCast]; exact hs
   . simp at h
 . rename_i h1;simp only[Prod.mk.injEq]at h;exact absurd h.2.2 h1
theorem Fm {s:List UInt8} (h:(bQ s).2.2≠0):(bQ s).1=0/\(bQ s).2.1=s:=by
 unfold bQ at h ⊢;split
 . split
   . rename_i h1 h2;rw[if_pos h1,if_pos h2]at h;exact absurd h1 h
   . exact⟨rfl,rfl⟩
 . exact⟨rfl,rfl⟩
theorem pX:∀(f i:Nat) (N:Int) (s:List UInt8),0<=N->0<=(eA f i N s).1
 | 0,_,_,_,_=>by simp[eA]
 | f+1,i,N,[],_=>by simp[eA]
 | f+1,i,N,b::r,h=>by
  have hp:(0:Int)<=((b.toNat % 128:Nat):Int)*128 ^ i:=Int.mul_nonneg (by omega) (Int.pow_nonneg (by decide))
  unfold eA;split
  . simp
  split
  . split
    . simp
    . show 0<=N+_
      omega
  . exact pX f (i+1) _ r (by omega)
theorem i8 (s:List UInt8):0<=(dL s).1:=pX 10 0 0 s (by decide)
theorem lA (s:List UInt8):0<=(bQ s).1:=by
 unfold bQ;split
 . split
   . exact i8 s
   . simp
 . simp
theorem Cn (s:List UInt8):(bQ s).1<=9223372036854775807:=by
 unfold bQ;split
 . split
   . assumption
   . simp
 . simp
theorem zd (s:List UInt8):(bQ s).2.1.length<=s.length:=by
 unfold bQ;split
 . split
   . exact sf _ _ _ _
   . exact Nat.le_refl _
 . exact Nat.le_refl _
theorem Kd {s:List UInt8} {most:Int} (hm:(s.length:Int)<=most) (hl:(s.length:Int)<=9223372036854775807) (r:List UInt8):pz most (bm s++r)=(s,r,0):=by
 unfold pz bm;have e:bQ (md s.length++s++r)=((s.length:Int),s++r,0):=by
  have:=Bf (n:=(s.length:Int)) (by omega) hl (s++r)
  rw[List.append_assoc];simpa [d7]using this
 rw[e];simp only[if_true];rw[if_neg (by omega),if_neg (by simp; omega)]
 simp
theorem DZ {s r t:List UInt8} {most:Int} (h:pz most s=(t,r,0)):(t.length:Int)<=most/\s=bm t++r:=by
 unfold pz at h;split at h
 . rename_i h1;split at h
   . simp at h
   split at h
   . simp at h
   . rename_i h2 h3;simp only[Prod.mk.injEq]at h;obtain⟨rfl,rfl,_⟩:=h;obtain⟨a,b,c⟩:=pe (s:=s) (v:=(bQ s).1) (r:=(bQ s).2.1) (by rw[<-h1])
     have hl:(List.take (bQ s).1.toNat (bQ s).2.1).length=(bQ s).1.toNat:=by rw[List.length_take]; omega
     refine⟨by rw[hl]; omega,?_⟩
     unfold bm;rw[hl,List.append_assoc,List.take_append_drop];exact c
 . rename_i h1;simp only[Prod.mk.injEq]at h;exact absurd h.2.2 h1
theorem Gn {s:List UInt8} {most:Int} (h:(pz most s).2.2≠0):(pz most s).1 = []/\(pz most s).2.1=s:=by
 unfold pz at h ⊢;split
 . rename_i h1;rw[if_pos h1]at h;split
   . exact⟨rfl,rfl⟩
   . rename_i h2;rw[if_neg h2]at h;split
     . exact⟨rfl,rfl⟩
     . rename_i h3;rw[if_neg h3]at h;exact absurd rfl h
 . exact⟨rfl,rfl⟩
theorem Gp (most:Int) (s:List UInt8):(pz most s).2.1.length<=s.length/\(pz most s).1.length<=s.length:=by
 have:=zd s;unfold pz;split
 . split
   . simp
   split
   . simp
   . simp only[List.length_drop,List.length_take]; omega
 . simp
def iN (s:List UInt8) (e:Int):Int × List UInt8 × Int:=if e=0 then bQ s else(0,s,e)
def bi (most:Int) (s:List UInt8) (e:Int):List UInt8 × List UInt8 × Int:=if e=0 then pz most s else([],s,e)
def AJ (s:List UInt8):Int × List UInt8 × Int:=match s with
 | []=>(0,[],4)
 | b::r=>((b.toNat:Int),r,0)
def aX (s:List UInt8) (e:Int):Int × List UInt8 × Int:=if e=0 then AJ s else(0,s,e)
theorem H6 {s r:List UInt8} {e v:Int} (h:iN s e=(v,r,0)):e=0/\0<=v/\v<=9223372036854775807/\s=d7 v++r:=by
 unfold iN at h;split at h
 . rename_i h0;exact⟨h0,pe h⟩
 . rename_i h0;simp only[Prod.mk.injEq]at h;exact absurd h.2.2 h0
theorem qX {s r t:List UInt8} {e most:Int} (h:bi most s e=(t,r,0)):e=0/\(t.length:Int)<=most/\s=bm t++r:=by
 unfold bi at h;split at h
 . rename_i h0;exact⟨h0,DZ h⟩
 . rename_i h0;simp only[Prod.mk.injEq]at h;exact absurd h.2.2 h0
theorem ow {s r:List UInt8} {e v:Int} (h:aX s e=(v,r,0)):e=0 /\ ∃b:UInt8,v=(b.toNat:Int)/\s=b::r:=by
 unfold aX at h;split at h
 . rename_i h0;refine⟨h0,?_⟩;cases s with
   | nil=>simp[AJ]at h
   | cons b q =>
    simp only[AJ,Prod.mk.injEq]at h;obtain⟨rfl,rfl,_⟩:=h;exact⟨b,rfl,rfl⟩
 . rename_i h0;simp only[Prod.mk.injEq]at h;exact absurd h.2.2 h0
theorem FP {n:Int} (h0:0<=n) (h1:n<=9223372036854775807) (r:List UInt8):iN (d7 n++r) 0=(n,r,0):=by
 unfold iN; rw[if_pos rfl,Bf h0 h1]
theorem gL {s:List UInt8} {most:Int} (hm:(s.length:Int)<=most) (hl:(s.length:Int)<=9223372036854775807) (r:List UInt8):bi most (bm s++r) 0=(s,r,0):=by
 unfold bi; rw[if_pos rfl,Kd hm hl]
theorem wW (b:UInt8) (r:List UInt8):aX (b::r) 0=((b.toNat:Int),r,0):=rfl
theorem qk (s:List UInt8) (e:Int):0<=(iN s e).1:=by
 unfold iN; split
 . exact lA s
 . simp
theorem Cw (s:List UInt8) (e:Int):(iN s e).1<=9223372036854775807:=by
 unfold iN; split
 . exact Cn s
 . simp
theorem ta (most:Int) (s:List UInt8) (e:Int):(bi most s e).2.1.length<=s.length/\(bi most s e).1.length<=s.length:=by
 unfold bi; split
 . exact Gp most s
 . simp
theorem lC (s:List UInt8) (e:Int):(aX s e).2.1.length<=s.length/\((aX s e).2.2=0->(aX s e).2.1.length+1<=s.length):=by
 unfold aX; split
 . cases s with
   | nil=>simp[AJ]
   | cons b r=>simp[AJ]
 . rename_i h; simp[h]
theorem ov (s:List UInt8) (e:Int):0<=(aX s e).1/\(aX s e).1<=255:=by
 unfold aX; split
 . cases s with
   | nil=>simp[AJ]
   | cons b r=>have:=b.toNat_lt; simp only[AJ]; omega
 . simp
theorem JR {s:List UInt8} {e:Int} (h:e≠0):(iN s e)=(0,s,e):=by unfold iN; rw[if_neg h]
theorem yk:∀(f i:Nat) (n:Int) (s:List UInt8),(eA f i n s).2.2=0 -> ∃k,k<=s.length/\k<=f/\(eA f i n s).2.1=s.drop k
 | 0,i,n,s,h=>by simp[eA]at h
 | f+1,i,n,[],h=>by simp[eA]at h
 | f+1,i,n,b::r,h=>by
  unfold eA at h ⊢;split at h
  . simp at h
  rename_i h1;rw[if_neg h1];split at h
  . rename_i h2;rw[if_pos h2];split at h
    . simp at h
    . rename_i h3;rw[if_neg h3];exact⟨1,by simp,by omega,rfl⟩
  . rename_i h2;rw[if_neg h2];obtain⟨k,a,b', c⟩:=yk f (i+1) _ r h;exact⟨k+1,by simp only[List.length_cons]; omega,by omega,by rw[c]; rfl⟩
end
section
variable [Globs]
theorem yI {id:Nat} {o:O}:∀ {l:List V} {i:Nat} {v:V},(fX id o l)[i]? = some v -> ∃x,l[i]? = some x/\v=cL id o x
 | [],i,v,h=>by simp[fX]at h
 | x::l,0,v,h=>by simp[fX]at h; exact⟨x,rfl,h.symm⟩
 | x::l,i+1,v,h=>by
  simp only[fX,List.getElem?_cons_succ]at h;obtain⟨y,h1,h2⟩:=yI h;exact⟨y,by simpa using h1,h2⟩
theorem yJ {id:Nat} {o:O}:∀(l:List V),(fX id o l).length=l.length
 | []=>rfl
 | x::l=>by simp[fX,yJ l]
theorem ACall.frzIn {P:Program} {f:FuncId} {k:Nat} {args:List V} {H:List O} {Q:V->List O->Prop} (id:Nat) (hok:mt (ar H id)=true) (hfit:iG id (ar H id) args [] H)
 (h:ACall P f k (fX id (ar H id) args) (jH id (ar H id) 0 H) Q):ACall P f k args H Q:=by
 refine⟨fun I ρ w us hst hk ha=>?_⟩
 have hne:ar H id ≠ .dead:=fun e=>by rw[e]at hok; cases hok
 have ho:=ax (H:=H) (id:=id) rfl hne;have hlt:id < ρ.length:=by rw[hst.len]; exact(liZ.1 ho).1
 obtain⟨I2,g1,g2,g3⟩:=mT hst (aS hlt) ho hok (jG hfit) k;refine(h.out I2 ρ w us g1 (by rw[sx]; exact hk) ⟨by rw[yJ]; exact ha.1,fun i a u hi hu=>?_⟩).mono ?_
 . obtain⟨x,hx,rfl⟩:=yI hi;exact g3 _ _ (lq hfit (List.mem_of_getElem? hx)) (ha.2 i x u hx hu)
 . rintro en w' ⟨v,r,I', ρ', H', h1,h2,h3,h4,h5⟩;exact⟨v,r,I', ρ', H', h1,h2,h3,g2.trans h4,h5⟩
theorem ACall.selIn {P:Program} {f:FuncId} {args:List V} {H:List O} {Q:V->List O->Prop} (sel:List Nat) (hsel:gC sel H.length 0=true)
 (h:ACall P f 0 (args.map (aM (bI sel))) (aJ (bI sel) H sel) Q):ACall P f 0 args H Q:=by
 refine⟨fun I ρ w us hst hk ha=>?_⟩
 obtain⟨g1,g2,g3⟩:=jS hst hsel (Step.refl 0 I ρ H w);refine(h.out I _ w us g1 (Nat.zero_le _) ⟨by rw[List.length_map]; exact ha.1,fun i a u hi hu=>?_⟩).mono ?_
 . rw[List.getElem?_map]at hi;cases hx:args[i]? with
   | none=>rw[hx]at hi; cases hi
   | some x =>
    rw[hx]at hi; cases hi;exact(ha.2 i x u hx hu).ren g2
 . rintro en w' ⟨v,r,I', ρ', H', h1,h2,h3,h4,h5⟩;exact⟨v,r,I', ρ', H', h1,h2,h3,g3.trans h4,h5⟩
theorem Dq {id:Nat} {o:O} {v:V} (h:aY v=true):cL id o v=v:=by
 cases v with
 | fn g a b=>cases a with
  | nil=>cases b with
   | nil=>rfl
   | cons x y=>simp[aY]at h
  | cons x y=>simp[aY]at h
 | _=>first | rfl | simp[aY]at h
theorem DO {f:Nat->Option Nat} {v:V} (h:aY v=true):aM f v=v:=by
 cases v with
 | fn g a b=>cases a with
  | nil=>cases b with
   | nil=>rfl
   | cons x y=>simp[aY]at h
  | cons x y=>simp[aY]at h
 | _=>first | rfl | simp[aY]at h
theorem uN {id:Nat} {o:O}:∀ {l:List V},l.all aY=true->fX id o l=l
 | [],_=>rfl
 | v::l,h=>by
  simp only[List.all_cons,Bool.and_eq_true]at h;simp only[fX,Dq h.1,uN h.2]
theorem sO {f:Nat->Option Nat}:∀ {l:List V},l.all aY=true->l.map (aM f)=l
 | [],_=>rfl
 | v::l,h=>by
  simp only[List.all_cons,Bool.and_eq_true]at h;simp only[List.map_cons,DO h.1,sO h.2]
theorem Fj {id:Nat} {v:V} (h:aY v=true):ua id v = []:=by
 cases v with
 | fn g a b=>cases a with
  | nil=>cases b with
   | nil=>rfl
   | cons x y=>simp[aY]at h
  | cons x y=>simp[aY]at h
 | _=>first | rfl | simp[aY]at h
theorem y8 {id:Nat}:∀ {l:List V},l.all aY=true->t8 id l = []
 | [],_=>rfl
 | v::l,h=>by
  simp only[List.all_cons,Bool.and_eq_true]at h;simp only[t8,Fj h.1,y8 h.2,List.nil_append]
theorem ACall.eat {P:Program} {f:FuncId} {z:Nat} {es:List (List V)} {full:Bool} {as:List V} {len:Nat} {Q:V->List O->Prop} (hlen:len=es.length) (hp:as.all aY=true)
 (h:ACall P f 0 (.sl z es full::as) [] fun r H' => Q (aM (qA 0 1) r) (gU 0 H' [.dead])):ACall P f 1 (.ms z 0 0 len full::as) [.buf es] Q:=by
 subst hlen;refine ACall.stay 1 rfl (ACall.frzIn 0 rfl ?_ (ACall.selIn [] rfl ?_))
 . show wH es.length (t8 0 (.ms z 0 0 es.length full::as)++([]++([] ++ [])))
   simp only[t8,ua,Nat.beq_refl,y8 hp,List.append_nil,wH];exact⟨by omega,trivial⟩
 . have e:(fX 0 (ar [O.buf es] 0) (.ms z 0 0 es.length full::as)).map (aM (bI [])) = .sl z es full::as:=by
    show(cL 0 (.buf es) (.ms z 0 0 es.length full)::fX 0 (.buf es) as).map (aM (bI []))=_
    rw[o7,uN hp,List.map_cons,sO hp]; rfl
   rw[e]; exact h
end
section
structure Wk where
 t:List UInt8
 d:Bool
 k:List UInt8
deriving DecidableEq
def qC (l:List Wk) (t:List UInt8):Option Nat:=l.findIdx? fun w=>decide (w.t=t)
def D4 (l:List Wk) (t:List UInt8):Int:=match qC l t with | some i=>(i:Int) | none=>-1
def jZ (l:List Wk) (t:List UInt8) (i:Nat):Prop:=∀(j:Nat) (w:Wk),j<i->l[j]? = some w->w.t≠t
theorem BT {l:List Wk} {t:List UInt8} {i:Nat} {w:Wk} (hn:jZ l t i) (hi:l[i]? = some w) (ht:w.t=t):qC l t=some i:=by
 unfold qC;rw[List.findIdx?_eq_some_iff_getElem];obtain⟨h1,h2⟩:=liZ.1 hi;refine⟨h1,by rw[h2]; simp[ht],fun j hj=>?_⟩
 have:=hn j l[j] hj (aS (by omega))
 simp[this]
theorem GO {l:List Wk} {t:List UInt8} (hn:jZ l t l.length):qC l t=none:=by
 unfold qC;rw[List.findIdx?_eq_none_iff];intro w hw;obtain⟨j,hj⟩:=List.mem_iff_getElem?.1 hw;have:=hn j w (liZ.1 hj).1 hj;simp[this]
theorem AE {l:List Wk} {t:List UInt8} {i:Nat} (h:qC l t=some i):∃w,l[i]? = some w/\w.t=t/\jZ l t i:=by
 unfold qC at h;rw[List.findIdx?_eq_some_iff_getElem]at h;obtain⟨h1,h2,h3⟩:=h;refine⟨l[i],aS h1,by simpa using h2,fun j w hj hw=>?_⟩
 obtain⟨g1,rfl⟩:=liZ.1 hw;simpa using h3 j hj
theorem En {l:List Wk} {t:List UInt8} (h:qC l t=none):∀w∈l,w.t≠t:=by
 unfold qC at h;rw[List.findIdx?_eq_none_iff]at h;intro w hw;simpa using h w hw
def fq (l:List Wk):Prop:=l.Pairwise fun x y=>Op.bytesLess x.t y.t=true
theorem d8 {l:List Wk} (h:fq l) {i j:Nat} {x y:Wk} (hij:i<j) (hi:l[i]? = some x) (hj:l[j]? = some y):Op.bytesLess x.t y.t=true:=by
 obtain⟨h1,rfl⟩:=liZ.1 hi;obtain⟨h2,rfl⟩:=liZ.1 hj;exact List.pairwise_iff_getElem.1 h i j h1 h2 hij
def iZ (l:List Wk) (t:List UInt8):Nat:=(l.takeWhile fun w=>Op.bytesLess w.t t).length
theorem FF (l:List Wk) (t:List UInt8):iZ l t<=l.length:=by
 unfold iZ;exact(List.takeWhile_sublist _).length_le
theorem vf {p:Wk->Bool}:∀ {l:List Wk} {w:Wk},w∈l.takeWhile p->p w=true
 | [],w,h=>by simp at h
 | x::l,w,h=>by
  rw[List.takeWhile_cons]at h;split at h
  . rename_i hx;rcases List.mem_cons.1 h with rfl | h
    . exact hx
    . exact vf h
  . simp at h
theorem sZ {l:List Wk} {t:List UInt8} {j:Nat} {w:Wk} (hj:j<iZ l t) (h:l[j]? = some w):Op.bytesLess w.t t=true:=by
 unfold iZ at hj;have h1:(l.takeWhile fun w=>Op.bytesLess w.t t)[j]? = some w:=by
  have:=List.takeWhile_prefix (l:=l) (fun w=>Op.bytesLess w.t t)
  obtain⟨r,hr⟩:=this;rw[<-hr]at h;rw[List.getElem?_append_left hj]at h;exact h
 exact vf (List.mem_of_getElem? h1)
theorem Bi:∀ {l:List Wk} {t:List UInt8} {w:Wk},l[iZ l t]? = some w->Op.bytesLess w.t t=false
 | [],t,w,h=>by simp at h
 | x::l,t,w,h=>by
  cases hx:Op.bytesLess x.t t with
  | true =>
   have e:iZ (x::l) t=iZ l t+1:=by simp[iZ,List.takeWhile_cons,hx]
   rw[e]at h;exact Bi (l:=l) (by simpa using h)
  | false =>
   have e:iZ (x::l) t=0:=by simp[iZ,List.takeWhile_cons,hx]
   rw[e]at h;simp at h; subst h; exact hx
theorem kB {l:List Wk} {t:List UInt8} {i:Nat} (hi:i<=l.length) (h1:∀(j:Nat) (w:Wk),j<i->l[j]? = some w->Op.bytesLess w.t t=true) (h2:∀w,l[i]? = some w->Op.bytesLess w.t t=false):iZ l t=i:=by
 have hp:=FF l t;rcases Nat.lt_trichotomy (iZ l t) i with h | h | h
 . have hlt:iZ l t<l.length:=by omega
   have g:=aS hlt;have a:=Bi g;have b:=h1 _ _ h g;rw[a]at b; cases b
 . exact h
 . have hlt:i<l.length:=by omega
   have g:=aS hlt;have a:=sZ h g;have b:=h2 _ g;rw[a]at b; cases b
theorem uw {l:List Wk} {t:List UInt8} {i:Nat} (hs:fq l) (h:qC l t=some i):iZ l t=i:=by
 obtain⟨w,hw,ht,_⟩:=AE h;refine kB (Nat.le_of_lt (liZ.1 hw).1) (fun j x hj hx=>?_) (fun x hx=>?_)
 . have:=d8 hs hj hx hw;rw[ht]at this; exact this
 . rw[hw]at hx; cases hx; rw[ht]; exact bf t
theorem I9 {l:List Wk} {t:List UInt8} (hs:fq l):(qC l t).isSome=(match l[iZ l t]? with | some w=>decide (w.t=t) | none=>false):=by
 cases h:qC l t with
 | some i =>
  obtain⟨w,hw,ht,_⟩:=AE h;rw[uw hs h,hw]; simp[ht]
 | none =>
  have:=En h;cases hg:l[iZ l t]? with
  | none=>rfl
  | some w=>simp[this w (List.mem_of_getElem? hg)]
def Hp (l:List Wk) (w:Wk):List Wk:=l.take (iZ l w.t)++w::l.drop (iZ l w.t)
theorem yS {l:List Wk} {w:Wk} (hs:fq l) (hn:qC l w.t=none):fq (Hp l w):=by
 unfold fq Hp;rw[List.pairwise_append];refine⟨List.Pairwise.sublist (List.take_sublist _ _) hs,?_,fun x hx y hy=>?_⟩
 . rw[List.pairwise_cons];refine⟨fun y hy=>?_,List.Pairwise.sublist (List.drop_sublist _ _) hs⟩
   obtain⟨j,hj⟩:=List.mem_iff_getElem?.1 hy;rw[List.getElem?_drop]at hj;have hlt:=(liZ.1 hj).1;have hne:y.t≠w.t:=En hn y (List.mem_of_getElem? hj);have hpl:iZ l w.t<l.length:=by omega
   have hp:=Bi (aS hpl);cases hb:Op.bytesLess w.t y.t with
   | true=>rfl
   | false =>
    exfalso;cases hc:Op.bytesLess y.t w.t with
    | false=>exact hne (cz hc hb)
    | true =>
     cases j with
     | zero =>
      rw[Nat.add_zero,aS hpl]at hj;cases hj;rw[hp]at hc; cases hc
     | succ j =>
      have:=d8 hs (by omega) (aS hpl) hj
      have:=bW this hc;rw[hp]at this; cases this
 . obtain⟨i,hi⟩:=List.mem_iff_getElem?.1 hx;have hil:=(liZ.1 hi).1;rw[List.length_take]at hil;rw[List.getElem?_take_of_lt (by omega)]at hi
   have hxw:=sZ (show i<iZ l w.t by omega) hi
   rcases List.mem_cons.1 hy with rfl | hy
   . exact hxw
   . obtain⟨j,hj⟩:=List.mem_iff_getElem?.1 hy;rw[List.getElem?_drop]at hj;exact d8 hs (by omega) hi hj
theorem I8 {l:List Wk} {x:Wk} (hs:fq l) (h:x∈l):∃i,qC l x.t=some i/\l[i]? = some x:=by
 obtain⟨i,hi⟩:=List.mem_iff_getElem?.1 h;refine⟨i,BT (fun j w hj hw e=>?_) hi rfl,hi⟩
 have:=d8 hs hj hw hi;rw[e,bf]at this; cases this
end
section
structure Tb where
 n:List UInt8
 c:List Col
 k:Int
deriving DecidableEq
def Gy (t:Tb):List V:=[.str t.n,.sl 3 (cols t.c) false,.int .i64 t.k]
def LA (t:Tb):V:=.agg [.str t.n,.sl 3 (cols t.c) false,.int .i64 t.k]
def tbs (l:List Tb):List (List V):=l.map Gy
theorem bR (l:List Tb):(tbs l).length=l.length:=by simp[tbs]
theorem ay {l:List Tb} {i:Nat} {t:Tb} (h:l[i]? = some t):(tbs l)[i]? = some (Gy t):=by simp[tbs,h]
theorem Ik (a b:List Tb):tbs (a++b)=tbs a++tbs b:=by simp[tbs]
def nw (t:Tb):Wk:=⟨t.n,false,[]⟩
def my (l:List Tb):List Wk:=l.map nw
theorem qU (l:List Tb):(my l).length=l.length:=by simp[my]
theorem gf {l:List Tb} {i:Nat} {t:Tb} (h:l[i]? = some t):(my l)[i]? = some (nw t):=by simp[my,h]
theorem HE {l:List Tb} {i:Nat} {w:Wk} (h:(my l)[i]? = some w):∃t,l[i]? = some t/\w=nw t:=by
 simp only[my,List.getElem?_map]at h;cases hl:l[i]? with
 | none=>rw[hl]at h; cases h
 | some t=>rw[hl]at h; cases h; exact⟨t,rfl,rfl⟩
def eQ (l:List Tb):Prop:=fq (my l)
def dP (l:List Tb) (n:List UInt8):Option Nat:=qC (my l) n
def kX (l:List Tb) (n:List UInt8):Nat:=iZ (my l) n
def kU (l:List Tb) (t:Tb):List Tb:=l.take (kX l t.n)++t::l.drop (kX l t.n)
theorem Cr (l:List Tb) (n:List UInt8):kX l n<=l.length:=by
 have:=FF (my l) n;rw[qU]at this; exact this
theorem Hq (l:List Tb) (t:Tb):my (kU l t)=Hp (my l) (nw t):=by
 unfold kU Hp kX;have e:(nw t).t=t.n:=rfl;simp[my,List.map_take,List.map_drop,e]
theorem sH (l:List Tb) (t:Tb):(kU l t).length=l.length+1:=by
 have:=Cr l t.n;unfold kU;simp only[aD,List.length_take,List.length_cons,List.length_drop]; omega
theorem bY {l:List Tb} {n:List UInt8} {i:Nat} (h:dP l n=some i):∃t,l[i]? = some t/\t.n=n/\i<l.length:=by
 obtain⟨w,hw,hn,_⟩:=AE h;obtain⟨t,ht,rfl⟩:=HE hw;exact⟨t,ht,hn,(liZ.1 ht).1⟩
def cf (l:List Tb) (n:List UInt8):Option (List Col × Int) :=
 match (dP l n).bind fun i=>l[i]? with
 | some t=>some (t.c,t.k)
 | none=>none
theorem fV {l:List Tb} {n:List UInt8} {i:Nat} {t:Tb} (h:dP l n=some i) (ht:l[i]? = some t):cf l n=some (t.c,t.k):=by
 unfold cf;rw[h];simp[ht]
theorem oY {l:List Tb} {n:List UInt8} (h:dP l n=none):cf l n=none:=by
 unfold cf;rw[h]; rfl
def qa (o:Option (List Col × Int)):V :=
 match o with
 | some (c,k)=>.tup [sch c k,.bool true]
 | none=>.tup [sch [] 0,.bool false]
variable {nm:List UInt8->Bool} {may:List Col->Int->Bool}
structure Kq (nm:List UInt8->Bool) (may:List Col->Int->Bool) (t:Tb):Prop where
 name:nm t.n=true
 sch:may t.c t.k=true
structure Ec (nm:List UInt8->Bool) (may:List Col->Int->Bool) (l:List Tb):Prop where
 sorted:eQ l
 each:∀t∈l,Kq nm may t
theorem Ho {l:List Tb} {t:Tb} (h:Ec nm may l) (ht:Kq nm may t) (hn:dP l t.n=none):Ec nm may (kU l t):=by
 refine⟨?_,fun x hx=>?_⟩
 . unfold eQ;rw[Hq];exact yS h.sorted hn
 . unfold kU at hx;rcases List.mem_append.1 hx with h1 | h1
   . exact h.each x (List.mem_of_mem_take h1)
   . rcases List.mem_cons.1 h1 with rfl | h1
     . exact ht
     . exact h.each x (List.mem_of_mem_drop h1)
end
section
structure Chg where
 k:Int
 t:List UInt8
 c:List Col
 ks:Int
 col:Col
deriving DecidableEq
def gG:Col:=⟨[],0,false⟩
def br:Chg:=⟨0,[],[],0,gG⟩
def Kv (c:Chg):List V:=[.int .i64 c.k,.str c.t,.sl 3 (cols c.c) false,.int .i64 c.ks,.str c.col.n,.int .i64 c.col.k,.bool c.col.o]
def vZ (c:Chg):V:=.agg [.int .i64 c.k,.str c.t,.sl 3 (cols c.c) false,.int .i64 c.ks,.str c.col.n,.int .i64 c.col.k,.bool c.col.o]
structure Evt where
 k:Int
 n:Int
 t:List UInt8
 b:List Val
 a:List Val
 ch:Chg
deriving DecidableEq
def zW (e:Evt):List V:=[.int .i64 e.k,.int .i64 e.n,.str e.t,.sl 3 (ah e.b) false,.sl 3 (ah e.a) false,.int .i64 e.ch.k,.str e.ch.t,.sl 3 (cols e.ch.c) false,.int .i64 e.ch.ks,.str e.ch.col.n,.int .i64 e.ch.col.k,.bool e.ch.col.o]
def tZ (e:Evt):V:=.agg [.int .i64 e.k,.int .i64 e.n,.str e.t,.sl 3 (ah e.b) false,.sl 3 (ah e.a) false,.int .i64 e.ch.k,.str e.ch.t,.sl 3 (cols e.ch.c) false,.int .i64 e.ch.ks,.str e.ch.col.n,.int .i64 e.ch.col.k,.bool e.ch.col.o]
theorem Ex (a b:Chg):(decide (a.k=b.k)&&(decide (a.t=b.t)&&(decide (a.col=b.col)&&(decide (a.ks=b.ks)&&decide (a.c=b.c)))))=decide (a=b):=by
 cases a; cases b;simp only[Chg.mk.injEq,<-Bool.decide_and];congr 1
 apply propext;constructor
 . rintro⟨h1,h2,h3,h4,h5⟩; exact⟨h1,h2,h5,h4,h3⟩
 . rintro⟨h1,h2,h5,h4,h3⟩; exact⟨h1,h2,h3,h4,h5⟩
theorem Jr (a b:Evt):(decide (a.k=b.k)&&(decide (a.n=b.n)&&(decide (a.t=b.t)&&(decide (a.b=b.b)&&(decide (a.a=b.a)&&decide (a.ch=b.ch))))))=decide (a=b):=by
 cases a; cases b;simp only[Evt.mk.injEq,<-Bool.decide_and]
def zX (n:Int):Nat:=if 0<=n then(2*n).toNat else(2*(-(n+1))+1).toNat
def DS (n:Int):List UInt8:=md (zX n)
def cX (c:Col):List UInt8:=bm c.n ++ [b8 c.k,if c.o then 1 else 0]
def cS (c:Chg):List UInt8 :=
 b8 c.k::(bm c.t++(if c.k=1 then b8 c.ks::b8 c.c.length::c.c.flatMap cX else if c.k=3\/c.k=5 then cX c.col else if c.k=4 then bm c.col.n else []))
def eF (v:Val):List UInt8:=if v.k=1 then [b8 v.n]else if v.k=2 then DS v.n else if v.k=3\/v.k=4 then bm v.t else []
def dp (r:List Val) (j:Nat):Nat->Nat
 | 0=>0
 | t+1=>dp r j t+(if((r[8*j+t]?).map Val.k)=some 0 then 2 ^ t else 0)
def d6 (r:List Val):List UInt8:=(List.range ((r.length+7) / 8)).map fun j=>UInt8.ofNat (dp r j 8)
def dM (r:List Val):List UInt8:=d6 r++r.flatMap eF
def cC (e:Evt):List UInt8 :=
 b8 e.k::(if e.k=6 then cS e.ch else if e.k=5 then bm e.t++dM e.b else if e.k=3\/e.k=4 then bm e.t++dM e.a else d7 e.n)
theorem kz (r:List Val) (j:Nat):∀t,dp r j t<2 ^ t
 | 0=>by simp[dp]
 | t+1=>by
  have:=kz r j t;simp only[dp,Nat.pow_succ];split<;>omega
def jl (r:List Val) (i:Nat):List UInt8:=(List.range ((r.length+7) / 8)).map fun j=>UInt8.ofNat (dp r j (min 8 (i-8*j)))
theorem lz (r:List Val) (i:Nat):(jl r i).length=(r.length+7) / 8:=by simp[jl]
theorem eP (r:List Val):(d6 r).length=(r.length+7) / 8:=by simp[d6]
theorem og (r:List Val) (j:Nat):∀t s,r.length<=8*j+t->t<=s->dp r j s=dp r j t
 | t,0,_,h=>by have:t=0:=by omega
               subst this; rfl
 | t,s+1,h1,h2=>by
  by_cases e:t=s+1
  . subst e; rfl
  . simp only[dp];rw[List.getElem?_eq_none (by omega),og r j t s h1 (by omega)]
    simp
theorem za (r:List Val):jl r r.length=d6 r:=by
 unfold jl d6;refine List.map_congr_left fun j _=>?_
 congr 1
 by_cases h:8<=r.length-8*j
 . rw[Nat.min_eq_left h]
 . rw[Nat.min_eq_right (by omega)]
   exact(og r j _ 8 (by omega) (by omega)).symm
theorem DF (r:List Val):jl r 0=List.replicate ((r.length+7) / 8) 0:=by
 unfold jl;refine List.ext_getElem? fun j=>?_
 rw[List.getElem?_map,List.getElem?_replicate];by_cases h:j<(r.length+7) / 8
 . rw[List.getElem?_range h,if_pos h];simp[dp]
 . rw[List.getElem?_eq_none (by simp; omega),if_neg h]; rfl
theorem oe {r:List Val} {i j:Nat} (h:j<(r.length+7) / 8):(jl r i)[j]? = some (UInt8.ofNat (dp r j (min 8 (i-8*j)))):=by
 unfold jl;rw[List.getElem?_map,List.getElem?_range h]; rfl
theorem uZ {r:List Val} {i:Nat} {v:Val} (hg:r[i]? = some v) (hk:v.k≠0):jl r (i+1)=jl r i:=by
 unfold jl;refine List.map_congr_left fun j _=>?_
 congr 1
 by_cases h1:i<8*j
 . rw[show i+1-8*j=0 by omega,show i-8*j=0 by omega]
 . by_cases h2:8*j+8<=i
   . rw[Nat.min_eq_left (by omega),Nat.min_eq_left (by omega)]
   . rw[Nat.min_eq_right (by omega),Nat.min_eq_right (by omega),show i+1-8*j=(i-8*j)+1 by omega]
     simp only[dp];rw[show 8*j+(i-8*j)=i by omega,hg]
     simp[hk]
theorem Fk {r:List Val} {i:Nat} {v:Val} (hg:r[i]? = some v) (hk:v.k=0) :
 jl r (i+1)=(jl r i).set (i / 8) (UInt8.ofNat (dp r (i / 8) (i % 8)+2 ^ (i % 8)))/\(jl r i)[i / 8]? = some (UInt8.ofNat (dp r (i / 8) (i % 8))):=by
 have hlt:=(liZ.1 hg).1;have hj:i / 8<(r.length+7) / 8:=by omega
 have hm:min 8 (i-8*(i / 8))=i % 8:=by omega
 refine⟨List.ext_getElem? fun j=>?_,by rw[oe hj,hm]⟩
 rw[List.getElem?_set,lz];by_cases e:i / 8=j
 . subst e;rw[if_pos rfl,if_pos hj,oe hj,show min 8 (i+1-8*(i / 8))=i % 8+1 by omega]
   simp only[dp];rw[show 8*(i / 8)+i % 8=i by omega,hg]
   simp[hk]
 . rw[if_neg e];by_cases hj2:j<(r.length+7) / 8
   . rw[oe hj2,oe hj2];congr 3
     omega
   . rw[List.getElem?_eq_none (by rw[lz]; omega),List.getElem?_eq_none (by rw[lz]; omega)]
theorem CE (n:Int):(DS n).length<=10:=fw _
theorem Gr {v:Val} (h:v.t.length<=4096):(eF v).length<=4106:=by
 unfold eF;split
 . simp
 split
 . have:=CE v.n; omega
 split
 . have:=dd v.t; omega
 . simp
theorem BF {r:List Val} (h:∀v∈r,v.t.length<=4096):(r.flatMap eF).length<=4106*r.length:=by
 induction r with
 | nil=>simp
 | cons v l ih =>
  rw[List.flatMap_cons,aD,List.length_cons];have:=Gr (h v (by simp))
  have:=ih fun x hx=>h x (by simp[hx])
  omega
theorem tE {r:List Val} {i:Nat} {v:Val} (h:r[i]? = some v):(r.take (i+1)).flatMap eF=(r.take i).flatMap eF++eF v:=by
 rw[List.take_add_one,h,List.flatMap_append];simp
theorem nF {c:Col} (h:c.n.length<=4096):(cX c).length<=4108:=by
 unfold cX;rw[aD];have:=dd c.n;simp only[List.length_cons,List.length_nil];omega
theorem AM {l:List Col} (h:∀c∈l,c.n.length<=4096):(l.flatMap cX).length<=4108*l.length:=by
 induction l with
 | nil=>simp
 | cons v l ih =>
  rw[List.flatMap_cons,aD,List.length_cons];have:=nF (h v (by simp))
  have:=ih fun x hx=>h x (by simp[hx])
  omega
theorem rZ {r:List Col} {i:Nat} {v:Col} (h:r[i]? = some v):(r.take (i+1)).flatMap cX=(r.take i).flatMap cX++cX v:=by
 rw[List.take_add_one,h,List.flatMap_append];simp
structure K3 (c:Chg):Prop where
 t:c.t.length<=4096
 few:c.c.length<=64
 names:∀x∈c.c,x.n.length<=4096
 col:c.col.n.length<=4096
def Bw (c:Nat):Nat:=c / 2 ^^^ (if c % 2=1 then 3988292384 else 0)
def fp:Nat->Nat->Nat
 | 0,c=>c
 | k+1,c=>fp k (Bw c)
theorem zM:∀(a b c:Nat),fp (a+b) c=fp b (fp a c)
 | 0,b,c=>by rw[Nat.zero_add]; rfl
 | a+1,b,c=>by rw[show a+1+b=(a+b)+1 by omega]; exact zM a b (Bw c)
theorem Ga (k c:Nat):fp (k+1) c=Bw (fp k c):=zM k 1 c
theorem Ih (a b:Nat):Bw (a ^^^ b)=Bw a ^^^ Bw b:=by
 unfold Bw;rw[Nat.xor_div_two];have hm:(a ^^^ b) % 2=(a % 2+b % 2) % 2:=by
  have:=Nat.xor_mod_two_eq_one (a:=a) (b:=b);by_cases h:(a ^^^ b) % 2=1
  . have:=this.1 h; omega
  . have h2:¬ ¬(a % 2=1 ↔ b % 2=1):=fun hn=>h (this.2 hn)
    have h3:(a % 2=1 ↔ b % 2=1):=Decidable.not_not.1 h2;by_cases ha:a % 2=1
    . have:=h3.1 ha; omega
    . have:¬b % 2=1:=fun hb=>ha (h3.2 hb)
      omega
 rw[hm];rcases Nat.mod_two_eq_zero_or_one a with ha | ha<;>rcases Nat.mod_two_eq_zero_or_one b with hb | hb<;>rw[ha,hb]
 . simp
 . simp[Nat.xor_assoc]
 . simp only[show(1+0) % 2=1 from rfl,if_true,if_neg (show ¬(0=1) by decide),Nat.xor_zero]
   rw[Nat.xor_assoc,Nat.xor_comm (b / 2),<-Nat.xor_assoc]
 . simp only[show(1+1) % 2=0 from rfl,if_true,if_neg (show ¬(0=1) by decide),Nat.xor_zero]
   rw[Nat.xor_assoc,Nat.xor_comm 3988292384 (b / 2 ^^^ 3988292384),Nat.xor_assoc,Nat.xor_self,Nat.xor_zero]
theorem zO:∀(k a b:Nat),fp k (a ^^^ b)=fp k a ^^^ fp k b
 | 0,_,_=>rfl
 | k+1,a,b=>by simp only[fp]; rw[Ih,zO k]
theorem Gc (k:Nat):Bw (2*k)=k:=by
 unfold Bw;rw[show 2*k % 2=0 by omega,if_neg (by decide),Nat.xor_zero]; omega
theorem zN:∀(k a:Nat),fp k (2 ^ k*a)=a
 | 0,a=>by simp[fp]
 | k+1,a=>by
  simp only[fp];rw[show 2 ^ (k+1)*a=2*(2 ^ k*a) by rw[Nat.pow_succ,Nat.mul_comm (2 ^ k) 2,Nat.mul_assoc],Gc,zN k a]
theorem J5 {c:Nat} (h:c<2 ^ 32):Bw c<2 ^ 32:=by
 unfold Bw;refine Nat.xor_lt_two_pow (by omega) ?_
 split<;>decide
theorem oE:∀(k:Nat) {c:Nat},c<2 ^ 32->fp k c<2 ^ 32
 | 0,_,h=>h
 | k+1,_,h=>oE k (J5 h)
def run (c:Nat):List UInt8->Nat
 | []=>c
 | b::l=>run (fp 8 (c ^^^ b.toNat)) l
theorem GE {a b:Nat} (ha:a<256):a+256*b=a ^^^ (256*b):=by
 have h:=JH (n:=a) (d:=b) (k:=8) ha;have e:a ||| b*2 ^ 8=a ^^^ (256*b):=by
  rw[show b*2 ^ 8=256*b by omega]
  refine Nat.eq_of_testBit_eq fun i=>?_
  rw[Nat.testBit_or,Nat.testBit_xor];by_cases hi:i<8
  . have:(256*b).testBit i=false:=by
     rw[show 256*b=2 ^ 8*b from rfl,Nat.testBit_two_pow_mul]
     simp; omega
    rw[this]; simp
  . have:a.testBit i=false:=Nat.testBit_lt_two_pow (Nat.lt_of_lt_of_le ha (Nat.pow_le_pow_right (n:=2) (by decide) (show 8<=i by omega)))
    rw[this]; simp
 rw[<-e,h]; omega
theorem w4:∀(l:List UInt8) {c:Nat},c<2 ^ 32->run c l<2 ^ 32
 | [],_,h=>h
 | b::l,c,h=>w4 l (oE 8 (Nat.xor_lt_two_pow h (by have:=b.toNat_lt; omega)))
def qw (l:List UInt8):Nat:=run 4294967295 l ^^^ 4294967295
def Fd (n:Nat):List UInt8:=[UInt8.ofNat n,UInt8.ofNat (n / 256),UInt8.ofNat (n / 65536),UInt8.ofNat (n / 16777216)]
def jv (l:List UInt8):List UInt8:=l++Fd (qw l)
theorem qH (l:List UInt8):qw l<2 ^ 32:=Nat.xor_lt_two_pow (w4 l (by decide)) (by decide)
theorem jW (n:Int):IntKind.u32.wrap n=n % 4294967296:=by simp[IntKind.wrap,IntKind.bits,IntKind.signed]
theorem wrap_u8 (n:Int):IntKind.u8.wrap n=n % 256:=by simp[IntKind.wrap,IntKind.bits,IntKind.signed]
theorem Jd {a:Nat} (h:a<2 ^ 32):(BitVec.ofInt 32 (a:Int)).toNat=a:=by rw[BitVec.toNat_ofInt]; omega
theorem Lq {a:Nat} (h:a<256):(BitVec.ofInt 8 (a:Int)).toNat=a:=by rw[BitVec.toNat_ofInt]; omega
theorem vk {a b:Nat} (ha:a<2 ^ 32) (hb:b<2 ^ 32):IntKind.u32.wrap ↑(BitVec.ofInt IntKind.u32.bits (a:Int) ^^^ BitVec.ofInt IntKind.u32.bits (b:Int)).toNat=((a ^^^ b:Nat):Int):=by
 show IntKind.u32.wrap ↑(BitVec.ofInt 32 (a:Int) ^^^ BitVec.ofInt 32 (b:Int)).toNat=_
 rw[BitVec.toNat_xor,Jd ha,Jd hb,jW];have:=Nat.xor_lt_two_pow ha hb;omega
theorem Lo {a b:Nat} (ha:a<256) (hb:b<256):IntKind.u8.wrap ↑(BitVec.ofInt IntKind.u8.bits (a:Int) ^^^ BitVec.ofInt IntKind.u8.bits (b:Int)).toNat=((a ^^^ b:Nat):Int):=by
 show IntKind.u8.wrap ↑(BitVec.ofInt 8 (a:Int) ^^^ BitVec.ofInt 8 (b:Int)).toNat=_
 rw[BitVec.toNat_xor,Lq ha,Lq hb,wrap_u8];have:=Nat.xor_lt_two_pow (n:=8) (x:=a) (y:=b) (by omega) (by omega)
 omega
theorem GH {a:Nat} (ha:a<2 ^ 32):IntKind.u32.wrap ↑(BitVec.ofInt IntKind.u32.bits (a:Int) &&& BitVec.ofInt IntKind.u32.bits 1).toNat=((a % 2:Nat):Int):=by
 show IntKind.u32.wrap ↑(BitVec.ofInt 32 (a:Int) &&& BitVec.ofInt 32 1).toNat=_
 rw[BitVec.toNat_and,Jd ha,show(BitVec.ofInt 32 1).toNat=1 from rfl,Nat.and_one_is_mod,jW]
 omega
theorem CF (a:Nat) {k:Nat} (hk:k<=32):Int.fdiv (a:Int) (2 ^ min (k:Int).toNat IntKind.u32.bits)=((a / 2 ^ k:Nat):Int):=by
 rw[Int.toNat_natCast,show min k IntKind.u32.bits=k from Nat.min_eq_left hk]
 rw[Int.fdiv_eq_ediv_of_nonneg _ (Int.pow_nonneg (by decide))]
 rw[Int.natCast_ediv,Int.natCast_pow]; rfl
theorem Gb {c:Nat} (h:c<2 ^ 32) :
 IntKind.u32.wrap ↑(BitVec.ofInt IntKind.u32.bits (Int.fdiv (c:Int) (2 ^ min (1:Int).toNat IntKind.u32.bits)) ^^^ BitVec.ofInt IntKind.u32.bits (IntKind.u32.wrap (3988292384*IntKind.u32.wrap ↑(BitVec.ofInt IntKind.u32.bits (c:Int) &&& BitVec.ofInt IntKind.u32.bits 1).toNat))).toNat=((Bw c:Nat):Int):=by
 have e1:Int.fdiv (c:Int) (2 ^ min (1:Int).toNat IntKind.u32.bits)=((c / 2:Nat):Int):=CF c (k:=1) (by decide)
 have e2:IntKind.u32.wrap (3988292384*IntKind.u32.wrap ↑(BitVec.ofInt IntKind.u32.bits (c:Int) &&& BitVec.ofInt IntKind.u32.bits 1).toNat)=(((if c % 2=1 then 3988292384 else 0:Nat)):Int):=by
  rw[GH h,jW];split<;>omega
 rw[e1,e2,vk (by omega) (by split<;>decide)]
 rfl
theorem Gh (c:Nat) (x:UInt8):fp 8 (c ^^^ x.toNat)=(c / 256) ^^^ fp 8 ((c % 256) ^^^ x.toNat):=by
 have e:c=(c % 256) ^^^ (256*(c / 256)):=by
  rw[<-GE (Nat.mod_lt _ (by decide))]; omega
 have e2:c ^^^ x.toNat=((c % 256) ^^^ x.toNat) ^^^ (256*(c / 256)):=by
  conv=>lhs; rw[e]
  rw[Nat.xor_assoc,Nat.xor_comm (256*(c / 256)),<-Nat.xor_assoc]
 rw[e2,zO,show 256*(c / 256)=2 ^ 8*(c / 256)from rfl,zN,Nat.xor_comm]
theorem tq:∀(l:List UInt8) (c:Nat) (b:UInt8),run c (l ++ [b])=fp 8 (run c l ^^^ b.toNat)
 | [],_,_=>rfl
 | _::l,c,b=>tq l _ b
theorem Fe {s i:Nat} (hs:s<2 ^ 32) (hi:i<4):IntKind.u8.wrap (Int.fdiv (s:Int) (2 ^ min (IntKind.i64.wrap (8*(i:Int))).toNat IntKind.i64.bits))=((((Fd s).getD i 0).toNat:Nat):Int):=by
 have e0:(IntKind.i64.wrap (8*(i:Int))).toNat=8*i:=by rw[IntKind.wrap_i64]; omega
 have e1:min (8*i) IntKind.i64.bits=8*i:=by show min (8*i) 64=_; omega
 have e2:Int.fdiv (s:Int) (2 ^ (8*i))=((s / 2 ^ (8*i):Nat):Int):=by
  rw[Int.fdiv_eq_ediv_of_nonneg _ (Int.pow_nonneg (by decide)),Int.natCast_ediv,Int.natCast_pow]; rfl
 rw[e0,e1,e2,wrap_u8];obtain rfl | rfl | rfl | rfl:i=0\/i=1\/i=2\/i=3:=by omega
 all_goals
  simp only[Fd,List.getD_cons_zero,List.getD_cons_succ,UInt8.toNat_ofNat', Nat.reduceMul,Nat.reducePow];omega
theorem wz (s:Nat):(Fd s).length=4:=rfl
theorem r9 (b:List UInt8):(jv b).length=b.length+4:=by unfold jv; rw[aD,wz]
end
section
variable [Globs]
theorem eo {z b i n:Nat} {x:V} {X ys:List (List V)} {H:List O} {K:V->List O->Prop} (hx:db (.ms z i 0 n false) x=false) (hX:ar H i = .buf X) (hn:n=X.length) (hs:(X.length+ys.length)*b<=70368744177664)
 (hK:aV (bX H i .dead ++ [.buf (X++ys)]) fun H' => K (.ms z (bX H i .dead).length 0 (X.length+ys.length) false) H'):dW z b (.ms z i 0 n false) x ys H K:=by
 subst hn;unfold dW;simp only[hx];unfold co;simp only[Nat.beq_refl,hX,List.drop_zero];refine⟨rfl,?_⟩;unfold bJ;rw[aD];exact⟨hs,hK⟩
theorem gq {z b n:Nat} {X ys:List (List V)} {H:List O} {K:V->List O->Prop} (hn:n=X.length) (hs:(X.length+ys.length)*b<=70368744177664)
 (hK:aV (H ++ [.buf (X++ys)]) fun H' => K (.ms z H.length 0 (X.length+ys.length) false) H'):n+0=X.length/\bJ z b (List.drop 0 X++ys) H K:=by
 subst hn;refine⟨rfl,?_⟩;rw[List.drop_zero];unfold bJ;rw[aD];exact⟨hs,hK⟩
end
end Go.Proofs.YteiagdlfccbpcaaGreatDoorPg
