/- Own texts, laid together: Pg10ZDEv12, Pg10ZDEv14, Pg10ZDEv16, Pg10ZDBlP, Pg10ZDBlQ, Pg10ZDBlA, Pg10ZDEvL, Pg10ZDSoA, Pg10ZDIm15, Pg10ZDSoB, Pg10ZDSoC, Pg10ZDSoD, Pg10ZDRwC, Pg10ZDSoE, Pg10ZDSoF, Pg10ZDSoG, Pg10ZDSoH, Pg10ZDSoI, Pg10ZDSoJ, Pg10ZDSoK, Pg10ZDSoL, Pg10ZDSoM, Pg10ZDWin6, Pg10ZDSameRw, Pg10ZDSoN, Pg10ZDSoO. -/
import Derived.Test.YteiagdlfccbpcaaGreatDoorPgM18
import Derived.Test.YteiagdlfccbpcaaGreatDoorPgM19
import Derived.Test.YteiagdlfccbpcaaGreatDoorPgM12
import Derived.Test.YteiagdlfccbpcaaGreatDoorPgM1
import Derived.Test.YteiagdlfccbpcaaGreatDoorPgM17
import Derived.Test.YteiagdlfccbpcaaGreatDoorPgM14
set_option linter.unusedSectionVars false
set_option linter.unusedSimpArgs false
set_option linter.unusedVariables false
set_option maxHeartbeats 64000000
namespace Go.Proofs.YteiagdlfccbpcaaGreatDoorPg
open Go Go.RowKit
section
variable {Q:V->List O->Prop}
theorem pD {l:List Col} {keys:Int} (hl:l.length<1000000) (h:Q (sch l keys) []):ACall Tryz.prog 76 0 [sch l keys] [] Q:=by
 refine ACall.ret (iq hl (.frz 0 rfl (by repeat (first | exact trivial | refine And.intro (Nat.le_of_eq (by rw[aw,Nat.zero_add])) ?_)) (.done [] rfl ?_)))
 show Q (.agg [.sl 3 (List.take l.length (cols l)) false,fI keys]) []
 rw[List.take_of_length_le (by rw[aw]; exact Nat.le_refl _)]
 exact h
theorem Ek {i j n:Nat} {f:Bool} {X:List Tb} {w:Tb} {H:List O} {K:V->List O->Prop} (hij:Nat.beq i j=false) (hX:ar H i = .buf (tbs X)) (hn:n=X.length) (hs:X.length<=1000000)
 (hK:aV (bX H i .dead ++ [.buf (tbs (X ++ [w]))]) fun H' => K (.ms 3 (bX H i .dead).length 0 (X ++ [w]).length false) H') :
 0+1<=1/\dW 3 48 (.ms 3 i 0 n false) (.ms 3 j 0 1 f) [Gy w] H K:=by
 subst hn;refine⟨Nat.le_refl 1,?_⟩;unfold dW db;simp only[hij];unfold co;simp only[show Nat.beq 3 3=true from rfl,hX,List.drop_zero]
 refine⟨by rw[bR]; rfl,?_⟩
 rw[show tbs X ++ [Gy w]=tbs (X ++ [w]) by rw[Ik]; rfl]
 unfold bJ;rw[bR];exact⟨by rw[aD,List.length_singleton]; omega,hK⟩
theorem lf {l:List Tb} (hl:l.length<=64) (hc:∀x∈l,x.c.length<1000000) (h:Q (.ms 3 0 0 l.length false) [.buf (tbs l)]):ACall Tryz.prog 100 0 [.sl 3 (tbs l) false] [] Q:=by
 refine ACall.ret (ad Tryz.func100 0 rfl (aA rfl) ?_)
 conv=>whnf
 have hlv:=bR l;refine⟨⟨[3,6,7,8],fun m ws H=>∃i:Nat,ws = [.ms 3 0 0 i false,.sl 3 (tbs l) false,fI (tbs l).length,fI i]/\H = [.buf (tbs (l.take i))]/\i<=l.length/\m=l.length-i,?_,?_⟩⟩
 . refine .frz (l.length+1) (.adopt (.sub _ _ (.cons (VSub.ms0 3 0 0 false) (VSubs.refl _)) (HSub.refl _) (.go [0] rfl l.length (by omega) ⟨0,rfl,rfl,by omega,rfl⟩)))
 rintro m ws H ⟨i,rfl,rfl,hi,rfl⟩
 conv=>whnf
 refine ac (fun c1=>?_) (fun c1=>?_)<;>try rw[c1]<;>conv=>whnf
 rotate_left
 focus
  have c1' := aG c1;have:i=l.length:=by omega
  subst this;rw[List.take_length];exact⟨[0],rfl,.done [0] rfl h⟩
 have c1' := aB c1;have hlt:i<l.length:=by omega
 have hg:l[i]? = some l[i]:=aS hlt;have hcw:=hc l[i] (List.getElem_mem hlt);generalize l[i]=w at *;refine⟨_,⟨by omega,ay hg⟩,?_⟩
 conv=>whnf
 refine⟨List.range 10,by kernel_rfl,by kernel_rfl,?_⟩
 conv=>whnf
 refine .pure (pD (l:=w.c) (keys:=w.k) hcw ⟨rfl,?_⟩)
 repeat (conv=>whnf
         refine⟨rfl,?_⟩)
 conv=>whnf
 have hsn:l.take (i+1)=l.take i ++ [w]:=by rw[List.take_add_one,hg]; rfl
 refine Ek (X:=l.take i) (w:=w) rfl rfl (by rw[List.length_take]; omega) (by rw[List.length_take]; omega) ?_
 rw[<-hsn];have hln:(l.take (i+1)).length=i+1:=by rw[List.length_take]; omega
 rw[hln]
 conv=>whnf
 refine .go [3] rfl (l.length-(i+1)) (by omega) ⟨i+1,?_,rfl,by omega,rfl⟩
 show [V.ms 3 0 0 (i+1) false,.sl 3 (tbs l) false,fI (tbs l).length,V.int .i64 (IntKind.i64.wrap ((i:Int)+1))]=_
 rw[dm (by omega)]; rfl
theorem Il (l:List Tb) (t:Tb):(tbs l).take (kX l t.n) ++ [Gy t]++(tbs l).drop (kX l t.n)=tbs (kU l t):=by
 unfold kU tbs;simp[List.map_take,List.map_drop]
theorem J8 {l:List Tb}:∀r∈tbs l,r ≠ []:=by
 intro r hr;unfold tbs at hr;obtain⟨w,_,rfl⟩:=List.mem_map.1 hr;exact List.cons_ne_nil _ _
def Je (l:List Tb) (t:List UInt8) (cs:List Col) (ks:Int):List Tb × Int :=
 if ai t=false then([],6)else if(dP l t).isSome then([],8)else if fC cs ks=false then([],1)else if 64<=l.length then([],13)else(kU l ⟨t,cs,ks⟩,0)
theorem xt {l:List Tb} {c:Chg} (hl:l.length<=64) (hc:∀x∈l,x.c.length<1000000) (h:Q (yE (Je l c.t c.c c.ks)) []) :
 ACall Tryz.prog 98 0 [.sl 3 (tbs l) false,fI (kX l c.t),.bool (dP l c.t).isSome,vZ c] [] Q:=by
 refine ACall.ret (ad Tryz.func98 0 rfl (aA rfl) ?_)
 conv=>whnf
 have hlv:=bR l;have hp:=Cr l c.t;unfold Je at h;refine .pure (ib ⟨rfl,?_⟩)
 conv=>whnf
 cases hn:ai c.t<;>rw[hn]at h<;>conv=>whnf
 . exact⟨[],rfl,.sub _ _ (eB _) (HSub.refl _) (.done [] rfl h)⟩
 rw[if_neg (by simp)]at h
 cases ha:(dP l c.t).isSome<;>rw[ha]at h<;>conv=>whnf
 rotate_left
 . exact⟨[],rfl,.sub _ _ (eB _) (HSub.refl _) (.done [] rfl h)⟩
 rw[if_neg (by simp)]at h
 refine .pure (BJ (l:=c.c) (keys:=c.ks) ⟨rfl,?_⟩)
 conv=>whnf
 cases hm:fC c.c c.ks<;>rw[hm]at h<;>conv=>whnf
 . exact⟨[],rfl,.sub _ _ (eB _) (HSub.refl _) (.done [] rfl h)⟩
 rw[if_neg (by simp)]at h
 refine ac (fun c1=>?_) (fun c1=>?_)<;>try rw[c1]<;>conv=>whnf
 . have c1' := aB c1;rw[if_pos (by omega)]at h
   exact⟨[],rfl,.sub _ _ (eB _) (HSub.refl _) (.done [] rfl h)⟩
 have c1' := aG c1;rw[if_neg (by omega)]at h
 have hb:=dt hm;refine⟨[0,2,3,4,5,6,1,7,8,9,10,11,12],by kernel_rfl,by kernel_rfl,?_⟩
 conv=>whnf
 refine .call [] 0 ⟨rfl,rfl,rfl⟩ (lf hl hc ?_)
 repeat (conv=>whnf
         refine⟨rfl,?_⟩)
 conv=>whnf
 refine .pure (pD (l:=c.c) (keys:=c.ks) (by omega) ⟨rfl,?_⟩)
 repeat (conv=>whnf
         refine⟨rfl,?_⟩)
 conv=>whnf
 refine .call [1,2] 2 ⟨rfl,rfl,rfl⟩ (ACall.stay 2 rfl ?_);show ACall Tryz.prog 140 0 [.ms 3 0 0 l.length false,fI (kX l c.t),.ms 3 1 0 1 true] [.buf (tbs l),.buf [Gy ⟨c.t,c.c,c.ks⟩]] _
 rw[<-hlv];refine vt (by omega) (by omega) J8 (List.cons_ne_nil _ _) ?_
 have hti:=Il l ⟨c.t,c.c,c.ks⟩;rw[show List.take (kX l c.t) (tbs l) ++ [Gy ⟨c.t,c.c,c.ks⟩]++List.drop (kX l c.t) (tbs l)=_ from hti]
 repeat (conv=>whnf
         refine⟨rfl,?_⟩)
 conv=>whnf
 refine qP (j:=3) (L:=kU l ⟨c.t,c.c,c.ks⟩) rfl (by rw[sH,bR]) (show 3<4 by decide) h
theorem vq {l:List Tb} {c:Chg} (hl:l.length<=64) (hs:eQ l) (hk:c.k=1) (hc:∀x∈l,x.c.length<1000000) (h:Q (yE (Je l c.t c.c c.ks)) []) :
 ACall Tryz.prog 58 0 [.sl 3 (tbs l) false,vZ c] [] Q:=by
 refine ad Tryz.func58 0 rfl (aA rfl) ?_
 conv=>whnf
 refine .pure (lV (by omega) hs ⟨rfl,?_⟩)
 conv=>whnf
 rw[decide_eq_true hk]
 conv=>whnf
 refine .pure (xt hl hc ⟨rfl,?_⟩);unfold yE
 conv=>whnf
 exact⟨[],rfl,h⟩
theorem DV (l:List Tb) (i:Nat):tbs (l.eraseIdx i)=(tbs l).take i++(tbs l).drop (i+1):=by
 rw[List.eraseIdx_eq_take_drop_succ]; simp[tbs]
theorem B9 {n:Nat} {C B:List (List V)} (hC:C.take n=B) (hn:n<=C.length) (h:Q (.sl 3 B false) []):ARet 0 Q (.ms 3 0 0 n false) [.buf C]:=by
 refine .frz 0 rfl (by repeat (first | exact trivial | refine And.intro (Nat.le_trans (Nat.le_of_eq (Nat.zero_add _)) hn) ?_)) (.done [] rfl ?_)
 show Q (.sl 3 (C.take n) false) []
 rw[hC]; exact h
theorem vn {l:List Tb} {i:Nat} (hl:l.length<=64) (hi:i<l.length) (h:Q (.sl 3 (tbs (l.eraseIdx i)) false) []) :
 ACall Tryz.prog 99 0 [.mr 3 0 0 l.length,fI i,fI ((i+1:Nat):Int)] [.buf (tbs l)] Q:=by
 have hlk:=bR l;refine ACall.ret (ad Tryz.func99 0 rfl (aA rfl) ?_)
 conv=>whnf
 refine⟨by omega,?_⟩
 conv=>whnf
 rw[show decide ((i:Int)=((i+1:Nat):Int))=false by simp; omega]
 conv=>whnf
 refine⟨[0,1,2,3,4,5,6,7],by kernel_rfl,by kernel_rfl,?_⟩
 conv=>whnf
 refine⟨by omega,?_⟩
 conv=>whnf
 refine⟨by omega,?_⟩
 conv=>whnf
 refine⟨by omega,?_⟩
 have hY:List.take (l.length-((i+1:Nat):Int).toNat) (List.drop (((i+1:Nat):Int).toNat+0) (tbs l))=(tbs l).drop (i+1):=by
  rw[Int.toNat_natCast,Nat.add_zero,List.take_of_length_le (by simp[hlk])]
 have hYl:((tbs l).drop (i+1)).length=l.length-(i+1):=by rw[List.length_drop,hlk]
 have hE:=DV l i;rw[hY];generalize hYY:(tbs l).drop (i+1)=Y at *;refine⟨fun hy=>?_,fun hy=>⟨?_,?_⟩⟩
 . subst hy;rw[List.length_nil]at hYl;rw[List.append_nil]at hE
   conv=>whnf
   refine⟨⟨by omega,by omega,.inr (show 0+l.length<=(tbs l).length by omega)⟩,?_⟩
   conv=>whnf
   refine⟨by omega,?_⟩
   conv=>whnf
   have hti:(List.take i (tbs l)).length=i:=by rw[List.length_take]; omega
   refine⟨[0],rfl,.sub _ _ (VSub.mrMs _ _ _ _) (HSub.refl _) (B9 (B:=tbs (l.eraseIdx i)) ?_ ?_ h)⟩
   . rw[hE];show List.take i (List.take i (tbs l)++List.replicate (l.length-i) (tt 48).zero++List.drop (i+(l.length-i)) (tbs l))=_
     rw[List.append_assoc]
     conv=>lhs; arg 1; rw[<-hti]
     exact fj _ _
   . show i<=(List.take i (tbs l)++List.replicate (l.length-i) (tt 48).zero++List.drop (i+(l.length-i)) (tbs l)).length
     rw[aD,aD,hti]; omega
 . omega
 . have hyp:0<Y.length:=List.length_pos_iff.2 hy;have hti:(List.take (0+i) (tbs l)).length=i:=by rw[List.length_take]; omega
   obtain⟨D,hD⟩:∃D,D=(List.take (0+(i:Int).toNat) (tbs l)++Y++List.drop (0+(i:Int).toNat+Y.length) (tbs l)):=⟨_,rfl⟩;have hDl:D.length=l.length:=by rw[hD,Int.toNat_natCast,aD,aD,hti,List.length_drop]; omega
   have hDt:D.take (i+Y.length)=tbs (l.eraseIdx i):=by
    rw[hD,hE,Int.toNat_natCast,Nat.zero_add];have:(List.take i (tbs l)++Y).length=i+Y.length:=by rw[aD]; rw[Nat.zero_add]at hti; omega
    conv=>lhs; arg 1; rw[<-this]
    exact fj _ _
   conv=>whnf
   refine⟨⟨by omega,by omega,.inr ⟨by omega,?_⟩⟩,?_⟩
   . show 0+l.length<=(List.take (0+(i:Int).toNat) (tbs l)++Y++List.drop (0+(i:Int).toNat+Y.length) (tbs l)).length
     rw[<-hD]; omega
   conv=>whnf
   have hz:((((i:Int).toNat+Y.length:Nat):Int)).toNat=i+Y.length:=by omega
   rw[<-hD,hz];refine⟨⟨by omega,by omega⟩,?_⟩
   conv=>whnf
   have hDt' : (D.take (i+Y.length)).length=i+Y.length:=by rw[List.length_take]; omega
   refine⟨[0],rfl,B9 (B:=tbs (l.eraseIdx i)) ?_ ?_ h⟩
   . rw[<-hDt];show List.take (i+Y.length) (List.take (i+Y.length) D++List.replicate (l.length-(i+Y.length)) (tt 48).zero++List.drop (i+Y.length+(l.length-(i+Y.length))) D)=_
     rw[List.append_assoc]
     conv=>lhs; arg 1; rw[<-hDt']
     exact fj _ _
   . show i+Y.length<=(List.take (i+Y.length) D++List.replicate (l.length-(i+Y.length)) (tt 48).zero++List.drop (i+Y.length+(l.length-(i+Y.length))) D).length
     rw[aD,aD,hDt']; omega
theorem vr {l:List Tb} {c:Chg} (hl:l.length<=64) (hs:eQ l) (hk:c.k=2) (hc:∀x∈l,x.c.length<1000000)
 (h:Q (yE (match dP l c.t with | none=>([],7) | some i=>(l.eraseIdx i,0))) []) :
 ACall Tryz.prog 58 0 [.sl 3 (tbs l) false,vZ c] [] Q:=by
 refine ACall.ret (ad Tryz.func58 0 rfl (aA rfl) ?_)
 conv=>whnf
 refine .pure (lV (by omega) hs ⟨rfl,?_⟩)
 conv=>whnf
 rw[decide_eq_false (show ¬c.k=1 by omega)]
 cases ha:dP l c.t with
 | none =>
  rw[ha]at h
  conv=>whnf
  exact⟨[],rfl,.sub _ _ (eB _) (HSub.refl _) (.done [] rfl h)⟩
 | some i =>
  rw[ha]at h
  conv=>whnf
  rw[decide_eq_true hk]
  conv=>whnf
  have hp:=pg hs ha;obtain⟨t,ht,_,hi⟩:=bY ha;rw[hp];refine .call [] 0 ⟨rfl,rfl,rfl⟩ (lf hl hc ?_)
  conv=>whnf
  rw[dm (n:=(i:Int)+1) (by omega)]
  refine .call [1] 0 ⟨rfl,rfl,rfl⟩ (ACall.args (.cons (VSub.mr (by omega)) (VSubs.refl _)) (vn (i:=i) hl hi ?_))
  conv=>whnf
  exact⟨[],rfl,.done [] rfl h⟩
theorem xw {l:List Tb} {c:Chg} (hl:TbsB l) (h:Q (yE (cZ l c.k c.t c.c c.ks c.col)) []) :
 ACall Tryz.prog 58 0 [.sl 3 (tbs l) false,vZ c] [] Q:=by
 have hs:=hl.ok.sorted;have hf:=hl.few;have hc:∀x∈l,x.c.length<1000000:=fun x hx=>by have:=hl.cols x hx; omega
 unfold cZ at h;by_cases h1:c.k=1
 . rw[if_pos h1]at h;exact vq hf hs h1 hc h
 rw[if_neg h1]at h;by_cases h2:c.k=2
 . refine vr hf hs h2 hc ?_;cases ha:dP l c.t with
   | none=>rw[ha]at h; exact h
   | some i=>rw[ha]at h; simp only[if_pos h2]at h; exact h
 refine ACall.ret (ad Tryz.func58 0 rfl (aA rfl) ?_)
 conv=>whnf
 refine .pure (lV (by omega) hs ⟨rfl,?_⟩)
 conv=>whnf
 rw[decide_eq_false h1];cases ha:dP l c.t with
 | none =>
  rw[ha]at h
  conv=>whnf
  exact⟨[],rfl,.sub _ _ (eB _) (HSub.refl _) (.done [] rfl h)⟩
 | some i =>
  rw[ha]at h
  conv=>whnf
  rw[decide_eq_false h2]
  conv=>whnf
  have hp:=pg hs ha;obtain⟨t,ht,_,hi⟩:=bY ha;rw[hp];simp only[ht,if_neg h2]at h;have hm:=dt (hl.ok.each t (List.mem_of_getElem? ht)).sch;refine⟨List.range 13,by kernel_rfl,by kernel_rfl,?_⟩
  conv=>whnf
  refine⟨_,⟨by omega,ay ht⟩,?_⟩
  conv=>whnf
  refine .pure (zZ (l:=t.c) (keys:=t.k) (k:=c.k) (c:=c.col) (by omega) (by omega) ⟨rfl,?_⟩)
  generalize hap:bx t.c t.k c.k c.col=ap at *
  repeat (conv=>whnf
          refine⟨rfl,?_⟩)
  conv=>whnf
  refine ac (fun c1=>?_) (fun c1=>?_)<;>try rw[c1]<;>conv=>whnf
  . have c1' : ap.2.2≠0:=by simpa using c1
    rw[if_pos c1']at h;exact⟨[],rfl,.sub _ _ (eB _) (HSub.refl _) (.done [] rfl h)⟩
  have c1' : ¬ap.2.2≠0:=by simpa using c1
  rw[if_neg c1']at h;refine .call [] 0 ⟨rfl,rfl,rfl⟩ (lf hf hc ?_)
  conv=>whnf
  refine⟨⟨by omega,by omega⟩,?_⟩
  conv=>whnf
  refine⟨_,ay ht,?_⟩
  conv=>whnf
  have e:(tbs l).set i [.str t.n,.sl 3 (cols ap.1) false,fI ap.2.1]=tbs (l.set i ⟨t.n,ap.1,ap.2.1⟩):=by
   unfold tbs; rw[List.map_set]; rfl
  exact qP (j:=2) (L:=l.set i ⟨t.n,ap.1,ap.2.1⟩) (congrArg O.buf e) (by rw[List.length_set]) (show 2<3 by decide) h
end
section
def dD (b:List UInt8):List UInt8:=d7 (b.length:Int)++jv b
def start:List UInt8:=dD [1,1]
def uc (b:List UInt8) (at_:Nat):List UInt8 × Int × Int :=
 if(bQ (b.drop at_)).2.2≠0 then([],(at_:Int),(bQ (b.drop at_)).2.2)
 else if((bQ (b.drop at_)).2.1.length:Int)<(bQ (b.drop at_)).1+4 then([],(at_:Int),4)
 else if jv ((bQ (b.drop at_)).2.1.take (bQ (b.drop at_)).1.toNat)=(bQ (b.drop at_)).2.1.take ((bQ (b.drop at_)).1.toNat+4)
  then((bQ (b.drop at_)).2.1.take (bQ (b.drop at_)).1.toNat,((b.length-(bQ (b.drop at_)).2.1.length+(bQ (b.drop at_)).1.toNat+4:Nat):Int),0)
 else([],(at_:Int),3)
def eZ (b:List UInt8) (a:Int):List UInt8 × Int × Int :=
 if a<0\/(b.length:Int)<a then([],a,1)else if a=(b.length:Int)then([],a,7)else uc b a.toNat
theorem jN (n:Int):(d7 n).length<=10:=fw _
theorem gZ (b:List UInt8):(dD b).length=(d7 (b.length:Int)).length+b.length+4:=by unfold dD; rw[aD,r9]; omega
theorem Fp (b:List UInt8) (a:Nat) (h:(uc b a).2.2≠0):(uc b a).1 = []/\(uc b a).2.1=a:=by
 unfold uc at h ⊢;split
 . exact⟨rfl,rfl⟩
 split
 . exact⟨rfl,rfl⟩
 split
 . rename_i h1 h2 h3;rw[if_neg h1,if_neg h2,if_pos h3]at h;exact absurd rfl h
 . exact⟨rfl,rfl⟩
theorem Fr (b:List UInt8) (a:Int) (h:(eZ b a).2.2≠0):(eZ b a).1 = []/\(eZ b a).2.1=a:=by
 unfold eZ at h ⊢;split
 . exact⟨rfl,rfl⟩
 split
 . exact⟨rfl,rfl⟩
 . rename_i h1 h2;rw[if_neg h1,if_neg h2]at h;have:=Fp _ _ h;exact⟨this.1,by rw[this.2]; omega⟩
theorem HG {b:List UInt8} {a:Nat} {x:List UInt8} {n:Int} (h:uc b a=(x,n,0)):∃r,b.drop a=dD x++r/\n=((b.length-r.length:Nat):Int):=by
 unfold uc at h;split at h
 . simp only[Prod.mk.injEq]at h; rename_i h1; exact absurd h.2.2 h1
 rename_i h1;rw[Decidable.not_not]at h1;split at h
 . simp at h
 rename_i h2;split at h
 rotate_left
 . simp at h
 rename_i h3;have hb:=pe (s:=b.drop a) (r:=(bQ (b.drop a)).2.1) (v:=(bQ (b.drop a)).1) (by rw[<-h1])
 generalize (bQ (b.drop a)).1=v at *;generalize hr:(bQ (b.drop a)).2.1=r at *;obtain⟨h4,h5,h6⟩:=hb;simp only[Prod.mk.injEq]at h;obtain⟨rfl,rfl,_⟩:=h;have hxl:(r.take v.toNat).length=v.toNat:=by rw[List.length_take]; omega
 refine⟨r.drop (v.toNat+4),?_,?_⟩
 . rw[h6];unfold dD;rw[hxl,show((v.toNat:Nat):Int)=v by omega,h3,List.append_assoc,List.take_append_drop]
 . rw[List.length_drop];have:=congrArg List.length h6;rw[List.length_drop,aD]at this;congr 1; omega
theorem Fq {b:List UInt8} {a:Nat} {x r:List UInt8} (hx:(x.length:Int)<=9223372036854775807) (h:b.drop a=dD x++r):uc b a=(x,((b.length-r.length:Nat):Int),0):=by
 have hn:bQ (b.drop a)=((x.length:Int),jv x++r,0):=by
  rw[h]; unfold dD; rw[List.append_assoc];exact Bf (by omega) hx _
 unfold uc;rw[hn];have hc:=r9 x;have t1:(jv x++r).take x.length=x:=by
  unfold jv; rw[List.append_assoc,List.take_left]
 have t2:(jv x++r).take (x.length+4)=jv x:=by
  rw[<-hc,List.take_left]
 simp only[Int.toNat_natCast,t1,t2];rw[if_neg (by simp),if_neg (by rw[aD,hc]; omega)]
 simp only[if_true,Prod.mk.injEq,and_true,true_and];have:=congrArg List.length h;rw[List.length_drop,aD,gZ]at this;rw[aD,hc];congr 1; omega
theorem zf {b:List UInt8} {a:Nat} {x r:List UInt8} (hx:(x.length:Int)<=9223372036854775807) (h:b.drop a=dD x++r):eZ b (a:Int)=(x,((b.length-r.length:Nat):Int),0):=by
 have:=congrArg List.length h;rw[List.length_drop,aD,gZ]at this;unfold eZ;rw[if_neg (by omega),if_neg (by omega),Int.toNat_natCast]
 exact Fq hx h
theorem wL {b:List UInt8} {a:Int} {x:List UInt8} {n:Int} (h:eZ b a=(x,n,0)):0<=a /\ ∃r,b.drop a.toNat=dD x++r/\n=((b.length-r.length:Nat):Int)/\a<n/\n<=b.length:=by
 unfold eZ at h;split at h
 . simp at h
 split at h
 . simp at h
 rename_i h1 h2;obtain⟨r,hr,hn⟩:=HG h;have:=congrArg List.length hr;rw[List.length_drop,aD,gZ]at this;exact⟨by omega,r,hr,hn,by omega,by omega⟩
theorem DH {b:List UInt8} {a:Int} {x:List UInt8} {n:Int} (m:List UInt8) (hb:(b.length:Int)<=9223372036854775807) (h:eZ b a=(x,n,0)):eZ (b++m) a=(x,n,0):=by
 obtain⟨h0,r,hr,hn,h1,h2⟩:=wL h;obtain⟨k,rfl⟩:∃k:Nat,a=k:=⟨a.toNat,by omega⟩
 rw[Int.toNat_natCast]at hr;have hl:=congrArg List.length hr;rw[List.length_drop,aD,gZ]at hl;have hd:(b++m).drop k=dD x++(r++m):=by
  rw[List.drop_append_of_le_length (by omega),hr,List.append_assoc]
 rw[zf (by omega) hd,hn]
 simp only[aD,Prod.mk.injEq,and_true,true_and];congr 1; omega
structure Sc where
 a:Int
 l:List Tb
 h:List Tb
 x:Int
def F4:Sc:=⟨7,[],[],-1⟩
def fL (x:Int) (e:Evt):Bool :=
 if e.k=2\/e.k=9\/e.k=10 then decide (x<0)else if e.k=7\/e.k=8 then decide (0<=x)&&decide (e.n=x)else decide (0<=x) && !decide (e.k=1)
def cE (s:Sc) (e:Evt) (n:Int):Sc × Int :=
 if e.k=2 then(⟨n,s.l,s.h,e.n⟩,0)
 else if e.k=7 then(⟨n,s.h,s.h,-1⟩,0)
 else if e.k=8 then(⟨n,s.l,s.l,-1⟩,0)
 else if e.k=6 then(if(cZ s.h e.ch.k e.ch.t e.ch.c e.ch.ks e.ch.col).2≠0 then(s,(cZ s.h e.ch.k e.ch.t e.ch.c e.ch.ks e.ch.col).2)else(⟨n,s.l,(cZ s.h e.ch.k e.ch.t e.ch.c e.ch.ks e.ch.col).1,s.x⟩,0))
 else(⟨n,s.l,s.h,s.x⟩,0)
def CI (s:Sc) (w:List UInt8) (n:Int):Evt × Sc × Int :=
 if(kC w s.h).2≠0 then(jB,s,(kC w s.h).2)
 else if fL s.x (kC w s.h).1=false then(jB,s,14)
 else if(cE s (kC w s.h).1 n).2≠0 then(jB,s,(cE s (kC w s.h).1 n).2)
 else((kC w s.h).1,(cE s (kC w s.h).1 n).1,0)
def bT (b:List UInt8) (s:Sc):Evt × Sc × Int :=
 if(eZ b s.a).2.2≠0 then(jB,s,(eZ b s.a).2.2)else CI s (eZ b s.a).1 (eZ b s.a).2.1
structure ry (s:Sc):Prop where
 l:TbsB s.l
 h:TbsB s.h
 c:s.x<0->s.l=s.h
theorem wE {l:List Col} {keys:Int} (h:fC l keys=true):SchOk l keys:=by
 have hb:=dt h;unfold fC at h;rw[Bool.and_eq_true,List.all_eq_true]at h;have hf:∀(i:Nat) c,l[i]? = some c->ai c.n=true/\cy c.k=true/\dQ c.n l 0=(i:Int)/\(keys<=(i:Int)\/c.o=false):=fun i c hc=>by
  have:=h.2 i (List.mem_range.2 (liZ.1 hc).1);rw[hc]at this;simp only[mX,Bool.and_eq_true,decide_eq_true_eq,Bool.not_eq_true', Bool.and_eq_false_iff,decide_eq_false_iff_not,Int.not_lt]at this;exact⟨this.1,this.2.1,this.2.2.1,this.2.2.2⟩
 refine⟨?_,fun d hd=>?_,hb.1,hb.2.1,hb.2.2.1,hb.2.2.2,fun i c hi hc=>?_⟩
 . unfold dx;rw[List.pairwise_map];refine List.pairwise_iff_getElem.2 fun i j hi hj hij e=>?_
   have h1:=(hf i _ (aS hi)).2.2.1;have h2:=(hf j _ (aS hj)).2.2.1;rw[e,h2]at h1;omega
 . obtain⟨i,hi⟩:=List.mem_iff_getElem?.1 hd;have:=hf i d hi;exact⟨this.1,this.2.1⟩
 . rcases(hf i c hc).2.2.2 with h1 | h1
   . omega
   . exact h1
theorem HF {l:List Tb} {i:Nat} {x:Tb} {C:List Col} {K:Int} (h:l[i]? = some x):my (l.set i ⟨x.n,C,K⟩)=my l:=by
 unfold my;rw[List.map_set];refine List.ext_getElem? fun j=>?_
 rw[List.getElem?_set];split
 . rename_i e; subst e;rw[List.getElem?_map,h,List.length_map];rw[if_pos (liZ.1 h).1];rfl
 . rfl
theorem qO {l:List Tb} {k:Int} {t:List UInt8} {cs:List Col} {ks:Int} {c:Col} (hl:TbsB l) (h:(cZ l k t cs ks c).2=0):TbsB (cZ l k t cs ks c).1:=by
 unfold cZ at h ⊢;by_cases h1:k=1
 . rw[if_pos h1]at h ⊢;split at h
   . simp at h
   rename_i c1;split at h
   . simp at h
   rename_i c2;split at h
   . simp at h
   rename_i c3;split at h
   . simp at h
   rename_i c4;rw[if_neg c1,if_neg c2,if_neg c3,if_neg c4];have hn:dP l t=none:=by
    cases ha:dP l t with
    | none=>rfl
    | some j=>rw[ha]at c2; simp at c2
   exact⟨Ho hl.ok ⟨by simpa using c1,by simpa using c3⟩ hn,by show(kU l _).length<=64; rw[sH]; omega⟩
 rw[if_neg h1]at h ⊢;cases ha:dP l t with
 | none=>rw[ha]at h; simp at h
 | some i =>
  rw[ha]at h;simp only at h ⊢;by_cases h2:k=2
  . rw[if_pos h2]at h ⊢;refine⟨⟨?_,fun x hx=>hl.ok.each x (List.mem_of_mem_eraseIdx hx)⟩,?_⟩
    . have hs:=hl.ok.sorted;unfold eQ fq at hs ⊢;refine List.Pairwise.sublist ?_ hs;unfold my;exact(List.eraseIdx_sublist l i).map _
    . have:=hl.few;have h3:=List.length_eraseIdx_le (l:=l) (i:=i);simp only; omega
  rw[if_neg h2]at h ⊢;obtain⟨x,hx,hxn,hi⟩:=bY ha;rw[hx]at h;simp only[hx]at h ⊢;split at h
  . rename_i c1; exact absurd h c1
  rename_i c1;rw[if_neg c1];rw[Decidable.not_not]at c1;have hox:=hl.ok.each x (List.mem_of_getElem? hx);have hap:=(x7 (wE hox.sch) c1).may;refine⟨⟨?_,fun y hy=>?_⟩,by have:=hl.few; simp only[List.length_set]; omega⟩
  . unfold eQ;rw[HF hx];exact hl.ok.sorted
  . rcases List.mem_or_eq_of_mem_set hy with h3 | h3
    . exact hl.ok.each y h3
    . subst h3; exact⟨hox.name,hap⟩
theorem zK {b:List UInt8} {s:Sc} (h:(bT b s).2.2=0):∃w n,eZ b s.a=(w,n,0)/\(kC w s.h).2=0/\fL s.x (kC w s.h).1=true/\(cE s (kC w s.h).1 n).2=0/\bT b s=((kC w s.h).1,(cE s (kC w s.h).1 n).1,0):=by
 unfold bT at h ⊢;split at h
 . rename_i h1; exact absurd h h1
 rename_i h1;rw[if_neg h1];rw[Decidable.not_not]at h1;refine⟨(eZ b s.a).1,(eZ b s.a).2.1,by rw[<-h1],?_⟩
 generalize (eZ b s.a).1=w at *;generalize (eZ b s.a).2.1=n at *;unfold CI at h ⊢;split at h
 . rename_i h2; exact absurd h h2
 rename_i h2;rw[if_neg h2];rw[Decidable.not_not]at h2;split at h
 . simp at h
 rename_i h3;rw[if_neg h3];split at h
 . rename_i h4; exact absurd h h4
 rename_i h4;rw[if_neg h4];rw[Decidable.not_not]at h4;exact⟨h2,by simpa using h3,h4,rfl⟩
theorem Gi {s:Sc} {e:Evt} {n:Int} (hs:ry s) (hm:fL s.x e=true) (h:(cE s e n).2=0):ry (cE s e n).1/\(cE s e n).1.a=n:=by
 unfold cE at h ⊢;unfold fL at hm;split
 . rename_i h2;rw[if_pos (.inl h2),decide_eq_true_eq]at hm;exact⟨⟨hs.l,hs.h,fun _=>hs.c hm⟩,rfl⟩
 split
 . exact⟨⟨hs.h,hs.h,fun _=>rfl⟩,rfl⟩
 split
 . exact⟨⟨hs.l,hs.l,fun _=>rfl⟩,rfl⟩
 split
 . rename_i h2 h7 h8 h6;rw[if_neg h2,if_neg h7,if_neg h8,if_pos h6]at h;rw[if_neg (by omega),if_neg (by omega),Bool.and_eq_true,decide_eq_true_eq]at hm
   split at h
   . rename_i c1; exact absurd h c1
   rename_i c1;rw[if_neg c1];rw[Decidable.not_not]at c1;exact⟨⟨hs.l,qO hs.h c1,fun hx=>by have:=hm.1; simp only at hx; omega⟩,rfl⟩
 . exact⟨⟨hs.l,hs.h,hs.c⟩,rfl⟩
theorem jT {b:List UInt8} {s:Sc} (hs:ry s) (h:(bT b s).2.2=0):ry (bT b s).2.1/\s.a<(bT b s).2.1.a/\(bT b s).2.1.a<=(b.length:Int):=by
 obtain⟨w,n,h1,h2,h3,h4,h5⟩:=zK h;obtain⟨g0,r,g1,g2,g3,g4⟩:=wL h1;obtain⟨k1,k2⟩:=Gi hs h3 h4;rw[h5];exact⟨k1,by simp only[k2]; omega,by simp only[k2]; omega⟩
theorem Bv {b:List UInt8} {s:Sc} (m:List UInt8) (hb:(b.length:Int)<=9223372036854775807) (h:(bT b s).2.2=0):bT (b++m) s=bT b s:=by
 obtain⟨w,n,h1,h2,h3,h4,h5⟩:=zK h;have h6:=DH m hb h1;unfold bT;rw[h1,h6]
inductive Run (b:List UInt8):Sc->List Evt->Sc->Prop
 | nil (s:Sc):Run b s [] s
 | cons {s s2:Sc} {es:List Evt} (h:(bT b s).2.2=0) (t:Run b (bT b s).2.1 es s2):Run b s ((bT b s).1::es) s2
theorem Run.snoc {b:List UInt8} {s s2:Sc} {es:List Evt} (h:Run b s es s2) (h2:(bT b s2).2.2=0):Run b s (es ++ [(bT b s2).1]) (bT b s2).2.1:=by
 induction h with
 | nil s=>exact .cons h2 (.nil _)
 | cons h t ih=>exact .cons h (ih h2)
theorem Run.more {b:List UInt8} {s s2:Sc} {es:List Evt} (m:List UInt8) (hb:(b.length:Int)<=9223372036854775807) (h:Run b s es s2):Run (b++m) s es s2:=by
 induction h with
 | nil s=>exact .nil s
 | cons h t ih =>
  have e:=Bv m hb h;have:=Run.cons (b:=b++m) (by rw[e]; exact h) (by rw[e]; exact ih)
  rw[e]at this;exact this
theorem Run.ok {b:List UInt8} {s s2:Sc} {es:List Evt} (h:Run b s es s2) (hs:ry s):ry s2/\s.a+(es.length:Int)<=s2.a:=by
 induction h with
 | nil s=>exact⟨hs,by simp⟩
 | cons h t ih =>
  obtain⟨h1,h2,h3⟩:=jT hs h;obtain⟨h4,h5⟩:=ih h1;exact⟨h4,by simp only[List.length_cons]; omega⟩
def oH (b:List UInt8):Nat->Sc->List Evt × Sc × Int
 | 0,s=>([],s,0)
 | f+1,s=>if(bT b s).2.2≠0 then([],s,(bT b s).2.2)else((bT b s).1::(oH b f (bT b s).2.1).1,(oH b f (bT b s).2.1).2)
theorem zV {b:List UInt8}:∀(f:Nat) {s:Sc},ry s->(b.length:Int)-s.a<(f:Int)->0<=s.a->s.a<=(b.length:Int)->Run b s (oH b f s).1 (oH b f s).2.1/\(bT b (oH b f s).2.1).2.2≠0/\(oH b f s).2.2=(bT b (oH b f s).2.1).2.2
 | 0,s,hs,hf,h0,h1=>by simp at hf; omega
 | f+1,s,hs,hf,h0,h1=>by
  rw[oH];by_cases h:(bT b s).2.2=0
  . rw[if_neg (by simpa using h)]
    obtain⟨g1,g2,g3⟩:=jT hs h;obtain⟨k1,k2,k3⟩:=zV f g1 (by omega) (by omega) g3
    exact⟨.cons h k1,k2,k3⟩
  . rw[if_pos h];exact⟨.nil _,h,rfl⟩
theorem Run.uniq {b:List UInt8} {s s1 s2:Sc} {es fs:List Evt} (h:Run b s es s1) (g:Run b s fs s2) (he:(bT b s1).2.2≠0) (hg:(bT b s2).2.2≠0):es=fs/\s1=s2:=by
 induction h generalizing fs s2 with
 | nil s =>
  cases g with
  | nil=>exact⟨rfl,rfl⟩
  | cons h t=>exact absurd h he
 | cons h t ih =>
  cases g with
  | nil=>exact absurd h hg
  | cons h' t' =>
   obtain⟨e1,e2⟩:=ih t' he hg;exact⟨by rw[e1],e2⟩
def mP:Evt:=⟨1,1,[],[],[],br⟩
def wk (b:List UInt8):List Evt × Int × Int :=
 if b.length<7\/b.take 7≠start then([],0,2)
 else(mP::(oH b (b.length+1) F4).1,(oH b (b.length+1) F4).2.1.a,
  if(oH b (b.length+1) F4).2.2=7/\(oH b (b.length+1) F4).2.1.a=(b.length:Int)/\0<=(oH b (b.length+1) F4).2.1.x then 4 else(oH b (b.length+1) F4).2.2)
theorem lI:TbsB []:=⟨⟨List.Pairwise.nil,fun t h=>(by cases h)⟩,by decide⟩
theorem w6:ry F4:=⟨lI,lI,fun _=>rfl⟩
end
section
variable {Q:V->List O->Prop}
theorem m8 {b body:List UInt8} {f g:Bool} (hb:b.length<=899999980) (ho:body.length<=900000000) (hs:b.length+body.length<=999999970) (h:Q (.ms 1 0 0 (b++dD body).length false) [.buf (bs (b++dD body))]) :
 ACall Tryz.prog 48 0 [.sl 1 (bs b) f,.sl 1 (bs body) g] [] Q:=by
 refine ad Tryz.func48 0 rfl (aA rfl) ?_;have hlo:=al body
 conv=>whnf
 rw[hlo];refine .call [] 0 ⟨rfl,rfl,rfl⟩ (j7 (n:=(body.length:Int)) (by omega) (by omega) (by omega) ?_)
 have hnl:=jN (body.length:Int);have hbl:(b++d7 (body.length:Int)).length<=b.length+10:=by rw[aD]; omega
 unfold dD at h;rw[<-List.append_assoc]at h;generalize b++d7 (body.length:Int)=B at *;have hlB:=al B
 conv=>whnf
 refine .call [0] 1 ⟨rfl,rfl,rfl⟩ (ACall.eat hlB.symm rfl (z7 (b:=B) (own:=body) (by omega) (by omega) (by omega) ?_))
 generalize B++jv body=C at *
 conv=>whnf
 exact⟨[1],rfl,h⟩
theorem EQ:VSub (.agg [fI 1,fI 1,.str [],.nils,.nils,fI 0,.str [],.nils,fI 0,.str [],fI 0,.bool false]) (tZ mP) :=
 .agg (.cons (.refl _) (.cons (.refl _) (.cons (.refl _) (.cons (au false) (.cons (au false) (.cons (.refl _) (.cons (.refl _) (.cons (au false) (VSubs.refl _)))))))))
theorem Hf (l:List Tb):MayI l mP:=.num 1 1 rfl (by decide)
theorem z6 (h:Q (.ms 1 0 0 start.length false) [.buf (bs start)]):ACall Tryz.prog 28 0 [] [] Q:=by
 refine ad Tryz.func28 0 rfl (aA rfl) ?_
 conv=>whnf
 refine .call [] 0 ⟨rfl,rfl,rfl⟩ (ACall.args (.cons EQ (.cons (au false) (VSubs.refl _))) (na (e:=mP) (l:=[]) lI (wl _ _ _) ⟨⟨by decide,by decide⟩,fun v hv=>by simp[mP]at hv,fun v hv=>by simp[mP]at hv⟩ ?_))
 rw[(Hf []).e,if_pos rfl,show cC mP = [1,1] by decide +kernel]
 conv=>whnf
 refine .call [] 0 ⟨rfl,rfl,rfl⟩ (ACall.args (.cons (VSub.nils 1 false) (VSubs.refl _)) (m8 (b:=[]) (body:=[1,1]) (by simp) (by simp) (by simp) ?_))
 rw[List.nil_append,show dD [1,1]=start from rfl]
 generalize start=st at *
 conv=>whnf
 exact⟨[0],rfl,h⟩
theorem Fo {s:List UInt8} (h:(bQ s).2.2=0):∃k,k<=s.length/\(bQ s).2.1=s.drop k:=by
 unfold bQ at h ⊢;split at h
 . rename_i h1;rw[if_pos h1];split at h
   . rename_i h2;rw[if_pos h2];obtain⟨k,g1,g2,g3⟩:=yk 10 0 0 s h1;exact⟨k,g1,g3⟩
   . simp at h
 . rename_i h1; exact absurd h h1
theorem iK (a e:V):VSub (.tup [.nils,a,e]) (.tup [.sl 1 (bs []) false,a,e]):=.tup (.cons (VSub.nils 1 false) (VSubs.refl _))
theorem ng {body:List UInt8} {g:Bool} (ho:body.length<=899999970) (h:Q (.ms 1 0 0 (dD body).length false) [.buf (bs (dD body))]) :
 ACall Tryz.prog 49 0 [.sl 1 (bs body) g] [] Q:=by
 refine ad Tryz.func49 0 rfl (aA rfl) ?_;have hlo:=al body
 conv=>whnf
 rw[hlo];refine .call [] 0 ⟨rfl,rfl,rfl⟩ (jh (n:=(body.length:Int)) (by omega) (by omega) ?_)
 have hnl:=jN (body.length:Int);unfold dD at h;generalize d7 (body.length:Int)=B at *;have hlB:=al B
 conv=>whnf
 refine .call [0] 1 ⟨rfl,rfl,rfl⟩ (ACall.eat hlB.symm rfl (pK (b:=B) (own:=body) (by omega) (by omega) (by omega) ?_))
 generalize B++jv body=C at *
 conv=>whnf
 exact⟨[1],rfl,h⟩
theorem rm (h:Q (.ms 1 0 0 start.length false) [.buf (bs start)]):ACall Tryz.prog 29 0 [] [] Q:=by
 refine ad Tryz.func29 0 rfl (aA rfl) ?_
 conv=>whnf
 refine .call [0] 1 ⟨rfl,rfl,rfl⟩ (ACall.eat (es:=bs [1,1]) (full:=true) rfl rfl (ng (body:=[1,1]) (by simp) ?_))
 rw[show dD [1,1]=start from rfl]
 generalize start=st at *
 conv=>whnf
 exact⟨[1],rfl,h⟩
theorem xC {b:List UInt8} {f:Bool} {a:Int} (hb:b.length<=900000000) (h:Q (.tup [.sl 1 (bs (eZ b a).1) false,fI (eZ b a).2.1,fI (eZ b a).2.2]) []):ACall Tryz.prog 73 0 [.sl 1 (bs b) f,fI a] [] Q:=by
 refine ACall.ret (ad Tryz.func73 0 rfl (aA rfl) ?_);have hlb:=al b;unfold eZ at h
 conv=>whnf
 refine ac (fun c1=>?_) (fun c1=>?_)<;>try rw[c1]<;>conv=>whnf
 . have c1' := aB c1;rw[if_pos (.inl c1')]at h;exact⟨[],rfl,.sub _ _ (iK _ _) (HSub.refl _) (.done [] rfl h)⟩
 have c1' := aG c1;refine ac (fun c2=>?_) (fun c2=>?_)<;>try rw[c2]<;>conv=>whnf
 . have c2' := aB c2;rw[if_pos (.inr (by omega))]at h
   exact⟨[],rfl,.sub _ _ (iK _ _) (HSub.refl _) (.done [] rfl h)⟩
 have c2' := aG c2;rw[if_neg (by omega)]at h
 refine ac (fun c3=>?_) (fun c3=>?_)<;>try rw[c3]<;>conv=>whnf
 . have c3' := aB c3;rw[if_pos (by omega)]at h
   exact⟨[],rfl,.sub _ _ (iK _ _) (HSub.refl _) (.done [] rfl h)⟩
 have c3' := aG c3;rw[if_neg (by omega)]at h
 obtain⟨k,rfl⟩:∃k:Nat,a=k:=⟨a.toNat,by omega⟩
 rw[Int.toNat_natCast]at h;refine⟨⟨by omega,by omega⟩,?_⟩
 rw[BX,Int.toNat_natCast]
 conv=>whnf
 refine .call [0] 1 ⟨rfl,rfl,rfl⟩ (j3 ?_);rw[show iN (b.drop k) 0=bQ (b.drop k)from if_pos rfl]
 unfold uc at h;have hsuf:=fun h=>Fo (s:=b.drop k) h
 have hnn:=lA (b.drop k);have hnm:=Cn (b.drop k);generalize (bQ (b.drop k)).2.2=e at *;generalize (bQ (b.drop k)).2.1=r at *;generalize (bQ (b.drop k)).1=n at *;have hlr:=al r
 conv=>whnf
 refine ac (fun c4=>?_) (fun c4=>?_)<;>try rw[c4]<;>conv=>whnf
 . have c4' : e≠0:=by simpa using c4
   rw[if_pos c4']at h;refine⟨List.range 8,by kernel_rfl,by kernel_rfl,?_⟩
   repeat (conv=>whnf
           refine⟨rfl,?_⟩)
   conv=>whnf
   exact⟨[],rfl,.sub _ _ (iK _ _) (HSub.refl _) (.done [] rfl h)⟩
 have c4' : e=0:=by simpa using c4
 rw[if_neg (by simpa using c4')]at h
 obtain⟨j,hj,hrd⟩:=hsuf c4';rw[List.length_drop]at hj;have hrl:r.length=b.length-k-j:=by rw[hrd,List.length_drop,List.length_drop]
 obtain⟨m,rfl⟩:∃m:Nat,n=m:=⟨n.toNat,by omega⟩
 rw[Int.toNat_natCast]at h;refine ac (fun c5=>?_) (fun c5=>?_)<;>try rw[c5]<;>conv=>whnf
 . have c5' := aB c5;rw[if_pos (by omega)]at h
   exact⟨[],rfl,.sub _ _ (iK _ _) (HSub.refl _) (.done [] rfl h)⟩
 have c5' := aG c5;have e4:IntKind.i64.wrap ((m:Int)+4)=((m+4:Nat):Int):=by rw[bw (by omega)]; omega
 rw[e4];refine ac (fun c6=>?_) (fun c6=>?_)<;>try rw[c6]<;>conv=>whnf
 . have c6' := aB c6;rw[if_pos (by omega)]at h
   exact⟨[],rfl,.sub _ _ (iK _ _) (HSub.refl _) (.done [] rfl h)⟩
 have c6' := aG c6;rw[if_neg (by omega)]at h
 rw[e4];refine⟨⟨by omega,by omega⟩,?_⟩
 rw[Int.toNat_natCast,nD]
 conv=>whnf
 refine .pure (vv (b:=r.take (m+4)) (by rw[List.length_take]; omega) ⟨rfl,?_⟩)
 unfold K8;have htl:(r.take (m+4)).length=m+4:=by rw[List.length_take]; omega
 have htt:(r.take (m+4)).take (m+4-4)=r.take m:=by rw[List.take_take]; congr 1; omega
 rw[if_neg (by omega),htl,htt]
 by_cases hc:jv (r.take m)=r.take (m+4)
 . rw[if_pos hc]at h ⊢
   conv=>whnf
   have e2:IntKind.i64.wrap (IntKind.i64.wrap (IntKind.i64.wrap (((bs b).length:Int)-((bs r).length:Int))+(m:Int))+4)=((b.length-r.length+m+4:Nat):Int):=by
    rw[bw (n:=((bs b).length:Int)-((bs r).length:Int)) (by omega),bw (n:=((bs b).length:Int)-((bs r).length:Int)+(m:Int)) (by omega),bw (by omega)]; omega
   rw[e2];exact⟨[],rfl,.done [] rfl h⟩
 . rw[if_neg hc]at h ⊢
   conv=>whnf
   exact⟨[],rfl,.sub _ _ (iK _ _) (HSub.refl _) (.done [] rfl h)⟩
end
section
variable [Globs]
def dz (l:List Evt):List (List V):=l.map zW
theorem f8 (l:List Evt):(dz l).length=l.length:=by simp[dz]
theorem lW {l:List Evt} {i:Nat} {e:Evt} (h:l[i]? = some e):(dz l)[i]? = some (zW e):=by simp[dz,h]
theorem Cd (a b:List Evt):dz (a++b)=dz a++dz b:=by simp[dz]
theorem VSub.eq {a b:V} (e:a=b):VSub a b:=by subst e; exact .refl _
theorem VSub.slRows {z:Nat} {es es' : List (List V)} {f:Bool} (hl:es.length=es'.length) (h:∀(i:Nat) e e', es[i]? = some e->es'[i]? = some e'->VSubs e e'):VSub (.sl z es f) (.sl z es' f):=fun I ρ u hr=>by
 have hex:∀i e', es'[i]? = some e' -> ∃e,es[i]? = some e/\VSubs e e' := fun i e' he' => by
  have hi:=(liZ.1 he').1;exact⟨es[i],aS (by omega),h i _ _ (aS (by omega)) he'⟩
 have hc:∀(i:Nat) e' (j:Nat) c', es'[i]? = some e'->e'[j]? = some c' -> ∃e c,es[i]? = some e/\e[j]? = some c/\VSub c c' := fun i e' j c' he' hc' => by
  obtain⟨e,he,hv⟩:=hex i e' he';have hj:=(liZ.1 hc').1;have hj' : j<e.length:=by rw[hv.1]; exact hj
  exact⟨e,e[j],he,aS hj', hv.2 j _ _ (aS hj') hc'⟩
 cases hr with
 | sl _ _ _ _ b base cap u h1 h2 h3 h4 h5 h6 =>
  rw[hl]at h1 h2 ⊢;refine .sl _ _ _ _ _ _ _ u h1 h2 (fun i e' he' => ?_) (fun i e' j c' he' hc' => ?_) (fun i e' j c' he' hc' => ?_) (fun i e' j c' he' hc' => ?_)
  . obtain⟨e,he,hv⟩:=hex i e' he';rw[<-hv.1]; exact h3 i e he
  . obtain⟨e,c,he,hc1,_⟩:=hc i e' j c' he' hc';exact h4 i e j c he hc1
  . obtain⟨e,c,he,hc1,_⟩:=hc i e' j c' he' hc';exact h5 i e j c he hc1
  . obtain⟨e,c,he,hc1,hv⟩:=hc i e' j c' he' hc';exact hv _ _ _ (h6 i e j c he hc1)
 | slnil =>
  have:es' = []:=List.length_eq_zero_iff.1 (by rw[<-hl]; rfl)
  subst this;exact .slnil _ _ _ _
end
section
variable {Q:V->List O->Prop}
abbrev vh (t:Tr Rw) (n:Int):V:=.ip [.im (cY fR t),.int .i64 n] 0
theorem rf {t:Tr Rw} {n:Int} {key:List UInt8} (h:Q (.fn (.func 105) [] [.ptr 0 0,.ptr 1 0]) [.cells [vh t n],.cells [.str key]]) :
 ACall Tryz.prog 62 0 [vh t n,.str key] [] Q:=by
 refine ad Tryz.func62 0 rfl (aA rfl) ?_
 conv=>whnf
 exact⟨[0,1],rfl,h⟩
theorem pF {t:Tr Rw} {n:Int} {key:List UInt8} {J:List (List V)->List O->Prop} {S J' : List O->Prop} {ks:List Pl} (hy:vI Tryz.prog ks J S (cM fR (bE key t))) {B:List Nat} (hJ:∀Hs,J (cM fR (bE key t)) Hs->J' Hs) (hS:∀Hs,S Hs->J' Hs)
 (h:∀B', Q (.tup []) [.res (cu J' ks B') B', .cells [vh t n],.cells [.str key]]) :
 ACall Tryz.prog 105 3 [.yld 0,.ptr 1 0,.ptr 2 0] [.res (cu (J []) ks B) B,.cells [vh t n],.cells [.str key]] Q:=by
 refine ACall.sub (ad Tryz.func105 3 rfl (aA rfl) ?_)
 conv=>whnf
 refine⟨[0,1,2,3,4,5,6],by kernel_rfl,by kernel_rfl,?_⟩
 conv=>whnf
 refine .call [0] 1 ⟨rfl,rfl,rfl⟩ (Dp hy t [] [] B (by simp) (fun B' => ?_) (fun B' => ?_))
 . repeat (refine⟨rfl,?_⟩)
   conv=>whnf
   exact⟨[0,1,2],rfl,_,_,.refl _,.cons (.pk ks B' hJ) (HSub.refl _),h B'⟩
 . repeat (refine⟨rfl,?_⟩)
   conv=>whnf
   exact⟨[0,1,2],rfl,_,_,.refl _,.cons (.pk ks B' hS) (HSub.refl _),h B'⟩
abbrev gF:=List UInt8 × (Tr Rw × Int)
abbrev Gj (a:Tr Rw × Int):V:=vh a.1 a.2
def fO (L:List gF):List (V × V):=eD Gj L
def bP (l:List Tb) (L:List gF) (c:Nat) (log:List UInt8) (n m:Int):List O :=
 [.cells [.sl 3 (tbs l) false,.map 1,.sl 1 (bs log) false,fI n,fI m],.pmap (fO L) c]
theorem un (h:Q (.ptr 0 0) (bP [] [] 0 start 0 0)):ACall Tryz.prog 9 0 [] [] Q:=by
 refine ACall.ret (ad Tryz.func9 0 rfl (aA rfl) ?_)
 conv=>whnf
 refine .call [] 0 ⟨rfl,rfl,rfl⟩ (z6 ?_);generalize start=st at *
 conv=>whnf
 have hls:=al st;have hT:List.take st.length (List.drop 0 (bs st))=bs st:=by rw[List.drop_zero,<-hls,List.take_length]
 refine⟨[2,0,1],rfl,.frz 2 rfl (by repeat (first | exact trivial | refine And.intro (by omega) ?_)) (.sub (.ptr 0 0) [.cells [.sl 3 (tbs []) false,.map 1,.sl 1 (bs st) false,fI 0,fI 0],.pmap [] 0,.dead] (.refl _) ?_ (.done [0,1] rfl h))⟩
 show HSub [.cells [.nils,.map 1,.sl 1 (List.take st.length (List.drop 0 (bs st))) false,fI 0,fI 0],.map [] 0,.dead] [.cells [.sl 3 (tbs []) false,.map 1,.sl 1 (bs st) false,fI 0,fI 0],.pmap [] 0,.dead]
 exact .cons (.cells (.cons (au false) (.cons (.refl _) (.cons (VSub.eq (congrArg (fun z=>V.sl 1 z false) hT)) (VSubs.refl _))))) (.cons (.pmap0 0) (HSub.refl _))
theorem JY (c:Col) (v:Val) (h:ei v.n):ei (kG c v).n:=by
 unfold kG;split
 . exact jJ
 unfold iI;split
 . show ei (if _ then 0 else 1)
   split
   . exact jJ
   . exact⟨by decide,by decide⟩
 split
 . exact h
 split
 . exact jJ
 split
 . exact jJ
 . exact jJ
theorem FX {C:List Col} {vs:List Val} (h:∀v∈vs,ei v.n):∀v∈fN C vs,ei v.n:=fun v hv=>by
 obtain⟨i,hi⟩:=List.mem_iff_getElem?.1 hv;have hlt:=(liZ.1 hi).1;rw[oz]at hlt;rw[zx C vs (aS hlt)]at hi;cases hi;refine JY _ _ ?_;rw[List.getD_eq_getElem?_getD];cases hq:vs[i]? with
 | none=>exact jJ
 | some x=>exact h x (List.mem_of_getElem? hq)
theorem Le (k n:Int) (t:List UInt8) (h:ei n):gl ⟨k,n,t,[],[],br⟩:=⟨h,fun v hv=>by simp at hv,fun v hv=>by simp at hv⟩
theorem ER (k n:Int) (c:Chg) (h:ei n):gl ⟨k,n,[],[],[],c⟩:=⟨h,fun v hv=>by simp at hv,fun v hv=>by simp at hv⟩
theorem Ew {c:Chg} (h:ChgI c):(cS c).length<=100000:=by
 have hb:=h.b;have ht:=dd c.t;have h1:=hb.t;have h2:=hb.few;have h3:=AM hb.names;have h4:=nF hb.col;have h5:=dd c.col.n;have h6:=hb.col;have hc16:c.c.length<=16:=by
  cases h with
  | cre t cc ks g1 g2=>exact(dt g2).2.2.2
  | drop t g1=>simp
  | add k t col g1 gk g2=>simp
  | cut t n g1 g2=>simp
 unfold cS;rw[List.length_cons,aD];split
 . simp only[List.length_cons]; omega
 split
 . omega
 split
 . omega
 . simp only[List.length_nil]; omega
theorem qM {e:Evt} {l:List Tb} (hl:TbsB l) (h:MayI l e) (hn:gl e):(cC e).length<=1000000:=by
 have hm:=h.e;by_cases hr:gB e.k=true
 . obtain⟨ht,C,k,hf,h5,h3⟩:=A0 hl hn hm hr;have hrk:=qZ hr;have htl:=dd e.t;unfold cC;rw[if_neg (by omega)]
   by_cases k5:e.k=5
   . obtain⟨_,_,hb⟩:=h5 k5;have:=oB hb;rw[if_pos k5,List.length_cons,aD]; omega
   . obtain⟨_,hb⟩:=h3 k5;have:=oB hb;rw[if_neg k5,if_pos (by omega),List.length_cons,aD]; omega
 . have hr' := zw (by simpa using hr)
   unfold cC;by_cases k6:e.k=6
   . rw[if_pos k6,List.length_cons];cases h with
     | ins k t a C K hk hf hfit=>simp only at k6; omega
     | del t b C K hf hfit hlen=>simp only at k6; omega
     | alt c hc=>have:=Ew hc; simp only; omega
     | num k n hk hn=>have:=kA hk; simp only at k6; omega
   . rw[if_neg k6,if_neg (by omega),if_neg (by omega),List.length_cons]
     have:=ze e.n;omega
def aR (b:List UInt8) (l:List Evt):List UInt8:=l.foldl (fun b e=>b++dD (cC e)) b
theorem kI (b:List UInt8) (l:List Evt) (e:Evt):aR b (l ++ [e])=aR b l++dD (cC e):=by unfold aR; rw[List.foldl_append]; rfl
theorem vg (b:List UInt8) (l m:List Evt):aR b (l++m)=aR (aR b l) m:=by unfold aR; rw[List.foldl_append]
theorem cW {l:List Tb} (hl:TbsB l):∀(es:List Evt) (b:List UInt8),(∀e∈es,cm e l=0/\gl e)->(aR b es).length<=b.length+1000020*es.length
 | [],b,_=>by simp[aR]
 | e::es,b,h=>by
  have h1:=h e (by simp)
  have hw:=qM hl (dF h1.1) h1.2;have hf:=gZ (cC e);have hn:=jN ((cC e).length:Int);have ih:=cW hl es (b++dD (cC e)) fun x hx=>h x (by simp[hx])
  rw[aD]at ih;show(aR (b++dD (cC e)) es).length<=_
  simp only[List.length_cons];omega
theorem ix {l:List Tb} {L:List gF} {c:Nat} {log:List UInt8} {n m:Int} {es:List Evt} {f:Bool} (hl:TbsB l) (he:∀e∈es,cm e l=0/\gl e/\oI e) (hs:log.length+1000020*es.length<=800000000)
 (h:Q (.tup []) (bP l L c (aR log es) n m)):ACall Tryz.prog 59 2 [.ptr 0 0,.sl 12 (dz es) f] (bP l L c log n m) Q:=by
 refine ad Tryz.func59 2 rfl (aA rfl) ?_;have hel:=f8 es
 conv=>whnf
 refine⟨⟨[0,8,9,10],fun mm ws H=>∃i:Nat,ws = [.ptr 0 0,.sl 12 (dz es) f,fI (dz es).length,fI i]/\H=bP l L c (aR log (es.take i)) n m/\i<=es.length/\mm=es.length-i,.at es.length ⟨0,rfl,rfl,by omega,rfl⟩,?_⟩⟩
 rintro mm ws H ⟨i,rfl,rfl,hi,rfl⟩
 conv=>whnf
 refine ac (fun c1=>?_) (fun c1=>?_)<;>try rw[c1]<;>conv=>whnf
 rotate_left
 . have c1' := aG c1;rw[List.take_of_length_le (by omega)]
   exact⟨[0,1],rfl,h⟩
 have c1' := aB c1;have hil:i<es.length:=by omega
 have hg:es[i]? = some es[i]:=aS hil;have hme:=he es[i] (List.getElem_mem hil);have htl:=cW hl (es.take i) log fun e h=>⟨(he e (List.mem_of_mem_take h)).1,(he e (List.mem_of_mem_take h)).2.1⟩
 rw[List.length_take]at htl;have hsn:aR log (es.take (i+1))=aR log (es.take i)++dD (cC es[i]):=by rw[List.take_add_one,hg]; exact kI _ _ _
 generalize es[i]=e at *;generalize aR log (es.take i)=b at *;have hlb:=al b;refine⟨_,⟨by omega,lW hg⟩,?_⟩
 conv=>whnf
 refine⟨List.range 11,by kernel_rfl,by kernel_rfl,?_⟩
 conv=>whnf
 have hwl:=qM hl (dF hme.1) hme.2.1;refine .pure (na hl hme.2.2 hme.2.1 ⟨rfl,?_⟩);rw[if_pos hme.1];generalize cC e=W at *
 repeat (conv=>whnf
         refine⟨rfl,?_⟩)
 conv=>whnf
 refine .call [] 0 ⟨rfl,rfl,rfl⟩ (m8 (b:=b) (body:=W) (by omega) (by omega) (by omega) ?_)
 have hB:(bs (b++dD W)).length=(b++dD W).length:=al _;have hT:List.take (b++dD W).length (List.drop 0 (bs (b++dD W)))=bs (b++dD W):=by rw[List.drop_zero,<-hB,List.take_length]
 conv=>whnf
 refine .frz 3 rfl (by repeat (first | exact trivial | refine And.intro (by omega) ?_)) (.sub [.ptr 0 0,.sl 12 (dz es) f,fI (dz es).length,.int .i64 (IntKind.i64.wrap ((i:Int)+1))] [.cells [.sl 3 (tbs l) false,.map 1,.sl 1 (bs (b++dD W)) false,fI n,fI m],.pmap (fO L) c,.dead,.dead] (VSubs.refl _) ?_ (.go [0,1] rfl (es.length-(i+1)) (by omega) ⟨i+1,?_,?_,by omega,rfl⟩))
 . exact .cons (.cells (.cons (.refl _) (.cons (.refl _) (.cons (VSub.eq (congrArg (fun z=>V.sl 1 z false) hT)) (VSubs.refl _))))) (.cons (.refl _) (.cons (.dead _) (HSub.refl _)))
 . show [V.ptr 0 0,.sl 12 (dz es) f,fI (dz es).length,.int .i64 (IntKind.i64.wrap ((i:Int)+1))]=_
   rw[bw (by omega)]; rfl
 . rw[hsn]; rfl
theorem rv {l:List Tb} {L:List gF} {c:Nat} {log:List UInt8} {n m:Int} (h:Q (fI m) (bP l L c log n m)):ACall Tryz.prog 17 2 [.ptr 0 0] (bP l L c log n m) Q:=by
 refine ad Tryz.func17 2 rfl (aA rfl) ?_
 conv=>whnf
 exact⟨[0,1],rfl,h⟩
theorem Ao {l:List Tb} {L:List gF} {c:Nat} {log:List UInt8} {n m:Int} (h:Q (fI log.length) (bP l L c log n m)):ACall Tryz.prog 18 2 [.ptr 0 0] (bP l L c log n m) Q:=by
 refine ad Tryz.func18 2 rfl (aA rfl) ?_;rw[<-al log]at h
 conv=>whnf
 exact⟨[0,1],rfl,h⟩
theorem CS {l:List Tb} {L:List gF} {c:Nat} {log:List UInt8} {n m:Int} (hb:log.length<=1000000000) (h:Q (.sl 1 (bs log) false) (bP l L c log n m)):ACall Tryz.prog 24 2 [.ptr 0 0] (bP l L c log n m) Q:=by
 refine ad Tryz.func24 2 rfl (aA rfl) ?_
 conv=>whnf
 refine .pure (xq (l:=log) hb ⟨rfl,?_⟩)
 conv=>whnf
 exact⟨[0,1],rfl,h⟩
def bh (k n:Int):Evt:=⟨k,n,[],[],[],br⟩
theorem bA {k n:Int} {l:List Tb} (hk:mg k=true) (hn:0<=n):cm (bh k n) l=0:=(MayI.num k n hk hn).e
theorem du {k n:Int} (h:ei n):gl (bh k n):=Le _ _ _ h
def mr (k n:Int):List V:=[fI k,fI n,.str [],.nils,.nils,fI 0,.str [],.nils,fI 0,.str [],fI 0,.bool false]
theorem Bd (k n:Int):VSubs (mr k n) (zW (bh k n)):=.cons (.refl _) (.cons (.refl _) (.cons (.refl _) (.cons (au false) (.cons (au false) (.cons (.refl _) (.cons (.refl _) (.cons (au false) (VSubs.refl _))))))))
theorem wF (k n:Int) (f:Bool):VSub (.sl 12 [mr k n] f) (.sl 12 (dz [bh k n]) f):=VSub.slRows rfl fun i e e' h1 h2=>by
 match i with
 | 0=>cases h1; cases h2; exact Bd k n
 | i+1=>simp at h1
theorem Am {l:List Tb} {L:List gF} {c:Nat} {log:List UInt8} {n m k:Int} {hi:Bool} (hl:TbsB l) (hk:ei k) (hs:log.length+1000020<=800000000)
 (h:Q (fI (if k<0 then 1 else 0)) (bP l L c (if k<0 then log else log++dD (cC (bh (if hi then 10 else 9) k))) n m)):ACall Tryz.prog 35 2 [.ptr 0 0,.bool hi,fI k] (bP l L c log n m) Q:=by
 refine ad Tryz.func35 2 rfl (aA rfl) ?_;cases hi
 all_goals
  conv=>whnf
  refine ac (fun c1=>?_) (fun c1=>?_)<;>try rw[c1]<;>conv=>whnf
  . have c1' := aB c1;rw[if_pos c1', if_pos c1']at h;exact⟨[0,1],rfl,h⟩
  have c1' := aG c1;rw[if_neg c1', if_neg c1']at h;refine ACalls.frz 2 rfl rfl (by repeat (first | exact trivial | refine And.intro (by first | omega | exact Nat.le_refl 1) ?_)) ?_
  first
   | refine ACalls.sub [.ptr 0 0,.sl 12 (dz [bh 9 k]) true] _ rfl (.cons (.refl _) (.cons (wF 9 k true) (VSubs.refl _))) (HSub.refl _) ?_
   | refine ACalls.sub [.ptr 0 0,.sl 12 (dz [bh 10 k]) true] _ rfl (.cons (.refl _) (.cons (wF 10 k true) (VSubs.refl _))) (HSub.refl _) ?_
  refine .call [0,1] 2 ⟨rfl,rfl,rfl⟩ (ix (l:=l) (L:=L) (c:=c) (log:=log) (n:=n) (m:=m) hl (fun e he=>by
   rw[List.mem_singleton.1 he];exact⟨bA rfl (by omega),du hk,wl _ _ _⟩) (by simp; omega) ?_)
  conv=>whnf
  exact⟨[0,1],rfl,h⟩
end
section
structure SS where
 l:List Tb
 R:List (List Rw)
 log:List UInt8
 n:Int
 m:Int
structure Dd where
 k:Int
 t:List UInt8
 r:Rw
def dn (d:Dd):Evt:=if d.k=3 then⟨5,0,d.t,d.r,[],br⟩else⟨2+d.k,0,d.t,[],d.r,br⟩
def eG (t:Tb) (d:Dd):Bool:=if d.k=3 then aP t.c t.k.toNat d.r&&decide ((d.r.length:Int)=t.k)else bB t.c d.r
def kN (t:Tb) (rows:List Rw) (d:Dd):Bool:=cj (ia t d.r) (lX t rows)
def jx (t:Tb) (rows:List Rw) (d:Dd):Int:=if eG t d=false then 9 else if d.k=1 then(if kN t rows d then 8 else 0)else if kN t rows d then 0 else 14
def bn (l:List Tb) (R:List (List Rw)) (d:Dd):Int :=
 if d.k<1\/3<d.k then 5 else match dP l d.t with
  | none=>7
  | some i=>match l[i]? with
   | none=>7
   | some t=>jx t (R.getD i []) d
def wd (l:List Tb) (R:List (List Rw)) (d:Dd):List (List Rw):=match dP l d.t with
 | none=>R
 | some i=>match l[i]? with
  | none=>R
  | some t=>R.set i (jf t.c t.k.toNat (R.getD i []) (dn d))
def gY (l:List Tb) (R:List (List Rw)):List Dd->List (List Rw) × Int
 | []=>(R,0)
 | d::ds=>if bn l R d=0 then gY l (wd l R d) ds else(R,bn l R d)
def oW (s:SS) (ds:List Dd) (undo:Bool):SS × Int :=
 if(gY s.l s.R ds).2=0 then
  ({ s with R:=if undo then s.R else(gY s.l s.R ds).1,log:=aR s.log (bh 2 s.n::(ds.map dn ++ [bh (if undo then 8 else 7) s.n])),n:=s.n+1,m:=if undo then s.m else s.m+1 },0)
 else(s,(gY s.l s.R ds).2)
structure TrOk (t:Tb) (rows:List Rw) (T:Tr Rw) (m:Int) (b:Nat):Prop where
 ok:TOk T m b
 eq:fm T=lX t rows
abbrev Vw:=List UInt8->Option (Tr Rw × Int)
structure RsOk (l:List Tb) (R:List (List Rw)) (vw:Vw) (b:Nat):Prop where
 tbs:TbsB l
 len:R.length=l.length
 rows:∀(i:Nat) t rs,l[i]? = some t->R[i]? = some rs->RowsOk t rs
 tree:∀(i:Nat) t rs,l[i]? = some t->R[i]? = some rs -> ∃T m,vw t.n=some (T,m)/\TrOk t rs T m b
theorem TrOk.mono {t:Tb} {rows:List Rw} {T:Tr Rw} {m:Int} {b b' : Nat} (h:TrOk t rows T m b) (hb:b<=b'):TrOk t rows T m b' := ⟨h.ok.mono hb,h.eq⟩
theorem RsOk.mono {l:List Tb} {R:List (List Rw)} {vw:Vw} {b b' : Nat} (h:RsOk l R vw b) (hb:b<=b'):RsOk l R vw b' :=
 ⟨h.tbs,h.len,h.rows,fun i t rs h1 h2=>let ⟨T,m,h3,h4⟩:=h.tree i t rs h1 h2; ⟨T,m,h3,h4.mono hb⟩⟩
theorem TbsB.tbk {l:List Tb} (h:TbsB l) {t:Tb} (ht:t∈l):TbK t:=by
 have:=dt (h.ok.each t ht).sch;exact⟨this.1,this.2.2.1,this.2.2.2⟩
theorem eR {l:List Tb} (hs:eQ l) {i:Nat} {t:Tb} (h:l[i]? = some t):dP l t.n=some i:=by
 obtain⟨j,h1,h2⟩:=I8 (x:=nw t) hs (List.mem_of_getElem? (gf h));obtain⟨t', h3,h4,_⟩:=bY h1;have e:j=i:=by
  have g1:=gf h3;have g2:=gf h;rcases Nat.lt_trichotomy i j with hij | hij | hij
  . have:=d8 hs hij g2 g1;rw[show(nw t').t=(nw t).t from h4]at this
    exact absurd this (by rw[bf]; decide)
  . exact hij.symm
  . have:=d8 hs hij g1 g2;rw[show(nw t').t=(nw t).t from h4]at this
    exact absurd this (by rw[bf]; decide)
 rw[<-e]; exact h1
theorem sa {l:List Tb} {R:List (List Rw)} {d:Dd} {i:Nat} {t:Tb} (hk:1<=d.k/\d.k<=3) (ha:dP l d.t=some i) (ht:l[i]? = some t):bn l R d=jx t (R.getD i []) d:=by
 unfold bn;rw[if_neg (by omega),ha]
 simp only[ht]
theorem AP {l:List Tb} {R:List (List Rw)} {d:Dd} {i:Nat} {t:Tb} (ha:dP l d.t=some i) (ht:l[i]? = some t):wd l R d=R.set i (jf t.c t.k.toNat (R.getD i []) (dn d)):=by
 unfold wd;rw[ha];simp only[ht]
theorem wc {t:Tb} {d:Dd} (hk:1<=d.k/\d.k<=3) (hn:d.t=t.n) (hf:eG t d=true):Lp t (dn d):=by
 unfold eG at hf;unfold dn;split at hf
 . rename_i h3;rw[if_pos h3];rw[Bool.and_eq_true,decide_eq_true_eq]at hf;exact⟨by simp,by simp,hn,fun h=>absurd rfl h,fun _=>hf⟩
 . rename_i h3;rw[if_neg h3];exact⟨by simp only; omega,by simp only; omega,hn,fun _=>hf,fun h=>by simp only at h; omega⟩
theorem RsOk.turn {l:List Tb} {R:List (List Rw)} {vw vw' : Vw} {b b' : Nat} (h:RsOk l R vw b) (hb:b<=b') {i:Nat} {t:Tb} (ht:l[i]? = some t) {rs:List Rw} {T:Tr Rw} {m:Int} (hr:RowsOk t rs) (hT:TrOk t rs T m b')
 (hv:∀k,vw' k=if k=t.n then some (T,m)else vw k):RsOk l (R.set i rs) vw' b' := by
 have hs:=h.tbs.ok.sorted;refine⟨h.tbs,by rw[List.length_set]; exact h.len,fun j t' rs' h1 h2=>?_,fun j t' rs' h1 h2=>?_⟩
 all_goals by_cases hij:i=j
 . subst hij;rw[ht]at h1; cases h1;rw[List.getElem?_set_self' ]at h2;cases hR:R[i]? with
   | none=>rw[hR]at h2; cases h2
   | some x=>rw[hR]at h2; cases h2; exact hr
 . rw[List.getElem?_set_ne hij]at h2;exact h.rows j t' rs' h1 h2
 . subst hij;rw[ht]at h1; cases h1;rw[List.getElem?_set_self' ]at h2;cases hR:R[i]? with
   | none=>rw[hR]at h2; cases h2
   | some x=>rw[hR]at h2; cases h2; exact⟨T,m,by rw[hv,if_pos rfl],hT⟩
 . rw[List.getElem?_set_ne hij]at h2;obtain⟨T', m', h3,h4⟩:=h.tree j t' rs' h1 h2;refine⟨T', m', ?_,h4.mono hb⟩;rw[hv,if_neg,h3];intro e;have g1:=eR hs h1;have g2:=eR hs ht;rw[e,g2]at g1;exact hij (Option.some.inj g1)
theorem TrOk.putd {t:Tb} {rows:List Rw} {T:Tr Rw} {m:Int} {b:Nat} (h:TrOk t rows T m b) (hb:b<1000000000) (r:Rw) :
 TrOk t (jP t.c t.k.toNat rows r) (iM (ia t r) r T) (if(dE (ia t r) T).isNil then IntKind.i64.wrap (m+1)else m) (b+1):=by
 refine⟨h.ok.put (by omega) _ _,?_⟩
 rw[qS _ _ _ h.ok.srt,h.eq];exact A9 _ _ _ _
theorem TrOk.cutd {t:Tb} {rows:List Rw} {T:Tr Rw} {m:Int} {b:Nat} (h:TrOk t rows T m b) (hb:b<1000000000) (key:List UInt8) :
 TrOk t (lj t.c t.k.toNat rows key) (if(dE key T).isNil then T else kT key T) (if(dE key T).isNil then m else IntKind.i64.wrap (m-1)) b:=by
 refine⟨h.ok.cut (by omega) _,?_⟩
 rw[GW h.ok.srt,h.eq];have hs:aO (lX t rows):=by rw[<-h.eq]; exact h.ok.srt
 exact Fc _ hs
theorem TrOk.has {t:Tb} {rows:List Rw} {T:Tr Rw} {m:Int} {b:Nat} (h:TrOk t rows T m b) (key:List UInt8):(dE key T).isNil = !cj key (lX t rows):=by
 rw[jD key T h.ok.srt,h.eq]
theorem TrOk.fewr {t:Tb} {rows:List Rw} {T:Tr Rw} {m:Int} {b:Nat} (h:TrOk t rows T m b):rows.length<=b:=by
 have:=h.ok.le;rw[h.eq]at this;unfold lX at this;rw[wx]at this;exact this
end
section
variable {Q:V->List O->Prop}
theorem j6 {r:Rw} (hl:r.length<1000000) (h:Q (fR r) []):ACall Tryz.prog 63 0 [.sl 3 (ah r) false] [] Q:=by
 refine ACall.ret (pP hl (.frz 0 rfl (by repeat (first | exact trivial | refine And.intro (Nat.le_of_eq (by rw[aC,Nat.zero_add])) ?_)) (.done [] rfl ?_)))
 show Q (.sl 3 (List.take r.length (ah r)) false) []
 rw[List.take_of_length_le (by rw[aC]; exact Nat.le_refl _)]
 exact h
theorem ww {C:List Col} {k:Nat} {r:Rw} (h:aP C k r=false):pa C k r = .tup [.str [],fI 9]:=by unfold pa; rw[h]; rfl
theorem jK {C:List Col} {k:Nat} {r:Rw} (h:aP C k r=true):pa C k r = .tup [.str (dK C k r),fI 0]:=by unfold pa dK; rw[h]; rfl
theorem EW {t:Tr Rw} (hs:aO (fm t)):bE [] t=fm t:=by
 rw[fe [] t hs];exact List.filter_eq_self.2 fun x _=>Hx _
def C8 (d:Dd):V:=.agg [fI d.k,.str d.t,.sl 3 (ah d.r) false]
def Ky (d:Dd):List V:=[fI d.k,.str d.t,.sl 3 (ah d.r) false]
def ie (l:List Dd):List (List V):=l.map Ky
theorem nJ (l:List Dd):(ie l).length=l.length:=by simp[ie]
theorem qI {l:List Dd} {i:Nat} {d:Dd} (h:l[i]? = some d):(ie l)[i]? = some (Ky d):=by simp[ie,h]
abbrev CT:=List UInt8 × (Nat × (Tr Rw × Int))
abbrev DY (a:Nat × (Tr Rw × Int)):V:=.raw (.pointer (some ⟨a.1,0,none⟩))
def xf (X:List CT):List (Nat × List V):=X.map fun x=>(x.2.1,[.im (cY fR x.2.2.1),.int .i64 x.2.2.2])
def i6 (i:Nat) (es:List Evt):O:=.cells [.ptr 0 0,.map 3,.ms 12 i 0 es.length false]
theorem vS {i j n:Nat} {f:Bool} {X:List (List V)} {w:List V} {H:List O} {K:V->List O->Prop} (hij:Nat.beq i j=false) (hX:ar H i = .buf X) (hn:n=X.length) (hs:X.length<=1000000000)
 (hK:aV (bX H i .dead ++ [.buf (X ++ [w])]) fun H' => K (.ms 12 (bX H i .dead).length 0 (X ++ [w]).length false) H') :
 0+1<=1/\dW 12 (tt 93).bytes (.ms 12 i 0 n false) (.ms 12 j 0 1 f) [w] H K:=by
 subst hn;refine⟨Nat.le_refl 1,?_⟩;unfold dW db;simp only[hij];unfold co;simp only[show Nat.beq 12 12=true from rfl,hX,List.drop_zero]
 refine⟨rfl,?_⟩;unfold bJ;exact⟨by rw[aD,List.length_singleton,show(tt 93).bytes=168 from rfl]; omega,hK⟩
def Jn (k:Int) (t:List UInt8) (r:Rw):List V:=[fI k,fI 0,.str t,.nils,.sl 3 (ah r) false,fI 0,.str [],.nils,fI 0,.str [],fI 0,.bool false]
def KE (t:List UInt8) (r:Rw):List V:=[fI 5,fI 0,.str t,.sl 3 (ah r) false,.nils,fI 0,.str [],.nils,fI 0,.str [],fI 0,.bool false]
theorem yx (k:Int) (t:List UInt8) (r:Rw):VSubs (Jn k t r) (zW ⟨k,0,t,[],r,br⟩) :=
 .cons (.refl _) (.cons (.refl _) (.cons (.refl _) (.cons (au false) (.cons (.refl _) (.cons (.refl _) (.cons (.refl _) (.cons (au false) (VSubs.refl _))))))))
theorem EO (t:List UInt8) (r:Rw):VSubs (KE t r) (zW ⟨5,0,t,r,[],br⟩) :=
 .cons (.refl _) (.cons (.refl _) (.cons (.refl _) (.cons (.refl _) (.cons (au false) (.cons (.refl _) (.cons (.refl _) (.cons (au false) (VSubs.refl _))))))))
theorem rV {es:List Evt} {w:List V} {e:Evt} (h:VSubs w (zW e)):OSub (.buf (dz es ++ [w])) (.buf (dz (es ++ [e]))):=by
 rw[Cd];refine .bufR (by simp[dz]) fun i a b ha hb=>?_
 rcases Nat.lt_or_ge i (dz es).length with hi | hi
 . rw[List.getElem?_append_left hi]at ha hb;rw[ha]at hb; cases hb;exact VSubs.refl _
 . rw[List.getElem?_append_right hi]at ha hb;obtain h0:i-(dz es).length=0:=by
    have:=(liZ.1 ha).1;simp at this; omega
   rw[h0]at ha hb;cases ha; cases hb;exact h
theorem xh (i:Nat) {n:Nat} {es:List Evt} (h:n=es.length):OSub (.cells [.ptr 0 0,.map 3,.ms 12 i 0 n false]) (i6 i es):=by subst h; exact .refl _
theorem AS (h:Q (.map 0) [.map [(fI 1,.fn (.func 147) [] []),(fI 2,.fn (.func 148) [] []),(fI 3,.fn (.func 149) [] [])] 3]):ACall Tryz.prog 109 0 [] [] Q:=by
 refine ad Tryz.func109 0 rfl (aA rfl) ?_
 conv=>whnf
 exact⟨[0],rfl,h⟩
theorem yD {t:Tb} {d:Dd} (hC:t.c.length<=16) (hK:1<=t.k/\t.k<=t.c.length) (ht:bd d.r) (h:Q (.bool (eG t d)) []):ACall Tryz.prog 110 0 [C8 d,sch t.c t.k] [] Q:=by
 refine ad Tryz.func110 0 rfl (aA rfl) ?_;obtain⟨nm,C,K⟩:=t;obtain⟨k,rfl⟩:∃k:Nat,K=k:=⟨K.toNat,by simp only at hK; omega⟩
 simp only at hC hK;unfold eG at h
 conv=>whnf
 refine ac (fun c=>?_) (fun c=>?_)<;>try rw[c]<;>conv=>whnf
 . rw[if_pos (aB c)]at h;refine .pure (ic (l:=C) (keys:=k) (vs:=d.r) (f:=false) (by omega) (by omega) ht ⟨rfl,?_⟩)
   simp only[Int.toNat_natCast]at h;cases hkb:aP C k d.r<;>rw[hkb]at h
   . rw[ww hkb]
     conv=>whnf
     exact⟨[],rfl,h⟩
   . rw[jK hkb]
     conv=>whnf
     rw[aC];exact⟨[],rfl,h⟩
 . rw[if_neg (aG c)]at h;refine .pure (uj (l:=C) (keys:=(k:Int)) (vs:=d.r) (f:=false) (by omega) ht ⟨rfl,?_⟩)
   conv=>whnf
   exact⟨[],rfl,h⟩
theorem yT {l:List Tb} {L:List gF} {c:Nat} {log:List UInt8} {n m:Int} {kx:List (V × V)} {cx:Nat} {es:List Evt} {B:List (Nat × List V)} {t:Tb} {rs:List Rw} {T:Tr Rw} {tm:Int} {b:Nat} {d:Dd}
 (hC:t.c.length<=16) (hK:1<=t.k/\t.k<=t.c.length) (ht:bd d.r) (hT:TrOk t rs T tm b) (hb:b<1000000) (hes:es.length<=1000000) (hf:bB t.c d.r=true)
 (hE:kN t rs d=true->Q (fI 8) (bP l L c log n m ++ [i6 4 es,.pmap kx cx,.buf (dz es),.bag B,ee T tm]))
 (hO:kN t rs d=false -> ∀T' tm', TrOk t (jP t.c t.k.toNat rs d.r) T' tm' (b+1)->Q (fI 0) (bP l L c log n m ++ [i6 7 (es ++ [⟨3,0,d.t,[],d.r,br⟩]),.pmap kx cx,.dead,.bag B,ee T' tm', .buf (dz (es ++ [⟨3,0,d.t,[],d.r,br⟩]))])) :
 ACall Tryz.prog 147 7 [.ptr 2 0,C8 d,sch t.c t.k,.ptr 6 0] (bP l L c log n m ++ [i6 4 es,.pmap kx cx,.buf (dz es),.bag B,ee T tm]) Q:=by
 refine ACall.sub (ad Tryz.func147 7 rfl (aA rfl) ?_);obtain⟨nm,C,K⟩:=t;obtain⟨k,rfl⟩:∃k:Nat,K=k:=⟨K.toNat,by simp only at hK; omega⟩
 simp only at hC hK hf;have hO:=fun h1=>hO h1 _ _ (hT.putd (by omega) d.r)
 have hhas:=hT.has (ia ⟨nm,C,k⟩ d.r);unfold kN at hE hO;have hky:ia ⟨nm,C,k⟩ d.r=dK C k d.r:=rfl;rw[hky]at hE hO hhas;have hel:=f8 es;have hrl:d.r.length<1000000:=by have:=sm hf; omega
 have hht:=hT.ok.ht;have hkb:aP C k d.r=true:=dJ (by omega) hf
 conv=>whnf
 refine .pure (ic (l:=C) (keys:=k) (vs:=d.r) (f:=false) (by omega) (by omega) ht ⟨rfl,?_⟩)
 rw[jK hkb]
 conv=>whnf
 generalize dK C k d.r=key at *;cases hfd:dE key T with
 | node k' v' a' b' =>
  rw[hfd]at hhas;have hh:cj key (lX ⟨nm,C,k⟩ rs)=true:=by cases hx:cj key (lX ⟨nm,C,k⟩ rs)with | true=>rfl | false=>rw[hx]at hhas; cases hhas
  refine .call [6] 1 ⟨rfl,rfl,rfl⟩ (xy hfd ?_)
  conv=>whnf
  exact⟨[0,1,2,3,4,5,6],rfl,_,_,.refl _,HSub.refl _,hE hh⟩
 | nil =>
  rw[hfd]at hhas;have hh:cj key (lX ⟨nm,C,k⟩ rs)=false:=by cases hx:cj key (lX ⟨nm,C,k⟩ rs)with | false=>rfl | true=>rw[hx]at hhas; cases hhas
  have hO:=hO hh;refine .call [6] 1 ⟨rfl,rfl,rfl⟩ (xx hfd ?_)
  conv=>whnf
  refine .pure (j6 hrl ⟨rfl,?_⟩)
  conv=>whnf
  refine .call [6] 1 ⟨rfl,rfl,rfl⟩ (xA (v:=d.r) (by omega) ?_)
  generalize iM key d.r T=T' at *;generalize (if(dE key T).isNil=true then IntKind.i64.wrap (tm+1)else tm)=tm' at *
  conv=>whnf
  refine⟨List.range 15,by kernel_rfl,by kernel_rfl,?_⟩
  conv=>whnf
  repeat (refine⟨rfl,?_⟩
          conv=>whnf)
  refine vS (i:=4) (j:=9) (X:=dz es) (w:=Jn 3 d.t d.r) rfl rfl hel.symm (by omega) ?_
  conv=>whnf
  repeat (refine⟨rfl,?_⟩
          conv=>whnf)
  refine⟨[0,1,2,3,4,5,6,10],rfl,_,_,.refl _,.cons (.refl _) (.cons (.refl _) (.cons (xh 7 (by simp[hel])) (.cons (.refl _) (.cons (.refl _) (.cons (.refl _) (.cons (.refl _) (.cons (rV (yx 3 d.t d.r)) HSub.nil))))))),hO⟩
theorem zS {l:List Tb} {L:List gF} {c:Nat} {log:List UInt8} {n m:Int} {kx:List (V × V)} {cx:Nat} {es:List Evt} {B:List (Nat × List V)} {t:Tb} {rs:List Rw} {T:Tr Rw} {tm:Int} {b:Nat} {d:Dd}
 (hC:t.c.length<=16) (hK:1<=t.k/\t.k<=t.c.length) (ht:bd d.r) (hT:TrOk t rs T tm b) (hb:b<1000000) (hes:es.length<=1000000) (hf:bB t.c d.r=true)
 (hE:kN t rs d=false->Q (fI 14) (bP l L c log n m ++ [i6 4 es,.pmap kx cx,.buf (dz es),.bag B,ee T tm]))
 (hO:kN t rs d=true -> ∀T' tm', TrOk t (jP t.c t.k.toNat rs d.r) T' tm' (b+1)->Q (fI 0) (bP l L c log n m ++ [i6 7 (es ++ [⟨4,0,d.t,[],d.r,br⟩]),.pmap kx cx,.dead,.bag B,ee T' tm', .buf (dz (es ++ [⟨4,0,d.t,[],d.r,br⟩]))])) :
 ACall Tryz.prog 148 7 [.ptr 2 0,C8 d,sch t.c t.k,.ptr 6 0] (bP l L c log n m ++ [i6 4 es,.pmap kx cx,.buf (dz es),.bag B,ee T tm]) Q:=by
 refine ACall.sub (ad Tryz.func148 7 rfl (aA rfl) ?_);obtain⟨nm,C,K⟩:=t;obtain⟨k,rfl⟩:∃k:Nat,K=k:=⟨K.toNat,by simp only at hK; omega⟩
 simp only at hC hK hf;have hO:=fun h1=>hO h1 _ _ (hT.putd (by omega) d.r)
 have hhas:=hT.has (ia ⟨nm,C,k⟩ d.r);unfold kN at hE hO;have hky:ia ⟨nm,C,k⟩ d.r=dK C k d.r:=rfl;rw[hky]at hE hO hhas;have hel:=f8 es;have hrl:d.r.length<1000000:=by have:=sm hf; omega
 have hht:=hT.ok.ht;have hkb:aP C k d.r=true:=dJ (by omega) hf
 conv=>whnf
 refine .pure (ic (l:=C) (keys:=k) (vs:=d.r) (f:=false) (by omega) (by omega) ht ⟨rfl,?_⟩)
 rw[jK hkb]
 conv=>whnf
 generalize dK C k d.r=key at *;cases hfd:dE key T with
 | nil =>
  rw[hfd]at hhas;have hh:cj key (lX ⟨nm,C,k⟩ rs)=false:=by cases hx:cj key (lX ⟨nm,C,k⟩ rs)with | false=>rfl | true=>rw[hx]at hhas; cases hhas
  refine .call [6] 1 ⟨rfl,rfl,rfl⟩ (xx hfd ?_)
  conv=>whnf
  exact⟨[0,1,2,3,4,5,6],rfl,_,_,.refl _,HSub.refl _,hE hh⟩
 | node k' v' a' b' =>
  rw[hfd]at hhas;have hh:cj key (lX ⟨nm,C,k⟩ rs)=true:=by cases hx:cj key (lX ⟨nm,C,k⟩ rs)with | true=>rfl | false=>rw[hx]at hhas; cases hhas
  have hO:=hO hh;refine .call [6] 1 ⟨rfl,rfl,rfl⟩ (xy hfd ?_)
  conv=>whnf
  refine .pure (j6 hrl ⟨rfl,?_⟩)
  conv=>whnf
  refine .call [6] 1 ⟨rfl,rfl,rfl⟩ (xA (v:=d.r) (by omega) ?_)
  generalize iM key d.r T=T' at *;generalize (if(dE key T).isNil=true then IntKind.i64.wrap (tm+1)else tm)=tm' at *
  conv=>whnf
  refine⟨List.range 15,by kernel_rfl,by kernel_rfl,?_⟩
  conv=>whnf
  repeat (refine⟨rfl,?_⟩
          conv=>whnf)
  refine vS (i:=4) (j:=9) (X:=dz es) (w:=Jn 4 d.t d.r) rfl rfl hel.symm (by omega) ?_
  conv=>whnf
  repeat (refine⟨rfl,?_⟩
          conv=>whnf)
  refine⟨[0,1,2,3,4,5,6,10],rfl,_,_,.refl _,.cons (.refl _) (.cons (.refl _) (.cons (xh 7 (by simp[hel])) (.cons (.refl _) (.cons (.refl _) (.cons (.refl _) (.cons (.refl _) (.cons (rV (yx 4 d.t d.r)) HSub.nil))))))),hO⟩
theorem zr {l:List Tb} {L:List gF} {c:Nat} {log:List UInt8} {n m:Int} {kx:List (V × V)} {cx:Nat} {es:List Evt} {B:List (Nat × List V)} {t:Tb} {rs:List Rw} {T:Tr Rw} {tm:Int} {b:Nat} {d:Dd}
 (hC:t.c.length<=16) (hK:1<=t.k/\t.k<=t.c.length) (ht:bd d.r) (hT:TrOk t rs T tm b) (hb:b<1000000) (hes:es.length<=1000000) (hf:aP t.c t.k.toNat d.r=true)
 (hE:kN t rs d=false->Q (fI 14) (bP l L c log n m ++ [i6 4 es,.pmap kx cx,.buf (dz es),.bag B,ee T tm]))
 (hO:kN t rs d=true -> ∀T' tm', TrOk t (lj t.c t.k.toNat rs (ia t d.r)) T' tm' (b+1)->Q (fI 0) (bP l L c log n m ++ [i6 7 (es ++ [⟨5,0,d.t,d.r,[],br⟩]),.pmap kx cx,.dead,.bag B,ee T' tm', .buf (dz (es ++ [⟨5,0,d.t,d.r,[],br⟩]))])) :
 ACall Tryz.prog 149 7 [.ptr 2 0,C8 d,sch t.c t.k,.ptr 6 0] (bP l L c log n m ++ [i6 4 es,.pmap kx cx,.buf (dz es),.bag B,ee T tm]) Q:=by
 refine ACall.sub (ad Tryz.func149 7 rfl (aA rfl) ?_);obtain⟨nm,C,K⟩:=t;obtain⟨k,rfl⟩:∃k:Nat,K=k:=⟨K.toNat,by simp only at hK; omega⟩
 simp only at hC hK hf;have hO:=fun h1=>hO h1 _ _ ((hT.cutd (by omega) (ia ⟨nm,C,k⟩ d.r)).mono (Nat.le_succ b))
 have hhas:=hT.has (ia ⟨nm,C,k⟩ d.r);unfold kN at hE hO;have hky:ia ⟨nm,C,k⟩ d.r=dK C k d.r:=rfl;rw[hky]at hE hO hhas;have hel:=f8 es;have hht:=hT.ok.ht;have hkb:aP C k d.r=true:=hf
 conv=>whnf
 refine .pure (ic (l:=C) (keys:=k) (vs:=d.r) (f:=false) (by omega) (by omega) ht ⟨rfl,?_⟩)
 rw[jK hkb]
 conv=>whnf
 generalize dK C k d.r=key at *;refine .call [6] 1 ⟨rfl,rfl,rfl⟩ (D8 (by omega) ?_)
 cases hh:cj key (lX ⟨nm,C,k⟩ rs)<;>rw[hh]at hhas
 . rw[if_pos (by rw[hhas]; rfl),if_pos (by rw[hhas]; rfl),hhas]
   conv=>whnf
   exact⟨[0,1,2,3,4,5,6],rfl,_,_,.refl _,HSub.refl _,hE hh⟩
 . have hO:=hO hh;generalize (if(dE key T).isNil=true then T else kT key T)=T' at *
   generalize (if(dE key T).isNil=true then tm else IntKind.i64.wrap (tm-1))=tm' at *
   rw[hhas]
   conv=>whnf
   refine⟨List.range 15,by kernel_rfl,by kernel_rfl,?_⟩
   conv=>whnf
   repeat (refine⟨rfl,?_⟩
           conv=>whnf)
   refine vS (i:=4) (j:=9) (X:=dz es) (w:=KE d.t d.r) rfl rfl hel.symm (by omega) ?_
   conv=>whnf
   repeat (refine⟨rfl,?_⟩
           conv=>whnf)
   refine⟨[0,1,2,3,4,5,6,10],rfl,_,_,.refl _,.cons (.refl _) (.cons (.refl _) (.cons (xh 7 (by simp[hel])) (.cons (.refl _) (.cons (.refl _) (.cons (.refl _) (.cons (.refl _) (.cons (rV (EO d.t d.r)) HSub.nil))))))),hO⟩
theorem Df {l:List Tb} {L:List gF} {c:Nat} {log:List UInt8} {n m:Int} {kx:List (V × V)} {cx:Nat} {es:List Evt} {B:List (Nat × List V)} {t:Tb} {rs:List Rw} {T:Tr Rw} {tm:Int} {b:Nat} {d:Dd} {f:Nat}
 (hk:(d.k=1/\f=147)\/(d.k=2/\f=148)\/(d.k=3/\f=149))
 (hC:t.c.length<=16) (hK:1<=t.k/\t.k<=t.c.length) (ht:bd d.r) (hT:TrOk t rs T tm b) (hb:b<1000000) (hes:es.length<=1000000) (hf:eG t d=true)
 (hE:jx t rs d≠0->Q (fI (jx t rs d)) (bP l L c log n m ++ [i6 4 es,.pmap kx cx,.buf (dz es),.bag B,ee T tm]))
 (hO:jx t rs d=0 -> ∀T' tm', TrOk t (jf t.c t.k.toNat rs (dn d)) T' tm' (b+1)->Q (fI 0) (bP l L c log n m ++ [i6 7 (es ++ [dn d]),.pmap kx cx,.dead,.bag B,ee T' tm', .buf (dz (es ++ [dn d]))])) :
 ACall Tryz.prog f 7 [.ptr 2 0,C8 d,sch t.c t.k,.ptr 6 0] (bP l L c log n m ++ [i6 4 es,.pmap kx cx,.buf (dz es),.bag B,ee T tm]) Q:=by
 unfold jx at hE hO;rw[hf]at hE hO;simp only[Bool.true_eq_false,if_false]at hE hO;unfold eG at hf;unfold jf dn at hO;rcases hk with⟨hk,rfl⟩ | ⟨hk,rfl⟩ | ⟨hk,rfl⟩
 . rw[if_neg (by omega)]at hf
   rw[hk]at hE hO;simp only[if_true,show ¬((1:Int)=3) by decide,if_false,show ¬((2:Int)+1=5) by decide]at hE hO
   refine yT hC hK ht hT hb hes hf (fun h=>?_) fun h=>?_
   . rw[h]at hE; exact hE (by decide)
   . rw[h]at hO; exact hO rfl
 . rw[if_neg (by omega)]at hf
   rw[hk]at hE hO;simp only[show ¬((2:Int)=1) by decide,show ¬((2:Int)=3) by decide,if_false,show ¬((2:Int)+2=5) by decide]at hE hO
   refine zS hC hK ht hT hb hes hf (fun h=>?_) fun h=>?_
   . rw[h]at hE; exact hE (by decide)
   . rw[h]at hO; exact hO rfl
 . rw[if_pos hk,Bool.and_eq_true]at hf;rw[hk]at hE hO;simp only[show ¬((3:Int)=1) by decide,if_false,if_true]at hE hO
   refine zr hC hK ht hT hb hes hf.1 (fun h=>?_) fun h=>?_
   . rw[h]at hE; exact hE (by decide)
   . rw[h]at hO; exact hO rfl
def Km (L:List gF) (X:List CT):Vw:=fun n=>match cH n X with
 | some a=>some a.2
 | none=>cH n L
structure TryOk (l:List Tb) (L:List gF) (X:List CT) (R:List (List Rw)) (b:Nat):Prop where
 rs:RsOk l R (Km L X) b
 nd:NodupN X
 dom:∀n,cH n X≠none->dP l n≠none
theorem tP {t:Tr Rw} {n:Int} {B:List (Nat × List V)} (h:∀b,Q (.raw (.pointer (some ⟨b,0,none⟩))) [.bag (B ++ [(b,[.im (cY fR t),.int .i64 n])]),.dead]):ACall Tryz.prog 111 1 [vh t n] [.bag B] Q:=by
 refine ACall.stash (ad Tryz.func111 1 rfl (aA rfl) ?_)
 conv=>whnf
 refine⟨[0,1,2,3,4,5,6,7,8,9,10],by kernel_rfl,by kernel_rfl,?_⟩
 conv=>whnf
 exact⟨[0,1],rfl,0,1,B,[.im (cY fR t),.int .i64 n],rfl,by decide,rfl,rfl,by simp[aY],h⟩
theorem uW {l:List Tb} {L:List gF} {c:Nat} {log:List UInt8} {n m:Int} {kx:List (V × V)} {cx:Nat} {es:List Evt} {B l1 l2:List (Nat × List V)} {bb:Nat} {t:Tb} {rs:List Rw} {T:Tr Rw} {tm:Int} {b:Nat} {d:Dd} {f:Nat}
 (hB:B=l1++(bb,[.im (cY fR T),.int .i64 tm])::l2) (hk:(d.k=1/\f=147)\/(d.k=2/\f=148)\/(d.k=3/\f=149))
 (hC:t.c.length<=16) (hK:1<=t.k/\t.k<=t.c.length) (ht:bd d.r) (hT:TrOk t rs T tm b) (hb:b<1000000) (hes:es.length<=1000000) (hf:eG t d=true)
 (hE:jx t rs d≠0->Q (fI (jx t rs d)) (bP l L c log n m ++ [i6 4 es,.pmap kx cx,.buf (dz es),.bag (l1++(bb,[.im (cY fR T),.int .i64 tm])::l2),.dead]))
 (hO:jx t rs d=0 -> ∀T' tm', TrOk t (jf t.c t.k.toNat rs (dn d)) T' tm' (b+1)->Q (fI 0) (bP l L c log n m ++ [i6 7 (es ++ [dn d]),.pmap kx cx,.dead,.bag (l1++(bb,[.im (cY fR T'),.int .i64 tm'])::l2),.dead,.buf (dz (es ++ [dn d]))])) :
 ACall Tryz.prog f 6 [.ptr 2 0,C8 d,sch t.c t.k,.raw (.pointer (some ⟨bb,0,none⟩))] (bP l L c log n m ++ [i6 4 es,.pmap kx cx,.buf (dz es),.bag B]) Q:=by
 subst hB
 exact ACall.lend («as»:=[.ptr 2 0,C8 d,sch t.c t.k]) (H0:=bP l L c log n m ++ [i6 4 es,.pmap kx cx,.buf (dz es)]) (Df (B:=l1++l2) hk hC hK ht hT hb hes hf
  (fun h=>⟨bP l L c log n m ++ [i6 4 es,.pmap kx cx,.buf (dz es)],[],[.im (cY fR T),.int .i64 tm],rfl,rfl,by simp[aY],hE h⟩)
  fun h T' tm' h' => ⟨bP l L c log n m ++ [i6 7 (es ++ [dn d]),.pmap kx cx,.dead],[.buf (dz (es ++ [dn d]))],[.im (cY fR T'),.int .i64 tm'],rfl,rfl,by simp[aY],hO h T' tm' h'⟩)
theorem TryOk.turn {l:List Tb} {L:List gF} {X X' : List CT} {R:List (List Rw)} {b:Nat} (h:TryOk l L X R b) {i:Nat} {t:Tb} (ht:l[i]? = some t) {rs:List Rw} {bb:Nat} {T:Tr Rw} {m:Int} (hr:RowsOk t rs) (hT:TrOk t rs T m (b+1))
 (nd:NodupN X') (lk:∀k,cH k X'=if k=t.n then some (bb,(T,m))else cH k X):TryOk l L X' (R.set i rs) (b+1):=by
 refine⟨h.rs.turn (Nat.le_succ b) ht hr hT fun k=>?_,nd,fun k hk=>?_⟩
 . unfold Km;rw[lk];by_cases hk:k=t.n
   . rw[if_pos hk,if_pos hk]
   . rw[if_neg hk,if_neg hk]
 . by_cases hkt:k=t.n
   . rw[hkt,eR h.rs.tbs.ok.sorted ht]; simp
   . rw[lk,if_neg hkt]at hk; exact h.dom k hk
theorem Ip (X Y:List CT):xf (X++Y)=xf X++xf Y:=by simp[xf]
set_option maxRecDepth 8000 in
theorem G2 {l:List Tb} {L:List gF} {c:Nat} {log:List UInt8} {n m:Int} {X:List CT} {cx:Nat} {es:List Evt} {R:List (List Rw)} {b:Nat} {d:Dd}
 (hX:TryOk l L X R b) (ht:bd d.r) (hb:b<1000000) (hes:es.length<=1000000)
 (hE:bn l R d≠0 -> ∀o2 o3,Q (fI (bn l R d)) (bP l L c log n m ++ [o2,o3]))
 (hO:bn l R d=0 -> ∀X' cx', TryOk l L X' (wd l R d) (b+1)->Q (fI 0) (bP l L c log n m ++ [i6 4 (es ++ [dn d]),.pmap (eD DY X') cx', .buf (dz (es ++ [dn d])),.bag (xf X')])) :
 ACall Tryz.prog 72 4 [.ptr 2 0,C8 d] (bP l L c log n m ++ [i6 4 es,.pmap (eD DY X) cx,.buf (dz es),.bag (xf X)]) Q:=by
 refine ad Tryz.func72 4 rfl (aA rfl) ?_;have hl:=hX.rs.tbs;have hcl:=hl.cols
 conv=>whnf
 refine⟨[1,2,0,3,4],by kernel_rfl,by kernel_rfl,?_⟩
 conv=>whnf
 refine .call [] 0 ⟨rfl,rfl,rfl⟩ (AS ?_)
 conv=>whnf
 repeat (refine⟨rfl,?_⟩
         conv=>whnf)
 have hkk:(d.k=1\/d.k=2\/d.k=3)\/(d.k<1\/3<d.k):=by omega
 rcases hkk with hkk | hkk
 rotate_left
 . rw[show decide (d.k=1)=false from decide_eq_false (by omega)]
   conv=>whnf
   rw[show decide (d.k=2)=false from decide_eq_false (by omega)]
   conv=>whnf
   rw[show decide (d.k=3)=false from decide_eq_false (by omega)]
   conv=>whnf
   refine⟨.nilf,⟨_,_,rfl,rfl,rfl⟩,?_⟩
   conv=>whnf
   repeat (refine⟨rfl,?_⟩
           conv=>whnf)
   refine⟨List.range 16,by kernel_rfl,by kernel_rfl,?_⟩
   conv=>whnf
   refine .pure (fb (by have:=hl.few; omega) hl.ok.sorted (fun x hx=>by have:=hcl x hx; omega) ⟨rfl,?_⟩)
   have herr:bn l R d=5:=by unfold bn; rw[if_pos hkk]
   rw[herr]at hE;obtain⟨C,K,is,hfr⟩:∃C K is,qa (cf l d.t) = .tup [sch C K,.bool is]:=by
    cases cf l d.t with
    | none=>exact⟨_,_,_,rfl⟩
    | some x=>exact⟨_,_,_,rfl⟩
   rw[hfr]
   conv=>whnf
   repeat (refine⟨rfl,?_⟩
           conv=>whnf)
   exact⟨[0,1,2,3],rfl,hE (by decide) _ _⟩
 have hkd:1<=d.k/\d.k<=3:=by omega
 rcases hkk with h | h | h
 focus
  rw[show decide (d.k=1)=true from decide_eq_true h]
  conv=>whnf
 rotate_left
 focus
  rw[show decide (d.k=1)=false from decide_eq_false (by omega)]
  conv=>whnf
  rw[show decide (d.k=2)=true from decide_eq_true h]
  conv=>whnf
 rotate_left
 focus
  rw[show decide (d.k=1)=false from decide_eq_false (by omega)]
  conv=>whnf
  rw[show decide (d.k=2)=false from decide_eq_false (by omega)]
  conv=>whnf
  rw[show decide (d.k=3)=true from decide_eq_true h]
  conv=>whnf
 all_goals
  refine⟨List.range 16,by kernel_rfl,by kernel_rfl,?_⟩
  conv=>whnf
  refine .pure (fb (by have:=hl.few; omega) hl.ok.sorted (fun x hx=>by have:=hcl x hx; omega) ⟨rfl,?_⟩)
  conv=>whnf
  repeat (refine⟨rfl,?_⟩
          conv=>whnf)
 all_goals cases hat:dP l d.t with
 | none =>
  have herr:bn l R d=7:=by unfold bn; rw[if_neg (by omega),hat]
  rw[herr]at hE;rw[oY hat]
  conv=>whnf
  repeat (refine⟨rfl,?_⟩
          conv=>whnf)
  exact⟨[0,1,2,3],rfl,hE (by decide) _ _⟩
 | some i =>
  obtain⟨t,hti,htn,hil⟩:=bY hat;rw[fV hat hti];have herr:=sa (R:=R) hkd hat hti;have hdr:=AP (R:=R) hat hti;rw[herr]at hE hO;rw[hdr]at hO;have hRi:R[i]? = some (R[i]'(by rw[hX.rs.len]; exact hil)):=aS _
  generalize (R[i]'(by rw[hX.rs.len]; exact hil))=rs at hRi
  have hgd:R.getD i []=rs:=by rw[List.getD_eq_getElem?_getD,hRi]; rfl
  rw[hgd]at hE hO;have htk:=hl.tbk (List.mem_of_getElem? hti)
  conv=>whnf
  repeat (refine⟨rfl,?_⟩
          conv=>whnf)
  refine .pure (yD (t:=t) (d:=d) htk.few ⟨htk.lo,htk.hi⟩ ht ⟨rfl,?_⟩);have hft:eG t d=false->jx t rs d=9:=fun h=>by unfold jx; rw[if_pos h]
  cases hfit:eG t d
  focus
   rw[hft hfit]at hE
   conv=>whnf
   exact⟨[0,1,2,3],rfl,hE (by decide) _ _⟩
  have hfit' : eG t d=true:=hfit;obtain⟨T,tm,hvw,hT⟩:=hX.rs.tree i t rs hti hRi;have hrs:=hX.rs.rows i t rs hti hRi;rw[htn]at hvw
  conv=>whnf
  refine⟨List.range 8,by kernel_rfl,by kernel_rfl,?_⟩
  conv=>whnf
  refine eC (fun hn=>?_) (fun j a hn hj=>?_)
  focus
   have hL:cH d.t L=some (T,tm):=by unfold Km at hvw; rw[hn]at hvw; exact hvw
   refine⟨.nilp,⟨_,_,rfl,rfl,rfl⟩,?_⟩
   conv=>whnf
   repeat (refine⟨rfl,?_⟩
           conv=>whnf)
   refine⟨List.range 18,by kernel_rfl,by kernel_rfl,?_⟩
   conv=>whnf
   refine eC (fun hn=>by rw[hL]at hn; cases hn) (fun j a ha _=>?_)
   rw[hL]at ha;cases ha
   conv=>whnf
   repeat (refine⟨rfl,?_⟩
           conv=>whnf)
   refine .call [5] 1 ⟨rfl,rfl,rfl⟩ (tP (t:=T) (n:=tm) (B:=xf X) fun bb=>?_)
   conv=>whnf
   repeat (refine⟨rfl,?_⟩
           conv=>whnf)
   refine eC (fun _=>?_) (fun j a ha _=>by rw[hn]at ha; cases ha)
   conv=>whnf
   repeat (refine⟨rfl,?_⟩
           conv=>whnf)
   refine⟨List.range 13,by kernel_rfl,by kernel_rfl,?_⟩
   conv=>whnf
   obtain⟨nd1,lk1⟩:=ny (b:=(bb,(T,tm))) hX.nd hn;show gQ (.str d.t) (eD DY X ++ [(V.str d.t,DY (bb,(T,tm)))]) 0 _
   rw[nW];refine eC (fun hh=>by rw[lk1,if_pos rfl]at hh; cases hh) (fun j a ha _=>?_)
   rw[lk1,if_pos rfl]at ha;cases ha
   conv=>whnf
   repeat (refine⟨rfl,?_⟩
           conv=>whnf)
   refine .call [0,1,2,3,4,5] 6 ⟨rfl,rfl,rfl⟩ (uW (l:=l) (L:=L) (c:=c) (log:=log) (n:=n) (m:=m) (kx:=eD DY X ++ [(V.str d.t,DY (bb,(T,tm)))]) (cx:=cx+1) (l1:=xf X) (l2:=[]) (bb:=bb) (t:=t) (rs:=rs) (T:=T) (tm:=tm) (d:=d) rfl (by first | exact .inl ⟨h,rfl⟩ | exact .inr (.inl ⟨h,rfl⟩) | exact .inr (.inr ⟨h,rfl⟩)) htk.few ⟨htk.lo,htk.hi⟩ ht hT hb hes hfit' (fun he=>?_) fun he T' tm' hT' => ?_)
   . have hE:=hE he;generalize jx t rs d=er at *
     conv=>whnf
     exact⟨[0,1,2,3],rfl,hE _ _⟩
   . have hrs' := hrs.turn (wc hkd htn.symm hfit');obtain⟨nd2,lk2⟩:=ny (b:=(bb,(T', tm'))) hX.nd hn;have hO:=hO he (X ++ [(d.t,(bb,(T', tm')))]) (cx+1) (hX.turn hti hrs' hT' nd2 (by rw[htn]; exact lk2))
     rw[<-nW,Ip]at hO
     repeat (conv=>whnf
             refine⟨rfl,?_⟩)
     conv=>whnf
     exact⟨[0,1,2,3,11,5],rfl,hO⟩
  focus
   obtain⟨bb,T0,tm0⟩:=a;have he0:(T0,tm0)=(T,tm):=by unfold Km at hvw; rw[hn]at hvw; exact Option.some.inj hvw
   cases he0
   conv=>whnf
   repeat (refine⟨rfl,?_⟩
           conv=>whnf)
   refine⟨List.range 13,by kernel_rfl,by kernel_rfl,?_⟩
   conv=>whnf
   refine eC (fun hh=>by rw[hn]at hh; cases hh) (fun j2 a ha hj2=>?_)
   rw[hn]at ha;cases ha;have hsp:X=X.take j2++(d.t,(bb,(T,tm)))::X.drop (j2+1):=DT hj2;generalize X.take j2=X1 at *;generalize X.drop (j2+1)=X2 at *;subst hsp
   conv=>whnf
   repeat (refine⟨rfl,?_⟩
           conv=>whnf)
   refine .call [0,1,2,3,4,5] 6 ⟨rfl,rfl,rfl⟩ (uW (l:=l) (L:=L) (c:=c) (log:=log) (n:=n) (m:=m) (kx:=eD DY (X1++(d.t,(bb,(T,tm)))::X2)) (cx:=cx) (B:=xf (X1++(d.t,(bb,(T,tm)))::X2)) (l1:=xf X1) (l2:=xf X2) (bb:=bb) (t:=t) (rs:=rs) (T:=T) (tm:=tm) (d:=d) (by simp[xf]) (by first | exact .inl ⟨h,rfl⟩ | exact .inr (.inl ⟨h,rfl⟩) | exact .inr (.inr ⟨h,rfl⟩)) htk.few ⟨htk.lo,htk.hi⟩ ht hT hb hes hfit' (fun he=>?_) fun he T' tm' hT' => ?_)
   . have hE:=hE he;generalize jx t rs d=er at *
     conv=>whnf
     exact⟨[0,1,2,3],rfl,hE _ _⟩
   . have hrs' := hrs.turn (wc hkd htn.symm hfit');obtain⟨nd2,lk2⟩:=GG (b:=(bb,(T', tm'))) hX.nd;have hO:=hO he (X1++(d.t,(bb,(T', tm')))::X2) cx (hX.turn hti hrs' hT' nd2 (by rw[htn]; exact lk2))
     rw[show eD DY (X1++(d.t,(bb,(T', tm')))::X2)=eD DY (X1++(d.t,(bb,(T,tm)))::X2) by simp[eD,DY],show xf (X1++(d.t,(bb,(T', tm')))::X2)=xf X1++(bb,[.im (cY fR T'),.int .i64 tm'])::xf X2 by simp[xf]]at hO
     repeat (conv=>whnf
             refine⟨rfl,?_⟩)
     conv=>whnf
     exact⟨[0,1,2,3,10,5],rfl,hO⟩
theorem AQ {l:List Tb} {R:List (List Rw)} {d:Dd} (hl:TbsB l) (h:bn l R d=0) (ht:bd d.r) (hn:∀v∈d.r,ei v.n):cm (dn d) l=0/\gl (dn d)/\oI (dn d):=by
 unfold bn at h;split at h
 . exact absurd h (by decide)
 rename_i hk;have hk' : 1<=d.k/\d.k<=3:=by omega
 cases ha:dP l d.t with
 | none=>rw[ha]at h; simp at h
 | some i =>
  obtain⟨t,hti,htn,hil⟩:=bY ha;rw[ha]at h;simp only[hti]at h;have hf:eG t d=true:=by
   cases hx:eG t d with
   | true=>rfl
   | false=>unfold jx at h; rw[if_pos hx]at h; exact absurd h (by decide)
  have hft:=fV ha hti;have hfew:=(hl.tbk (List.mem_of_getElem? hti)).few;have hKc:=(hl.tbk (List.mem_of_getElem? hti)).hi;unfold eG at hf;have nl:∀v∈([]:List Val),ei v.n:=fun v hv=>by simp at hv
  have tl:bd []:=fun v hv=>by simp at hv
  have i0:ei 0:=⟨by decide,by decide⟩
  unfold dn;split at hf
  . rename_i h3;rw[if_pos h3];rw[Bool.and_eq_true,decide_eq_true_eq]at hf;exact⟨(MayI.del d.t d.r t.c t.k hft hf.1 hf.2).e,⟨i0,hn,nl⟩,⟨ht,tl,by simp only; omega,by simp,by simp[br]⟩⟩
  . rename_i h3;rw[if_neg h3];have:=dq hf;exact⟨(MayI.ins (2+d.k) d.t d.r t.c t.k (by omega) hft hf).e,⟨i0,nl,hn⟩,⟨tl,ht,by simp,by simp only; omega,by simp[br]⟩⟩
theorem mO {l:List Tb} {R:List (List Rw)} {d:Dd} (ds:List Dd) (h:bn l R d=0):gY l R (d::ds)=gY l (wd l R d) ds:=by
 show(if bn l R d=0 then gY l (wd l R d) ds else _)=_
 rw[if_pos h]
theorem qK {l:List Tb} (hl:TbsB l):∀ {ds:List Dd} {R:List (List Rw)},(gY l R ds).2=0->(∀d∈ds,bd d.r)->(∀d∈ds,∀v∈d.r,ei v.n) -> ∀e∈ds.map dn,cm e l=0/\gl e/\oI e
 | [],R,_,_,_,e,he=>by simp at he
 | d::ds,R,h,ht,hn,e,he=>by
  unfold gY at h;split at h
  . rename_i h0;rw[List.map_cons]at he;rcases List.mem_cons.1 he with rfl | he
    . exact AQ hl h0 (ht d (by simp)) (hn d (by simp))
    . exact qK hl h (fun x hx=>ht x (by simp[hx])) (fun x hx=>hn x (by simp[hx])) e he
  . rename_i h0; exact absurd h h0
def Lm (es:List Evt) (X:List CT) (cx:Nat):List O:=[i6 4 es,.pmap (eD DY X) cx,.buf (dz es),.bag (xf X)]
def JZ (l:List Tb) (L:List gF) (c:Nat) (log:List UInt8) (n m:Int) (ends:Int) (ds:List Dd) (f:Bool) (R:List (List Rw)) (b:Nat) (k:Nat) (ws:List V) (H:List O):Prop :=
 ∃(i:Nat) (X:List CT) (R' : List (List Rw)) (cx:Nat),ws = [.ptr 0 0,fI ends,.ptr 2 0,.sl 3 (ie ds) f,fI (ie ds).length,fI i]/\H=bP l L c log n m++Lm ((ds.take i).map dn) X cx /\
  TryOk l L X R' (b+i)/\gY l R ds=gY l R' (ds.drop i)/\i<=ds.length/\k=ds.length-i
def Gz (X:List CT):List gF:=X.map fun x=>(x.1,x.2.2)
theorem vQ (k:List UInt8):∀X:List CT,cH k (Gz X)=(cH k X).map (·.2)
 | []=>rfl
 | x::X=>by
  show(if x.1=k then some x.2.2 else cH k (Gz X))=(if x.1=k then some x.2 else cH k X).map (·.2)
  by_cases h:x.1=k
  . rw[if_pos h,if_pos h]; rfl
  . rw[if_neg h,if_neg h]; exact vQ k X
theorem D0 {X:List CT} (h:NodupN X):NodupN (Gz X):=by
 unfold NodupN Gz at *;rw[List.map_map];exact h
theorem Kh (L:List gF) (X:List CT):(fun k=>(cH k (Gz X)).or (cH k L))=Km L X:=by
 funext k
 rw[vQ];unfold Km;cases cH k X<;>rfl
theorem Kg {X:List CT} {i:Nat} {x y:V × V} (hx:(eD DY X)[i]? = some x) (hy:(eD Gj (Gz X))[i]? = some y):∃b cs,(b,cs)∈xf X/\x.2 = .raw (.pointer (some ⟨b,0,none⟩))/\y=(x.1,.ip cs 0):=by
 obtain⟨a,h1,rfl⟩:=sL hx;obtain⟨a', h2,rfl⟩:=sL hy;unfold Gz at h2;rw[List.getElem?_map,h1]at h2;cases h2;exact⟨a.2.1,_,List.mem_map.2 ⟨a,List.mem_of_getElem? h1,rfl⟩,rfl,rfl⟩
set_option maxRecDepth 8000 in
theorem zD {l:List Tb} {L:List gF} {c:Nat} {log:List UInt8} {n m ends:Int} {R:List (List Rw)} {b:Nat} {ds:List Dd} {f:Bool}
 (hR:RsOk l R (fun k=>cH k L) b) (ht:∀d∈ds,bd d.r) (hn:∀d∈ds,∀v∈d.r,ei v.n) (hds:ds.length<=1000) (hb:b<900000) (hnn:0<=n/\n<1000000000) (he:ends=7\/ends=8) (hs:log.length+1000020*(ds.length+2)<=800000000)
 (hE:(gY l R ds).2≠0->Q (.tup [.nilm,fI (gY l R ds).2]) (bP l L c log n m ++ [.dead]))
 (hO:(gY l R ds).2=0 -> ∀(X:List gF) cx,RsOk l (gY l R ds).1 (fun k=>(cH k X).or (cH k L)) (b+ds.length)->NodupN X->(∀k,cH k X≠none->dP l k≠none) ->
  Q (.tup [.map 2,fI 0]) (bP l L c (aR log (bh 2 n::(ds.map dn ++ [bh ends n]))) (n+1) m ++ [.pmap (eD Gj X) cx,.dead])) :
 ACall Tryz.prog 41 2 [.ptr 0 0,.sl 3 (ie ds) f,fI ends] (bP l L c log n m) Q:=by
 refine ACall.unbag (ACall.ret (ad Tryz.func41 2 rfl (aA rfl) ?_));have hl:=hR.tbs;have hdl:=nJ ds
 conv=>whnf
 refine⟨⟨[0,2,8,16,17,18],JZ l L c log n m ends ds f R b,?_,?_⟩⟩
 . refine .frz (ds.length+1) (.adopt (.adopt (.sub [.ptr 0 0,fI ends,.ptr 3 0,.sl 3 (ie ds) f,fI (ie ds).length,fI 0] (bP l L c log n m ++ [.pmap [] 0,.cells [.ptr 0 0,.map 2,.ms 12 4 0 0 false],.buf [],.bag []]) (VSubs.refl _) ?_ (.go [0,1,3,2,4,5] rfl ds.length (by omega) ⟨0,[],R,0,rfl,rfl,?_,rfl,by omega,rfl⟩))))
   . refine .cons (.refl _) (.cons (.refl _) (.cons (.pmap0 0) (.cons (.cells (.cons (.refl _) (.cons (.refl _) (.cons (VSub.ms0 12 4 0 false) .nil)))) (.cons (.refl _) (.cons (.bag0 _) HSub.nil)))))
   . exact⟨hR,NodupN.nil,fun k hk=>absurd rfl hk⟩
 rintro k ws H ⟨i,X,R', cx,rfl,rfl,hX,hdr,hi,rfl⟩
 conv=>whnf
 refine ac (fun c1=>?_) (fun c1=>?_)<;>try rw[c1]<;>conv=>whnf
 . have c1' := aB c1;have hil:i<ds.length:=by omega
   have hg:ds[i]? = some ds[i]:=aS hil;have hdr' : ds.drop i=ds[i]::ds.drop (i+1):=List.drop_eq_getElem_cons hil;have hti:(ds.take (i+1)).map dn=(ds.take i).map dn ++ [dn ds[i]]:=by rw[List.take_add_one,hg,List.map_append]; rfl
   have htd:=ht ds[i] (List.getElem_mem hil);rw[hdr']at hdr;generalize ds[i]=d at *;refine⟨_,⟨by omega,qI hg⟩,?_⟩
   conv=>whnf
   refine .call [0,1,2,3,4,5] 4 ⟨rfl,rfl,rfl⟩ (G2 hX htd (by omega) (by simp; omega) (fun he o2 o3=>?_) fun he X' cx' hX' => ?_)
   . have:gY l R ds=(R', bn l R' d):=by rw[hdr]; unfold gY; rw[if_neg he]
     rw[this]at hE;have hE:Q (.tup [.nilm,fI (bn l R' d)]) (bP l L c log n m ++ [.dead]):=hE he;generalize bn l R' d=er at *
     conv=>whnf
     rw[show(!decide (er=0))=true by simp[he]]
     conv=>whnf
     refine⟨[0,1],rfl,.adopt (.sub _ (bP l L c log n m ++ [O.bag []]) (.refl _) (.cons (.refl _) (.cons (.refl _) (.cons (.bag0 _) HSub.nil))) (.done [0,1,2] rfl ⟨2,1,c,[],fO L,fO L,by decide,rfl,rfl,rfl,fun _ x y hx hy=>.inl ?_,hE⟩))⟩
     rw[hx]at hy; exact(Option.some.inj hy).symm
   . conv=>whnf
     refine .go [0,1,2,3,4,5] rfl (ds.length-(i+1)) (by omega) ⟨i+1,X', wd l R' d,cx', ?_,?_,hX', ?_,by omega,rfl⟩
     . show [V.ptr 0 0,fI ends,.ptr 2 0,.sl 3 (ie ds) f,fI (ie ds).length,.int .i64 (IntKind.i64.wrap ((i:Int)+1))]=_
       rw[bw (by omega)]; rfl
     . rw[hti]; rfl
     . rw[hdr]; exact mO _ he
 . have c1' := aG c1;have hie:i=ds.length:=by omega
   subst hie;have hdo:gY l R ds=(R', 0):=by rw[hdr,List.drop_length]; rfl
   have hev:=qK hl (ds:=ds) (R:=R) (by rw[hdo]) ht hn
   rw[List.take_length];rw[hdo]at hO;have hml:(ds.map dn).length=ds.length:=by simp
   generalize ds.map dn=es at *;have hel:=f8 es;refine ACalls.frz 6 rfl rfl (by repeat (first | exact trivial | refine And.intro (by first | omega | exact Nat.le_refl 1) ?_)) ?_
   refine ACalls.sub [.ptr 0 0,.sl 12 (dz [bh 2 n]) true] _ rfl (.cons (.refl _) (.cons (wF 2 n true) (VSubs.refl _))) (HSub.refl _) ?_;refine .call [0,1] 2 ⟨rfl,rfl,rfl⟩ (ix (l:=l) (L:=L) (c:=c) (log:=log) (n:=n) (m:=m) hl (fun e he=>by
    rw[List.mem_singleton.1 he];exact⟨bA rfl (by omega),du (by unfold ei; omega),wl _ _ _⟩) (by simp; omega) ?_)
   have htl1:=cW hl [bh 2 n] log (fun e he=>by rw[List.mem_singleton.1 he]; exact⟨bA rfl (by omega),du (by unfold ei; omega)⟩)
   generalize hl1:aR log [bh 2 n]=log1 at *
   conv=>whnf
   refine ACalls.frz 4 rfl rfl (by repeat (first | exact trivial | refine And.intro (by omega) ?_)) ?_
   refine ACalls.sub [.ptr 0 0,.sl 12 (dz es) false] _ rfl (.cons (.refl _) (.cons (VSub.eq (congrArg (fun z=>V.sl 12 z false) (by rw[List.drop_zero,<-hel,List.take_length]))) (VSubs.refl _))) (HSub.refl _) ?_
   refine .call [0,1] 2 ⟨rfl,rfl,rfl⟩ (ix (l:=l) (L:=L) (c:=c) (log:=log1) (n:=n) (m:=m) (f:=false) (es:=es) hl hev (by simp at htl1; omega) ?_)
   have htl2:=cW hl es log1 (fun e he=>⟨(hev e he).1,(hev e he).2.1⟩)
   have hlog:aR (aR log1 es) [bh ends n]=aR log (bh 2 n::(es ++ [bh ends n])):=by
    rw[<-hl1,<-vg,<-vg]; rfl
   generalize aR log1 es=log2 at *
   conv=>whnf
   refine ACalls.frz 7 rfl rfl (by repeat (first | exact trivial | refine And.intro (by first | omega | exact Nat.le_refl 1) ?_)) ?_
   refine ACalls.sub [.ptr 0 0,.sl 12 (dz [bh ends n]) true] _ rfl (.cons (.refl _) (.cons (wF ends n true) (VSubs.refl _))) (HSub.refl _) ?_;refine .call [0,1] 2 ⟨rfl,rfl,rfl⟩ (ix (l:=l) (L:=L) (c:=c) (log:=log2) (n:=n) (m:=m) hl (fun e he' => by
    rw[List.mem_singleton.1 he'];exact⟨bA (by rcases he with rfl | rfl<;>rfl) (by omega),du (by unfold ei; omega),wl _ _ _⟩) (by simp at htl1 ⊢; omega) ?_)
   rw[hlog]
   conv=>whnf
   rw[aQ (by omega)]
   refine⟨[0,1,3,5],rfl,.done [0,1,2,3] rfl ⟨3,2,cx,xf X,eD DY X,eD Gj (Gz X),by decide,rfl,rfl,by simp[eD,Gz],fun i x y hx hy=>.inr (Kg hx hy),?_⟩⟩
   exact hO rfl (Gz X) cx (by rw[Kh]; exact hX.rs) (D0 hX.nd) fun k hk=>hX.dom k fun hk2=>hk (by rw[vQ,hk2]; rfl)
structure SrcOk (s:SS) (L:List gF) (b:Nat):Prop where
 rs:RsOk s.l s.R (fun k=>cH k L) b
 nd:NodupN L
 dom:∀k,cH k L≠none->dP s.l k≠none
theorem SrcOk.mono {s:SS} {L:List gF} {b b' : Nat} (h:SrcOk s L b) (hb:b<=b'):SrcOk s L b' := ⟨h.rs.mono hb,h.nd,h.dom⟩
def mi (s:SS) (L:List gF) (c:Nat):List O:=bP s.l L c s.log s.n s.m
structure SrcB (s:SS) (N:Nat):Prop where
 n0:0<=s.n
 n1:s.n<=N
 m0:0<=s.m
 m1:s.m<=N
structure gV (d:Dd):Prop where
 t:bd d.r
 n:∀v∈d.r,ei v.n
theorem sg {s:SS} {ds:List Dd} {u:Bool} (h:(gY s.l s.R ds).2≠0):oW s ds u=(s,(gY s.l s.R ds).2):=by unfold oW; rw[if_neg h]
theorem oX {s:SS} {ds:List Dd} {u:Bool} (h:(gY s.l s.R ds).2=0):oW s ds u=({ s with R:=if u then s.R else(gY s.l s.R ds).1,log:=aR s.log (bh 2 s.n::(ds.map dn ++ [bh (if u then 8 else 7) s.n])),n:=s.n+1,m:=if u then s.m else s.m+1 },0):=by unfold oW; rw[if_pos h]
theorem CV {s:SS} {L:List gF} {c:Nat} {b:Nat} {ds:List Dd} {f:Bool} (hS:SrcOk s L b) (hB:SrcB s 1000000) (hd:∀d∈ds,gV d) (hds:ds.length<=1000) (hb:b<900000) (hs:s.log.length+1000020*(ds.length+2)<=800000000)
 (h:SrcOk (oW s ds true).1 L b->Q (fI (oW s ds true).2) (mi (oW s ds true).1 L c)) :
 ACall Tryz.prog 20 2 [.ptr 0 0,.sl 3 (ie ds) f] (mi s L c) Q:=by
 refine ad Tryz.func20 2 rfl (aA rfl) ?_;have h1:=hB.n0; have h2:=hB.n1
 conv=>whnf
 refine .call [0,1] 2 ⟨rfl,rfl,rfl⟩ (zD (ends:=8) hS.rs (fun d hd' => (hd d hd').t) (fun d hd' => (hd d hd').n) hds hb ⟨h1,by omega⟩ (.inr rfl) hs (fun he=>?_) fun he X cx _ _ _=>?_)
 . rw[sg he]at h;have h:=h hS;generalize (gY s.l s.R ds).2=er at *
   conv=>whnf
   exact⟨[0,1],rfl,h⟩
 . rw[oX he]at h;have h:=h ⟨hS.rs,hS.nd,hS.dom⟩
   conv=>whnf
   exact⟨[0,1],rfl,h⟩
theorem F6 (l:List Tb) (L:List gF) (c:Nat) (log:List UInt8) (n m:Int) (x:List UInt8) (a:Tr Rw × Int):bP l (L ++ [(x,a)]) c log n m = [.cells [.sl 3 (tbs l) false,.map 1,.sl 1 (bs log) false,fI n,fI m],.pmap (fO L ++ [(.str x,Gj a)]) c]:=by
 unfold bP fO; rw[<-nW]
theorem F7 (l:List Tb) (L:List gF) (j:Nat) (c:Nat) (log:List UInt8) (n m:Int) (x:List UInt8) (a:Tr Rw × Int):bP l (L.set j (x,a)) c log n m = [.cells [.sl 3 (tbs l) false,.map 1,.sl 1 (bs log) false,fI n,fI m],.pmap ((fO L).set j (.str x,Gj a)) c]:=by
 unfold bP fO; rw[<-yX]
def Kz (l:List Tb) (L X:List gF) (log:List UInt8) (n m:Int) (k:Nat) (ws:List V) (H:List O):Prop :=
 ∃(Lf L' : List gF) (c' : Nat) (B:List Nat) (cur:Option (V × V)),ws = [.ptr 0 0,.ptr 2 0]/\H=bP l L' c' log n m ++ [.miter B (eD Gj Lf) cur]/\NodupN Lf/\NodupN L' /\
  (∀k,cH k Lf=none->cH k L'=(cH k X).or (cH k L))/\(∀k a,cH k Lf=some a->cH k X=some a/\cH k L'=cH k L)/\k=Lf.length
theorem vo {s:SS} {L:List gF} {c:Nat} {b:Nat} {ds:List Dd} {f:Bool} (hS:SrcOk s L b) (hB:SrcB s 1000000) (hd:∀d∈ds,gV d) (hds:ds.length<=1000) (hb:b<900000) (hs:s.log.length+1000020*(ds.length+2)<=800000000)
 (h:∀L' c', SrcOk (oW s ds false).1 L' (b+ds.length)->Q (fI (oW s ds false).2) (mi (oW s ds false).1 L' c')) :
 ACall Tryz.prog 21 2 [.ptr 0 0,.sl 3 (ie ds) f] (mi s L c) Q:=by
 refine ad Tryz.func21 2 rfl (aA rfl) ?_;have h1:=hB.n0; have h2:=hB.n1; have h3:=hB.m0; have h4:=hB.m1
 conv=>whnf
 refine .call [0,1] 2 ⟨rfl,rfl,rfl⟩ (zD (ends:=7) hS.rs (fun d hd' => (hd d hd').t) (fun d hd' => (hd d hd').n) hds hb ⟨h1,by omega⟩ (.inl rfl) hs (fun he=>?_) fun he X cx hX hXn hXd=>?_)
 . rw[sg he]at h;have h:=h L c (hS.mono (Nat.le_add_right _ _));generalize (gY s.l s.R ds).2=er at *
   conv=>whnf
   rw[show(!decide (er=0))=true by simp[he]]
   conv=>whnf
   exact⟨[0,1],rfl,h⟩
 rw[oX he]at h;simp only[Bool.false_eq_true,if_false]at h;generalize aR s.log (bh 2 s.n::(ds.map dn ++ [bh 7 s.n]))=log' at *;generalize (gY s.l s.R ds).1=R' at *
 conv=>whnf
 intro B
 conv=>whnf
 refine⟨⟨[0,19],Kz s.l L X log' (s.n+1) s.m,?_,?_⟩⟩
 . exact .frz (X.length+1) (.go [0,1,4] rfl X.length (by omega) ⟨X,L,c,B,none,rfl,rfl,hXn,hS.nd,fun k hk=>by rw[hk]; rfl,fun k a hk=>⟨hk,rfl⟩,rfl⟩)
 rintro k ws H ⟨Lf,L', c', B', cur,rfl,rfl,n1,n2,a1,a2,rfl⟩
 conv=>whnf
 refine⟨fun hnil=>?_,fun j kv hj=>?_⟩
 . have hLf:Lf = []:=List.map_eq_nil_iff.1 hnil;subst hLf;have hlk:(fun k=>cH k L')=fun k=>(cH k X).or (cH k L):=funext fun k=>a1 k rfl
   have h:=h L' c' ⟨by rw[hlk]; exact hX,n2,fun k hk=>by
    rw[a1 k rfl]at hk;cases hx:cH k X with
    | some a=>exact hXd k (by rw[hx]; simp)
    | none=>rw[hx]at hk; exact hS.dom k hk⟩
   conv=>whnf
   rw[aQ (by omega)]
   exact⟨[0,1],rfl,h⟩
 . obtain⟨⟨nm,T,tm⟩,hx,rfl⟩:=sL hj;have hin:=Eg n1 (List.mem_of_getElem? hx);obtain⟨e1,e2⟩:=oO n1 hx;have hjl:=(liZ.1 hx).1;have hlen:(Lf.eraseIdx j).length=Lf.length-1:=by rw[List.length_eraseIdx,if_pos hjl]
   have next:∀(L2:List gF),NodupN L2->(∀k,cH k L2=if k=nm then some (T,tm)else cH k L') ->
    (∀k,cH k (Lf.eraseIdx j)=none->cH k L2=(cH k X).or (cH k L))/\(∀k a,cH k (Lf.eraseIdx j)=some a->cH k X=some a/\cH k L2=cH k L):=fun L2 hn2 hl2=>by
    refine⟨fun k hk=>?_,fun k a hk=>?_⟩
    . rw[e2]at hk;rw[hl2];by_cases hkn:k=nm
      . subst hkn; rw[if_pos rfl,(a2 _ _ hin).1]; rfl
      . rw[if_neg hkn]at hk ⊢; exact a1 k hk
    . rw[e2]at hk;by_cases hkn:k=nm
      . rw[if_pos hkn]at hk; cases hk
      . rw[if_neg hkn]at hk; rw[hl2,if_neg hkn]; exact a2 k a hk
   conv=>whnf
   refine eC (fun hn=>?_) (fun j2 a ha hj2=>?_)
   . obtain⟨q1,q2⟩:=ny (b:=(T,tm)) n2 hn;obtain⟨q3,q4⟩:=next _ q1 q2
     conv=>whnf
     refine .go [0,1,2] rfl (Lf.length-1) (by omega) ⟨Lf.eraseIdx j,L' ++ [(nm,T,tm)],c'+1,B', some (.str nm,Gj (T,tm)),rfl,?_,e1,q1,q3,q4,hlen.symm⟩
     rw[<-kp,F6];rfl
   . obtain⟨q1,q2⟩:=nz (b:=(T,tm)) n2 hj2;obtain⟨q3,q4⟩:=next _ q1 q2
     conv=>whnf
     refine .go [0,1,2] rfl (Lf.length-1) (by omega) ⟨Lf.eraseIdx j,L'.set j2 (nm,T,tm),c', B', some (.str nm,Gj (T,tm)),rfl,?_,e1,q1,q3,q4,hlen.symm⟩
     rw[<-kp,F7];rfl
end
section
def bK (t:Tb) (c:Chg) (rs:List Rw):List Rw:=rs.map (cO t.c c.k c.col)
def fG (t:Tb) (c:Chg):Tb:=⟨t.n,(bx t.c t.k c.k c.col).1,(bx t.c t.k c.k c.col).2.1⟩
def cw (l:List Tb) (R:List (List Rw)) (c:Chg) (l' : List Tb):List (List Rw):=l'.map fun x=>match dP l x.n with
 | none=>[]
 | some i=>if x.n=c.t then(match l[i]? with
  | some t=>bK t c (R.getD i [])
  | none=>[])else R.getD i []
structure IY (t:Tb) (c:Chg) (rs:List Rw):Prop where
 rows:RowsOk (fG t c) (bK t c rs)
 can:∀r∈rs,lK t.c c.k c.col r.length
 key:∀r∈rs,ia (fG t c) (cO t.c c.k c.col r)=ia t r
theorem xi {t:Tb} {c:Chg} {rs:List Rw} (hm:fC t.c t.k=true) (hr:RowsOk t rs) (he:(bx t.c t.k c.k c.col).2.2=0):IY t c rs:=by
 have hs:=wE hm;have hT:∀r∈rs,As t.c t.k c.k c.col r:=fun r h=>by
  have hf:=hr.fit r h;refine Gl hs (dq hf) (fun i c v hc hv=>?_) he
  unfold bB at hf;rw[Bool.and_eq_true,decide_eq_true_eq,List.all_eq_true]at hf;have:=hf.2 i (List.mem_range.2 (liZ.1 hv).1);rw[io hc hv]at this;exact this
 have hap:=x7 hs he;have key:∀r∈rs,ia (fG t c) (cO t.c c.k c.col r)=ia t r:=fun r h=>by
  have h1:=hT r h;have hk:(bx t.c t.k c.k c.col).2.1=t.k:=h1.keyed;have o1:aP (bx t.c t.k c.k c.col).1 (bx t.c t.k c.k c.col).2.1.toNat (cO t.c c.k c.col r)=true:=dJ (by have:=hap.len; have:=hap.lo; omega) h1.fits
  have o2:aP t.c t.k.toNat r=true:=dJ (by have:=hs.len; have:=hs.lo; omega) (hr.fit r h)
  unfold ia dK fG;rw[if_pos o1,if_pos o2,hk,h1.same]
 refine⟨⟨?_,fun r h=>?_⟩,fun r h=>(hT r h).can,key⟩
 . have e:lX (fG t c) (bK t c rs)=rs.map fun r=>(ia t r,cO t.c c.k c.col r):=by
    unfold lX iX bK;rw[List.map_map];exact List.map_congr_left fun r h=>by
     show(dK _ _ _,_)=_
     rw[show dK (fG t c).c (fG t c).k.toNat (cO t.c c.k c.col r)=ia t r from key r h]
   rw[e];have:=hr.srt;unfold aO lX iX at *;rw[List.pairwise_map]at this ⊢;exact this
 . obtain⟨r0,h0,rfl⟩:=List.mem_map.1 h;exact(hT r0 h0).fits
theorem TrOk.snoc {t:Tb} {p q:List Rw} {r:Rw} {T:Tr Rw} {m:Int} {b:Nat} (h:TrOk t p T m b) (hs:aO (lX t (p++r::q))) (hb:b<1000000000) :
 TrOk t (p ++ [r]) (iM (ia t r) r T) (if(dE (ia t r) T).isNil then IntKind.i64.wrap (m+1)else m) (b+1):=by
 have h1:=h.putd hb r;have hlt:∀x∈lX t p,Op.bytesLess x.1 (ia t r)=true:=by
  unfold lX at hs;rw[eS]at hs;have:=(f0 (show aO (iX t.c t.k.toNat p++(ia t r,r)::iX t.c t.k.toNat q)from hs)).2.2.1
  exact this
 have e:jP t.c t.k.toNat p r=p ++ [r]:=by
  refine Hw (C:=t.c) (K:=t.k.toNat) ?_;rw[<-A9,eS];exact yQ hlt
 rw[e]at h1;exact h1
theorem wo {l l' : List Tb} {c:Chg} (hl:TbsB l) (h:cZ l c.k c.t c.c c.ks c.col=(l', 0)) {x:Tb} (hx:x∈l') :
 (x∈l/\x.n≠c.t)\/(x.n=c.t/\c.k=1/\dP l c.t=none)\/(x.n=c.t/\c.k≠1/\c.k≠2 /\ ∃i t,dP l c.t=some i/\l[i]? = some t/\x=fG t c/\(bx t.c t.k c.k c.col).2.2=0):=by
 have hs:=hl.ok.sorted;have other:∀y∈l,∀i,dP l c.t=some i->(∀t,l[i]? = some t->y≠t)->y.n≠c.t:=fun y hy i hi hne e=>by
  obtain⟨j,hj⟩:=List.mem_iff_getElem?.1 hy;have:=eR hs hj;rw[e,hi]at this;cases this;exact hne y hj rfl
 unfold cZ at h;by_cases h1:c.k=1
 . rw[if_pos h1]at h;split at h
   . cases h
   split at h
   . cases h
   rename_i c2;split at h
   . cases h
   split at h
   . cases h
   cases h;have hn:dP l c.t=none:=by
    cases ha:dP l c.t with
    | none=>rfl
    | some j=>rw[ha]at c2; simp at c2
   unfold kU at hx;have hno:∀y∈l,y.n≠c.t:=fun y hy=>by
    have:=En hn (nw y) (List.mem_map.2 ⟨y,hy,rfl⟩);exact this
   rcases List.mem_append.1 hx with hx | hx
   . exact .inl ⟨List.mem_of_mem_take hx,hno x (List.mem_of_mem_take hx)⟩
   . rcases List.mem_cons.1 hx with rfl | hx
     . exact .inr (.inl ⟨rfl,h1,hn⟩)
     . exact .inl ⟨List.mem_of_mem_drop hx,hno x (List.mem_of_mem_drop hx)⟩
 rw[if_neg h1]at h;cases ha:dP l c.t with
 | none=>rw[ha]at h; cases h
 | some i =>
  rw[ha]at h;obtain⟨t,hti,htn,hil⟩:=bY ha;simp only[hti]at h;by_cases h2:c.k=2
  . rw[if_pos h2]at h;cases h;refine .inl ⟨List.mem_of_mem_eraseIdx hx,?_⟩;obtain⟨j,hj⟩:=List.mem_iff_getElem?.1 hx;rw[List.getElem?_eraseIdx]at hj;intro e;split at hj
    . have:=eR hs hj;rw[e,ha]at this;cases this; omega
    . have:=eR hs hj;rw[e,ha]at this;cases this; omega
  . rw[if_neg h2]at h;split at h
    . rename_i hne;exact absurd (Prod.mk.inj h).2 hne
    . rename_i he;cases h;obtain⟨j,hj⟩:=List.mem_iff_getElem?.1 hx;rw[List.getElem?_set]at hj;split at hj
      . cases hj;exact .inr (.inr ⟨htn,h1,h2,i,t,rfl,hti,rfl,Decidable.not_not.1 he⟩)
      . rename_i hij;refine .inl ⟨List.mem_of_getElem? hj,fun e=>?_⟩
        have:=eR hs hj;rw[e,ha]at this;cases this; exact hij rfl
theorem rK {l l' : List Tb} {R:List (List Rw)} {vw vw' : Vw} {b:Nat} {c:Chg} (h:RsOk l R vw b) (hf:cZ l c.k c.t c.c c.ks c.col=(l', 0))
 (ho:∀k,k≠c.t->vw' k=vw k) (h1:c.k=1->vw' c.t=some (.nil,0))
 (h3:c.k≠1->c.k≠2 -> ∀(i:Nat) t,dP l c.t=some i->l[i]? = some t -> ∃T m,vw' c.t=some (T,m)/\TrOk (fG t c) (bK t c (R.getD i [])) T m b) :
 RsOk l' (cw l R c l') vw' b:=by
 have hl:=h.tbs;have hs:=hl.ok.sorted;have hl' : TbsB l' := by
  have:=qO (c:=c.col) (k:=c.k) (t:=c.t) (cs:=c.c) (ks:=c.ks) hl (by rw[hf])
  rw[hf]at this; exact this
 have key:∀x∈l', ∀rs,(match dP l x.n with
  | none=>[]
  | some i=>if x.n=c.t then(match l[i]? with
   | some t=>bK t c (R.getD i [])
   | none=>[])else R.getD i [])=rs->RowsOk x rs /\ ∃T m,vw' x.n=some (T,m)/\TrOk x rs T m b:=fun x hx rs hrs=>by
  rcases wo hl hf hx with⟨hxl,hne⟩ | ⟨hn,hk,hno⟩ | ⟨hn,hk1,hk2,i,t,ha,hti,rfl,he⟩
  . obtain⟨i,hi⟩:=List.mem_iff_getElem?.1 hxl;rw[eR hs hi]at hrs;simp only[if_neg hne]at hrs;have hil:=(liZ.1 hi).1;have hR:R[i]? = some rs:=by
     have:R[i]? = some (R[i]'(by rw[h.len]; exact hil)):=aS _
     rw[this,<-hrs,List.getD_eq_getElem?_getD,this]; rfl
    rw[ho _ hne];exact⟨h.rows i x rs hi hR,h.tree i x rs hi hR⟩
  . rw[hn,hno]at hrs;subst hrs;refine⟨RowsOk.nil x,.nil,0,by rw[hn]; exact h1 hk,TOk.nil.mono (Nat.zero_le _),rfl⟩
  . rw[hn,ha]at hrs;simp only[if_true,hti]at hrs;subst hrs;have hil:=(liZ.1 hti).1;have hR:R[i]? = some (R.getD i []):=by
     have:R[i]? = some (R[i]'(by rw[h.len]; exact hil)):=aS _
     rw[List.getD_eq_getElem?_getD,this]; rfl
    refine⟨(xi (hl.ok.each t (List.mem_of_getElem? hti)).sch (h.rows i t _ hti hR) he).rows,?_⟩;rw[hn];exact h3 hk1 hk2 i t ha hti
 refine⟨hl', by simp[cw],fun j x rs hj hr=>?_,fun j x rs hj hr=>?_⟩
 all_goals
  unfold cw at hr;rw[List.getElem?_map,hj]at hr;have:=key x (List.mem_of_getElem? hj) rs (Option.some.inj hr)
 . exact this.1
 . exact this.2
def bq (s:SS) (c:Chg):SS × Int :=
 if cm ⟨6,0,[],[],[],c⟩ s.l=0 then
  (if(cZ s.l c.k c.t c.c c.ks c.col).2=0 then
   (⟨(cZ s.l c.k c.t c.c c.ks c.col).1,cw s.l s.R c (cZ s.l c.k c.t c.c c.ks c.col).1,aR s.log [bh 2 s.n,⟨6,0,[],[],[],c⟩,bh 7 s.n],s.n+1,s.m+1⟩,0)
  else(s,(cZ s.l c.k c.t c.c c.ks c.col).2))
 else(s,1)
end
section
variable {Q:V->List O->Prop}
theorem Kt {l:List Tb} {n:List UInt8} (h:dP l n≠none):∃x∈l,x.n=n:=by
 cases ha:dP l n with
 | none=>exact absurd ha h
 | some i=>obtain⟨t,h1,h2,_⟩:=bY ha; exact⟨t,List.mem_of_getElem? h1,h2⟩
theorem IA {l:List Tb} (hs:eQ l) {x:Tb} (h:x∈l):dP l x.n≠none:=by
 obtain⟨i,hi⟩:=List.mem_iff_getElem?.1 h;rw[eR hs hi]; simp
theorem yF {l l' : List Tb} {c:Chg} (hl:TbsB l) (h:cZ l c.k c.t c.c c.ks c.col=(l', 0)):(∀y∈l,y.n≠c.t->y∈l')/\(c.k≠2 -> ∃x∈l', x.n=c.t):=by
 unfold cZ at h;by_cases h1:c.k=1
 . rw[if_pos h1]at h;split at h
   . cases h
   split at h
   . cases h
   split at h
   . cases h
   split at h
   . cases h
   cases h;unfold kU;refine⟨fun y hy _=>?_,fun _=>⟨_,List.mem_append.2 (.inr (List.mem_cons_self ..)),rfl⟩⟩
   rw[<-List.take_append_drop (kX l c.t) l]at hy;rcases List.mem_append.1 hy with hy | hy
   . exact List.mem_append.2 (.inl hy)
   . exact List.mem_append.2 (.inr (List.mem_cons_of_mem _ hy))
 rw[if_neg h1]at h;cases ha:dP l c.t with
 | none=>rw[ha]at h; cases h
 | some i =>
  rw[ha]at h;obtain⟨t,hti,htn,hil⟩:=bY ha;simp only[hti]at h;have hne:∀(j:Nat) y,l[j]? = some y->y.n≠c.t->j≠i:=fun j y hj hy e=>by
   subst e; rw[hti]at hj; cases hj; exact hy htn
  by_cases h2:c.k=2
  . rw[if_pos h2]at h;cases h;refine⟨fun y hy hn=>?_,fun h=>absurd h2 h⟩
    obtain⟨j,hj⟩:=List.mem_iff_getElem?.1 hy;exact List.mem_eraseIdx_iff_getElem?.2 ⟨j,hne j y hj hn,hj⟩
  . rw[if_neg h2]at h;split at h
    . rename_i hne;exact absurd (Prod.mk.inj h).2 hne
    . cases h;refine⟨fun y hy hn=>?_,fun _=>⟨⟨t.n,_,_⟩,List.mem_set hil _,htn⟩⟩
      obtain⟨j,hj⟩:=List.mem_iff_getElem?.1 hy;refine List.mem_iff_getElem?.2 ⟨j,?_⟩;rw[List.getElem?_set_ne (Ne.symm (hne j y hj hn))];exact hj
structure BI (l:List Tb) (R:List (List Rw)) (L:List gF) (c:Chg) (l' : List Tb) (L' : List gF) (b:Nat):Prop where
 rs:RsOk l' (cw l R c l') (fun k=>cH k L') b
 nd:NodupN L'
 dom:∀k,cH k L'≠none->dP l' k≠none
theorem wn {l l' : List Tb} {L L' : List gF} {c:Chg} (hl:TbsB l) (h:cZ l c.k c.t c.c c.ks c.col=(l', 0)) (hd:∀k,cH k L≠none->dP l k≠none) (ho:∀k,k≠c.t->cH k L'=cH k L) (h2:c.k=2->cH c.t L'=none) :
 ∀k,cH k L'≠none->dP l' k≠none:=fun k hk=>by
 obtain⟨k1,k2⟩:=yF hl h;have hl' : TbsB l' := by
  have:=qO (c:=c.col) (k:=c.k) (t:=c.t) (cs:=c.c) (ks:=c.ks) hl (by rw[h])
  rw[h]at this; exact this
 by_cases hkt:k=c.t
 . subst hkt;obtain⟨x,hx,hxn⟩:=k2 fun h=>hk (h2 h)
   rw[<-hxn];exact IA hl'.ok.sorted hx
 . rw[ho k hkt]at hk;obtain⟨y,hy,hyn⟩:=Kt (hd k hk);rw[<-hyn];exact IA hl'.ok.sorted (k1 y hy (by rw[hyn]; exact hkt))
theorem Ar {B:List (Nat × List V)} (h:∀b,Q (.raw (.pointer (some ⟨b,0,none⟩))) [.bag (B ++ [(b,[.im (cY fR .nil),.int .i64 0])]),.dead]):ACall Tryz.prog 102 1 [] [.bag B] Q:=by
 refine ACall.stash (ACall.sub (ad Tryz.func102 1 rfl (aA rfl) ?_))
 conv=>whnf
 exact⟨[0,1],rfl,_,_,.refl _,.cons (.refl _) (.cons (.cells (cs' := [.im .nilp,.int .i64 0]) (.cons (.im rfl) (.cons (.refl _) .nil))) HSub.nil),0,1,B,[.im (cY fR .nil),.int .i64 0],rfl,by decide,rfl,rfl,by simp[aY],h⟩
theorem CQ {t:Tr Rw} {n:Int} {key:List UInt8} {v:Rw} {bb:Nat} (ht:t.ht<1152921504606846976)
 (h:Q (.bool (!(dE key t).isNil)) [.bag [(bb,[.im (cY fR (iM key v t)),.int .i64 (if(dE key t).isNil then IntKind.i64.wrap (n+1)else n)])],.dead]) :
 ACall Tryz.prog 103 1 [.raw (.pointer (some ⟨bb,0,none⟩)),.str key,fR v] [.bag [(bb,[.im (cY fR t),.int .i64 n])]] Q:=by
 refine ACall.lendAt («as»:=[]) (as2:=[.str key,fR v]) (H0:=[]) (l1:=[]) (l2:=[]) (b:=bb) (cs:=[.im (cY fR t),.int .i64 n]) ?_;refine ad Tryz.func103 2 rfl (aA rfl) ?_
 conv=>whnf
 refine .call [1] 1 ⟨rfl,rfl,rfl⟩ (jE ?_)
 conv=>whnf
 cases hf:dE key t with
 | nil =>
  rw[hf]at h
  conv=>whnf
  refine .call [] 0 ⟨rfl,rfl,rfl⟩ (oq t ht ?_)
  conv=>whnf
  exact⟨[0,1],rfl,[],[],[.im (cY fR (iM key v t)),.int .i64 (IntKind.i64.wrap (n+1))],rfl,rfl,by simp[aY],h⟩
 | node k w a b =>
  rw[hf]at h
  conv=>whnf
  refine .call [] 0 ⟨rfl,rfl,rfl⟩ (oq t ht ?_)
  conv=>whnf
  exact⟨[0,1],rfl,[],[],[.im (cY fR (iM key v t)),.int .i64 n],rfl,rfl,by simp[aY],h⟩
def FJ (c:jq) (t:Tb) (ch:Chg) (rs:List Rw) (bb:Nat) (pre:List (List V)) (Hs:List O):Prop :=
 ∃(p q:List Rw) (T:Tr Rw) (m:Int),rs=p++q/\pre=cM fR (lX t p)/\TrOk (fG t ch) (bK t ch p) T m p.length /\
  Hs = [.loop c .ready [(3,.ptr 1 0),(4,.ptr 2 0),(6,.ptr 4 0)],.cells [fI ch.k,.str ch.t,.sl 3 (cols ch.c) false,fI ch.ks,.str ch.col.n,fI ch.col.k,.bool ch.col.o],.cells [.sl 3 (cols t.c) false,.int .i64 t.k],
   .bag [(bb,[.im (cY fR T),.int .i64 m])],.cells [.raw (.pointer (some ⟨bb,0,none⟩))]]
theorem JU {L:List gF} {t:List UInt8} {T:Tr Rw} {m:Int} {bb:Nat}:∀(n:Nat) (x y:V × V),(fO L ++ [(V.str t,V.raw (.pointer (some ⟨bb,0,none⟩)))])[n]? = some x->(fO (L ++ [(t,(T,m))]))[n]? = some y ->
 y=x \/ ∃b cs,(b,cs) ∈ [(bb,[V.im (cY fR T),V.int .i64 m])]/\x.2 = .raw (.pointer (some ⟨b,0,none⟩))/\y=(x.1,.ip cs 0):=fun n x y hx hy=>by
 unfold fO at hx hy;rw[<-nW]at hy;rcases Nat.lt_or_ge n (eD Gj L).length with hl | hl
 . rw[List.getElem?_append_left hl]at hx hy;rw[hx]at hy; cases hy; exact .inl rfl
 . rw[List.getElem?_append_right hl]at hx hy;have h0:n-(eD Gj L).length=0:=by
    have:=(liZ.1 hx).1;simp at this; omega
   rw[h0]at hx hy;cases hx; cases hy;exact .inr ⟨bb,_,List.mem_singleton.2 rfl,rfl,rfl⟩
theorem FS {L:List gF} {t:List UInt8} {T:Tr Rw} {m:Int} {bb j:Nat}:∀(n:Nat) (x y:V × V),((fO L).set j (V.str t,V.raw (.pointer (some ⟨bb,0,none⟩))))[n]? = some x->(fO (L.set j (t,(T,m))))[n]? = some y ->
 y=x \/ ∃b cs,(b,cs) ∈ [(bb,[V.im (cY fR T),V.int .i64 m])]/\x.2 = .raw (.pointer (some ⟨b,0,none⟩))/\y=(x.1,.ip cs 0):=fun n x y hx hy=>by
 unfold fO at hx hy;rw[<-yX]at hy;rw[List.getElem?_set]at hx hy;split at hx
 . rename_i h1;rw[if_pos h1]at hy;split at hx
   . rename_i h2;rw[if_pos h2]at hy;cases hx; cases hy;exact .inr ⟨bb,_,List.mem_singleton.2 rfl,rfl,rfl⟩
   . cases hx
 . rename_i h1;rw[if_neg h1]at hy;rw[hx]at hy; cases hy; exact .inl rfl
theorem w9 {l l' : List Tb} {R:List (List Rw)} {L:List gF} {c:Nat} {log:List UInt8} {n m:Int} {b:Nat} {ch:Chg}
 (hR:RsOk l R (fun k=>cH k L) b) (hn:NodupN L) (hd:∀k,cH k L≠none->dP l k≠none) (hb:b<900000) (hf:cZ l ch.k ch.t ch.c ch.ks ch.col=(l', 0)) (hk:1<=ch.k/\ch.k<=5)
 (h:∀L' c', BI l R L ch l' L' b->Q (.tup []) (bP l L' c' log n m)):ACall Tryz.prog 60 2 [.ptr 0 0,vZ ch] (bP l L c log n m) Q:=by
 refine ACall.sel (ACall.unbag (ad Tryz.func60 2 rfl (aA rfl) ?_));have hl:=hR.tbs;have hcl:=hl.cols
 conv=>whnf
 refine⟨List.range 13,by kernel_rfl,by kernel_rfl,?_⟩
 conv=>whnf
 refine .pure (fb (by have:=hl.few; omega) hl.ok.sorted (fun x hx=>by have:=hcl x hx; omega) ⟨rfl,?_⟩)
 obtain⟨C,K,is,hfr,hfs⟩:∃C K is,qa (cf l ch.t) = .tup [sch C K,.bool is] /\ ∀i x,dP l ch.t=some i->l[i]? = some x->C=x.c/\K=x.k:=by
  cases hft:cf l ch.t with
  | none=>exact⟨_,_,_,rfl,fun i x h1 h2=>by rw[fV h1 h2]at hft; cases hft⟩
  | some x=>exact⟨x.1,x.2,_,rfl,fun i y h1 h2=>by rw[fV h1 h2]at hft; cases hft; exact⟨rfl,rfl⟩⟩
 rw[hfr]
 repeat (conv=>whnf
         refine⟨rfl,?_⟩)
 conv=>whnf
 refine .adopt rfl (.sub [] (bP l L c log n m ++ [O.cells [fI ch.k,.str ch.t,.sl 3 (cols ch.c) false,fI ch.ks,.str ch.col.n,fI ch.col.k,.bool ch.col.o],O.cells [.sl 3 (cols C) false,.int .i64 K],O.bag []]) rfl .nil (.cons (.refl _) (.cons (.refl _) (.cons (.refl _) (.cons (.refl _) (.cons (.bag0 _) HSub.nil))))) (.call [4] 1 ⟨rfl,rfl,rfl⟩ (Ar (B:=[]) fun bb=>?_)))
 conv=>whnf
 by_cases h2:ch.k=2
 . rw[show decide (ch.k=2)=true from decide_eq_true h2]
   conv=>whnf
   refine⟨List.range 7,by kernel_rfl,by kernel_rfl,?_⟩
   conv=>whnf
   have fin:∀L', NodupN L'->(∀k,cH k L'=if k=ch.t then none else cH k L)->BI l R L ch l' L' b:=fun L' hn' hl2 =>
    ⟨rK hR hf (fun k hk=>by rw[hl2,if_neg hk]) (fun h1=>absurd (h1.symm.trans h2) (by decide)) (fun _ h3=>absurd h2 h3),hn', wn hl hf hd (fun k hk=>by rw[hl2,if_neg hk]) fun _=>by rw[hl2,if_pos rfl]⟩
   refine eC (fun hno=>?_) (fun j a ha hj=>?_)
   . conv=>whnf
     have h:=h L c (fin L hn fun k=>by
      by_cases hk:k=ch.t
      . rw[if_pos hk,hk,hno]
      . rw[if_neg hk])
     exact⟨[0,1,4],rfl,2,1,c,_,fO L,fO L,by decide,rfl,rfl,rfl,fun _ x y hx hy=>.inl (by rw[hx]at hy; exact(Option.some.inj hy).symm),[0,1],rfl,h⟩
   . obtain⟨q1,q2⟩:=oO hn hj;have h:=h (L.eraseIdx j) c (fin _ q1 q2)
     conv=>whnf
     refine⟨[0,1,4],rfl,2,1,c,_,(fO L).eraseIdx j,fO (L.eraseIdx j),by decide,rfl,rfl,by unfold fO; rw[kp],fun _ x y hx hy=>.inl ?_,[0,1],rfl,h⟩
     unfold fO at hx hy;rw[kp,hy]at hx;exact Option.some.inj hx
 rw[show decide (ch.k=2)=false from decide_eq_false h2]
 conv=>whnf
 by_cases h1:ch.k=1
 . rw[show decide (ch.k=3)=false from decide_eq_false (by omega)]
   conv=>whnf
   rw[show decide (ch.k=4)=false from decide_eq_false (by omega)]
   conv=>whnf
   rw[show decide (ch.k=5)=false from decide_eq_false (by omega)]
   conv=>whnf
   refine⟨List.range 8,by kernel_rfl,by kernel_rfl,?_⟩
   conv=>whnf
   have fin:∀L', NodupN L'->(∀k,cH k L'=if k=ch.t then some (.nil,0)else cH k L)->BI l R L ch l' L' b:=fun L' hn' hl2 =>
    ⟨rK hR hf (fun k hk=>by rw[hl2,if_neg hk]) (fun _=>by rw[hl2,if_pos rfl]) (fun h3 _=>absurd h1 h3),hn', wn hl hf hd (fun k hk=>by rw[hl2,if_neg hk]) fun h3=>absurd h3 h2⟩
   refine eC (fun hno=>?_) (fun j a ha hj=>?_)
   . obtain⟨q1,q2⟩:=ny (b:=((.nil:Tr Rw),(0:Int))) hn hno;have h:=h _ (c+1) (fin _ q1 q2)
     conv=>whnf
     exact⟨[0,1,4],rfl,2,1,c+1,_,_,fO (L ++ [((ch.t,((Tr.nil:Tr Rw),(0:Int))):gF)]),by decide,rfl,rfl,by simp[fO,eD],JU,[0,1],rfl,h⟩
   . obtain⟨q1,q2⟩:=nz (b:=((.nil:Tr Rw),(0:Int))) hn hj;have h:=h _ c (fin _ q1 q2)
     conv=>whnf
     exact⟨[0,1,4],rfl,2,1,c,_,_,fO (L.set j (ch.t,(.nil,0))),by decide,rfl,rfl,by simp[fO,eD],FS,[0,1],rfl,h⟩
 have hk35:ch.k=3\/ch.k=4\/ch.k=5:=by omega
 obtain⟨i,t,hat,hti,hap⟩:∃i t,dP l ch.t=some i/\l[i]? = some t/\(bx t.c t.k ch.k ch.col).2.2=0:=by
  obtain⟨x,hx,hxn⟩:=(yF hl hf).2 h2;rcases wo hl hf hx with⟨_,hne⟩ | ⟨_,hk1,_⟩ | ⟨_,_,_,i,t,a1,a2,_,a3⟩
  . exact absurd hxn hne
  . exact absurd hk1 h1
  . exact⟨i,t,a1,a2,a3⟩
 obtain⟨t', hti', htn,hil⟩:=bY hat;rw[hti]at hti'; cases hti';have hRi:R[i]? = some (R[i]'(by rw[hR.len]; exact hil)):=aS _
 generalize (R[i]'(by rw[hR.len]; exact hil))=rs at hRi
 have hgd:R.getD i []=rs:=by rw[List.getD_eq_getElem?_getD,hRi]; rfl
 obtain⟨hC,hK⟩:=hfs i t hat hti;obtain⟨T,tm,hvw,hT⟩:=hR.tree i t rs hti hRi;have hrs:=hR.rows i t rs hti hRi;have htu:=xi (c:=ch) (hl.ok.each t (List.mem_of_getElem? hti)).sch hrs hap;rw[htn]at hvw;subst hC hK;rcases hk35 with h3 | h3 | h3
 focus
  rw[show decide (ch.k=3)=true from decide_eq_true h3]
  conv=>whnf
 rotate_left
 focus
  rw[show decide (ch.k=3)=false from decide_eq_false (by omega)]
  conv=>whnf
  rw[show decide (ch.k=4)=true from decide_eq_true h3]
  conv=>whnf
 rotate_left
 focus
  rw[show decide (ch.k=3)=false from decide_eq_false (by omega)]
  conv=>whnf
  rw[show decide (ch.k=4)=false from decide_eq_false (by omega)]
  conv=>whnf
  rw[show decide (ch.k=5)=true from decide_eq_true h3]
  conv=>whnf
 all_goals
  refine⟨List.range 8,by kernel_rfl,by kernel_rfl,?_⟩
  conv=>whnf
  refine eC (fun hno=>by simp only[hno]at hvw; cases hvw) (fun j a ha hj=>?_)
  simp only[ha]at hvw;cases hvw
  repeat (conv=>whnf
          refine⟨rfl,?_⟩)
  conv=>whnf
  refine .call [] 0 ⟨rfl,rfl,rfl⟩ (rf ?_)
  repeat (conv=>whnf
          refine⟨rfl,?_⟩)
  conv=>whnf
  have hL:cM fR (bE [] T)=cM fR (lX t rs):=by rw[EW hT.ok.srt,hT.eq]
  have hcl16:=hcl t (List.mem_of_getElem? hti);have hpl:rs.length<=b:=hT.fewr;have hplp:∀p q:List Rw,rs=p++q->p.length<=b:=fun p q h=>by rw[h,aD]at hpl; omega
  refine⟨[3,4,6],fun cl hcl2=>.pack [9,2,3,4,6] [7,8] 5 (FJ cl t ch rs bb []) (FJ cl t ch rs bb (cM fR (bE [] T))) rfl ⟨[],rs,.nil,0,rfl,rfl,⟨TOk.nil,rfl⟩,rfl⟩ fun ks B hks=>?_⟩
  refine pF (J:=FJ cl t ch rs bb) (S:=fun _=>False) (J' := FJ cl t ch rs bb (cM fR (bE [] T))) (kK ?_ ?_) (fun _ hx=>hx) (fun _ hx=>hx.elim) ?_
  . intro x hx;simp only[cM,List.mem_map]at hx;obtain⟨kv,_,rfl⟩:=hx;rfl
  . rintro pre x post Hs hp ⟨p,q,T', m', hpq,hpre,hT', rfl⟩;have hpb:=hplp p q hpq;rw[hks];subst hcl2;rw[hL,hpre,hpq]at hp;obtain⟨r,q', rfl,rfl⟩:∃r q', q=r::q'/\x = [.str (ia t r),fR r]:=by
     unfold cM lX at hp;rw[eS,List.map_append,List.append_cancel_left_eq]at hp;cases q with
     | nil=>cases hp
     | cons r q' => exact⟨r,q', rfl,(List.cons.inj hp).1⟩
    have hrm:r∈rs:=by rw[hpq]; simp
    have hrl:=dq (hrs.fit r hrm);have hca:=htu.can r hrm;have hTn:=hT'.snoc (r:=cO t.c ch.k ch.col r) (q:=bK t ch q') (by
     have:=htu.rows.srt;rw[hpq,show bK t ch (p++r::q')=bK t ch p++cO t.c ch.k ch.col r::bK t ch q' by unfold bK; rw[List.map_append]; rfl]at this
     exact this) (by omega)
    rw[htu.key r hrm]at hTn;have hTn2:TrOk (fG t ch) (bK t ch (p ++ [r])) (iM (ia t r) (cO t.c ch.k ch.col r) T') (if(dE (ia t r) T').isNil then IntKind.i64.wrap (m'+1)else m') (p ++ [r]).length:=by
     have e:bK t ch (p ++ [r])=bK t ch p ++ [cO t.c ch.k ch.col r]:=by unfold bK; rw[List.map_append]; rfl
     rw[e,aD];exact hTn
    have hht:=hT'.ok.ht;refine ke (B0 0 0) ?_
    conv=>whnf
    refine⟨List.range 7,by kernel_rfl,by kernel_rfl,?_⟩
    conv=>whnf
    refine .pure (CU (l:=t.c) (keys:=t.k) (k:=ch.k) (c:=ch.col) (r:=r) (by omega) (by omega) hca ⟨rfl,?_⟩)
    repeat (conv=>whnf
            refine⟨rfl,?_⟩)
    conv=>whnf
    generalize cO t.c ch.k ch.col r=r' at *;refine .call [3] 1 ⟨rfl,rfl,rfl⟩ (CQ (t:=T') (n:=m') (key:=ia t r) (v:=r') (by omega) ?_)
    generalize iM (ia t r) r' T'=T2 at *;generalize (if(dE (ia t r) T').isNil=true then IntKind.i64.wrap (m'+1)else m')=m2 at *
    repeat (conv=>whnf
            refine⟨rfl,?_⟩)
    conv=>whnf
    exact .done [0,1,2,3,4] rfl (.inl ⟨rfl,p ++ [r],q', T2,m2,by rw[hpq]; simp,by rw[hpre]; unfold cM lX; rw[eS,List.map_append]; rfl,hTn2,rfl⟩)
  . intro B';refine⟨B', _,rfl,rfl,?_⟩;rintro Hs ⟨p,q,T', m', hpq,hpre,hT', rfl⟩ _;have hpe:p=rs:=by
     rw[hL]at hpre;have:=congrArg List.length hpre;unfold cM lX at this;rw[List.length_map,List.length_map,wx,wx,hpq,aD]at this;rw[hpq,List.eq_nil_of_length_eq_zero (show q.length=0 by omega),List.append_nil]
    subst hpe;have fin:∀L', NodupN L'->(∀k,cH k L'=if k=ch.t then some (T', m')else cH k L)->BI l R L ch l' L' b:=fun L' hn' hl2 =>
     ⟨rK hR hf (fun k hk=>by rw[hl2,if_neg hk]) (fun h=>absurd h h1) (fun _ _ i' t' hi' ht' => by
      rw[hat]at hi';cases hi';rw[hti]at ht';cases ht';rw[hgd];exact⟨T', m', by rw[hl2,if_pos rfl],hT'.mono hpl⟩),hn', wn hl hf hd (fun k hk=>by rw[hl2,if_neg hk]) fun h3=>absurd h3 h2⟩
    conv=>whnf
    refine⟨List.range 8,by kernel_rfl,by kernel_rfl,?_⟩
    conv=>whnf
    refine eC (fun hno=>by rw[ha]at hno; cases hno) (fun j2 a2 ha2 hj2=>?_)
    obtain⟨q1,q2⟩:=nz (b:=(T', m')) hn hj2;have h:=h _ c (fin _ q1 q2)
    conv=>whnf
    exact⟨[0,1,4],rfl,2,1,c,_,_,fO (L.set j2 ((ch.t,((T' : Tr Rw),(m' : Int))):gF)),by decide,rfl,rfl,by simp[fO,eD],FS,[0,1],rfl,h⟩
def Jo (c:Chg):List V:=[fI 6,fI 0,.str [],.nils,.nils,fI c.k,.str c.t,.sl 3 (cols c.c) false,fI c.ks,.str c.col.n,fI c.col.k,.bool c.col.o]
theorem EP (c:Chg):VSubs (Jo c) (zW ⟨6,0,[],[],[],c⟩):=.cons (.refl _) (.cons (.refl _) (.cons (.refl _) (.cons (au false) (.cons (au false) (VSubs.refl _)))))
theorem DX (a b:Int) (c:Chg) (n:Int) (f:Bool):VSub (.sl 12 [mr a n,Jo c,mr b n] f) (.sl 12 (dz [bh a n,⟨6,0,[],[],[],c⟩,bh b n]) f):=VSub.slRows rfl fun i e e' h1 h2=>by
 match i with
 | 0=>cases h1; cases h2; exact Bd a n
 | 1=>cases h1; cases h2; exact EP c
 | 2=>cases h1; cases h2; exact Bd b n
 | i+3=>simp at h1
theorem xN {l:List Tb} {L:List gF} {c:Nat} {log:List UInt8} {n m k:Int} {ch:Chg} (hl:TbsB l) (he:∀e ∈ [bh 2 k,⟨6,0,[],[],[],ch⟩,bh 7 k],cm e l=0/\gl e/\oI e) (hs:log.length+1000020*3<=800000000)
 (h:Q (.tup []) (bP l L c (aR log [bh 2 k,⟨6,0,[],[],[],ch⟩,bh 7 k]) n m ++ [.dead])):ACall Tryz.prog 59 3 [.ptr 0 0,.ms 12 2 0 3 true] (bP l L c log n m ++ [.buf [mr 2 k,Jo ch,mr 7 k]]) Q:=by
 refine ACall.stay (k:=2) 1 rfl (ACall.frzIn 2 rfl ?_ (ACall.selInK [0,1] rfl (Nat.le_refl 2) (ACall.args (bs:=[.ptr 0 0,.sl 12 (dz [bh 2 k,⟨6,0,[],[],[],ch⟩,bh 7 k]) true]) (.cons (.refl _) (.cons (DX 2 7 ch k true) .nil)) (ix (l:=l) (L:=L) (c:=c) (log:=log) (n:=n) (m:=m) hl he (by simp; omega) h))))
 exact⟨Nat.le_refl 3,trivial⟩
set_option maxRecDepth 8000 in
theorem pN {s:SS} {L:List gF} {c:Nat} {b:Nat} {ch:Chg} (hS:SrcOk s L b) (hB:SrcB s 1000000) (hc:ch.c.length<9223372036854775808) (hb:b<900000) (hs:s.log.length+1000020*3<=800000000)
 (h:∀L' c', SrcOk (bq s ch).1 L' b->Q (fI (bq s ch).2) (mi (bq s ch).1 L' c')) :
 ACall Tryz.prog 33 2 [.ptr 0 0,vZ ch] (mi s L c) Q:=by
 refine ad Tryz.func33 2 rfl (aA rfl) ?_;have h1:=hB.n0; have h2:=hB.n1; have h3:=hB.m0; have h4:=hB.m1;have hl:=hS.rs.tbs
 conv=>whnf
 refine⟨List.range 7,by kernel_rfl,by kernel_rfl,?_⟩
 conv=>whnf
 refine .pure (ACall.args (.cons (n7 6 0 ch) (VSubs.refl _)) (rd (e:=⟨6,0,[],[],[],ch⟩) hl (ES 6 0 hc) ⟨rfl,?_⟩));have hcs:cm ⟨6,0,[],[],[],ch⟩ s.l≠0->bq s ch=(s,1):=fun hx=>by unfold bq; rw[if_neg hx]
 have hm0:cm ⟨6,0,[],[],[],ch⟩ s.l=0->ChgI ch:=fun hx=>by
  have:=dF hx;cases this with
  | ins k t a C K hk _ _=>exact absurd hk (by omega)
  | alt _ h=>exact h
  | num k n hk _=>exact absurd hk (by decide)
 have hal:cm ⟨6,0,[],[],[],ch⟩ s.l=0->bq s ch=(if(cZ s.l ch.k ch.t ch.c ch.ks ch.col).2=0 then
  (⟨(cZ s.l ch.k ch.t ch.c ch.ks ch.col).1,cw s.l s.R ch (cZ s.l ch.k ch.t ch.c ch.ks ch.col).1,aR s.log [bh 2 s.n,⟨6,0,[],[],[],ch⟩,bh 7 s.n],s.n+1,s.m+1⟩,0)
  else(s,(cZ s.l ch.k ch.t ch.c ch.ks ch.col).2)):=fun hx=>by unfold bq; rw[if_pos hx]
 generalize hme:cm ⟨6,0,[],[],[],ch⟩ s.l=me at *
 repeat (conv=>whnf
         refine⟨rfl,?_⟩)
 conv=>whnf
 refine ac (fun c1=>?_) (fun c1=>?_)<;>try rw[c1]<;>conv=>whnf
 . rw[hcs (by simpa using c1)]at h
   exact⟨[0,1],rfl,h L c hS⟩
 have c1' : me=0:=by simpa using c1
 have hci:=hm0 c1';rw[hal c1']at h;refine⟨List.range 11,by kernel_rfl,by kernel_rfl,?_⟩
 conv=>whnf
 refine .pure (xw hl ⟨rfl,?_⟩);generalize hfo:cZ s.l ch.k ch.t ch.c ch.ks ch.col=fo at *
 repeat (conv=>whnf
         refine⟨rfl,?_⟩)
 conv=>whnf
 refine ac (fun c2=>?_) (fun c2=>?_)<;>try rw[c2]<;>conv=>whnf
 . rw[if_neg (by simpa using c2)]at h
   exact⟨[0,1],rfl,h L c hS⟩
 have c2' : fo.2=0:=by simpa using c2
 rw[if_pos c2']at h;refine⟨List.range 14,by kernel_rfl,by kernel_rfl,?_⟩
 conv=>whnf
 have hk15:1<=ch.k/\ch.k<=5:=by
  cases hci with
  | cre=>simp only; omega
  | drop=>simp only; omega
  | add k _ _ _ hk _=>rcases hk with h | h<;>simp only<;>omega
  | cut=>simp only; omega
 refine .call [0,1,4] 3 ⟨rfl,rfl,rfl⟩ (xN (l:=s.l) (L:=L) (c:=c) (log:=s.log) (n:=s.n) (m:=s.m) (k:=s.n) (ch:=ch) hl (fun e he=>?_) (by omega) ?_)
 . simp only[List.mem_cons,List.not_mem_nil,or_false]at he;rcases he with rfl | rfl | rfl
   . exact⟨bA rfl (by omega),du (by unfold ei; omega),wl _ _ _⟩
   . exact⟨by rw[hme]; exact c1', ER _ _ _ ⟨by decide,by decide⟩,ES _ _ hc⟩
   . exact⟨bA rfl (by omega),du (by unfold ei; omega),wl _ _ _⟩
 generalize aR s.log [bh 2 s.n,⟨6,0,[],[],[],ch⟩,bh 7 s.n]=log' at *
 repeat (conv=>whnf
         refine⟨rfl,?_⟩)
 conv=>whnf
 obtain⟨l', e'⟩:=fo;simp only at c2';subst c2';refine .call [0,1] 2 ⟨rfl,rfl,rfl⟩ (w9 (l:=s.l) (L:=L) (c:=c) (log:=log') (n:=s.n) (m:=s.m) hS.rs hS.nd hS.dom hb hfo hk15 fun L' c' hF=>?_)
 have h:=h L' c' ⟨hF.rs,hF.nd,hF.dom⟩
 conv=>whnf
 rw[aQ (by omega),aQ (by omega)]
 exact⟨[0,1],rfl,h⟩
theorem vD {l:List Tb} {L:List gF} {c:Nat} {log:List UInt8} {n m:Int} (hl:TbsB l) (h:Q (.sl 3 (tbs l) false) (bP l L c log n m)):ACall Tryz.prog 27 2 [.ptr 0 0] (bP l L c log n m) Q:=by
 refine ACall.ret (ad Tryz.func27 2 rfl (aA rfl) ?_);have hfew:=hl.few;have hcl:=hl.cols;have hlv:=bR l
 conv=>whnf
 refine⟨⟨[0,3,11,12,13],fun mm ws H=>∃i:Nat,ws = [.ptr 0 0,.ms 3 2 0 i false,.sl 3 (tbs l) false,fI (tbs l).length,fI i]/\H=bP l L c log n m ++ [.buf (tbs (l.take i))]/\i<=l.length/\mm=l.length-i,?_,?_⟩⟩
 . exact .frz (l.length+1) (.adopt (.sub [.ptr 0 0,.ms 3 2 0 0 false,.sl 3 (tbs l) false,fI (tbs l).length,fI 0] _ (.cons (.refl _) (.cons (VSub.ms0 3 2 0 false) (VSubs.refl _))) (HSub.refl _) (.go [0,1,2] rfl l.length (by omega) ⟨0,rfl,rfl,by omega,rfl⟩)))
 rintro mm ws H ⟨i,rfl,rfl,hi,rfl⟩
 conv=>whnf
 refine ac (fun c1=>?_) (fun c1=>?_)<;>try rw[c1]<;>conv=>whnf
 rotate_left
 . have c1' := aG c1;have:i=l.length:=by omega
   subst this;rw[List.take_length];refine⟨[0,1,2],rfl,.frz 2 rfl (by repeat (first | exact trivial | refine And.intro (by omega) ?_)) (.sub (.sl 3 (tbs l) false) _ (VSub.eq (congrArg (fun z=>V.sl 3 z false) (by rw[List.drop_zero,<-hlv,List.take_length]))) (HSub.refl _) (.done [0,1] rfl h))⟩
 have c1' := aB c1;have hlt:i<l.length:=by omega
 have hg:l[i]? = some l[i]:=aS hlt;have hcw:=hcl l[i] (List.getElem_mem hlt);have hfs:=fV (eR hl.ok.sorted hg) hg;generalize l[i]=w at *;refine⟨_,⟨by omega,ay hg⟩,?_⟩
 conv=>whnf
 refine⟨List.range 13,by kernel_rfl,by kernel_rfl,?_⟩
 conv=>whnf
 refine .pure (fb (by omega) hl.ok.sorted (fun x hx=>by have:=hcl x hx; omega) ⟨rfl,?_⟩)
 rw[hfs]
 repeat (conv=>whnf
         refine⟨rfl,?_⟩)
 conv=>whnf
 have hsn:l.take (i+1)=l.take i ++ [w]:=by rw[List.take_add_one,hg]; rfl
 refine Ek (X:=l.take i) (w:=w) rfl rfl (by rw[List.length_take]; omega) (by rw[List.length_take]; omega) ?_
 rw[<-hsn];have hln:(l.take (i+1)).length=i+1:=by rw[List.length_take]; omega
 rw[hln]
 conv=>whnf
 refine .go [0,1,6] rfl (l.length-(i+1)) (by omega) ⟨i+1,?_,rfl,by omega,rfl⟩
 show [V.ptr 0 0,.ms 3 2 0 (i+1) false,.sl 3 (tbs l) false,fI (tbs l).length,V.int .i64 (IntKind.i64.wrap ((i:Int)+1))]=_
 rw[dm (by omega)]; rfl
def qG (after:List UInt8) (l:List (List UInt8 × Rw)):List Rw:=(l.filter fun x=>!decide (x.1=after)).map (·.2)
theorem vY (after:List UInt8) (a b:List (List UInt8 × Rw)):qG after (a++b)=qG after a++qG after b:=by simp[qG]
def K5 (c:jq) (after:List UInt8) (A:List (List UInt8 × Rw)) (J:List (List V)->List O->Prop) (ks:List Pl) (pre:List (List V)) (Hs:List O):Prop :=
 ∃(p q:List (List UInt8 × Rw)) (B:List Nat),A=p++q/\pre=cM fR p/\Hs = [.loop c .ready [(3,.ptr 2 0),(4,.ptr 3 0)],.res (cu (J (cK (qG after p))) ks B) B,.cells [.str after],.cells [.yld 1]]
def Ld (c:jq) (after:List UInt8) (S:List O->Prop) (ks:List Pl) (Hs:List O):Prop :=
 ∃B,Hs = [.loop c .ret [(3,.ptr 2 0),(4,.ptr 3 0)],.res (cu S ks B) B,.cells [.str after],.cells [.yld 1]]
set_option maxRecDepth 8000 in
theorem vW {l:List Tb} {L:List gF} {c:Nat} {log:List UInt8} {n m:Int} {table after:List UInt8} {T:Tr Rw} {tm:Int} {J:List (List V)->List O->Prop} {S J' : List O->Prop} {ks:List Pl} {B:List Nat}
 (hT:cH table L=some (T,tm)) (hrl:∀x∈bE after T,x.2.length<1000000) (hy:vI Tryz.prog ks J S (cK (qG after (bE after T)))) (hJ:∀Hs,J (cK (qG after (bE after T))) Hs->J' Hs) (hS:∀Hs,S Hs->J' Hs)
 (h:∀B', Q (.tup []) [.res (cu J' ks B') B', .cells [.ptr 4 0],.cells [.str table],.cells [.str after],.cells [.sl 3 (tbs l) false,.map 5,.sl 1 (bs log) false,fI n,fI m],.pmap (fO L) c]) :
 ACall Tryz.prog 61 6 [.yld 0,.ptr 1 0,.ptr 2 0,.ptr 3 0]
  [.res (cu (J []) ks B) B,.cells [.ptr 4 0],.cells [.str table],.cells [.str after],.cells [.sl 3 (tbs l) false,.map 5,.sl 1 (bs log) false,fI n,fI m],.pmap (fO L) c] Q:=by
 refine ACall.sub (ad Tryz.func61 6 rfl (aA rfl) ?_)
 conv=>whnf
 refine⟨List.range 7,by kernel_rfl,by kernel_rfl,?_⟩
 conv=>whnf
 refine eC (fun hno=>by rw[hT]at hno; cases hno) (fun j a ha hj=>?_)
 rw[hT]at ha;cases ha
 repeat (conv=>whnf
         refine⟨rfl,?_⟩)
 conv=>whnf
 refine⟨[0,1,2,3,4,6,5,7],by kernel_rfl,by kernel_rfl,?_⟩
 conv=>whnf
 refine eC (fun hno=>by rw[hT]at hno; cases hno) (fun j a ha hj=>?_)
 rw[hT]at ha;cases ha
 repeat (conv=>whnf
         refine⟨rfl,?_⟩)
 conv=>whnf
 refine .call [] 0 ⟨rfl,rfl,rfl⟩ (rf ?_)
 repeat (conv=>whnf
         refine⟨rfl,?_⟩)
 conv=>whnf
 refine⟨[3,4],fun cl hcl=>.pack [9,0,3,6] [7,8] 4 (K5 cl after (bE after T) J ks []) (fun Hs=>K5 cl after (bE after T) J ks (cM fR (bE after T)) Hs\/Ld cl after S ks Hs) rfl ⟨[],bE after T,B,rfl,rfl,rfl⟩ fun ks2 B2 hks=>?_⟩
 refine pF (J:=K5 cl after (bE after T) J ks) (S:=Ld cl after S ks) (J' := fun Hs=>K5 cl after (bE after T) J ks (cM fR (bE after T)) Hs\/Ld cl after S ks Hs) (kK ?_ ?_) (fun _ hx=>.inl hx) (fun _ hx=>.inr hx) ?_
 . intro x hx;simp only[cM,List.mem_map]at hx;obtain⟨kv,_,rfl⟩:=hx;rfl
 . rintro pre x post Hs hp ⟨p,q,B3,hpq,hpre,rfl⟩;rw[hpre]at hp;obtain⟨⟨key,r⟩,q', rfl,rfl⟩:∃r q', q=r::q'/\x = [.str r.1,fR r.2]:=by
    rw[hpq]at hp;unfold cM at hp;rw[List.map_append,List.append_cancel_left_eq]at hp;cases q with
    | nil=>cases hp
    | cons r q' => exact⟨r,q', rfl,(List.cons.inj hp).1⟩
   have hrm:=hrl (key,r) (by rw[hpq]; simp)
   have hnext:pre ++ [[.str key,fR r]]=cM fR (p ++ [(key,r)]):=by rw[hpre]; simp[cM]
   rw[hks];subst hcl;refine ke (B0 0 0) ?_
   conv=>whnf
   refine⟨List.range 10,by kernel_rfl,by kernel_rfl,?_⟩
   conv=>whnf
   by_cases hka:key=after
   . rw[show decide (key=after)=true from decide_eq_true hka]
     conv=>whnf
     refine .done [0,1,2,3] rfl (.inl ⟨rfl,p ++ [(key,r)],q', B3,by rw[hpq]; simp,hnext,?_⟩)
     rw[vY,show qG after [(key,r)] = [] by simp[qG,hka],List.append_nil]
     rfl
   . rw[show decide (key=after)=false from decide_eq_false hka]
     have hone:qG after [(key,r)] = [r]:=by simp[qG,hka]
     conv=>whnf
     refine .pure (j6 (r:=r) hrm ⟨rfl,?_⟩)
     repeat (conv=>whnf
             refine⟨rfl,?_⟩)
     conv=>whnf
     refine .call [1] 1 ⟨rfl,rfl,rfl⟩ (AYield.mono (hy (cK (qG after p)) [fR r] (cK (qG after q')) B3 ?_) ?_)
     . rw[hpq,vY,show qG after ((key,r)::q')=r::qG after q' by simp[qG,hka],oC]; rfl
     rintro rr H' ⟨B4,⟨rfl,rfl⟩ | ⟨rfl,rfl⟩⟩
     . repeat (conv=>whnf
               refine⟨rfl,?_⟩)
       conv=>whnf
       refine .done [0,1,2,3] rfl (.inl ⟨rfl,p ++ [(key,r)],q', B4,by rw[hpq]; simp,hnext,?_⟩)
       rw[vY,hone,oC];rfl
     . repeat (conv=>whnf
               refine⟨rfl,?_⟩)
       conv=>whnf
       exact .done [0,1,2,3] rfl (.inr ⟨rfl,B4,rfl⟩)
 . intro B';refine⟨B', _,rfl,rfl,?_⟩;rintro Hs (⟨p,q,B5,hpq,hpre,rfl⟩ | ⟨B5,rfl⟩) _
   . have hpe:qG after p=qG after (bE after T):=by
      have:=congrArg List.length hpre;unfold cM at this;rw[List.length_map,List.length_map,hpq,aD]at this;rw[hpq,List.eq_nil_of_length_eq_zero (show q.length=0 by omega),List.append_nil]
     rw[hpe]
     conv=>whnf
     exact⟨[0,1,2,3,4,5],rfl,_,_,.refl _,.cons (.pk ks B5 hJ) (HSub.refl _),h B5⟩
   . conv=>whnf
     exact⟨[0,1,2,3,4,5],rfl,_,_,.refl _,.cons (.pk ks B5 hS) (HSub.refl _),h B5⟩
theorem x8 {o1 o2:List V} {kv:List (V × V)} {c:Nat} {l:List Tb} {log:List UInt8} {n m:Int} {table after:List UInt8} {L:List gF}
 (h:Q (.fn (.func 61) [] [.ptr 2 0,.ptr 3 0,.ptr 4 0]) (bP l L c log n m ++ [.cells [.ptr 0 0],.cells [.str table],.cells [.str after]])) :
 ACall Tryz.prog 37 2 [.ptr 0 0,.str table,.str after] (bP l L c log n m) Q:=by
 refine ad Tryz.func37 2 rfl (aA rfl) ?_
 conv=>whnf
 exact⟨[0,1,2,3,4],rfl,h⟩
def zF (c:jq) (st:LSt) (most:Int) (es:List (List V)):List O :=
 match es with
 | []=>[.loop c st [(7,.ptr 1 0),(10,.ptr 2 0)],.cells [fI most],.cells [.nils]]
 | x::r=>[.loop c st [(7,.ptr 1 0),(10,.ptr 2 0)],.cells [fI most],.cells [.ms 1 3 0 (x::r).length false],.buf (x::r)]
def Lk (c:jq) (most:Int) (pre:List (List V)) (Hs:List O):Prop:=pre.length<=most.toNat/\Hs=zF c .ready most pre
def Ll (c:jq) (most:Int) (es:List (List V)) (Hs:List O):Prop:=Hs=zF c (.exit 0) most es
def Lt (c:jq) (most:Int) (es:List (List V)) (Hs:List O):Prop:=∃st,(st = .ready\/st = .exit 0)/\Hs=zF c st most es
theorem tz {α:Type} {a b:List α} {m:Nat} (h1:a.length<=m) (h2:m<=a.length):(a++b).take m=a:=by
 have:m=a.length:=by omega
 subst this; simp
set_option maxRecDepth 8000 in
theorem Ap {l:List Tb} {L:List gF} {c:Nat} {log:List UInt8} {n m:Int} {table after:List UInt8} {most:Int} (hrl:∀T tm,cH table L=some (T,tm)->(∀x∈bE after T,x.2.length<1000000)/\(bE after T).length<1000000)
 (h0:cH table L=none->Q (.tup [.sl 1 (cK []) false,fI 7]) (bP l L c log n m))
 (h1:∀T tm,cH table L=some (T,tm)->Q (.tup [.sl 1 (cK ((qG after (bE after T)).take most.toNat)) false,fI 0]) (bP l L c log n m)) :
 ACall Tryz.prog 12 2 [.ptr 0 0,.str table,.str after,fI most] (bP l L c log n m) Q:=by
 refine ACall.sub (ACall.ret (ad Tryz.func12 2 rfl (aA rfl) ?_))
 conv=>whnf
 refine eC (fun hno=>?_) (fun j a ha hj=>?_)
 . refine⟨.nilp,⟨_,_,rfl,rfl,rfl⟩,?_⟩
   conv=>whnf
   exact⟨[0,1],rfl,.done [0,1] rfl ⟨_,_,.tup (.cons (VSub.nils 1 false) (VSubs.refl _)),HSub.refl _,h0 hno⟩⟩
 obtain⟨T,tm⟩:=a;obtain⟨hr1,hr2⟩:=hrl T tm ha;have h1:=h1 T tm ha;have hbl:(qG after (bE after T)).length<=(bE after T).length:=by unfold qG; rw[List.length_map]; exact List.length_filter_le _ _
 conv=>whnf
 refine .call [0,1] 2 ⟨rfl,rfl,rfl⟩ (x8 (o1:=[]) (o2:=[]) (kv:=[]) (l:=l) (L:=L) (c:=c) (log:=log) (n:=n) (m:=m) ?_)
 conv=>whnf
 generalize hA:qG after (bE after T)=A at *;refine⟨[7,10],fun cl hcl=>.pack [7,2,3] [4,5,6,0,1] 3 (Lk cl most []) (Lt cl most (cK (A.take most.toNat))) rfl ⟨Nat.zero_le _,rfl⟩ fun ks B hks=>?_⟩
 refine vW (l:=l) (L:=L) (c:=c) (log:=log) (n:=n) (m:=m) (table:=table) (after:=after) (J:=Lk cl most) (S:=Ll cl most (cK (A.take most.toNat))) (J' := Lt cl most (cK (A.take most.toNat))) ha hr1 (kK ?_ ?_) ?_ ?_ ?_
 . intro x hx;obtain⟨r,_,rfl⟩:=List.mem_map.1 hx;rfl
 . rintro pre x post Hs hp ⟨hle,rfl⟩;rw[hA]at hp;obtain⟨r,rfl⟩:∃r,x = [fR r]:=by
    have hx:x∈cK A:=by rw[<-hp]; simp
    obtain⟨r,_,rfl⟩:=List.mem_map.1 hx;exact⟨r,rfl⟩
   have hpl:pre.length<1000000:=by have:=congrArg List.length hp; rw[aD,List.length_cons,cR]at this; omega
   have hstop:∀c Hs,most.toNat<=pre.length->Hs=zF c (.exit 0) most pre->Ll c most (cK (A.take most.toNat)) Hs:=fun c Hs hm hh=>by
    unfold Ll;rw[<-iR,<-hp,tz hle hm]; exact hh
   have hadd:∀c Hs,pre.length<most.toNat->Hs=zF c .ready most (pre ++ [[fR r]])->Lk c most (pre ++ [[fR r]]) Hs:=fun c Hs hl hh=>⟨by rw[aD,List.length_singleton]; omega,hh⟩
   rw[hks];subst hcl;refine ke (B0 0 0) ?_;cases pre with
   | nil =>
    conv=>whnf
    refine ac (fun c=>?_) (fun c=>?_)<;>try rw[c]<;>conv=>whnf
    . have c' := aB c;exact .done [0,1,2] rfl (.inr ⟨rfl,hstop _ _ (by simp; omega) rfl⟩)
    . have c' := aG c;refine⟨Nat.le_refl _,?_⟩
      conv=>whnf
      refine⟨(show(1:Nat)*24<=70368744177664 by decide),?_⟩
      conv=>whnf
      exact .done [0,1,2,4] rfl (.inl ⟨rfl,hadd _ _ (by simp; omega) rfl⟩)
   | cons y es =>
    conv=>whnf
    refine ac (fun c=>?_) (fun c=>?_)<;>try rw[c]<;>conv=>whnf
    . have c' := aB c;simp only[List.length_cons]at c';exact .done [0,1,2,3] rfl (.inr ⟨rfl,hstop _ _ (by simp only[List.length_cons]; omega) rfl⟩)
    . have c' := aG c;simp only[List.length_cons]at c' hpl;refine⟨Nat.le_refl _,?_⟩
      conv=>whnf
      refine⟨by simp,?_⟩
      conv=>whnf
      refine⟨(show(y::(es ++ [[fR r]])).length*24<=70368744177664 by simp only[List.length_cons,aD,List.length_nil]; omega),?_⟩
      conv=>whnf
      exact .done [0,1,2,5] rfl (.inl ⟨rfl,hadd _ _ (by simp only[List.length_cons]; omega) rfl⟩)
 . rintro Hs ⟨hle,rfl⟩;rw[hA]at hle ⊢;rw[cR]at hle;exact⟨.ready,.inl rfl,by rw[List.take_of_length_le hle]⟩
 . rintro Hs rfl;exact⟨_,.inr rfl,rfl⟩
 . intro B';refine⟨B', _,rfl,rfl,?_⟩;rintro Hs ⟨st,hst,rfl⟩ _;generalize cK (A.take most.toNat)=es at *;cases es with
   | nil =>
    rcases hst with rfl | rfl
    all_goals
     conv=>whnf
     exact⟨[0,1],rfl,.done [0,1] rfl ⟨_,_,.tup (.cons (VSub.nils 1 false) (VSubs.refl _)),HSub.refl _,h1⟩⟩
   | cons k es =>
    rcases hst with rfl | rfl
    all_goals
     conv=>whnf
     refine⟨[0,1,8],rfl,.frz 2 rfl (And.intro (Nat.le_of_eq (Nat.zero_add _)) trivial) (.done [0,1] rfl ⟨_,_,?_,HSub.refl _,h1⟩)⟩;show VSub (.tup [.sl 1 (List.take (k::es).length (k::es)) false,fI 0]) _
     rw[List.take_length];exact .refl _
def kR (s:SS) (table after:List UInt8) (most:Int):List Rw × Int:=match dP s.l table with
 | none=>([],7)
 | some i=>match s.l[i]? with
  | none=>([],7)
  | some t=>(((s.R.getD i []).filter fun r=>Op.bytesLess after (ia t r)).take most.toNat,0)
theorem Hh {t:Tb} {rs:List Rw} {T:Tr Rw} {m:Int} {b:Nat} (h:TrOk t rs T m b) (after:List UInt8):qG after (bE after T)=rs.filter fun r=>Op.bytesLess after (ia t r):=by
 rw[fe after T h.ok.srt,h.eq];unfold qG lX iX;rw[List.filter_filter,List.filter_map,List.map_map];show List.map (fun x=>x) _=_
 rw[List.map_id'];refine List.filter_congr fun r _=>?_
 show(!decide (dK t.c t.k.toNat r=after)&&DD after (dK t.c t.k.toNat r))=Op.bytesLess after (dK t.c t.k.toNat r)
 unfold DD;by_cases he:dK t.c t.k.toNat r=after
 . rw[he,bf]; simp
 . rw[decide_eq_false he,decide_eq_false (Ne.symm he)]; simp
theorem SrcOk.look {s:SS} {L:List gF} {b:Nat} (h:SrcOk s L b) (n:List UInt8):(cH n L=none/\dP s.l n=none) \/ ∃i t rs T m,dP s.l n=some i/\s.l[i]? = some t/\s.R.getD i []=rs/\t.n=n/\cH n L=some (T,m)/\TrOk t rs T m b/\RowsOk t rs/\TbK t:=by
 cases ha:dP s.l n with
 | none =>
  refine .inl ⟨?_,rfl⟩;cases hl:cH n L with
  | none=>rfl
  | some a=>exact absurd ha (h.dom n (by rw[hl]; simp))
 | some i =>
  obtain⟨t,hti,htn,hil⟩:=bY ha;have hRi:s.R[i]? = some (s.R[i]'(by rw[h.rs.len]; exact hil)):=aS _
  generalize (s.R[i]'(by rw[h.rs.len]; exact hil))=rs at hRi
  obtain⟨T,m,hvw,hT⟩:=h.rs.tree i t rs hti hRi;rw[htn]at hvw;exact .inr ⟨i,t,rs,T,m,rfl,hti,by rw[List.getD_eq_getElem?_getD,hRi]; rfl,htn,hvw,hT,h.rs.rows i t rs hti hRi,h.rs.tbs.tbk (List.mem_of_getElem? hti)⟩
theorem pO {s:SS} {L:List gF} {c:Nat} {b:Nat} {table after:List UInt8} {most:Int} (hS:SrcOk s L b) (hb:b<900000)
 (h:Q (.tup [.sl 1 (cK (kR s table after most).1) false,fI (kR s table after most).2]) (mi s L c)) :
 ACall Tryz.prog 12 2 [.ptr 0 0,.str table,.str after,fI most] (mi s L c) Q:=by
 have hlook:=hS.look table;unfold kR at h;refine Ap (fun T tm ha=>?_) (fun h0=>?_) fun T tm ha=>?_
 . rcases hlook with⟨h0,_⟩ | ⟨i,t,rs,T', m', a1,a2,a3,a4,a5,a6,a7,a8⟩
   . rw[h0]at ha; cases ha
   . rw[a5]at ha; cases ha;have hle:=a6.ok.le;have hsub:∀x∈bE after T,x∈lX t rs:=fun x hx=>by
      rw[fe after T a6.ok.srt,a6.eq]at hx;exact(List.mem_filter.1 hx).1
     refine⟨fun x hx=>?_,?_⟩
     . have:=hsub x hx;unfold lX iX at this;obtain⟨r,hr,rfl⟩:=List.mem_map.1 this;have:=dq (a7.fit r hr);have:=a8.few;simp only;omega
     . rw[fe after T a6.ok.srt];have:=List.length_filter_le (fun x=>DD after x.1) (fm T)
       omega
 . rcases hlook with⟨_,h1⟩ | ⟨i,t,rs,T', m', a1,a2,a3,a4,a5,_⟩
   . rw[h1]at h; exact h
   . rw[a5]at h0; cases h0
 . rcases hlook with⟨h0,_⟩ | ⟨i,t,rs,T', m', a1,a2,a3,a4,a5,a6,a7,a8⟩
   . rw[h0]at ha; cases ha
   . rw[a5]at ha; cases ha;rw[a1]at h;simp only[a2,a3]at h;rw[Hh a6];exact h
def vc (s:SS) (table:List UInt8):List Rw:=match dP s.l table with
 | none=>[]
 | some i=>s.R.getD i []
theorem rx {s:SS} {L:List gF} {c:Nat} {b:Nat} {table:List UInt8} (hS:SrcOk s L b) (hb:b<900000)
 (h:Q (.sl 1 (cK (vc s table)) false) (mi s L c)):ACall Tryz.prog 15 2 [.ptr 0 0,.str table] (mi s L c) Q:=by
 refine ad Tryz.func15 2 rfl (aA rfl) ?_;have hr:(kR s table [] 9223372036854775807).1=vc s table:=by
  unfold kR vc;rcases hS.look table with⟨_,h1⟩ | ⟨i,t,rs,T', m', a1,a2,a3,a4,a5,a6,a7,a8⟩
  . rw[h1]
  . rw[a1];simp only[a2,a3];have:=a6.fewr;rw[List.take_of_length_le]
    . exact List.filter_eq_self.2 fun r hr=>a7.pos a8 r hr
    . have:=List.length_filter_le (fun r=>Op.bytesLess [] (ia t r)) rs
      omega
 conv=>whnf
 refine .call [0,1] 2 ⟨rfl,rfl,rfl⟩ (pO (most:=9223372036854775807) hS hb ?_);rw[hr]
 conv=>whnf
 exact⟨[0,1],rfl,h⟩
theorem gm {C:List Col} {K:Nat} {r:Rw} {f:Bool} (hl:C.length<=1000) (hk:K<=C.length) (ht:bd r) (h:Q (.str (dK C K r)) []) :
 ACall Tryz.prog 13 0 [sch C K,.sl 3 (ah r) f] [] Q:=by
 refine ad Tryz.func13 0 rfl (aA rfl) ?_
 conv=>whnf
 refine .pure (oK hl hk ht ⟨rfl,?_⟩);unfold dK at h;unfold pa;cases hb:aP C K r<;>rw[hb]at h<;>conv=>whnf
 . exact⟨[],rfl,h⟩
 . exact⟨[],rfl,h⟩
def BK (l:List Rw):Prop:=∀r∈l,bd r
theorem xV {C:List Col} {K:Nat} {key:List UInt8}:∀ {l:List Rw} {k:Nat} {r:Rw},l[k]? = some r->k<=(bD C K key l).length->Op.bytesLess (dK C K r) key=decide (k<(bD C K key l).length)
 | [],k,r,h,_=>by simp at h
 | x::l,k,r,h,hk=>by
  unfold bD at *;rw[List.takeWhile_cons]at *;cases hx:Op.bytesLess (dK C K x) key with
  | true =>
   rw[hx]at hk;simp only[if_true,List.length_cons]at hk ⊢;cases k with
   | zero =>
    simp only[List.getElem?_cons_zero,Option.some.injEq]at h;subst h;rw[hx]; simp
   | succ k =>
    rw[List.getElem?_cons_succ]at h;have:=xV (C:=C) (K:=K) (key:=key) h (by unfold bD; omega)
    rw[this];unfold bD;simp
  | false =>
   rw[hx]at hk;simp only[Bool.false_eq_true,if_false,List.length_nil,Nat.le_zero]at hk;subst hk;simp only[List.getElem?_cons_zero,Option.some.injEq]at h;subst h;rw[hx]; simp
theorem kd (C:List Col) (K:Nat) (key:List UInt8) (l:List Rw):l.take (bD C K key l).length=bD C K key l/\l.drop (bD C K key l).length=cJ C K key l:=by
 have e:=dg C K key l;constructor
 . conv=>lhs; arg 2; rw[<-e]
   exact List.take_left
 . conv=>lhs; arg 2; rw[<-e]
   exact List.drop_left
theorem rH (C:List Col) (K:Nat) (key:List UInt8) (l:List Rw):(bD C K key l).length<=l.length:=by
 have e:=congrArg List.length (dg C K key l);rw[aD]at e;omega
theorem Ib {C:List Col} {K:Nat} {key:List UInt8} {l:List Rw} {r:Rw} (h:l[(bD C K key l).length]? = some r):dY C K key (cJ C K key l)=decide (dK C K r=key):=by
 rw[<- (kd C K key l).2];have hlt:=(liZ.1 h).1;rw[List.drop_eq_getElem_cons hlt];have:l[(bD C K key l).length]=r:=by
  have:=liZ.1 h;exact this.2
 rw[this]; rfl
theorem pr {C:List Col} {K:Nat} {key:List UInt8} {l:List Rw} (h:l.length<=(bD C K key l).length):dY C K key (cJ C K key l)=false:=by
 rw[<- (kd C K key l).2,List.drop_of_length_le h]; rfl
theorem cg {l:List Rw} {i:Nat} {r:Rw} (h:l[i]? = some r):(cK l)[i]? = some [V.sl 3 (ah r) false]:=by simp[cK,h,fR]
theorem gn {C:List Col} {K:Nat} {l:List Rw} {key:List UInt8} {f:Bool} (hl:C.length<=1000) (hk:K<=C.length) (ht:BK l) (hn:l.length<=1000000)
 (h:Q (.tup [fI ((bD C K key l).length:Nat),.bool (dY C K key (cJ C K key l))]) []) :
 ACall Tryz.prog 67 0 [sch C K,.sl 1 (cK l) f,.str key] [] Q:=by
 refine ad Tryz.func67 0 rfl (aA rfl) ?_
 conv=>whnf
 have hlr:=cR l;have hal:=rH C K key l;refine⟨⟨[1,2,3,8],fun m ws H=>∃k:Nat,ws = [.sl 1 (cK l) f,.str key,.ptr 0 0,fI k]/\H = [.cells [.sl 3 (cols C) false,fI K]]/\k<=(bD C K key l).length/\m=l.length-k,.at _ ⟨0,rfl,rfl,Nat.zero_le _,rfl⟩,?_⟩⟩
 rintro m ws H ⟨k,rfl,rfl,hk2,rfl⟩
 conv=>whnf
 refine⟨[0,1,2,3,4,5,6,7,8,9,11,10,12,13],by kernel_rfl,by kernel_rfl,?_⟩
 conv=>whnf
 refine ac (fun c=>?_) (fun c=>?_)<;>try rw[c]<;>conv=>whnf
 . have c' := aB c;have hlt:k<l.length:=by omega
   have hg:l[k]? = some l[k]:=aS hlt;have htr:=ht l[k] (List.getElem_mem hlt);generalize l[k]=r at *;have hb:=xV (C:=C) (K:=K) (key:=key) hg hk2;refine⟨_,⟨by omega,cg hg⟩,?_⟩
   conv=>whnf
   refine .pure (gm (C:=C) (K:=K) (r:=r) hl hk htr ⟨rfl,?_⟩)
   repeat (conv=>whnf
           first | (refine⟨rfl,?_⟩) | (refine⟨⟨_,⟨by omega,cg hg⟩,rfl⟩,?_⟩))
   conv=>whnf
   refine ac (fun c2=>?_) (fun c2=>?_)<;>try rw[c2]<;>conv=>whnf
   . rw[c2]at hb;have hb' := aB hb.symm;refine .go [0] rfl (l.length-(k+1)) (by omega) ⟨k+1,?_,rfl,by omega,rfl⟩
     show [V.sl 1 (cK l) f,V.str key,V.ptr 0 0,V.int .i64 (IntKind.i64.wrap ((k:Int)+1))]=_
     rw[dm (by omega)]; rfl
   . rw[c2]at hb;have hb' := aG hb.symm;have he:(bD C K key l).length=k:=by omega
     have hr:=Ib (C:=C) (K:=K) (key:=key) (l:=l) (r:=r) (by rw[he]; exact hg)
     rw[he,hr]at h;refine⟨[0,1,2,3,4,5,6,7,8,9,10,12,11,13,14,15,16],by kernel_rfl,by kernel_rfl,?_⟩
     conv=>whnf
     rw[c]
     conv=>whnf
     refine⟨_,⟨by omega,cg hg⟩,?_⟩
     conv=>whnf
     refine .pure (gm (C:=C) (K:=K) (r:=r) hl hk htr ⟨rfl,?_⟩)
     repeat (conv=>whnf
             first | (refine⟨rfl,?_⟩) | (refine⟨⟨_,⟨by omega,cg hg⟩,rfl⟩,?_⟩))
     conv=>whnf
     exact⟨[],rfl,h⟩
 . have c' := aG c;have he:(bD C K key l).length=k:=by omega
   rw[pr (by omega),he]at h
   refine⟨[0,1,2,3,4,5,6,7,8,9,10,12,11,13,14,15,16],by kernel_rfl,by kernel_rfl,?_⟩
   conv=>whnf
   rw[c]
   conv=>whnf
   exact⟨[],rfl,h⟩
theorem w5 {j n:Nat} {H:List O} {L:List Rw} (hg:ar H j = .buf (cK L)) (hn:n=L.length) (hj:j<H.length) (h:Q (.sl 1 (cK L) false) []):∃sel,gC sel H.length 0=true/\ARet 0 Q (aM (bI sel) (.ms 1 j 0 n false)) (aJ (bI sel) H sel):=by
 subst hn;refine⟨[j],?_,?_⟩
 . simp[gC,kM,gJ,bI,Nat.blt_eq,hj]
 . have e1:aM (bI [j]) (.ms 1 j 0 L.length false) = .ms 1 0 0 L.length false:=by simp[aM,bI]
   have e2:aJ (bI [j]) H [j] = [.buf (cK L)]:=by simp[aJ,hg,gA]
   rw[e1,e2];have hle:=cR L;refine .frz 0 rfl (by repeat (first | exact trivial | refine And.intro (by rw[hle,Nat.zero_add]; exact Nat.le_refl _) ?_)) (.done [] rfl ?_)
   show Q (.sl 1 (List.take L.length (List.drop 0 (cK L))) false) []
   rw[List.drop_zero,<-hle,List.take_length];exact h
theorem ld {C:List Col} {K:Nat} {l:List Rw} {r:Rw} {f:Bool} (hl:C.length<=1000) (hk:K<=C.length) (ht:BK l) (hr:bd r) (hn:l.length<=1000000)
 (h:Q (.sl 1 (cK (jP C K l r)) false) []) :
 ACall Tryz.prog 71 0 [sch C K,.sl 1 (cK l) f,.sl 3 (ah r) false] [] Q:=by
 refine ACall.ret (ad Tryz.func71 0 rfl (aA rfl) ?_)
 conv=>whnf
 have hlr:=cR l;have hal:=rH C K (dK C K r) l;obtain⟨ht1,ht2⟩:=kd C K (dK C K r) l;refine⟨[0,1,2,3,4,5,6,7,8,9,10],by kernel_rfl,by kernel_rfl,?_⟩
 conv=>whnf
 refine .pure (gm (C:=C) (K:=K) (r:=r) hl hk hr ⟨rfl,?_⟩)
 repeat (conv=>whnf
         refine⟨rfl,?_⟩)
 conv=>whnf
 refine .pure (gn (C:=C) (K:=K) (l:=l) (key:=dK C K r) (f:=f) hl hk ht hn ⟨rfl,?_⟩)
 repeat (conv=>whnf
         refine⟨rfl,?_⟩)
 conv=>whnf
 generalize hA:(bD C K (dK C K r) l).length=n at *;have hT:(List.take n (cK l)).length<=1000000:=by rw[List.length_take]; omega
 refine⟨⟨by omega,by omega⟩,?_⟩
 conv=>whnf
 refine⟨(Nat.le_trans (Nat.mul_le_mul_right _ hT) (show 1000000*24<=70368744177664 by omega)),?_⟩
 conv=>whnf
 refine⟨Nat.le_refl 1,?_⟩;refine eo rfl rfl rfl (Nat.le_trans (Nat.mul_le_mul_right _ (Nat.add_le_add hT (show 1<=1 by omega))) (show(1000000+1)*24<=70368744177664 by omega)) ?_
 conv=>whnf
 unfold jP at h;rw[<-ht1,<-ht2]at h;cases hh:dY C K (dK C K r) (cJ C K (dK C K r) l)<;>rw[ht2,hh]at h<;>rw[<-ht2]at h<;>conv=>whnf
 . simp only[Bool.false_eq_true,if_false]at h;have hD:(List.drop n (cK l)).length<=1000000:=by rw[List.length_drop]; omega
   refine⟨⟨by omega,by omega⟩,?_⟩
   conv=>whnf
   refine gq (by rw[aD]) (Nat.le_trans (Nat.mul_le_mul_right _ (Nat.add_le_add (by rw[aD]; exact Nat.add_le_add hT (show 1<=1 by omega)) hD)) (show(1000000+1+1000000)*24<=70368744177664 by omega)) ?_
   conv=>whnf
   refine w5 (L:=l.take n++r::l.drop n) ?_ ?_ (Nat.le_refl _) h
   . show O.buf (List.take n (cK l) ++ [[fR r]]++List.drop n (cK l))=_
     rw[iR,jR];simp[cK]
   . rw[aD];show(List.take n (cK l)).length+1+(List.drop n (cK l)).length=_
     rw[iR,jR,cR,cR,aD,List.length_cons];omega
 . have hlt:n<l.length:=by
    refine Decidable.by_contra fun hc=>?_
    rw[pr (by omega)]at hh; cases hh
   simp only[if_true,List.tail_drop]at h;have hi1:IntKind.i64.wrap ((n:Int)+1)=((n+1:Nat):Int):=by rw[dm (by omega)]; omega
   rw[hi1];have hD:(List.drop (n+1) (cK l)).length<=1000000:=by rw[List.length_drop]; omega
   refine⟨⟨by omega,by omega⟩,?_⟩
   conv=>whnf
   refine gq (by rw[aD]) (Nat.le_trans (Nat.mul_le_mul_right _ (Nat.add_le_add (by rw[aD]; exact Nat.add_le_add hT (show 1<=1 by omega)) hD)) (show(1000000+1+1000000)*24<=70368744177664 by omega)) ?_
   conv=>whnf
   refine w5 (L:=l.take n++r::l.drop (n+1)) ?_ ?_ (Nat.le_refl _) h
   . show O.buf (List.take n (cK l) ++ [[fR r]]++List.drop (n+1) (cK l))=_
     rw[iR,jR];simp[cK]
   . rw[aD];show(List.take n (cK l)).length+1+(List.drop (n+1) (cK l)).length=_
     rw[iR,jR,cR,cR,aD,List.length_cons];omega
theorem pL {C:List Col} {K:Nat} {l:List Rw} {key:List UInt8} (hl:C.length<=1000) (hk:K<=C.length) (ht:BK l) (hn:l.length<=1000000)
 (h:Q (.sl 1 (cK (lj C K l key)) false) []) :
 ACall Tryz.prog 70 0 [sch C K,.sl 1 (cK l) false,.str key] [] Q:=by
 refine ACall.ret (ad Tryz.func70 0 rfl (aA rfl) ?_)
 conv=>whnf
 have hlr:=cR l;have hal:=rH C K key l;obtain⟨ht1,ht2⟩:=kd C K key l;refine .pure (gn (C:=C) (K:=K) (l:=l) (key:=key) (f:=false) hl hk ht hn ⟨rfl,?_⟩)
 conv=>whnf
 generalize hA:(bD C K key l).length=n at *;unfold lj at h;rw[<-ht1,<-ht2]at h;cases hh:dY C K key (cJ C K key l)<;>rw[ht2,hh]at h<;>rw[<-ht2]at h<;>conv=>whnf
 . exact⟨[],rfl,.done [] rfl h⟩
 . have hlt:n<l.length:=by
    refine Decidable.by_contra fun hc=>?_
    rw[pr (by omega)]at hh; cases hh
   simp only[if_true,List.tail_drop]at h;have hT:(List.take n (cK l)).length<=1000000:=by rw[List.length_take]; omega
   refine⟨⟨by omega,by omega⟩,?_⟩
   conv=>whnf
   refine⟨(Nat.le_trans (Nat.mul_le_mul_right _ hT) (show 1000000*24<=70368744177664 by omega)),?_⟩
   conv=>whnf
   have hi1:IntKind.i64.wrap ((n:Int)+1)=((n+1:Nat):Int):=by rw[dm (by omega)]; omega
   rw[hi1];have hD:(List.drop (n+1) (cK l)).length<=1000000:=by rw[List.length_drop]; omega
   refine⟨⟨by omega,by omega⟩,?_⟩
   conv=>whnf
   refine gq rfl (Nat.le_trans (Nat.mul_le_mul_right _ (Nat.add_le_add hT hD)) (show(1000000+1000000)*24<=70368744177664 by omega)) ?_
   conv=>whnf
   refine w5 (L:=l.take n++l.drop (n+1)) ?_ ?_ (Nat.le_refl _) h
   . show O.buf (List.take n (cK l)++List.drop (n+1) (cK l))=_
     rw[iR,jR,<-oC]
   . show(List.take n (cK l)).length+(List.drop (n+1) (cK l)).length=_
     rw[iR,jR,cR,cR,aD]
theorem ml {l:List Rw} {f f2:Bool} (hn:l.length<1000000) (hl:∀r∈l,r.length<1000000) (h:Q (.bool true) []) :
 ACall Tryz.prog 14 0 [.sl 1 (cK l) f,.sl 1 (cK l) f2] [] Q:=by
 refine ad Tryz.func14 0 rfl (aA rfl) ?_;have hlr:=cR l
 conv=>whnf
 rw[show decide (((cK l).length:Int)=((cK l).length:Int))=true from decide_eq_true rfl]
 conv=>whnf
 refine⟨⟨[0,1,5],fun m ws H=>∃i:Nat,ws = [.sl 1 (cK l) f,.sl 1 (cK l) f2,fI i]/\H = []/\i<=l.length/\m=l.length-i,.at _ ⟨0,rfl,rfl,Nat.zero_le _,rfl⟩,?_⟩⟩
 rintro m ws H ⟨i,rfl,rfl,hi,rfl⟩
 conv=>whnf
 refine ac (fun c1=>?_) (fun c1=>?_)<;>try rw[c1]<;>conv=>whnf
 rotate_left
 . exact⟨[],rfl,h⟩
 have c1' := aB c1;have hlt:i<l.length:=by omega
 have hg:l[i]? = some l[i]:=aS hlt;have hlr2:=hl l[i] (List.getElem_mem hlt);generalize l[i]=r at *;have hvl:=aC r;refine⟨List.range 11,by kernel_rfl,by kernel_rfl,?_⟩
 conv=>whnf
 refine⟨_,⟨by omega,cg hg⟩,?_⟩
 conv=>whnf
 refine⟨_,⟨by omega,cg hg⟩,?_⟩
 repeat (conv=>whnf
         first | (refine⟨rfl,?_⟩) | (refine⟨⟨_,⟨by omega,cg hg⟩,rfl⟩,?_⟩))
 conv=>whnf
 rw[show decide (((ah r).length:Int)=((ah r).length:Int))=true from decide_eq_true rfl]
 conv=>whnf
 refine⟨⟨[0,1,5,6],fun m ws H=>∃j:Nat,ws = [.sl 1 (cK l) f,.sl 1 (cK l) f2,fI i,fI j]/\H = []/\j<=r.length/\m=r.length-j,.at _ ⟨0,rfl,rfl,Nat.zero_le _,rfl⟩,?_⟩⟩
 rintro m ws H ⟨j,rfl,rfl,hj,rfl⟩
 conv=>whnf
 refine⟨_,⟨by omega,cg hg⟩,?_⟩
 conv=>whnf
 refine ac (fun c2=>?_) (fun c2=>?_)<;>try rw[c2]<;>conv=>whnf
 rotate_left
 . refine .go [] rfl (l.length-(i+1)) (by omega) ⟨i+1,?_,rfl,by omega,rfl⟩
   show [V.sl 1 (cK l) f,V.sl 1 (cK l) f2,V.int .i64 (IntKind.i64.wrap ((i:Int)+1))]=_
   rw[dm (by omega)]; rfl
 have c2' := aB c2;have hltj:j<r.length:=by omega
 have hgj:r[j]? = some r[j]:=aS hltj;generalize r[j]=v at *;refine⟨List.range 15,by kernel_rfl,by kernel_rfl,?_⟩
 conv=>whnf
 refine⟨_,⟨by omega,cg hg⟩,?_⟩
 conv=>whnf
 refine⟨_,⟨by omega,bU hgj⟩,?_⟩
 conv=>whnf
 refine⟨_,⟨by omega,cg hg⟩,?_⟩
 conv=>whnf
 refine⟨_,⟨by omega,bU hgj⟩,?_⟩
 repeat (conv=>whnf
         first | (refine⟨rfl,?_⟩) | (refine⟨⟨_,⟨by omega,cg hg⟩,rfl⟩,?_⟩) | (refine⟨⟨_,⟨by omega,bU hgj⟩,rfl⟩,?_⟩))
 conv=>whnf
 rw[Gs,decide_eq_true (rfl:v=v)]
 conv=>whnf
 refine .go [] rfl (r.length-(j+1)) (by omega) ⟨j+1,?_,rfl,by omega,rfl⟩
 show [V.sl 1 (cK l) f,V.sl 1 (cK l) f2,fI i,V.int .i64 (IntKind.i64.wrap ((j:Int)+1))]=_
 rw[dm (by omega)]; rfl
def mA (R:List (List Rw)):List (List V):=R.map fun l=>[.sl 1 (cK l) false]
theorem eT (R:List (List Rw)):(mA R).length=R.length:=by simp[mA]
theorem aK {R:List (List Rw)} {i:Nat} {l:List Rw} (h:R[i]? = some l):(mA R)[i]? = some [.sl 1 (cK l) false]:=by simp[mA,h]
def sV (s:SS):V:=.agg [.sl 3 (tbs s.l) false,.sl 1 (mA s.R) false,.sl 1 (bs s.log) false,fI s.n,fI s.m]
def ss0:SS:=⟨[],[],start,0,0⟩
theorem sX (f:Bool):VSub .nils (.sl 1 [] f):=VSub.nils 1 f
theorem pH (h:Q (sV ss0) []):ACall Tryz.prog 10 0 [] [] Q:=by
 refine ACall.ret (ad Tryz.func10 0 rfl (aA rfl) ?_)
 conv=>whnf
 refine .call [] 0 ⟨rfl,rfl,rfl⟩ (rm ?_);have hls:=al start;unfold sV ss0 at h;generalize start=st at *
 conv=>whnf
 have hT:List.take st.length (List.drop 0 (bs st))=bs st:=by rw[List.drop_zero,<-hls,List.take_length]
 refine⟨[1],rfl,.frz 0 rfl (by repeat (first | exact trivial | refine And.intro (by omega) ?_)) (.sub _ [.dead] (.agg (.cons (au false) (.cons (sX false) (.cons (VSub.eq (congrArg (fun z=>V.sl 1 z false) hT)) (VSubs.refl _))))) (HSub.refl _) (.done [] rfl h))⟩
theorem Id (R:List (List Rw)) (i:Nat) (rows:List Rw) (hi:i<R.length):(mA R).take i ++ [[V.sl 1 (cK rows) false]]++(mA R).drop (i+1)=mA (R.set i rows):=by
 rw[List.set_eq_take_append_cons_drop,if_pos hi];simp[mA,List.map_take,List.map_drop]
theorem Jm {j n z:Nat} {H:List O} {es:List (List V)} (hg:ar H j = .buf es) (hn:n=es.length) (hj:j<H.length) (h:Q (.sl z es false) []):∃sel,gC sel H.length 0=true/\ARet 0 Q (aM (bI sel) (.ms z j 0 n false)) (aJ (bI sel) H sel):=by
 subst hn;refine⟨[j],?_,?_⟩
 . simp[gC,kM,gJ,bI,Nat.blt_eq,hj]
 . have e1:aM (bI [j]) (.ms z j 0 es.length false) = .ms z 0 0 es.length false:=by simp[aM,bI]
   have e2:aJ (bI [j]) H [j] = [.buf es]:=by simp[aJ,hg,gA]
   rw[e1,e2];refine .frz 0 rfl (by repeat (first | exact trivial | refine And.intro (by rw[Nat.zero_add]; exact Nat.le_refl _) ?_)) (.done [] rfl ?_)
   show Q (.sl z (List.take es.length (List.drop 0 es)) false) []
   rw[List.drop_zero,List.take_length];exact h
theorem iw {R:List (List Rw)} {i:Nat} {rows:List Rw} (hn:R.length<=1000) (hi:i<R.length) (h:Q (.sl 1 (mA (R.set i rows)) false) []) :
 ACall Tryz.prog 69 0 [.sl 1 (mA R) false,fI i,.sl 1 (cK rows) false] [] Q:=by
 refine ACall.ret (ad Tryz.func69 0 rfl (aA rfl) ?_);have hrl:=eT R
 conv=>whnf
 refine⟨⟨by omega,by omega⟩,?_⟩
 conv=>whnf
 have hT:(List.take i (mA R)).length<=1000:=by rw[List.length_take]; omega
 refine⟨(Nat.le_trans (Nat.mul_le_mul_right _ hT) (show 1000*24<=70368744177664 by omega)),?_⟩
 conv=>whnf
 refine⟨Nat.le_refl 1,?_⟩;refine eo rfl rfl rfl (Nat.le_trans (Nat.mul_le_mul_right _ (Nat.add_le_add hT (show 1<=1 by omega))) (show(1000+1)*24<=70368744177664 by omega)) ?_
 conv=>whnf
 have hi1:IntKind.i64.wrap ((i:Int)+1)=((i+1:Nat):Int):=by rw[dm (by omega)]; omega
 rw[hi1];have hD:(List.drop (i+1) (mA R)).length<=1000:=by rw[List.length_drop]; omega
 refine⟨⟨by omega,by omega⟩,?_⟩
 conv=>whnf
 refine gq (by rw[aD]) (Nat.le_trans (Nat.mul_le_mul_right _ (Nat.add_le_add (by rw[aD]; exact Nat.add_le_add hT (show 1<=1 by omega)) hD)) (show(1000+1+1000)*24<=70368744177664 by omega)) ?_
 conv=>whnf
 refine Jm (es:=mA (R.set i rows)) ?_ ?_ (Nat.le_refl _) h
 . show O.buf (List.take i (mA R) ++ [[V.sl 1 (cK rows) false]]++List.drop (i+1) (mA R))=_
   rw[Id R i rows hi]
 . rw[aD];show(List.take i (mA R)).length+1+(List.drop (i+1) (mA R)).length=_
   rw[List.length_take,List.length_drop,eT,eT,List.length_set];omega
theorem dy {s:SS} {e:Evt} (hl:TbsB s.l) (hm:cm e s.l=0) (hn:gl e) (hs:s.log.length<=700000000) (h:Q (sV { s with log:=s.log++dD (cC e) }) []) :
 ACall Tryz.prog 50 0 [sV s,tZ e] [] Q:=by
 refine ACall.ret (ad Tryz.func50 0 rfl (aA rfl) ?_);obtain⟨l,R,log,n,m⟩:=s;simp only at hl hm hs;unfold sV at h;simp only at h;have hbl:=al log;have hwl:=qM hl (dF hm) hn;have hfl:=gZ (cC e);have hnl:=jN ((cC e).length:Int)
 conv=>whnf
 refine⟨(Nat.le_trans (Nat.mul_le_mul_right _ (show(bs log).length<=700000000 by omega)) (show 700000000*1<=70368744177664 by omega)),?_⟩
 conv=>whnf
 refine .pure (nf hl hn hm ⟨rfl,?_⟩)
 conv=>whnf
 refine .call [] 0 ⟨rfl,rfl,rfl⟩ (ng (body:=cC e) (by omega) ?_)
 generalize dD (cC e)=F at *;have hFl:=al F;have hT:List.take F.length (List.drop 0 (bs F))=bs F:=by rw[List.drop_zero,<-hFl,List.take_length]
 conv=>whnf
 refine⟨by omega,?_⟩
 refine eo (X:=bs log) (ys:=List.take F.length (List.drop 0 (bs F))) rfl rfl rfl (by rw[hT]; exact Nat.le_trans (Nat.mul_le_mul_right _ (show(bs log).length+(bs F).length<=800000000 by omega)) (show 800000000*1<=70368744177664 by omega)) ?_
 rw[hT]
 conv=>whnf
 have hfin:List.take ((bs log).length+(bs F).length) (List.drop 0 (bs log++bs F))=bs (log++F):=by rw[List.drop_zero,iA,List.take_of_length_le (by rw[aD]; exact Nat.le_refl _)]
 refine⟨[5],rfl,.frz 0 rfl (And.intro (by rw[Nat.zero_add,aD]; exact Nat.le_refl _) trivial) (.sub (.agg [.sl 3 (tbs l) false,.sl 1 (mA R) false,.sl 1 (bs (log++F)) false,fI n,fI m]) [.dead] ?_ (HSub.refl _) (.done [] rfl h))⟩
 show VSub (.agg [.sl 3 (tbs l) false,.sl 1 (mA R) false,.sl 1 (List.take ((bs log).length+(bs F).length) (List.drop 0 (bs log++bs F))) false,fI n,fI m]) _
 rw[hfin];exact .refl _
structure DocOk (l:List Tb) (R:List (List Rw)) (b:Nat):Prop where
 tbs:TbsB l
 len:R.length=l.length
 rows:∀(i:Nat) t rs,l[i]? = some t->R[i]? = some rs->RowsOk t rs/\rs.length<=b
theorem RsOk.doc {l:List Tb} {R:List (List Rw)} {vw:Vw} {b:Nat} (h:RsOk l R vw b):DocOk l R b :=
 ⟨h.tbs,h.len,fun i t rs h1 h2=>⟨h.rows i t rs h1 h2,let ⟨_,_,_,h3⟩:=h.tree i t rs h1 h2; h3.fewr⟩⟩
theorem DocOk.get {l:List Tb} {R:List (List Rw)} {b:Nat} (h:DocOk l R b) {i:Nat} {t:Tb} (ht:l[i]? = some t):∃rs,R[i]? = some rs/\R.getD i []=rs/\RowsOk t rs/\rs.length<=b:=by
 have hil:=(liZ.1 ht).1;have hRi:R[i]? = some (R[i]'(by rw[h.len]; exact hil)):=aS _
 generalize (R[i]'(by rw[h.len]; exact hil))=rs at hRi
 exact⟨rs,hRi,by rw[List.getD_eq_getElem?_getD,hRi]; rfl,h.rows i t rs ht hRi⟩
theorem kH {t:Tb} {rs:List Rw} (h:RowsOk t rs):BK rs:=fun r hr v hv=>by
 have:=mY (yC (h.fit r hr) v hv);omega
theorem DocOk.deed {l:List Tb} {R:List (List Rw)} {b:Nat} (h:DocOk l R b) {d:Dd} (hd:bn l R d=0):DocOk l (wd l R d) (b+1):=by
 cases ha:dP l d.t with
 | none=>unfold bn at hd; rw[ha]at hd; split at hd<;>simp at hd
 | some i =>
  obtain⟨t,hti,htn,hil⟩:=bY ha;obtain⟨rs,hRi,hgd,hro,hrb⟩:=h.get hti;rw[AP ha hti,hgd];have hk:1<=d.k/\d.k<=3:=by
   unfold bn at hd;split at hd
   . simp at hd
   . omega
  have hf:eG t d=true:=by
   rw[sa hk ha hti]at hd;cases hx:eG t d with
   | true=>rfl
   | false=>unfold jx at hd; rw[if_pos hx]at hd; simp at hd
  have hrl:=Gk t.c t.k.toNat rs (dn d);refine⟨h.tbs,by rw[List.length_set]; exact h.len,fun j t' rs' h1 h2=>?_⟩
  by_cases hij:i=j
  . subst hij;rw[hti]at h1; cases h1;rw[List.getElem?_set_self (by rw[h.len]; exact hil)]at h2
    cases h2;exact⟨hro.turn (wc hk htn.symm hf),by omega⟩
  . rw[List.getElem?_set_ne hij]at h2;have:=h.rows j t' rs' h1 h2;exact⟨this.1,by omega⟩
def sb (s:SS) (d:Dd):SS × Evt × Int:=if bn s.l s.R d=0 then({ s with R:=wd s.l s.R d },dn d,0)else(s,jB,bn s.l s.R d)
def dR (x:SS × Evt × Int):V:=.tup [sV x.1,tZ x.2.1,fI x.2.2]
def Hd:V:=.agg [fI 0,fI 0,.str [],.nils,.nils,fI 0,.str [],.nils,fI 0,.str [],fI 0,.bool false]
theorem EM:VSub Hd (tZ jB):=eO 0 0
theorem EK (s:SS) (er:Int):VSub (.tup [sV s,Hd,fI er]) (dR (s,jB,er)):=.tup (.cons (.refl _) (.cons EM (VSubs.refl _)))
set_option maxRecDepth 8000 in
theorem rn {s:SS} {d:Dd} {b:Nat} (hS:DocOk s.l s.R b) (hb:b<=900000) (ht:bd d.r) (h:Q (dR (sb s d)) []) :
 ACall Tryz.prog 40 0 [sV s,C8 d] [] Q:=by
 refine ACall.sub (ad Tryz.func40 0 rfl (aA rfl) ?_);have hE:bn s.l s.R d≠0->Q (dR (s,jB,bn s.l s.R d)) []:=fun he=>by unfold sb at h; rw[if_neg he]at h; exact h
 have hO:bn s.l s.R d=0->Q (dR ({ s with R:=wd s.l s.R d },dn d,0)) []:=fun he=>by unfold sb at h; rw[if_pos he]at h; exact h
 clear h;have hl:=hS.tbs;have hcl:=hl.cols;have hfew:=hl.few;have hlt:=bR s.l;have hrl:=eT s.R;have hlen:=hS.len;have err:∀er:Int,bn s.l s.R d=er->er≠0 -> ∃r' H'', VSub (.tup [sV s,Hd,fI er]) r'/\HSub [] H''/\Q r' H'' := fun er he h0=>⟨_,_,EK s er,HSub.refl _,by rw[<-he]at h0 ⊢; exact hE h0⟩
 conv=>whnf
 refine ac (fun c1=>?_) (fun c1=>?_)<;>try rw[c1]<;>conv=>whnf
 . have c1' := aB c1;refine⟨List.range 5,by kernel_rfl,by kernel_rfl,?_⟩
   repeat (conv=>whnf
           refine⟨rfl,?_⟩)
   conv=>whnf
   exact⟨[],rfl,err 5 (by unfold bn; rw[if_pos (.inl c1')]) (by decide)⟩
 have c1' := aG c1;refine ac (fun c3=>?_) (fun c3=>?_)<;>try rw[c3]<;>conv=>whnf
 . have c3' := aB c3;refine⟨List.range 5,by kernel_rfl,by kernel_rfl,?_⟩
   repeat (conv=>whnf
           refine⟨rfl,?_⟩)
   conv=>whnf
   exact⟨[],rfl,err 5 (by unfold bn; rw[if_pos (.inr c3')]) (by decide)⟩
 have c3' := aG c3;have hk:1<=d.k/\d.k<=3:=by omega
 refine .pure (dS (by omega) ⟨rfl,?_⟩)
 cases ha:dP s.l d.t with
 | none =>
  rw[ey ha]
  conv=>whnf
  refine⟨List.range 5,by kernel_rfl,by kernel_rfl,?_⟩
  repeat (conv=>whnf
          refine⟨rfl,?_⟩)
  conv=>whnf
  exact⟨[],rfl,err 7 (by unfold bn; rw[if_neg (by omega),ha]) (by decide)⟩
 | some i =>
  obtain⟨t,hti,htn,hil⟩:=bY ha;obtain⟨rs,hRi,hgd,hro,hrb⟩:=hS.get hti;have htk:=hl.tbk (List.mem_of_getElem? hti);have herr:=sa (R:=s.R) hk ha hti;have hdr:=AP (R:=s.R) ha hti;rw[hgd]at herr hdr;rw[hdr]at hO;obtain⟨n,C,K⟩:=t;obtain⟨k,rfl⟩:∃k:Nat,K=k:=⟨K.toNat,by have:=htk.lo; simp only at this; omega⟩
  have hC:C.length<=16:=htk.few;have hK1:1<=k:=by have:=htk.lo; simp only at this; omega
  have hK2:k<=C.length:=by have:=htk.hi; simp only at this; omega
  rw[show ji s.l d.t=(i:Int) by unfold ji D4; rw[show qC (my s.l) d.t=some i from ha]]
  conv=>whnf
  rw[show decide ((i:Int)<0)=false from decide_eq_false (by omega)]
  conv=>whnf
  refine⟨_,⟨by omega,ay hti⟩,?_⟩
  conv=>whnf
  refine .pure (oK (l:=C) (keys:=k) (vs:=d.r) (f:=false) (by omega) hK2 ht ⟨rfl,?_⟩)
  have hfull:∀er:Int,jx ⟨n,C,k⟩ rs d=er->er≠0 -> ∃r' H'', VSub (.tup [sV s,Hd,fI er]) r'/\HSub [] H''/\Q r' H'' := fun er he h0=>err er (by rw[herr]; exact he) h0
  have htx:∀b0:Bool,eG ⟨n,C,k⟩ d=b0->b0=false->jx ⟨n,C,k⟩ rs d=9:=fun b0 h1 h2=>by unfold jx; rw[if_pos (by rw[h1]; exact h2)]
  have hplc:cj (dK C k d.r) (iX C k rs)=dY C k (dK C k d.r) (cJ C k (dK C k d.r) rs):=by
   have hs:=hro.srt;have e:=dg C k (dK C k d.r) rs;have h1:=mU (key:=dK C k d.r) (a:=iX C k (bD C k (dK C k d.r) rs)) (b:=iX C k (cJ C k (dK C k d.r) rs)) (by rw[<-eS,e]; exact hs) nX qT
   rw[<-eS,e,qQ]at h1;exact h1
  have hty:eG ⟨n,C,k⟩ d=true->jx ⟨n,C,k⟩ rs d=if d.k=1 then(if dY C k (dK C k d.r) (cJ C k (dK C k d.r) rs)then 8 else 0)else if dY C k (dK C k d.r) (cJ C k (dK C k d.r) rs)then 0 else 14:=fun h1=>by
   unfold jx;rw[if_neg (by rw[h1]; simp),show kN (⟨n,C,k⟩:Tb) rs d=dY C k (dK C k d.r) (cJ C k (dK C k d.r) rs)from hplc]
  by_cases h3:d.k=3
  . have hfd:eG ⟨n,C,k⟩ d=(aP C k d.r&&decide ((d.r.length:Int)=k)):=by unfold eG; rw[if_pos h3]; rfl
    cases hkb:aP C k d.r
    . rw[ww hkb]
      conv=>whnf
      refine .pure (iu (l:=C) (keys:=(k:Int)) (vs:=d.r) (f:=false) (by omega) ht ⟨rfl,?_⟩)
      conv=>whnf
      rw[show decide (d.k=3)=true from decide_eq_true h3]
      conv=>whnf
      refine⟨List.range 5,by kernel_rfl,by kernel_rfl,?_⟩
      repeat (conv=>whnf
              refine⟨rfl,?_⟩)
      conv=>whnf
      exact⟨[],rfl,hfull 9 (htx _ hfd (by rw[hkb]; rfl)) (by decide)⟩
    . rw[jK hkb]
      conv=>whnf
      refine .pure (iu (l:=C) (keys:=(k:Int)) (vs:=d.r) (f:=false) (by omega) ht ⟨rfl,?_⟩)
      conv=>whnf
      rw[show decide (d.k=3)=true from decide_eq_true h3]
      conv=>whnf
      rw[aC];cases hlk:decide ((d.r.length:Int)=k)<;>conv=>whnf
      . refine⟨List.range 5,by kernel_rfl,by kernel_rfl,?_⟩
        repeat (conv=>whnf
                refine⟨rfl,?_⟩)
        conv=>whnf
        exact⟨[],rfl,hfull 9 (htx _ hfd (by rw[hkb,hlk]; rfl)) (by decide)⟩
      . have hty:=hty (by rw[hfd,hkb,hlk]; rfl)
        rw[if_neg (by omega)]at hty
        refine⟨List.range 13,by kernel_rfl,by kernel_rfl,?_⟩
        conv=>whnf
        refine⟨_,⟨by omega,aK hRi⟩,?_⟩
        conv=>whnf
        refine .pure (gn (C:=C) (K:=k) (l:=rs) (key:=dK C k d.r) (f:=false) (by omega) hK2 (kH hro) (by omega) ⟨rfl,?_⟩)
        repeat (conv=>whnf
                first | (refine⟨rfl,?_⟩) | (refine⟨⟨_,⟨by omega,aK hRi⟩,rfl⟩,?_⟩))
        conv=>whnf
        rw[show decide (d.k=1)=false from decide_eq_false (by omega)]
        conv=>whnf
        cases hhd:dY C k (dK C k d.r) (cJ C k (dK C k d.r) rs)<;>rw[hhd]at hty<;>conv=>whnf
        all_goals
         rw[show decide (d.k=1)=false from decide_eq_false (by omega)]
         conv=>whnf
        . refine⟨List.range 5,by kernel_rfl,by kernel_rfl,?_⟩
          repeat (conv=>whnf
                  refine⟨rfl,?_⟩)
          conv=>whnf
          exact⟨[],rfl,hfull 14 hty (by decide)⟩
        . have hO:=hO (by rw[herr]; exact hty)
          have hde:dn d=⟨5,0,d.t,d.r,[],br⟩:=by unfold dn; rw[if_pos h3]
          rw[hde]at hO;rw[show jf (⟨n,C,k⟩:Tb).c (⟨n,C,k⟩:Tb).k.toNat rs ⟨5,0,d.t,d.r,[],br⟩=lj C k rs (dK C k d.r)from if_pos rfl]at hO
          rw[show decide (d.k=3)=true from decide_eq_true h3]
          conv=>whnf
          refine⟨List.range 14,by kernel_rfl,by kernel_rfl,?_⟩
          conv=>whnf
          refine⟨_,⟨by omega,aK hRi⟩,?_⟩
          conv=>whnf
          refine .pure (pL (C:=C) (K:=k) (l:=rs) (key:=dK C k d.r) (by omega) hK2 (kH hro) (by omega) ⟨rfl,?_⟩)
          generalize lj C k rs (dK C k d.r)=rs' at *
          repeat (conv=>whnf
                  first | (refine⟨rfl,?_⟩) | (refine⟨⟨_,⟨by omega,aK hRi⟩,rfl⟩,?_⟩))
          conv=>whnf
          refine .pure (iw (R:=s.R) (i:=i) (rows:=rs') (by omega) (by omega) ⟨rfl,?_⟩)
          repeat (conv=>whnf
                  first | (refine⟨rfl,?_⟩) | (refine⟨⟨_,⟨by omega,aK hRi⟩,rfl⟩,?_⟩))
          conv=>whnf
          refine⟨List.range 9,by kernel_rfl,by kernel_rfl,?_⟩
          repeat (conv=>whnf
                  refine⟨rfl,?_⟩)
          conv=>whnf
          exact⟨[],rfl,_,_,.tup (.cons (.refl _) (.cons (tj 5 d.t d.r) (VSubs.refl _))),HSub.refl _,hO⟩
  . have hfd:eG ⟨n,C,k⟩ d=bB C d.r:=by unfold eG; rw[if_neg h3]
    obtain⟨a,e,hke,hka⟩:∃a e,pa C k d.r = .tup [.str a,fI e]/\(bB C d.r=true->a=dK C k d.r):=by
     cases hkb:aP C k d.r with
     | true=>exact⟨_,_,jK hkb,fun _=>rfl⟩
     | false=>exact⟨_,_,ww hkb,fun hx=>by rw[dJ hK2 hx]at hkb; cases hkb⟩
    rw[hke]
    conv=>whnf
    refine .pure (iu (l:=C) (keys:=(k:Int)) (vs:=d.r) (f:=false) (by omega) ht ⟨rfl,?_⟩)
    conv=>whnf
    rw[show decide (d.k=3)=false from decide_eq_false h3]
    conv=>whnf
    cases hft:bB C d.r<;>conv=>whnf
    . refine⟨List.range 5,by kernel_rfl,by kernel_rfl,?_⟩
      repeat (conv=>whnf
              refine⟨rfl,?_⟩)
      conv=>whnf
      exact⟨[],rfl,hfull 9 (htx _ hfd hft) (by decide)⟩
    . rw[hka hft];have hty:=hty (by rw[hfd]; exact hft)
      refine⟨List.range 13,by kernel_rfl,by kernel_rfl,?_⟩
      conv=>whnf
      refine⟨_,⟨by omega,aK hRi⟩,?_⟩
      conv=>whnf
      refine .pure (gn (C:=C) (K:=k) (l:=rs) (key:=dK C k d.r) (f:=false) (by omega) hK2 (kH hro) (by omega) ⟨rfl,?_⟩)
      repeat (conv=>whnf
              first | (refine⟨rfl,?_⟩) | (refine⟨⟨_,⟨by omega,aK hRi⟩,rfl⟩,?_⟩))
      conv=>whnf
      have hde:dn d=⟨2+d.k,0,d.t,[],d.r,br⟩:=by unfold dn; rw[if_neg h3]
      have htu:jf (⟨n,C,k⟩:Tb).c (⟨n,C,k⟩:Tb).k.toNat rs (dn d)=jP C k rs d.r:=by
       rw[hde];exact if_neg (by simp only; omega)
      rw[htu,hde]at hO;have hwk:IntKind.i64.wrap (2+d.k)=2+d.k:=by rw[aQ (by omega)]
      by_cases h1:d.k=1
      . rw[if_pos h1]at hty;rw[show decide (d.k=1)=true from decide_eq_true h1]
        conv=>whnf
        cases hhd:dY C k (dK C k d.r) (cJ C k (dK C k d.r) rs)<;>rw[hhd]at hty<;>conv=>whnf
        rotate_left
        . refine⟨List.range 5,by kernel_rfl,by kernel_rfl,?_⟩
          repeat (conv=>whnf
                  refine⟨rfl,?_⟩)
          conv=>whnf
          exact⟨[],rfl,hfull 8 hty (by decide)⟩
        . have hO:=hO (by rw[herr]; exact hty)
          rw[show decide (d.k=1)=true from decide_eq_true h1]
          conv=>whnf
          rw[show decide (d.k=3)=false from decide_eq_false h3]
          conv=>whnf
          refine⟨List.range 15,by kernel_rfl,by kernel_rfl,?_⟩
          conv=>whnf
          refine⟨_,⟨by omega,aK hRi⟩,?_⟩
          conv=>whnf
          refine .pure (ld (C:=C) (K:=k) (l:=rs) (r:=d.r) (f:=false) (by omega) hK2 (kH hro) ht (by omega) ⟨rfl,?_⟩)
          generalize jP C k rs d.r=rs' at *
          repeat (conv=>whnf
                  first | (refine⟨rfl,?_⟩) | (refine⟨⟨_,⟨by omega,aK hRi⟩,rfl⟩,?_⟩))
          conv=>whnf
          refine .pure (iw (R:=s.R) (i:=i) (rows:=rs') (by omega) (by omega) ⟨rfl,?_⟩)
          repeat (conv=>whnf
                  first | (refine⟨rfl,?_⟩) | (refine⟨⟨_,⟨by omega,aK hRi⟩,rfl⟩,?_⟩))
          conv=>whnf
          refine⟨List.range 12,by kernel_rfl,by kernel_rfl,?_⟩
          repeat (conv=>whnf
                  refine⟨rfl,?_⟩)
          conv=>whnf
          refine⟨[],rfl,_,_,?_,HSub.refl _,hO⟩;show VSub (.tup [_,.agg [.int .i64 (IntKind.i64.wrap (2+d.k)),.int .i64 0,.str d.t,.nils,.sl 3 (ah d.r) false,.int .i64 0,.str [],.nils,.int .i64 0,.str [],.int .i64 0,.bool false],fI 0]) _
          rw[hwk];exact .tup (.cons (.refl _) (.cons (q0 (2+d.k) d.t d.r) (VSubs.refl _)))
      . rw[if_neg h1]at hty;rw[show decide (d.k=1)=false from decide_eq_false h1]
        conv=>whnf
        cases hhd:dY C k (dK C k d.r) (cJ C k (dK C k d.r) rs)<;>rw[hhd]at hty<;>conv=>whnf
        all_goals
         rw[show decide (d.k=1)=false from decide_eq_false h1]
         conv=>whnf
        . refine⟨List.range 5,by kernel_rfl,by kernel_rfl,?_⟩
          repeat (conv=>whnf
                  refine⟨rfl,?_⟩)
          conv=>whnf
          exact⟨[],rfl,hfull 14 hty (by decide)⟩
        . have hO:=hO (by rw[herr]; exact hty)
          rw[show decide (d.k=3)=false from decide_eq_false h3]
          conv=>whnf
          refine⟨List.range 15,by kernel_rfl,by kernel_rfl,?_⟩
          conv=>whnf
          refine⟨_,⟨by omega,aK hRi⟩,?_⟩
          conv=>whnf
          refine .pure (ld (C:=C) (K:=k) (l:=rs) (r:=d.r) (f:=false) (by omega) hK2 (kH hro) ht (by omega) ⟨rfl,?_⟩)
          generalize jP C k rs d.r=rs' at *
          repeat (conv=>whnf
                  first | (refine⟨rfl,?_⟩) | (refine⟨⟨_,⟨by omega,aK hRi⟩,rfl⟩,?_⟩))
          conv=>whnf
          refine .pure (iw (R:=s.R) (i:=i) (rows:=rs') (by omega) (by omega) ⟨rfl,?_⟩)
          repeat (conv=>whnf
                  first | (refine⟨rfl,?_⟩) | (refine⟨⟨_,⟨by omega,aK hRi⟩,rfl⟩,?_⟩))
          conv=>whnf
          refine⟨List.range 12,by kernel_rfl,by kernel_rfl,?_⟩
          repeat (conv=>whnf
                  refine⟨rfl,?_⟩)
          conv=>whnf
          refine⟨[],rfl,_,_,?_,HSub.refl _,hO⟩;show VSub (.tup [_,.agg [.int .i64 (IntKind.i64.wrap (2+d.k)),.int .i64 0,.str d.t,.nils,.sl 3 (ah d.r) false,.int .i64 0,.str [],.nils,.int .i64 0,.str [],.int .i64 0,.bool false],fI 0]) _
          rw[hwk];exact .tup (.cons (.refl _) (.cons (q0 (2+d.k) d.t d.r) (VSubs.refl _)))
end
end Go.Proofs.YteiagdlfccbpcaaGreatDoorPg
