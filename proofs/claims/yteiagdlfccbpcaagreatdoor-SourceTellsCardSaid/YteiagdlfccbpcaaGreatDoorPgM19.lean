/- Own texts, laid together: Pg10ZDValid, Pg10ZDValG, Pg10ZDKeyP, Pg10ZDEv9, Pg10ZDEv10, Pg10ZDValF, Pg10ZDEv11, Pg10ZDIm3, Pg10ZDCrB, Pg10ZDCrC, Pg10ZDIm4, Pg10ZDIm5, Pg10ZDIm6, Pg10ZDIm7, Pg10ZDIm8, Pg10ZDIm9, Pg10ZDIm10, Pg10ZDIm11, Pg10ZDIm12, Pg10ZDIm13, Pg10ZDIm14, Pg10ZDInsT. -/
import Derived.Test.YteiagdlfccbpcaaGreatDoorPgM17
import Derived.Test.YteiagdlfccbpcaaGreatDoorPgM13
import Derived.Shelf.Unicode.ValidAny
import Derived.Test.YteiagdlfccbpcaaGreatDoorPgM18
import Derived.Test.YteiagdlfccbpcaaGreatDoorPgM12
import Derived.Test.YteiagdlfccbpcaaGreatDoorPgM14
set_option linter.unusedSimpArgs false
set_option linter.unusedVariables false
set_option maxHeartbeats 64000000
namespace Go.Proofs.YteiagdlfccbpcaaGreatDoorPg
open Go Go.RowKit
section
variable {Q:V->List O->Prop}
theorem oN {s:List UInt8} (hs:s.length<=9223372036854775807) (h:Q (.bool (u8 s)) []):ACall Tryz.prog 191 0 [.str s] [] Q:=by
 refine xQ (r:=.bool (u8 s)) (fun I ρ w us hst ha=>?_) h
 obtain⟨u,us', e1,hu,ht⟩:=ha.cons_inv;have e2:us' = []:=List.eq_nil_of_length_eq_zero ht.1.symm;obtain⟨b,hb,rfl⟩:=eM hu;subst e2;have eu:us = #[.string b]:=by
  apply Array.ext';simpa using e1
 subst eu;refine⟨.bool (u8 s),fun _ _=>.bool _ _,?_⟩
 have hsz:b.size<=9223372036854775807:=by
  have:b.size=s.length:=by rw[<-hb]; rfl
  omega
 have:=Any.utf8_ValidString Tryz.laysValid b w hsz (Ij hst);rw[hb,Gt]at this;exact this
theorem D2 (vs:List Val) (n:Nat):List.take n (ah vs)=ah (vs.take n):=by simp[ah,List.map_take]
theorem qb {b b' : Bool} {H:List O} (h:Q (.bool b) H) (e:b=b'):Q (.bool b') H:=e ▸ h
theorem uo {v:Val} (ht:v.t.length<1000000000000000000) (h:Q (.bool (fK v)) []):ACall Tryz.prog 181 0 [BD v] [] Q:=by
 refine ad Tryz.func181 0 rfl (aA rfl) ?_
 conv=>whnf
 refine ac (fun c1=>?_) (fun c1=>?_)<;>try rw[c1]<;>conv=>whnf
 all_goals
  have hc:=c1;refine ac (fun k0=>?_) (fun k0=>?_)<;>try rw[k0]<;>conv=>whnf
  focus
   refine⟨[],rfl,qb h ?_⟩;unfold fK;rw[if_pos (aB k0),k0];simp
  have k0' := aG k0;refine ac (fun k1=>?_) (fun k1=>?_)<;>try rw[k1]<;>conv=>whnf
  focus
   have e:fK v=(decide (v.t = [])&&(decide (v.n=0)||decide (v.n=1))):=by unfold fK; rw[if_neg k0', if_pos (aB k1)]
   rw[e]at h;refine ac (fun d1=>?_) (fun d1=>?_)<;>rw[d1]at h<;>try rw[d1]<;>conv=>whnf
   focus exact⟨[],rfl,qb h (by simp)⟩
   refine ac (fun d2=>?_) (fun d2=>?_)<;>rw[d2]at h<;>try rw[d2]<;>conv=>whnf
   . exact⟨[],rfl,qb h (by simp)⟩
   . exact⟨[],rfl,qb h (by simp)⟩
  have k1' := aG k1;refine ac (fun k2=>?_) (fun k2=>?_)<;>try rw[k2]<;>conv=>whnf
  focus
   have e:fK v=decide (v.t = []):=by unfold fK; rw[if_neg k0', if_neg k1', if_pos (aB k2)]
   rw[e]at h;exact⟨[],rfl,h⟩
  have k2' := aG k2;refine ac (fun k3=>?_) (fun k3=>?_)<;>try rw[k3]<;>conv=>whnf
  focus
   have e:fK v=(u8 v.t&&decide (v.n=0)&&decide ((v.t.length:Int)<=4096)):=by unfold fK; rw[if_neg k0', if_neg k1', if_neg k2', if_pos (aB k3)]
   rw[e,hc]at h
   first
    | exact⟨[],rfl,qb h (by simp)⟩
    | (refine ac (fun d1=>?_) (fun d1=>?_)<;>rw[d1]at h<;>try rw[d1]<;>conv=>whnf
       . refine .pure (oN (by omega) ⟨rfl,?_⟩)
         conv=>whnf
         exact⟨[],rfl,qb h (by simp)⟩
       . exact⟨[],rfl,qb h (by simp)⟩)
  have k3' := aG k3;refine ac (fun k4=>?_) (fun k4=>?_)<;>try rw[k4]<;>conv=>whnf
  . have e:fK v=(decide (v.n=0)&&decide ((v.t.length:Int)<=4096)):=by unfold fK; rw[if_neg k0', if_neg k1', if_neg k2', if_neg k3', if_pos (aB k4)]
    rw[e,hc]at h;exact⟨[],rfl,qb h (by simp)⟩
  . have e:fK v=false:=by unfold fK; rw[if_neg k0', if_neg k1', if_neg k2', if_neg k3', if_neg (aG k4)]
    rw[e]at h;exact⟨[],rfl,h⟩
theorem Dn {c:Col} {v:Val} (ht:v.t.length<1000000000000000000) (h:Q (.bool (bG c v)) []):ACall Tryz.prog 180 0 [AK c,BD v] [] Q:=by
 refine ad Tryz.func180 0 rfl (aA rfl) ?_
 conv=>whnf
 unfold bG at h;refine .pure (uo ht ⟨rfl,?_⟩)
 conv=>whnf
 cases c1:fK v<;>rw[c1]at h<;>conv=>whnf
 focus exact⟨[],rfl,h⟩
 refine ac (fun c2=>?_) (fun c2=>?_)<;>rw[c2]at h<;>try rw[c2]<;>conv=>whnf
 focus exact⟨[],rfl,h⟩
 refine ac (fun c3=>?_) (fun c3=>?_)<;>rw[c3]at h<;>try rw[c3]<;>conv=>whnf
 all_goals exact⟨[],rfl,h⟩
theorem pU {l:List Col} {keys:Int} {vs:List Val} {f:Bool} {n:Nat} (hl:l.length<=1000) (hn:n<=l.length) (ht:bd vs) (h:Q (.bool (aP l n vs)) []) :
 ACall Tryz.prog 161 0 [sch l keys,.sl 3 (ah vs) f,fI n] [] Q:=by
 have hlc:=aw l;have hlv:=aC vs;refine ad Tryz.func161 0 rfl (aA rfl) ?_
 conv=>whnf
 refine ac (fun c1=>?_) (fun c1=>?_)<;>try rw[c1]<;>conv=>whnf
 focus
  have c1' := aB c1;have e:aP l n vs=false:=by unfold aP; rw[decide_eq_false (by omega),Bool.false_and]
  rw[e]at h;exact⟨[],rfl,h⟩
 have c1' := aG c1;refine⟨⟨[1,3,12,13],fun m ws H=>∃i:Nat,ws = [.sl 3 (ah vs) f,.ptr 0 0,fI n,fI i]/\H = [.cells [.sl 3 (cols l) false,fI keys]]/\pv l vs i/\i<=n/\m=n-i,
  .at n ⟨0,rfl,rfl,fun i c v hi=>by omega,Nat.zero_le _,rfl⟩,?_⟩⟩
 rintro m ws H ⟨i,rfl,rfl,hs,hi,rfl⟩
 conv=>whnf
 refine ac (fun c2=>?_) (fun c2=>?_)<;>try rw[c2]<;>conv=>whnf
 focus
  have c2' := aB c2;have hi1:i<l.length:=by omega
  have hi2:i<vs.length:=by omega
  have g1:l[i]? = some l[i]:=aS hi1;have g2:vs[i]? = some vs[i]:=aS hi2;have htt:=ht vs[i] (List.getElem_mem hi2);generalize l[i]=c at *;generalize vs[i]=v at *;refine⟨List.range 11,by kernel_rfl,by kernel_rfl,?_⟩
  conv=>whnf
  refine⟨_,⟨by omega,bj g1⟩,?_⟩
  conv=>whnf
  refine⟨_,⟨by omega,bU g2⟩,?_⟩
  conv=>whnf
  refine .pure (Dn (c:=c) (v:=v) htt ⟨rfl,?_⟩)
  conv=>whnf
  cases e:bG c v
  . conv=>whnf
    rw[sJ (by omega) g1 g2 e]at h
    exact⟨[],rfl,h⟩
  . conv=>whnf
    refine .go [0] rfl (n-(i+1)) (by omega) ⟨i+1,?_,rfl,fun j c' v' hj hc' hv' => ?_,by omega,rfl⟩
    . show [V.sl 3 (ah vs) f,V.ptr 0 0,fI n,V.int .i64 (IntKind.i64.wrap ((i:Int)+1))]=_
      rw[aQ (by omega)]; rfl
    . rcases Nat.lt_or_ge j i with h1 | h1
      . exact hs j c' v' h1 hc' hv'
      . have:j=i:=by omega
        subst this;rw[g1]at hc'; rw[g2]at hv'; cases hc'; cases hv'; exact e
 have c2' := aG c2;have hie:i=n:=by omega
 subst hie;rw[uT (by omega) hs]at h
 exact⟨[],rfl,h⟩
theorem uj {l:List Col} {keys:Int} {vs:List Val} {f:Bool} (hl:l.length<=1000) (ht:bd vs) (h:Q (.bool (bB l vs)) []) :
 ACall Tryz.prog 132 0 [sch l keys,.sl 3 (ah vs) f] [] Q:=by
 have hlc:=aw l;have hlv:=aC vs;refine ad Tryz.func132 0 rfl (aA rfl) ?_
 conv=>whnf
 by_cases e:vs.length=l.length
 rotate_left
 focus
  rw[show decide (((ah vs).length:Int)=((cols l).length:Int))=false by simp only[hlv,hlc,decide_eq_false_iff_not]; omega]
  conv=>whnf
  have e2:bB l vs=false:=by unfold bB; rw[decide_eq_false e,Bool.false_and]
  rw[e2]at h;exact⟨[],rfl,h⟩
 rw[show decide (((ah vs).length:Int)=((cols l).length:Int))=true by simp only[hlv,hlc,decide_eq_true_eq]; omega]
 conv=>whnf
 rw[hlv];refine .pure (pU hl (by omega) ht ⟨rfl,?_⟩)
 conv=>whnf
 refine⟨[],rfl,qb h ?_⟩;unfold bB aP;rw[decide_eq_true e,decide_eq_true (Nat.le_refl _)]
set_option maxRecDepth 10000 in
theorem E4 {v:Val} {P:List UInt8} (hP:P.length<=9000000) (hvt:v.t.length<=4096) (h:Q (.ms 1 0 0 (bs (P++hU v)).length false) [.buf (bs (P++hU v))]) :
 ACall Tryz.prog 182 0 [.ms 1 0 0 (bs P).length false,BD v] [.buf (bs P)] Q:=by
 refine ad Tryz.func182 0 rfl (aA rfl) ?_
 conv=>whnf
 refine⟨Nat.le_refl _,?_⟩
 conv=>whnf
 refine⟨rfl,?_⟩
 conv=>whnf
 refine⟨Nat.le_trans (Nat.mul_le_mul_right _ (by rw[aD,List.length_take,List.drop_zero]; exact Nat.add_le_add (show _<=9000000 by simp only[al,aD,List.length_cons,List.length_nil,List.length_take,List.length_drop]; omega) (Nat.le_trans (Nat.min_le_left _ _) (by decide)))) (show(9000000+2)*1<=70368744177664 by omega),?_⟩
 conv=>whnf
 by_cases k1:v.k=1
 focus
  have hk:hU v = [b8 v.k,b8 v.n]:=by unfold hU t7; rw[if_pos k1]
  rw[hk]at h;rw[show decide (v.k=1)=true by simp[k1]]
  conv=>whnf
  refine⟨Nat.le_refl _,?_⟩
  conv=>whnf
  refine⟨rfl,?_⟩
  conv=>whnf
  refine⟨Nat.le_trans (Nat.mul_le_mul_right _ (by rw[aD,List.length_take,List.drop_zero]; exact Nat.add_le_add (show _<=9000001 by simp only[al,aD,List.length_cons,List.length_nil,List.length_take,List.length_drop]; omega) (Nat.le_trans (Nat.min_le_left _ _) (by decide)))) (show(9000001+2)*1<=70368744177664 by omega),?_⟩
  conv=>whnf
  refine⟨[5],rfl,?_⟩;have e:bs (P ++ [b8 v.k,b8 v.n])=bs P ++ [[V.int .u8 (IntKind.u8.wrap v.k)]] ++ [[V.int .u8 (IntKind.u8.wrap v.n)]]:=by simp[bs,bZ]
  rw[e]at h;exact h
 rw[show decide (v.k=1)=false by simp[k1]]
 conv=>whnf
 by_cases k2:v.k=2
 focus
  have hk:hU v=b8 v.k::qD (fA v.n) 8:=by unfold hU t7; rw[if_neg k1,if_pos k2]
  rw[hk]at h;rw[show decide (v.k=2)=true by simp[k2]]
  conv=>whnf
  refine⟨⟨[0,3,25],fun m ws H=>∃(j:Nat),ws = [.ms 1 1 0 (bs (P++b8 v.k::qD (fA v.n) j)).length false,.ptr 0 0,fI j] /\
   H = [.cells (cP v),.buf (bs (P++b8 v.k::qD (fA v.n) j))]/\j<=8/\m=8-j,.frz 9 (.go [1,3] rfl 8 (by omega) ⟨0,?_,?_,by omega,rfl⟩),?_⟩⟩
  . show [V.ms 1 1 0 (bs P ++ [[V.int .u8 (IntKind.u8.wrap v.k)]]).length false,V.ptr 0 0,fI 0]=_
    simp[bs,qD]
  . show [O.cells (cP v),O.buf (bs P ++ [[V.int .u8 (IntKind.u8.wrap v.k)]])]=_
    simp[bs,qD,bZ]
  rintro m ws H ⟨j,rfl,rfl,hj,rfl⟩
  conv=>whnf
  have hbl:=qF (fA v.n) j;refine ac (fun d1=>?_) (fun d1=>?_)<;>try rw[d1]<;>conv=>whnf
  rotate_left
  focus
   have d1' := aG d1;have hj8:j=8:=by omega
   subst hj8;exact⟨[1],rfl,h⟩
  have d1' := aB d1;refine⟨(by rw[IntKind.wrap_i64,IntKind.wrap_i64]; omega),?_⟩
  conv=>whnf
  refine⟨Nat.le_refl _,?_⟩
  conv=>whnf
  refine⟨rfl,?_⟩
  conv=>whnf
  refine⟨Nat.le_trans (Nat.mul_le_mul_right _ (by rw[aD,List.length_take,List.drop_zero]; exact Nat.add_le_add (show _<=9000009 by simp only[al,aD,List.length_cons,List.length_nil,List.length_take,List.length_drop]; omega) (Nat.le_trans (Nat.min_le_left _ _) (by decide)))) (show(9000009+2)*1<=70368744177664 by omega),?_⟩
  conv=>whnf
  have hby:=GR v.n j (by omega)
  refine .go [0,3] rfl (8-(j+1)) (by omega) ⟨j+1,?_,?_,by omega,rfl⟩
  . show [V.ms 1 1 0 (bs (P++b8 v.k::qD (fA v.n) j) ++ [[V.int .u8 (IntKind.u8.wrap _)]]).length false,V.ptr 0 0,V.int .i64 (IntKind.i64.wrap ((j:Int)+1))]=_
    rw[aQ (n:=(j:Int)+1) (by omega)]; simp[bs,qD]
  . show [O.cells (cP v),O.buf (bs (P++b8 v.k::qD (fA v.n) j) ++ [[V.int .u8 (IntKind.u8.wrap _)]])]=_
    rw[bZ,Gv,hby];simp[bs,qD]
 rw[show decide (v.k=2)=false by simp[k2]]
 conv=>whnf
 by_cases k34:v.k=3\/v.k=4
 rotate_left
 focus
  have hk:hU v = [b8 v.k]:=by unfold hU t7; rw[if_neg k1,if_neg k2,if_neg k34]
  rw[hk]at h;rw[show decide (v.k=3)=false by simp; omega]
  conv=>whnf
  rw[show decide (v.k=4)=false by simp; omega]
  conv=>whnf
  refine⟨[3],rfl,?_⟩;have e:bs (P ++ [b8 v.k])=bs P ++ [[V.int .u8 (IntKind.u8.wrap v.k)]]:=by simp[bs,bZ]
  rw[e]at h;exact h
 have hk:hU v=b8 v.k::(eW v.t ++ [0,1]):=by unfold hU t7; rw[if_neg k1,if_neg k2,if_pos k34]
 rw[hk]at h;by_cases k3:v.k=3
 focus
  rw[show decide (v.k=3)=true by simp[k3]]
  conv=>whnf
 rotate_left
 focus
  rw[show decide (v.k=3)=false by simp[k3]]
  conv=>whnf
  rw[show decide (v.k=4)=true by simp; omega]
  conv=>whnf
 all_goals
  refine⟨⟨[0,3,46,47],fun m ws H=>∃(j:Nat),ws = [.ms 1 1 0 (bs (P++b8 v.k::eW (v.t.take j))).length false,.ptr 0 0,fI v.t.length,fI j] /\
   H = [.cells (cP v),.buf (bs (P++b8 v.k::eW (v.t.take j)))]/\j<=v.t.length/\m=v.t.length-j,.frz (v.t.length+1) (.go [1,3] rfl v.t.length (by omega) ⟨0,?_,?_,by omega,rfl⟩),?_⟩⟩
  . show [V.ms 1 1 0 (bs P ++ [[V.int .u8 (IntKind.u8.wrap v.k)]]).length false,V.ptr 0 0,fI v.t.length,fI 0]=_
    simp[bs,eW]
  . show [O.cells (cP v),O.buf (bs P ++ [[V.int .u8 (IntKind.u8.wrap v.k)]])]=_
    simp[bs,eW,bZ]
  rintro m ws H ⟨j,rfl,rfl,hj,rfl⟩
  conv=>whnf
  have hel:=nP (v.t.take j);rw[List.length_take]at hel;refine ac (fun d1=>?_) (fun d1=>?_)<;>try rw[d1]<;>conv=>whnf
  focus
   have d1' := aB d1;have hjl:j<v.t.length:=by omega
   have hgb:v.t[j]? = some v.t[j]:=aS hjl;generalize v.t[j]=b at *;have hes:=uJ hgb;refine⟨b,⟨by omega,hgb⟩,?_⟩
   conv=>whnf
   refine⟨Nat.le_refl _,?_⟩
   conv=>whnf
   refine⟨rfl,?_⟩
   conv=>whnf
   refine⟨Nat.le_trans (Nat.mul_le_mul_right _ (by rw[aD,List.length_take,List.drop_zero]; exact Nat.add_le_add (show _<=9010000 by simp only[al,aD,List.length_cons,List.length_nil,List.length_take,List.length_drop]; omega) (Nat.le_trans (Nat.min_le_left _ _) (by decide)))) (show(9010000+2)*1<=70368744177664 by omega),?_⟩
   conv=>whnf
   refine⟨b,⟨by omega,hgb⟩,?_⟩
   conv=>whnf
   by_cases hb:b=0
   . subst hb
     conv=>whnf
     refine⟨Nat.le_refl _,?_⟩
     conv=>whnf
     refine⟨rfl,?_⟩
     conv=>whnf
     refine⟨Nat.le_trans (Nat.mul_le_mul_right _ (by rw[aD,List.length_take,List.drop_zero]; exact Nat.add_le_add (show _<=9010001 by simp only[al,aD,List.length_cons,List.length_nil,List.length_take,List.length_drop]; omega) (Nat.le_trans (Nat.min_le_left _ _) (by decide)))) (show(9010001+2)*1<=70368744177664 by omega),?_⟩
     conv=>whnf
     have he:sj 0 = [0,255]:=rfl;rw[he]at hes;refine .go [0,5] rfl (v.t.length-(j+1)) (by omega) ⟨j+1,?_,?_,by omega,rfl⟩
     . show [V.ms 1 1 0 (bs (P++b8 v.k::eW (v.t.take j)) ++ [[V.int .u8 ((0:UInt8).toNat:Int)]] ++ [[V.int .u8 255]]).length false,V.ptr 0 0,fI v.t.length,V.int .i64 (IntKind.i64.wrap ((j:Int)+1))]=_
       rw[aQ (n:=(j:Int)+1) (by omega),hes]; simp[bs]
     . show [O.cells (cP v),O.buf (bs (P++b8 v.k::eW (v.t.take j)) ++ [[V.int .u8 ((0:UInt8).toNat:Int)]] ++ [[V.int .u8 255]])]=_
       rw[hes]; simp[bs]
   . have hb' : ¬(b.toNat:Int)=0:=fun e=>hb (by
      have:b.toNat=0:=by omega
      exact UInt8.toNat_inj.1 (by rw[this]; rfl))
     rw[show decide ((b.toNat:Int)=0)=false by simp only[hb', decide_false]]
     conv=>whnf
     have he:sj b = [b]:=by unfold sj; rw[if_neg hb]
     rw[he]at hes;refine .go [0,3] rfl (v.t.length-(j+1)) (by omega) ⟨j+1,?_,?_,by omega,rfl⟩
     . show [V.ms 1 1 0 (bs (P++b8 v.k::eW (v.t.take j)) ++ [[V.int .u8 (b.toNat:Int)]]).length false,V.ptr 0 0,fI v.t.length,V.int .i64 (IntKind.i64.wrap ((j:Int)+1))]=_
       rw[aQ (n:=(j:Int)+1) (by omega),hes]; simp[bs]
     . show [O.cells (cP v),O.buf (bs (P++b8 v.k::eW (v.t.take j)) ++ [[V.int .u8 (b.toNat:Int)]])]=_
       rw[hes]; simp[bs]
  have d1' := aG d1;have hjt:j=v.t.length:=by omega
  subst hjt;rw[List.take_length]at hel ⊢;refine⟨Nat.le_refl _,?_⟩
  conv=>whnf
  refine⟨rfl,?_⟩
  conv=>whnf
  refine⟨Nat.le_trans (Nat.mul_le_mul_right _ (by rw[aD,List.length_take,List.drop_zero]; exact Nat.add_le_add (show _<=9010000 by simp only[al,aD,List.length_cons,List.length_nil,List.length_take,List.length_drop]; omega) (Nat.le_trans (Nat.min_le_left _ _) (by decide)))) (show(9010000+2)*1<=70368744177664 by omega),?_⟩
  conv=>whnf
  refine⟨[3],rfl,?_⟩;have e:bs (P++b8 v.k::(eW v.t ++ [0,1]))=bs (P++b8 v.k::eW v.t) ++ [[V.int .u8 0],[V.int .u8 1]]:=by simp[bs]
  rw[e]at h;exact h
set_option maxRecDepth 10000 in
theorem D9 {l:List Val} {f:Bool} (hl:l.length<=1000) (ht:bd l) (h:Q (if l.all fK then .tup [.str (eH l),fI 0]else .tup [.str [],fI 1]) []):ACall Tryz.prog 162 0 [.sl 3 (ah l) f] [] Q:=by
 have hlv:=aC l;refine ad Tryz.func162 0 rfl (aA rfl) ?_
 conv=>whnf
 refine⟨⟨[4,7,8,9],fun m ws H=>∃i:Nat,ws = [.ms 1 0 0 (bs (eH (l.take i))).length false,.sl 3 (ah l) f,fI l.length,fI i]/\H = [.buf (bs (eH (l.take i)))]/\i<=l.length/\(∀v∈l.take i,fK v=true)/\m=l.length-i,
  .frz (l.length+1) (.adopt (.sub _ _ (.cons (n9 1 0) (VSubs.refl _)) (HSub.refl _) (.go [0] rfl l.length (by omega) ⟨0,?_,rfl,by omega,by simp,rfl⟩))),?_⟩⟩
 . show [V.ms 1 0 0 0 false,V.sl 3 (ah l) f,fI (ah l).length,fI 0]=_
   rw[hlv]; simp[eH,bs]
 rintro m ws H ⟨i,rfl,rfl,hi,hm,rfl⟩
 conv=>whnf
 refine ac (fun c1=>?_) (fun c1=>?_)<;>try rw[c1]<;>conv=>whnf
 rotate_left
 focus
  have c1' := aG c1;have hie:l.take i=l:=List.take_of_length_le (by omega)
  rw[hie]at hm ⊢;rw[if_pos (List.all_eq_true.2 hm)]at h;refine⟨(by omega:0+(bs (eH l)).length<=(bs (eH l)).length),eH l,?_,?_⟩
  . show cq (List.take (bs (eH l)).length (List.drop 0 (bs (eH l))))=_
    rw[List.drop_zero,List.take_length]; exact bz _
  conv=>whnf
  exact⟨[],rfl,h⟩
 have c1' := aB c1;have hlt:i<l.length:=by omega
 have hg:l[i]? = some l[i]:=aS hlt;have hvt:=ht l[i] (List.getElem_mem hlt);have hmem:l[i]∈l:=List.getElem_mem hlt;generalize l[i]=v at *;have hsn:=uU hg;have hP:(eH (l.take i)).length<=9000000:=Nat.le_trans (sK fun w hw=>sR (hm w hw)) (by rw[List.length_take]; omega)
 have htk:l.take (i+1)=l.take i ++ [v]:=by rw[List.take_add_one,hg]; rfl
 refine⟨_,⟨by omega,bU hg⟩,?_⟩
 conv=>whnf
 refine .pure (uo hvt ⟨rfl,?_⟩)
 conv=>whnf
 cases hmv:fK v
 . conv=>whnf
   rw[if_neg (by rw[List.all_eq_true]; intro hx; have:=hx v hmem; rw[hmv]at this; cases this)]at h
   exact⟨[],rfl,h⟩
 conv=>whnf
 refine .call [0] 0 ⟨rfl,rfl,rfl⟩ (E4 hP (sR hmv) ?_);rw[<-hsn]
 conv=>whnf
 refine .go [0] rfl (l.length-(i+1)) (by omega) ⟨i+1,?_,rfl,by omega,?_,rfl⟩
 . show [V.ms 1 0 0 (bs (eH (l.take (i+1)))).length false,V.sl 3 (ah l) f,fI l.length,V.int .i64 (IntKind.i64.wrap ((i:Int)+1))]=_
   rw[aQ (by omega)]; rfl
 . rw[htk];intro w hw;rcases List.mem_append.1 hw with h1 | h1
   . exact hm w h1
   . simp at h1; subst h1; exact hmv
theorem uS {l:List Col} {keys:Nat} {vs:List Val} (hk:keys<=l.length) (h:aP l keys vs=true):keys<=vs.length/\(vs.take keys).all fK=true:=by
 unfold aP at h;rw[Bool.and_eq_true,decide_eq_true_eq,List.all_eq_true]at h;refine⟨h.1,List.all_eq_true.2 fun v hv=>?_⟩
 obtain⟨i,hi⟩:=List.mem_iff_getElem?.1 hv;have hlt:=(liZ.1 hi).1;rw[List.length_take]at hlt;rw[List.getElem?_take_of_lt (by omega)]at hi
 have:=h.2 i (List.mem_range.2 (by omega))
 rw[io (aS (show i<l.length by omega)) hi]at this
 unfold bG at this;rw[Bool.and_eq_true]at this;exact this.1
theorem ic {l:List Col} {keys:Nat} {vs:List Val} {f:Bool} (hl:l.length<=1000) (hk:keys<=l.length) (ht:bd vs) (h:Q (pa l keys vs) []) :
 ACall Tryz.prog 133 0 [sch l keys,.sl 3 (ah vs) f] [] Q:=by
 have hlv:=aC vs;refine ad Tryz.func133 0 rfl (aA rfl) ?_
 conv=>whnf
 unfold pa at h;refine .pure (pU hl hk ht ⟨rfl,?_⟩)
 conv=>whnf
 cases e:aP l keys vs<;>rw[e]at h<;>conv=>whnf
 focus exact⟨[],rfl,h⟩
 obtain⟨e1,e2⟩:=uS hk e;refine⟨⟨by omega,by omega⟩,?_⟩
 conv=>whnf
 rw[show List.take (keys:Int).toNat (ah vs)=ah (vs.take keys)from D2 vs keys]
 refine .pure (D9 (by rw[List.length_take]; omega) (fun v hv=>ht v (List.mem_of_mem_take hv)) ⟨rfl,?_⟩)
 rw[e2]
 conv=>whnf
 exact⟨[],rfl,h⟩
structure TbsB (l:List Tb):Prop where
 ok:Ec ai fC l
 few:l.length<=64
theorem TbsB.cols {l:List Tb} (h:TbsB l):∀x∈l,x.c.length<=16:=fun x hx=>(dt (h.ok.each x hx).sch).2.2.2
theorem ET {l:List Tb} {n:List UInt8} {C:List Col} {K:Int} (h:cf l n=some (C,K)):∃x∈l,x.c=C/\x.k=K:=by
 unfold cf at h;cases ha:dP l n with
 | none=>rw[ha]at h; cases h
 | some j =>
  rw[ha]at h;cases hj:l[j]? with
  | none=>simp only[Option.bind,hj]at h; cases h
  | some x=>simp only[Option.bind,hj]at h; cases h; exact⟨x,List.mem_of_getElem? hj,rfl,rfl⟩
theorem TbsB.found {l:List Tb} (h:TbsB l) {n:List UInt8} {C:List Col} {K:Int} (hf:cf l n=some (C,K)):fC C K=true/\C.length<=16 /\ ∃k:Nat,K=k/\k<=C.length:=by
 obtain⟨x,hx,rfl,rfl⟩:=ET hf;have hm:=(h.ok.each x hx).sch;have:=dt hm;exact⟨hm,this.2.2.2,x.k.toNat,by omega,by omega⟩
structure oI (e:Evt):Prop where
 b:bd e.b
 a:bd e.a
 lb:e.b.length<9223372036854775808
 la:e.a.length<9223372036854775808
 lc:e.ch.c.length<9223372036854775808
def eK (e:Evt) (C:List Col) (K:Int):Bool:=if e.k=5 then aP C K.toNat e.b&&decide ((e.b.length:Int)=K)else bB C e.a
def cQ (e:Evt):Bool:=if e.k=5 then decide (e=⟨e.k,0,e.t,e.b,[],br⟩)else decide (e=⟨e.k,0,e.t,[],e.a,br⟩)
def Bq (e:Evt) (l:List Tb):Int:=match cf l e.t with
 | none=>7
 | some (C,K)=>if eK e C K=false then 9 else if cQ e=false then 1 else 0
theorem tj (k:Int) (t:List UInt8) (b:List Val):VSub (.agg [.int .i64 k,.int .i64 0,.str t,.sl 3 (ah b) false,.nils,.int .i64 0,.str [],.nils,.int .i64 0,.str [],.int .i64 0,.bool false]) (tZ ⟨k,0,t,b,[],br⟩) :=
 .agg (.cons (.refl _) (.cons (.refl _) (.cons (.refl _) (.cons (.refl _) (.cons (au false) (.cons (.refl _) (.cons (.refl _) (.cons (au false) (VSubs.refl _)))))))))
theorem q0 (k:Int) (t:List UInt8) (a:List Val):VSub (.agg [.int .i64 k,.int .i64 0,.str t,.nils,.sl 3 (ah a) false,.int .i64 0,.str [],.nils,.int .i64 0,.str [],.int .i64 0,.bool false]) (tZ ⟨k,0,t,[],a,br⟩) :=
 .agg (.cons (.refl _) (.cons (.refl _) (.cons (.refl _) (.cons (au false) (.cons (.refl _) (.cons (.refl _) (.cons (.refl _) (.cons (au false) (VSubs.refl _)))))))))
theorem Aa {e:Evt} {l:List Tb} (hl:TbsB l) (he:oI e) (h:Q (fI (Bq e l)) []):ACall Tryz.prog 94 0 [tZ e,.sl 3 (tbs l) false] [] Q:=by
 refine ad Tryz.func94 0 rfl (aA rfl) ?_
 conv=>whnf
 have hc:=hl.cols;refine .pure (fb (by have:=hl.few; omega) hl.ok.sorted (fun x hx=>by have:=hc x hx; omega) ⟨rfl,?_⟩)
 unfold Bq at h;unfold qa;cases hf:cf l e.t with
 | none =>
  rw[hf]at h
  conv=>whnf
  change Q (fI 7) []at h
  refine ac (fun k5=>?_) (fun k5=>?_)<;>try rw[k5]<;>conv=>whnf
  . refine .pure (ic (l:=[]) (keys:=0) (vs:=e.b) (by decide) (by decide) he.b ⟨rfl,?_⟩)
    unfold pa;rw[show aP [] 0 e.b=true by unfold aP; simp]
    conv=>whnf
    exact⟨[],rfl,h⟩
  . exact⟨[],rfl,h⟩
 | some o =>
  obtain⟨C,K⟩:=o;rw[hf]at h;obtain⟨hm,hC,k,rfl,hk⟩:=hl.found hf
  change Q (fI (if eK e C k=false then 9 else if cQ e=false then 1 else 0)) []at h
  conv=>whnf
  refine .pure (uj (l:=C) (keys:=(k:Int)) (vs:=e.a) (by omega) he.a ⟨rfl,?_⟩)
  conv=>whnf
  refine ac (fun k5=>?_) (fun k5=>?_)<;>try rw[k5]<;>conv=>whnf
  . have k5' : e.k=5:=aB k5;have hF:eK e C k=(aP C k e.b&&decide ((e.b.length:Int)=(k:Int))):=by unfold eK; rw[if_pos k5']; rfl
    have hB:cQ e=decide (e=⟨e.k,0,e.t,e.b,[],br⟩):=by unfold cQ; rw[if_pos k5']
    refine .pure (ic (l:=C) (keys:=k) (vs:=e.b) (by omega) hk he.b ⟨rfl,?_⟩)
    unfold pa;cases hko:aP C k e.b<;>rw[hko]at hF<;>conv=>whnf
    . rw[hF]at h;exact⟨[],rfl,h⟩
    rw[show(((ah e.b).length:Nat):Int)=(e.b.length:Int) by rw[aC]]
    cases k6:decide ((e.b.length:Int)=(k:Int))<;>rw[k6]at hF<;>conv=>whnf
    . rw[hF]at h;exact⟨[],rfl,h⟩
    rw[hF,if_neg (by simp)]at h
    refine .pure (ACall.args (.cons (.refl _) (.cons (tj _ _ _) (VSubs.refl _))) (i7 (a:=e) (b:=⟨e.k,0,e.t,e.b,[],br⟩) he.lb he.la he.lc ⟨rfl,?_⟩));rw[<-hB];cases hb:cQ e<;>rw[hb]at h<;>conv=>whnf
    . exact⟨[],rfl,h⟩
    . exact⟨[],rfl,h⟩
  . have k5' : ¬e.k=5:=aG k5;have hF:eK e C k=bB C e.a:=by unfold eK; rw[if_neg k5']
    have hB:cQ e=decide (e=⟨e.k,0,e.t,[],e.a,br⟩):=by unfold cQ; rw[if_neg k5']
    rw[hF]at h;cases hfi:bB C e.a<;>rw[hfi]at h<;>conv=>whnf
    . exact⟨[],rfl,h⟩
    rw[if_neg (by simp)]at h
    refine .pure (ACall.args (.cons (.refl _) (.cons (q0 _ _ _) (VSubs.refl _))) (i7 (a:=e) (b:=⟨e.k,0,e.t,[],e.a,br⟩) he.lb he.la he.lc ⟨rfl,?_⟩));rw[<-hB];cases hb:cQ e<;>rw[hb]at h<;>conv=>whnf
    . exact⟨[],rfl,h⟩
    . exact⟨[],rfl,h⟩
def uz (e:Evt):Bool:=decide (e=⟨e.k,0,[],[],[],e.ch⟩)
def uA (e:Evt):Bool:=decide (e=⟨e.k,e.n,[],[],[],br⟩)
def cm (e:Evt) (l:List Tb):Int :=
 if gB e.k then Bq e l
 else if e.k=6 then(if qv e.ch≠0 then qv e.ch else if decide (e.n<0) || !uz e then 1 else 0)
 else if mg e.k then(if decide (e.n<0) || !uA e then 1 else 0)else 5
theorem n7 (k n:Int) (c:Chg):VSub (.agg [.int .i64 k,.int .i64 n,.str [],.nils,.nils,.int .i64 c.k,.str c.t,.sl 3 (cols c.c) false,.int .i64 c.ks,.str c.col.n,.int .i64 c.col.k,.bool c.col.o]) (tZ ⟨k,n,[],[],[],c⟩) :=
 .agg (.cons (.refl _) (.cons (.refl _) (.cons (.refl _) (.cons (au false) (.cons (au false) (VSubs.refl _))))))
theorem eO (k n:Int):VSub (.agg [.int .i64 k,.int .i64 n,.str [],.nils,.nils,.int .i64 0,.str [],.nils,.int .i64 0,.str [],.int .i64 0,.bool false]) (tZ ⟨k,n,[],[],[],br⟩) :=
 .agg (.cons (.refl _) (.cons (.refl _) (.cons (.refl _) (.cons (au false) (.cons (au false) (.cons (.refl _) (.cons (.refl _) (.cons (au false) (VSubs.refl _)))))))))
theorem rd {e:Evt} {l:List Tb} (hl:TbsB l) (he:oI e) (h:Q (fI (cm e l)) []):ACall Tryz.prog 57 0 [tZ e,.sl 3 (tbs l) false] [] Q:=by
 refine ad Tryz.func57 0 rfl (aA rfl) ?_
 conv=>whnf
 unfold cm at h;refine .pure (tk ⟨rfl,?_⟩)
 conv=>whnf
 cases hr:gB e.k<;>rw[hr]at h<;>conv=>whnf
 rotate_left
 . refine .pure (Aa hl he ⟨rfl,?_⟩)
   conv=>whnf
   exact⟨[],rfl,h⟩
 rw[if_neg (by simp)]at h
 refine ac (fun k6=>?_) (fun k6=>?_)<;>try rw[k6]<;>conv=>whnf
 . rw[if_pos (aB k6)]at h;refine .pure (tK (c:=e.ch) he.lc ⟨rfl,?_⟩)
   conv=>whnf
   refine ac (fun k0=>?_) (fun k0=>?_)<;>try rw[k0]<;>conv=>whnf
   . rw[if_pos (by simpa using k0)]at h
     exact⟨[],rfl,h⟩
   . rw[if_neg (by simpa using k0)]at h
     refine⟨List.range 6,by kernel_rfl,by kernel_rfl,?_⟩
     repeat (conv=>whnf
             refine⟨rfl,?_⟩)
     conv=>whnf
     refine ac (fun kn=>?_) (fun kn=>?_)<;>rw[kn]at h<;>try rw[kn]<;>conv=>whnf
     . exact⟨[],rfl,h⟩
     refine .pure (ACall.args (.cons (.refl _) (.cons (n7 _ _ _) (VSubs.refl _))) (i7 (a:=e) (b:=⟨e.k,0,[],[],[],e.ch⟩) he.lb he.la he.lc ⟨rfl,?_⟩))
     change Q (fI (if(false || !decide (e=⟨e.k,0,[],[],[],e.ch⟩))=true then 1 else 0)) []at h
     cases hb:decide (e=⟨e.k,0,[],[],[],e.ch⟩)<;>rw[hb]at h<;>conv=>whnf
     . exact⟨[],rfl,h⟩
     . exact⟨[],rfl,h⟩
 . rw[if_neg (aG k6)]at h;refine .pure (ub ⟨rfl,?_⟩)
   conv=>whnf
   cases hn:mg e.k<;>rw[hn]at h<;>conv=>whnf
   . exact⟨[],rfl,h⟩
   rw[if_pos rfl]at h;refine ac (fun kn=>?_) (fun kn=>?_)<;>rw[kn]at h<;>try rw[kn]<;>conv=>whnf
   . exact⟨[],rfl,h⟩
   refine .pure (ACall.args (.cons (.refl _) (.cons (eO _ _) (VSubs.refl _))) (i7 (a:=e) (b:=⟨e.k,e.n,[],[],[],br⟩) he.lb he.la he.lc ⟨rfl,?_⟩))
   change Q (fI (if(false || !decide (e=⟨e.k,e.n,[],[],[],br⟩))=true then 1 else 0)) []at h
   cases hb:decide (e=⟨e.k,e.n,[],[],[],br⟩)<;>rw[hb]at h<;>conv=>whnf
   . exact⟨[],rfl,h⟩
   . exact⟨[],rfl,h⟩
theorem FW {e:Evt} (hk:e.k=5):cQ e=(decide (e.ch=br)&&(decide (e.a.length=0)&&decide (e.n=0))):=by
 unfold cQ; rw[if_pos hk];obtain⟨k,n,t,b,a,ch⟩:=e;simp[Bool.and_comm,Bool.and_assoc,Bool.and_left_comm]
theorem FV {e:Evt} (hk:¬e.k=5):cQ e=(decide (e.ch=br)&&(decide (e.b.length=0)&&decide (e.n=0))):=by
 unfold cQ; rw[if_neg hk];obtain⟨k,n,t,b,a,ch⟩:=e;simp[Bool.and_comm,Bool.and_assoc,Bool.and_left_comm]
theorem Eo (e:Evt):uz e=(decide (e.n=0)&&(decide (e.t = [])&&(decide (e.b.length=0)&&decide (e.a.length=0)))):=by
 unfold uz;obtain⟨k,n,t,b,a,ch⟩:=e;simp
theorem Ep (e:Evt):uA e=(decide (e.t = [])&&(decide (e.b.length=0)&&(decide (e.a.length=0)&&decide (e.ch=br)))):=by
 unfold uA;obtain⟨k,n,t,b,a,ch⟩:=e;simp
theorem Eu:VSub (.agg [.int .i64 0,.str [],.nils,.int .i64 0,.str [],.int .i64 0,.bool false]) (vZ br) :=
 .agg (.cons (.refl _) (.cons (.refl _) (.cons (au false) (VSubs.refl _))))
theorem pE {e:Evt} {l:List Tb} (hl:TbsB l) (he:oI e) (h:Q (fI (cm e l)) []):ACall Tryz.prog 53 0 [tZ e,.sl 3 (tbs l) false] [] Q:=by
 refine ad Tryz.func53 0 rfl (aA rfl) ?_
 conv=>whnf
 refine .pure (ACall.args (.cons (.refl _) (.cons Eu (VSubs.refl _))) (vB (a:=e.ch) (b:=br) he.lc ⟨rfl,?_⟩))
 conv=>whnf
 have hlb:=aC e.b;have hla:=aC e.a;refine ac (fun k3=>?_) (fun k3=>?_)<;>try rw[k3]<;>conv=>whnf
 rotate_left
 focus
  refine ac (fun k4=>?_) (fun k4=>?_)<;>try rw[k4]<;>conv=>whnf
 rotate_left
 focus
  refine ac (fun k5=>?_) (fun k5=>?_)<;>try rw[k5]<;>conv=>whnf
 rotate_left
 . have kr:gB e.k=false:=by unfold gB; rw[k3,k4,k5]; rfl
   unfold cm at h;rw[kr,if_neg (by simp)]at h
   refine ac (fun k6=>?_) (fun k6=>?_)<;>try rw[k6]<;>conv=>whnf
   . rw[if_pos (aB k6),Eo]at h;refine .pure (tO (c:=e.ch) ⟨rfl,?_⟩)
     conv=>whnf
     refine ac (fun k0=>?_) (fun k0=>?_)<;>try rw[k0]<;>conv=>whnf
     . rw[if_pos (by simpa using k0)]at h
       exact⟨[],rfl,h⟩
     . rw[if_neg (by simpa using k0)]at h
       rw[<-hlb,<-hla]at h
       repeat' (refine ac (fun e=>?_) (fun e=>?_)<;>try rw[e]<;>conv=>whnf)
       all_goals
        refine⟨[],rfl,uf h ?_⟩
        simp_all [List.length_pos_iff]
   . rw[if_neg (aG k6),Ep]at h;unfold mg at h;rw[<-hlb,<-hla]at h
     repeat' (refine ac (fun e=>?_) (fun e=>?_)<;>try rw[e]<;>conv=>whnf)
     all_goals
      refine⟨[],rfl,uf h ?_⟩
      simp_all [List.length_pos_iff]
 all_goals
  have kr:gB e.k=true:=by unfold gB; simp_all
  unfold cm Bq at h;rw[if_pos kr]at h;refine .pure (m9 (by have:=hl.few; omega) ⟨rfl,?_⟩)
  unfold qa;cases hf:cf l e.t with
  | none =>
   rw[hf]at h
   change Q (fI 7) []at h
   conv=>whnf
   exact⟨[],rfl,h⟩
  | some o =>
   obtain⟨C,K⟩:=o;rw[hf]at h;obtain⟨hm,hC,k,rfl,hk⟩:=hl.found hf
   change Q (fI (if eK e C k=false then 9 else if cQ e=false then 1 else 0)) []at h
   conv=>whnf
   refine .pure (iu (l:=C) (keys:=(k:Int)) (vs:=e.a) (by omega) he.a ⟨rfl,?_⟩)
   conv=>whnf
   refine ac (fun j5=>?_) (fun j5=>?_)<;>try rw[j5]<;>conv=>whnf
   . have k5' : e.k=5:=aB j5;have hF:eK e C k=(aP C k e.b&&decide ((e.b.length:Int)=(k:Int))):=by unfold eK; rw[if_pos k5']; rfl
     rw[hF,FW k5', <-hla,<-hlb]at h;refine .pure (oK (l:=C) (keys:=k) (vs:=e.b) (by omega) hk he.b ⟨rfl,?_⟩)
     unfold pa;cases hko:aP C k e.b<;>rw[hko]at h<;>conv=>whnf
     . exact⟨[],rfl,h⟩
     repeat' (refine ac (fun e=>?_) (fun e=>?_)<;>try rw[e]<;>conv=>whnf)
     all_goals
      refine⟨[],rfl,uf h ?_⟩
      simp_all [List.length_pos_iff]
   . have k5' : ¬e.k=5:=aG j5;have hF:eK e C k=bB C e.a:=by unfold eK; rw[if_neg k5']
     rw[hF,FV k5', <-hlb]at h;cases hfi:bB C e.a<;>rw[hfi]at h<;>conv=>whnf
     . exact⟨[],rfl,h⟩
     repeat' (refine ac (fun e=>?_) (fun e=>?_)<;>try rw[e]<;>conv=>whnf)
     all_goals
      refine⟨[],rfl,uf h ?_⟩
      simp_all [List.length_pos_iff]
theorem A5 (v:Val):(iI v).t.length<=40:=by
 have:=Bz v.t;unfold iI
 repeat' split
 all_goals simp only
 all_goals first | (simp only[List.length_nil]; omega) | omega
theorem DQ (c:Col) (v:Val):(kG c v).t.length<=40:=by
 unfold kG;split
 . simp[val0]
 . exact A5 _
theorem Ic {l:List Col} {vs:List Val} {v:Val} (h:v∈fN l vs):∃(i:Nat) (c:Col),l[i]? = some c/\v=kG c (vs.getD i val0):=by
 obtain⟨i,hi⟩:=List.mem_iff_getElem?.1 h;have hlt:=(liZ.1 hi).1;rw[oz]at hlt;have hc:l[i]? = some l[i]:=aS hlt;rw[zx l vs hc]at hi;cases hi;exact⟨i,l[i],hc,rfl⟩
theorem DR (l:List Col) (vs:List Val):∀v∈fN l vs,v.t.length<=40:=fun v hv=>by
 obtain⟨i,c,_,rfl⟩:=Ic hv;exact DQ _ _
theorem By {α:Type} {l:List α} {n i:Nat} (h:n<=i):(l.eraseIdx i).take n=l.take n:=by
 refine List.ext_getElem? fun j=>?_
 rw[List.getElem?_take,List.getElem?_take];by_cases hj:j<n
 . rw[if_pos hj,if_pos hj,List.getElem?_eraseIdx,if_pos (by omega)]
 . rw[if_neg hj,if_neg hj]
structure As (l:List Col) (keys:Int) (k:Int) (c:Col) (r:List Val):Prop where
 can:lK l k c r.length
 keyed:(bx l keys k c).2.1=keys
 fits:bB (bx l keys k c).1 (cO l k c r)=true
 same:(cO l k c r).take keys.toNat=r.take keys.toNat
 len:keys.toNat<=(cO l k c r).length
 stand:pv (bx l keys k c).1 (cO l k c r) keys.toNat
theorem qq {c:Col} (h:c.o=true):bG c val0=true:=by
 unfold bG fK val0; simp[h]
theorem Gl {l:List Col} {keys k:Int} {c:Col} {r:List Val} (hs:SchOk l keys) (hr:r.length=l.length) (hf:∀(i:Nat) (c:Col) (v:Val),l[i]? = some c->r[i]? = some v->bG c v=true)
 (he:(bx l keys k c).2.2=0):As l keys k c r:=by
 have h1:=hs.lo; have h2:=hs.len;have hfl:=mR (name:=c.n) (l:=l) (i:=0)
 have mk:∀(l' : List Col),(bx l keys k c)=(l', keys,0)->lK l k c r.length->(cO l k c r).length=l'.length->keys<=l'.length->(cO l k c r).take keys.toNat=r.take keys.toNat ->
  (∀(i:Nat) (c' : Col) (v:Val),l'[i]? = some c'->(cO l k c r)[i]? = some v->bG c' v=true)->As l keys k c r:=by
  intro l' e hc hl hk hsame hst;refine⟨hc,by rw[e],by rw[e]; exact sq hl hst,hsame,by omega,fun i c' v _ hc' hv=>?_⟩
  rw[e]at hc';exact hst i c' v hc' hv
 unfold bx at he;by_cases k3:k=3
 . subst k3;rw[if_pos rfl]at he;have e:bx l keys 3 c=rG l keys c:=by unfold bx; rw[if_pos rfl]
   have et:cO l 3 c r=r ++ [val0]:=by unfold cO; rw[if_pos rfl]
   have ea:rG l keys c=(l ++ [c],keys,0)/\c.o=true:=by
    unfold rG at he ⊢;by_cases g1:(ai c.n&&cy c.k&&c.o)=true
    rotate_left
    . rw[if_neg g1]at he; simp at he
    rw[if_pos g1]at he ⊢;by_cases g2:0<=dQ c.n l 0
    . rw[if_pos g2]at he; simp at he
    rw[if_neg g2]at he ⊢;by_cases g3:l.length=16
    . rw[if_pos g3]at he; simp at he
    rw[if_neg g3];simp only[Bool.and_eq_true]at g1;exact⟨rfl,g1.2⟩
   refine mk (l ++ [c]) (by rw[e,ea.1]) (.inl rfl) (by rw[et]; simp[hr]) (by simp; omega) (by rw[et,List.take_append_of_le_length (by omega)]) fun i c' v hc' hv=>?_
   rw[et]at hv;rcases Nat.lt_or_ge i l.length with hi | hi
   . rw[List.getElem?_append_left hi]at hc';rw[List.getElem?_append_left (by omega)]at hv
     exact hf i c' v hc' hv
   . rw[List.getElem?_append_right hi]at hc';rw[List.getElem?_append_right (by omega)]at hv
     have:i-l.length=0:=by
      have:=(liZ.1 hc').1;simp at this; omega
     rw[this]at hc';rw[show i-r.length=0 by omega]at hv
     simp at hc' hv;subst hc'; subst hv;exact qq ea.2
 rw[if_neg k3]at he;by_cases k4:k=4
 . subst k4;rw[if_pos rfl]at he;have e:bx l keys 4 c=qx l keys c:=by unfold bx; rw[if_neg (by decide),if_pos rfl]
   have et:cO l 4 c r=r.eraseIdx (dQ c.n l 0).toNat:=by unfold cO; rw[if_neg (by decide),if_pos rfl]
   unfold qx at he;by_cases g1:dQ c.n l 0<0
   . rw[if_pos g1]at he; simp at he
   rw[if_neg g1]at he;by_cases g2:dQ c.n l 0<keys
   . rw[if_pos g2]at he; simp at he
   have ea:qx l keys c=(l.eraseIdx (dQ c.n l 0).toNat,keys,0):=by unfold qx; rw[if_neg g1,if_neg g2]
   have hlt:(dQ c.n l 0).toNat<l.length:=by omega
   refine mk _ (by rw[e,ea]) (.inr ⟨.inl rfl,by omega,by omega⟩) (by rw[et,List.length_eraseIdx,List.length_eraseIdx,if_pos hlt,if_pos (by omega),hr]) (by rw[List.length_eraseIdx,if_pos hlt]; omega) (by rw[et,By (by omega)]) fun i c' v hc' hv=>?_
   rw[et]at hv;rw[List.getElem?_eraseIdx]at hc' hv;by_cases hi:i<(dQ c.n l 0).toNat
   . rw[if_pos hi]at hc' hv; exact hf i c' v hc' hv
   . rw[if_neg hi]at hc' hv; exact hf (i+1) c' v hc' hv
 rw[if_neg k4]at he;by_cases k5:k=5
 rotate_left
 . rw[if_neg k5]at he; simp at he
 subst k5;rw[if_pos rfl]at he;have e:bx l keys 5 c=qB l keys c:=by unfold bx; rw[if_neg (by decide),if_neg (by decide),if_pos rfl]
 have et:cO l 5 c r=r.set (dQ c.n l 0).toNat val0:=by unfold cO; rw[if_neg (by decide),if_neg (by decide),if_pos rfl]
 unfold qB at he;by_cases g1:dQ c.n l 0<0
 . rw[if_pos g1]at he; simp at he
 rw[if_neg g1]at he;by_cases g2:dQ c.n l 0<keys
 . rw[if_pos g2]at he; simp at he
 rw[if_neg g2]at he;by_cases g3:((l[(dQ c.n l 0).toNat]?).map Col.o).getD false=false
 . rw[if_pos g3]at he; simp at he
 rw[if_neg g3]at he;by_cases g4:cy c.k=true
 rotate_left
 . rw[if_neg g4]at he; simp at he
 have ea:qB l keys c=(fE l (dQ c.n l 0).toNat c.k,keys,0):=by unfold qB; rw[if_neg g1,if_neg g2,if_neg g3,if_pos g4]
 have hlt:(dQ c.n l 0).toNat<l.length:=by omega
 refine mk _ (by rw[e,ea]) (.inr ⟨.inr rfl,by omega,by omega⟩) (by rw[et,List.length_set,je,hr]) (by rw[je]; omega) (by rw[et,List.take_set_of_le (by omega)]) fun i c' v hc' hv=>?_
 rw[et,List.getElem?_set]at hv;rw[fE,List.getElem?_modify]at hc';generalize (dQ c.n l 0).toNat=p at *;cases hx:l[i]? with
 | none=>rw[hx]at hc'; simp at hc'
 | some d =>
  rw[hx]at hc';by_cases hi:p=i
  . subst hi;rw[if_pos rfl,if_pos (by omega)]at hv
    simp at hc' hv;subst hc'; subst hv;rw[hx]at g3;refine qq ?_;simp at g3;exact g3
  . rw[if_neg hi]at hv;simp[hi]at hc';subst hc';exact hf i d v hx hv
theorem Fb {l:List Col} {keys:Int} (h:SchOk l keys):∀c∈l,1<=c.k/\c.k<=4:=fun c hc=>by
 have:=(h.cols c hc).2;unfold cy at this;simp at this;exact this
theorem uV {l:List Col} {keys:Int} (h:SchOk l keys):∀c∈l,-9223372036854775808<=c.k/\c.k<=9223372036854775807:=fun c hc=>by
 have:=Fb h c hc; omega
theorem qt (l:List Col) (vs:List Val):bd (fN l vs):=fun v hv=>by have:=DR l vs v hv; omega
theorem FY (k:Int) (t:List UInt8):VSub (.agg [.int .i64 k,.int .i64 0,.str t,.nils,.nils,.int .i64 0,.str [],.nils,.int .i64 0,.str [],.int .i64 0,.bool false]) (tZ ⟨k,0,t,[],[],br⟩) :=
 .agg (.cons (.refl _) (.cons (.refl _) (.cons (.refl _) (.cons (au false) (.cons (au false) (.cons (.refl _) (.cons (.refl _) (.cons (au false) (VSubs.refl _)))))))))
theorem d9:bd []:=fun v hv=>by cases hv
theorem wl (k n:Int) (t:List UInt8):oI ⟨k,n,t,[],[],br⟩:=⟨d9,d9,by show 0<9223372036854775808; decide,by show 0<9223372036854775808; decide,by show 0<9223372036854775808; decide⟩
theorem ES (k n:Int) {c:Chg} (hc:c.c.length<9223372036854775808):oI ⟨k,n,[],[],[],c⟩:=⟨d9,d9,by show 0<9223372036854775808; decide,by show 0<9223372036854775808; decide,hc⟩
theorem xO {l:List UInt8} {f:Bool} {C:List Col} {K:Int} {r:List Val} (hl0:l ≠ []) (hr0:r ≠ []) (hr:RwB r) (hl:l.length<=1000000) (h:Q (.ms 1 0 0 (l++dM r).length false) [.buf (bs (l++dM r))]) :
 ACall Tryz.prog 81 0 [.sl 1 (bs l) f,sch C K,.sl 3 (ah r) false] [] Q:=by
 refine ad Tryz.func81 0 rfl (aA rfl) ?_
 conv=>whnf
 refine .call [] 0 ⟨rfl,rfl,rfl⟩ (Cs hl0 hr0 hr hl ?_)
 conv=>whnf
 exact⟨[1],rfl,h⟩
theorem rA {l:List UInt8} {f:Bool} {C:List Col} {k:Nat} {r:List Val} (hk:r.length=k) (hl0:l ≠ []) (hr0:r ≠ []) (hr:RwB r) (hl:l.length<=1000000) (h:Q (.ms 1 0 0 (l++dM r).length false) [.buf (bs (l++dM r))]) :
 ACall Tryz.prog 78 0 [.sl 1 (bs l) f,sch C k,.sl 3 (ah r) false] [] Q:=by
 refine ad Tryz.func78 0 rfl (aA rfl) ?_;have hlv:=aC r
 conv=>whnf
 refine⟨⟨by omega,by omega⟩,?_⟩
 rw[show List.take (k:Int).toNat (ah r)=ah r by rw[Int.toNat_natCast,List.take_of_length_le (by omega)]]
 conv=>whnf
 refine .call [] 0 ⟨rfl,rfl,rfl⟩ (Cs hl0 hr0 hr hl ?_)
 conv=>whnf
 exact⟨[1],rfl,h⟩
theorem oQ {i j n:Nat} {k:Int} {x:UInt8} {c:Int} {f:Bool} {X:List UInt8} {H:List O} {K:V->List O->Prop} (hij:Nat.beq i j=false) (hX:ar H i = .buf (bs X)) (hn:n=X.length) (hc:c=(x.toNat:Int)) (hs:X.length<=1000000000)
 (hK:aV (bX H i .dead ++ [.buf (bs (X ++ [b8 k,x]))]) fun H' => K (.ms 1 (bX H i .dead).length 0 (X ++ [b8 k,x]).length false) H') :
 0+2<=2/\dW 1 1 (.ms 1 i 0 n false) (.ms 1 j 0 2 f) [[.int .u8 (IntKind.u8.wrap k)],[.int .u8 c]] H K:=by
 subst hn;subst hc;refine⟨Nat.le_refl 2,?_⟩;unfold dW db;simp only[hij];unfold co;simp only[show Nat.beq 1 1=true from rfl,hX,List.drop_zero]
 refine⟨by rw[al]; rfl,?_⟩
 rw[show bs X ++ [[V.int .u8 (IntKind.u8.wrap k)],[V.int .u8 (x.toNat:Int)]]=bs (X ++ [b8 k,x]) by rw[iA,bZ]; rfl]
 unfold bJ;rw[al];exact⟨by rw[aD]; simp only[List.length_cons,List.length_nil]; omega,hK⟩
theorem iL {l:List UInt8} {f:Bool} {c:Col} (hc:c.n.length<=4096) (hl:l.length<=100000000) (h:Q (.ms 1 0 0 (l++cX c).length false) [.buf (bs (l++cX c))]) :
 ACall Tryz.prog 119 0 [.sl 1 (bs l) f,.agg [.str c.n,.int .i64 c.k,.bool c.o]] [] Q:=by
 refine ad Tryz.func119 0 rfl (aA rfl) ?_;have htl:=dd c.n
 conv=>whnf
 cases ho:c.o<;>conv=>whnf
 focus
  have e:l++cX c=l++bm c.n ++ [b8 c.k,0]:=by unfold cX; rw[ho,List.append_assoc]; rfl
  rw[e]at h;refine⟨[0,1,2,4,5,6,7,3,8,9,10],by kernel_rfl,by kernel_rfl,?_⟩
  conv=>whnf
  refine .call [] 0 ⟨rfl,rfl,rfl⟩ (dV (l:=l) (f:=f) (s:=c.n) (by omega) (by omega) ?_)
  repeat (conv=>whnf
          refine⟨rfl,?_⟩)
  conv=>whnf
  refine oQ (X:=l++bm c.n) (k:=c.k) (x:=0) rfl rfl rfl rfl (by rw[aD]; omega) ?_
  repeat (conv=>whnf
          refine⟨rfl,?_⟩)
  conv=>whnf
  exact⟨[3],rfl,h⟩
 focus
  have e:l++cX c=l++bm c.n ++ [b8 c.k,1]:=by unfold cX; rw[ho,List.append_assoc]; rfl
  rw[e]at h;refine⟨[0,1,2,4,5,6,7,3,8,9,10],by kernel_rfl,by kernel_rfl,?_⟩
  conv=>whnf
  refine .call [] 0 ⟨rfl,rfl,rfl⟩ (dV (l:=l) (f:=f) (s:=c.n) (by omega) (by omega) ?_)
  repeat (conv=>whnf
          refine⟨rfl,?_⟩)
  conv=>whnf
  refine oQ (X:=l++bm c.n) (k:=c.k) (x:=1) rfl rfl rfl rfl (by rw[aD]; omega) ?_
  repeat (conv=>whnf
          refine⟨rfl,?_⟩)
  conv=>whnf
  exact⟨[3],rfl,h⟩
theorem GK {X:List UInt8} (hX:X ≠ []) {j:Nat} {k:Int} {f:Bool} {H:List O} {K:V->List O->Prop} (hs:X.length<=1000000000)
 (hK:aV (H ++ [.buf (bs (X ++ [b8 k]))]) fun H' => K (.ms 1 H.length 0 (X ++ [b8 k]).length false) H') :
 0+1<=1/\dW 1 1 (.sl 1 (bs X) true) (.ms 1 j 0 1 f) [[.int .u8 (IntKind.u8.wrap k)]] H K:=by
 refine⟨Nat.le_refl 1,?_⟩;cases X with
 | nil=>exact absurd rfl hX
 | cons x r =>
  have e:bs (x::r) ++ [[V.int .u8 (IntKind.u8.wrap k)]]=bs (x::r ++ [b8 k]):=by rw[bZ,iA]; rfl
  have ne:bs (x::r) ≠ []:=fun e=>nomatch e
  unfold dW db co;simp only[show Nat.beq 1 1=true from rfl]
  rw[e];unfold bJ;rw[al];exact⟨(fun e=>nomatch e),fun _=>⟨by rw[aD,List.length_singleton]; omega,hK⟩⟩
theorem ACall.eatA {P:Program} {f:FuncId} {z:Nat} {es:List (List V)} {full:Bool} {vs:List V} {len:Nat} {Q:V->List O->Prop} (hlen:len=es.length) (hm:t8 0 vs = []) (hf:(fX 0 (.buf es) vs).map (aM (bI []))=vs)
 (h:ACall P f 0 (.sl z es full::vs) [] fun r H' => Q (aM (qA 0 1) r) (gU 0 H' [.dead])):ACall P f 1 (.ms z 0 0 len full::vs) [.buf es] Q:=by
 subst hlen;refine ACall.stay 1 rfl (ACall.frzIn 0 rfl ?_ (ACall.selIn [] rfl ?_))
 . show wH es.length (t8 0 (.ms z 0 0 es.length full::vs)++([]++([] ++ [])))
   simp only[t8,ua,Nat.beq_refl,hm,List.append_nil,wH];exact⟨by omega,trivial⟩
 . have e:(fX 0 (ar [O.buf es] 0) (.ms z 0 0 es.length full::vs)).map (aM (bI [])) = .sl z es full::vs:=by
    show(cL 0 (.buf es) (.ms z 0 0 es.length full)::fX 0 (.buf es) vs).map (aM (bI []))=_
    rw[o7,List.map_cons,hf]; rfl
   rw[e]; exact h
theorem s8 {l:List UInt8} {c:Chg} (hl0:l ≠ []) (hc:K3 c) (hl:l.length<=1000) (h:Q (.ms 1 0 0 (l++cS c).length false) [.buf (bs (l++cS c))]) :
 ACall Tryz.prog 77 0 [.sl 1 (bs l) true,vZ c] [] Q:=by
 refine ad Tryz.func77 0 rfl (aA rfl) ?_;have hll:=al l;have htl:=dd c.t;have hct:=hc.t
 conv=>whnf
 refine⟨[0,1,2,3,6,7,4,5,8,9],by kernel_rfl,by kernel_rfl,?_⟩
 conv=>whnf
 repeat (refine⟨rfl,?_⟩
         conv=>whnf)
 refine GK (X:=l) (k:=c.k) hl0 (by omega) ?_
 repeat (conv=>whnf
         refine⟨rfl,?_⟩)
 conv=>whnf
 refine .call [2] 1 ⟨rfl,rfl,rfl⟩ (ACall.eat (al _).symm rfl (dV (l:=l ++ [b8 c.k]) (f:=false) (s:=c.t) (by omega) (by rw[aD,List.length_singleton]; omega) ?_))
 repeat (conv=>whnf
         refine⟨rfl,?_⟩)
 conv=>whnf
 have hX1:(l ++ [b8 c.k]++bm c.t).length<=10000:=by rw[aD,aD,List.length_singleton]; omega
 obtain⟨X1,eX1⟩:∃X1,X1=l ++ [b8 c.k]++bm c.t:=⟨_,rfl⟩;rw[<-eX1]at hX1 ⊢;have hR:∀w,cS c=b8 c.k::(bm c.t++w)->X1++w=l++cS c:=fun w e=>by rw[e,eX1]; simp
 refine ac (fun k1=>?_) (fun k1=>?_)<;>try rw[k1]<;>conv=>whnf
 focus
  have k1' := aB k1;have hcl:=aw c.c;have hfew:=hc.few;refine oQ (X:=X1) (k:=c.ks) (x:=b8 c.c.length) rfl rfl rfl (by rw[<-bZ,<-hcl]) (by omega) ?_
  conv=>whnf
  rw[hcl];obtain⟨X2,eX2⟩:∃X2,X2=X1 ++ [b8 c.ks,b8 c.c.length]:=⟨_,rfl⟩;have hX2:X2.length<=10002:=by rw[eX2,aD]; simp only[List.length_cons,List.length_nil]; omega
  rw[<-eX2];refine⟨⟨[0,34,35,36],fun mm ws H=>∃(i:Nat) (X:List UInt8),ws = [.ms 1 0 0 X.length false,.sl 3 (cols c.c) false,fI c.c.length,fI i]/\H = [.buf (bs X)]/\X=X2++(c.c.take i).flatMap cX/\i<=c.c.length/\mm=c.c.length-i,
   .frz (c.c.length+1) (.go [5] rfl c.c.length (by omega) ⟨0,X2,rfl,rfl,by simp,by omega,rfl⟩),?_⟩⟩
  rintro mm ws H ⟨i,X,rfl,rfl,hX,hi,rfl⟩
  conv=>whnf
  refine ac (fun c1=>?_) (fun c1=>?_)<;>try rw[c1]<;>conv=>whnf
  rotate_left
  focus
   have c1' := aG c1;have hie:i=c.c.length:=by omega
   subst hie;rw[List.take_length]at hX;have e:X=l++cS c:=by
    rw[hX,eX2,List.append_assoc];exact hR _ (by unfold cS; rw[if_pos k1']; rfl)
   subst e;exact⟨[0],rfl,h⟩
  have c1' := aB c1;have hlt:i<c.c.length:=by omega
  have hg:c.c[i]? = some c.c[i]:=aS hlt;have hxm:=List.getElem_mem hlt;have hsn:=rZ hg;have hvw:=AM (l:=c.c.take i) (fun v hv=>hc.names v (List.mem_of_mem_take hv))
  rw[List.length_take]at hvw;have hXl:X.length<=1000000:=by
   rw[hX,aD];have:min i c.c.length<=64:=by omega
   omega
  have hxn:=hc.names _ hxm;generalize c.c[i]=x at *;refine⟨_,⟨by omega,bj hg⟩,?_⟩
  conv=>whnf
  refine .call [0] 1 ⟨rfl,rfl,rfl⟩ (ACall.eatA (al X).symm rfl rfl (iL (l:=X) (f:=false) (c:=x) hxn (by omega) ?_))
  conv=>whnf
  refine .go [2] rfl (c.c.length-(i+1)) (by omega) ⟨i+1,X++cX x,?_,rfl,by rw[hsn,hX,List.append_assoc],by omega,rfl⟩
  show [V.ms 1 0 0 (X++cX x).length false,.sl 3 (cols c.c) false,fI c.c.length,V.int .i64 (IntKind.i64.wrap ((i:Int)+1))]=_
  rw[bw (by omega)]; rfl
 have k1' := aG k1;refine ac (fun k3=>?_) (fun k3=>?_)<;>try rw[k3]<;>conv=>whnf
 focus
  have k3' := aB k3;refine .call [3] 1 ⟨rfl,rfl,rfl⟩ (ACall.eatA (al X1).symm rfl rfl (iL (l:=X1) (f:=false) (c:=c.col) hc.col (by omega) ?_))
  conv=>whnf
  rw[hR (cX c.col) (by unfold cS; rw[if_neg k1', if_pos (.inl k3')])]
  exact⟨[4],rfl,h⟩
 have k3' := aG k3;refine ac (fun k5=>?_) (fun k5=>?_)<;>try rw[k5]<;>conv=>whnf
 focus
  have k5' := aB k5;refine .call [3] 1 ⟨rfl,rfl,rfl⟩ (ACall.eatA (al X1).symm rfl rfl (iL (l:=X1) (f:=false) (c:=c.col) hc.col (by omega) ?_))
  conv=>whnf
  rw[hR (cX c.col) (by unfold cS; rw[if_neg k1', if_pos (.inr k5')])]
  exact⟨[4],rfl,h⟩
 have k5' := aG k5;refine ac (fun k4=>?_) (fun k4=>?_)<;>try rw[k4]<;>conv=>whnf
 focus
  have k4' := aB k4;refine .call [3] 1 ⟨rfl,rfl,rfl⟩ (ACall.eat (al X1).symm rfl (dV (l:=X1) (f:=false) (s:=c.col.n) (by have:=hc.col; omega) (by omega) ?_))
  conv=>whnf
  rw[hR (bm c.col.n) (by unfold cS; rw[if_neg k1', if_neg (by omega),if_pos k4'])]
  exact⟨[4],rfl,h⟩
 have k4' := aG k4;have e:=hR [] (by unfold cS; rw[if_neg k1', if_neg (by omega),if_neg k4'])
 rw[List.append_nil]at e;rw[e];exact⟨[3],rfl,h⟩
def i5 (i:Nat):List V:=(List.range i).map (fun j=>V.int .u32 (fp 8 j:Nat))++List.replicate (256-i) (.int .u32 0)
theorem tv {i:Nat} (h:i<=256):(i5 i).length=256:=by unfold i5; rw[aD,List.length_map,List.length_range,List.length_replicate]; omega
theorem Gg {i:Nat} (h:i<256):(i5 i).take i ++ [V.int .u32 (fp 8 i:Nat)]++(i5 i).drop (i+1)=i5 (i+1):=by
 unfold i5;have hl:((List.range i).map (fun j=>V.int .u32 (fp 8 j:Nat))).length=i:=by rw[List.length_map,List.length_range]
 rw[List.take_append_of_le_length (by omega),List.take_of_length_le (by omega),List.drop_append,List.drop_of_length_le (by omega),hl,List.nil_append,List.drop_replicate,List.range_succ,List.map_append,show 256-i-(i+1-i)=256-(i+1) by omega]
 rfl
theorem Gf {j:Nat} (h:j<256):(i5 256)[j]? = some (V.int .u32 (fp 8 j:Nat)):=by
 unfold i5;rw[show List.replicate (256-256) (V.int .u32 0) = []from rfl,List.append_nil,List.getElem?_map,List.getElem?_range h]; rfl
theorem jU (i:Nat):(i5 i).all aY=true:=by
 unfold i5;simp[List.all_eq_true,aY]
theorem lZ {f:Nat->Option Nat} {l:List V} (h:l.all aY=true):iP f l=l:=by rw[gz,sO h]
theorem li {l l' : List V} {K:List V->Prop} (e:l=l') (h:K l'):gR l K:=by subst e; exact(aW _ _).2 h
theorem tw {A B:List V} (hA:A.all aY=true) (hB:B.all aY=true):aJ (bI [0,1]) [.cells A,.cells B] [0,1] = [.cells A,.cells B]:=by
 show [O.cells (iP (bI [0,1]) A),O.cells (iP (bI [0,1]) B)]=_
 rw[lZ hA,lZ hB]
set_option maxRecDepth 20000 in
theorem Bx (h:Q (.agg (i5 256)) []):ACall Tryz.prog 179 0 [] [] Q:=by
 refine ad Tryz.func179 0 rfl (aA rfl) ?_
 conv=>whnf
 refine⟨⟨[0,1,4],fun mm ws H=>∃i:Nat,ws = [.ptr 0 0,.ptr 1 0,fI i]/\H = [.cells (i5 0),.cells (i5 i)]/\i<=256/\mm=256-i,.at 256 ⟨0,rfl,rfl,by omega,rfl⟩,?_⟩⟩
 rintro mm ws H ⟨i,rfl,rfl,hi,rfl⟩;generalize hZ:i5 0=Z at *;have hZp:Z.all aY=true:=by rw[<-hZ]; exact jU 0
 have hZl:Z.length=256:=by rw[<-hZ]; exact tv (by omega)
 have hTl:=tv hi
 conv=>whnf
 refine ac (fun c1=>?_) (fun c1=>?_)<;>try rw[c1]<;>conv=>whnf
 focus
  have c1' := aB c1;have hlt:i<256:=by omega
  refine⟨⟨[0,1,4,2,3,9],fun mm ws H=>∃k:Nat,ws = [.ptr 0 0,.ptr 1 0,fI i,fI i,.int .u32 (fp k i:Nat),fI k]/\H = [.cells Z,.cells (i5 i)]/\k<=8/\mm=8-k,.at 8 ⟨0,?_,rfl,by omega,rfl⟩,?_⟩⟩
  . show [V.ptr 0 0,V.ptr 1 0,fI i,fI i,V.int .u32 (IntKind.u32.wrap (i:Int)),fI 0]=_
    rw[jW,show(i:Int) % 4294967296=(i:Int) by omega]; rfl
  rintro mm ws H ⟨k,rfl,rfl,hk,rfl⟩;have hs:=oE k (show i<2 ^ 32 by omega)
  conv=>whnf
  refine ac (fun c2=>?_) (fun c2=>?_)<;>try rw[c2]<;>conv=>whnf
  focus
   have c2' := aB c2;refine⟨by decide,?_⟩
   conv=>whnf
   refine .go [0,1] rfl (8-(k+1)) (by omega) ⟨k+1,?_,tw hZp (jU i),by omega,rfl⟩
   rw[Ga,<-Gb hs];show [V.ptr 0 0,V.ptr 1 0,fI i,fI i,_,V.int .i64 (IntKind.i64.wrap ((k:Int)+1))]=_
   rw[bw (by omega)]; rfl
  have c2' := aG c2;have:k=8:=by omega
  subst this;refine⟨⟨by omega,by omega⟩,?_⟩
  conv=>whnf
  split
  rotate_left
  focus
   rename_i hf;have hf' : Nat.ble (i*1+0+1) (i5 i).length=false:=hf;rw[Nat.ble_eq_true_of_le (by omega)]at hf'; cases hf'
  refine li (l' := i5 (i+1)) (show List.take (i*1+0) (i5 i) ++ [V.int .u32 (fp 8 i:Nat)]++List.drop (i*1+0+1) (i5 i)=_ by rw[Nat.mul_one,Nat.add_zero]; exact Gg hlt) ?_
  conv=>whnf
  refine .go [0,1] rfl (256-(i+1)) (by omega) ⟨i+1,?_,?_,by omega,rfl⟩
  . show [V.ptr 0 0,V.ptr 1 0,V.int .i64 (IntKind.i64.wrap ((i:Int)+1))]=_
    rw[bw (by omega)]; rfl
  . exact tw hZp (jU _)
 have c1' := aG c1;have:i=256:=by omega
 subst this;have hTp:=jU 256;generalize i5 256=T at *;have e1:∀l:List V,l.length=256->List.take 256 (List.drop 0 l)=l:=fun l h=>by rw[List.drop_zero,<-h,List.take_length]
 split
 rotate_left
 focus
  rename_i hf;have hf' : Nat.ble (0+256) T.length=false:=hf;rw[Nat.ble_eq_true_of_le (by omega)]at hf'; cases hf'
 refine li (l' := T) (show List.take 256 (List.drop 0 T)=T by rw[List.drop_zero,<-hTl,List.take_length]) ?_
 conv=>whnf
 split
 rotate_left
 focus
  rename_i hf;have hf' : Nat.beq T.length 256=false:=hf;rw[hTl]at hf'; exact absurd hf' (by decide)
 conv=>whnf
 split
 rotate_left
 focus
  rename_i hf;have hf' : Nat.ble (0+T.length) Z.length=false:=hf;rw[Nat.ble_eq_true_of_le (by omega)]at hf'; cases hf'
 refine li (l' := T) (show List.take 0 Z++T++List.drop (0+T.length) Z=T by rw[List.take_zero,List.nil_append,List.drop_of_length_le (by omega),List.append_nil]) ?_
 conv=>whnf
 split
 rotate_left
 focus
  rename_i hf;have hf' : Nat.ble (0+256) T.length=false:=hf;rw[Nat.ble_eq_true_of_le (by omega)]at hf'; cases hf'
 refine li (l' := T) (show List.take 256 (List.drop 0 T)=T by rw[List.drop_zero,<-hTl,List.take_length]) ?_
 conv=>whnf
 refine⟨[],rfl,?_⟩;show Q (.agg (iP _ T)) []
 rw[lZ hTp];exact h
theorem IB {l:List UInt8} {i:Nat} {x:UInt8} (h:l[i]? = some x):(bs l)[i]? = some [.int .u8 x.toNat]:=by simp[bs,h]
theorem GS (c:Nat):IntKind.u8.wrap (c:Int)=((c % 256:Nat):Int):=by rw[wrap_u8]; omega
set_option maxRecDepth 20000 in
theorem CP {l:List UInt8} {f:Bool} (hl:l.length<=1000000000) (h:Q (fI (qw l:Nat)) []):ACall Tryz.prog 158 0 [fI 0,.sl 1 (bs l) f] [] Q:=by
 refine ad Tryz.func158 0 rfl (aA rfl) ?_
 conv=>whnf
 refine .pure (Bx ⟨rfl,?_⟩);have hTl:=tv (Nat.le_refl 256);have hTp:=jU 256;have hTg:∀j,j<256->(i5 256)[j]? = some (V.int .u32 (fp 8 j:Nat)):=fun j h=>Gf h
 generalize i5 256=T at *
 conv=>whnf
 split
 rotate_left
 focus
  rename_i hf;have hf' : Nat.beq T.length 256=false:=hf;rw[hTl]at hf'; exact absurd hf' (by decide)
 conv=>whnf
 split
 rotate_left
 focus
  rename_i hf;have hf' : Nat.ble (0+T.length) (List.replicate 256 (V.int .u32 0)).length=false:=hf;rw[List.length_replicate,Nat.ble_eq_true_of_le (by omega)]at hf'; cases hf'
 refine li (l' := T) (show List.take 0 (List.replicate 256 (V.int .u32 0))++T++List.drop (0+T.length) (List.replicate 256 (V.int .u32 0))=T by rw[List.take_zero,List.nil_append,List.drop_of_length_le (by rw[List.length_replicate]; omega),List.append_nil]) ?_
 rename_i hq1 _ hq2;clear hq1 hq2;have hlb:=al l
 conv=>whnf
 refine⟨⟨[5,6,13,14,15],fun mm ws H=>∃i:Nat,ws = [.int .u32 (run 4294967295 (l.take i):Nat),.ptr 0 0,.sl 1 (bs l) f,fI (bs l).length,fI i]/\H = [.cells T]/\i<=l.length/\mm=l.length-i,.at l.length ⟨0,rfl,rfl,by omega,rfl⟩,?_⟩⟩
 rintro mm ws H ⟨i,rfl,rfl,hi,rfl⟩;have hrl:run 4294967295 (l.take i)<2 ^ 32:=w4 _ (by decide)
 conv=>whnf
 refine ac (fun c1=>?_) (fun c1=>?_)<;>try rw[c1]<;>conv=>whnf
 focus
  have c1' := aB c1;have hlt:i<l.length:=by omega
  have hg:l[i]? = some l[i]:=aS hlt;have hsn:l.take (i+1)=l.take i ++ [l[i]]:=by rw[List.take_add_one,hg]; rfl
  generalize l[i]=x at *;refine⟨_,⟨by omega,IB hg⟩,?_⟩
  conv=>whnf
  refine⟨by decide,?_⟩
  conv=>whnf
  generalize hc:run 4294967295 (l.take i)=c at *;have e8:IntKind.u8.wrap ↑(BitVec.ofInt IntKind.u8.bits (IntKind.u8.wrap (c:Int)) ^^^ BitVec.ofInt IntKind.u8.bits (x.toNat:Int)).toNat=((c % 256 ^^^ x.toNat:Nat):Int):=by
   rw[GS c,Lo (Nat.mod_lt _ (by decide)) x.toNat_lt]
  have hm:c % 256 ^^^ x.toNat<256:=Nat.xor_lt_two_pow (n:=8) (Nat.mod_lt _ (by decide)) x.toNat_lt
  have hstep:=Gh c x;rw[e8];have hTm:=hTg _ hm;have hslt:=oE 8 (show c % 256 ^^^ x.toNat<2 ^ 32 by omega)
  generalize c % 256 ^^^ x.toNat=m at *;refine⟨⟨by omega,by omega⟩,?_⟩
  conv=>whnf
  split
  rotate_left
  focus
   rename_i hf;have hf' : T[m*1]? = none:=hf;rw[Nat.mul_one,hTm]at hf'; cases hf'
  rename_i v hv;have hv' : T[m*1]? = some v:=hv;rw[Nat.mul_one,hTm]at hv';cases hv'
  conv=>whnf
  refine .go [0] rfl (l.length-(i+1)) (by omega) ⟨i+1,?_,?_,by omega,rfl⟩
  . show [V.int .u32 _,V.ptr 0 0,.sl 1 (bs l) f,fI (bs l).length,V.int .i64 (IntKind.i64.wrap ((i:Int)+1))]=_
    have e1:IntKind.i64.wrap ((i:Int)+1)=((i+1:Nat):Int):=by rw[bw (by omega)]; rfl
    have e2:Int.fdiv (c:Int) (2 ^ min (8:Int).toNat IntKind.u32.bits)=((c / 256:Nat):Int):=CF c (k:=8) (by decide)
    rw[e1,e2,vk (by omega) hslt,<-hstep,hsn,tq,hc]
  . show [O.cells (iP _ T)]=_
    rw[lZ hTp]
 have c1' := aG c1;have:i=l.length:=by omega
 subst this;rw[List.take_length]at *;have e:IntKind.i64.wrap (IntKind.u32.wrap ↑(BitVec.ofInt IntKind.u32.bits (if IntKind.u32.signed then -1 else IntKind.u32.max) ^^^ BitVec.ofInt IntKind.u32.bits (run 4294967295 l:Nat)).toNat)=((qw l:Nat):Int):=by
  rw[show(if IntKind.u32.signed then -1 else IntKind.u32.max:Int)=((4294967295:Nat):Int)from rfl,vk (by decide) hrl,Nat.xor_comm]
  have:=qH l;exact vj (by unfold qw at this; omega)
 refine⟨[],rfl,?_⟩;show Q (.int .i64 _) []
 rw[e];exact h
theorem z8 {l:List UInt8} {f:Bool} (hl:l.length<=1000000000) (h:Q (fI (qw l:Nat)) []):ACall Tryz.prog 124 0 [.sl 1 (bs l) f] [] Q:=by
 refine ad Tryz.func124 0 rfl (aA rfl) ?_
 conv=>whnf
 refine .pure (CP hl ⟨rfl,?_⟩)
 conv=>whnf
 exact⟨[],rfl,h⟩
theorem Ja {s i:Nat} (hs:s<2 ^ 32) (hi:i<4):b8 (Int.fdiv (s:Int) (2 ^ min (IntKind.i64.wrap (8*(i:Int))).toNat IntKind.i64.bits))=(Fd s).getD i 0:=by
 have h1:=Fe hs hi;rw[bZ]at h1;exact UInt8.toNat_inj.1 (by omega)
theorem z7 {b own:List UInt8} {f g:Bool} (hb:b.length<=900000000) (ho:own.length<=900000000) (hs:b.length+own.length<=999999990) (h:Q (.ms 1 0 0 (b++jv own).length false) [.buf (bs (b++jv own))]) :
 ACall Tryz.prog 83 0 [.sl 1 (bs b) f,.sl 1 (bs own) g] [] Q:=by
 refine ad Tryz.func83 0 rfl (aA rfl) ?_
 conv=>whnf
 refine .call [0] 1 ⟨rfl,rfl,rfl⟩ (ACall.eat rfl rfl (vl (a:=b) (c:=own) (f:=f) (g:=g) hb ho (by omega) ?_))
 conv=>whnf
 refine .pure (z8 (l:=own) (by omega) ⟨rfl,?_⟩)
 have hcs:=qH own;unfold jv at h;generalize qw own=s at *;have hcl:=wz s
 conv=>whnf
 refine⟨⟨[5,6,14],fun mm ws H=>∃(i:Nat) (X:List UInt8),ws = [.ms 1 0 0 X.length false,fI s,fI i]/\H = [.buf (bs X)]/\X=b++own++(Fd s).take i/\i<=4/\mm=4-i,
  .frz 5 (.go [1] rfl 4 (by omega) ⟨0,b++own,rfl,rfl,by simp,by omega,rfl⟩),?_⟩⟩
 rintro mm ws H ⟨i,X,rfl,rfl,hX,hi,rfl⟩;have hXl:X.length=b.length+own.length+i:=by rw[hX,aD,aD,List.length_take,hcl]; omega
 conv=>whnf
 refine ac (fun c1=>?_) (fun c1=>?_)<;>try rw[c1]<;>conv=>whnf
 rotate_left
 focus
  have c1' := aG c1;have hie:i=4:=by omega
  subst hie;rw[List.take_of_length_le (by omega),List.append_assoc]at hX
  subst hX;exact⟨[0],rfl,h⟩
 have c1' := aB c1;have hlt:i<4:=by omega
 refine⟨by rw[bw (by omega)]; omega,?_⟩
 conv=>whnf
 refine rL (X:=X) rfl rfl rfl (by omega) ?_
 have hb8:=Ja (i:=i) hcs hlt;rw[hb8];have hsn:X ++ [(Fd s).getD i 0]=b++own++(Fd s).take (i+1):=by
  rw[hX,List.take_add_one,List.getD,aS (by omega),List.append_assoc (b++own)]; rfl
 generalize X ++ [(Fd s).getD i 0]=Y at *
 conv=>whnf
 refine .go [2] rfl (4-(i+1)) (by omega) ⟨i+1,Y,?_,rfl,hsn,by omega,rfl⟩
 show [V.ms 1 0 0 Y.length false,fI s,V.int .i64 (IntKind.i64.wrap ((i:Int)+1))]=_
 rw[bw (by omega)]; rfl
theorem xq {l:List UInt8} {f:Bool} (hl:l.length<=1000000000) (h:Q (.sl 1 (bs l) false) []):ACall Tryz.prog 43 0 [.sl 1 (bs l) f] [] Q:=by
 have hlk:=al l;refine ACall.ret (ad Tryz.func43 0 rfl (aA rfl) ?_);cases l with
 | nil =>
  conv=>whnf
  refine⟨?_,?_⟩
  . conv=>whnf
    exact⟨[],rfl,.sub _ _ (VSub.nils 1 false) (HSub.refl _) (.done [] rfl h)⟩
  . conv=>whnf
    refine⟨by decide,fun _=>?_,fun e=>absurd rfl e⟩
    conv=>whnf
    exact⟨[0],rfl,.sub _ _ (VSub.msRoom 1 0 0) (HSub.refl _) (.frz 0 rfl ⟨by decide,trivial⟩ (.done [] rfl h))⟩
 | cons c r =>
  conv=>whnf
  refine⟨by decide,fun e=>by simp[bs]at e,fun _=>?_⟩
  conv=>whnf
  refine⟨(show(bs (c::r)).length*1<=70368744177664 by rw[hlk]; omega),?_⟩
  conv=>whnf
  refine⟨[1],rfl,.frz 0 rfl (by repeat (first | exact trivial | refine And.intro (by rw[Nat.zero_add]; exact Nat.le_refl _) ?_)) (.done [] rfl ?_)⟩
  show Q (.sl 1 (List.take (bs (c::r)).length (List.drop 0 (bs (c::r)))) false) []
  rw[List.drop_zero,List.take_length]; exact h
def K8 (b:List UInt8):List UInt8 × Int:=if b.length<4 then([],4)else if jv (b.take (b.length-4))=b then(b.take (b.length-4),0)else([],3)
theorem Ag {l:List UInt8} {f:Bool} (hl:l.length<=1000000000) (h:Q (fI (qw l:Nat)) []):ACall Tryz.prog 159 0 [fI 0,.sl 1 (bs l) f] [] Q:=by
 refine ad Tryz.func159 0 rfl (aA rfl) ?_;have hlb:=al l
 conv=>whnf
 refine⟨⟨[1,5,6],fun mm ws H=>∃i:Nat,ws = [.sl 1 (bs l) f,.int .u32 (run 4294967295 (l.take i):Nat),fI i]/\H = []/\i<=l.length/\mm=l.length-i,.at l.length ⟨0,rfl,rfl,by omega,rfl⟩,?_⟩⟩
 rintro mm ws H ⟨i,rfl,rfl,hi,rfl⟩;have hrl:run 4294967295 (l.take i)<2 ^ 32:=w4 _ (by decide)
 conv=>whnf
 refine ac (fun c1=>?_) (fun c1=>?_)<;>try rw[c1]<;>conv=>whnf
 focus
  have c1' := aB c1;have hlt:i<l.length:=by omega
  have hg:l[i]? = some l[i]:=aS hlt;have hsn:l.take (i+1)=l.take i ++ [l[i]]:=by rw[List.take_add_one,hg]; rfl
  generalize l[i]=x at *;refine⟨_,⟨by omega,IB hg⟩,?_⟩
  conv=>whnf
  generalize hc:run 4294967295 (l.take i)=c at *;have hx8:=x.toNat_lt;have hcx:c ^^^ x.toNat<2 ^ 32:=Nat.xor_lt_two_pow hrl (by omega)
  refine⟨⟨[1,5,6,7],fun mm ws H=>∃k:Nat,ws = [.sl 1 (bs l) f,.int .u32 (fp k (c ^^^ x.toNat):Nat),fI i,fI k]/\H = []/\k<=8/\mm=8-k,.at 8 ⟨0,?_,rfl,by omega,rfl⟩,?_⟩⟩
  . show [V.sl 1 (bs l) f,V.int .u32 (IntKind.u32.wrap ↑(BitVec.ofInt IntKind.u32.bits (c:Int) ^^^ BitVec.ofInt IntKind.u32.bits (IntKind.u32.wrap (x.toNat:Int))).toNat),fI i,fI 0]=_
    rw[jW (x.toNat:Int),show(x.toNat:Int) % 4294967296=(x.toNat:Int) by omega,vk hrl (by omega)]; rfl
  rintro mm ws H ⟨k,rfl,rfl,hk,rfl⟩;have hs:=oE k hcx
  conv=>whnf
  refine ac (fun c2=>?_) (fun c2=>?_)<;>try rw[c2]<;>conv=>whnf
  rotate_left
  focus
   have c2' := aG c2;have:k=8:=by omega
   subst this;refine .go [] rfl (l.length-(i+1)) (by omega) ⟨i+1,?_,rfl,by omega,rfl⟩
   show [V.sl 1 (bs l) f,.int .u32 (fp 8 (c ^^^ x.toNat):Nat),V.int .i64 (IntKind.i64.wrap ((i:Int)+1))]=_
   rw[bw (by omega),hsn,tq,hc]; rfl
  have c2' := aB c2;have hst:fp (k+1) (c ^^^ x.toNat)=Bw (fp k (c ^^^ x.toNat)):=Ga _ _;generalize fp k (c ^^^ x.toNat)=d at *;refine⟨by decide,?_⟩
  conv=>whnf
  refine⟨by decide,?_⟩
  conv=>whnf
  have e1:IntKind.u32.wrap (Int.tdiv (d:Int) 2)=((d / 2:Nat):Int):=by rw[show Int.tdiv (d:Int) 2=((d / 2:Nat):Int)from rfl,jW]; omega
  have e2:Int.tmod (d:Int) 2=((d % 2:Nat):Int):=rfl;have e3:IntKind.i64.wrap ((k:Int)+1)=((k+1:Nat):Int):=by rw[bw (by omega)]; rfl
  rw[e1,e2];refine ac (fun c3=>?_) (fun c3=>?_)<;>try rw[c3]<;>conv=>whnf
  . have c3' := aB c3;refine .go [] rfl (8-(k+1)) (by omega) ⟨k+1,?_,rfl,by omega,rfl⟩
    show [V.sl 1 (bs l) f,.int .u32 (IntKind.u32.wrap ↑(BitVec.ofInt IntKind.u32.bits ((d / 2:Nat):Int) ^^^ BitVec.ofInt IntKind.u32.bits ((3988292384:Nat):Int)).toNat),fI i,V.int .i64 (IntKind.i64.wrap ((k:Int)+1))]=_
    rw[vk (by omega) (by decide),e3,hst]
    unfold Bw;rw[if_pos (by omega)]
  . have c3' := aG c3;refine .go [] rfl (8-(k+1)) (by omega) ⟨k+1,?_,rfl,by omega,rfl⟩
    show [V.sl 1 (bs l) f,.int .u32 ((d / 2:Nat):Int),fI i,V.int .i64 (IntKind.i64.wrap ((k:Int)+1))]=_
    rw[e3,hst];unfold Bw;rw[if_neg (by omega),Nat.xor_zero]
 have c1' := aG c1;have:i=l.length:=by omega
 subst this;rw[List.take_length]at *;have e:IntKind.i64.wrap (IntKind.u32.wrap ↑(BitVec.ofInt IntKind.u32.bits (run 4294967295 l:Nat) ^^^ BitVec.ofInt IntKind.u32.bits ((4294967295:Nat):Int)).toNat)=((qw l:Nat):Int):=by
  rw[vk hrl (by decide)]
  have:=qH l;exact vj (by unfold qw at this; omega)
 refine⟨[],rfl,?_⟩;show Q (.int .i64 (IntKind.i64.wrap (IntKind.u32.wrap ↑(BitVec.ofInt IntKind.u32.bits (run 4294967295 l:Nat) ^^^ BitVec.ofInt IntKind.u32.bits ((4294967295:Nat):Int)).toNat))) []
 rw[e];exact h
theorem xF {l:List UInt8} {f:Bool} (hl:l.length<=1000000000) (h:Q (fI (qw l:Nat)) []):ACall Tryz.prog 125 0 [.sl 1 (bs l) f] [] Q:=by
 refine ad Tryz.func125 0 rfl (aA rfl) ?_
 conv=>whnf
 refine .pure (Ag hl ⟨rfl,?_⟩)
 conv=>whnf
 exact⟨[],rfl,h⟩
theorem pK {b own:List UInt8} {f g:Bool} (hb:b.length<=900000000) (ho:own.length<=900000000) (hs:b.length+own.length<=999999990) (h:Q (.ms 1 0 0 (b++jv own).length false) [.buf (bs (b++jv own))]) :
 ACall Tryz.prog 84 0 [.sl 1 (bs b) f,.sl 1 (bs own) g] [] Q:=by
 refine ad Tryz.func84 0 rfl (aA rfl) ?_;have hlb:=al b;have hlo:=al own
 conv=>whnf
 refine⟨(show(bs b).length*1<=70368744177664 by omega),?_⟩
 conv=>whnf
 refine⟨by rw[Nat.add_zero],?_⟩
 refine⟨(show(bs b++bs own).length*1<=70368744177664 by rw[aD]; omega),?_⟩
 conv=>whnf
 refine .pure (xF (l:=own) (by omega) ⟨rfl,?_⟩)
 have hcs:=qH own;unfold jv at h;generalize qw own=s at *;have e0:IntKind.u8.wrap (Int.tmod (s:Int) 256)=(((UInt8.ofNat s).toNat:Nat):Int):=by rw[show Int.tmod (s:Int) 256=((s % 256:Nat):Int)from rfl,wrap_u8,UInt8.toNat_ofNat']; omega
 have e1:IntKind.u8.wrap (Int.tmod (IntKind.i64.wrap (Int.tdiv (s:Int) 256)) 256)=(((UInt8.ofNat (s / 256)).toNat:Nat):Int):=by
  rw[show Int.tdiv (s:Int) 256=((s / 256:Nat):Int)from rfl,vj (by omega),show Int.tmod ((s / 256:Nat):Int) 256=((s / 256 % 256:Nat):Int)from rfl,wrap_u8,UInt8.toNat_ofNat']; omega
 have e2:IntKind.u8.wrap (Int.tmod (IntKind.i64.wrap (Int.tdiv (s:Int) 65536)) 256)=(((UInt8.ofNat (s / 65536)).toNat:Nat):Int):=by
  rw[show Int.tdiv (s:Int) 65536=((s / 65536:Nat):Int)from rfl,vj (by omega),show Int.tmod ((s / 65536:Nat):Int) 256=((s / 65536 % 256:Nat):Int)from rfl,wrap_u8,UInt8.toNat_ofNat']; omega
 have e3:IntKind.u8.wrap (IntKind.i64.wrap (Int.tdiv (s:Int) 16777216))=(((UInt8.ofNat (s / 16777216)).toNat:Nat):Int):=by
  rw[show Int.tdiv (s:Int) 16777216=((s / 16777216:Nat):Int)from rfl,vj (by omega),wrap_u8,UInt8.toNat_ofNat']; omega
 conv=>whnf
 repeat (refine⟨by decide,?_⟩
         conv=>whnf)
 rw[e0,e1,e2,e3];refine iz (i:=1) (j:=2) (X:=b++own) (Y:=Fd s) rfl (congrArg O.buf (iA b own).symm) rfl (by rw[aD,aD,List.drop_zero]; omega) rfl (by rw[aD,wz]; omega) ?_
 rw[<-List.append_assoc]at h;generalize b++own++Fd s=Y at *
 conv=>whnf
 exact⟨[3],rfl,h⟩
theorem vv {b:List UInt8} {f:Bool} (hb:b.length<=900000000) (h:Q (.tup [.sl 1 (bs (K8 b).1) false,fI (K8 b).2]) []):ACall Tryz.prog 113 0 [.sl 1 (bs b) f] [] Q:=by
 refine ACall.ret (ad Tryz.func113 0 rfl (aA rfl) ?_);have hlb:=al b;unfold K8 at h
 conv=>whnf
 rw[hlb,bw (n:=(b.length:Int)-4) (by omega)]
 refine ac (fun c1=>?_) (fun c1=>?_)<;>try rw[c1]<;>conv=>whnf
 . have c1' := aB c1;rw[if_pos (by omega)]at h
   exact⟨[],rfl,.sub _ _ (.tup (.cons (VSub.nils 1 false) (VSubs.refl _))) (HSub.refl _) (.done [] rfl h)⟩
 have c1' := aG c1;rw[if_neg (by omega)]at h
 have hnl:(b.take (b.length-4)).length<=900000000:=by rw[List.length_take]; omega
 have e4:((b.length:Int)-4).toNat=b.length-4:=by omega
 refine⟨[0,1,2,5,6,3,4,7],by kernel_rfl,by kernel_rfl,?_⟩
 conv=>whnf
 refine⟨⟨by omega,by omega⟩,?_⟩
 conv=>whnf
 refine⟨_,bz _,?_⟩
 conv=>whnf
 rw[nD,e4];refine .call [] 0 ⟨rfl,rfl,rfl⟩ (ACall.args (.cons (VSub.nils 1 false) (VSubs.refl _)) (pK (b:=[]) (own:=b.take (b.length-4)) (by simp) (by omega) (by simp; omega) ?_))
 have hcl:=r9 (b.take (b.length-4));rw[List.nil_append];generalize jv (b.take (b.length-4))=W at *;have hlW:=al W
 repeat (conv=>whnf
         refine⟨rfl,?_⟩)
 conv=>whnf
 refine⟨⟨_,bz _,rfl⟩,?_⟩
 conv=>whnf
 refine⟨by omega,W,?_,?_⟩
 . rw[List.drop_zero,<-hlW,List.take_length]; exact bz _
 conv=>whnf
 by_cases hW:W=b
 . rw[if_pos hW]at h;rw[decide_eq_true hW]
   conv=>whnf
   refine⟨⟨by omega,by omega⟩,?_⟩
   conv=>whnf
   rw[nD,e4];exact⟨[],rfl,.done [] rfl h⟩
 . rw[if_neg hW]at h;rw[decide_eq_false hW]
   conv=>whnf
   exact⟨[],rfl,.sub _ _ (.tup (.cons (VSub.nils 1 false) (VSubs.refl _))) (HSub.refl _) (.done [] rfl h)⟩
inductive ChgI:Chg->Prop
 | cre (t:List UInt8) (c:List Col) (ks:Int):ai t=true->fC c ks=true->ChgI ⟨1,t,c,ks,gG⟩
 | drop (t:List UInt8):ai t=true->ChgI ⟨2,t,[],0,gG⟩
 | add (k:Int) (t:List UInt8) (col:Col):ai t=true->(k=3\/k=5)->tW col=true->ChgI ⟨k,t,[],0,col⟩
 | cut (t n:List UInt8):ai t=true->ai n=true->ChgI ⟨4,t,[],0,⟨n,0,false⟩⟩
inductive MayI (l:List Tb):Evt->Prop
 | ins (k:Int) (t:List UInt8) (a:List Val) (C:List Col) (K:Int):(k=3\/k=4)->cf l t=some (C,K)->bB C a=true->MayI l ⟨k,0,t,[],a,br⟩
 | del (t:List UInt8) (b:List Val) (C:List Col) (K:Int):cf l t=some (C,K)->aP C K.toNat b=true->(b.length:Int)=K->MayI l ⟨5,0,t,b,[],br⟩
 | alt (c:Chg):ChgI c->MayI l ⟨6,0,[],[],[],c⟩
 | num (k n:Int):mg k=true->0<=n->MayI l ⟨k,n,[],[],[],br⟩
theorem wK {c:Chg} (h:kW c=true):c.ks=0/\c.c = []:=by
 unfold kW at h;simp only[Bool.and_eq_true,decide_eq_true_eq]at h;exact⟨h.1,List.length_eq_zero_iff.1 h.2⟩
theorem yc {c:Chg} (h:qv c=0):ChgI c:=by
 unfold qv at h;split at h
 rotate_left
 . omega
 rename_i hk;split at h
 rotate_left
 . omega
 rename_i hb;rw[Bool.and_eq_true]at hb;obtain⟨hn,hb⟩:=hb;unfold lh at hb;obtain⟨k,t,cc,ks,col⟩:=c;simp only at *;split at hb
 . rename_i h1; subst h1;rw[Bool.and_eq_true,decide_eq_true_eq]at hb;obtain⟨h1,rfl⟩:=hb;exact .cre _ _ _ hn h1
 split at hb
 . rename_i h1; subst h1;rw[Bool.and_eq_true,decide_eq_true_eq]at hb;obtain⟨h1,rfl⟩:=hb;obtain⟨h2,h3⟩:=wK h1;simp only at h2 h3;subst h2 h3;exact .drop _ hn
 split at hb
 . rename_i h1;rw[Bool.and_eq_true]at hb;obtain⟨h2,h3⟩:=wK hb.1;simp only at h2 h3;subst h2 h3;exact .add _ _ _ hn h1 hb.2
 . rw[Bool.and_eq_true]at hb;obtain⟨h2,h3⟩:=wK hb.1;simp only at h2 h3;subst h2 h3;have h4:k=4:=by omega
   subst h4;obtain⟨n,kk,o⟩:=col;simp only[Bool.and_eq_true,decide_eq_true_eq,Bool.not_eq_true']at hb;obtain⟨_,hb1,rfl,rfl⟩:=hb;exact .cut _ _ hn hb1
theorem ChgI.e {c:Chg} (h:ChgI c):qv c=0:=by
 cases h with
 | cre t cc ks h1 h2 =>
  rw[cF (b:=true) (.inl rfl) (by rw[h1]; unfold lh; simp[h2])]; rfl
 | drop t h1 =>
  rw[cF (b:=true) (.inr (.inl rfl)) (by rw[h1]; rfl)]; rfl
 | add k t col h1 hk h2 =>
  have h3:lh ⟨k,t,[],0,col⟩=true:=by
   unfold lh;simp only;rw[if_neg (by omega),if_neg (by omega),if_pos hk,h2]; rfl
  rw[cF (b:=true) (by rcases hk with rfl | rfl<;>simp) (by rw[h1,h3]; rfl)]; rfl
 | cut t n h1 h2 =>
  have h3:lh ⟨4,t,[],0,⟨n,0,false⟩⟩=true:=by
   unfold lh;simp only;rw[if_neg (by omega),if_neg (by omega),if_neg (by omega),h2]; rfl
  rw[cF (b:=true) (by simp) (by rw[h1,h3]; rfl)]; rfl
theorem qZ {k:Int} (h:gB k=true):k=3\/k=4\/k=5:=by
 unfold gB at h; simpa using h
theorem zw {k:Int} (h:gB k=false):¬(k=3\/k=4\/k=5):=by
 unfold gB at h; simpa using h
theorem kA {k:Int} (h:mg k=true):k=1\/k=2\/k=7\/k=8\/k=9\/k=10:=by
 unfold mg at h; simpa using h
theorem dF {e:Evt} {l:List Tb} (h:cm e l=0):MayI l e:=by
 unfold cm at h;split at h
 . rename_i hr;have hk:=qZ hr;unfold Bq at h;split at h
   . omega
   . rename_i C K hf;split at h
     . omega
     rename_i h1;split at h
     . omega
     rename_i h2;rw[Bool.not_eq_false]at h1 h2;unfold eK at h1;unfold cQ at h2;split at h1
     . rename_i h5;rw[if_pos h5]at h2;rw[Bool.and_eq_true,decide_eq_true_eq]at h1;rw[decide_eq_true_eq]at h2;rw[h5]at h2;rw[h2];exact .del _ _ C K hf h1.1 h1.2
     . rename_i h5;rw[if_neg h5]at h2;rw[decide_eq_true_eq]at h2;rw[h2];exact .ins _ _ _ C K (by omega) hf h1
 split at h
 . rename_i h6;split at h
   . omega
   rename_i h0;split at h
   . omega
   rename_i hb;rw[Bool.or_eq_true,not_or]at hb;have hb2:=hb.2;unfold uz at hb2;rw[Bool.not_eq_true', decide_eq_false_iff_not,Decidable.not_not]at hb2;rw[h6]at hb2;rw[hb2];exact .alt _ (yc (by omega))
 split at h
 . rename_i hn;split at h
   . omega
   rename_i hb;rw[Bool.or_eq_true,not_or,decide_eq_true_eq]at hb;have hb2:=hb.2;unfold uA at hb2;rw[Bool.not_eq_true', decide_eq_false_iff_not,Decidable.not_not]at hb2;rw[hb2];exact .num _ _ hn (by omega)
 . omega
theorem MayI.e {e:Evt} {l:List Tb} (h:MayI l e):cm e l=0:=by
 cases h with
 | ins k t a C K hk hf hfit =>
  unfold cm;have hr:gB k=true:=by rcases hk with rfl | rfl<;>rfl
  simp only[hr,if_true];unfold Bq;simp only[hf];have h1:eK ⟨k,0,t,[],a,br⟩ C K=true:=by unfold eK; simp only; rw[if_neg (by omega)]; exact hfit
  have h2:cQ ⟨k,0,t,[],a,br⟩=true:=by unfold cQ; rw[if_neg (by show ¬k=5; omega)]; exact decide_eq_true rfl
  rw[h1,h2]; rfl
 | del t b C K hf hfit hl =>
  unfold cm;simp only[show gB 5=true from rfl,if_true]
  unfold Bq;simp only[hf];have h1:eK ⟨5,0,t,b,[],br⟩ C K=true:=by unfold eK; simp only[if_true]; rw[hfit,decide_eq_true hl]; rfl
  have h2:cQ ⟨5,0,t,b,[],br⟩=true:=by unfold cQ; rw[if_pos rfl]; exact decide_eq_true rfl
  rw[h1,h2]; rfl
 | alt c hc =>
  unfold cm;simp only[show gB 6=false from rfl,if_true]
  rw[hc.e];have h2:uz ⟨6,0,[],[],[],c⟩=true:=by unfold uz; exact decide_eq_true rfl
  rw[h2]; rfl
 | num k n hk hn =>
  have hk' := kA hk;unfold cm;have hr:gB k=false:=by rcases hk' with rfl | rfl | rfl | rfl | rfl | rfl<;>rfl
  have h2:uA ⟨k,n,[],[],[],br⟩=true:=by unfold uA; exact decide_eq_true rfl
  have h3:decide (n<0)=false:=decide_eq_false (by omega)
  simp only[hr,hk,h2,h3];rw[if_neg (by decide),if_neg (by omega)]; rfl
theorem aL {n:List UInt8} (h:ai n=true):n.length<=32:=by
 unfold ai at h;simp only[Bool.and_eq_true,decide_eq_true_eq]at h;exact h.2.1
theorem lx {l:List Col} {k:Int} (h:fC l k=true):∀c∈l,ai c.n=true/\1<=c.k/\c.k<=4:=fun c hc=>by
 obtain⟨i,hi⟩:=List.mem_iff_getElem?.1 hc;unfold fC at h;rw[Bool.and_eq_true,List.all_eq_true]at h;have:=h.2 i (List.mem_range.2 (liZ.1 hi).1);rw[hi]at this;simp only[mX,cy,Bool.and_eq_true,decide_eq_true_eq]at this;exact⟨this.1,by omega,by omega⟩
theorem ChgI.b {c:Chg} (h:ChgI c):K3 c:=by
 cases h with
 | cre t cc ks h1 h2 =>
  have:=aL h1;have hb:=dt h2;exact⟨by simp only; omega,by simp only; omega,fun x hx=>by have:=aL (lx h2 x hx).1; omega,by simp[gG]⟩
 | drop t h1 =>
  have:=aL h1;exact⟨by simp only; omega,by simp,fun x hx=>absurd hx List.not_mem_nil,by simp[gG]⟩
 | add k t col h1 hk h2 =>
  have:=aL h1;unfold tW at h2;rw[Bool.and_eq_true]at h2;have:=aL h2.1;exact⟨by simp only; omega,by simp,fun x hx=>absurd hx List.not_mem_nil,by simp only; omega⟩
 | cut t n h1 h2 =>
  have:=aL h1;have:=aL h2;exact⟨by simp only; omega,by simp,fun x hx=>absurd hx List.not_mem_nil,by simp only; omega⟩
theorem mY {v:Val} (h:fK v=true):v.t.length<=4096:=by
 unfold fK at h;split at h
 . simp only[Bool.and_eq_true,decide_eq_true_eq]at h; rw[h.2]; simp
 split at h
 . simp only[Bool.and_eq_true,decide_eq_true_eq]at h; rw[h.1]; simp
 split at h
 . simp only[decide_eq_true_eq]at h; rw[h]; simp
 split at h
 . simp only[Bool.and_eq_true,decide_eq_true_eq]at h; omega
 split at h
 . simp only[Bool.and_eq_true,decide_eq_true_eq]at h; omega
 . cases h
theorem yC {l:List Col} {vs:List Val} (h:bB l vs=true):∀v∈vs,fK v=true:=fun v hv=>by
 unfold bB at h;rw[Bool.and_eq_true,decide_eq_true_eq,List.all_eq_true]at h;obtain⟨i,hi⟩:=List.mem_iff_getElem?.1 hv;have hlt:=(liZ.1 hi).1;have:=h.2 i (List.mem_range.2 hlt);rw[io (aS (show i<l.length by omega)) hi]at this
 unfold bG at this;rw[Bool.and_eq_true]at this;exact this.1
theorem dq {l:List Col} {vs:List Val} (h:bB l vs=true):vs.length=l.length:=by
 unfold bB at h;rw[Bool.and_eq_true,decide_eq_true_eq]at h;exact h.1
structure gl (e:Evt):Prop where
 n:ei e.n
 b:∀v∈e.b,ei v.n
 a:∀v∈e.a,ei v.n
theorem eX {l:List Tb} {n:List UInt8} {C:List Col} {K:Int} (hl:TbsB l) (h:cf l n=some (C,K)):ai n=true:=by
 unfold cf at h;cases ha:dP l n with
 | none=>rw[ha]at h; cases h
 | some j =>
  obtain⟨t,ht,rfl,_⟩:=bY ha;exact(hl.ok.each t (List.mem_of_getElem? ht)).name
theorem RwB.of_fits {l:List Col} {vs:List Val} (hl:l.length<=16) (h:bB l vs=true) (hn:∀v∈vs,ei v.n):RwB vs :=
 ⟨by have:=dq h; omega,hn,fun v hv=>mY (yC h v hv)⟩
theorem RwB.of_key {l:List Col} {k:Nat} {vs:List Val} (hl:l.length<=16) (hk:k<=l.length) (hv:vs.length=k) (h:aP l k vs=true) (hn:∀v∈vs,ei v.n):RwB vs:=by
 have:=(uS hk h).2;rw[<-hv,List.take_length,List.all_eq_true]at this;exact⟨by omega,hn,fun v hv=>mY (this v hv)⟩
theorem A0 {e:Evt} {l:List Tb} (hl:TbsB l) (hn:gl e) (h:cm e l=0) (hr:gB e.k=true) :
 e.t.length<=32 /\ ∃(C:List Col) (k:Nat),cf l e.t=some (C,(k:Int))/\(e.k=5->e.b.length=k/\e.b ≠ []/\RwB e.b)/\(¬e.k=5->e.a ≠ []/\RwB e.a):=by
 have hi:=dF h;obtain⟨en,eb,ea⟩:=hn;cases hi with
 | ins k t a C K hk hf hfit =>
  obtain⟨hm,hC,kk,rfl,hkk⟩:=hl.found hf;have:=dt hm;have hlen:=dq hfit;refine⟨aL (eX hl hf),C,kk,hf,fun e=>?_,fun _=>⟨fun e=>?_,.of_fits hC hfit ea⟩⟩
  . simp only at e; omega
  . simp only at e; rw[e]at hlen; simp at hlen; omega
 | del t b C K hf hfit hlen =>
  obtain⟨hm,hC,kk,rfl,hkk⟩:=hl.found hf;have:=dt hm;refine⟨aL (eX hl hf),C,kk,hf,fun e=>⟨Int.ofNat_inj.1 hlen,fun e=>?_,.of_key hC hkk (Int.ofNat_inj.1 hlen) hfit eb⟩,fun e=>absurd rfl e⟩
  simp only at e; rw[e]at hlen; simp at hlen; omega
 | alt c hc=>exact absurd hr (by simp only[show gB 6=false from rfl]; decide)
 | num k n hk hn =>
  have:=kA hk;have:=qZ hr;simp only at this;omega
theorem Ki (e:Int):VSub (.tup [.nils,fI e]) (.tup [.sl 1 (bs []) false,fI e]):=.tup (.cons (fun I ρ u h=>by cases h; exact .slnil _ _ _ _) (VSubs.refl _))
theorem qL {P:Program} {f:FuncId} {k:Int} {full:Bool} {vs:List V} (hm:t8 0 vs = []) (hf:(fX 0 (.buf (bs [b8 k])) vs).map (aM (bI []))=vs)
 (h:ACall P f 0 (.sl 1 (bs [b8 k]) full::vs) [] fun r H' => Q (aM (qA 0 1) r) (gU 0 H' [.dead])):ACall P f 1 (.ms 1 0 0 1 full::vs) [.buf [[.int .u8 (IntKind.u8.wrap k)]]] Q:=by
 rw[bZ];exact ACall.eatA (es:=bs [b8 k]) rfl hm hf h
theorem xm {n:Nat} {X W:List UInt8} {E:Int} (hx:X=W) (hn:n=X.length) (h:Q (.tup [.sl 1 (bs W) false,fI E]) []):ARet 0 Q (.tup [.ms 1 0 0 n false,fI E]) [.buf (bs X)]:=by
 subst hx hn;have hle:=al X;refine .frz 0 rfl (by repeat (first | exact trivial | refine And.intro (by rw[hle,Nat.zero_add]; exact Nat.le_refl _) ?_)) (.done [] rfl ?_)
 show Q (.tup [.sl 1 (List.take X.length (List.drop 0 (bs X))) false,fI E]) []
 rw[List.drop_zero,<-hle,List.take_length];exact h
theorem na {e:Evt} {l:List Tb} (hl:TbsB l) (he:oI e) (hn:gl e)
 (h:Q (.tup [.sl 1 (bs (if cm e l=0 then cC e else [])) false,fI (cm e l)]) []):ACall Tryz.prog 47 0 [tZ e,.sl 3 (tbs l) false] [] Q:=by
 refine ACall.ret (ad Tryz.func47 0 rfl (aA rfl) ?_)
 conv=>whnf
 refine .pure (rd hl he ⟨rfl,?_⟩)
 conv=>whnf
 refine ac (fun c1=>?_) (fun c1=>?_)<;>try rw[c1]<;>conv=>whnf
 focus
  have c1' : ¬cm e l=0:=by simpa using c1
  rw[if_neg c1']at h;exact⟨[],rfl,.sub _ _ (Ki _) (HSub.refl _) (.done [] rfl h)⟩
 have c1' : cm e l=0:=by simpa using c1
 rw[if_pos c1', c1']at h;have hi:=dF c1';have hc:=hl.cols;refine .pure (fb (by have:=hl.few; omega) hl.ok.sorted (fun x hx=>by have:=hc x hx; omega) ⟨rfl,?_⟩)
 unfold qa;have hrow:=A0 hl hn c1';rcases hf:cf l e.t with _ | ⟨C,K⟩<;>conv=>whnf
 all_goals
  refine ac (fun k6=>?_) (fun k6=>?_)<;>try rw[k6]<;>conv=>whnf
  focus
   have k6' := aB k6;have hcb:K3 e.ch:=by
    cases hi with
    | ins k t a C K hk hf hfit=>simp only at k6'; omega
    | del t b C K hf hfit hlen=>simp only at k6'; omega
    | alt c hc=>exact hc.b
    | num k n hk hn=>have:=kA hk; simp only at k6'; omega
   refine .call [1] 1 ⟨rfl,rfl,rfl⟩ (qL rfl rfl (s8 (l:=[b8 e.k]) (c:=e.ch) (by simp) hcb (by simp) ?_))
   conv=>whnf
   exact⟨[3],rfl,xm (X:=b8 e.k::cS e.ch) (by unfold cC; rw[if_pos k6']) rfl h⟩
  have k6' := aG k6;refine ac (fun k5=>?_) (fun k5=>?_)<;>try rw[k5]<;>conv=>whnf
  focus
   have k5' := aB k5;obtain⟨ht,C', k,hf', h5,_⟩:=hrow (by rw[k5']; rfl)
   rw[hf]at hf';first
   | cases hf'; done
   | cases hf'
     obtain⟨hlb,hb0,hbb⟩:=h5 k5';refine⟨[0,1,2,4,5,6,3,7,8,9],by kernel_rfl,by kernel_rfl,?_⟩
     conv=>whnf
     repeat (refine⟨rfl,?_⟩
             conv=>whnf)
     refine .call [1] 1 ⟨rfl,rfl,rfl⟩ (qL rfl rfl (dV (l:=[b8 e.k]) (f:=true) (s:=e.t) (by omega) (by simp) ?_))
     repeat (conv=>whnf
             refine⟨rfl,?_⟩)
     conv=>whnf
     have htl:=dd e.t;refine .call [3] 1 ⟨rfl,rfl,rfl⟩ (ACall.eatA (al _).symm rfl rfl (rA (l:=[b8 e.k]++bm e.t) (f:=false) (C:=C) (k:=k) (r:=e.b) hlb (by simp) hb0 hbb (by rw[aD,List.length_singleton]; omega) ?_))
     repeat (conv=>whnf
             refine⟨rfl,?_⟩)
     conv=>whnf
     exact⟨[4],rfl,xm (X:=[b8 e.k]++bm e.t++dM e.b) (by unfold cC; rw[if_neg k6', if_pos k5', List.append_assoc]; rfl) rfl h⟩
  have k5' := aG k5;refine .pure (tk ⟨rfl,?_⟩)
  conv=>whnf
  cases hr:gB e.k<;>conv=>whnf
  focus
   have hr' := zw hr;have hnn:0<=e.n:=by
    cases hi with
    | ins k t a C K hk hf hfit=>exact Int.le_refl 0
    | del t b C K hf hfit hlen=>exact Int.le_refl 0
    | alt c hc=>exact Int.le_refl 0
    | num k n hk hn' => exact hn'
   refine .call [1] 1 ⟨rfl,rfl,rfl⟩ (qL rfl rfl (j7 (l:=[b8 e.k]) (f:=true) (n:=e.n) hnn hn.n.2 (by simp) ?_))
   conv=>whnf
   exact⟨[3],rfl,xm (X:=[b8 e.k]++d7 e.n) (by unfold cC; rw[if_neg k6', if_neg k5', if_neg (by omega)]; rfl) rfl h⟩
  focus
   obtain⟨ht,C', k,hf', _,h3⟩:=hrow hr;rw[hf]at hf';first
   | cases hf'; done
   | cases hf'
     obtain⟨hb0,hbb⟩:=h3 k5';have hr' := qZ hr;refine⟨[0,1,2,4,5,6,3,7,8,9],by kernel_rfl,by kernel_rfl,?_⟩
     conv=>whnf
     repeat (refine⟨rfl,?_⟩
             conv=>whnf)
     refine .call [1] 1 ⟨rfl,rfl,rfl⟩ (qL rfl rfl (dV (l:=[b8 e.k]) (f:=true) (s:=e.t) (by omega) (by simp) ?_))
     repeat (conv=>whnf
             refine⟨rfl,?_⟩)
     conv=>whnf
     have htl:=dd e.t;refine .call [3] 1 ⟨rfl,rfl,rfl⟩ (ACall.eatA (al _).symm rfl rfl (xO (l:=[b8 e.k]++bm e.t) (f:=false) (C:=C) (K:=k) (r:=e.a) (by simp) hb0 hbb (by rw[aD,List.length_singleton]; omega) ?_))
     repeat (conv=>whnf
             refine⟨rfl,?_⟩)
     conv=>whnf
     exact⟨[4],rfl,xm (X:=[b8 e.k]++bm e.t++dM e.a) (by unfold cC; rw[if_neg k6', if_neg k5', if_pos (by omega),List.append_assoc]; rfl) rfl h⟩
theorem DG {r:List Val} {j:Nat} (h:j<(r.length+7) / 8):(d6 r).take (j+1)=(d6 r).take j ++ [UInt8.ofNat (dp r j 8)]:=by
 rw[List.take_add_one];congr 1
 unfold d6;rw[List.getElem?_map,List.getElem?_range h]; rfl
theorem KP {t:Nat} (h:t<=8):2 ^ t<=256:=Nat.pow_le_pow_right (by decide) h
theorem nc {r:List Val} (hr0:r ≠ []) (hr:RwB r) (h:Q (.ms 1 0 0 (dM r).length false) [.buf (bs (dM r))]) :
 ACall Tryz.prog 128 0 [.sl 3 (ah r) false] [] Q:=by
 refine ad Tryz.func128 0 rfl (aA rfl) ?_;have hlv:=aC r;have hfew:=hr.few;have hrp:0<r.length:=List.length_pos_iff.2 hr0
 conv=>whnf
 rw[hlv];obtain⟨nb,hnb⟩:∃nb,nb=(r.length+7) / 8:=⟨_,rfl⟩;refine⟨⟨[0,3,4,5],fun mm ws H=>∃j:Nat,ws = [.sl 3 (ah r) false,.ms 1 0 0 j false,fI r.length,fI (8*j:Nat)]/\H = [.buf (bs ((d6 r).take j))]/\j<=nb/\mm=nb-j,
  .frz (nb+1) (.adopt (.sub _ _ (.cons (VSub.refl _) (.cons (VSub.ms0 1 0 0 false) (VSubs.refl _))) (HSub.refl _) (.go [0] rfl nb (by omega) ⟨0,rfl,rfl,by omega,rfl⟩))),?_⟩⟩
 rintro mm ws H ⟨j,rfl,rfl,hj,rfl⟩
 conv=>whnf
 refine ac (fun c1=>?_) (fun c1=>?_)<;>try rw[c1]<;>conv=>whnf
 focus
  have c1' := aB c1;have hjn:j<nb:=by omega
  refine⟨⟨[0,3,4,5,6,7,8],fun mm ws H=>∃t:Nat,ws = [.sl 3 (ah r) false,.ms 1 0 0 j false,fI r.length,fI (8*j:Nat),fI (dp r j t),fI (2 ^ t:Nat),fI (8*j+t:Nat)]/\H = [.buf (bs ((d6 r).take j))]/\t<=8/\8*j+t<=r.length/\mm=8-t,
   .at 8 ⟨0,rfl,rfl,by omega,by omega,rfl⟩,?_⟩⟩
  rintro mm ws H ⟨t,rfl,rfl,ht,htn,rfl⟩;have hlt:=kz r j t;have hpt:=KP ht
  conv=>whnf
  have e8:IntKind.i64.wrap (((8*j:Nat):Int)+8)=((8*(j+1):Nat):Int):=by rw[bw (by omega)]; omega
  have fin:8*j+t=r.length\/t=8->b8 ((dp r j t:Nat):Int)=UInt8.ofNat (dp r j 8):=fun hx=>by
   have:dp r j 8=dp r j t:=by
    rcases hx with hx | hx
    . exact og r j t 8 (by omega) ht
    . rw[hx]
   rw[this];unfold b8;congr 1
   omega
  have hsn:=DG (r:=r) (j:=j) (by omega)
  have htl:((d6 r).take j).length=j:=by rw[List.length_take,eP]; omega
  have htl2:((d6 r).take (j+1)).length=j+1:=by rw[List.length_take,eP]; omega
  refine ac (fun c2=>?_) (fun c2=>?_)<;>try rw[c2]<;>conv=>whnf
  rotate_left
  focus
   have c2' := aG c2;refine rL (X:=(d6 r).take j) (k:=((dp r j t:Nat):Int)) rfl rfl htl.symm (by omega) ?_
   rw[fin (by omega),<-hsn,htl2]
   conv=>whnf
   refine .go [2] rfl (nb-(j+1)) (by omega) ⟨j+1,?_,rfl,by omega,rfl⟩
   show [V.sl 3 (ah r) false,.ms 1 0 0 (j+1) false,fI r.length,.int .i64 (IntKind.i64.wrap (((8*j:Nat):Int)+8))]=_
   rw[e8]
  have c2' := aB c2;refine ac (fun c3=>?_) (fun c3=>?_)<;>try rw[c3]<;>conv=>whnf
  rotate_left
  focus
   have c3' := aG c3;rw[e8]at c3';refine rL (X:=(d6 r).take j) (k:=((dp r j t:Nat):Int)) rfl rfl htl.symm (by omega) ?_
   rw[fin (by omega),<-hsn,htl2]
   conv=>whnf
   refine .go [2] rfl (nb-(j+1)) (by omega) ⟨j+1,?_,rfl,by omega,rfl⟩
   show [V.sl 3 (ah r) false,.ms 1 0 0 (j+1) false,fI r.length,.int .i64 (IntKind.i64.wrap (((8*j:Nat):Int)+8))]=_
   rw[e8]
  have c3' := aB c3;rw[e8]at c3';have htt:t<8:=by omega
  have hg:r[8*j+t]? = some r[8*j+t]:=aS (by omega)
  have hst:dp r j (t+1)=dp r j t+(if r[8*j+t].k=0 then 2 ^ t else 0):=by
   show dp r j t+(if((r[8*j+t]?).map Val.k)=some 0 then 2 ^ t else 0)=_
   rw[hg]; simp
  have hp2:2 ^ (t+1)=2*2 ^ t:=by rw[Nat.pow_succ,Nat.mul_comm]
  have hp7:2 ^ t<=128:=Nat.pow_le_pow_right (n:=2) (by decide) (show t<=7 by omega)
  generalize r[8*j+t]=v at *
  have nx:∀x:Int,x=(dp r j (t+1):Nat) -> [V.sl 3 (ah r) false,.ms 1 0 0 j false,fI r.length,fI (8*j:Nat),.int .i64 x,.int .i64 (IntKind.i64.wrap (2*((2 ^ t:Nat):Int))),.int .i64 (IntKind.i64.wrap (((8*j+t:Nat):Int)+1))] =
   [V.sl 3 (ah r) false,.ms 1 0 0 j false,fI r.length,fI (8*j:Nat),fI (dp r j (t+1)),fI (2 ^ (t+1):Nat),fI (8*j+(t+1):Nat)]:=fun x hx=>by
   rw[bw (by omega),bw (by omega),hx,hp2,<-Nat.add_assoc]; rfl
  refine⟨_,⟨by omega,bU hg⟩,?_⟩
  conv=>whnf
  refine ac (fun c4=>?_) (fun c4=>?_)<;>try rw[c4]<;>conv=>whnf
  focus
   have c4' := aB c4;refine .go [0] rfl (8-(t+1)) (by omega) ⟨t+1,nx _ ?_,rfl,by omega,by omega,rfl⟩
   show IntKind.i64.wrap (((dp r j t:Nat):Int)+((2 ^ t:Nat):Int))=_
   rw[hst,if_pos c4', bw (by omega)]; omega
  focus
   have c4' := aG c4;refine .go [0] rfl (8-(t+1)) (by omega) ⟨t+1,nx _ ?_,rfl,by omega,by omega,rfl⟩
   rw[hst,if_neg c4']; rfl
 have c1' := aG c1;have hje:j=nb:=by omega
 subst hje;rw[List.take_of_length_le (by rw[eP]; omega)]
 have hwl:j=(d6 r).length:=by rw[eP]; exact hnb
 rw[hwl];refine⟨⟨[0,3,4,9],fun mm ws H=>∃(i:Nat) (X:List UInt8),ws = [.sl 3 (ah r) false,.ms 1 0 0 X.length false,fI r.length,fI i]/\H = [.buf (bs X)]/\X=d6 r++(r.take i).flatMap eF/\i<=r.length/\mm=r.length-i,
  .at r.length ⟨0,d6 r,rfl,rfl,by simp,by omega,rfl⟩,?_⟩⟩
 rintro mm ws H ⟨i,X,rfl,rfl,hX,hi,rfl⟩
 conv=>whnf
 refine ac (fun c1=>?_) (fun c1=>?_)<;>try rw[c1]<;>conv=>whnf
 rotate_left
 focus
  have c1' := aG c1;have hie:i=r.length:=by omega
  subst hie;rw[List.take_length]at hX;have hXr:X=dM r:=hX;subst hXr;exact⟨[0],rfl,h⟩
 have c1' := aB c1;have hlt:i<r.length:=by omega
 have hg:r[i]? = some r[i]:=aS hlt;have hvm:=List.getElem_mem hlt;have hsn:=tE hg;have hvw:=BF (r:=r.take i) (fun v hv=>hr.t v (List.mem_of_mem_take hv))
 rw[List.length_take]at hvw;have hXl:X.length<=2000000:=by
  rw[hX,aD];have:min i r.length<=64:=by omega
  omega
 have hn:=hr.n _ hvm;have htx:=hr.t _ hvm;generalize r[i]=v at *;have nx:∀Y:List UInt8,[V.sl 3 (ah r) false,.ms 1 0 0 Y.length false,fI r.length,V.int .i64 (IntKind.i64.wrap ((i:Int)+1))] = [V.sl 3 (ah r) false,.ms 1 0 0 Y.length false,fI r.length,fI ((i+1:Nat):Int)]:=fun Y=>by
  rw[bw (by omega)]; rfl
 have hXn:∀w,eF v=w->X++w=d6 r++(r.take (i+1)).flatMap eF:=fun w hw=>by rw[hsn,hX,hw,List.append_assoc]
 refine⟨_,⟨by omega,bU hg⟩,?_⟩
 conv=>whnf
 refine ac (fun k1=>?_) (fun k1=>?_)<;>try rw[k1]<;>conv=>whnf
 focus
  have k1' := aB k1;refine rL (X:=X) (k:=v.n) rfl rfl rfl (by omega) ?_
  conv=>whnf
  exact .go [3] rfl (r.length-(i+1)) (by omega) ⟨i+1,X ++ [b8 v.n],nx _,rfl,hXn _ (by unfold eF; rw[if_pos k1']),by omega,rfl⟩
 have k1' := aG k1;refine ac (fun k2=>?_) (fun k2=>?_)<;>try rw[k2]<;>conv=>whnf
 focus
  have k2' := aB k2;have hsl:=CE v.n;refine .call [] 0 ⟨rfl,rfl,rfl⟩ (tN (n:=v.n) hn ?_)
  conv=>whnf
  refine iz (X:=X) (Y:=DS v.n) rfl rfl rfl rfl rfl (by omega) ?_
  conv=>whnf
  exact .go [3] rfl (r.length-(i+1)) (by omega) ⟨i+1,X++DS v.n,nx _,rfl,hXn _ (by unfold eF; rw[if_neg k1', if_pos k2']),by omega,rfl⟩
 have k2' := aG k2;have tail:v.k=3\/v.k=4->eF v=bm v.t:=fun hk=>by unfold eF; rw[if_neg k1', if_neg k2', if_pos hk]
 have htl:=dd v.t;refine ac (fun k3=>?_) (fun k3=>?_)<;>try rw[k3]<;>conv=>whnf
 focus
  have k3' := aB k3;refine .call [] 0 ⟨rfl,rfl,rfl⟩ (dU (s:=v.t) (by omega) ?_)
  conv=>whnf
  refine iz (X:=X) (Y:=bm v.t) rfl rfl rfl rfl rfl (by omega) ?_
  conv=>whnf
  exact .go [3] rfl (r.length-(i+1)) (by omega) ⟨i+1,X++bm v.t,nx _,rfl,hXn _ (tail (.inl k3')),by omega,rfl⟩
 have k3' := aG k3;refine ac (fun k4=>?_) (fun k4=>?_)<;>try rw[k4]<;>conv=>whnf
 focus
  have k4' := aB k4;refine .call [] 0 ⟨rfl,rfl,rfl⟩ (dU (s:=v.t) (by omega) ?_)
  conv=>whnf
  refine iz (X:=X) (Y:=bm v.t) rfl rfl rfl rfl rfl (by omega) ?_
  conv=>whnf
  exact .go [3] rfl (r.length-(i+1)) (by omega) ⟨i+1,X++bm v.t,nx _,rfl,hXn _ (tail (.inr k4')),by omega,rfl⟩
 have k4' := aG k4;refine .go [0] rfl (r.length-(i+1)) (by omega) ⟨i+1,X,nx _,rfl,?_,by omega,rfl⟩
 have:=hXn [] (by unfold eF; rw[if_neg k1', if_neg k2', if_neg (by omega)])
 rw[List.append_nil]at this;exact this
theorem j4 {c:Col} (hc:c.n.length<=4096) (h:Q (.ms 1 0 0 (cX c).length false) [.buf (bs (cX c))]) :
 ACall Tryz.prog 129 0 [.agg [.str c.n,.int .i64 c.k,.bool c.o]] [] Q:=by
 refine ad Tryz.func129 0 rfl (aA rfl) ?_;have htl:=dd c.n
 conv=>whnf
 cases ho:c.o<;>conv=>whnf
 focus
  have e:cX c=bm c.n ++ [b8 c.k,0]:=by unfold cX; rw[ho]; rfl
  rw[e]at h;refine⟨[0,1,3,4,5,6,2,7,8,9],by kernel_rfl,by kernel_rfl,?_⟩
  repeat (conv=>whnf
          refine⟨rfl,?_⟩)
  conv=>whnf
  refine .call [] 0 ⟨rfl,rfl,rfl⟩ (dU (s:=c.n) (by omega) ?_)
  repeat (conv=>whnf
          refine⟨rfl,?_⟩)
  conv=>whnf
  refine oQ (X:=bm c.n) (k:=c.k) (x:=0) rfl rfl rfl rfl (by omega) ?_
  repeat (conv=>whnf
          refine⟨rfl,?_⟩)
  conv=>whnf
  exact⟨[3],rfl,h⟩
 focus
  have e:cX c=bm c.n ++ [b8 c.k,1]:=by unfold cX; rw[ho]; rfl
  rw[e]at h;refine⟨[0,1,3,4,5,6,2,7,8,9],by kernel_rfl,by kernel_rfl,?_⟩
  repeat (conv=>whnf
          refine⟨rfl,?_⟩)
  conv=>whnf
  refine .call [] 0 ⟨rfl,rfl,rfl⟩ (dU (s:=c.n) (by omega) ?_)
  repeat (conv=>whnf
          refine⟨rfl,?_⟩)
  conv=>whnf
  refine oQ (X:=bm c.n) (k:=c.k) (x:=1) rfl rfl rfl rfl (by omega) ?_
  repeat (conv=>whnf
          refine⟨rfl,?_⟩)
  conv=>whnf
  exact⟨[3],rfl,h⟩
theorem yb (Y:List UInt8):List.take Y.length (List.drop 0 (bs Y))=bs Y:=by rw[List.drop_zero,<-al Y,List.take_length]
theorem BN {i j m:Nat} {k:Int} {f:Bool} {Y:List UInt8} {H:List O} {K:V->List O->Prop} (hij:Nat.beq i j=false) (hX:ar H i = .buf [[.int .u8 (IntKind.u8.wrap k)]]) (hY:ar H j = .buf (bs Y)) (hm:m=Y.length) (hY0:Y ≠ []) (hs:Y.length<=70368744177)
 (hK:aV (H ++ [.buf (bs (b8 k::Y))]) fun H' => K (.ms 1 H.length 0 (b8 k::Y).length false) H') :
 0+m<=(bs Y).length/\dW 1 1 (.ms 1 i 0 1 true) (.ms 1 j 0 m f) (List.take m (List.drop 0 (bs Y))) H K:=by
 subst hm;refine⟨by rw[al]; omega,?_⟩
 rw[yb];unfold dW db;unfold co;simp only[show Nat.beq 1 1=true from rfl,hX]
 have e:List.take 1 (List.drop 0 [[V.int .u8 (IntKind.u8.wrap k)]])++bs Y=bs (b8 k::Y):=by
  rw[bZ]; rfl
 have hne:bs Y ≠ []:=fun e=>hY0 (List.length_eq_zero_iff.1 (by rw[<-al,e]; rfl))
 rw[e];refine⟨Nat.le_refl _,fun e=>absurd e hne,fun _=>?_⟩
 unfold bJ;rw[al];exact⟨by rw[List.length_cons]; omega,hK⟩
theorem I6 {i j:Nat} {k c:Int} {f:Bool} {H:List O} {K:V->List O->Prop} (hX:ar H i = .buf [[.int .u8 (IntKind.u8.wrap k)]])
 (hK:aV (H ++ [.buf (bs [b8 k,b8 c])]) fun H' => K (.ms 1 H.length 0 2 false) H') :
 0+1<=1/\dW 1 1 (.ms 1 i 0 1 true) (.ms 1 j 0 1 f) [[.int .u8 (IntKind.u8.wrap c)]] H K:=by
 refine⟨Nat.le_refl 1,?_⟩;unfold dW db;unfold co;simp only[show Nat.beq 1 1=true from rfl,hX]
 have e:List.take 1 (List.drop 0 [[V.int .u8 (IntKind.u8.wrap k)]]) ++ [[V.int .u8 (IntKind.u8.wrap c)]]=bs [b8 k,b8 c]:=by
  rw[bZ,bZ]; rfl
 rw[e];refine⟨Nat.le_refl _,(fun e=>nomatch e),fun _=>?_⟩
 unfold bJ;exact⟨by simp[bs],hK⟩
theorem Is (s:List UInt8):bm s ≠ []:=fun e=>by
 have h1:0<(md s.length).length:=jz 9 s.length;have:=congrArg List.length e;unfold bm at this;rw[aD,List.length_nil]at this;omega
theorem HD (n:Int):d7 n ≠ []:=fun e=>by
 have h1:0<(d7 n).length:=jz 9 n.toNat;rw[e]at h1; simp at h1
theorem oB {r:List Val} (h:RwB r):(dM r).length<=300000:=by
 have:=BF (r:=r) h.t;have:=eP r;have:=h.few;unfold dM;rw[aD]; omega
theorem jg {n:Nat} {X W:List UInt8} (hx:X=W) (hn:n=X.length) (h:Q (.sl 1 (bs W) false) []):ARet 0 Q (.ms 1 0 0 n false) [.buf (bs X)]:=by
 subst hx hn;have hle:=al X;refine .frz 0 rfl (by repeat (first | exact trivial | refine And.intro (by rw[hle,Nat.zero_add]; exact Nat.le_refl _) ?_)) (.done [] rfl ?_)
 show Q (.sl 1 (List.take X.length (List.drop 0 (bs X))) false) []
 rw[List.drop_zero,<-hle,List.take_length];exact h
theorem nf {e:Evt} {l:List Tb} (hl:TbsB l) (hn:gl e) (hm:cm e l=0) (h:Q (.sl 1 (bs (cC e)) false) []) :
 ACall Tryz.prog 86 0 [tZ e,.sl 3 (tbs l) false] [] Q:=by
 refine ACall.ret (ad Tryz.func86 0 rfl (aA rfl) ?_);have hi:=dF hm;have hrow:=A0 hl hn hm
 conv=>whnf
 refine ac (fun c1=>?_) (fun c1=>?_)<;>try rw[c1]<;>conv=>whnf
 focus
  have c1' := aB c1;refine ac (fun c2=>?_) (fun c2=>?_)<;>try rw[c2]<;>conv=>whnf
  focus
   have c2' := aB c2;obtain⟨ht,C,k,hf,h5,h3⟩:=hrow (by unfold gB; simp; omega)
   have htl:=dd e.t;have htp:=Is e.t;refine .call [] 0 ⟨rfl,rfl,rfl⟩ (dU (s:=e.t) (by omega) ?_)
   conv=>whnf
   refine BN (k:=e.k) (Y:=bm e.t) rfl rfl rfl rfl htp (by omega) ?_
   conv=>whnf
   refine ac (fun c3=>?_) (fun c3=>?_)<;>try rw[c3]<;>conv=>whnf
   focus
    have k5:=aB c3;obtain⟨_,hb0,hbb⟩:=h5 k5;refine .call [] 0 ⟨rfl,rfl,rfl⟩ (nc (r:=e.b) hb0 hbb ?_)
    conv=>whnf
    have hrl:=oB hbb;refine iz (X:=b8 e.k::bm e.t) (Y:=dM e.b) rfl rfl rfl rfl rfl (by rw[List.length_cons]; omega) ?_
    conv=>whnf
    exact⟨[5],rfl,jg (X:=b8 e.k::bm e.t++dM e.b) (by unfold cC; rw[if_neg (by omega),if_pos k5]; rfl) rfl h⟩
   focus
    have k5:=aG c3;obtain⟨hb0,hbb⟩:=h3 k5;refine .call [] 0 ⟨rfl,rfl,rfl⟩ (nc (r:=e.a) hb0 hbb ?_)
    conv=>whnf
    have hrl:=oB hbb;refine iz (X:=b8 e.k::bm e.t) (Y:=dM e.a) rfl rfl rfl rfl rfl (by rw[List.length_cons]; omega) ?_
    conv=>whnf
    exact⟨[5],rfl,jg (X:=b8 e.k::bm e.t++dM e.a) (by unfold cC; rw[if_neg (by omega),if_neg k5,if_pos (by omega)]; rfl) rfl h⟩
 all_goals
  have hnr:¬(3<=e.k/\e.k<=5):=by
   first
   | (have:=aG c1; omega)
   | (have:=aG c2; omega)
  refine ac (fun c6=>?_) (fun c6=>?_)<;>try rw[c6]<;>conv=>whnf
  focus
   have k6:¬e.k=6:=by simpa using c6
   have hnn:0<=e.n:=by
    cases hi with
    | ins k t a C K hk hf hfit=>exact Int.le_refl 0
    | del t b C K hf hfit hlen=>exact Int.le_refl 0
    | alt c hc=>exact Int.le_refl 0
    | num k n hk hn' => exact hn'
   have hnl:=ze e.n;refine .call [] 0 ⟨rfl,rfl,rfl⟩ (jh (n:=e.n) hnn hn.n.2 ?_)
   conv=>whnf
   refine BN (k:=e.k) (Y:=d7 e.n) rfl rfl rfl rfl (HD _) (by omega) ?_
   conv=>whnf
   exact⟨[3],rfl,jg (X:=b8 e.k::d7 e.n) (by unfold cC; rw[if_neg k6,if_neg (by omega),if_neg (by omega)]) rfl h⟩
  have k6:e.k=6:=by simpa using c6
  have hcb:K3 e.ch:=by
   cases hi with
   | ins k t a C K hk hf hfit=>simp only at k6; omega
   | del t b C K hf hfit hlen=>simp only at k6; omega
   | alt c hc=>exact hc.b
   | num k n hk hn=>have:=kA hk; simp only at k6; omega
  have he:cC e=b8 e.k::cS e.ch:=by unfold cC; rw[if_pos k6]
  rw[he]at h;generalize e.ch=c at *;refine I6 (k:=e.k) (c:=c.k) rfl ?_
  conv=>whnf
  have htl:=dd c.t;have hct:=hcb.t;refine .call [] 0 ⟨rfl,rfl,rfl⟩ (dU (s:=c.t) (by omega) ?_)
  conv=>whnf
  refine iz (X:=[b8 e.k,b8 c.k]) (Y:=bm c.t) rfl rfl rfl rfl rfl (by simp only[List.length_cons,List.length_nil]; omega) ?_
  obtain⟨X1,eX1⟩:∃X1,X1 = [b8 e.k,b8 c.k]++bm c.t:=⟨_,rfl⟩;have hX1:X1.length<=10000:=by rw[eX1,aD]; simp only[List.length_cons,List.length_nil]; omega
  rw[<-eX1]
  conv=>whnf
  have hR:∀w,cS c=b8 c.k::(bm c.t++w)->X1++w=b8 e.k::cS c:=fun w e' => by rw[e', eX1]; rfl
  refine ac (fun k1=>?_) (fun k1=>?_)<;>try rw[k1]<;>conv=>whnf
  focus
   have k1' := aB k1;have hcl:=aw c.c;have hfew:=hcb.few;refine oQ (X:=X1) (k:=c.ks) (x:=b8 c.c.length) rfl rfl rfl (by rw[<-bZ,<-hcl]) (by omega) ?_
   conv=>whnf
   obtain⟨X2,eX2⟩:∃X2,X2=X1 ++ [b8 c.ks,b8 c.c.length]:=⟨_,rfl⟩;have hX2:X2.length<=10002:=by rw[eX2,aD]; simp only[List.length_cons,List.length_nil]; omega
   rw[<-eX2];refine⟨⟨[5,7,8],fun mm ws H=>∃(i:Nat) (X:List UInt8),ws = [.ms 1 0 0 X.length false,.ptr 1 0,fI i]/\H = [.buf (bs X),.cells (Kv c)]/\X=X2++(c.c.take i).flatMap cX/\i<=c.c.length/\mm=c.c.length-i,
    .frz (c.c.length+1) (.go [8,2] rfl c.c.length (by omega) ⟨0,X2,rfl,rfl,by simp,by omega,rfl⟩),?_⟩⟩
   rintro mm ws H ⟨i,X,rfl,rfl,hX,hi,rfl⟩
   conv=>whnf
   rw[hcl];refine ac (fun c1=>?_) (fun c1=>?_)<;>try rw[c1]<;>conv=>whnf
   rotate_left
   focus
    have c1' := aG c1;have hie:i=c.c.length:=by omega
    subst hie;rw[List.take_length]at hX;have e' : X=b8 e.k::cS c:=by
     rw[hX,eX2,List.append_assoc];exact hR _ (by unfold cS; rw[if_pos k1']; rfl)
    exact⟨[0],rfl,jg (X:=X) e' rfl h⟩
   have c1' := aB c1;have hlt:i<c.c.length:=by omega
   have hg:c.c[i]? = some c.c[i]:=aS hlt;have hxm:=List.getElem_mem hlt;have hsn:=rZ hg;have hvw:=AM (l:=c.c.take i) (fun v hv=>hcb.names v (List.mem_of_mem_take hv))
   rw[List.length_take]at hvw;have hXl:X.length<=1000000:=by
    rw[hX,aD];have:min i c.c.length<=64:=by omega
    omega
   have hxn:=hcb.names _ hxm;generalize c.c[i]=x at *;refine⟨_,⟨by omega,bj hg⟩,?_⟩
   conv=>whnf
   refine .call [] 0 ⟨rfl,rfl,rfl⟩ (j4 (c:=x) hxn ?_)
   conv=>whnf
   have hcw:=nF hxn;refine iz (X:=X) (Y:=cX x) rfl rfl rfl rfl rfl (by omega) ?_
   conv=>whnf
   refine .go [3,1] rfl (c.c.length-(i+1)) (by omega) ⟨i+1,X++cX x,?_,rfl,by rw[hsn,hX,List.append_assoc],by omega,rfl⟩
   show [V.ms 1 0 0 (X++cX x).length false,.ptr 1 0,V.int .i64 (IntKind.i64.wrap ((i:Int)+1))]=_
   rw[bw (by omega)]; rfl
  have k1' := aG k1;have hcw:=nF hcb.col;refine ac (fun k3=>?_) (fun k3=>?_)<;>try rw[k3]<;>conv=>whnf
  focus
   have k3' := aB k3;refine .call [] 0 ⟨rfl,rfl,rfl⟩ (j4 (c:=c.col) hcb.col ?_)
   conv=>whnf
   refine iz (X:=X1) (Y:=cX c.col) rfl rfl rfl rfl rfl (by omega) ?_
   conv=>whnf
   exact⟨[8],rfl,jg (X:=X1++cX c.col) (hR _ (by unfold cS; rw[if_neg k1', if_pos (.inl k3')])) rfl h⟩
  have k3' := aG k3;refine ac (fun k5=>?_) (fun k5=>?_)<;>try rw[k5]<;>conv=>whnf
  focus
   have k5' := aB k5;refine .call [] 0 ⟨rfl,rfl,rfl⟩ (j4 (c:=c.col) hcb.col ?_)
   conv=>whnf
   refine iz (X:=X1) (Y:=cX c.col) rfl rfl rfl rfl rfl (by omega) ?_
   conv=>whnf
   exact⟨[8],rfl,jg (X:=X1++cX c.col) (hR _ (by unfold cS; rw[if_neg k1', if_pos (.inr k5')])) rfl h⟩
  have k5' := aG k5;refine ac (fun k4=>?_) (fun k4=>?_)<;>try rw[k4]<;>conv=>whnf
  focus
   have k4' := aB k4;have hcc:=hcb.col;have htl2:=dd c.col.n;refine .call [] 0 ⟨rfl,rfl,rfl⟩ (dU (s:=c.col.n) (by omega) ?_)
   conv=>whnf
   refine iz (X:=X1) (Y:=bm c.col.n) rfl rfl rfl rfl rfl (by omega) ?_
   conv=>whnf
   exact⟨[8],rfl,jg (X:=X1++bm c.col.n) (hR _ (by unfold cS; rw[if_neg k1', if_neg (by omega),if_pos k4'])) rfl h⟩
  have k4' := aG k4;have e' := hR [] (by unfold cS; rw[if_neg k1', if_neg (by omega),if_neg k4'])
  rw[List.append_nil]at e';exact⟨[6],rfl,jg (X:=X1) e' rfl h⟩
theorem vA {s:List UInt8} {f:Bool} {e:Int} (h:Q (.int .i64 (mh s e).1) [ug (mh s e).2.1 f (mh s e).2.2]):ACall Tryz.prog 178 1 [.ptr 0 0] [ug s f e] Q:=by
 refine ad Tryz.func178 1 rfl (aA rfl) ?_
 conv=>whnf
 have hl:=al s;unfold mh at h;by_cases he:e=0
 rotate_left
 focus
  rw[if_neg he]at h;rw[show decide (e=0)=false from decide_eq_false he]
  conv=>whnf
  exact⟨[0],rfl,h⟩
 subst he;rw[if_pos rfl]at h
 conv=>whnf
 refine .pure (ru (fun k h0 hk hd hk10=>⟨rfl,?_⟩) (fun h1=>⟨rfl,?_⟩))
 . conv=>whnf
   have hn:=i8 s;have hb:=wh h0;unfold Bt at h;rw[if_pos h0]at h;refine⟨⟨by omega,by omega⟩,?_⟩
   conv=>whnf
   refine⟨by decide,?_⟩
   rw[hd,<-mL]at h;have hm:(dL s).1.tmod 2=(dL s).1 % 2:=Int.tmod_eq_emod_of_nonneg hn;have hdv:(dL s).1.tdiv 2=(dL s).1 / 2:=Int.tdiv_eq_ediv_of_nonneg hn;unfold IV at h;generalize (dL s).1=d at *;rw[hm]
   conv=>whnf
   refine ac (fun c1=>?_) (fun c1=>?_)<;>try rw[c1]<;>conv=>whnf
   . have c1' := aB c1;rw[if_pos c1']at h;refine⟨by decide,?_⟩
     rw[hdv]
     conv=>whnf
     rw[show IntKind.i64.wrap (IntKind.u64.wrap (d / 2))=d / 2 by rw[aN,bw (by omega)]; omega]
     exact⟨[0],rfl,h⟩
   . have c1' := aG c1;rw[if_neg c1']at h;refine⟨by decide,?_⟩
     rw[hdv]
     conv=>whnf
     rw[show IntKind.i64.wrap (IntKind.i64.wrap (0-IntKind.i64.wrap (IntKind.u64.wrap (d / 2)))-1) = -(d / 2)-1 by rw[aN,bw (n:=d / 2 % 18446744073709551616) (by omega),bw (n:=0-d / 2 % 18446744073709551616) (by omega),bw (by omega)]; omega]
     exact⟨[0],rfl,h⟩
 . conv=>whnf
   unfold Bt at h;rw[if_neg h1]at h;rw[show decide ((dL s).2.2=0)=false from decide_eq_false h1]
   conv=>whnf
   exact⟨[0],rfl,h⟩
theorem FM {k j q:Nat} (s:List UInt8) (e:Int) (h:j<=k) (hq:q<j):(ek j s e).1.getD q 0=(ek k s e).1.getD q 0:=by
 rw[<-zn k j s e h,List.getD_eq_getElem?_getD,List.getD_eq_getElem?_getD,List.getElem?_take_of_lt hq]
theorem FN (j:Nat) (s:List UInt8) (e:Int):(ek (j+1) s e).1.getD j 0=(aX (ek j s e).2.1 (ek j s e).2.2).1.toNat:=by
 simp only[ek];rw[List.getD_eq_getElem?_getD,List.getElem?_append_right (by rw[ou]; exact Nat.le_refl _),ou]
 simp
theorem BO {i j n:Nat} {f:Bool} {X:List Val} {w:Val} {H:List O} {K:V->List O->Prop} (hij:Nat.beq i j=false) (hX:ar H i = .buf (ah X)) (hn:n=X.length) (hs:X.length<=1000000)
 (hK:aV (bX H i .dead ++ [.buf (ah (X ++ [w]))]) fun H' => K (.ms 3 (bX H i .dead).length 0 (X ++ [w]).length false) H') :
 0+1<=1/\dW 3 32 (.ms 3 i 0 n false) (.ms 3 j 0 1 f) [cP w] H K:=by
 subst hn;refine⟨Nat.le_refl 1,?_⟩;have hlk:=aC X;unfold dW db;simp only[hij];unfold co;simp only[show Nat.beq 3 3=true from rfl,hX,List.drop_zero]
 refine⟨by rw[hlk]; rfl,?_⟩
 rw[show ah X ++ [cP w]=ah (X ++ [w]) by simp[ah]]
 unfold bJ;rw[aC];exact⟨by rw[aD,List.length_singleton]; omega,hK⟩
end
section
structure RC where
 n:List UInt8
 k:Int
 o:Int
 s:List UInt8
 e:Int
def rC (most:Int) (s:List UInt8) (e:Int):RC :=
 ⟨(bi most s e).1,(aX (bi most s e).2.1 (bi most s e).2.2).1,(aX (aX (bi most s e).2.1 (bi most s e).2.2).2.1 (aX (bi most s e).2.1 (bi most s e).2.2).2.2).1,
   (aX (aX (bi most s e).2.1 (bi most s e).2.2).2.1 (aX (bi most s e).2.1 (bi most s e).2.2).2.2).2.1,(aX (aX (bi most s e).2.1 (bi most s e).2.2).2.1 (aX (bi most s e).2.1 (bi most s e).2.2).2.2).2.2⟩
def RC.c (r:RC):Col:=⟨r.n,r.k,decide (r.o=1)⟩
def RC.g (r:RC):Col:=⟨r.n,r.k,!decide (r.o=0)⟩
theorem IM {most:Int} {s:List UInt8} {e:Int} (h:(rC most s e).e=0) (ho:(rC most s e).o<=1) :
 e=0/\s=cX (rC most s e).c++(rC most s e).s:=by
 unfold rC at h ho ⊢;unfold RC.c;simp only at h ho ⊢;rcases hx:bi most s e with⟨t,s1,e1⟩
 rw[hx]at h ho;simp only at h ho ⊢;rcases hy:aX s1 e1 with⟨k,s2,e2⟩
 rw[hy]at h ho;simp only at h ho ⊢;rcases hz:aX s2 e2 with⟨o,s3,e3⟩
 rw[hz]at h ho;simp only at h ho ⊢;subst h;obtain⟨rfl,bo,rfl,rfl⟩:=ow hz;obtain⟨rfl,bk,rfl,rfl⟩:=ow hy;obtain⟨rfl,_,rfl⟩:=qX hx;refine⟨rfl,?_⟩;unfold cX;simp only[rQ];have hb:bo.toNat=0\/bo.toNat=1:=by omega
 rcases hb with hb | hb
 . have:bo=0:=UInt8.toNat_inj.1 hb;subst this;simp
 . have:bo=1:=UInt8.toNat_inj.1 hb;subst this;simp
theorem H5 {most:Int} {c:Col} (hm:(c.n.length:Int)<=most) (hl:c.n.length<=1000000) (hk:0<=c.k/\c.k<256) (r:List UInt8) :
 rC most (cX c++r) 0=⟨c.n,c.k,if c.o then 1 else 0,r,0⟩:=by
 unfold rC cX;rw[List.append_assoc,gL hm (by omega)]
 simp only[List.cons_append,List.nil_append,wW];rw[AF hk];cases c.o<;>rfl
theorem RC.c_eq {c:Col} {r:List UInt8}:(RC.c ⟨c.n,c.k,if c.o then 1 else 0,r,0⟩)=c:=by
 obtain⟨n,k,o⟩:=c;cases o<;>rfl
theorem RC.g_eq {c:Col} {r:List UInt8}:(RC.g ⟨c.n,c.k,if c.o then 1 else 0,r,0⟩)=c:=by
 obtain⟨n,k,o⟩:=c;cases o<;>rfl
def qf:Nat->List Col->List UInt8->Int->Option (List Col × List UInt8 × Int)
 | 0,acc,s,e=>some (acc,s,e)
 | m+1,acc,s,e=>if 1<(rC 32 s e).o\/(rC 32 s e).e≠0 then none else qf m (acc ++ [(rC 32 s e).c]) (rC 32 s e).s (rC 32 s e).e
def kP:Nat->List Col->List UInt8->Int->List Col
 | 0,acc,_,_=>acc
 | m+1,acc,s,e=>if e=0 then kP m (acc ++ [(rC 4096 s e).g]) (rC 4096 s e).s (rC 4096 s e).e else acc
theorem FA:∀(m:Nat) (acc:List Col) (s:List UInt8) (e:Int) (cs:List Col) (r:List UInt8) (e' : Int),qf m acc s e=some (cs,r,e')->e'=0->e=0 /\ ∃l:List Col,l.length=m/\cs=acc++l/\s=l.flatMap cX++r:=by
 intro m;induction m with
 | zero=>intro acc s e cs r e' h h0; simp only[qf,Option.some.injEq,Prod.mk.injEq]at h; obtain⟨rfl,rfl,rfl⟩:=h; exact⟨h0,[],rfl,by simp,by simp⟩
 | succ m ih =>
  intro acc s e cs r e' h h0;simp only[qf]at h;split at h
  . cases h
  rename_i hc;rw[not_or]at hc;obtain⟨_,l,hl,rfl,hs⟩:=ih _ _ _ _ _ _ h h0;obtain⟨he,hs2⟩:=IM (most:=32) (s:=s) (e:=e) (by omega) (by omega)
  exact⟨he,(rC 32 s e).c::l,by simp[hl],by simp,by rw[List.flatMap_cons,List.append_assoc,<-hs]; exact hs2⟩
theorem Cq:∀(l:List Col) (acc:List Col) (r:List UInt8),(∀c∈l,c.n.length<=32/\0<=c.k/\c.k<256)->qf l.length acc (l.flatMap cX++r) 0=some (acc++l,r,0)
 | [],acc,r,_=>by simp[qf]
 | c::l,acc,r,h=>by
  have hc:=h c (by simp)
  simp only[List.length_cons,qf];rw[List.flatMap_cons,List.append_assoc,H5 (by omega) (by omega) hc.2]
  simp only[RC.c_eq];rw[if_neg (by cases c.o<;>simp),Cq l (acc ++ [c]) r (fun x hx=>h x (by simp[hx]))]
  simp
theorem Ch:∀(l:List Col) (acc:List Col) (r:List UInt8),(∀c∈l,c.n.length<=32/\0<=c.k/\c.k<256)->kP l.length acc (l.flatMap cX++r) 0=acc++l
 | [],acc,r,_=>by simp[kP]
 | c::l,acc,r,h=>by
  have hc:=h c (by simp)
  simp only[List.length_cons,kP,if_true];rw[List.flatMap_cons,List.append_assoc,H5 (by omega) (by omega) hc.2]
  simp only[RC.g_eq];rw[Ch l (acc ++ [c]) r (fun x hx=>h x (by simp[hx]))]
  simp
def sB (s:List UInt8) (e:Int):List UInt8 × Int:=(aX s e).2
def sT (m:Int) (s:List UInt8) (e:Int):List UInt8 × Int:=(bi m s e).2
def qg (k:Int) (t:List UInt8) (s:List UInt8) (e:Int):Option (Chg × List UInt8 × Int) :=
 if k=1 then
  match qf (aX (sB s e).1 (sB s e).2).1.toNat [] (sB (sB s e).1 (sB s e).2).1 (sB (sB s e).1 (sB s e).2).2 with
  | some (cs,st)=>some (⟨k,t,cs,(aX s e).1,gG⟩,st)
  | none=>none
 else if k=3\/k=5 then(if(rC 32 s e).o<=1 then some (⟨k,t,[],0,(rC 32 s e).c⟩,(rC 32 s e).s,(rC 32 s e).e)else none)
 else if k=4 then some (⟨k,t,[],0,⟨(bi 32 s e).1,0,false⟩⟩,sT 32 s e)
 else some (⟨k,t,[],0,gG⟩,s,e)
def HJ (s:List UInt8) (e:Int):Option (Chg × List UInt8 × Int) :=
 qg (aX s e).1 (bi 32 (sB s e).1 (sB s e).2).1 (sT 32 (sB s e).1 (sB s e).2).1 (sT 32 (sB s e).1 (sB s e).2).2
def nR (m:Int) (k:Int) (t:List UInt8) (s:List UInt8) (e:Int):Chg :=
 if k=1 then⟨k,t,kP (aX (sB s e).1 (sB s e).2).1.toNat [] (sB (sB s e).1 (sB s e).2).1 (sB (sB s e).1 (sB s e).2).2,(aX s e).1,gG⟩
 else if k=3\/k=5 then⟨k,t,[],0,(rC 4096 s e).g⟩
 else if k=4 then⟨k,t,[],0,⟨(bi m s e).1,0,false⟩⟩
 else⟨k,t,[],0,gG⟩
def Hk (m:Int) (s:List UInt8) (e:Int):Chg :=
 nR m (aX s e).1 (bi m (sB s e).1 (sB s e).2).1 (sT m (sB s e).1 (sB s e).2).1 (sT m (sB s e).1 (sB s e).2).2
def HL (l:List Tb) (s:List UInt8) (e:Int):Option (List UInt8 × List Val × List UInt8 × Int) :=
 match cf l (bi s.length s e).1 with
 | none=>none
 | some (C,_)=>match kF C (sT s.length s e).1 (sT s.length s e).2 with
  | none=>none
  | some vs=>some ((bi s.length s e).1,vs,oy C (sT s.length s e).1 (sT s.length s e).2)
def HK (l:List Tb) (s:List UInt8) (e:Int):Option (List UInt8 × List Val × List UInt8 × Int) :=
 match cf l (bi s.length s e).1 with
 | none=>none
 | some (C,K)=>match kF (C.take K.toNat) (sT s.length s e).1 (sT s.length s e).2 with
  | none=>none
  | some vs=>some ((bi s.length s e).1,vs,oy (C.take K.toNat) (sT s.length s e).1 (sT s.length s e).2)
def DI (k:Int) (l:List Tb) (s:List UInt8) (e:Int):Option (Evt × List UInt8 × Int) :=
 if k=3\/k=4 then(match HL l s e with | some (t,vs,st)=>some (⟨k,0,t,[],vs,br⟩,st) | none=>none)
 else if k=5 then(match HK l s e with | some (t,vs,st)=>some (⟨k,0,t,vs,[],br⟩,st) | none=>none)
 else if k=6 then(match HJ s e with | some (c,st)=>some (⟨k,0,[],[],[],c⟩,st) | none=>none)
 else if mg k then some (⟨k,(iN s e).1,[],[],[],br⟩,(iN s e).2)
 else none
def sY (k:Int) (l:List Tb) (s:List UInt8) (e:Int):Bool:=gB k&&((cf l (bi s.length s e).1).isNone&&decide ((sT s.length s e).2=0))
def HQ (b:List UInt8) (l:List Tb):Option Evt:=match DI (aX b 0).1 l (sB b 0).1 (sB b 0).2 with
 | some (ev,s,e)=>if Hb s e=0 then some ev else none
 | none=>none
def Dr (m:Int) (k:Int) (l:List Tb) (s:List UInt8) (e:Int):Evt × Bool :=
 if k=3\/k=4\/k=5 then
  match cf l (bi m s e).1 with
  | none=>(⟨k,0,(bi m s e).1,[],[],br⟩,decide ((sT m s e).2=0))
  | some (C,K)=>if k=5 then(⟨k,0,(bi m s e).1,(kF (C.take K.toNat) (sT m s e).1 (sT m s e).2).getD [],[],br⟩,false)
   else(⟨k,0,(bi m s e).1,[],(kF C (sT m s e).1 (sT m s e).2).getD [],br⟩,false)
 else if k=6 then(⟨k,0,[],[],[],Hk m s e⟩,false)
 else(⟨k,(iN s e).1,[],[],[],br⟩,false)
def yN (b:List UInt8) (l:List Tb):Evt × Bool:=Dr b.length (aX b 0).1 l (sB b 0).1 (sB b 0).2
theorem CB {s:List UInt8} {e:Int} (h:(sB s e).2=0):e=0/\s=b8 (aX s e).1::(sB s e).1/\0<=(aX s e).1/\(aX s e).1<256:=by
 unfold sB at h ⊢;rcases hq:aX s e with⟨x,q,y⟩
 rw[hq]at h;simp only at h ⊢;subst h;obtain⟨rfl,b,rfl,rfl⟩:=ow hq;have:=b.toNat_lt;exact⟨rfl,by rw[rQ],by omega,by omega⟩
theorem CC {m:Int} {s:List UInt8} {e:Int} (h:(sT m s e).2=0):e=0/\s=bm (bi m s e).1++(sT m s e).1:=by
 unfold sT at h ⊢;rcases hq:bi m s e with⟨x,q,y⟩
 rw[hq]at h;simp only at h ⊢;subst h;obtain⟨rfl,_,rfl⟩:=qX hq;exact⟨rfl,rfl⟩
theorem FB {k:Int} {t s:List UInt8} {e:Int} {c:Chg} {r:List UInt8} {e' : Int} (h:qg k t s e=some (c,r,e')) (h0:e'=0) (hc:ChgI c) :
 e=0/\c.k=k/\c.t=t/\b8 c.k::(bm c.t++s)=cS c++r:=by
 unfold qg at h;split at h
 . rename_i h1;split at h
   . rename_i cs st hp;cases h;obtain⟨hz,l,hl,hcs,hs⟩:=FA _ _ _ _ _ _ _ hp h0;rw[List.nil_append]at hcs;subst hcs;obtain⟨hz2,hs2,hb2⟩:=CB hz;obtain⟨hz3,hs3,hb3⟩:=CB hz2;refine⟨hz3,rfl,rfl,?_⟩;have e2:(aX (sB s e).1 (sB s e).2).1=(cs.length:Int):=by rw[hl]; omega
     rw[e2]at hs2;unfold cS;simp only;rw[if_pos h1]
     conv=>lhs; rw[hs3,hs2,hs]
     simp
   . cases h
 split at h
 . rename_i h1 h35;split at h
   . rename_i ho;cases h;obtain⟨hz,hs⟩:=IM (most:=32) h0 ho;refine⟨hz,rfl,rfl,?_⟩;unfold cS;simp only;rw[if_neg h1,if_pos h35]
     conv=>lhs; rw[hs]
     simp
   . cases h
 split at h
 . rename_i h1 h35 h4;simp only[Option.some.injEq,Prod.mk.injEq]at h;obtain⟨rfl,hst⟩:=h;have hr1:(sT 32 s e).1=r:=by rw[hst]
   obtain⟨hz,hs⟩:=CC (m:=32) (s:=s) (e:=e) (by rw[hst]; exact h0)
   rw[hr1]at hs;refine⟨hz,rfl,rfl,?_⟩;unfold cS;simp only;rw[if_neg h1,if_neg h35,if_pos h4]
   conv=>lhs; rw[hs]
   simp
 . rename_i h1 h35 h4;cases h;refine⟨h0,rfl,rfl,?_⟩;unfold cS;simp only;rw[if_neg h1,if_neg h35,if_neg h4];simp
theorem JJ {k:Int} {l:List Tb} {s r:List UInt8} {e e' : Int} {ev:Evt} (hl:TbsB l) (h:DI k l s e=some (ev,r,e')) (h0:e'=0) (hm:MayI l ev) :
 e=0/\ev.k=k/\b8 k::s=cC ev++r:=by
 unfold DI at h;split at h
 . rename_i hk;split at h
   . rename_i t vs st hp;cases h;unfold HL at hp;split at hp
     . cases hp
     rename_i C K hf;split at hp
     . cases hp
     rename_i vs' hr;simp only[Option.some.injEq,Prod.mk.injEq]at hp;obtain⟨rfl,rfl,hst⟩:=hp;have hr1:(oy C (sT s.length s e).1 (sT s.length s e).2).1=r:=by rw[hst]
     obtain⟨hmS,hC,kk,rfl,hkk⟩:=hl.found hf;have hbd:=dt hmS;obtain⟨hz,hs,hz2,hfit⟩:=Cx (fun c hc=>(lx hmS c hc).2) (fun e=>by rw[e]at hkk; simp at hkk; omega) hr
     rw[hr1]at hs;obtain⟨hz3,hs3⟩:=CC hz;refine⟨hz3,rfl,?_⟩;unfold cC;simp only;rw[if_neg (by omega),if_neg (by omega),if_pos hk]
     conv=>lhs; rw[hs3,hs]
     simp
   . cases h
 split at h
 . rename_i hk h5;split at h
   . rename_i t vs st hp;cases h;unfold HK at hp;split at hp
     . cases hp
     rename_i C K hf;split at hp
     . cases hp
     rename_i vs' hr;simp only[Option.some.injEq,Prod.mk.injEq]at hp;obtain⟨rfl,rfl,hst⟩:=hp;have hr1:(oy (C.take K.toNat) (sT s.length s e).1 (sT s.length s e).2).1=r:=by rw[hst]
     obtain⟨hmS,hC,kk,rfl,hkk⟩:=hl.found hf;have hbd:=dt hmS;obtain⟨hz,hs,hz2,hfit⟩:=Cx (fun c hc=>(lx hmS c (List.mem_of_mem_take hc)).2) (fun e=>by have:=congrArg List.length e; rw[List.length_take,List.length_nil]at this; omega) hr
     rw[hr1]at hs;obtain⟨hz3,hs3⟩:=CC hz;refine⟨hz3,rfl,?_⟩;unfold cC;simp only;rw[if_neg (by omega),if_pos h5]
     conv=>lhs; rw[hs3,hs]
     simp
   . cases h
 split at h
 . rename_i hk h5 h6;split at h
   . rename_i c st hp;cases h;have hci:ChgI c:=by
      have h:=hm.e;unfold cm at h;simp only at h;rw[if_neg (by rw[h6]; decide),if_pos h6]at h
      split at h
      . omega
      . rename_i hz; exact yc (by omega)
     unfold HJ at hp;obtain⟨hz,hk1,ht1,hw⟩:=FB hp h0 hci;obtain⟨hz2,hs2⟩:=CC hz;obtain⟨hz3,hs3,hb3⟩:=CB hz2;refine⟨hz3,rfl,?_⟩;unfold cC;simp only;rw[if_pos h6,List.cons_append,<-hw,hk1,ht1]
     conv=>lhs; rw[hs3,hs2]
   . cases h
 split at h
 . rename_i hk h5 h6 hn;simp only[Option.some.injEq,Prod.mk.injEq]at h;obtain⟨rfl,hst⟩:=h;rcases hq:iN s e with⟨x,q,y⟩
   rw[hq]at hst;simp only[Prod.mk.injEq]at hst;obtain⟨rfl,rfl⟩:=hst;subst h0;obtain⟨rfl,_,_,rfl⟩:=H6 hq;refine⟨rfl,rfl,?_⟩;unfold cC;simp only;rw[if_neg h6,if_neg h5,if_neg hk];simp
 . cases h
theorem JL {b:List UInt8} {l:List Tb} {ev:Evt} (hl:TbsB l) (h:HQ b l=some ev) (hm:MayI l ev):cC ev=b:=by
 unfold HQ at h;split at h
 . rename_i ev' s e hp;split at h
   . rename_i he;cases h;unfold Hb at he;have h0:e=0/\s = []:=by
      split at he
      . omega
      . rename_i hx;refine⟨he,?_⟩;exact Classical.byContradiction fun hs=>hx ⟨he,hs⟩
     obtain⟨hz,hk,hw⟩:=JJ hl hp h0.1 hm;obtain⟨_,hs,_⟩:=CB hz;rw[hs,hw,h0.2,List.append_nil]
   . cases h
 . cases h
theorem mZ {k:Int} (hk:0<=k/\k<256) (s:List UInt8):aX (b8 k::s) 0=(k,s,0):=by
 rw[wW,AF hk]
theorem oD {k:Int} (hk:0<=k/\k<256) (s:List UInt8):sB (b8 k::s) 0=(s,0):=by unfold sB; rw[mZ hk]
theorem F3 {m:Int} {t:List UInt8} (hm:(t.length:Int)<=m) (hl:t.length<=1000000) (s:List UInt8):sT m (bm t++s) 0=(s,0):=by unfold sT; rw[gL hm (by omega)]
theorem yV {C:List Col} {k:Nat} {b:List Val} (hk:k<=C.length) (h:aP C k b=true) (hb:b.length=k):bB (C.take k) b=true:=by
 refine sq (by rw[List.length_take]; omega) fun i c v hc hv=>?_
 have hi:i<k:=by have:=(liZ.1 hv).1; omega
 rw[List.getElem?_take_of_lt hi]at hc;unfold aP at h;rw[Bool.and_eq_true,List.all_eq_true]at h;have:=h.2 i (List.mem_range.2 hi);rw[io hc hv]at this;exact this
theorem f6 (t s:List UInt8):t.length<=(bm t++s).length:=by
 unfold bm;rw[aD,aD]; omega
theorem HM {c:Chg} (h:ChgI c) (s:List UInt8) (hs:cS c=b8 c.k::(bm c.t++s)):qg c.k c.t s 0=some (c,[],0):=by
 cases h with
 | cre t cc ks h1 h2 =>
  have hb:=dt h2;unfold cS at hs;simp only[if_true]at hs;have hs' : s=b8 ks::b8 cc.length::(cc.flatMap cX ++ []):=by
   rw[List.append_nil];exact(List.append_cancel_left (List.cons.inj hs).2).symm
  unfold qg;simp only[if_true];rw[hs', mZ (by omega),oD (by omega)]
  simp only;rw[mZ (by omega),oD (by omega)]
  simp only[Int.toNat_natCast];rw[Cq cc [] [] (fun c hc=>by have:=lx h2 c hc; exact⟨aL this.1,by omega,by omega⟩)]
  rfl
 | drop t h1 =>
  unfold cS at hs;simp only at hs;have hs' : s = []:=(List.append_cancel_left (List.cons.inj hs).2).symm;subst hs';unfold qg;rfl
 | add k t col h1 hk h2 =>
  unfold tW KJ at h2;simp only[Bool.and_eq_true,decide_eq_true_eq]at h2;have hn:=aL h2.1;unfold cS at hs;simp only at hs;rw[if_neg (by omega),if_pos hk]at hs
  have hs' : s=cX col ++ []:=by rw[List.append_nil]; exact(List.append_cancel_left (List.cons.inj hs).2).symm
  unfold qg;simp only;rw[if_neg (by omega),if_pos hk,hs', H5 (by omega) (by omega) (by omega)]
  simp only[RC.c_eq];rw[if_pos (by cases col.o<;>simp)]
 | cut t n h1 h2 =>
  have hn:=aL h2;unfold cS at hs;simp only at hs;rw[if_neg (by omega),if_neg (by omega),if_pos trivial]at hs
  have hs' : s=bm n ++ []:=by rw[List.append_nil]; exact(List.append_cancel_left (List.cons.inj hs).2).symm
  unfold qg;simp only;rw[if_neg (by omega),if_neg (by omega),if_pos trivial,hs', gL (by omega) (by omega),F3 (by omega) (by omega)]
theorem Hl {c:Chg} (h:ChgI c) (s:List UInt8) (m:Int) (hm:(s.length:Int)<=m) (hs:cS c=b8 c.k::(bm c.t++s)):nR m c.k c.t s 0=c:=by
 cases h with
 | cre t cc ks h1 h2 =>
  have hb:=dt h2;unfold cS at hs;simp only[if_true]at hs;have hs' : s=b8 ks::b8 cc.length::(cc.flatMap cX ++ []):=by
   rw[List.append_nil];exact(List.append_cancel_left (List.cons.inj hs).2).symm
  unfold nR;simp only[if_true];rw[hs', mZ (by omega),oD (by omega)]
  simp only;rw[mZ (by omega),oD (by omega)]
  simp only[Int.toNat_natCast];rw[Ch cc [] [] (fun c hc=>by have:=lx h2 c hc; exact⟨aL this.1,by omega,by omega⟩)]
  rfl
 | drop t h1 =>
  unfold nR;rfl
 | add k t col h1 hk h2 =>
  unfold tW KJ at h2;simp only[Bool.and_eq_true,decide_eq_true_eq]at h2;have hn:=aL h2.1;unfold cS at hs;simp only at hs;rw[if_neg (by omega),if_pos hk]at hs
  have hs' : s=cX col ++ []:=by rw[List.append_nil]; exact(List.append_cancel_left (List.cons.inj hs).2).symm
  unfold nR;simp only;rw[if_neg (by omega),if_pos hk,hs', H5 (by omega) (by omega) (by omega)]
  simp only[RC.g_eq]
 | cut t n h1 h2 =>
  have hn:=aL h2;unfold cS at hs;simp only at hs;rw[if_neg (by omega),if_neg (by omega),if_pos trivial]at hs
  have hs' : s=bm n ++ []:=by rw[List.append_nil]; exact(List.append_cancel_left (List.cons.inj hs).2).symm
  have hnl:=f6 n [];rw[<-hs']at hnl;unfold nR;simp only;rw[if_neg (by omega),if_neg (by omega),if_pos trivial,hs', gL (by omega) (by omega)]
theorem ChgI.w {c:Chg} (h:ChgI c):(0<=c.k/\c.k<256)/\c.t.length<=32 /\ ∃s,cS c=b8 c.k::(bm c.t++s):=by
 refine⟨?_,?_,⟨_,rfl⟩⟩
 . cases h with
   | cre t cc ks h1 h2=>exact⟨by simp,by simp⟩
   | drop t h1=>exact⟨by simp,by simp⟩
   | add k t col h1 hk h2=>exact⟨by simp only; omega,by simp only; omega⟩
   | cut t n h1 h2=>exact⟨by simp,by simp⟩
 . cases h with
   | cre t cc ks h1 h2=>exact aL h1
   | drop t h1=>exact aL h1
   | add k t col h1 hk h2=>exact aL h1
   | cut t n h1 h2=>exact aL h1
theorem JI {c:Chg} (h:ChgI c):HJ (cS c) 0=some (c,[],0):=by
 obtain⟨hk,ht,s,hs⟩:=h.w;unfold HJ;rw[hs,mZ hk,oD hk];simp only;rw[gL (by omega) (by omega),F3 (by omega) (by omega)]
 exact HM h s hs
theorem Ju {c:Chg} (h:ChgI c) (m:Int) (hm:((cS c).length:Int)<=m):Hk m (cS c) 0=c:=by
 obtain⟨hk,ht,s,hs⟩:=h.w;have hl:s.length<=(cS c).length/\c.t.length<=(cS c).length:=by
  have:=f6 c.t s;rw[hs,List.length_cons];refine⟨?_,by omega⟩
  rw[aD]; omega
 unfold Hk;rw[hs,mZ hk,oD hk];simp only;rw[gL (by omega) (by omega),F3 (by omega) (by omega)]
 exact Hl h s m (by omega) hs
theorem nN:Hb [] 0=0:=by unfold Hb; simp
theorem IK {ev:Evt} {l:List Tb} (hl:TbsB l) (h:MayI l ev) (hn:gl ev):HQ (cC ev) l=some ev:=by
 obtain⟨en,eb,ea⟩:=hn;unfold HQ;cases h with
 | ins k t a C K hk hf hfit =>
  obtain⟨hm,hC,kk,rfl,hkk⟩:=hl.found hf;have hbd:=dt hm;have hlen:=dq hfit;have ht:=aL (eX hl hf);have hw:cC ⟨k,0,t,[],a,br⟩=b8 k::(bm t++dM a):=by unfold cC; simp only; rw[if_neg (by omega),if_neg (by omega),if_pos hk]
  have hr:=wX hfit (fun e=>by rw[e]at hlen; simp at hlen; omega) ea []
  rw[List.append_nil]at hr;have htl:=f6 t (dM a);have hp:DI k l (bm t++dM a) 0=some (⟨k,0,t,[],a,br⟩,[],0):=by
   unfold DI;rw[if_pos hk];unfold HL;rw[gL (by omega) (by omega),F3 (by omega) (by omega)]
   simp only[hf,hr.1,hr.2]
  rw[hw,mZ (by omega),oD (by omega),hp]
  simp only[nN,if_true]
 | del t b C K hf hfit hlen =>
  obtain⟨hm,hC,kk,rfl,hkk⟩:=hl.found hf;have hbd:=dt hm;have hlen' : b.length=kk:=Int.ofNat_inj.1 hlen;have ht:=aL (eX hl hf);have hw:cC ⟨5,0,t,b,[],br⟩=b8 5::(bm t++dM b):=rfl;have hr:=wX (yV (k:=kk) hkk hfit hlen') (fun e=>by rw[e]at hlen'; simp at hlen'; omega) eb []
  rw[List.append_nil]at hr;have htl:=f6 t (dM b);have hp:DI 5 l (bm t++dM b) 0=some (⟨5,0,t,b,[],br⟩,[],0):=by
   unfold DI;rw[if_neg (by omega),if_pos rfl]
   unfold HK;rw[gL (by omega) (by omega),F3 (by omega) (by omega)]
   simp only[hf,Int.toNat_natCast,hr.1,hr.2]
  rw[hw,mZ (by omega),oD (by omega),hp]
  simp only[nN,if_true]
 | alt c hc =>
  have hw:cC ⟨6,0,[],[],[],c⟩=b8 6::cS c:=rfl;have hp:DI 6 l (cS c) 0=some (⟨6,0,[],[],[],c⟩,[],0):=by
   unfold DI;rw[if_neg (by omega),if_neg (by omega),if_pos rfl,JI hc]
  rw[hw,mZ (by omega),oD (by omega),hp]
  simp only[nN,if_true]
 | num k n hk h0 =>
  have hk' := kA hk;have hw:cC ⟨k,n,[],[],[],br⟩=b8 k::(d7 n ++ []):=by unfold cC; simp only; rw[if_neg (by omega),if_neg (by omega),if_neg (by omega),List.append_nil]
  have hp:DI k l (d7 n ++ []) 0=some (⟨k,n,[],[],[],br⟩,[],0):=by
   unfold DI;rw[if_neg (by omega),if_neg (by omega),if_neg (by omega),if_pos hk,FP h0 en.2]
  rw[hw,mZ (by omega),oD (by omega),hp]
  simp only[nN,if_true]
theorem wr {m k:Int} {l:List Tb} {s s2 t:List UInt8} {e e2:Int} {C:List Col} {K:Int} (hk:k=3\/k=4) (h:bi m s e=(t,s2,e2)) (hf:cf l t=some (C,K)) :
 Dr m k l s e=(⟨k,0,t,[],(kF C s2 e2).getD [],br⟩,false):=by
 unfold Dr sT;rw[if_pos (by omega)]
 simp only[h,hf];rw[if_neg (by omega)]
theorem wq {m:Int} {l:List Tb} {s s2 t:List UInt8} {e e2:Int} {C:List Col} {K:Int} (h:bi m s e=(t,s2,e2)) (hf:cf l t=some (C,K)) :
 Dr m 5 l s e=(⟨5,0,t,(kF (C.take K.toNat) s2 e2).getD [],[],br⟩,false):=by
 unfold Dr sT;rw[if_pos (by omega)]
 simp only[h,hf];rw[if_pos trivial]
theorem KH {ev:Evt} {l:List Tb} (hl:TbsB l) (h:MayI l ev) (hn:gl ev):yN (cC ev) l=(ev,false):=by
 obtain⟨en,eb,ea⟩:=hn;unfold yN;cases h with
 | ins k t a C K hk hf hfit =>
  obtain⟨hm,hC,kk,rfl,hkk⟩:=hl.found hf;have hbd:=dt hm;have hlen:=dq hfit;have ht:=aL (eX hl hf);have hw:cC ⟨k,0,t,[],a,br⟩=b8 k::(bm t++dM a):=by unfold cC; simp only; rw[if_neg (by omega),if_neg (by omega),if_pos hk]
  have hr:=wX hfit (fun e=>by rw[e]at hlen; simp at hlen; omega) ea []
  rw[List.append_nil]at hr;have htl:=f6 t (dM a);rw[hw,mZ (by omega),oD (by omega)]
  simp only[List.length_cons];rw[wr hk (gL (by omega) (by omega) _) hf,hr.1]; rfl
 | del t b C K hf hfit hlen =>
  obtain⟨hm,hC,kk,rfl,hkk⟩:=hl.found hf;have hbd:=dt hm;have hlen' : b.length=kk:=Int.ofNat_inj.1 hlen;have ht:=aL (eX hl hf);have hw:cC ⟨5,0,t,b,[],br⟩=b8 5::(bm t++dM b):=rfl;have hr:=wX (yV (k:=kk) hkk hfit hlen') (fun e=>by rw[e]at hlen'; simp at hlen'; omega) eb []
  rw[List.append_nil]at hr;have htl:=f6 t (dM b);rw[hw,mZ (by omega),oD (by omega)]
  simp only[List.length_cons];rw[wq (gL (by omega) (by omega) _) hf,Int.toNat_natCast,hr.1]; rfl
 | alt c hc =>
  have hw:cC ⟨6,0,[],[],[],c⟩=b8 6::cS c:=rfl;rw[hw,mZ (by omega),oD (by omega)]
  unfold Dr;simp only[List.length_cons];rw[if_neg (by omega),if_pos trivial,Ju hc _ (by omega)]
 | num k n hk h0 =>
  have hk' := kA hk;have hw:cC ⟨k,n,[],[],[],br⟩=b8 k::(d7 n ++ []):=by unfold cC; simp only; rw[if_neg (by omega),if_neg (by omega),if_neg (by omega),List.append_nil]
  rw[hw,mZ (by omega),oD (by omega)]
  unfold Dr;simp only;rw[if_neg (by omega),if_neg (by omega),FP h0 en.2]
theorem zo {m m' : Int} {s:List UInt8} {e:Int} (h:(bi m s e).2.2=0) (hs:s.length<=1000000000) (hm:(s.length:Int)<=m'):bi m' s e=bi m s e:=by
 rcases hq:bi m s e with⟨t,r,y⟩
 rw[hq]at h;simp only at h;subst h;obtain⟨rfl,_,rfl⟩:=qX hq;have:=f6 t r;rw[gL (by omega) (by omega)]
theorem zp {m:Int} {s:List UInt8} {e:Int} (h:(bi m s e).2.2≠0):(bi m s e).1 = []:=by
 unfold bi at h ⊢;split
 . rename_i h0; rw[if_pos h0]at h; exact(Gn h).1
 . rfl
theorem EU {l:List Tb} (hl:TbsB l):cf l []=none:=by
 cases h:cf l []with
 | none=>rfl
 | some x=>exact absurd (eX hl (show cf l []=some (x.1,x.2)from h)) (by decide)
theorem Hy {l:List Tb} (hl:TbsB l) {k m:Int} {s:List UInt8} {e:Int} (hs:s.length<=1000000000) (hm:(s.length:Int)<=m):(Dr m k l s e).2=sY k l s e:=by
 unfold Dr sY;split
 rotate_left
 . rename_i hk;have:gB k=false:=by unfold gB; simp; omega
   rw[this];split<;>rfl
 rename_i hk;have:gB k=true:=by unfold gB; simp; omega
 rw[this,Bool.true_and];unfold sT;by_cases h0:(bi s.length s e).2.2=0
 . have e1:=zo (m' := m) h0 hs hm;rw[e1,h0];cases hf:cf l (bi s.length s e).1 with
   | none=>rfl
   | some x=>obtain⟨C,K⟩:=x
             simp only;split<;>rfl
 . have h1:¬(bi m s e).2.2=0:=fun h1=>h0 (by rw[zo (m' := s.length) h1 hs (by omega)]; exact h1)
   rw[zp h0,zp h1,EU hl];simp only;rw[decide_eq_false h0,decide_eq_false h1]; rfl
end
section
variable {Q:V->List O->Prop}
theorem Kr {i j n:Nat} {f:Bool} {X:List Col} {w:Col} {H:List O} {K:V->List O->Prop} (hij:Nat.beq i j=false) (hX:ar H i = .buf (cols X)) (hn:n=X.length) (hs:X.length<=1000000)
 (hK:aV (bX H i .dead ++ [.buf (cols (X ++ [w]))]) fun H' => K (.ms 3 (bX H i .dead).length 0 (X ++ [w]).length false) H') :
 0+1<=1/\dW 3 32 (.ms 3 i 0 n false) (.ms 3 j 0 1 f) [[.str w.n,.int .i64 w.k,.bool w.o]] H K:=by
 subst hn;refine⟨Nat.le_refl 1,?_⟩;have hlk:=aw X;unfold dW db;simp only[hij];unfold co;simp only[show Nat.beq 3 3=true from rfl,hX,List.drop_zero]
 refine⟨by rw[hlk]; rfl,?_⟩
 rw[show cols X ++ [[V.str w.n,.int .i64 w.k,.bool w.o]]=cols (X ++ [w]) by rw[nG]; rfl]
 unfold bJ;rw[aw];exact⟨by rw[aD,List.length_singleton]; omega,hK⟩
theorem KW {C:List Col} {vs:List Val} {s:List UInt8} {e:Int} (hC:C.length<=16) (hs:s.length<=1000000000) (h:kF C s e=some vs):bd vs/\vs.length<9223372036854775808:=by
 obtain⟨h1,h2⟩:=qW h;exact⟨fun v hv=>by have:=(h2 v hv).1; omega,by omega⟩
def jB:Evt:=⟨0,0,[],[],[],br⟩
def kC (b:List UInt8) (l:List Tb):Evt × Int:=match HQ b l with
 | some ev=>if cm ev l=0 then(ev,0)else(jB,if sY (aX b 0).1 l (sB b 0).1 (sB b 0).2 then 7 else 2)
 | none=>(jB,if sY (aX b 0).1 l (sB b 0).1 (sB b 0).2 then 7 else 2)
theorem qN (k:Int):VSubs [.int .i64 k,.int .i64 0,.str [],.nils,.nils,.int .i64 0,.str [],.nils,.int .i64 0,.str [],.int .i64 0,.bool false] (zW ⟨k,0,[],[],[],br⟩) :=
 .cons (.refl _) (.cons (.refl _) (.cons (.refl _) (.cons (au false) (.cons (au false) (.cons (.refl _) (.cons (.refl _) (.cons (au false) (VSubs.refl _))))))))
def A8 (l:List Int):List (List V):=l.map fun n=>[fI n]
theorem wu (l:List Int):(A8 l).length=l.length:=by simp[A8]
theorem Hr {l:List Int} {i:Nat} {b:Int} (h:l[i]? = some b):(A8 l)[i]? = some [fI b]:=by simp[A8,h]
theorem Ks {i j n:Nat} {f:Bool} {X:List Int} {w:Int} {H:List O} {K:V->List O->Prop} (hij:Nat.beq i j=false) (hX:ar H i = .buf (A8 X)) (hn:n=X.length) (hs:X.length<=1000000)
 (hK:aV (bX H i .dead ++ [.buf (A8 (X ++ [w]))]) fun H' => K (.ms 1 (bX H i .dead).length 0 (X ++ [w]).length false) H') :
 0+1<=1/\dW 1 8 (.ms 1 i 0 n false) (.ms 1 j 0 1 f) [[fI w]] H K:=by
 subst hn;refine⟨Nat.le_refl 1,?_⟩;have hlk:=wu X;unfold dW db;simp only[hij];unfold co;simp only[show Nat.beq 1 1=true from rfl,hX,List.drop_zero]
 refine⟨by rw[hlk]; rfl,?_⟩
 rw[show A8 X ++ [[fI w]]=A8 (X ++ [w]) by simp[A8]]
 unfold bJ;rw[wu];exact⟨by rw[aD,List.length_singleton]; omega,hK⟩
def ya (B:List Nat) (i:Nat):Int:=if fi B i then 1 else 0
def mK (B:List Nat) (k:Nat):List Int:=(List.range k).map (ya B)
theorem rS (B:List Nat) (k:Nat):(mK B k).length=k:=by simp[mK]
theorem Es (B:List Nat) {k i:Nat} (h:i<k):(mK B k)[i]? = some (ya B i):=by
 unfold mK; rw[List.getElem?_map,List.getElem?_range h]; rfl
theorem C5 (B:List Nat) (k:Nat):mK B (k+1)=mK B k ++ [ya B k]:=by simp[mK,List.range_succ]
theorem zj {y:Nat} (hy:y<256):∀d m,m+d=8->(∀u,m<=u->u<8->y / 2 ^ u % 2=0)->y / 2 ^ m=0
 | 0,m,h,_=>by have:m=8:=by omega
               subst this; exact Nat.div_eq_of_lt hy
 | d+1,m,h,hb=>by
  have h1:=zj hy d (m+1) (by omega) (fun u h1 h2=>hb u (by omega) h2)
  have h2:=hb m (Nat.le_refl _) (by omega)
  rw[Nat.pow_succ,<-Nat.div_div_eq_div_mul]at h1;omega
theorem DJ {B:List Nat} {n:Nat} (hn:0<n) (hB:∀q,B.getD q 0<256):oh B n=true ↔ ∀q,n<=q->q<8*((n+7) / 8)->fi B q=false:=by
 unfold oh;rw[decide_eq_true_eq];have hj:(n-1) / 8=(n+7) / 8-1:=by omega
 constructor
 . intro h q h1 h2;unfold fi;have hq:q / 8=(n-1) / 8:=by omega
   rw[hq];refine decide_eq_false ?_;have hsm:B.getD ((n-1) / 8) 0<2 ^ ((n-1) % 8+1):=by
    rcases Nat.div_eq_zero_iff.1 h with h | h
    . exact absurd h (Nat.ne_of_gt (Nat.two_pow_pos _))
    . exact h
   have hle:2 ^ ((n-1) % 8+1)<=2 ^ (q % 8):=Nat.pow_le_pow_right (by decide) (by omega)
   rw[Nat.div_eq_of_lt (Nat.lt_of_lt_of_le hsm hle)];decide
 . intro h;refine zj (hB _) (8-((n-1) % 8+1)) _ (by omega) fun u h1 h2=>?_
   have:=h (8*((n-1) / 8)+u) (by omega) (by omega)
   unfold fi at this;rw[show(8*((n-1) / 8)+u) / 8=(n-1) / 8 by omega,show(8*((n-1) / 8)+u) % 8=u by omega]at this
   have:=aG this;omega
theorem Ea {l:List Col} {keys:Int} {vs:List Val} {X:List (List V)} {f:Bool} (hX:X=ah vs) (hl:l.length<=1000) (ht:bd vs) (h:Q (.bool (bB l vs)) []) :
 ACall Tryz.prog 68 0 [sch l keys,.sl 3 X f] [] Q:=by subst hX; exact iu hl ht h
def zY (y t:Nat):Nat:=y / 2 ^ t
theorem KZ (y t:Nat):zY y (t+1)=zY y t / 2:=by unfold zY; rw[Nat.pow_succ,<-Nat.div_div_eq_div_mul]
set_option maxRecDepth 8000 in
theorem pI {s:List UInt8} {f:Bool} {e:Int} {C:List Col} (h0:C ≠ []) (hC:C.length<=16) (hs:s.length<=1000000000)
 (h:∀x s' e', Q (.tup [.sl 3 (ah ((kF C s e).getD [])) false,.bool x]) [ug s' f e']) :
 ACall Tryz.prog 153 1 [.ptr 0 0,.sl 3 (cols C) false] [ug s f e] Q:=by
 refine ACall.ret (ad Tryz.func153 1 rfl (aA rfl) ?_);have hcl:=aw C;have hcp:=List.length_pos_iff.2 h0
 conv=>whnf
 rw[hcl];refine⟨by decide,?_⟩
 rw[show(IntKind.i64.wrap ((C.length:Int)+7)).tdiv 8=(((C.length+7) / 8:Nat):Int) by rw[bw (by omega),Int.tdiv_eq_ediv_of_nonneg (by omega)]; omega,bw (n:=(((C.length+7) / 8:Nat):Int)) (by omega)]
 conv=>whnf
 obtain⟨nb,hnb⟩:∃nb,nb=(C.length+7) / 8:=⟨_,rfl⟩;rw[<-hnb];obtain⟨B,hB⟩:∃B,B=(ek nb s e).1:=⟨_,rfl⟩;have hB256:∀q,B.getD q 0<256:=fun q=>by
  rw[List.getD_eq_getElem?_getD];cases hq:B[q]? with
  | none=>simp
  | some x=>simp only[Option.getD_some]; rw[hB]at hq; exact FO _ _ _ x (List.mem_of_getElem? hq)
 refine⟨⟨[0,1,6,7,8,9],fun mm ws H=>∃j:Nat,ws = [.ptr 0 0,.sl 3 (cols C) false,fI C.length,fI nb,.ms 1 1 0 (8*j) false,fI j]/\H = [ug (ek j s e).2.1 f (ek j s e).2.2,.buf (A8 (mK B (8*j)))]/\j<=nb/\mm=nb-j,
  .frz (nb+1) (.adopt (.sub _ _ (.cons (.refl _) (.cons (.refl _) (.cons (.refl _) (.cons (.refl _) (.cons (VSub.ms0 1 1 0 false) (VSubs.refl _)))))) (HSub.refl _) (.go [0,1] rfl nb (by omega) ⟨0,?_,rfl,by omega,rfl⟩))),?_⟩⟩
 focus
  rfl
 rintro mm ws H ⟨j,rfl,rfl,hj,rfl⟩
 conv=>whnf
 refine ac (fun c1=>?_) (fun c1=>?_)<;>try rw[c1]<;>conv=>whnf
 focus
  have c1' := aB c1;have hs1:(ek (j+1) s e).2.1=(aX (ek j s e).2.1 (ek j s e).2.2).2.1:=rfl;have hs2:(ek (j+1) s e).2.2=(aX (ek j s e).2.1 (ek j s e).2.2).2.2:=rfl;have hl:=FN j s e;have hgd:=FM (k:=nb) (j:=j+1) (q:=j) s e (by omega) (by omega)
  rw[hl,<-hB]at hgd;have hbd:=ov (ek j s e).2.1 (ek j s e).2.2;refine .call [0] 1 ⟨rfl,rfl,rfl⟩ (dT ?_);generalize (aX (ek j s e).2.1 (ek j s e).2.2).1=y0 at *;generalize (aX (ek j s e).2.1 (ek j s e).2.2).2.1=s2 at *;generalize (aX (ek j s e).2.1 (ek j s e).2.2).2.2=e2 at *;obtain⟨y,rfl⟩:∃y:Nat,y0=y:=⟨y0.toNat,by omega⟩
  rw[Int.toNat_natCast]at hgd
  conv=>whnf
  refine⟨⟨[0,1,6,7,8,9,10,11],fun mm ws H=>∃t:Nat,ws = [.ptr 0 0,.sl 3 (cols C) false,fI C.length,fI nb,.ms 1 1 0 (8*j+t) false,fI j,fI (zY y t),fI t]/\H = [ug s2 f e2,.buf (A8 (mK B (8*j+t)))]/\t<=8/\mm=8-t,
   .frz 9 (.go [0,1] rfl 8 (by omega) ⟨0,?_,rfl,by omega,rfl⟩),?_⟩⟩
  focus
   rw[show zY y 0=y by unfold zY; simp]; rfl
  rintro mm ws H ⟨t,rfl,rfl,ht,rfl⟩
  conv=>whnf
  refine ac (fun c2=>?_) (fun c2=>?_)<;>try rw[c2]<;>conv=>whnf
  focus
   have c2' := aB c2;have ht8:t<8:=by omega
   have hbit:ya B (8*j+t)=((zY y t % 2:Nat):Int):=by
    unfold ya fi;rw[show(8*j+t) / 8=j by omega,show(8*j+t) % 8=t by omega,<-hgd]
    by_cases hb:zY y t % 2=1
    . rw[decide_eq_true (show y / 2 ^ t % 2=1 from hb),hb]; rfl
    . rw[decide_eq_false (show ¬y / 2 ^ t % 2=1 from hb),show zY y t % 2=0 by omega]; rfl
   have hpw:=KZ y t;have hyb:zY y t<=255:=Nat.le_trans (Nat.div_le_self _ _) (by omega)
   have hbl:=rS B (8*j+t);refine⟨by decide,?_⟩
   rw[show((zY y t:Nat):Int).tmod 2=((zY y t % 2:Nat):Int) by rw[Int.tmod_eq_emod_of_nonneg (by omega)]; omega,<-hbit]
   conv=>whnf
   refine Ks (X:=mK B (8*j+t)) (w:=ya B (8*j+t)) rfl rfl hbl.symm (by omega) ?_
   rw[<-C5,rS]
   conv=>whnf
   refine⟨by decide,?_⟩
   rw[show((zY y t:Nat):Int).tdiv 2=((zY y (t+1):Nat):Int) by rw[Int.tdiv_eq_ediv_of_nonneg (by omega),hpw]; omega]
   conv=>whnf
   refine .go [0,3] rfl (8-(t+1)) (by omega) ⟨t+1,?_,rfl,by omega,rfl⟩
   show [V.ptr 0 0,.sl 3 (cols C) false,fI C.length,fI nb,.ms 1 1 0 (8*j+t+1) false,fI j,.int .i64 (IntKind.i64.wrap ((zY y (t+1):Nat):Int)),.int .i64 (IntKind.i64.wrap ((t:Int)+1))]=_
   rw[bw (n:=((zY y (t+1):Nat):Int)) (by omega),bw (by omega)]; rfl
  focus
   have c2' := aG c2;have ht8:t=8:=by omega
   subst ht8;refine .go [0,1] rfl (nb-(j+1)) (by omega) ⟨j+1,?_,?_,by omega,rfl⟩
   . show [V.ptr 0 0,.sl 3 (cols C) false,fI C.length,fI nb,.ms 1 1 0 (8*j+8) false,.int .i64 (IntKind.i64.wrap ((j:Int)+1))]=_
     rw[bw (by omega)]; rfl
   . show [ug s2 f e2,.buf (A8 (mK B (8*j+8)))]=_
     rw[hs1,hs2]; rfl
 have c1' := aG c1;have hje:j=nb:=by omega
 subst hje;unfold kF at h;rw[<-hnb,<-hB]at h;have hs1:=wV j s e;generalize (ek j s e).2.1=s1 at *;generalize (ek j s e).2.2=e1 at *;obtain⟨N,hN⟩:∃N,N=fi B:=⟨_,rfl⟩;rw[<-hN]at h;have hpi:=DJ hcp hB256;rw[<-hnb]at hpi
 refine⟨⟨[0,1,6,8,12,13],fun mm ws H=>∃(i m:Nat),m=min i C.length/\ws = [.ptr 0 0,.sl 3 (cols C) false,fI C.length,.ms 1 1 0 (8*j) false,.ms 3 2 0 m false,fI i] /\
  H = [ug (cU C N m s1 e1).2.1 f (cU C N m s1 e1).2.2,.buf (A8 (mK B (8*j))),.buf (ah (cU C N m s1 e1).1)]/\i<=8*j/\(∀q,C.length<=q->q<i->fi B q=false)/\mm=8*j-i,
  .frz (8*j+1) (.adopt (.sub _ _ (.cons (.refl _) (.cons (.refl _) (.cons (.refl _) (.cons (.refl _) (.cons (n9 3 2) (VSubs.refl _)))))) (HSub.refl _) (.go [0,1,2] rfl (8*j) (by omega) ⟨0,0,by omega,rfl,rfl,by omega,fun q h1 h2=>by omega,rfl⟩))),?_⟩⟩
 rintro mm ws H ⟨i,m,hm,rfl,rfl,hi,hz,rfl⟩;have hvl:=aC (cU C N m s1 e1).1;rw[lD]at hvl;have hbl:=rS B (8*j);have hil:=wu (mK B (8*j))
 conv=>whnf
 refine ac (fun c1=>?_) (fun c1=>?_)<;>try rw[c1]<;>conv=>whnf
 rotate_left
 focus
  have c1' := aG c1;have hie:i=8*j:=by omega
  have hmC:m=C.length:=by omega
  have hvs:=tc C N m s1 e1;rw[hmC]at hvl hvs ⊢;rw[if_pos (hpi.2 (fun q h1 h2=>hz q h1 (by omega)))]at h
  generalize (cU C N C.length s1 e1).1=vs at *;generalize (cU C N C.length s1 e1).2.1=s2 at *;generalize (cU C N C.length s1 e1).2.2=e2 at *;refine .frz 2 rfl rfl (by repeat (first | exact trivial | refine And.intro (by rw[hvl,Nat.zero_add]; exact Nat.le_refl _) ?_)) ?_
  have htk:List.take C.length (List.drop 0 (ah vs))=ah vs:=by rw[List.drop_zero,<-hvl,List.take_length]
  refine .pure (Ea (l:=C) (keys:=0) (vs:=vs) (X:=List.take C.length (List.drop 0 (ah vs))) (f:=false) htk (by omega) (fun v hv=>by have:=(hvs.2 v hv).1; omega) ⟨rfl,?_⟩)
  conv=>whnf
  refine ac (fun c2=>?_) (fun c2=>?_)<;>try rw[c2]<;>conv=>whnf
  focus
   have c2' : ¬e2=0:=by simpa using c2
   rw[if_neg (fun hx=>c2' hx.1)]at h
   exact⟨[0],rfl,.sub _ _ (.tup (.cons (au false) (VSubs.refl _))) (HSub.refl _) (.done [0] rfl (h _ _ _))⟩
  have c2' : e2=0:=by simpa using c2
  cases hf:bB C vs<;>conv=>whnf
  focus
   rw[if_neg (fun hx=>by rw[hf]at hx; cases hx.2)]at h
   exact⟨[0],rfl,.sub _ _ (.tup (.cons (au false) (VSubs.refl _))) (HSub.refl _) (.done [0] rfl (h _ _ _))⟩
  focus
   rw[if_pos ⟨c2', hf⟩]at h;refine⟨[0],rfl,.done [0] rfl ?_⟩;show Q (.tup [.sl 3 (List.take C.length (List.drop 0 (ah vs))) false,.bool true]) [ug s2 f e2]
   rw[htk];exact h _ _ _
 have c1' := aB c1;have hbg:=Hr (Es B (show i<8*j by omega))
 refine ac (fun c2=>?_) (fun c2=>?_)<;>try rw[c2]<;>conv=>whnf
 focus
  have c2' := aB c2;refine⟨⟨by omega,by omega⟩,?_⟩
  conv=>whnf
  refine⟨_,hbg,?_⟩
  conv=>whnf
  unfold ya;cases hNi:fi B i<;>conv=>whnf
  focus
   have hmC:min (i+1) C.length=m:=by omega
   refine .go [0,1,2] rfl (8*j-(i+1)) (by omega) ⟨i+1,m,by omega,?_,rfl,by omega,fun q h1 h2=>?_,rfl⟩
   . show [V.ptr 0 0,.sl 3 (cols C) false,fI C.length,.ms 1 1 0 (8*j) false,.ms 3 2 0 m false,.int .i64 (IntKind.i64.wrap ((i:Int)+1))]=_
     rw[bw (by omega)]; rfl
   . by_cases hq:q=i
     . rw[hq]; exact hNi
     . exact hz q h1 (by omega)
  focus
   have hpf:oh B C.length=false:=by
    cases hp:oh B C.length with
    | false=>rfl
    | true=>have:=hpi.1 hp i (by omega) (by omega); rw[hNi]at this; cases this
   rw[if_neg (by rw[hpf]; decide)]at h
   exact⟨[0],rfl,.sub _ _ (.tup (.cons (au false) (VSubs.refl _))) (HSub.refl _) (.done [0] rfl (h _ _ _))⟩
 have c2' := aG c2;have hmi:m=i:=by omega
 subst hmi;have hlt:m<C.length:=by omega
 have hg:C[m]? = some C[m]:=aS hlt;have hka:=wv hg;generalize C[m]=c at *;have hvs:cU C N (m+1) s1 e1=((cU C N m s1 e1).1 ++ [(kY (Jx C m) (N m) (cU C N m s1 e1).2.1 (cU C N m s1 e1).2.2).1],(kY (Jx C m) (N m) (cU C N m s1 e1).2.1 (cU C N m s1 e1).2.2).2):=rfl;rw[hka]at hvs;have hln:=lD C N m s1 e1;generalize (cU C N m s1 e1).1=X at *;generalize (cU C N m s1 e1).2.1=s2 at *;generalize (cU C N m s1 e1).2.2=e2 at *
 have fin:∀(v:Val) (s3:List UInt8) (e3:Int),kY c.k (N m) s2 e2=(v,s3,e3) ->
  [ug s3 f e3,.buf (A8 (mK B (8*j))),.buf (ah (X ++ [v]))] = [ug (cU C N (m+1) s1 e1).2.1 f (cU C N (m+1) s1 e1).2.2,.buf (A8 (mK B (8*j))),.buf (ah (cU C N (m+1) s1 e1).1)]:=fun v s3 e3 h=>by
  rw[hvs,h]
 have nx:∀k:Nat,k=m+1 -> [V.ptr 0 0,.sl 3 (cols C) false,fI C.length,.ms 1 1 0 (8*j) false,.ms 3 2 0 k false,.int .i64 (IntKind.i64.wrap ((m:Int)+1))] =
  [V.ptr 0 0,.sl 3 (cols C) false,fI C.length,.ms 1 1 0 (8*j) false,.ms 3 2 0 (m+1) false,fI (m+1:Nat)]:=fun k h=>by
  rw[h,bw (by omega)]; rfl
 refine⟨⟨by omega,by omega⟩,?_⟩
 conv=>whnf
 refine⟨_,hbg,?_⟩
 conv=>whnf
 unfold ya;cases hNi:fi B m<;>conv=>whnf
 focus
  have hNm:N m=false:=by rw[hN]; exact hNi
  refine⟨_,⟨by omega,bj hg⟩,?_⟩
  conv=>whnf
  refine ac (fun k1=>?_) (fun k1=>?_)<;>try rw[k1]<;>conv=>whnf
  focus
   have k1' := aB k1;refine .call [0] 1 ⟨rfl,rfl,rfl⟩ (dT ?_)
   conv=>whnf
   refine BO (X:=X) (w:=⟨c.k,(aX s2 e2).1,[]⟩) rfl rfl hln.symm (by omega) ?_
   conv=>whnf
   exact .go [0,1,5] rfl (8*j-(m+1)) (by omega) ⟨m+1,m+1,by omega,nx _ (by rw[aD,hln]; rfl),fin _ _ _ (by rw[hNm]; unfold kY; rw[if_neg (by decide),if_pos k1']),by omega,fun q h1 h2=>by omega,rfl⟩
  have k1' := aG k1;refine ac (fun k2=>?_) (fun k2=>?_)<;>try rw[k2]<;>conv=>whnf
  focus
   have k2' := aB k2;refine .call [0] 1 ⟨rfl,rfl,rfl⟩ (vA ?_)
   conv=>whnf
   refine BO (X:=X) (w:=⟨c.k,(mh s2 e2).1,[]⟩) rfl rfl hln.symm (by omega) ?_
   conv=>whnf
   exact .go [0,1,5] rfl (8*j-(m+1)) (by omega) ⟨m+1,m+1,by omega,nx _ (by rw[aD,hln]; rfl),fin _ _ _ (by rw[hNm]; unfold kY; rw[if_neg (by decide),if_neg k1', if_pos k2']),by omega,fun q h1 h2=>by omega,rfl⟩
  focus
   have k2' := aG k2;refine .call [0] 1 ⟨rfl,rfl,rfl⟩ (iv ?_)
   conv=>whnf
   refine BO (X:=X) (w:=⟨c.k,0,(bi 4096 s2 e2).1⟩) rfl rfl hln.symm (by omega) ?_
   conv=>whnf
   exact .go [0,1,5] rfl (8*j-(m+1)) (by omega) ⟨m+1,m+1,by omega,nx _ (by rw[aD,hln]; rfl),fin _ _ _ (by rw[hNm]; unfold kY; rw[if_neg (by decide),if_neg k1', if_neg k2']),by omega,fun q h1 h2=>by omega,rfl⟩
 focus
  have hNm:N m=true:=by rw[hN]; exact hNi
  refine BO (X:=X) (w:=⟨0,0,[]⟩) rfl rfl hln.symm (by omega) ?_
  conv=>whnf
  exact .go [0,1,5] rfl (8*j-(m+1)) (by omega) ⟨m+1,m+1,by omega,nx _ (by rw[aD,hln]; rfl),fin _ _ _ (by rw[hNm]; rfl),by omega,fun q h1 h2=>by omega,rfl⟩
set_option maxRecDepth 8000 in
theorem mF {s:List UInt8} {f:Bool} {e:Int} (h:Q (AK (rC 4096 s e).g) [ug (rC 4096 s e).s f (rC 4096 s e).e]) :
 ACall Tryz.prog 154 1 [.ptr 0 0] [ug s f e] Q:=by
 refine ad Tryz.func154 1 rfl (aA rfl) ?_
 conv=>whnf
 refine .call [0] 1 ⟨rfl,rfl,rfl⟩ (iv ?_);unfold rC RC.g AK at h;simp only at h;generalize (bi 4096 s e).1=t1 at *;generalize (bi 4096 s e).2.1=s1 at *;generalize (bi 4096 s e).2.2=e1 at *
 conv=>whnf
 refine .call [0] 1 ⟨rfl,rfl,rfl⟩ (dT ?_);generalize (aX s1 e1).1=k1 at *;generalize (aX s1 e1).2.1=s2 at *;generalize (aX s1 e1).2.2=e2 at *
 conv=>whnf
 refine .call [0] 1 ⟨rfl,rfl,rfl⟩ (dT ?_);generalize (aX s2 e2).1=o1 at *;generalize (aX s2 e2).2.1=s3 at *;generalize (aX s2 e2).2.2=e3 at *
 conv=>whnf
 exact⟨[0],rfl,h⟩
theorem nE (k n ck:Int) (ct cn:List UInt8) (cks ckk:Int) (o:Bool):VSub (.agg [.int .i64 k,.int .i64 n,.str [],.nils,.nils,.int .i64 ck,.str ct,.nils,.int .i64 cks,.str cn,.int .i64 ckk,.bool o]) (tZ ⟨k,n,[],[],[],⟨ck,ct,[],cks,⟨cn,ckk,o⟩⟩⟩) :=
 .agg (.cons (.refl _) (.cons (.refl _) (.cons (.refl _) (.cons (au false) (.cons (au false) (.cons (.refl _) (.cons (.refl _) (.cons (au false) (VSubs.refl _)))))))))
theorem Jp {id:Nat} {v1 v2 v3 v4 v5 v6 v7:V} {l:List V}:VSubs (v1::v2::v3::v4::v5::v6::v7 :: .nils::l) (v1::v2::v3::v4::v5::v6::v7 :: .ms 3 id 0 0 false::l) :=
 .cons (.refl _) (.cons (.refl _) (.cons (.refl _) (.cons (.refl _) (.cons (.refl _) (.cons (.refl _) (.cons (.refl _) (.cons (VSub.ms0 3 id 0 false) (VSubs.refl _))))))))
theorem yK {m k:Int} {l:List Tb} {s s2 t:List UInt8} {e e2:Int} (hk:k=3\/k=4\/k=5) (h:bi m s e=(t,s2,e2)) (hf:cf l t=none) :
 Dr m k l s e=(⟨k,0,t,[],[],br⟩,decide (e2=0)):=by
 unfold Dr sT;rw[if_pos hk];simp only[h,hf]
set_option maxRecDepth 8000 in
theorem Ad {b:List UInt8} {f:Bool} {l:List Tb} (hl:TbsB l) (hb:b.length<=1000000000)
 (h:Q (.tup [tZ (yN b l).1,.bool (yN b l).2]) []):ACall Tryz.prog 114 0 [.sl 1 (bs b) f,.sl 3 (tbs l) false] [] Q:=by
 refine ACall.ret (ad Tryz.func114 0 rfl (aA rfl) ?_);have hbl:=al b
 conv=>whnf
 refine .call [1] 1 ⟨rfl,rfl,rfl⟩ (dT ?_);unfold yN at h;have hsl:(sB b 0).1.length<=b.length:=(lC b 0).1;unfold sB at h hsl;generalize (aX b 0).1=k at *;generalize (aX b 0).2.1=s1 at *;generalize (aX b 0).2.2=e1 at *
 conv=>whnf
 refine ac (fun k3=>?_) (fun k3=>?_)<;>try rw[k3]<;>conv=>whnf
 rotate_left
 have k3' := aG k3;refine ac (fun k4=>?_) (fun k4=>?_)<;>try rw[k4]<;>conv=>whnf
 rotate_left
 have k4' := aG k4;refine ac (fun k5=>?_) (fun k5=>?_)<;>try rw[k5]<;>conv=>whnf
 rotate_left
 focus
  have k5' := aG k5;unfold Dr at h;rw[if_neg (by omega)]at h
  refine ac (fun k6=>?_) (fun k6=>?_)<;>try rw[k6]<;>conv=>whnf
  rotate_left
  focus
   have k6' := aG k6;rw[if_neg k6']at h;refine .call [1] 1 ⟨rfl,rfl,rfl⟩ (j3 ?_);generalize (iN s1 e1).1=n1 at *
   conv=>whnf
   exact⟨[],rfl,.sub _ _ (.tup (.cons (eO _ _) (VSubs.refl _))) (HSub.refl _) (.done [] rfl h)⟩
  have k6' := aB k6;rw[if_pos k6']at h;unfold Hk sB sT at h;refine .call [1] 1 ⟨rfl,rfl,rfl⟩ (dT ?_);generalize (aX s1 e1).1=ck at *;generalize (aX s1 e1).2.1=s2 at *;generalize (aX s1 e1).2.2=e2 at *
  conv=>whnf
  rw[hbl];refine .call [1] 1 ⟨rfl,rfl,rfl⟩ (iv ?_);generalize (bi b.length s2 e2).1=ct at *;generalize (bi b.length s2 e2).2.1=s3 at *;generalize (bi b.length s2 e2).2.2=e3 at *
  conv=>whnf
  unfold nR at h;refine ac (fun c1=>?_) (fun c1=>?_)<;>try rw[c1]<;>conv=>whnf
  focus
   have c1' := aB c1;rw[if_pos c1']at h;unfold sB at h;refine .call [1] 1 ⟨rfl,rfl,rfl⟩ (dT ?_);generalize (aX s3 e3).1=ks at *;generalize (aX s3 e3).2.1=s4 at *;generalize (aX s3 e3).2.2=e4 at *
   conv=>whnf
   refine .call [1] 1 ⟨rfl,rfl,rfl⟩ (dT ?_);have hbd:=ov s4 e4;generalize (aX s4 e4).1=n0 at *;generalize (aX s4 e4).2.1=s5 at *;generalize (aX s4 e4).2.2=e5 at *;obtain⟨n,rfl⟩:∃n:Nat,n0=n:=⟨n0.toNat,by omega⟩
   rw[Int.toNat_natCast]at h
   conv=>whnf
   refine⟨⟨[4,6,7,10,11],fun mm ws H=>∃(i:Nat) (acc:List Col) (s' : List UInt8) (e' : Int),ws = [.ptr 0 0,.ptr 1 0,.ptr 2 0,fI n,fI i] /\
    H = [.cells [fI 0,fI 0,.str [],.nils,.nils,fI 0,.str [],.nils,fI 0,.str [],fI 0,.bool false],ug s' f e', .cells [.int .i64 k,fI 0,.str [],.nils,.nils,.int .i64 ck,.str ct,.ms 3 3 0 acc.length false,.int .i64 ks,.str [],fI 0,.bool false],.buf (cols acc)] /\
    acc.length=i/\i<=n/\kP (n-i) acc s' e'=kP n [] s5 e5/\mm=n-i,
    .frz (n+1) (.adopt (.sub _ _ (VSubs.refl _) (.cons (.refl _) (.cons (.refl _) (.cons (.cells (Jp (id:=3))) (HSub.refl _)))) (.go [0,1,2,3] rfl n (by omega) ⟨0,[],s5,e5,rfl,rfl,rfl,by omega,rfl,rfl⟩))),?_⟩⟩
   rintro mm ws H ⟨i,acc,s', e', rfl,rfl,hacc,hi,hp,rfl⟩;have hcl:=aw acc;have done:kP (n-i) acc s' e'=acc->Q (.tup [.agg [.int .i64 k,fI 0,.str [],.sl 3 (ah []) false,.sl 3 (ah []) false,.int .i64 ck,.str ct,.sl 3 (List.take acc.length (List.drop 0 (cols acc))) false,.int .i64 ks,.str [],fI 0,.bool false],.bool false]) []:=fun hz=>by
    rw[List.drop_zero,<-hcl,List.take_length];rw[<-hp,hz]at h;exact h
   conv=>whnf
   refine ac (fun c2=>?_) (fun c2=>?_)<;>try rw[c2]<;>conv=>whnf
   rotate_left
   focus
    have c2' := aG c2;exact⟨[3],rfl,.frz 0 rfl (by repeat (first | exact trivial | refine And.intro (by rw[hcl,Nat.zero_add]; exact Nat.le_refl _) ?_)) (.sub _ _ (.tup (.cons (.agg (.cons (.refl _) (.cons (.refl _) (.cons (.refl _) (.cons (au false) (.cons (au false) (VSubs.refl _))))))) (VSubs.refl _))) (HSub.refl _) (.done [] rfl (done (by rw[show n-i=0 by omega]; rfl))))⟩
   have c2' := aB c2;refine ac (fun c3=>?_) (fun c3=>?_)<;>try rw[c3]<;>conv=>whnf
   rotate_left
   focus
    have c3' := aG c3;exact⟨[3],rfl,.frz 0 rfl (by repeat (first | exact trivial | refine And.intro (by rw[hcl,Nat.zero_add]; exact Nat.le_refl _) ?_)) (.sub _ _ (.tup (.cons (.agg (.cons (.refl _) (.cons (.refl _) (.cons (.refl _) (.cons (au false) (.cons (au false) (VSubs.refl _))))))) (VSubs.refl _))) (HSub.refl _) (.done [] rfl (done (by rw[show n-i=(n-(i+1))+1 by omega]; simp only[kP]; rw[if_neg c3']))))⟩
   have c3' := aB c3;rw[show n-i=(n-(i+1))+1 by omega]at hp
   simp only[kP]at hp;rw[if_pos c3']at hp;have hn255:=hbd.2;refine⟨List.range 12,by kernel_rfl,by kernel_rfl,?_⟩
   conv=>whnf
   refine .call [1] 1 ⟨rfl,rfl,rfl⟩ (mF ?_);generalize rC 4096 s' e'=rc at *;unfold AK
   repeat (conv=>whnf
           refine⟨rfl,?_⟩)
   conv=>whnf
   refine Kr (X:=acc) (w:=rc.g) rfl rfl rfl (by omega) ?_
   repeat (conv=>whnf
           refine⟨rfl,?_⟩)
   conv=>whnf
   refine .go [0,1,2,5] rfl (n-(i+1)) (by omega) ⟨i+1,acc ++ [rc.g],rc.s,rc.e,?_,rfl,by rw[aD,hacc]; rfl,by omega,hp,rfl⟩
   show [V.ptr 0 0,.ptr 1 0,.ptr 2 0,fI n,.int .i64 (IntKind.i64.wrap ((i:Int)+1))]=_
   rw[bw (by omega)]; rfl
  have c1' := aG c1;rw[if_neg c1']at h;refine ac (fun c3=>?_) (fun c3=>?_)<;>try rw[c3]<;>conv=>whnf
  focus
   have c3' := aB c3;rw[if_pos (.inl c3')]at h;refine .call [1] 1 ⟨rfl,rfl,rfl⟩ (mF ?_);generalize rC 4096 s3 e3=rc at *;unfold AK
   conv=>whnf
   exact⟨[],rfl,.sub _ _ (.tup (.cons (nE _ _ _ _ _ _ _ _) (VSubs.refl _))) (HSub.refl _) (.done [] rfl h)⟩
  have c3' := aG c3;refine ac (fun c5=>?_) (fun c5=>?_)<;>try rw[c5]<;>conv=>whnf
  focus
   have c5' := aB c5;rw[if_pos (.inr c5')]at h;refine .call [1] 1 ⟨rfl,rfl,rfl⟩ (mF ?_);generalize rC 4096 s3 e3=rc at *;unfold AK
   conv=>whnf
   exact⟨[],rfl,.sub _ _ (.tup (.cons (nE _ _ _ _ _ _ _ _) (VSubs.refl _))) (HSub.refl _) (.done [] rfl h)⟩
  have c5' := aG c5;rw[if_neg (by omega)]at h
  refine ac (fun c4=>?_) (fun c4=>?_)<;>try rw[c4]<;>conv=>whnf
  focus
   have c4' := aB c4;rw[if_pos c4']at h;rw[hbl];refine .call [1] 1 ⟨rfl,rfl,rfl⟩ (iv ?_);generalize (bi b.length s3 e3).1=t4 at *
   conv=>whnf
   exact⟨[],rfl,.sub _ _ (.tup (.cons (nE _ _ _ _ _ _ _ _) (VSubs.refl _))) (HSub.refl _) (.done [] rfl h)⟩
  have c4' := aG c4;rw[if_neg c4']at h;exact⟨[],rfl,.sub _ _ (.tup (.cons (nE _ _ _ _ _ _ _ _) (VSubs.refl _))) (HSub.refl _) (.done [] rfl h)⟩
 all_goals
  have hk:k=3\/k=4\/k=5:=by
   first
   | exact .inl (aB k3)
   | exact .inr (.inl (aB k4))
   | exact .inr (.inr (aB k5))
  rw[hbl];refine .call [1] 1 ⟨rfl,rfl,rfl⟩ (iv ?_);have hsl2:=(ta b.length s1 e1).1;obtain⟨t,ht⟩:∃t,(bi b.length s1 e1).1=t:=⟨_,rfl⟩;obtain⟨s2,hs2⟩:∃t,(bi b.length s1 e1).2.1=t:=⟨_,rfl⟩;obtain⟨e2,he2⟩:∃t,(bi b.length s1 e1).2.2=t:=⟨_,rfl⟩;have hT:bi b.length s1 e1=(t,s2,e2):=by rw[<-ht,<-hs2,<-he2]
  rw[ht,hs2,he2];rw[hs2]at hsl2
  conv=>whnf
  refine .pure (m9 (t:=t) (by have:=hl.few; omega) ⟨rfl,?_⟩)
  unfold qa;cases hf:cf l t with
  | none =>
   rw[yK hk hT hf]at h
   conv=>whnf
   refine⟨List.range 8,by kernel_rfl,by kernel_rfl,?_⟩
   repeat (conv=>whnf
           refine⟨rfl,?_⟩)
   conv=>whnf
   exact⟨[],rfl,.sub _ _ (.tup (.cons (FY _ _) (VSubs.refl _))) (HSub.refl _) (.done [] rfl h)⟩
  | some w =>
   obtain⟨C,K⟩:=w;obtain⟨hm,hC,kk,rfl,hkk⟩:=hl.found hf;have hb2:=dt hm;have hcl:=aw C
   conv=>whnf
   refine ac (fun q5=>?_) (fun q5=>?_)<;>try rw[q5]<;>conv=>whnf
   focus
    have q5' := aB q5;subst q5';rw[wq hT hf,Int.toNat_natCast]at h;have hne:C.take kk ≠ []:=fun e=>by
     have:=congrArg List.length e;rw[List.length_take,List.length_nil]at this;omega
    refine⟨⟨by omega,by omega⟩,?_⟩
    rw[show List.take (kk:Int).toNat (cols C)=cols (C.take kk) by rw[Int.toNat_natCast]; unfold cols; rw[List.map_take]]
    conv=>whnf
    refine .call [1] 1 ⟨rfl,rfl,rfl⟩ (pI (C:=C.take kk) hne (by rw[List.length_take]; omega) (by omega) (fun x s' e' => ?_))
    conv=>whnf
    exact⟨[],rfl,.sub _ _ (.tup (.cons (tj _ _ _) (VSubs.refl _))) (HSub.refl _) (.done [] rfl h)⟩
   focus
    have q5' := aG q5;rw[wr (by omega) hT hf]at h
    refine .call [1] 1 ⟨rfl,rfl,rfl⟩ (pI (C:=C) (fun e=>by rw[e]at hkk; simp at hkk; omega) (by omega) (by omega) (fun x s' e' => ?_))
    conv=>whnf
    exact⟨[],rfl,.sub _ _ (.tup (.cons (q0 _ _ _) (VSubs.refl _))) (HSub.refl _) (.done [] rfl h)⟩
theorem uO:∀(m:Nat) (acc:List Col) (s:List UInt8) (e:Int),(kP m acc s e).length<=acc.length+m
 | 0,acc,_,_=>Nat.le_refl _
 | m+1,acc,s,e=>by
  simp only[kP];split
  . have:=uO m (acc ++ [(rC 4096 s e).g]) (rC 4096 s e).s (rC 4096 s e).e;rw[aD,List.length_singleton]at this; omega
  . omega
theorem Dt (m k:Int) (t s:List UInt8) (e:Int):(nR m k t s e).c.length<9223372036854775808:=by
 unfold nR;split
 . have:=uO (aX (sB s e).1 (sB s e).2).1.toNat [] (sB (sB s e).1 (sB s e).2).1 (sB (sB s e).1 (sB s e).2).2;have hb:=ov (sB s e).1 (sB s e).2;simp only[List.length_nil]at this;simp only; omega
 split
 . simp
 split
 . simp
 . simp
theorem yM {C:List Col} {s:List UInt8} {e:Int} (hC:C.length<=16) (hs:s.length<=1000000000) :
 bd ((kF C s e).getD [])/\((kF C s e).getD []).length<9223372036854775808 /\ ∀v∈(kF C s e).getD [],ei v.n:=by
 cases h:kF C s e with
 | none=>exact⟨d9,by simp,fun v hv=>by simp at hv⟩
 | some vs =>
  obtain⟨h1,h2⟩:=KW hC hs h;exact⟨h1,h2,fun v hv=>((qW h).2 v hv).2⟩
theorem jJ:ei 0:=⟨by decide,by decide⟩
theorem II {b:List UInt8} {l:List Tb} (hl:TbsB l) (hb:b.length<=1000000000):oI (yN b l).1/\gl (yN b l).1:=by
 have hsl:(sB b 0).1.length<=b.length:=(lC b 0).1;unfold yN;generalize (aX b 0).1=k at *;generalize (sB b 0).1=s at *;generalize (sB b 0).2=e at *;by_cases hk:k=3\/k=4\/k=5
 . have hsl2:=(ta b.length s e).1;obtain⟨t,ht⟩:∃t,(bi b.length s e).1=t:=⟨_,rfl⟩;obtain⟨s2,hs2⟩:∃t,(bi b.length s e).2.1=t:=⟨_,rfl⟩;obtain⟨e2,he2⟩:∃t,(bi b.length s e).2.2=t:=⟨_,rfl⟩;have hT:bi b.length s e=(t,s2,e2):=by rw[<-ht,<-hs2,<-he2]
   rw[hs2]at hsl2;cases hf:cf l t with
   | none=>rw[yK hk hT hf]; exact⟨wl _ _ _,⟨jJ,fun v hv=>by simp at hv,fun v hv=>by simp at hv⟩⟩
   | some w =>
    obtain⟨C,K⟩:=w;obtain⟨_,hC,_⟩:=hl.found hf;by_cases h5:k=5
    . subst h5;rw[wq hT hf];obtain⟨h1,h2,h3⟩:=yM (C:=C.take K.toNat) (s:=s2) (e:=e2) (by rw[List.length_take]; omega) (by omega)
      exact⟨⟨h1,d9,h2,by simp,by simp[br]⟩,⟨jJ,h3,fun v hv=>by simp at hv⟩⟩
    . rw[wr (by omega) hT hf]
      obtain⟨h1,h2,h3⟩:=yM (C:=C) (s:=s2) (e:=e2) (by omega) (by omega)
      exact⟨⟨d9,h1,by simp,h2,by simp[br]⟩,⟨jJ,fun v hv=>by simp at hv,h3⟩⟩
 . unfold Dr;rw[if_neg hk];split
   . exact⟨ES _ _ (Dt _ _ _ _ _),⟨jJ,fun v hv=>by simp at hv,fun v hv=>by simp at hv⟩⟩
   . have:=qk s e;have:=Cw s e;exact⟨wl _ _ _,⟨show ei (iN s e).1 from⟨by omega,by omega⟩,fun v hv=>by simp at hv,fun v hv=>by simp at hv⟩⟩
theorem KO {k:Int} {l:List Tb} {s:List UInt8} {e:Int} {x:Evt × List UInt8 × Int} (h:DI k l s e=some x):gl x.1:=by
 unfold DI at h;split at h
 . split at h
   . rename_i hp;cases h;unfold HL at hp;split at hp
     . cases hp
     split at hp
     . cases hp
     rename_i vs hr;simp only[Option.some.injEq,Prod.mk.injEq]at hp;obtain⟨_,rfl,_⟩:=hp;exact⟨jJ,fun v hv=>by simp at hv,fun v hv=>((qW hr).2 v hv).2⟩
   . cases h
 split at h
 . split at h
   . rename_i hp;cases h;unfold HK at hp;split at hp
     . cases hp
     split at hp
     . cases hp
     rename_i vs hr;simp only[Option.some.injEq,Prod.mk.injEq]at hp;obtain⟨_,rfl,_⟩:=hp;exact⟨jJ,fun v hv=>((qW hr).2 v hv).2,fun v hv=>by simp at hv⟩
   . cases h
 split at h
 . split at h
   . cases h;exact⟨jJ,fun v hv=>by simp at hv,fun v hv=>by simp at hv⟩
   . cases h
 split at h
 . cases h;have h1:=qk s e;have h2:=Cw s e;exact⟨show ei (iN s e).1 from⟨by omega,by omega⟩,fun v hv=>by simp at hv,fun v hv=>by simp at hv⟩
 . cases h
def Kk (b:List UInt8) (l:List Tb):Evt × Int :=
 if(yN b l).2 then(jB,7)else if cm (yN b l).1 l=0/\cC (yN b l).1=b then((yN b l).1,0)else(jB,2)
theorem xB {b:List UInt8} {f:Bool} {l:List Tb} (hl:TbsB l) (hb:b.length<=1000000000)
 (h:Q (.tup [tZ (Kk b l).1,fI (Kk b l).2]) []):ACall Tryz.prog 74 0 [.sl 1 (bs b) f,.sl 3 (tbs l) false] [] Q:=by
 refine ACall.ret (ad Tryz.func74 0 rfl (aA rfl) ?_)
 conv=>whnf
 refine .pure (Ad hl hb ⟨rfl,?_⟩);obtain⟨hT,hN⟩:=II hl hb;unfold Kk at h;generalize (yN b l).1=g at *;cases hm:(yN b l).2<;>rw[hm]at h<;>conv=>whnf
 rotate_left
 focus
  exact⟨[],rfl,.sub _ _ (.tup (.cons (.agg (qN 0)) (VSubs.refl _))) (HSub.refl _) (.done [] rfl h)⟩
 refine⟨[0,1,2,3,4,5,6,9,10,7,8,11,12],by kernel_rfl,by kernel_rfl,?_⟩
 conv=>whnf
 refine .pure (pE (e:=g) hl hT ⟨rfl,?_⟩)
 repeat (conv=>whnf
         refine⟨rfl,?_⟩)
 conv=>whnf
 refine ac (fun c1=>?_) (fun c1=>?_)<;>try rw[c1]<;>conv=>whnf
 focus
  have c1' : ¬cm g l=0:=by simpa using c1
  rw[if_neg (by decide),if_neg (fun hx=>c1' hx.1)]at h
  exact⟨[],rfl,.sub _ _ (.tup (.cons (.agg (qN 0)) (VSubs.refl _))) (HSub.refl _) (.done [] rfl h)⟩
 have c1' : cm g l=0:=by simpa using c1
 refine⟨b,bz _,?_⟩
 conv=>whnf
 refine .pure (nf (e:=g) hl hN c1' ⟨rfl,?_⟩)
 repeat (conv=>whnf
         first | (refine⟨rfl,?_⟩) | (refine⟨⟨b,bz _,rfl⟩,?_⟩))
 conv=>whnf
 refine⟨cC g,bz _,?_⟩
 repeat (conv=>whnf
         first | (refine⟨rfl,?_⟩) | (refine⟨⟨_,bz _,rfl⟩,?_⟩))
 conv=>whnf
 refine ac (fun c2=>?_) (fun c2=>?_)<;>try rw[c2]<;>conv=>whnf
 focus
  have c2' : ¬cC g=b:=by simpa using c2
  rw[if_neg (by decide),if_neg (fun hx=>c2' hx.2)]at h
  exact⟨[],rfl,.sub _ _ (.tup (.cons (.agg (qN 0)) (VSubs.refl _))) (HSub.refl _) (.done [] rfl h)⟩
 focus
  have c2' : cC g=b:=by simpa using c2
  rw[if_neg (by decide),if_pos ⟨c1', c2'⟩]at h
  exact⟨[],rfl,.done [] rfl h⟩
theorem Bn {b:List UInt8} {l:List Tb} (hl:TbsB l) (hb:b.length<=1000000000):kC b l=Kk b l:=by
 obtain⟨hT,hN⟩:=II hl hb;have hmi:(yN b l).2=sY (aX b 0).1 l (sB b 0).1 (sB b 0).2:=by
  have hsl:(sB b 0).1.length<=b.length:=(lC b 0).1;unfold yN;exact Hy hl (by omega) (by omega)
 have bad:(¬ ∃ev,HQ b l=some ev/\cm ev l=0)->kC b l=(jB,if sY (aX b 0).1 l (sB b 0).1 (sB b 0).2 then 7 else 2):=fun hn=>by
  unfold kC;cases hp:HQ b l with
  | none=>rfl
  | some ev =>
   simp only;rw[if_neg (fun h0=>hn ⟨ev,hp,h0⟩)]
 by_cases hx:∃ev,HQ b l=some ev/\cm ev l=0
 . obtain⟨ev,hp,h0⟩:=hx;have hw:=JL hl hp (dF h0);have hbN:gl ev:=by
    unfold HQ at hp;split at hp
    . split at hp
      . rename_i hpe hend;cases hp;exact KO hpe
      . cases hp
    . cases hp
   have hg:=KH hl (dF h0) hbN;rw[hw]at hg;unfold kC Kk;rw[hp,hg];simp only[h0,hw];rfl
 . rw[bad hx];unfold Kk;rw[hmi];cases sY (aX b 0).1 l (sB b 0).1 (sB b 0).2
   . rw[if_neg (by decide),if_neg (by decide),if_neg]
     rintro⟨h0,hw⟩;refine hx ⟨(yN b l).1,?_,h0⟩;have:=IK hl (dF h0) hN;rw[hw]at this;exact this
   . rfl
theorem o9 {n:Int} (h:-9223372036854775808<=n/\n<=9223372036854775807):IntKind.i64.wrap n=n:=by rw[IntKind.wrap_i64]; omega
theorem ud {H:List O} {i a n j b m:Nat} {f g:Bool} (hij:i≠j) (hi:rl (ar H i)) (hj:rl (ar H j)):GA Tryz.prog 168 [.ms 3 i a n f,.ms 3 j b m g] H (.bool false):=⟨fun I ρ w us hst h=>by
 obtain⟨u0,l0,e0,h0,h⟩:=h.cons_inv;obtain⟨u1,l1,e1,h1,h⟩:=h.cons_inv;have e2:l1 = []:=List.eq_nil_of_length_eq_zero h.1.symm;have eu:us = #[u0,u1]:=by
  apply Array.ext';rw[e0,e1,e2]
 subst eu;refine⟨_,?_,.bool _ _⟩;rw[run_callFunc_extern Tryz.func168 (by kernel_rfl) (by kernel_rfl) (by kernel_rfl) (e:=Extern.SlicesOverlaps.overlaps #[25,25] #[4]) (by kernel_rfl)]
 rw[wP Tryz.underlying25 (size:=3) Tryz.sizeOf48 hst (by decide) hij hi hj h0 h1]
 rfl⟩
theorem JE {z b n B:Nat} {X Y:List (List V)} {H:List O} {K:V->List O->Prop} (hX:X=Y) (hn:Y.length=n) (hB:b<=B) (hs:n*B<=70368744177664) (hK:aV (H ++ [.buf Y]) fun H' => K (.ms z H.length 0 n false) H'):bJ z b X H K:=by
 subst hX;subst hn;exact⟨Nat.le_trans (Nat.mul_le_mul_left _ hB) hs,hK⟩
theorem fj {α:Type} (A B:List α):List.take A.length (A++B)=A:=by simp
theorem E2 {es Y Y1 Y2:List (List V)} {x:List V} {i k m:Nat} (hlt:i<=es.length) (hk:k=1) (hm:m=es.length-i) (hYl:Y.length=es.length+1) (hYt:Y.take i=es.take i)
 (h1:Y1=List.take (i+0) Y++List.take k (List.drop 0 [x])++List.drop (i+0+k) Y) (h2:Y2=List.take (i+1+0) Y1++List.take m (List.drop (i+0) es)++List.drop (i+1+0+m) Y1) :
 Y2=es.take i ++ [x]++es.drop i:=by
 subst hk;simp only[Nat.add_zero,List.drop_zero,hYt]at h1 h2;have e1:List.take 1 [x] = [x]:=rfl;rw[e1]at h1;have hl:(es.take i ++ [x]).length=i+1:=by rw[aD,List.length_take,List.length_singleton]; omega
 have e2:List.take (i+1) Y1=es.take i ++ [x]:=by rw[h1,<-hl]; exact fj _ _
 have e3:List.drop (i+1+m) Y1 = []:=by
  apply List.drop_eq_nil_of_le;rw[h1,aD,hl,List.length_drop]; omega
 have e4:List.take m (List.drop i es)=List.drop i es:=List.take_of_length_le (by rw[List.length_drop]; omega)
 rw[h2,e2,e3,e4,List.append_nil]
theorem Dy {es E Y1 Y2:List (List V)} {x:List V} {i k n m:Nat} (hlt:i<es.length) (hm:0<m) (hn:n=es.length-i) (hk:k=1) (hE:E=es++List.replicate m [])
 (h1:Y1=List.take (i+1+0) E++List.take n (List.drop (i+0) E)++List.drop (i+1+0+n) E) (h2:Y2=List.take (i+0) Y1++List.take k (List.drop 0 [x])++List.drop (i+0+k) Y1) :
 Y2=es.take i ++ [x]++es.drop i++List.replicate (m-1) []:=by
 subst hk;simp only[Nat.add_zero,List.drop_zero]at h1 h2;have e1:List.take 1 [x] = [x]:=rfl;rw[e1]at h2;have d1:List.drop i E=es.drop i++List.replicate m []:=by rw[hE,List.drop_append_of_le_length (by omega)]
 have t1:List.take n (List.drop i E)=es.drop i:=by
  rw[d1,show n=(es.drop i).length by rw[List.length_drop]; exact hn]; exact fj _ _
 have d2:List.drop (i+1+n) E=List.replicate (m-1) []:=by
  rw[hE,List.drop_append,List.drop_eq_nil_of_le (by omega),List.nil_append,List.drop_replicate]
  congr 1; omega
 rw[t1,d2]at h1;have l1:(List.take (i+1) E).length=i+1:=by rw[List.length_take,hE,aD,List.length_replicate]; omega
 have t2:List.take i Y1=es.take i:=by
  rw[h1,List.append_assoc,List.take_append_of_le_length (by omega),List.take_take,show min i (i+1)=i by omega,hE,List.take_append_of_le_length (by omega)]
 have d3:List.drop (i+1) Y1=es.drop i++List.replicate (m-1) []:=by
  rw[h1,List.append_assoc,List.drop_append_of_le_length (by omega),List.drop_eq_nil_of_le (by omega),List.nil_append]
 rw[h2,t2,d3,<-List.append_assoc]
set_option maxRecDepth 8000 in
theorem vt {es:List (List V)} {x:List V} {i:Nat} (hl:es.length<=1000) (hi:i<=es.length) (hne:∀r∈es,r ≠ []) (hx:x ≠ []) (h:Q (.ms 3 0 0 (es.length+1) false) [.buf (es.take i ++ [x]++es.drop i)]) :
 ACall Tryz.prog 140 0 [.ms 3 0 0 es.length false,fI i,.ms 3 1 0 1 true] [.buf es,.buf [x]] Q:=by
 refine ACall.ret (ad Tryz.func140 0 rfl (aA rfl) ?_)
 conv=>whnf
 refine⟨⟨by omega,by omega⟩,?_⟩
 conv=>whnf
 refine ac (fun c1=>?_) (fun c1=>?_)<;>try rw[c1]<;>conv=>whnf
 . have c1' := aB c1;have hin:i=es.length:=by omega
   subst hin;refine⟨Nat.le_refl 1,?_⟩;refine eo rfl rfl rfl (Nat.le_trans (Nat.mul_le_mul_right _ (Nat.add_le_add hl (show 1<=1 by omega))) (show(1000+1)*48<=70368744177664 by omega)) ?_
   conv=>whnf
   refine⟨[2],rfl,.done [0] rfl ?_⟩;rw[List.take_length,List.drop_length,List.append_nil]at h;exact h
 have c1' := aG c1;have hlt:i<es.length:=by omega
 refine⟨⟨by omega,by omega⟩,fun m=>?_⟩
 conv=>whnf
 have hw1:IntKind.i64.wrap ((es.length:Int)+((1:Nat):Int))=((es.length+1:Nat):Int):=by rw[o9 (by omega)]; omega
 have hi1:IntKind.i64.wrap ((i:Int)+1)=((i+1:Nat):Int):=by rw[o9 (by omega)]; omega
 have hi2:IntKind.i64.wrap ((i:Int)+((1:Nat):Int))=((i+1:Nat):Int):=hi1;rw[hw1];refine ac (fun c2=>?_) (fun c2=>?_)<;>try rw[c2]<;>conv=>whnf
 . have c2' := aB c2;have hm0:m=0:=by omega
   subst hm0;refine⟨by omega,?_⟩
   conv=>whnf
   have hw3:IntKind.i64.wrap (IntKind.i64.wrap ((es.length:Int)+((1:Nat):Int))-(i:Int))=((es.length+1-i:Nat):Int):=by rw[hw1,o9 (by omega)]; omega
   rw[hw3];refine⟨⟨by omega,by omega,?_,?_,?_⟩,?_⟩
   all_goals try rw[show(es++List.replicate 0 [])=es from List.append_nil es]
   . omega
   . omega
   . intro r hr;exact hne r (List.mem_of_mem_take hr)
   obtain⟨Y,hY⟩:∃Y,Y=List.take i (List.drop 0 es)++List.replicate (es.length+1-i) ((cx Tryz.f140.ntmps 0).T 48).zero:=⟨_,rfl⟩;have hYl:Y.length=es.length+1:=by rw[hY,aD,List.length_take,List.length_replicate,List.drop_zero]; omega
   refine JE (B:=48) (n:=es.length+1) (Y:=Y) hY.symm hYl (by decide) (by omega) ?_
   conv=>whnf
   refine⟨by omega,?_⟩
   conv=>whnf
   have hm1:min 1 (es.length+1-(i:Int).toNat)=1:=by omega
   refine⟨by omega,⟨by omega,?_⟩,?_,?_⟩
   . rw[hm1];exact Nat.le_refl 1
   . omega
   obtain⟨Y1,hY1⟩:∃Y1,Y1=(List.take ((i:Int).toNat+0) Y++List.take (min 1 (es.length+1-(i:Int).toNat)) (List.drop 0 [x])++List.drop ((i:Int).toNat+0+min 1 (es.length+1-(i:Int).toNat)) Y):=⟨_,rfl⟩;rw[<-hY1]
   conv=>whnf
   refine⟨[0,1,2,3,4,5,6,7,8],by kernel_rfl,by kernel_rfl,?_⟩
   conv=>whnf
   rw[hi2];refine⟨by omega,?_⟩
   conv=>whnf
   refine⟨by omega,?_⟩
   conv=>whnf
   have hY1l:Y1.length=es.length+1:=by
    rw[hY1,hm1,aD,aD,List.length_take,List.length_drop,hYl,show(List.take 1 (List.drop 0 [x])).length=1 from rfl]; omega
   have hm2:min (es.length-(i:Int).toNat) (es.length+1-((i+1:Nat):Int).toNat)=es.length-i:=by omega
   refine⟨by omega,⟨by omega,by omega,?_⟩,by omega,?_⟩
   . intro r hr;exact hne r (List.mem_of_mem_drop (List.mem_of_mem_take hr))
   obtain⟨Y2,hY2⟩:∃Y2,Y2=(List.take (((i+1:Nat):Int).toNat+0) Y1++List.take (min (es.length-(i:Int).toNat) (es.length+1-((i+1:Nat):Int).toNat)) (List.drop ((i:Int).toNat+0) es) ++
    List.drop (((i+1:Nat):Int).toNat+0+min (es.length-(i:Int).toNat) (es.length+1-((i+1:Nat):Int).toNat)) Y1):=⟨_,rfl⟩
   rw[<-hY2]
   conv=>whnf
   refine⟨[2],rfl,.done [0] rfl ?_⟩;show Q (.ms 3 0 0 (es.length+1) false) [.buf Y2]
   rw[E2 hi hm1 hm2 hYl ?_ hY1 hY2]
   . exact h
   rw[hY,List.drop_zero];have:i=(List.take i es).length:=by rw[List.length_take]; omega
   conv=>lhs; arg 1; rw[this]
   exact fj _ _
 . have c2' := aG c2;rw[hw1];refine⟨⟨by omega,.inr ⟨by omega,?_⟩⟩,?_⟩
   . show 0+(es.length+1)<=(es++List.replicate m []).length
     rw[aD,List.length_replicate];omega
   conv=>whnf
   rw[hi2];refine⟨by omega,?_⟩
   conv=>whnf
   refine⟨_,ud (by decide) (by simp[ar,rl]) (by simp[ar,rl]),?_⟩
   conv=>whnf
   refine⟨[0,1,2,3,4,5,6,7,8],by kernel_rfl,by kernel_rfl,?_⟩
   conv=>whnf
   rw[hi2];refine⟨by omega,?_⟩
   conv=>whnf
   refine⟨by omega,?_⟩
   conv=>whnf
   have hm0:0<m:=by omega
   have hm2:min (((es.length+1:Nat):Int).toNat-(i:Int).toNat) (((es.length+1:Nat):Int).toNat-((i+1:Nat):Int).toNat)=es.length-i:=by omega
   have hEl:(es++List.replicate m ([]:List V)).length=es.length+m:=by rw[aD,List.length_replicate]
   refine⟨by omega,⟨by omega,by rw[hEl]; omega,?_⟩,by rw[hEl]; omega,?_⟩
   . intro r hr;rw[hm2,show((i:Int).toNat+0)=i from rfl,List.drop_append_of_le_length (by omega),show es.length-i=(es.drop i).length by rw[List.length_drop],fj]at hr
     exact hne r (List.mem_of_mem_drop hr)
   obtain⟨Y1,hY1⟩:∃Y1,Y1=(List.take (((i+1:Nat):Int).toNat+0) (es++List.replicate m ([]:List V))++List.take (min (((es.length+1:Nat):Int).toNat-(i:Int).toNat) (((es.length+1:Nat):Int).toNat-((i+1:Nat):Int).toNat)) (List.drop ((i:Int).toNat+0) (es++List.replicate m ([]:List V))) ++
    List.drop (((i+1:Nat):Int).toNat+0+min (((es.length+1:Nat):Int).toNat-(i:Int).toNat) (((es.length+1:Nat):Int).toNat-((i+1:Nat):Int).toNat)) (es++List.replicate m ([]:List V))):=⟨_,rfl⟩
   rw[<-hY1]
   conv=>whnf
   refine⟨by omega,?_⟩
   conv=>whnf
   have hm3:min 1 (((es.length+1:Nat):Int).toNat-(i:Int).toNat)=1:=by omega
   have hY1l:Y1.length=es.length+m:=by
    rw[hY1,hm2,aD,aD,List.length_take,List.length_drop,List.length_take,List.length_drop,hEl]; omega
   refine⟨by omega,⟨by omega,by rw[hm3]; exact Nat.le_refl 1⟩,by rw[hY1l]; omega,?_⟩
   obtain⟨Y2,hY2⟩:∃Y2,Y2=(List.take ((i:Int).toNat+0) Y1++List.take (min 1 (((es.length+1:Nat):Int).toNat-(i:Int).toNat)) (List.drop 0 [x])++List.drop ((i:Int).toNat+0+min 1 (((es.length+1:Nat):Int).toNat-(i:Int).toNat)) Y1):=⟨_,rfl⟩;rw[<-hY2];have hr:=Dy hlt hm0 hm2 hm3 rfl hY1 hY2
   conv=>whnf
   refine⟨[0],rfl,?_⟩
   conv=>whnf
   show ARet 0 Q (.ms 3 0 0 (es.length+1) false) [.bufc Y2]
   have hzl:(es.take i ++ [x]++es.drop i).length=es.length+1:=by
    rw[aD,aD,List.length_take,List.length_drop,List.length_singleton]; omega
   have hYt:Y2.take (es.length+1)=es.take i ++ [x]++es.drop i:=by
    rw[hr,<-hzl]; exact fj _ _
   refine .sub _ _ (.refl _) (.cons (.bufc Y2 (es.length+1) ?_ ?_) (HSub.refl _)) (.done [0] rfl ?_)
   . intro r hr;rw[hYt]at hr;simp only[List.mem_append,List.mem_singleton]at hr;rcases hr with(hr | hr) | hr
     . exact hne r (List.mem_of_mem_take hr)
     . rw[hr]; exact hx
     . exact hne r (List.mem_of_mem_drop hr)
   . intro h0;rw[h0]at hYt;have:=congrArg List.length hYt;rw[hzl]at this;simp at this
   . show Q (.ms 3 0 0 (es.length+1) false) [.buf (Y2.take (es.length+1))]
     rw[hYt];exact h
end
end Go.Proofs.YteiagdlfccbpcaaGreatDoorPg
