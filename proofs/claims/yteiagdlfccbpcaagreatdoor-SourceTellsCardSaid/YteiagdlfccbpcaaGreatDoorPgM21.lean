/- Own texts, laid together: Pg10ZDSoP, Pg10ZDSoQ, Pg10ZDSoR, Pg10ZDSoS, Pg10ZDSoT, Pg10ZDSoU, Pg10ZDSoV, Pg10ZDEv15, Pg10ZDSoW, Pg10ZDSoX, Pg10ZDSoY, Pg10ZDSoZe, Pg10ZDSoZf, Pg10ZDBlS, Pg10ZDBlD, Pg10ZDBlE, Pg10ZDSoZg, Pg10ZDSoZh, Pg10ZDSoZi. -/
import Derived.Test.YteiagdlfccbpcaaGreatDoorPgM20
import Derived.Test.YteiagdlfccbpcaaGreatDoorPgM19
import Derived.Test.YteiagdlfccbpcaaGreatDoorPgM18
set_option linter.unusedSimpArgs false
set_option linter.unusedVariables false
set_option maxHeartbeats 64000000
namespace Go.Proofs.YteiagdlfccbpcaaGreatDoorPg
open Go Go.RowKit
section
variable {Q:V->List O->Prop}
def sC (s:SS):List V:=[.sl 3 (tbs s.l) false,.sl 1 (mA s.R) false,.sl 1 (bs s.log) false,fI s.n,fI s.m]
def IR:List V:=[.nils,.nils,.nils,fI 0,fI 0]
def KA (x:SS × Int):V:=.tup [sV x.1,fI x.2]
theorem KM {a b n:Nat} (h1:a<=b+1000020*(n+1)) (h2:b+1000020*(n+2)<=700000000):a<=700000000 :=
 Nat.le_trans h1 (Nat.le_trans (Nat.add_le_add_left (Nat.mul_le_mul_left _ (Nat.le_succ _)) _) h2)
theorem Lg {a b i n:Nat} (h1:a<=b+1000020*(min i n+1)) (h2:b+1000020*(n+2)<=700000000):a<=700000000 :=
 KM (Nat.le_trans h1 (Nat.add_le_add_left (Nat.mul_le_mul_left _ (Nat.succ_le_succ (Nat.min_le_right _ _))) _)) h2
def JV (s:SS) (ds:List Dd) (u f:Bool) (b:Nat) (k:Nat) (ws:List V) (H:List O):Prop :=
 ∃(i:Nat) (R' : List (List Rw)),ws = [.sl 3 (ie ds) f,.bool u,.ptr 0 0,.ptr 2 0,.ptr 3 0,fI i,.ptr 1 0] /\
  H = [.cells (sC s),.cells IR,.cells (sC s),.cells (sC { s with R:=R', log:=aR s.log (bh 2 s.n::(ds.take i).map dn) })] /\
  DocOk s.l R' (b+i)/\gY s.l s.R ds=gY s.l R' (ds.drop i)/\(∀e∈(ds.take i).map dn,cm e s.l=0/\gl e)/\i<=ds.length/\k=ds.length-i
set_option maxRecDepth 8000 in
theorem rp {s:SS} {ds:List Dd} {u f:Bool} {b:Nat} (hS:DocOk s.l s.R b) (hB:SrcB s 1000000) (hd:∀d∈ds,gV d) (hds:ds.length<=1000) (hb:b<800000) (hs:s.log.length+1000020*(ds.length+2)<=700000000)
 (h:Q (KA (oW s ds u)) []):ACall Tryz.prog 30 0 [sV s,.sl 3 (ie ds) f,.bool u] [] Q:=by
 refine ad Tryz.func30 0 rfl (aA rfl) ?_;have h1:=hB.n0; have h2:=hB.n1; have h3:=hB.m0; have h4:=hB.m1;have hl:=hS.tbs;have hdl:=nJ ds
 conv=>whnf
 refine .pure (ACall.args (.cons (.refl _) (.cons (eO 2 s.n) .nil)) (dy (s:=s) (e:=bh 2 s.n) hl (bA rfl h1) (du (by unfold ei; omega)) (by omega) ⟨rfl,?_⟩))
 conv=>whnf
 refine⟨⟨[1,2,3,8,9,10,6],JV s ds u f b,.at ds.length ⟨0,s.R,rfl,rfl,hS,rfl,fun e he=>by simp at he,by omega,rfl⟩,?_⟩⟩
 rintro k ws H ⟨i,R', rfl,rfl,hD,hdr,hpre,hi,rfl⟩
 conv=>whnf
 have htl:=cW hl (bh 2 s.n::(ds.take i).map dn) s.log;refine ac (fun c1=>?_) (fun c1=>?_)<;>try rw[c1]<;>conv=>whnf
 . have c1' := aB c1;have hil:i<ds.length:=by omega
   have hg:ds[i]? = some ds[i]:=aS hil;have hti:(ds.take (i+1)).map dn=(ds.take i).map dn ++ [dn ds[i]]:=by rw[List.take_add_one,hg,List.map_append]; rfl
   have hdr' : ds.drop i=ds[i]::ds.drop (i+1):=List.drop_eq_getElem_cons hil;have hdi:=hd ds[i] (List.getElem_mem hil);rw[hdr']at hdr;generalize ds[i]=d at *;refine⟨List.range 15,by kernel_rfl,by kernel_rfl,?_⟩
   conv=>whnf
   refine⟨_,⟨by omega,qI hg⟩,?_⟩
   conv=>whnf
   refine .pure (rn (s:={ s with R:=R', log:=aR s.log (bh 2 s.n::(ds.take i).map dn) }) (d:=d) hD (by omega) hdi.t ⟨rfl,?_⟩)
   by_cases he:bn s.l R' d=0
   rotate_left
   . rw[show sb { s with R:=R', log:=aR s.log (bh 2 s.n::(ds.take i).map dn) } d=(_,jB,bn s.l R' d)from if_neg he]
     have hdo:gY s.l s.R ds=(R', bn s.l R' d):=by rw[hdr]; exact if_neg he
     rw[sg (by rw[hdo]; exact he),hdo]at h
     have h:Q (KA (s,bn s.l R' d)) []:=h;generalize bn s.l R' d=er at *
     repeat (conv=>whnf
             refine⟨rfl,?_⟩)
     conv=>whnf
     rw[show(!decide (er=0))=true by simp[he]]
     conv=>whnf
     exact⟨[],rfl,h⟩
   . rw[show sb { s with R:=R', log:=aR s.log (bh 2 s.n::(ds.take i).map dn) } d=({ s with R:=wd s.l R' d,log:=aR s.log (bh 2 s.n::(ds.take i).map dn) },dn d,0)from if_pos he]
     have hem:=AQ hl he hdi.t hdi.n;have htl:=htl (fun e hx=>by
      rcases List.mem_cons.1 hx with rfl | hx
      . exact⟨bA rfl h1,du (by unfold ei; omega)⟩
      . exact hpre e hx)
     simp only[List.length_cons,List.length_map,List.length_take]at htl;have hsn:aR s.log (bh 2 s.n::(ds.take (i+1)).map dn)=aR s.log (bh 2 s.n::(ds.take i).map dn)++dD (cC (dn d)):=by
      rw[hti,<-List.cons_append]; exact kI _ _ _
     have hD' := hD.deed he;have hpre' : ∀e∈(ds.take (i+1)).map dn,cm e s.l=0/\gl e:=fun e hx=>by
      rw[hti]at hx;rcases List.mem_append.1 hx with hx | hx
      . exact hpre e hx
      . rw[List.mem_singleton.1 hx]; exact⟨hem.1,hem.2.1⟩
     have hdr2:gY s.l s.R ds=gY s.l (wd s.l R' d) (ds.drop (i+1)):=by rw[hdr]; exact mO _ he
     generalize wd s.l R' d=R2 at *;generalize dn d=e at *;generalize aR s.log (bh 2 s.n::(ds.take i).map dn)=log1 at *;have hL:log1.length<=700000000:=Lg htl hs
     repeat (conv=>whnf
             refine⟨rfl,?_⟩)
     conv=>whnf
     refine .pure (dy (s:={ s with R:=R2,log:=log1 }) (e:=e) hl hem.1 hem.2.1 hL ⟨rfl,?_⟩)
     conv=>whnf
     refine .go [0,1,2,3] rfl (ds.length-(i+1)) (by omega) ⟨i+1,R2,?_,?_,hD', hdr2,hpre', by omega,rfl⟩
     . show [V.sl 3 (ie ds) f,.bool u,.ptr 0 0,.ptr 2 0,.ptr 3 0,.int .i64 (IntKind.i64.wrap ((i:Int)+1)),.ptr 1 0]=_
       rw[dm (by omega)]; rfl
     . rw[hsn]; rfl
 . have c1' := aG c1;have hie:i=ds.length:=by omega
   subst hie;have hdo:gY s.l s.R ds=(R', 0):=by rw[hdr,List.drop_length]; rfl
   rw[oX (by rw[hdo]),hdo]at h
   rw[List.take_length]at hpre ⊢;have htl:=cW hl (bh 2 s.n::ds.map dn) s.log (fun e hx=>by
    rcases List.mem_cons.1 hx with rfl | hx
    . exact⟨bA rfl h1,du (by unfold ei; omega)⟩
    . exact hpre e hx)
   simp only[List.length_cons,List.length_map]at htl;have hlog:∀k:Int,aR s.log (bh 2 s.n::ds.map dn)++dD (cC (bh k s.n))=aR s.log (bh 2 s.n::(ds.map dn ++ [bh k s.n])):=fun k=>by
    rw[<-List.cons_append]; exact(kI _ _ _).symm
   generalize hl1:aR s.log (bh 2 s.n::ds.map dn)=log1 at *;have hL:log1.length<=700000000:=KM htl hs;cases u
   . conv=>whnf
     refine .pure (ACall.args (.cons (.refl _) (.cons (eO 7 s.n) .nil)) (dy (s:={ s with R:=R', log:=log1 }) (e:=bh 7 s.n) hl (bA rfl h1) (du (by unfold ei; omega)) hL ⟨rfl,?_⟩))
     rw[hlog]
     conv=>whnf
     refine⟨[],rfl,?_⟩;show Q (.tup [.agg [_,_,_,.int .i64 (IntKind.i64.wrap (s.n+1)),.int .i64 (IntKind.i64.wrap (s.m+1))],fI 0]) []
     rw[aQ (by omega),aQ (by omega)]
     exact h
   . conv=>whnf
     refine .pure (ACall.args (.cons (.refl _) (.cons (eO 8 s.n) .nil)) (dy (s:={ s with R:=R', log:=log1 }) (e:=bh 8 s.n) hl (bA rfl h1) (du (by unfold ei; omega)) hL ⟨rfl,?_⟩))
     rw[hlog]
     conv=>whnf
     refine⟨[],rfl,?_⟩;show Q (.tup [.agg [_,_,_,.int .i64 (IntKind.i64.wrap (s.n+1)),_],fI 0]) []
     rw[aQ (by omega)]
     exact h
def fB (s:SS) (hi:Bool) (k:Int):SS × Int:=if k<0 then(s,1)else({ s with log:=s.log++dD (cC (bh (if hi then 10 else 9) k)) },0)
theorem Af {s:SS} {hi:Bool} {k:Int} (hl:TbsB s.l) (hk:ei k) (hs:s.log.length<=700000000) (h:Q (KA (fB s hi k)) []):ACall Tryz.prog 34 0 [sV s,.bool hi,fI k] [] Q:=by
 refine ad Tryz.func34 0 rfl (aA rfl) ?_;unfold fB at h
 conv=>whnf
 refine ac (fun c1=>?_) (fun c1=>?_)<;>try rw[c1]<;>conv=>whnf
 . rw[if_pos (aB c1)]at h;exact⟨[],rfl,h⟩
 have c1' := aG c1;rw[if_neg c1']at h;cases hi
 . conv=>whnf
   refine .pure (ACall.args (.cons (.refl _) (.cons (eO 9 k) .nil)) (dy (s:=s) (e:=bh 9 k) hl (bA rfl (by omega)) (du hk) hs ⟨rfl,?_⟩))
   conv=>whnf
   exact⟨[],rfl,h⟩
 . conv=>whnf
   refine .pure (ACall.args (.cons (.refl _) (.cons (eO 10 k) .nil)) (dy (s:=s) (e:=bh 10 k) hl (bA rfl (by omega)) (du hk) hs ⟨rfl,?_⟩))
   conv=>whnf
   exact⟨[],rfl,h⟩
def AA (l:List Tb) (R:List (List Rw)) (c:Chg) (x:Tb):List Rw:=match dP l x.n with
 | none=>[]
 | some i=>if x.n=c.t then(match l[i]? with
  | some t=>bK t c (R.getD i [])
  | none=>[])else R.getD i []
theorem x5 (l:List Tb) (R:List (List Rw)) (c:Chg) (l' : List Tb) (x:Tb):cw l R c (l' ++ [x])=cw l R c l' ++ [AA l R c x]:=by unfold cw AA; rw[List.map_append]; rfl
theorem rJ (l:List Tb) (R:List (List Rw)) (c:Chg) (l' : List Tb):(cw l R c l').length=l'.length:=by simp[cw]
theorem F0 (R:List (List Rw)) (x:List Rw):mA (R ++ [x])=mA R ++ [[.sl 1 (cK x) false]]:=by simp[mA]
theorem C6 {X:List (List V)} {w w' : List V} (h:VSubs w w'):OSub (.buf (X ++ [w])) (.buf (X ++ [w'])):=by
 refine .bufR (by simp) fun i a b ha hb=>?_
 rcases Nat.lt_or_ge i X.length with hi | hi
 . rw[List.getElem?_append_left hi]at ha hb;rw[ha]at hb; cases hb;exact VSubs.refl _
 . rw[List.getElem?_append_right hi]at ha hb;obtain h0:i-X.length=0:=by
    have:=(liZ.1 ha).1;simp at this; omega
   rw[h0]at ha hb;cases ha; cases hb;exact h
def Eh (s:SS) (ch:Chg) (l' : List Tb) (log' : List UInt8) (k:Nat) (ws:List V) (H:List O):Prop :=
 ∃i:Nat,ws = [.ptr 0 0,.ptr 1 0,.ptr 2 0,.sl 3 (tbs l') false,.ptr 4 0,.ms 1 5 0 i false,fI i,fI 0] /\
  H = [.cells (sC s),.cells (Kv ch),.cells IR,.dead,.cells (sC { s with log:=log' }),.buf (mA (cw s.l s.R ch (l'.take i)))]/\i<=l'.length/\k=l'.length-i
set_option maxRecDepth 8000 in
theorem pJ {s:SS} {ch:Chg} {b:Nat} (hS:DocOk s.l s.R b) (hB:SrcB s 1000000) (hc:ch.c.length<9223372036854775808) (hb:b<800000) (hs:s.log.length+1000020*3<=700000000)
 (h:Q (KA (bq s ch)) []):ACall Tryz.prog 32 0 [sV s,vZ ch] [] Q:=by
 refine ACall.ret (ad Tryz.func32 0 rfl (aA rfl) ?_);have h1:=hB.n0; have h2:=hB.n1; have h3:=hB.m0; have h4:=hB.m1;have hl:=hS.tbs
 conv=>whnf
 refine .pure (ACall.args (.cons (n7 6 0 ch) (VSubs.refl _)) (pE (e:=⟨6,0,[],[],[],ch⟩) hl (ES 6 0 hc) ⟨rfl,?_⟩));have hcs:cm ⟨6,0,[],[],[],ch⟩ s.l≠0->bq s ch=(s,1):=fun hx=>by unfold bq; rw[if_neg hx]
 have hal:cm ⟨6,0,[],[],[],ch⟩ s.l=0->bq s ch=(if(cZ s.l ch.k ch.t ch.c ch.ks ch.col).2=0 then
  (⟨(cZ s.l ch.k ch.t ch.c ch.ks ch.col).1,cw s.l s.R ch (cZ s.l ch.k ch.t ch.c ch.ks ch.col).1,aR s.log [bh 2 s.n,⟨6,0,[],[],[],ch⟩,bh 7 s.n],s.n+1,s.m+1⟩,0)
  else(s,(cZ s.l ch.k ch.t ch.c ch.ks ch.col).2)):=fun hx=>by unfold bq; rw[if_pos hx]
 generalize hme:cm ⟨6,0,[],[],[],ch⟩ s.l=me at *
 conv=>whnf
 refine ac (fun c1=>?_) (fun c1=>?_)<;>try rw[c1]<;>conv=>whnf
 . rw[hcs (by simpa using c1)]at h
   exact⟨[],rfl,.done [] rfl h⟩
 have c1' : me=0:=by simpa using c1
 rw[hal c1']at h;refine .pure (nk (k:=ch.k) (t:=ch.t) (cs:=ch.c) (ks:=ch.ks) (c:=ch.col) hl.few (fun x hx=>(hl.ok.each x hx).sch) ⟨rfl,?_⟩)
 generalize hfo:cZ s.l ch.k ch.t ch.c ch.ks ch.col=fo at *
 conv=>whnf
 refine ac (fun c2=>?_) (fun c2=>?_)<;>try rw[c2]<;>conv=>whnf
 . rw[if_neg (by simpa using c2)]at h
   exact⟨[],rfl,.done [] rfl h⟩
 have c2' : fo.2=0:=by simpa using c2
 rw[if_pos c2']at h;obtain⟨l', e'⟩:=fo;simp only at c2';subst c2';refine⟨[0,1,2,3,5,7,8,9,4,6,10,11,12],by kernel_rfl,by kernel_rfl,?_⟩
 conv=>whnf
 refine .pure (ACall.args (.cons (.refl _) (.cons (eO 2 s.n) .nil)) (dy (s:=s) (e:=bh 2 s.n) hl (bA rfl h1) (du (by unfold ei; omega)) (by omega) ⟨rfl,?_⟩))
 have e2ok:cm (bh 2 s.n) s.l=0/\gl (bh 2 s.n):=⟨bA rfl h1,du (by unfold ei; omega)⟩
 have e6ok:cm ⟨6,0,[],[],[],ch⟩ s.l=0/\gl ⟨6,0,[],[],[],ch⟩:=⟨by rw[hme]; exact c1', ER _ _ _ ⟨by decide,by decide⟩⟩
 have t1:=cW hl [bh 2 s.n] s.log (fun e he=>by rw[List.mem_singleton.1 he]; exact e2ok)
 have t2:=cW hl [bh 2 s.n,⟨6,0,[],[],[],ch⟩] s.log (fun e he=>by
  simp only[List.mem_cons,List.not_mem_nil,or_false]at he;rcases he with rfl | rfl
  . exact e2ok
  . exact e6ok)
 have q1:aR s.log [bh 2 s.n]=s.log++dD (cC (bh 2 s.n)):=rfl;have q2:aR s.log [bh 2 s.n,⟨6,0,[],[],[],ch⟩]=s.log++dD (cC (bh 2 s.n))++dD (cC ⟨6,0,[],[],[],ch⟩):=rfl;have q3:aR s.log [bh 2 s.n,⟨6,0,[],[],[],ch⟩,bh 7 s.n]=s.log++dD (cC (bh 2 s.n))++dD (cC ⟨6,0,[],[],[],ch⟩)++dD (cC (bh 7 s.n)):=rfl;rw[q1]at t1;rw[q2]at t2;rw[q3]at h;simp only[List.length_cons,List.length_nil]at t1 t2;generalize s.log++dD (cC (bh 2 s.n))=log1 at *;have b1:log1.length<=700000000:=by omega
 repeat (conv=>whnf
         refine⟨rfl,?_⟩)
 conv=>whnf
 refine .pure (ACall.args (.cons (.refl _) (.cons (n7 6 0 ch) .nil)) (dy (s:={ s with log:=log1 }) (e:=⟨6,0,[],[],[],ch⟩) hl e6ok.1 e6ok.2 b1 ⟨rfl,?_⟩))
 simp only;generalize log1++dD (cC ⟨6,0,[],[],[],ch⟩)=log2 at *;have b2:log2.length<=700000000:=by omega
 repeat (conv=>whnf
         refine⟨rfl,?_⟩)
 conv=>whnf
 refine .pure (ACall.args (.cons (.refl _) (.cons (eO 7 s.n) .nil)) (dy (s:={ s with log:=log2 }) (e:=bh 7 s.n) hl (bA rfl h1) (du (by unfold ei; omega)) b2 ⟨rfl,?_⟩))
 simp only;generalize log2++dD (cC (bh 7 s.n))=log' at *
 repeat (conv=>whnf
         refine⟨rfl,?_⟩)
 conv=>whnf
 refine⟨⟨[2,3,4,7,9,10,11,5],Eh s ch l' log', ?_,?_⟩⟩
 . refine .frz (l'.length+1) (.adopt (.sub [.ptr 0 0,.ptr 1 0,.ptr 2 0,.sl 3 (tbs l') false,.ptr 4 0,.ms 1 5 0 0 false,fI 0,fI 0] [.cells (sC s),.cells (Kv ch),.cells IR,.dead,.cells (sC { s with log:=log' }),.buf []] (.cons (.refl _) (.cons (.refl _) (.cons (.refl _) (.cons (.refl _) (.cons (.refl _) (.cons (VSub.ms0 1 5 0 false) (VSubs.refl _))))))) ?_ (.go [0,1,2,3,4,5] rfl l'.length (by omega) ⟨0,rfl,rfl,by omega,rfl⟩)))
   exact .cons (.refl _) (.cons (.refl _) (.cons (.refl _) (.cons (.dead _) (HSub.refl _))))
 have hl' : TbsB l' := by
  have:=qO (c:=ch.col) (k:=ch.k) (t:=ch.t) (cs:=ch.c) (ks:=ch.ks) hl (by rw[hfo])
  rw[hfo]at this; exact this
 have hfew:=hl'.few;have hfew0:=hl.few;have hlt:=bR l';rintro k ws H ⟨i,rfl,rfl,hi,rfl⟩
 conv=>whnf
 refine ac (fun c3=>?_) (fun c3=>?_)<;>try rw[c3]<;>conv=>whnf
 . have c3' := aB c3;have hil:i<l'.length:=by omega
   have hg:l'[i]? = some l'[i]:=aS hil;have hti:l'.take (i+1)=l'.take i ++ [l'[i]]:=by rw[List.take_add_one,hg]; rfl
   have hfm:=wo hl hfo (List.getElem_mem hil);generalize l'[i]=x at *;refine⟨List.range 9,by kernel_rfl,by kernel_rfl,?_⟩
   conv=>whnf
   refine⟨_,⟨by omega,ay hg⟩,?_⟩
   conv=>whnf
   refine .pure (dS (by omega) ⟨rfl,?_⟩)
   have hal2:(cw s.l s.R ch (l'.take i)).length=i:=by rw[rJ,List.length_take]; omega
   have hrl2:=eT (cw s.l s.R ch (l'.take i));have hnx:∀rows,AA s.l s.R ch x=rows->mA (cw s.l s.R ch (l'.take (i+1)))=mA (cw s.l s.R ch (l'.take i)) ++ [[.sl 1 (cK rows) false]]:=fun rows hr=>by rw[hti,x5,hr,F0]
   generalize hX:mA (cw s.l s.R ch (l'.take i))=X at *;have hXl:X.length=i:=by omega
   have hXs:(X.length+1)*24<=70368744177664:=by omega
   have fin:∀(rows:List Rw),AA s.l s.R ch x=rows->Eh s ch l' log' (l'.length-(i+1)) [.ptr 0 0,.ptr 1 0,.ptr 2 0,.sl 3 (tbs l') false,.ptr 4 0,.ms 1 5 0 (X.length+1) false,.int .i64 (IntKind.i64.wrap ((i:Int)+1)),fI 0]
    [.cells (sC s),.cells (Kv ch),.cells IR,.dead,.cells (sC { s with log:=log' }),.buf (X ++ [[.sl 1 (cK rows) false]])]:=fun rows hr=>⟨i+1,by rw[hXl,dm (by omega)]; rfl,by rw[hnx rows hr],by omega,rfl⟩
   rcases hfm with⟨hxl,hne⟩ | ⟨hn,hk1,hno⟩ | ⟨hn,hk1,hk2,j,t,hat,htj,rfl,hap⟩
   . obtain⟨j,hj⟩:=List.mem_iff_getElem?.1 hxl;have haj:=eR hl.ok.sorted hj;obtain⟨rs,hRj,hgd,hro,hrb⟩:=hS.get hj;have hjl:=(liZ.1 hRj).1;have hrR:=eT s.R;have fin:=fin rs (by unfold AA; rw[haj]; simp only[if_neg hne]; exact hgd)
     rw[show ji s.l x.n=(j:Int) by unfold ji D4; rw[show qC (my s.l) x.n=some j from haj]]
     repeat (conv=>whnf
             first | (refine⟨rfl,?_⟩) | (refine⟨⟨_,⟨by omega,ay hg⟩,rfl⟩,?_⟩))
     conv=>whnf
     refine⟨List.range 12,by kernel_rfl,by kernel_rfl,?_⟩
     conv=>whnf
     rw[show decide ((j:Int)≥0)=true from decide_eq_true (by omega)]
     conv=>whnf
     refine⟨_,⟨by omega,ay hg⟩,?_⟩
     conv=>whnf
     rw[show decide (x.n=ch.t)=false from decide_eq_false hne]
     conv=>whnf
     rw[show decide ((j:Int)≥0)=true from decide_eq_true (by omega)]
     conv=>whnf
     refine⟨_,⟨by omega,aK hRj⟩,?_⟩
     conv=>whnf
     refine⟨Nat.le_refl 1,?_⟩;refine eo (X:=X) (ys:=[[.sl 1 (cK rs) false]]) rfl rfl hXl.symm hXs ?_
     conv=>whnf
     exact .go [0,1,2,3,4,7] rfl (l'.length-(i+1)) (by omega) fin
   . have fin:=fin [] (by unfold AA; rw[hn,hno])
     rw[hn,ey hno]
     repeat (conv=>whnf
             first | (refine⟨rfl,?_⟩) | (refine⟨⟨_,⟨by omega,ay hg⟩,rfl⟩,?_⟩))
     conv=>whnf
     refine⟨List.range 12,by kernel_rfl,by kernel_rfl,?_⟩
     conv=>whnf
     refine⟨Nat.le_refl 1,?_⟩;refine eo (X:=X) (ys:=[[.nils]]) rfl rfl hXl.symm hXs ?_
     conv=>whnf
     exact .sub _ _ (VSubs.refl _) (.cons (.refl _) (.cons (.refl _) (.cons (.refl _) (.cons (.refl _) (.cons (.refl _) (.cons (.refl _) (.cons (.refl _) (.cons (C6 (.cons (sX false) .nil)) HSub.nil)))))))) (.go [0,1,2,3,4,7] rfl (l'.length-(i+1)) (by omega) fin)
   . obtain⟨rs,hRj,hgd,hro,hrb⟩:=hS.get htj;have hjl:=(liZ.1 hRj).1;have hjl2:=(liZ.1 htj).1;have hrR:=eT s.R;have hlt0:=bR s.l;have hrsl:=cR rs;have htk:=hl.tbk (List.mem_of_getElem? htj);have hC:=htk.few;have htu:=xi (c:=ch) (hl.ok.each t (List.mem_of_getElem? htj)).sch hro hap;have fin2:=fin (bK t ch rs) (by unfold AA; rw[hn,hat]; simp only[if_true,htj,hgd])
     rw[show ji s.l (fG t ch).n=(j:Int) by unfold ji D4; rw[show qC (my s.l) (fG t ch).n=some j by rw[hn]; exact hat]]
     generalize fG t ch=x at *
     repeat (conv=>whnf
             first | (refine⟨rfl,?_⟩) | (refine⟨⟨_,⟨by omega,ay hg⟩,rfl⟩,?_⟩))
     conv=>whnf
     refine⟨List.range 12,by kernel_rfl,by kernel_rfl,?_⟩
     conv=>whnf
     rw[show decide ((j:Int)≥0)=true from decide_eq_true (by omega)]
     conv=>whnf
     refine⟨_,⟨by omega,ay hg⟩,?_⟩
     conv=>whnf
     rw[show decide (x.n=ch.t)=true from decide_eq_true hn]
     conv=>whnf
     refine⟨⟨[2,3,4,7,9,10,11,5,12,13,14],fun k ws H=>∃p:Nat,ws = [.ptr 0 0,.ptr 1 0,.ptr 2 0,.sl 3 (tbs l') false,.ptr 4 0,.ms 1 5 0 i false,fI i,fI 0,fI j,.ms 1 6 0 p false,fI p] /\
      H = [.cells (sC s),.cells (Kv ch),.cells IR,.dead,.cells (sC { s with log:=log' }),.buf X,.buf (cK (bK t ch (rs.take p)))]/\p<=rs.length/\k=rs.length-p,?_,?_⟩⟩
     . exact .frz (rs.length+1) (.adopt (.sub [.ptr 0 0,.ptr 1 0,.ptr 2 0,.sl 3 (tbs l') false,.ptr 4 0,.ms 1 5 0 i false,fI i,fI 0,fI j,.ms 1 6 0 0 false,fI 0] _ (.cons (.refl _) (.cons (.refl _) (.cons (.refl _) (.cons (.refl _) (.cons (.refl _) (.cons (.refl _) (.cons (.refl _) (.cons (.refl _) (.cons (.refl _) (.cons (VSub.ms0 1 6 0 false) (VSubs.refl _))))))))))) (HSub.refl _) (.go [0,1,2,3,4,5,6] rfl rs.length (by omega) ⟨0,rfl,rfl,by omega,rfl⟩)))
     rintro k ws H ⟨p,rfl,rfl,hp,rfl⟩
     conv=>whnf
     refine⟨_,⟨by omega,aK hRj⟩,?_⟩
     conv=>whnf
     refine ac (fun c4=>?_) (fun c4=>?_)<;>try rw[c4]<;>conv=>whnf
     . have c4' := aB c4;have hpl:p<rs.length:=by omega
       have hgp:rs[p]? = some rs[p]:=aS hpl;have hrm:=List.getElem_mem hpl;have htp:rs.take (p+1)=rs.take p ++ [rs[p]]:=by rw[List.take_add_one,hgp]; rfl
       generalize rs[p]=r at *;have hrl:=dq (hro.fit r hrm);have htn2:bK t ch (rs.take (p+1))=bK t ch (rs.take p) ++ [cO t.c ch.k ch.col r]:=by rw[htp]; unfold bK; rw[List.map_append]; rfl
       have hca:=htu.can r hrm;have hYl:(bK t ch (rs.take p)).length=p:=by unfold bK; rw[List.length_map,List.length_take]; omega
       refine⟨List.range 20,by kernel_rfl,by kernel_rfl,?_⟩
       conv=>whnf
       refine⟨_,⟨by omega,ay htj⟩,?_⟩
       conv=>whnf
       refine⟨_,⟨by omega,aK hRj⟩,?_⟩
       conv=>whnf
       refine⟨_,⟨by omega,cg hgp⟩,?_⟩
       conv=>whnf
       refine .pure (Ai (l:=t.c) (keys:=t.k) (k:=ch.k) (c:=ch.col) (r:=r) (by omega) (by omega) hca ⟨rfl,?_⟩)
       generalize cO t.c ch.k ch.col r=r' at *;generalize bK t ch (rs.take p)=Y at *;have hYr:=cR Y
       repeat (conv=>whnf
               first | (refine⟨rfl,?_⟩) | (refine⟨⟨_,⟨by omega,ay htj⟩,rfl⟩,?_⟩) | (refine⟨⟨_,⟨by omega,aK hRj⟩,rfl⟩,?_⟩) | (refine⟨⟨_,⟨by omega,cg hgp⟩,rfl⟩,?_⟩))
       conv=>whnf
       refine⟨Nat.le_refl 1,?_⟩;refine eo (X:=cK Y) (ys:=[[fR r']]) rfl rfl (by omega) (show((cK Y).length+1)*24<=70368744177664 by omega) ?_
       repeat (conv=>whnf
               first | (refine⟨rfl,?_⟩) | (refine⟨⟨_,⟨by omega,ay htj⟩,rfl⟩,?_⟩) | (refine⟨⟨_,⟨by omega,aK hRj⟩,rfl⟩,?_⟩) | (refine⟨⟨_,⟨by omega,cg hgp⟩,rfl⟩,?_⟩))
       conv=>whnf
       refine .go [0,1,2,3,4,5,8] rfl (rs.length-(p+1)) (by omega) ⟨p+1,?_,?_,by omega,rfl⟩
       . show [V.ptr 0 0,.ptr 1 0,.ptr 2 0,.sl 3 (tbs l') false,.ptr 4 0,.ms 1 5 0 i false,fI i,fI 0,fI j,.ms 1 6 0 ((cK Y).length+1) false,.int .i64 (IntKind.i64.wrap ((p:Int)+1))]=_
         rw[dm (by omega),hYr,hYl]; rfl
       . rw[htn2,oC]; rfl
     . have c4' := aG c4;have hpe:p=rs.length:=by omega
       subst hpe;rw[List.take_length];have hTl:=cR (bK t ch rs);have hTl2:(bK t ch rs).length=rs.length:=by unfold bK; rw[List.length_map]
       have hTk:List.take rs.length (List.drop 0 (cK (bK t ch rs)))=cK (bK t ch rs):=by rw[List.drop_zero,List.take_of_length_le (by omega)]
       refine⟨⟨rfl,by repeat (first | exact trivial | refine And.intro (by omega) ?_)⟩,?_⟩
       conv=>whnf
       refine⟨Nat.le_refl 1,?_⟩;refine eo (X:=X) (ys:=[[.sl 1 (List.take rs.length (List.drop 0 (cK (bK t ch rs)))) false]]) rfl rfl hXl.symm hXs ?_;rw[hTk]
       conv=>whnf
       exact .go [0,1,2,3,4,8] rfl (l'.length-(i+1)) (by omega) fin2
 . have c3' := aG c3;have hie:i=l'.length:=by omega
   subst hie;rw[List.take_length];have hAl:=rJ s.l s.R ch l';have hAr:=eT (cw s.l s.R ch l');have hTk:List.take l'.length (List.drop 0 (mA (cw s.l s.R ch l')))=mA (cw s.l s.R ch l'):=by rw[List.drop_zero,List.take_of_length_le (by omega)]
   refine⟨[5],rfl,.frz 0 rfl (And.intro (by rw[Nat.zero_add,hAr,hAl]; exact Nat.le_refl _) trivial) (.sub (KA (⟨l', cw s.l s.R ch l', log', s.n+1,s.m+1⟩,0)) [.dead] ?_ (HSub.refl _) (.done [] rfl h))⟩
   show VSub (.tup [.agg [.sl 3 (tbs l') false,.sl 1 (List.take l'.length (List.drop 0 (mA (cw s.l s.R ch l')))) false,.sl 1 (bs log') false,.int .i64 (IntKind.i64.wrap (s.n+1)),.int .i64 (IntKind.i64.wrap (s.m+1))],fI 0]) _
   rw[hTk,aQ (by omega),aQ (by omega)]
   exact .refl _
theorem DU {α:Type} {l a:List α} {m:Nat} {P:α->Bool} {k:Nat} (ha:a=(l.take k).filter P) (h1:a.length<=m) (h:l.length<=k\/m<=a.length):(l.filter P).take m=a:=by
 rcases h with h | h
 . rw[List.take_of_length_le h]at ha;rw[<-ha,List.take_of_length_le h1]
 . have:l.filter P=a++(l.drop k).filter P:=by rw[ha,<-List.filter_append,List.take_append_drop]
   rw[this];exact tz h1 h
theorem j0 {t:Tb} {r:Rw} {f:Bool} (hk:TbK t) (ht:bd r) (h:Q (.str (ia t r)) []):ACall Tryz.prog 13 0 [sch t.c t.k,.sl 3 (ah r) f] [] Q:=by
 obtain⟨n,C,K⟩:=t;obtain⟨k,rfl⟩:∃k:Nat,K=k:=⟨K.toNat,by have:=hk.lo; simp only at this; omega⟩
 have h1:=hk.few;have h2:=hk.hi;simp only at h1 h2;exact gm (C:=C) (K:=k) (by omega) (by omega) ht h
theorem nq {t:Tb} {l:List Rw} {key:List UInt8} {f:Bool} (hk:TbK t) (hr:RowsOk t l) (hn:l.length<=1000000) (h:∀n:Int,Q (.tup [fI n,.bool (cj key (lX t l))]) []) :
 ACall Tryz.prog 67 0 [sch t.c t.k,.sl 1 (cK l) f,.str key] [] Q:=by
 obtain⟨n,C,K⟩:=t;obtain⟨k,rfl⟩:∃k:Nat,K=k:=⟨K.toNat,by have:=hk.lo; simp only at this; omega⟩
 have h1:=hk.few;have h2:=hk.hi;simp only at h1 h2;have hplc:cj key (iX C k l)=dY C k key (cJ C k key l):=by
  have hs:=hr.srt;have e:=dg C k key l;have h1:=mU (key:=key) (a:=iX C k (bD C k key l)) (b:=iX C k (cJ C k key l)) (by rw[<-eS,e]; exact hs) nX qT
  rw[<-eS,e,qQ]at h1;exact h1
 have h3:=h ((bD C k key l).length:Nat);rw[show cj key (lX (⟨n,C,k⟩:Tb) l)=dY C k key (cJ C k key l)from hplc]at h3
 exact gn (C:=C) (K:=k) (by omega) (by omega) (kH hr) hn h3
set_option maxRecDepth 8000 in
theorem Ah {s:SS} {b:Nat} {table after:List UInt8} {most:Int} (hS:DocOk s.l s.R b) (hb:b<900000) (h:Q (.tup [.sl 1 (cK (kR s table after most).1) false,fI (kR s table after most).2]) []) :
 ACall Tryz.prog 36 0 [sV s,.str table,.str after,fI most] [] Q:=by
 refine ACall.ret (ad Tryz.func36 0 rfl (aA rfl) ?_);have hl:=hS.tbs;have hfew:=hl.few;unfold kR at h
 conv=>whnf
 refine .pure (dS (by omega) ⟨rfl,?_⟩)
 cases ha:dP s.l table with
 | none =>
  rw[ha]at h;rw[ey ha]
  conv=>whnf
  exact⟨[],rfl,.sub _ _ (.tup (.cons (sX false) (VSubs.refl _))) (HSub.refl _) (.done [] rfl h)⟩
 | some i =>
  obtain⟨t,hti,htn,hil⟩:=bY ha;obtain⟨rs,hRi,hgd,hro,hrb⟩:=hS.get hti;have htk:=hl.tbk (List.mem_of_getElem? hti);have hrl:=eT s.R;have hsl:=cR rs;have hlen:=hS.len;have hlt:=bR s.l;rw[ha]at h;simp only[hti,hgd]at h;rw[show ji s.l table=(i:Int) by unfold ji D4; rw[show qC (my s.l) table=some i from ha]]
  conv=>whnf
  rw[show decide ((i:Int)<0)=false from decide_eq_false (by omega)]
  conv=>whnf
  refine⟨⟨[1,2,3,4,10,11,12,9],fun k ws H=>∃p:Nat,ws = [.str table,.str after,fI most,.ptr 0 0,fI i,.ms 1 1 0 ((rs.take p).filter fun r=>Op.bytesLess after (ia t r)).length false,fI p,fI 0] /\
   H = [.cells (sC s),.buf (cK ((rs.take p).filter fun r=>Op.bytesLess after (ia t r)))]/\((rs.take p).filter fun r=>Op.bytesLess after (ia t r)).length<=most.toNat/\p<=rs.length/\k=rs.length-p,?_,?_⟩⟩
  . exact .frz (rs.length+1) (.adopt (.sub [.str table,.str after,fI most,.ptr 0 0,fI i,.ms 1 1 0 0 false,fI 0,fI 0] _ (.cons (.refl _) (.cons (.refl _) (.cons (.refl _) (.cons (.refl _) (.cons (.refl _) (.cons (VSub.ms0 1 1 0 false) (VSubs.refl _))))))) (HSub.refl _) (.go [0,1] rfl rs.length (by omega) ⟨0,rfl,rfl,Nat.zero_le _,by omega,rfl⟩)))
  rintro k ws H ⟨p,rfl,rfl,hle,hp,rfl⟩;have hone:∀r,rs[p]? = some r->(rs.take (p+1)).filter (fun r=>Op.bytesLess after (ia t r))=(rs.take p).filter (fun r=>Op.bytesLess after (ia t r))++(if Op.bytesLess after (ia t r)then [r]else []):=fun r hr=>by
   rw[List.take_add_one,hr,List.filter_append];cases hx:Op.bytesLess after (ia t r)<;>simp[hx]
  have htm:=DU (l:=rs) (P:=fun r=>Op.bytesLess after (ia t r)) (k:=p) (m:=most.toNat) rfl hle
  have hal:((rs.take p).filter fun r=>Op.bytesLess after (ia t r)).length<=rs.length:=Nat.le_trans (List.length_filter_le _ _) (by rw[List.length_take]; omega)
  generalize hA:(rs.take p).filter (fun r=>Op.bytesLess after (ia t r))=A at *
  have hAl:=cR A
  conv=>whnf
  refine⟨_,⟨by omega,aK hRi⟩,?_⟩
  conv=>whnf
  have fin:rs.length<=p\/most.toNat<=A.length->Q (.tup [.sl 1 (cK A) false,fI 0]) []:=fun hh=>by rw[htm hh]at h; exact h
  refine ac (fun c1=>?_) (fun c1=>?_)<;>try rw[c1]<;>conv=>whnf
  . have c1' := aB c1;have hpl:p<rs.length:=by omega
    refine ac (fun c2=>?_) (fun c2=>?_)<;>try rw[c2]<;>conv=>whnf
    . have c2' := aB c2;have hgp:rs[p]? = some rs[p]:=aS hpl;have hrm:=List.getElem_mem hpl;have hone:=hone rs[p] hgp;generalize rs[p]=r at *;refine⟨[0,1,2,3,4,5,6,7,8,9,10,11,12,13,15,14,16],by kernel_rfl,by kernel_rfl,?_⟩
      conv=>whnf
      refine⟨_,⟨by omega,ay hti⟩,?_⟩
      conv=>whnf
      refine⟨_,⟨by omega,aK hRi⟩,?_⟩
      conv=>whnf
      refine⟨_,⟨by omega,cg hgp⟩,?_⟩
      conv=>whnf
      refine .pure (j0 (t:=t) (r:=r) (f:=false) htk (kH hro r hrm) ⟨rfl,?_⟩);generalize ia t r=key at *
      repeat (conv=>whnf
              first | (refine⟨rfl,?_⟩) | (refine⟨⟨_,⟨by omega,ay hti⟩,rfl⟩,?_⟩) | (refine⟨⟨_,⟨by omega,aK hRi⟩,rfl⟩,?_⟩) | (refine⟨⟨_,⟨by omega,cg hgp⟩,rfl⟩,?_⟩))
      conv=>whnf
      rw[IJ];cases hb:Op.bytesLess after key<;>rw[hb]at hone<;>conv=>whnf
      . simp only[Bool.false_eq_true,if_false,List.append_nil]at hone;refine .go [0,1] rfl (rs.length-(p+1)) (by omega) ⟨p+1,?_,by rw[hone]; rfl,by rw[hone]; exact hle,by omega,rfl⟩
        show [V.str table,.str after,fI most,.ptr 0 0,fI i,.ms 1 1 0 A.length false,.int .i64 (IntKind.i64.wrap ((p:Int)+1)),fI 0]=_
        rw[dm (by omega),hone]; rfl
      . simp only[if_true]at hone;refine⟨_,⟨by omega,aK hRi⟩,?_⟩
        conv=>whnf
        refine⟨_,⟨by omega,cg hgp⟩,?_⟩
        conv=>whnf
        refine⟨Nat.le_refl 1,?_⟩;refine eo (X:=cK A) (ys:=[[fR r]]) rfl rfl hAl.symm (show((cK A).length+1)*24<=70368744177664 by omega) ?_
        conv=>whnf
        refine .go [0,3] rfl (rs.length-(p+1)) (by omega) ⟨p+1,?_,?_,?_,by omega,rfl⟩
        . show [V.str table,.str after,fI most,.ptr 0 0,fI i,.ms 1 1 0 ((cK A).length+1) false,.int .i64 (IntKind.i64.wrap ((p:Int)+1)),fI 0]=_
          rw[dm (by omega),hone,hAl,aD]; rfl
        . rw[hone,oC]; rfl
        . rw[hone,aD,List.length_singleton]; omega
    . have c2' := aG c2;have fin:=fin (.inr (by omega))
      exact⟨[1],rfl,.frz 0 rfl (And.intro (by omega) trivial) (.sub _ [.dead] (.tup (.cons (VSub.eq (congrArg (fun z=>V.sl 1 z false) (show List.take A.length (List.drop 0 (cK A))=cK A by rw[List.drop_zero,<-hAl,List.take_length]))) (VSubs.refl _))) (HSub.refl _) (.done [] rfl fin))⟩
  . have c1' := aG c1;have fin:=fin (.inl (by omega))
    exact⟨[1],rfl,.frz 0 rfl (And.intro (by omega) trivial) (.sub _ [.dead] (.tup (.cons (VSub.eq (congrArg (fun z=>V.sl 1 z false) (show List.take A.length (List.drop 0 (cK A))=cK A by rw[List.drop_zero,<-hAl,List.take_length]))) (VSubs.refl _))) (HSub.refl _) (.done [] rfl fin))⟩
theorem nI {k:Int} {t:List UInt8} {C:List Col} {d:Dd} (hd:gV d):gV ⟨k,t,fN C d.r⟩:=⟨qt C d.r,FX hd.n⟩
theorem uF {k:Int} {t:List UInt8} {C:List Col} {d:Dd} (hd:gV d) (n:Nat):gV ⟨k,t,(fN C d.r).take n⟩ :=
 ⟨fun v hv=>qt C d.r v (List.mem_of_mem_take hv),fun v hv=>FX hd.n v (List.mem_of_mem_take hv)⟩
set_option maxRecDepth 8000 in
theorem vx {s:SS} {d:Dd} {b:Nat} (hS:DocOk s.l s.R b) (hb:b<=900000) (hd:gV d) (h:∀d', gV d'->Q (C8 d') []) :
 ACall Tryz.prog 39 0 [sV s,C8 d] [] Q:=by
 refine ad Tryz.func39 0 rfl (aA rfl) ?_;have hl:=hS.tbs;have hcl:=hl.cols;have hfew:=hl.few;have hlt:=bR s.l;have hrl:=eT s.R;have hlen:=hS.len;have hself:=h d hd
 conv=>whnf
 refine .pure (dS (by omega) ⟨rfl,?_⟩)
 cases ha:dP s.l d.t with
 | none =>
  rw[ey ha]
  conv=>whnf
  refine ac (fun c1=>?_) (fun c1=>?_)<;>try rw[c1]<;>conv=>whnf
  focus
   have c1' := aB c1;refine⟨by omega,?_⟩
   conv=>whnf
   have hmod:=Int.tmod_lt_of_pos (IntKind.i64.wrap ((d.t.length:Int)+((ah d.r).length:Int))) (show(0:Int)<((tbs s.l).length:Int) by omega)
   generalize (IntKind.i64.wrap ((d.t.length:Int)+((ah d.r).length:Int))).tmod ((tbs s.l).length:Int)=j at *;by_cases hj:j<0
   focus
    rw[show decide (j<0)=true from decide_eq_true hj]
    conv=>whnf
    exact⟨[],rfl,hself⟩
   obtain⟨i,rfl⟩:∃i:Nat,j=i:=⟨j.toNat,by omega⟩
   rw[show decide ((i:Int)<0)=false from decide_eq_false hj]
   conv=>whnf
   have hil:i<s.l.length:=by omega
   have hti:s.l[i]? = some s.l[i]:=aS hil;generalize s.l[i]=t at hti
  rotate_left
  focus
   exact⟨[],rfl,hself⟩
  refine⟨_,⟨by omega,ay hti⟩,?_⟩
  conv=>whnf
  obtain⟨rs,hRi,hgd,hro,hrb⟩:=hS.get hti;have hil2:=(liZ.1 hRi).1;have htk:=hl.tbk (List.mem_of_getElem? hti);have hki:=uV (wE (hl.ok.each t (List.mem_of_getElem? hti)).sch);have hrow:gV ⟨0,t.n,fN t.c d.r⟩:=nI hd;have hfin1:∀k:Int,Q (.agg [fI k,.str t.n,.sl 3 (ah (fN t.c d.r)) false]) []:=fun k=>h ⟨k,t.n,fN t.c d.r⟩ (nI hd)
  have hfin2:∀k:Int,Q (.agg [fI k,.str t.n,.sl 3 (List.take t.k.toNat (List.drop 0 (ah (fN t.c d.r)))) false]) []:=fun k=>by
   have:=h ⟨k,t.n,(fN t.c d.r).take t.k.toNat⟩ (uF hd _);unfold C8 at this;rw[show ah ((fN t.c d.r).take t.k.toNat)=List.take t.k.toNat (List.drop 0 (ah (fN t.c d.r))) by simp[ah,List.map_take]]at this
   exact this
  refine⟨List.range 15,by kernel_rfl,by kernel_rfl,?_⟩
  conv=>whnf
  refine⟨_,⟨by omega,ay hti⟩,?_⟩
  conv=>whnf
  refine .pure (xJ (l:=t.c) (keys:=t.k) (vs:=d.r) (f:=false) (by have:=htk.few; omega) hki ⟨rfl,?_⟩)
  have hrlen:=oz t.c d.r;generalize hX:fN t.c d.r=X at *;have hvl:=aC X;have htk1:=htk.lo;have htk2:=htk.hi
  repeat (conv=>whnf
          first | (refine⟨rfl,?_⟩) | (refine⟨⟨_,⟨by omega,ay hti⟩,rfl⟩,?_⟩))
  conv=>whnf
  refine⟨List.range 16,by kernel_rfl,by kernel_rfl,?_⟩
  conv=>whnf
  refine⟨_,⟨by omega,aK hRi⟩,?_⟩
  conv=>whnf
  refine .pure (j0 (t:=t) (r:=X) (f:=false) htk hrow.t ⟨rfl,?_⟩)
  repeat (conv=>whnf
          first | (refine⟨rfl,?_⟩) | (refine⟨⟨_,⟨by omega,aK hRi⟩,rfl⟩,?_⟩))
  conv=>whnf
  refine .pure (nq (t:=t) (l:=rs) (key:=ia t X) (f:=false) htk hro (by omega) fun np=>⟨rfl,?_⟩)
  generalize cj (ia t X) (lX t rs)=has at *
  repeat (conv=>whnf
          first | (refine⟨rfl,?_⟩) | (refine⟨⟨_,⟨by omega,aK hRi⟩,rfl⟩,?_⟩))
  have hkk:d.k<1\/3<d.k\/d.k=1\/d.k=2\/d.k=3:=by omega
  rcases hkk with e | e | e | e | e<;>cases has
  all_goals
   repeat (conv=>whnf
           first
            | rw[show decide (d.k<1)=true from decide_eq_true (by omega)]
            | rw[show decide (d.k<1)=false from decide_eq_false (by omega)]
            | rw[show decide (d.k>3)=true from decide_eq_true (by omega)]
            | rw[show decide (d.k>3)=false from decide_eq_false (by omega)]
            | rw[show decide (d.k=1)=true from decide_eq_true (by omega)]
            | rw[show decide (d.k=1)=false from decide_eq_false (by omega)]
            | rw[show decide (d.k=3)=true from decide_eq_true (by omega)]
            | rw[show decide (d.k=3)=false from decide_eq_false (by omega)]
            | (refine⟨⟨by omega,by omega⟩,?_⟩))
   first
    | exact⟨[],rfl,hfin1 _⟩
    | exact⟨[],rfl,hfin2 _⟩
 | some i =>
  obtain⟨t,hti,htn,hil⟩:=bY ha;rw[show ji s.l d.t=(i:Int) by unfold ji D4; rw[show qC (my s.l) d.t=some i from ha]]
  conv=>whnf
  rw[show decide ((i:Int)<0)=false from decide_eq_false (by omega)]
  conv=>whnf
  refine⟨_,⟨by omega,ay hti⟩,?_⟩
  conv=>whnf
  obtain⟨rs,hRi,hgd,hro,hrb⟩:=hS.get hti;have hil2:=(liZ.1 hRi).1;have htk:=hl.tbk (List.mem_of_getElem? hti);have hki:=uV (wE (hl.ok.each t (List.mem_of_getElem? hti)).sch);have hrow:gV ⟨0,t.n,fN t.c d.r⟩:=nI hd;have hfin1:∀k:Int,Q (.agg [fI k,.str t.n,.sl 3 (ah (fN t.c d.r)) false]) []:=fun k=>h ⟨k,t.n,fN t.c d.r⟩ (nI hd)
  have hfin2:∀k:Int,Q (.agg [fI k,.str t.n,.sl 3 (List.take t.k.toNat (List.drop 0 (ah (fN t.c d.r)))) false]) []:=fun k=>by
   have:=h ⟨k,t.n,(fN t.c d.r).take t.k.toNat⟩ (uF hd _);unfold C8 at this;rw[show ah ((fN t.c d.r).take t.k.toNat)=List.take t.k.toNat (List.drop 0 (ah (fN t.c d.r))) by simp[ah,List.map_take]]at this
   exact this
  refine⟨List.range 15,by kernel_rfl,by kernel_rfl,?_⟩
  conv=>whnf
  refine⟨_,⟨by omega,ay hti⟩,?_⟩
  conv=>whnf
  refine .pure (xJ (l:=t.c) (keys:=t.k) (vs:=d.r) (f:=false) (by have:=htk.few; omega) hki ⟨rfl,?_⟩)
  have hrlen:=oz t.c d.r;generalize hX:fN t.c d.r=X at *;have hvl:=aC X;have htk1:=htk.lo;have htk2:=htk.hi
  repeat (conv=>whnf
          first | (refine⟨rfl,?_⟩) | (refine⟨⟨_,⟨by omega,ay hti⟩,rfl⟩,?_⟩))
  conv=>whnf
  refine⟨List.range 16,by kernel_rfl,by kernel_rfl,?_⟩
  conv=>whnf
  refine⟨_,⟨by omega,aK hRi⟩,?_⟩
  conv=>whnf
  refine .pure (j0 (t:=t) (r:=X) (f:=false) htk hrow.t ⟨rfl,?_⟩)
  repeat (conv=>whnf
          first | (refine⟨rfl,?_⟩) | (refine⟨⟨_,⟨by omega,aK hRi⟩,rfl⟩,?_⟩))
  conv=>whnf
  refine .pure (nq (t:=t) (l:=rs) (key:=ia t X) (f:=false) htk hro (by omega) fun np=>⟨rfl,?_⟩)
  generalize cj (ia t X) (lX t rs)=has at *
  repeat (conv=>whnf
          first | (refine⟨rfl,?_⟩) | (refine⟨⟨_,⟨by omega,aK hRi⟩,rfl⟩,?_⟩))
  have hkk:d.k<1\/3<d.k\/d.k=1\/d.k=2\/d.k=3:=by omega
  rcases hkk with e | e | e | e | e<;>cases has
  all_goals
   repeat (conv=>whnf
           first
            | rw[show decide (d.k<1)=true from decide_eq_true (by omega)]
            | rw[show decide (d.k<1)=false from decide_eq_false (by omega)]
            | rw[show decide (d.k>3)=true from decide_eq_true (by omega)]
            | rw[show decide (d.k>3)=false from decide_eq_false (by omega)]
            | rw[show decide (d.k=1)=true from decide_eq_true (by omega)]
            | rw[show decide (d.k=1)=false from decide_eq_false (by omega)]
            | rw[show decide (d.k=3)=true from decide_eq_true (by omega)]
            | rw[show decide (d.k=3)=false from decide_eq_false (by omega)]
            | (refine⟨⟨by omega,by omega⟩,?_⟩))
   first
    | exact⟨[],rfl,hfin1 _⟩
    | exact⟨[],rfl,hfin2 _⟩
theorem ym {l:List Tb} {d:Dd}:∀ {ds:List Dd} {R R' : List (List Rw)},gY l R ds=(R', 0)->bn l R' d=0->gY l R (ds ++ [d])=(wd l R' d,0)
 | [],R,R', h,hd=>by
  cases h;exact mO [] hd
 | e::ds,R,R', h,hd=>by
  by_cases he:bn l R e=0
  . rw[mO ds he]at h;rw[List.cons_append,mO _ he];exact ym h hd
  . have:gY l R (e::ds)=(R,bn l R e):=if_neg he;rw[this]at h;exact absurd (Prod.mk.inj h).2 he
theorem Ez (l:List Dd) (d:Dd):ie (l ++ [d])=ie l ++ [Ky d]:=by simp[ie]
def Jv (s:SS) (ds:List Dd) (f:Bool) (b:Nat) (k:Nat) (ws:List V) (H:List O):Prop :=
 ∃(i:Nat) (R' : List (List Rw)) (acc:List Dd),ws = [.sl 3 (ie ds) f,fI 6,.ptr 0 0,.ms 3 1 0 acc.length false,fI i]/\H = [.cells (sC { s with R:=R' }),.buf (ie acc)] /\
  DocOk s.l R' (b+i)/\gY s.l s.R acc=(R', 0)/\(∀d∈acc,gV d)/\acc.length<=i/\i<=6/\i<=ds.length/\k=ds.length-i
set_option maxRecDepth 8000 in
theorem xG {s:SS} {ds:List Dd} {f:Bool} {b:Nat} (hS:DocOk s.l s.R b) (hb:b<800000) (hd:∀d∈ds,gV d)
 (h:∀acc:List Dd,(gY s.l s.R acc).2=0->(∀d∈acc,gV d)->acc.length<=6->Q (.ms 3 0 0 acc.length false) [.buf (ie acc)]) :
 ACall Tryz.prog 19 0 [sV s,.sl 3 (ie ds) f,fI 6] [] Q:=by
 refine ad Tryz.func19 0 rfl (aA rfl) ?_;have hl:=hS.tbs;have hdl:=nJ ds
 conv=>whnf
 refine⟨⟨[1,2,3,7,8],Jv s ds f b,?_,?_⟩⟩
 . exact .frz (ds.length+1) (.adopt (.sub [.sl 3 (ie ds) f,fI 6,.ptr 0 0,.ms 3 1 0 0 false,fI 0] _ (.cons (.refl _) (.cons (.refl _) (.cons (.refl _) (.cons (VSub.ms0 3 1 0 false) (VSubs.refl _))))) (HSub.refl _) (.go [0,1] rfl ds.length (by omega) ⟨0,s.R,[],rfl,rfl,hS,rfl,by simp,by simp,by omega,by omega,rfl⟩)))
 rintro k ws H ⟨i,R', acc,rfl,rfl,hD,hdo,hin,hac,hi6,hi,rfl⟩;have hal:(ie acc).length=acc.length:=by simp[ie]
 have fin:=h acc (by rw[hdo]) hin (by omega)
 conv=>whnf
 refine ac (fun c1=>?_) (fun c1=>?_)<;>try rw[c1]<;>conv=>whnf
 rotate_left
 . exact⟨[1],rfl,fin⟩
 have c1' := aB c1;have hil:i<ds.length:=by omega
 refine ac (fun c2=>?_) (fun c2=>?_)<;>try rw[c2]<;>conv=>whnf
 rotate_left
 . exact⟨[1],rfl,fin⟩
 have c2' := aB c2;have hg:ds[i]? = some ds[i]:=aS hil;have hdi:=hd ds[i] (List.getElem_mem hil);generalize ds[i]=d at *;refine⟨List.range 8,by kernel_rfl,by kernel_rfl,?_⟩
 conv=>whnf
 refine⟨_,⟨by omega,qI hg⟩,?_⟩
 conv=>whnf
 refine .pure (vx (s:={ s with R:=R' }) (d:=d) hD (by omega) hdi fun d' hd' => ⟨rfl,?_⟩)
 repeat (conv=>whnf
         first | (refine⟨rfl,?_⟩) | (refine⟨⟨_,⟨by omega,qI hg⟩,rfl⟩,?_⟩))
 conv=>whnf
 refine .pure (rn (s:={ s with R:=R' }) (d:=d') hD (by omega) hd'.t ⟨rfl,?_⟩)
 by_cases he:bn s.l R' d'=0
 . rw[show sb { s with R:=R' } d'=({ s with R:=wd s.l R' d' },dn d', 0)from if_pos he]
   have hD' := hD.deed he;have hsn:=ym hdo he;generalize wd s.l R' d'=R2 at *;generalize dn d'=e at *
   conv=>whnf
   refine⟨Nat.le_refl 1,?_⟩;refine eo (X:=ie acc) (ys:=[Ky d']) rfl rfl hal.symm (show((ie acc).length+1)*48<=70368744177664 by omega) ?_
   conv=>whnf
   refine .go [0,6] rfl (ds.length-(i+1)) (by omega) ⟨i+1,R2,acc ++ [d'],?_,?_,hD', hsn,fun x hx=>?_,by rw[aD,List.length_singleton]; omega,by omega,by omega,rfl⟩
   . show [V.sl 3 (ie ds) f,fI 6,.ptr 0 0,.ms 3 1 0 ((ie acc).length+1) false,.int .i64 (IntKind.i64.wrap ((i:Int)+1))]=_
     rw[dm (by omega),hal,aD]; rfl
   . rw[Ez]; rfl
   . rcases List.mem_append.1 hx with hx | hx
     . exact hin x hx
     . rw[List.mem_singleton.1 hx]; exact hd'
 . rw[show sb { s with R:=R' } d'=({ s with R:=R' },jB,bn s.l R' d')from if_neg he]
   generalize hgen:bn s.l R' d'=er at *
   conv=>whnf
   rw[show decide (er=0)=false from decide_eq_false he]
   conv=>whnf
   refine .go [0,1] rfl (ds.length-(i+1)) (by omega) ⟨i+1,R', acc,?_,rfl,⟨hD.tbs,hD.len,fun i t rs h1 h2=>⟨(hD.rows i t rs h1 h2).1,Nat.le_succ_of_le (hD.rows i t rs h1 h2).2⟩⟩,hdo,hin,by omega,by omega,by omega,rfl⟩
   show [V.sl 3 (ie ds) f,fI 6,.ptr 0 0,.ms 3 1 0 acc.length false,.int .i64 (IntKind.i64.wrap ((i:Int)+1))]=_
   rw[dm (by omega)]; rfl
theorem pG {s:List UInt8} (h:Q (.str (s.take 40)) []):ACall Tryz.prog 51 0 [.str s] [] Q:=by
 refine ad Tryz.func51 0 rfl (aA rfl) ?_
 conv=>whnf
 refine ac (fun c=>?_) (fun c=>?_)<;>try rw[c]<;>conv=>whnf
 . have c' := aB c;refine⟨⟨by omega,by omega⟩,?_⟩
   conv=>whnf
   exact⟨[],rfl,h⟩
 . have c' := aG c;rw[List.take_of_length_le (by omega)]at h
   exact⟨[],rfl,h⟩
def uD (c:Chg):Chg :=
 if c.k=1 then⟨c.k,c.t.take 40,i9 ai (c.c.take 6) c.ks,nS ai (c.c.take 6) c.ks,⟨c.col.n.take 40,c.col.k,c.col.o⟩⟩
 else⟨c.k,c.t.take 40,c.c.take 6,c.ks,⟨c.col.n.take 40,c.col.k,c.col.o⟩⟩
theorem AL (l:List Col) (n:Nat):List.take n (cols l)=cols (l.take n):=by simp[cols,List.map_take]
theorem KN (L:Nat):∃n:Nat,(if(6:Int)<(L:Int)then(6:Int)else(L:Int))=(n:Int)/\n=min 6 L:=by
 split
 . exact⟨6,rfl,by omega⟩
 . exact⟨L,rfl,by omega⟩
set_option maxRecDepth 8000 in
theorem tI {c:Chg} (hks:ei c.ks) (h:Q (vZ (uD c)) []):ACall Tryz.prog 31 0 [vZ c] [] Q:=by
 refine ad Tryz.func31 0 rfl (aA rfl) ?_;have hcl:=aw c.c;unfold uD at h
 conv=>whnf
 refine .pure (pG ⟨rfl,?_⟩)
 conv=>whnf
 refine .pure (pG ⟨rfl,?_⟩)
 conv=>whnf
 refine⟨List.range 15,by kernel_rfl,by kernel_rfl,?_⟩
 conv=>whnf
 obtain⟨n,hn,hn2⟩:=KN (cols c.c).length;rw[hn];have hT:List.take n (cols c.c)=cols (c.c.take 6):=by
  rw[hn2,hcl,<-AL];rcases Nat.le_total 6 c.c.length with h6 | h6
  . rw[Nat.min_eq_left h6]
  . rw[Nat.min_eq_right h6,List.take_of_length_le (by omega),List.take_of_length_le (by omega)]
 have hb0:(0:Int)<=(n:Int)/\(n:Int)<=((cols c.c).length:Int):=⟨by omega,by omega⟩
 refine⟨hb0,?_⟩
 conv=>whnf
 repeat (refine⟨rfl,?_⟩
         conv=>whnf)
 by_cases h1:c.k=1
 . rw[show decide (c.k=1)=true from decide_eq_true h1]
   rw[if_pos h1]at h
   conv=>whnf
   refine .pure (ACall.args («as»:=[.agg [.sl 3 (List.take n (cols c.c)) false,fI c.ks]]) (.cons (VSub.eq (by rw[hT]; rfl)) .nil) (Ae (l:=c.c.take 6) (keys:=c.ks) hks ⟨rfl,?_⟩))
   conv=>whnf
   exact⟨[],rfl,h⟩
 . rw[show decide (c.k=1)=false from decide_eq_false h1]
   rw[if_neg h1]at h
   conv=>whnf
   refine⟨[],rfl,?_⟩;show Q (.agg [fI c.k,.str (c.t.take 40),.sl 3 (List.take n (cols c.c)) false,fI c.ks,.str (c.col.n.take 40),fI c.col.k,.bool c.col.o]) []
   rw[hT];exact h
structure xn where
 k:Int
 ds:List Dd
 ch:Chg
 after:List UInt8
 n:Int
def GM (a:xn):List V:=[fI a.k,.sl 3 (ie a.ds) false,fI a.ch.k,.str a.ch.t,.sl 3 (cols a.ch.c) false,fI a.ch.ks,.str a.ch.col.n,fI a.ch.col.k,.bool a.ch.col.o,.str a.after,fI a.n]
def Lc (a:xn):V:=.agg (GM a)
def nC (l:List xn):List (List V):=l.map GM
theorem C2 (l:List xn):(nC l).length=l.length:=by simp[nC]
theorem uv {l:List xn} {i:Nat} {a:xn} (h:l[i]? = some a):(nC l)[i]? = some (GM a):=by simp[nC,h]
structure pC (a:xn):Prop where
 ds:∀d∈a.ds,gV d
 n:ei a.n
 ks:ei a.ch.ks
 ck:∀c∈a.ch.c,ei c.k
inductive AskS (a:xn) (s:SS):SS->Prop
 | same:AskS a s s
 | tx (ds:List Dd) (u:Bool):(∀d∈ds,gV d)->ds.length<=6->(u=false->a.k=0\/a.k=5)->AskS a s (oW s ds u).1
 | alt (c:Chg):a.k=2->c.c.length<9223372036854775808->AskS a s (bq s c).1
 | mark (hi:Bool):AskS a s (fB s hi a.n).1
theorem Dv {l:List Col} {k:Int} (hl:∀c∈l,ei c.k) (hk:ei k):(i9 ai l k).length<=16:=(Hm hl hk).most
theorem C7 {c:Chg} (hl:∀d∈c.c,ei d.k) (hk:ei c.ks):(uD c).c.length<9223372036854775808:=by
 unfold uD;split
 . have:=Dv (l:=c.c.take 6) (k:=c.ks) (fun d hd=>hl d (List.mem_of_mem_take hd)) hk
   simp only; omega
 . simp only[List.length_take]; omega
theorem vy {s:SS} {ds:List Dd} {f:Bool} {b:Nat} (hS:DocOk s.l s.R b) (hb:b<800000) (hd:∀d∈ds,gV d)
 (h:∀acc:List Dd,(gY s.l s.R acc).2=0->(∀d∈acc,gV d)->acc.length<=6->Q (.sl 3 (ie acc) false) []) :
 ACall Tryz.prog 19 0 [sV s,.sl 3 (ie ds) f,fI 6] [] Q :=
 ACall.ret (xG hS hb hd fun acc h1 h2 h3=>.frz_ms (id:=0) (es:=ie acc) rfl (nJ acc).symm trivial (.done [] rfl (h acc h1 h2 h3)))
theorem EA (l:List Dd) (n:Nat):List.take n (ie l)=ie (l.take n):=by simp[ie,List.map_take]
theorem xM {s:SS} {L:List gF} {c:Nat} {b:Nat} {hi:Bool} {k:Int} (hS:SrcOk s L b) (hk:ei k) (hs:s.log.length+1000020<=800000000)
 (h:SrcOk (fB s hi k).1 L b->Q (fI (fB s hi k).2) (mi (fB s hi k).1 L c)):ACall Tryz.prog 35 2 [.ptr 0 0,.bool hi,fI k] (mi s L c) Q:=by
 refine Am hS.rs.tbs hk hs ?_;unfold fB at h;by_cases h0:k<0
 . rw[if_pos h0]at h;rw[if_pos h0,if_pos h0];exact h hS
 . rw[if_neg h0]at h;rw[if_neg h0,if_neg h0];exact h ⟨hS.rs,hS.nd,hS.dom⟩
theorem zG {s:SS} {L:List gF} {b:Nat} (hS:SrcOk s L b) (table after:List UInt8) (most:Int):(kR s table after most).1.length<=b /\ ∀r∈(kR s table after most).1,r.length<1000000:=by
 unfold kR;rcases hS.look table with⟨_,h1⟩ | ⟨i,t,rs,T', m', a1,a2,a3,a4,a5,a6,a7,a8⟩
 . rw[h1]; exact⟨Nat.zero_le _,fun r hr=>by simp at hr⟩
 . rw[a1];simp only[a2,a3];refine⟨?_,fun r hr=>?_⟩
   . have h1:=a6.fewr;have h2:=List.length_filter_le (fun r=>Op.bytesLess after (ia t r)) rs
     rw[List.length_take]; omega
   . have:=dq (a7.fit r (List.mem_filter.1 (List.mem_of_mem_take hr)).1);have:=a8.few;omega
set_option maxRecDepth 8000 in
theorem C3 {s:SS} {L:List gF} {c:Nat} {b:Nat} {a:xn} (hS:SrcOk s L b) (hB:SrcB s 1000) (ha:pC a) (hb:b<800000) (hs:s.log.length+1000020*8<=700000000)
 (h:∀s' L' c', AskS a s s'->SrcOk s' L' (b+6)->Q (.tup [sV s', .bool true]) (mi s' L' c')) :
 ACall Tryz.prog 11 2 [.ptr 0 0,sV s,Lc a] (mi s L c) Q:=by
 refine ad Tryz.func11 2 rfl (aA rfl) ?_;have hD:=hS.rs.doc;have hl:=hS.rs.tbs;have hdl:=nJ a.ds;have hBB:SrcB s 1000000:=⟨hB.n0,by have:=hB.n1; omega,hB.m0,by have:=hB.m1; omega⟩
 conv=>whnf
 obtain⟨n,hn,hn2⟩:=KN (ie a.ds).length;rw[hn];have hT:List.take n (ie a.ds)=ie (a.ds.take 6):=by
  rw[hn2,hdl,<-EA];rcases Nat.le_total 6 a.ds.length with h6 | h6
  . rw[Nat.min_eq_left h6]
  . rw[Nat.min_eq_right h6,List.take_of_length_le (by omega),List.take_of_length_le (by omega)]
 have hb0:(0:Int)<=(n:Int)/\(n:Int)<=((ie a.ds).length:Int):=⟨by omega,by omega⟩
 refine⟨hb0,?_⟩
 conv=>whnf
 have dolen:∀ds:List Dd,ds.length<=6->s.log.length+1000020*(ds.length+2)<=700000000:=fun ds h6=>Nat.le_trans (Nat.add_le_add_left (Nat.mul_le_mul_left _ (show ds.length+2<=8 by omega)) _) hs
 have up7:(700000000:Nat)<=800000000:=by decide
 by_cases h5:a.k=5
 . have hds:∀d∈a.ds.take 6,gV d:=fun d hd=>ha.ds d (List.mem_of_mem_take hd)
   have hd6:(a.ds.take 6).length<=6:=by rw[List.length_take]; omega
   have h:=fun L' c' => h (oW s (a.ds.take 6) false).1 L' c' (.tx _ false hds hd6 fun _=>.inr h5)
   rw[show decide (a.k=5)=true from decide_eq_true h5]
   conv=>whnf
   rw[show decide (a.k=0)=false from decide_eq_false (by omega)]
   conv=>whnf
   rw[show decide (a.k=5)=true from decide_eq_true h5]
   conv=>whnf
   refine .pure (ACall.args («as»:=[sV s,.sl 3 (List.take n (ie a.ds)) false,.bool false]) (.cons (.refl _) (.cons (VSub.eq (by rw[hT])) (VSubs.refl _))) (rp (u:=false) (f:=false) hD hBB hds (by omega) hb (dolen _ hd6) ⟨rfl,?_⟩))
   have hdo:=fun Q' hh=>vo (Q:=Q') (c:=c) (f:=false) hS hBB hds (by omega) (by omega) (Nat.le_trans (dolen _ hd6) up7) hh
   generalize (oW s (a.ds.take 6) false)=r at *
   conv=>whnf
   refine⟨[0,1,2,4,3,5,6,7],by kernel_rfl,by kernel_rfl,?_⟩
   conv=>whnf
   refine .call [0,1] 2 ⟨rfl,rfl,rfl⟩ (ACall.args («as»:=[.ptr 0 0,.sl 3 (List.take n (ie a.ds)) false]) (.cons (.refl _) (.cons (VSub.eq (by rw[hT])) .nil)) (hdo _ fun L' c' hok=>?_))
   repeat (conv=>whnf
           refine⟨rfl,?_⟩)
   conv=>whnf
   refine⟨[0,1],rfl,?_⟩;rw[show decide (r.2=r.2)=true from decide_eq_true rfl]
   exact h L' c' (hok.mono (by omega))
 rw[show decide (a.k=5)=false from decide_eq_false h5]
 conv=>whnf
 refine .pure (ACall.args («as»:=[sV s,.sl 3 (List.take n (ie a.ds)) false,fI 6]) (.cons (.refl _) (.cons (VSub.eq (by rw[hT])) (VSubs.refl _))) (vy (f:=false) hD hb (fun d hd=>ha.ds d (List.mem_of_mem_take hd)) fun acc hok0 hds hd6=>⟨rfl,?_⟩))
 conv=>whnf
 by_cases h0:a.k=0
 . have h:=fun L' c' => h (oW s acc false).1 L' c' (.tx _ false hds hd6 fun _=>.inl h0)
   rw[show decide (a.k=0)=true from decide_eq_true h0]
   conv=>whnf
   refine .pure (rp (u:=false) (f:=false) hD hBB hds (by omega) hb (dolen _ hd6) ⟨rfl,?_⟩)
   have hdo:=fun Q' hh=>vo (Q:=Q') (c:=c) (f:=false) hS hBB hds (by omega) (by omega) (Nat.le_trans (dolen _ hd6) up7) hh
   generalize (oW s acc false)=r at *
   conv=>whnf
   refine⟨[0,1,2,4,3,5,6,7],by kernel_rfl,by kernel_rfl,?_⟩
   conv=>whnf
   refine .call [0,1] 2 ⟨rfl,rfl,rfl⟩ (hdo _ fun L' c' hok=>?_)
   repeat (conv=>whnf
           refine⟨rfl,?_⟩)
   conv=>whnf
   refine⟨[0,1],rfl,?_⟩;rw[show decide (r.2=r.2)=true from decide_eq_true rfl]
   exact h L' c' (hok.mono (by omega))
 rw[show decide (a.k=0)=false from decide_eq_false h0]
 conv=>whnf
 rw[show decide (a.k=5)=false from decide_eq_false h5]
 conv=>whnf
 by_cases h1:a.k=1
 . have h:=h (oW s acc true).1 L c (.tx _ true hds hd6 fun hx=>by cases hx)
   rw[show decide (a.k=1)=true from decide_eq_true h1]
   conv=>whnf
   refine .pure (rp (u:=true) (f:=false) hD hBB hds (by omega) hb (dolen _ hd6) ⟨rfl,?_⟩)
   have hdo:=fun Q' hh=>CV (Q:=Q') (c:=c) (f:=false) hS hBB hds (by omega) (by omega) (Nat.le_trans (dolen _ hd6) up7) hh
   generalize (oW s acc true)=r at *
   conv=>whnf
   refine⟨[0,1,2,4,3,5,6,7],by kernel_rfl,by kernel_rfl,?_⟩
   conv=>whnf
   refine .call [0,1] 2 ⟨rfl,rfl,rfl⟩ (hdo _ fun hok=>?_)
   repeat (conv=>whnf
           refine⟨rfl,?_⟩)
   conv=>whnf
   refine⟨[0,1],rfl,?_⟩;rw[show decide (r.2=r.2)=true from decide_eq_true rfl]
   exact h (hok.mono (by omega))
 rw[show decide (a.k=1)=false from decide_eq_false h1]
 conv=>whnf
 by_cases h2:a.k=2
 . have hcl:=C7 ha.ck ha.ks;have h:=fun L' c' => h (bq s (uD a.ch)).1 L' c' (.alt _ h2 hcl)
   rw[show decide (a.k=2)=true from decide_eq_true h2]
   conv=>whnf
   refine .pure (tI (c:=a.ch) ha.ks ⟨rfl,?_⟩);generalize uD a.ch=ch at *
   conv=>whnf
   refine .pure (pJ hD hBB hcl hb (by omega) ⟨rfl,?_⟩)
   have hdo:=fun Q' hh=>pN (Q:=Q') (c:=c) hS hBB hcl (by omega) (by omega) hh
   generalize (bq s ch)=r at *
   conv=>whnf
   refine⟨[0,1,2,4,3,5,6,7],by kernel_rfl,by kernel_rfl,?_⟩
   conv=>whnf
   refine .call [0,1] 2 ⟨rfl,rfl,rfl⟩ (hdo _ fun L' c' hok=>?_)
   repeat (conv=>whnf
           refine⟨rfl,?_⟩)
   conv=>whnf
   refine⟨[0,1],rfl,?_⟩;rw[show decide (r.2=r.2)=true from decide_eq_true rfl]
   exact h L' c' (hok.mono (by omega))
 rw[show decide (a.k=2)=false from decide_eq_false h2]
 conv=>whnf
 by_cases h3:a.k=3
 . rw[show decide (a.k=3)=true from decide_eq_true h3]
   conv=>whnf
   have h:=h (fB s (decide (a.n.tmod 2=0)) a.n).1 L c (.mark _);refine⟨by decide,?_⟩
   conv=>whnf
   refine .pure (Af (s:=s) (hi:=decide (a.n.tmod 2=0)) (k:=a.n) hl ha.n (by omega) ⟨rfl,?_⟩)
   have hdo:=fun Q' hh=>xM (Q:=Q') (c:=c) (hi:=decide (a.n.tmod 2=0)) hS ha.n (by omega) hh
   generalize (fB s (decide (a.n.tmod 2=0)) a.n)=r at *
   conv=>whnf
   refine⟨[0,1,2,3,4,5,6,7,9,8,10,11,12],by kernel_rfl,by kernel_rfl,?_⟩
   conv=>whnf
   refine⟨by decide,?_⟩
   conv=>whnf
   refine .call [0,1] 2 ⟨rfl,rfl,rfl⟩ (hdo _ fun hok=>?_)
   repeat (conv=>whnf
           refine⟨rfl,?_⟩)
   conv=>whnf
   refine⟨[0,1],rfl,?_⟩;rw[show decide (r.2=r.2)=true from decide_eq_true rfl]
   exact h (hok.mono (by omega))
 rw[show decide (a.k=3)=false from decide_eq_false h3]
 conv=>whnf
 have h:=h s L c .same (hS.mono (by omega))
 refine .call [0,1] 2 ⟨rfl,rfl,rfl⟩ (pO (table:=a.ch.t) (after:=a.after) (most:=a.n) hS (by omega) ?_)
 have hrs:=zG hS a.ch.t a.after a.n;have hrd:=fun Q' hh=>Ah (Q:=Q') (table:=a.ch.t) (after:=a.after) (most:=a.n) hD (by omega) hh
 generalize kR s a.ch.t a.after a.n=r at *;obtain⟨rows,e⟩:=r;simp only at hrs hrd
 conv=>whnf
 refine .pure (hrd _ ⟨rfl,?_⟩)
 conv=>whnf
 refine⟨List.range 11,by kernel_rfl,by kernel_rfl,?_⟩
 conv=>whnf
 refine .pure (ml (l:=rows) (by omega) hrs.2 ⟨rfl,?_⟩)
 repeat (conv=>whnf
         refine⟨rfl,?_⟩)
 conv=>whnf
 rw[show decide (e=e)=true from decide_eq_true rfl]
 repeat (conv=>whnf
         refine⟨rfl,?_⟩)
 conv=>whnf
 exact⟨[0,1],rfl,h⟩
theorem xI {l:List Tb} {f f2:Bool} (hl:l.length<=64) (hc:∀x∈l,x.c.length<1000000) (h:Q (.bool true) []):ACall Tryz.prog 26 0 [.sl 3 (tbs l) f,.sl 3 (tbs l) f2] [] Q:=by
 refine ad Tryz.func26 0 rfl (aA rfl) ?_
 conv=>whnf
 have hlv:=bR l;rw[decide_eq_true (rfl:(((tbs l).length:Nat):Int)=(((tbs l).length:Nat):Int))]
 conv=>whnf
 refine⟨⟨[0,1,5],fun m ws H=>∃i:Nat,ws = [.sl 3 (tbs l) f,.sl 3 (tbs l) f2,fI i]/\H = []/\i<=l.length/\m=l.length-i,.at l.length ⟨0,rfl,rfl,Nat.zero_le _,rfl⟩,?_⟩⟩
 rintro m ws H ⟨i,rfl,rfl,hi,rfl⟩
 conv=>whnf
 refine ac (fun c1=>?_) (fun c1=>?_)<;>try rw[c1]<;>conv=>whnf
 rotate_left
 focus
  exact⟨[],rfl,h⟩
 have c1' := aB c1;have hlt:i<l.length:=by omega
 have hg:l[i]? = some l[i]:=aS hlt;have hcw:=hc l[i] (List.getElem_mem hlt);generalize l[i]=w at *;refine⟨List.range 12,by kernel_rfl,by kernel_rfl,?_⟩
 conv=>whnf
 refine⟨_,⟨by omega,ay hg⟩,?_⟩
 conv=>whnf
 refine⟨_,⟨by omega,ay hg⟩,?_⟩
 conv=>whnf
 refine .pure (rt (l:=w.c) (k:=w.k) (l2:=w.c) (k2:=w.k) (Nat.lt_trans hcw (by decide)) ⟨rfl,?_⟩)
 rw[show qn w.c w.k w.c w.k=true by simp[qn]]
 repeat (conv=>whnf
         first | (refine⟨rfl,?_⟩) | (refine⟨⟨_,⟨by omega,ay hg⟩,rfl⟩,?_⟩))
 conv=>whnf
 refine⟨List.range 15,by kernel_rfl,by kernel_rfl,?_⟩
 conv=>whnf
 refine⟨_,⟨by omega,ay hg⟩,?_⟩
 conv=>whnf
 refine⟨_,⟨by omega,ay hg⟩,?_⟩
 conv=>whnf
 rw[decide_eq_true (rfl:w.n=w.n)]
 repeat (conv=>whnf
         first | (refine⟨rfl,?_⟩) | (refine⟨⟨_,⟨by omega,ay hg⟩,rfl⟩,?_⟩))
 conv=>whnf
 refine .go [] rfl (l.length-(i+1)) (by omega) ⟨i+1,?_,rfl,by omega,rfl⟩
 show [V.sl 3 (tbs l) f,.sl 3 (tbs l) f2,V.int .i64 (IntKind.i64.wrap ((i:Int)+1))]=_
 rw[dm (by omega)]; rfl
def e10C:Chg:=⟨1,[116],[⟨[105,100],2,false⟩],1,gG⟩
def nM:Tb:=⟨[116],[⟨[105,100],2,false⟩],1⟩
def wi:Rw:=[⟨2,7,[]⟩]
def qy:Dd:=⟨1,[116],wi⟩
theorem Cb:cm ⟨6,0,[],[],[],e10C⟩ []=0:=by decide
theorem G4:cZ [] 1 [116] [⟨[105,100],2,false⟩] 1 gG=([nM],0):=by decide
theorem G3:bq ss0 e10C=(⟨[nM],[[]],aR start [bh 2 0,⟨6,0,[],[],[],e10C⟩,bh 7 0],1,1⟩,0):=by
 have h1:(cZ ss0.l e10C.k e10C.t e10C.c e10C.ks e10C.col)=([nM],0):=G4;unfold bq;rw[if_pos (show cm ⟨6,0,[],[],[],e10C⟩ ss0.l=0 from Cb),h1,if_pos rfl]
 rfl
theorem EE:gY [nM] [[]] [qy]=([[wi]],0):=by rfl
theorem Ji:gV qy:=⟨fun v hv=>by
 have:v=⟨2,7,[]⟩:=by simpa [qy,wi]using hv
 subst this; simp,fun v hv=>by
 have:v=⟨2,7,[]⟩:=by simpa [qy,wi]using hv
 subst this; exact⟨by decide,by decide⟩⟩
theorem CG:SrcOk ss0 [] 0:=⟨⟨lI,rfl,fun i t rs h=>by simp[ss0]at h,fun i t rs h=>by simp[ss0]at h⟩,NodupN.nil,fun k h=>absurd rfl h⟩
theorem src0_b:SrcB ss0 0:=⟨by decide,by decide,by decide,by decide⟩
theorem pw:start.length<=1000:=by
 have h1:=jN (([1,1]:List UInt8).length:Int);unfold start;rw[gZ];have h2:([1,1]:List UInt8).length=2:=rfl;omega
theorem SrcB.mono {s:SS} {N N' : Nat} (h:SrcB s N) (hn:N<=N'):SrcB s N' := ⟨h.n0,by have:=h.n1; omega,h.m0,by have:=h.m1; omega⟩
theorem G5:VSub (.sl 3 [[fI 1,.str [116],.sl 3 (ah wi) true]] true) (.sl 3 (ie [qy]) true):=VSub.slRows rfl fun i e e' h1 h2=>by
 match i with
 | 0=>cases h1; cases h2; exact .cons (.refl _) (.cons (.refl _) (.cons (.room 3 _ true) .nil))
 | i+1=>simp at h1
set_option maxRecDepth 8000 in
theorem wA (h:Q (.bool true) []):ACall Tryz.prog 16 0 [] [] Q:=by
 refine ad Tryz.func16 0 rfl (aA rfl) ?_;have hst:=pw
 conv=>whnf
 refine .call [] 0 ⟨rfl,rfl,rfl⟩ (un ?_);have hA:=fun Q' hh=>pN (Q:=Q') (s:=ss0) (L:=[]) (c:=0) (b:=0) (ch:=e10C) CG (src0_b.mono (by omega)) (by simp[e10C]) (by omega) (Nat.le_trans (Nat.add_le_add_right hst _) (by decide)) hh
 rw[G3]at hA;have hl1:(aR start [bh 2 0,⟨6,0,[],[],[],e10C⟩,bh 7 0]).length<=4000000:=by
  have:=cW lI [bh 2 0,⟨6,0,[],[],[],e10C⟩,bh 7 0] start (fun e he=>by
   simp only[List.mem_cons,List.not_mem_nil,or_false]at he;rcases he with rfl | rfl | rfl
   . exact⟨bA rfl (by decide),du ⟨by decide,by decide⟩⟩
   . exact⟨Cb,ER _ _ _ ⟨by decide,by decide⟩⟩
   . exact⟨bA rfl (by decide),du ⟨by decide,by decide⟩⟩)
  simp only[List.length_cons,List.length_nil]at this;omega
 generalize aR start [bh 2 0,⟨6,0,[],[],[],e10C⟩,bh 7 0]=log1 at *
 conv=>whnf
 refine ACalls.frz 2 rfl rfl (by repeat (first | exact trivial | refine And.intro (by first | omega | exact Nat.le_refl 1) ?_)) ?_
 refine ACalls.frz 4 rfl rfl (by repeat (first | exact trivial | refine And.intro (by first | omega | exact Nat.le_refl 1) ?_)) ?_
 refine ACalls.sub [.ptr 0 0,vZ e10C] _ rfl (.cons (.refl _) (.cons (.agg (.cons (.refl _) (.cons (.refl _) (.cons (.room 3 _ true) (VSubs.refl _))))) .nil)) (HSub.refl _) ?_;refine .call [0,1] 2 ⟨rfl,rfl,rfl⟩ (hA _ fun L1 c1 hok=>?_)
 conv=>whnf
 have hok' : SrcOk ⟨[nM],[[]],log1,1,1⟩ L1 0:=hok;refine ACalls.frz 5 rfl rfl (by repeat (first | exact trivial | refine And.intro (by first | omega | exact Nat.le_refl 1) ?_)) ?_
 refine ACalls.sub [.ptr 0 0,.sl 3 (ie [qy]) true] _ rfl (.cons (.refl _) (.cons G5 .nil)) (HSub.refl _) ?_;refine .call [0,1] 2 ⟨rfl,rfl,rfl⟩ (vo (s:=⟨[nM],[[]],log1,1,1⟩) (L:=L1) (c:=c1) (ds:=[qy]) (f:=true) hok' ⟨(by show(0:Int)<=1; decide),(by show(1:Int)<=1000000; decide),(by show(0:Int)<=1; decide),(by show(1:Int)<=1000000; decide)⟩ (fun d hd=>by rw[List.mem_singleton.1 hd]; exact Ji) (by simp) (by omega) (Nat.le_trans (Nat.add_le_add_right hl1 _) (by decide)) fun L2 c2 hok2=>?_)
 rw[show oW ⟨[nM],[[]],log1,1,1⟩ [qy] false=(⟨[nM],[[wi]],aR log1 [bh 2 1,dn qy,bh 7 1],2,2⟩,0)from by
  rw[oX (by show(gY [nM] [[]] [qy]).2=0; rw[EE])]
  show(SS.mk [nM] (gY [nM] [[]] [qy]).1 _ _ _,(0:Int))=_
  rw[EE]; rfl]at hok2 ⊢
 generalize aR log1 [bh 2 1,dn qy,bh 7 1]=log2 at *;simp only at hok2
 conv=>whnf
 refine .call [0,1] 2 ⟨rfl,rfl,rfl⟩ (rx (s:=⟨[nM],[[wi]],log2,2,2⟩) (L:=L2) (c:=c2) (table:=[116]) (b:=1) hok2 (by omega) ?_)
 rw[show vc ⟨[nM],[[wi]],log2,2,2⟩ [116] = [wi]from rfl]
 conv=>whnf
 refine⟨List.range 35,by kernel_rfl,by kernel_rfl,?_⟩
 conv=>whnf
 repeat (conv=>whnf
         first | (refine⟨rfl,?_⟩) | (refine⟨_,⟨by decide,rfl⟩,?_⟩) | (refine⟨⟨_,⟨by decide,rfl⟩,rfl⟩,?_⟩))
 conv=>whnf
 refine .call [0,1] 2 ⟨rfl,rfl,rfl⟩ (rv (l:=[nM]) (L:=L2) (c:=c2) (log:=log2) (n:=2) (m:=2) ?_)
 repeat (conv=>whnf
         first | (refine⟨rfl,?_⟩) | (refine⟨_,⟨by decide,rfl⟩,?_⟩) | (refine⟨⟨_,⟨by decide,rfl⟩,rfl⟩,?_⟩))
 conv=>whnf
 exact⟨[],rfl,h⟩
structure Stand (s:SS) (N:Nat):Prop where
 b:SrcB s N
 log:s.log.length<=1000+8000160*N
theorem J4:Stand ss0 0:=⟨src0_b,pw⟩
theorem Hg (b:List UInt8):0<(dD b).length:=by rw[gZ]; omega
theorem iT:∀(es:List Evt) (b:List UInt8),b.length+es.length<=(aR b es).length
 | [],b=>Nat.le_refl _
 | e::es,b=>by
  have:=iT es (b++dD (cC e));have hp:=Hg (cC e);rw[aD]at this;show _<=(aR (b++dD (cC e)) es).length
  rw[List.length_cons];omega
theorem De {s:SS} {ds:List Dd} {u:Bool} (hl:TbsB s.l) (hds:∀d∈ds,gV d) (h6:ds.length<=6) (hn:0<=s.n/\s.n<=1000000) :
 (oW s ds u).1.log.length<=s.log.length+8000160/\s.log.length<=(oW s ds u).1.log.length/\((oW s ds u).1=s\/((oW s ds u).1.n=s.n+1/\(oW s ds u).1.m=(if u then s.m else s.m+1)/\s.log.length<(oW s ds u).1.log.length)):=by
 by_cases h:(gY s.l s.R ds).2=0
 . have hm:=qK hl h (fun d hd=>(hds d hd).t) (fun d hd=>(hds d hd).n)
   rw[oX h];have h1:=cW hl (bh 2 s.n::(ds.map dn ++ [bh (if u then 8 else 7) s.n])) s.log (fun e he=>by
    rcases List.mem_cons.1 he with rfl | he
    . exact⟨bA rfl hn.1,du (by unfold ei; omega)⟩
    . rcases List.mem_append.1 he with he | he
      . exact⟨(hm e he).1,(hm e he).2.1⟩
      . rw[List.mem_singleton.1 he];exact⟨bA (by cases u<;>rfl) hn.1,du (by unfold ei; omega)⟩)
   have h2:=iT (bh 2 s.n::(ds.map dn ++ [bh (if u then 8 else 7) s.n])) s.log
   simp only[List.length_cons,aD,List.length_map,List.length_nil]at h1 h2;refine⟨?_,?_,.inr ⟨rfl,rfl,?_⟩⟩
   . exact Nat.le_trans h1 (Nat.add_le_add_left (Nat.mul_le_mul_left 1000020 (show ds.length+(0+1)+1<=8 by omega)) _)
   . simp only; omega
   . simp only; omega
 . rw[sg h];exact⟨Nat.le_add_right _ _,Nat.le_refl _,.inl rfl⟩
theorem vR {s:SS} {c:Chg} (hl:TbsB s.l) (hc:c.c.length<9223372036854775808) (hn:0<=s.n/\s.n<=1000000) :
 (bq s c).1.log.length<=s.log.length+8000160/\s.log.length<=(bq s c).1.log.length/\((bq s c).1=s\/((bq s c).1.n=s.n+1/\(bq s c).1.m=s.m+1/\s.log.length<(bq s c).1.log.length)):=by
 unfold bq;split
 . rename_i hme;split
   . have h1:=cW hl [bh 2 s.n,⟨6,0,[],[],[],c⟩,bh 7 s.n] s.log (fun e he=>by
      simp only[List.mem_cons,List.not_mem_nil,or_false]at he;rcases he with rfl | rfl | rfl
      . exact⟨bA rfl hn.1,du (by unfold ei; omega)⟩
      . exact⟨hme,ER _ _ _ ⟨by decide,by decide⟩⟩
      . exact⟨bA rfl hn.1,du (by unfold ei; omega)⟩)
     have h2:=iT [bh 2 s.n,⟨6,0,[],[],[],c⟩,bh 7 s.n] s.log;simp only[List.length_cons,List.length_nil]at h1 h2;refine⟨?_,?_,.inr ⟨rfl,rfl,?_⟩⟩
     . simp only; omega
     . simp only; omega
     . simp only; omega
   . exact⟨Nat.le_add_right _ _,Nat.le_refl _,.inl rfl⟩
 . exact⟨Nat.le_add_right _ _,Nat.le_refl _,.inl rfl⟩
theorem y5 {s:SS} {hi:Bool} {k:Int} (hl:TbsB s.l) (hk:ei k) :
 (fB s hi k).1.log.length<=s.log.length+8000160/\s.log.length<=(fB s hi k).1.log.length/\(fB s hi k).1.n=s.n/\(fB s hi k).1.m=s.m:=by
 unfold fB;split
 . exact⟨Nat.le_add_right _ _,Nat.le_refl _,rfl,rfl⟩
 . have h1:=cW hl [bh (if hi then 10 else 9) k] s.log (fun e he=>by
    rw[List.mem_singleton.1 he];exact⟨bA (by cases hi<;>rfl) (by omega),du hk⟩)
   have e:aR s.log [bh (if hi then 10 else 9) k]=s.log++dD (cC (bh (if hi then 10 else 9) k)):=rfl
   rw[e]at h1;simp only[List.length_cons,List.length_nil]at h1;refine⟨?_,?_,rfl,rfl⟩
   . simp only; omega
   . simp only[aD]; omega
structure La (a:xn) (s s' : SS):Prop where
 le:s'.log.length<=s.log.length+8000160
 ge:s.log.length<=s'.log.length
 n:s'.n=s.n\/s'.n=s.n+1
 m:s'.m=s.m\/(s'.m=s.m+1/\s.log.length<s'.log.length/\(a.k=0\/a.k=5\/a.k=2))
theorem AskS.kept {a:xn} {s s' : SS} (h:AskS a s s') (hl:TbsB s.l) (ha:pC a) (hn:0<=s.n/\s.n<=1000000):La a s s' := by
 cases h with
 | same=>exact⟨Nat.le_add_right _ _,Nat.le_refl _,.inl rfl,.inl rfl⟩
 | tx ds u h1 h2 h3 =>
  obtain⟨q1,q2,q3⟩:=De (u:=u) hl h1 h2 hn;refine⟨q1,q2,?_,?_⟩
  . rcases q3 with q3 | ⟨q3,_⟩
    . rw[q3]; exact .inl rfl
    . exact .inr q3
  . rcases q3 with q3 | ⟨_,q3,q4⟩
    . rw[q3]; exact .inl rfl
    . cases u with
      | true=>exact .inl q3
      | false=>exact .inr ⟨q3,q4,by rcases h3 rfl with h | h; exact .inl h; exact .inr (.inl h)⟩
 | alt c h1 h2 =>
  obtain⟨q1,q2,q3⟩:=vR hl h2 hn;refine⟨q1,q2,?_,?_⟩
  . rcases q3 with q3 | ⟨q3,_⟩
    . rw[q3]; exact .inl rfl
    . exact .inr q3
  . rcases q3 with q3 | ⟨_,q3,q4⟩
    . rw[q3]; exact .inl rfl
    . exact .inr ⟨q3,q4,.inr (.inr h1)⟩
 | mark hi =>
  obtain⟨q1,q2,q3,q4⟩:=y5 (hi:=hi) hl ha.n;exact⟨q1,q2,.inl q3,.inl q4⟩
theorem Stand.step {s s' : SS} {N:Nat} {a:xn} (h:Stand s N) (hN:N<=1000) (hl:TbsB s.l) (ha:pC a) (hs:AskS a s s'):Stand s' (N+1):=by
 have h1:=h.b.n0; have h2:=h.b.n1; have h3:=h.b.m0; have h4:=h.b.m1;have hk:=hs.kept hl ha ⟨h1,by omega⟩
 refine⟨⟨?_,?_,?_,?_⟩,?_⟩
 . rcases hk.n with h | h<;>omega
 . rcases hk.n with h | h<;>omega
 . rcases hk.m with h | ⟨h,_⟩<;>omega
 . rcases hk.m with h | ⟨h,_⟩<;>omega
 . exact Nat.le_trans hk.le (by rw[Nat.mul_succ,<-Nat.add_assoc]; exact Nat.add_le_add_right h.log _)
theorem Stand.small {s:SS} {N:Nat} (h:Stand s N) (hN:N<=25):s.log.length+1000020*8<=700000000:=by
 have h2:8000160*N<=8000160*25:=Nat.mul_le_mul_left _ hN;exact Nat.le_trans (Nat.add_le_add_right (Nat.le_trans h.log (Nat.add_le_add_left h2 1000)) _) (by decide)
theorem Ey:∀ {es:List (List V)},(∀x∈es,∃d:Dd,x=Ky d /\ ∀v∈d.r,BL v) -> ∃l:List Dd,es=ie l /\ ∀d∈l,∀v∈d.r,BL v
 | [],_=>⟨[],rfl,by simp⟩
 | x::es,h=>by
  obtain⟨d,rfl,hd⟩:=h x (by simp)
  obtain⟨l,rfl,hl⟩:=Ey (es:=es) fun y hy=>h y (by simp[hy])
  refine⟨d::l,rfl,fun v hv=>?_⟩
  rcases List.mem_cons.1 hv with rfl | hv
  . exact hd
  . exact hl v hv
theorem BS:∀ {es:List (List V)},(∀x∈es,∃a:xn,x=GM a/\pC a) -> ∃l:List xn,es=nC l /\ ∀a∈l,pC a
 | [],_=>⟨[],rfl,by simp⟩
 | x::es,h=>by
  obtain⟨d,rfl,hd⟩:=h x (by simp)
  obtain⟨l,rfl,hl⟩:=BS (es:=es) fun y hy=>h y (by simp[hy])
  refine⟨d::l,rfl,fun v hv=>?_⟩
  rcases List.mem_cons.1 hv with rfl | hv
  . exact hd
  . exact hl v hv
theorem GZ {d:Dd} (h:∀v∈d.r,BL v):gV d:=⟨fun v hv=>Nat.lt_of_le_of_lt (h v hv).t (by decide),fun v hv=>(h v hv).n⟩
theorem GN {vs:List V} (h:GB tt 8 22 vs):∃l:List xn,GL tt 22 vs = .sl 11 (nC l) false /\ ∀a∈l,pC a:=by
 obtain⟨es,_,g1,rfl⟩:=h;obtain⟨l,rfl,hl⟩:=BS fun x hx=>by
  obtain⟨_,_,⟨k,hk,rfl⟩,⟨_,_,⟨eds,_,gds,rfl⟩,⟨_,_,hch,⟨_,_,⟨aft,_,rfl⟩,⟨_,_,⟨n,hn,rfl⟩,rfl,rfl⟩,rfl⟩,rfl⟩,rfl⟩,rfl⟩:=g1 x hx;obtain⟨_,_,⟨ck,hck,rfl⟩,⟨_,_,⟨ct,_,rfl⟩,⟨_,_,⟨_,_,⟨es,_,g1,rfl⟩,⟨_,_,⟨ks,hks,rfl⟩,rfl,rfl⟩,rfl⟩,⟨_,_,⟨_,_,⟨cn,_,rfl⟩,⟨_,_,⟨cck,hcck,rfl⟩,⟨_,_,⟨o,rfl⟩,rfl,rfl⟩,rfl⟩,rfl⟩,rfl,rfl⟩,rfl⟩,rfl⟩,rfl⟩:=hch;obtain⟨l,rfl,hl⟩:=BZ fun x hx=>by
   obtain⟨_,_,⟨s,_,rfl⟩,⟨_,_,⟨k,hk,rfl⟩,⟨_,_,⟨o,rfl⟩,rfl,rfl⟩,rfl⟩,rfl⟩:=g1 x hx;exact⟨s,k,o,rfl,sF hk⟩
  obtain⟨ds,rfl,hds⟩:=Ey fun x hx=>by
   obtain⟨_,_,⟨k,hk,rfl⟩,⟨_,_,⟨t,_,rfl⟩,⟨_,_,⟨es,_,g2,rfl⟩,rfl,rfl⟩,rfl⟩,rfl⟩:=gds x hx;obtain⟨l,rfl,hl⟩:=yy fun x hx=>by
    obtain⟨_,_,⟨k,hk,rfl⟩,⟨_,_,⟨n,hn,rfl⟩,⟨_,_,⟨s,hs,rfl⟩,rfl,rfl⟩,rfl⟩,rfl⟩:=g2 x hx;exact⟨k,n,s,rfl,sF hk,sF hn,hs⟩
   exact⟨⟨k,t,l⟩,rfl,hl⟩
  exact⟨⟨k,ds,⟨ck,ct,l,ks,⟨cn,cck,o⟩⟩,aft,n⟩,rfl,⟨fun d hd=>GZ (hds d hd),sF hn,sF hks,hl⟩⟩
 exact⟨l,rfl,hl⟩
def CK (s:SS) (e:Evt):List (List Rw):=match dP s.l e.t with
 | none=>s.R
 | some i=>match s.l[i]? with
  | none=>s.R
  | some t=>s.R.set i (jf t.c t.k.toNat (s.R.getD i []) e)
def tU (s:SS) (e:Evt):SS:=if e.k=3\/e.k=4\/e.k=5 then { s with R:=CK s e } else if e.k=6 then { s with l:=(bq s e.ch).1.l,R:=(bq s e.ch).1.R } else s
set_option maxRecDepth 8000 in
theorem xE {s:SS} {e:Evt} {b:Nat} (hS:DocOk s.l s.R b) (hb:b<800000) (hB:SrcB s 1000000) (hs:s.log.length<=1000) (hT:oI e) (hc:e.ch.c.length<9223372036854775808) (h:Q (sV (tU s e)) []) :
 ACall Tryz.prog 44 0 [sV s,tZ e] [] Q:=by
 refine ad Tryz.func44 0 rfl (aA rfl) ?_;have hl:=hS.tbs;have hcl:=hl.cols;have hfew:=hl.few;have hlt:=bR s.l;have hrl:=eT s.R;have hlen:=hS.len
 conv=>whnf
 refine ac (fun c1=>?_) (fun c1=>?_)<;>try rw[c1]<;>conv=>whnf
 rotate_left
 refine ac (fun c2=>?_) (fun c2=>?_)<;>try rw[c2]<;>conv=>whnf
 rotate_left
 . have c1' := aG c1;have c2' := aG c2;refine ac (fun c3=>?_) (fun c3=>?_)<;>try rw[c3]<;>conv=>whnf
   . have c3' := aB c3;unfold tU at h;rw[if_pos (.inr (.inr c3'))]at h;unfold CK at h;refine .pure (dS (by omega) ⟨rfl,?_⟩)
     cases ha:dP s.l e.t with
     | none =>
      rw[ha]at h;rw[ey ha]
      conv=>whnf
      exact⟨[],rfl,h⟩
     | some i =>
      obtain⟨t,hti,htn,hil⟩:=bY ha;obtain⟨rs,hRi,hgd,hro,hrb⟩:=hS.get hti;have htk:=hl.tbk (List.mem_of_getElem? hti);rw[ha]at h;simp only[hti,hgd]at h;obtain⟨n,C,K⟩:=t;obtain⟨k,rfl⟩:∃k:Nat,K=k:=⟨K.toNat,by have:=htk.lo; simp only at this; omega⟩
      have hC:C.length<=16:=htk.few;have hK2:k<=C.length:=by have:=htk.hi; simp only at this; omega
      rw[show jf (⟨n,C,k⟩:Tb).c (⟨n,C,k⟩:Tb).k.toNat rs e=lj C k rs (dK C k e.b)from if_pos c3']at h
      rw[show ji s.l e.t=(i:Int) by unfold ji D4; rw[show qC (my s.l) e.t=some i from ha]]
      conv=>whnf
      rw[show decide ((i:Int)≥0)=true from decide_eq_true (by omega)]
      conv=>whnf
      refine⟨List.range 27,by kernel_rfl,by kernel_rfl,?_⟩
      conv=>whnf
      refine⟨_,⟨by omega,ay hti⟩,?_⟩
      conv=>whnf
      refine⟨_,⟨by omega,aK hRi⟩,?_⟩
      conv=>whnf
      refine⟨_,⟨by omega,ay hti⟩,?_⟩
      conv=>whnf
      refine .pure (gm (C:=C) (K:=k) (r:=e.b) (f:=false) (by omega) hK2 hT.b ⟨rfl,?_⟩)
      repeat (conv=>whnf
              first | (refine⟨rfl,?_⟩) | (refine⟨⟨_,⟨by omega,aK hRi⟩,rfl⟩,?_⟩) | (refine⟨⟨_,⟨by omega,ay hti⟩,rfl⟩,?_⟩))
      conv=>whnf
      refine .pure (pL (C:=C) (K:=k) (l:=rs) (key:=dK C k e.b) (by omega) hK2 (kH hro) (by omega) ⟨rfl,?_⟩)
      generalize lj C k rs (dK C k e.b)=rs' at *
      repeat (conv=>whnf
              first | (refine⟨rfl,?_⟩) | (refine⟨⟨_,⟨by omega,aK hRi⟩,rfl⟩,?_⟩) | (refine⟨⟨_,⟨by omega,ay hti⟩,rfl⟩,?_⟩))
      conv=>whnf
      refine .pure (iw (R:=s.R) (i:=i) (rows:=rs') (by omega) (by omega) ⟨rfl,?_⟩)
      repeat (conv=>whnf
              first | (refine⟨rfl,?_⟩) | (refine⟨⟨_,⟨by omega,aK hRi⟩,rfl⟩,?_⟩) | (refine⟨⟨_,⟨by omega,ay hti⟩,rfl⟩,?_⟩))
      conv=>whnf
      exact⟨[],rfl,h⟩
   . have c3' := aG c3;unfold tU at h;rw[if_neg (by omega)]at h
     refine ac (fun c4=>?_) (fun c4=>?_)<;>try rw[c4]<;>conv=>whnf
     . have c4' := aB c4;rw[if_pos c4']at h;refine .pure (pJ (s:=s) (ch:=e.ch) hS hB hc hb (by omega) ⟨rfl,?_⟩)
       conv=>whnf
       exact⟨[],rfl,h⟩
     . have c4' := aG c4;rw[if_neg c4']at h;exact⟨[],rfl,h⟩
 all_goals
  have hk:e.k=3\/e.k=4:=by first | exact .inl (aB c1) | exact .inr (aB c2)
  clear c1;unfold tU at h;rw[if_pos (by omega)]at h
  unfold CK at h;refine .pure (dS (by omega) ⟨rfl,?_⟩)
  cases ha:dP s.l e.t with
  | none =>
   rw[ha]at h;rw[ey ha]
   conv=>whnf
   exact⟨[],rfl,h⟩
  | some i =>
   obtain⟨t,hti,htn,hil⟩:=bY ha;obtain⟨rs,hRi,hgd,hro,hrb⟩:=hS.get hti;have htk:=hl.tbk (List.mem_of_getElem? hti);rw[ha]at h;simp only[hti,hgd]at h;obtain⟨n,C,K⟩:=t;obtain⟨k,rfl⟩:∃k:Nat,K=k:=⟨K.toNat,by have:=htk.lo; simp only at this; omega⟩
   have hC:C.length<=16:=htk.few;have hK2:k<=C.length:=by have:=htk.hi; simp only at this; omega
   rw[show jf (⟨n,C,k⟩:Tb).c (⟨n,C,k⟩:Tb).k.toNat rs e=jP C k rs e.a from if_neg (by omega)]at h
   rw[show ji s.l e.t=(i:Int) by unfold ji D4; rw[show qC (my s.l) e.t=some i from ha]]
   conv=>whnf
   rw[show decide ((i:Int)≥0)=true from decide_eq_true (by omega)]
   conv=>whnf
   refine⟨List.range 20,by kernel_rfl,by kernel_rfl,?_⟩
   conv=>whnf
   refine⟨_,⟨by omega,ay hti⟩,?_⟩
   conv=>whnf
   refine⟨_,⟨by omega,aK hRi⟩,?_⟩
   conv=>whnf
   refine .pure (ld (C:=C) (K:=k) (l:=rs) (r:=e.a) (f:=false) (by omega) hK2 (kH hro) hT.a (by omega) ⟨rfl,?_⟩)
   generalize jP C k rs e.a=rs' at *
   repeat (conv=>whnf
           first | (refine⟨rfl,?_⟩) | (refine⟨⟨_,⟨by omega,aK hRi⟩,rfl⟩,?_⟩) | (refine⟨⟨_,⟨by omega,ay hti⟩,rfl⟩,?_⟩))
   conv=>whnf
   refine .pure (iw (R:=s.R) (i:=i) (rows:=rs') (by omega) (by omega) ⟨rfl,?_⟩)
   repeat (conv=>whnf
           first | (refine⟨rfl,?_⟩) | (refine⟨⟨_,⟨by omega,aK hRi⟩,rfl⟩,?_⟩) | (refine⟨⟨_,⟨by omega,ay hti⟩,rfl⟩,?_⟩))
   conv=>whnf
   exact⟨[],rfl,h⟩
def mJ (s:SS) (l:List Evt):SS:=l.foldl tU s
structure K9 (s:SS) (e:Evt):Prop where
 doc:DocOk s.l s.R 700000
 t:oI e
 c:e.ch.c.length<9223372036854775808
def xp:SS->List Evt->Prop
 | _,[]=>True
 | s,e::l=>K9 s e/\xp (tU s e) l
def bF (es:List Evt):Nat->Nat × SS
 | 0=>(0,ss0)
 | n+1=>match es[n]? with
  | none=>bF es n
  | some e=>if e.k=2 then(n,(bF es n).2)else if e.k=7 then((bF es n).1,{ mJ (bF es n).2 ((es.drop (bF es n).1).take (n-(bF es n).1))with m:=(bF es n).2.m+1 })else bF es n
theorem x6 (s:SS) (e:Evt):(tU s e).log=s.log/\(tU s e).n=s.n/\(tU s e).m=s.m:=by
 unfold tU;split
 . exact⟨rfl,rfl,rfl⟩
 split<;>exact⟨rfl,rfl,rfl⟩
theorem ut:∀(l:List Evt) (s:SS),(mJ s l).log=s.log/\(mJ s l).n=s.n/\(mJ s l).m=s.m
 | [],s=>⟨rfl,rfl,rfl⟩
 | e::l,s=>by
  obtain⟨h1,h2,h3⟩:=x6 s e;obtain⟨g1,g2,g3⟩:=ut l (tU s e);exact⟨g1.trans h1,g2.trans h2,g3.trans h3⟩
theorem lF (es:List Evt):∀n,(bF es n).2.log=start/\(bF es n).2.n=0/\0<=(bF es n).2.m/\(bF es n).2.m<=n/\(bF es n).1<=n
 | 0=>⟨rfl,rfl,Int.le_refl 0,Int.le_refl 0,Nat.le_refl 0⟩
 | n+1=>by
  obtain⟨h1,h2,h3,h4,h5⟩:=lF es n;rw[bF];split
  . exact⟨h1,h2,h3,by omega,by omega⟩
  split
  . exact⟨h1,h2,h3,by simp only; omega,by simp only; omega⟩
  split
  . obtain⟨g1,g2,g3⟩:=ut ((es.drop (bF es n).1).take (n-(bF es n).1)) (bF es n).2;exact⟨by simp only[g1,h1],by simp only[g2,h2],by simp only; omega,by simp only; omega,by simp only; omega⟩
  . exact⟨h1,h2,h3,by omega,by omega⟩
def um (es:List Evt):Prop:=∀n e,es[n]? = some e->e.k=7->xp (bF es n).2 ((es.drop (bF es n).1).take (n-(bF es n).1))
set_option maxRecDepth 8000 in
theorem vz {es:List Evt} {f:Bool} (hlen:es.length<100000) (hok:um es) (h:Q (sV (bF es es.length).2) []) :
 ACall Tryz.prog 25 0 [.sl 12 (dz es) f,fI es.length] [] Q:=by
 refine ad Tryz.func25 0 rfl (aA rfl) ?_;have hel:=f8 es
 conv=>whnf
 refine .pure (pH ⟨rfl,?_⟩)
 conv=>whnf
 refine⟨⟨[0,1,4,5,6,7],fun k ws H=>∃i:Nat,ws = [.sl 12 (dz es) f,fI es.length,.ptr 0 0,.ptr 1 0,fI (bF es i).1,fI i]/\H = [.cells IR,.cells (sC (bF es i).2)]/\i<=es.length/\k=es.length-i,.at _ ⟨0,rfl,rfl,Nat.zero_le _,rfl⟩,?_⟩⟩
 rintro k ws H ⟨i,rfl,rfl,hi,rfl⟩
 conv=>whnf
 obtain⟨q1,q2,q3,q4,q5⟩:=lF es i;refine ac (fun c1=>?_) (fun c1=>?_)<;>try rw[c1]<;>conv=>whnf
 rotate_left
 . have c1' := aG c1;have hie:i=es.length:=by omega
   rw[<-hie]at h;exact⟨[],rfl,h⟩
 have c1' := aB c1;have hil:i<es.length:=by omega
 have hg:es[i]? = some es[i]:=aS hil;have hstep:bF es (i+1)=if es[i].k=2 then(i,(bF es i).2)else if es[i].k=7 then((bF es i).1,{ mJ (bF es i).2 ((es.drop (bF es i).1).take (i-(bF es i).1))with m:=(bF es i).2.m+1 })else bF es i:=by
  rw[bF,hg]
 have hap:=hok i es[i] hg;generalize es[i]=e at *;refine⟨_,⟨by omega,lW hg⟩,?_⟩
 conv=>whnf
 refine ac (fun c2=>?_) (fun c2=>?_)<;>try rw[c2]<;>conv=>whnf
 . have c2' := aB c2;rw[if_pos c2']at hstep;refine⟨_,⟨by omega,lW hg⟩,?_⟩
   conv=>whnf
   rw[show decide (e.k=7)=false from decide_eq_false (by omega)]
   conv=>whnf
   refine .go [0,1] rfl (es.length-(i+1)) (by omega) ⟨i+1,?_,by rw[hstep]; rfl,by omega,rfl⟩
   rw[hstep];show [V.sl 12 (dz es) f,fI es.length,.ptr 0 0,.ptr 1 0,fI i,.int .i64 (IntKind.i64.wrap ((i:Int)+1))]=_
   rw[dm (by omega)]; rfl
 have c2' := aG c2;rw[if_neg c2']at hstep;refine⟨_,⟨by omega,lW hg⟩,?_⟩
 conv=>whnf
 by_cases h7:e.k=7
 rotate_left
 . rw[if_neg h7]at hstep;rw[show decide (e.k=7)=false from decide_eq_false h7]
   conv=>whnf
   refine .go [0,1] rfl (es.length-(i+1)) (by omega) ⟨i+1,?_,by rw[hstep]; rfl,by omega,rfl⟩
   rw[hstep];show [V.sl 12 (dz es) f,fI es.length,.ptr 0 0,.ptr 1 0,fI (bF es i).1,.int .i64 (IntKind.i64.wrap ((i:Int)+1))]=_
   rw[dm (by omega)]; rfl
 rw[if_pos h7]at hstep;have hap:=hap h7;rw[show decide (e.k=7)=true from decide_eq_true h7]
 conv=>whnf
 rw[show decide ((bF es i).2.m=(es.length:Int))=false from decide_eq_false (by omega)]
 conv=>whnf
 generalize (bF es i).1=a at *;generalize (bF es i).2=s0 at *
 refine⟨⟨[0,1,4,5,6,7,8,9],fun k ws H=>∃(j:Nat) (st:SS),ws = [.sl 12 (dz es) f,fI es.length,.ptr 0 0,.ptr 1 0,fI a,fI i,fI s0.m,fI j]/\H = [.cells IR,.cells (sC st)]/\j<=i /\
  mJ st ((es.drop j).take (i-j))=mJ s0 ((es.drop a).take (i-a))/\xp st ((es.drop j).take (i-j))/\st.log=start/\st.n=0/\st.m=s0.m/\k=i-j,.at _ ⟨a,s0,rfl,rfl,q5,rfl,hap,q1,q2,rfl,rfl⟩,?_⟩⟩
 rintro k ws H ⟨j,st,rfl,rfl,hj,e1,e2,e3,e4,e5,rfl⟩
 conv=>whnf
 refine ac (fun c3=>?_) (fun c3=>?_)<;>try rw[c3]<;>conv=>whnf
 . have c3' := aB c3;have hji:j<i:=by omega
   have hgj:es[j]? = some es[j]:=aS (by omega)
   have hcut:(es.drop j).take (i-j)=es[j]::(es.drop (j+1)).take (i-(j+1)):=by
    rw[List.drop_eq_getElem_cons (by omega),show i-j=(i-(j+1))+1 by omega,List.take_succ_cons]
   rw[hcut]at e1 e2;generalize es[j]=ej at *;obtain⟨⟨d1,d2,d3⟩,e2⟩:=e2;have e1:mJ (tU st ej) ((es.drop (j+1)).take (i-(j+1)))=mJ s0 ((es.drop a).take (i-a)):=e1;refine⟨List.range 7,by kernel_rfl,by kernel_rfl,?_⟩
   conv=>whnf
   refine⟨_,⟨by omega,lW hgj⟩,?_⟩
   conv=>whnf
   have hst7:=pw;refine .pure (xE (s:=st) (e:=ej) d1 (by omega) ⟨by omega,by omega,by omega,by omega⟩ (by rw[e3]; exact hst7) d2 d3 ⟨rfl,?_⟩)
   obtain⟨k1,k2,k3⟩:=x6 st ej;generalize tU st ej=st' at *
   repeat (conv=>whnf
           first | (refine⟨rfl,?_⟩) | (refine⟨⟨_,⟨by omega,lW hgj⟩,rfl⟩,?_⟩))
   conv=>whnf
   refine .go [0,1] rfl (i-(j+1)) (by omega) ⟨j+1,st', ?_,rfl,by omega,e1,e2,k1.trans e3,k2.trans e4,k3.trans e5,rfl⟩
   show [V.sl 12 (dz es) f,fI es.length,.ptr 0 0,.ptr 1 0,fI a,fI i,fI s0.m,.int .i64 (IntKind.i64.wrap ((j:Int)+1))]=_
   rw[dm (by omega)]; rfl
 . have c3' := aG c3;have hji:j=i:=by omega
   subst hji;rw[Nat.sub_self,List.take_zero]at e1;have hw:IntKind.i64.wrap (s0.m+1)=s0.m+1:=aQ (by omega)
   refine .go [0,1] rfl (es.length-(j+1)) (by omega) ⟨j+1,?_,?_,by omega,rfl⟩
   . rw[hstep];show [V.sl 12 (dz es) f,fI es.length,.ptr 0 0,.ptr 1 0,fI a,.int .i64 (IntKind.i64.wrap ((j:Int)+1))]=_
     rw[dm (by omega)]; rfl
   . rw[hstep,<-e1];show [O.cells IR,.cells [.sl 3 (tbs st.l) false,.sl 1 (mA st.R) false,.sl 1 (bs st.log) false,fI st.n,fI (IntKind.i64.wrap (s0.m+1))]]=_
     rw[hw]; rfl
end
section
theorem Fs (b:List UInt8) (a:Int):(eZ b a).1.length<=b.length:=by
 by_cases h:(eZ b a).2.2=0
 . obtain⟨h0,r,hr,_⟩:=wL (b:=b) (a:=a) (x:=(eZ b a).1) (n:=(eZ b a).2.1) (by rw[<-h])
   have:=congrArg List.length hr;rw[List.length_drop,aD,gZ]at this;omega
 . rw[(Fr b a h).1]; simp
end
section
variable {Q:V->List O->Prop}
def Lj (s:Sc):V:=.agg [fI s.a,.sl 3 (tbs s.l) false,.sl 3 (tbs s.h) false,fI s.x]
def K1 (r:Evt × Sc × Int):V:=.tup [tZ r.1,Lj r.2.1,fI r.2.2]
theorem jX (s:Sc) (er:Int):VSub (.tup [.agg [fI 0,fI 0,.str [],.nils,.nils,fI 0,.str [],.nils,fI 0,.str [],fI 0,.bool false],Lj s,fI er]) (K1 (jB,s,er)):=.tup (.cons (.agg (qN 0)) (VSubs.refl _))
theorem xD {b:List UInt8} {f:Bool} {s:Sc} (hb:b.length<=900000000) (hs:ry s) (h:Q (K1 (bT b s)) []):ACall Tryz.prog 42 0 [.sl 1 (bs b) f,Lj s] [] Q:=by
 refine ACall.ret (ad Tryz.func42 0 rfl (aA rfl) ?_);unfold bT at h
 conv=>whnf
 refine .pure (xC (b:=b) (a:=s.a) hb ⟨rfl,?_⟩);have hwl:=Fs b s.a;generalize eZ b s.a=N at *;obtain⟨w,n,g⟩:=N;simp only at h hwl
 conv=>whnf
 refine ac (fun c1=>?_) (fun c1=>?_)<;>try rw[c1]<;>conv=>whnf
 . have c1' : g≠0:=by simpa using c1
   rw[if_pos c1']at h;refine⟨List.range 6,by kernel_rfl,by kernel_rfl,?_⟩
   repeat (conv=>whnf
           refine⟨rfl,?_⟩)
   conv=>whnf
   exact⟨[],rfl,.sub _ _ (jX s g) (HSub.refl _) (.done [] rfl h)⟩
 have c1' : ¬g≠0:=by simpa using c1
 rw[if_neg c1']at h;unfold CI at h;refine .pure (xB (b:=w) (l:=s.h) hs.h (by omega) ⟨rfl,?_⟩)
 rw[<-Bn hs.h (by omega)]
 generalize kC w s.h=E at *;obtain⟨e,g⟩:=E;simp only at h
 conv=>whnf
 refine ac (fun c2=>?_) (fun c2=>?_)<;>try rw[c2]<;>conv=>whnf
 . have c2' : g≠0:=by simpa using c2
   rw[if_pos c2']at h;refine⟨List.range 6,by kernel_rfl,by kernel_rfl,?_⟩
   repeat (conv=>whnf
           refine⟨rfl,?_⟩)
   conv=>whnf
   exact⟨[],rfl,.sub _ _ (jX s g) (HSub.refl _) (.done [] rfl h)⟩
 have c2' : ¬g≠0:=by simpa using c2
 rw[if_neg c2']at h;have bad:fL s.x e=false->Q (K1 (jB,s,14)) []:=fun hm=>by rw[if_pos hm]at h; exact h
 have good:fL s.x e=true->(cE s e n).2=0->Q (K1 (e,(cE s e n).1,0)) []:=fun hm ht=>by rw[if_neg (by rw[hm]; decide),if_neg (by rw[ht]; decide)]at h; exact h
 have fail:fL s.x e=true->(cE s e n).2≠0->Q (K1 (jB,s,(cE s e n).2)) []:=fun hm ht=>by rw[if_neg (by rw[hm]; decide),if_pos ht]at h; exact h
 have hlt:decide (s.x<0) = !decide (0<=s.x):=by rcases Int.lt_or_le s.x 0 with hx | hx<;>simp[hx,Int.not_le.2,Int.not_lt.2]
 refine ac (fun k1=>?_) (fun k1=>?_)<;>try rw[k1]<;>conv=>whnf
 focus
  have k1' : e.k=1:=aB k1;refine⟨List.range 5,by kernel_rfl,by kernel_rfl,?_⟩
  repeat (conv=>whnf
          refine⟨rfl,?_⟩)
  conv=>whnf
  exact⟨[],rfl,.sub _ _ (jX s 14) (HSub.refl _) (.done [] rfl (bad (by unfold fL; rw[if_neg (by omega),if_neg (by omega),decide_eq_true k1']; simp)))⟩
 have k1' : ¬e.k=1:=aG k1;refine ac (fun k2=>?_) (fun k2=>?_)<;>try rw[k2]<;>conv=>whnf
 focus
  have k2' : e.k=2:=aB k2;rcases Decidable.em (0<=s.x)with hx | hx
  . rw[decide_eq_true hx]
    conv=>whnf
    refine⟨List.range 5,by kernel_rfl,by kernel_rfl,?_⟩
    repeat (conv=>whnf
            refine⟨rfl,?_⟩)
    conv=>whnf
    exact⟨[],rfl,.sub _ _ (jX s 14) (HSub.refl _) (.done [] rfl (bad (by unfold fL; rw[if_pos (.inl k2'),hlt,decide_eq_true hx]; rfl)))⟩
  . rw[decide_eq_false hx]
    conv=>whnf
    have gd:=good (by unfold fL; rw[if_pos (.inl k2'),hlt,decide_eq_false hx]; rfl) (by unfold cE; rw[if_pos k2'])
    unfold cE at gd;rw[if_pos k2']at gd;refine⟨List.range 5,by kernel_rfl,by kernel_rfl,?_⟩
    repeat (conv=>whnf
            refine⟨rfl,?_⟩)
    conv=>whnf
    exact⟨[],rfl,.done [] rfl gd⟩
 have k2' : ¬e.k=2:=aG k2;refine ac (fun k6=>?_) (fun k6=>?_)<;>try rw[k6]<;>conv=>whnf
 focus
  have k6' : e.k=6:=aB k6;rcases Decidable.em (0<=s.x)with hx | hx
  . rw[decide_eq_true hx]
    conv=>whnf
    have hm:fL s.x e=true:=by unfold fL; rw[if_neg (by omega),if_neg (by omega),decide_eq_true hx,decide_eq_false k1']; rfl
    have ht:cE s e n=(if(cZ s.h e.ch.k e.ch.t e.ch.c e.ch.ks e.ch.col).2≠0 then(s,(cZ s.h e.ch.k e.ch.t e.ch.c e.ch.ks e.ch.col).2)else(⟨n,s.l,(cZ s.h e.ch.k e.ch.t e.ch.c e.ch.ks e.ch.col).1,s.x⟩,0)):=by
     unfold cE; rw[if_neg k2', if_neg (by omega),if_neg (by omega),if_pos k6']
    rw[ht]at good fail;refine .pure (nk (l:=s.h) (k:=e.ch.k) (t:=e.ch.t) (cs:=e.ch.c) (ks:=e.ch.ks) (c:=e.ch.col) hs.h.few (fun x hx=>(hs.h.ok.each x hx).sch) ⟨rfl,?_⟩)
    generalize cZ s.h e.ch.k e.ch.t e.ch.c e.ch.ks e.ch.col=fo at *
    conv=>whnf
    refine ac (fun c3=>?_) (fun c3=>?_)<;>try rw[c3]<;>conv=>whnf
    . have c3' : fo.2≠0:=by simpa using c3
      rw[if_pos c3']at fail;refine⟨List.range 6,by kernel_rfl,by kernel_rfl,?_⟩
      repeat (conv=>whnf
              refine⟨rfl,?_⟩)
      conv=>whnf
      exact⟨[],rfl,.sub _ _ (jX s fo.2) (HSub.refl _) (.done [] rfl (fail hm c3'))⟩
    . have c3' : ¬fo.2≠0:=by simpa using c3
      rw[if_neg c3']at good;refine⟨List.range 5,by kernel_rfl,by kernel_rfl,?_⟩
      repeat (conv=>whnf
              refine⟨rfl,?_⟩)
      conv=>whnf
      exact⟨[],rfl,.done [] rfl (good hm rfl)⟩
  . rw[decide_eq_false hx]
    conv=>whnf
    refine⟨List.range 5,by kernel_rfl,by kernel_rfl,?_⟩
    repeat (conv=>whnf
            refine⟨rfl,?_⟩)
    conv=>whnf
    exact⟨[],rfl,.sub _ _ (jX s 14) (HSub.refl _) (.done [] rfl (bad (by unfold fL; rw[if_neg (by omega),if_neg (by omega),decide_eq_false hx]; rfl)))⟩
 have k6' : ¬e.k=6:=aG k6;refine ac (fun k7=>?_) (fun k7=>?_)<;>try rw[k7]<;>conv=>whnf
 focus
  have k7' : e.k=7:=aB k7;rcases Decidable.em (0<=s.x)with hx | hx
  . rw[decide_eq_true hx]
    conv=>whnf
    rcases Decidable.em (e.n=s.x)with hy | hy
    . rw[decide_eq_true hy]
      conv=>whnf
      have gd:=good (by unfold fL; rw[if_neg (by omega),if_pos (.inl k7'),decide_eq_true hx,decide_eq_true hy]; rfl) (by unfold cE; rw[if_neg k2', if_pos k7'])
      unfold cE at gd;rw[if_neg k2', if_pos k7']at gd;refine⟨List.range 5,by kernel_rfl,by kernel_rfl,?_⟩
      repeat (conv=>whnf
              refine⟨rfl,?_⟩)
      conv=>whnf
      exact⟨[],rfl,.done [] rfl gd⟩
    . rw[decide_eq_false hy]
      conv=>whnf
      refine⟨List.range 5,by kernel_rfl,by kernel_rfl,?_⟩
      repeat (conv=>whnf
              refine⟨rfl,?_⟩)
      conv=>whnf
      exact⟨[],rfl,.sub _ _ (jX s 14) (HSub.refl _) (.done [] rfl (bad (by unfold fL; rw[if_neg (by omega),if_pos (.inl k7'),decide_eq_false hy]; simp)))⟩
  . rw[decide_eq_false hx]
    conv=>whnf
    refine⟨List.range 5,by kernel_rfl,by kernel_rfl,?_⟩
    repeat (conv=>whnf
            refine⟨rfl,?_⟩)
    conv=>whnf
    exact⟨[],rfl,.sub _ _ (jX s 14) (HSub.refl _) (.done [] rfl (bad (by unfold fL; rw[if_neg (by omega),if_pos (.inl k7'),decide_eq_false hx]; rfl)))⟩
 have k7' : ¬e.k=7:=aG k7;refine ac (fun k8=>?_) (fun k8=>?_)<;>try rw[k8]<;>conv=>whnf
 focus
  have k8' : e.k=8:=aB k8;rcases Decidable.em (0<=s.x)with hx | hx
  . rw[decide_eq_true hx]
    conv=>whnf
    rcases Decidable.em (e.n=s.x)with hy | hy
    . rw[decide_eq_true hy]
      conv=>whnf
      have gd:=good (by unfold fL; rw[if_neg (by omega),if_pos (.inr k8'),decide_eq_true hx,decide_eq_true hy]; rfl) (by unfold cE; rw[if_neg k2', if_neg k7', if_pos k8'])
      unfold cE at gd;rw[if_neg k2', if_neg k7', if_pos k8']at gd;refine⟨List.range 5,by kernel_rfl,by kernel_rfl,?_⟩
      repeat (conv=>whnf
              refine⟨rfl,?_⟩)
      conv=>whnf
      exact⟨[],rfl,.done [] rfl gd⟩
    . rw[decide_eq_false hy]
      conv=>whnf
      refine⟨List.range 5,by kernel_rfl,by kernel_rfl,?_⟩
      repeat (conv=>whnf
              refine⟨rfl,?_⟩)
      conv=>whnf
      exact⟨[],rfl,.sub _ _ (jX s 14) (HSub.refl _) (.done [] rfl (bad (by unfold fL; rw[if_neg (by omega),if_pos (.inr k8'),decide_eq_false hy]; simp)))⟩
  . rw[decide_eq_false hx]
    conv=>whnf
    refine⟨List.range 5,by kernel_rfl,by kernel_rfl,?_⟩
    repeat (conv=>whnf
            refine⟨rfl,?_⟩)
    conv=>whnf
    exact⟨[],rfl,.sub _ _ (jX s 14) (HSub.refl _) (.done [] rfl (bad (by unfold fL; rw[if_neg (by omega),if_pos (.inr k8'),decide_eq_false hx]; rfl)))⟩
 have k8' : ¬e.k=8:=aG k8;refine ac (fun k9=>?_) (fun k9=>?_)<;>try rw[k9]<;>conv=>whnf
 focus
  have k9' : e.k=9:=aB k9;rcases Decidable.em (0<=s.x)with hx | hx
  . rw[decide_eq_true hx]
    conv=>whnf
    refine⟨List.range 5,by kernel_rfl,by kernel_rfl,?_⟩
    repeat (conv=>whnf
            refine⟨rfl,?_⟩)
    conv=>whnf
    exact⟨[],rfl,.sub _ _ (jX s 14) (HSub.refl _) (.done [] rfl (bad (by unfold fL; rw[if_pos (by omega),hlt,decide_eq_true hx]; rfl)))⟩
  . rw[decide_eq_false hx]
    conv=>whnf
    have gd:=good (by unfold fL; rw[if_pos (by omega),hlt,decide_eq_false hx]; rfl) (by unfold cE; rw[if_neg (by omega),if_neg (by omega),if_neg (by omega),if_neg (by omega)])
    unfold cE at gd;rw[if_neg (by omega),if_neg (by omega),if_neg (by omega),if_neg (by omega)]at gd
    refine⟨List.range 5,by kernel_rfl,by kernel_rfl,?_⟩
    repeat (conv=>whnf
            refine⟨rfl,?_⟩)
    conv=>whnf
    exact⟨[],rfl,.done [] rfl gd⟩
 have k9' : ¬e.k=9:=aG k9;refine ac (fun ka=>?_) (fun ka=>?_)<;>try rw[ka]<;>conv=>whnf
 focus
  have ka' : e.k=10:=aB ka;rcases Decidable.em (0<=s.x)with hx | hx
  . rw[decide_eq_true hx]
    conv=>whnf
    refine⟨List.range 5,by kernel_rfl,by kernel_rfl,?_⟩
    repeat (conv=>whnf
            refine⟨rfl,?_⟩)
    conv=>whnf
    exact⟨[],rfl,.sub _ _ (jX s 14) (HSub.refl _) (.done [] rfl (bad (by unfold fL; rw[if_pos (by omega),hlt,decide_eq_true hx]; rfl)))⟩
  . rw[decide_eq_false hx]
    conv=>whnf
    have gd:=good (by unfold fL; rw[if_pos (by omega),hlt,decide_eq_false hx]; rfl) (by unfold cE; rw[if_neg (by omega),if_neg (by omega),if_neg (by omega),if_neg (by omega)])
    unfold cE at gd;rw[if_neg (by omega),if_neg (by omega),if_neg (by omega),if_neg (by omega)]at gd
    refine⟨List.range 5,by kernel_rfl,by kernel_rfl,?_⟩
    repeat (conv=>whnf
            refine⟨rfl,?_⟩)
    conv=>whnf
    exact⟨[],rfl,.done [] rfl gd⟩
 have ka' : ¬e.k=10:=aG ka;rcases Decidable.em (0<=s.x)with hx | hx
 . rw[decide_eq_true hx]
   conv=>whnf
   have gd:=good (by unfold fL; rw[if_neg (by omega),if_neg (by omega),decide_eq_true hx,decide_eq_false k1']; rfl) (by unfold cE; rw[if_neg (by omega),if_neg (by omega),if_neg (by omega),if_neg (by omega)])
   unfold cE at gd;rw[if_neg (by omega),if_neg (by omega),if_neg (by omega),if_neg (by omega)]at gd
   refine⟨List.range 5,by kernel_rfl,by kernel_rfl,?_⟩
   repeat (conv=>whnf
           refine⟨rfl,?_⟩)
   conv=>whnf
   exact⟨[],rfl,.done [] rfl gd⟩
 . rw[decide_eq_false hx]
   conv=>whnf
   refine⟨List.range 5,by kernel_rfl,by kernel_rfl,?_⟩
   repeat (conv=>whnf
           refine⟨rfl,?_⟩)
   conv=>whnf
   exact⟨[],rfl,.sub _ _ (jX s 14) (HSub.refl _) (.done [] rfl (bad (by unfold fL; rw[if_neg (by omega),if_neg (by omega),decide_eq_false hx]; rfl)))⟩
theorem GI {i j n:Nat} {f:Bool} {X:List (List V)} {w:Evt} {H:List O} {K:V->List O->Prop} (hij:Nat.beq i j=false) (hX:ar H i = .buf X) (hn:n=X.length) (hs:X.length<=1000000000)
 (hK:aV (bX H i .dead ++ [.buf (X ++ [zW w])]) fun H' => K (.ms 12 (bX H i .dead).length 0 (X ++ [zW w]).length false) H') :
 0+1<=1/\dW 12 (tt 93).bytes (.ms 12 i 0 n false) (.ms 12 j 0 1 f) [zW w] H K:=by
 subst hn;refine⟨Nat.le_refl 1,?_⟩;unfold dW db;simp only[hij];unfold co;simp only[show Nat.beq 12 12=true from rfl,hX,List.drop_zero]
 refine⟨rfl,?_⟩;unfold bJ;exact⟨by rw[aD,List.length_singleton,show(tt 93).bytes=168 from rfl]; omega,hK⟩
theorem GJ {i j n:Nat} {f:Bool} {X:List (List V)} {w:Evt} {H:List O} {K:V->List O->Prop} (hij:Nat.beq i j=false) (hX:ar H i = .buf X) (hn:n=X.length) (hs:X.length<=1000000000)
 (hK:aV (H ++ [.buf (X ++ [zW w])]) fun H' => K (.ms 12 H.length 0 (X ++ [zW w]).length false) H') :
 0+1<=1/\dW 12 (tt 93).bytes (.ms 12 i 0 n true) (.ms 12 j 0 1 f) [zW w] H K:=by
 subst hn;refine⟨Nat.le_refl 1,?_⟩;unfold dW db;simp only;unfold co;simp only[show Nat.beq 12 12=true from rfl,hX,List.drop_zero]
 refine⟨by omega,fun e=>by simp at e,fun _=>?_⟩
 rw[List.take_length];unfold bJ;exact⟨by rw[aD,List.length_singleton,show(tt 93).bytes=168 from rfl]; omega,hK⟩
def yw:List V:=[fI 1,fI 1,.str [],.nils,.nils,fI 0,.str [],.nils,fI 0,.str [],fI 0,.bool false]
theorem He:VSubs yw (zW mP):=.cons (.refl _) (.cons (.refl _) (.cons (.refl _) (.cons (au false) (.cons (au false) (.cons (.refl _) (.cons (.refl _) (.cons (au false) (VSubs.refl _))))))))
theorem EN (l:List Evt) (f:Bool):VSub (.sl 12 (yw::dz l) f) (.sl 12 (dz (mP::l)) f):=VSub.slRows (by rw[List.length_cons,f8,f8,List.length_cons]) fun i e e' h1 h2=>by
 cases i with
 | zero=>simp[dz]at h1 h2; subst h1 h2; exact He
 | succ i=>simp[dz]at h1 h2; obtain⟨x,hx,rfl⟩:=h1; obtain⟨y,hy,rfl⟩:=h2; rw[hx]at hy; cases hy; exact VSubs.refl _
theorem xe:start.length=7:=by decide +kernel
theorem Run.le {b:List UInt8} {s s2:Sc} {es:List Evt} (h:Run b s es s2) (hs:ry s) (ha:s.a<=(b.length:Int)):s2.a<=(b.length:Int):=by
 induction h with
 | nil s=>exact ha
 | cons h t ih=>exact ih (jT hs h).1 (jT hs h).2.2
theorem Ce {b:List UInt8} {pre:List Evt} {s:Sc} (hb7:¬(b.length<7\/b.take 7≠start)) (h:Run b F4 pre s) (he:(bT b s).2.2≠0) :
 wk b=(mP::pre,s.a,if(bT b s).2.2=7/\s.a=(b.length:Int)/\0<=s.x then 4 else(bT b s).2.2):=by
 rw[not_or]at hb7;obtain⟨g1,g2,g3⟩:=zV (b:=b) (b.length+1) w6 (by show(b.length:Int)-7 < _; omega) (by decide) (by show(7:Int)<=_; omega)
 obtain⟨e1,e2⟩:=h.uniq g1 he g2;unfold wk;rw[if_neg (by rw[not_or]; exact hb7),g3,<-e2,<-e1]
def K6 (r:List Evt × Int × Int):V:=.tup [.sl 12 (dz r.1) false,fI r.2.1,fI r.2.2]
theorem HA (a e:Int):VSub (.tup [.nils,fI a,fI e]) (K6 ([],a,e)):=.tup (.cons (VSub.nils 12 false) (VSubs.refl _))
theorem Jq {pre:List Evt} {fl:Bool} {a er:Int} (h:Q (K6 (mP::pre,a,er)) []):ARet 0 Q (.tup [.ms 12 0 0 (yw::dz pre).length fl,fI a,fI er]) [.buf (yw::dz pre)]:=by
 refine .frz 0 rfl ⟨by omega,trivial⟩ (.sub (K6 (mP::pre,a,er)) [.dead] ?_ (HSub.refl _) (.done [] rfl h))
 refine .tup (.cons (fun I ρ u hr=>EN pre false I ρ u (VSub.room _ _ fl I ρ u ?_)) (VSubs.refl _))
 have hr' : VRel I ρ (.sl 12 (List.take (yw::dz pre).length (List.drop 0 (yw::dz pre))) fl) u:=hr;rw[List.drop_zero,List.take_length]at hr';exact hr'
theorem vu {b:List UInt8} {f:Bool} (hb:b.length<=900000000) (hs:wk b=([],0,2)->ARet 0 Q (.tup [.nils,fI 0,fI 2]) []) (hf:∀pre a er fl,wk b=(mP::pre,a,er)->ARet 0 Q (.tup [.ms 12 0 0 (yw::dz pre).length fl,fI a,fI er]) [.buf (yw::dz pre)]):ACall Tryz.prog 23 0 [.sl 1 (bs b) f] [] Q:=by
 refine ACall.ret (ad Tryz.func23 0 rfl (aA rfl) ?_);have hlb:=al b
 conv=>whnf
 refine .call [] 0 ⟨rfl,rfl,rfl⟩ (rm ?_);have hway:=fun pre s=>Ce (b:=b) (pre:=pre) (s:=s)
 have hsh:(b.length<7\/b.take 7≠start)->wk b=([],0,2):=fun hh=>by unfold wk; rw[if_pos hh]
 have hsl:=xe;generalize start=st at *;have hls:=al st
 conv=>whnf
 rw[hsl];refine⟨List.range 13,by kernel_rfl,by kernel_rfl,?_⟩
 conv=>whnf
 refine ac (fun c1=>?_) (fun c1=>?_)<;>try rw[c1]<;>conv=>whnf
 . have c1' := aB c1;exact⟨[],rfl,hs (hsh (.inl (by omega)))⟩
 have c1' := aG c1;refine⟨⟨by omega,by omega⟩,?_⟩
 rw[nD]
 conv=>whnf
 refine⟨_,bz _,?_⟩
 conv=>whnf
 refine⟨by omega,st,?_,?_⟩
 . rw[List.drop_zero,show List.take 7 (bs st)=bs st by rw[<-hsl,<-hls,List.take_length]]; exact bz _
 conv=>whnf
 refine ac (fun c2=>?_) (fun c2=>?_)<;>try rw[c2]<;>conv=>whnf
 . have c2' : List.take 7 b≠st:=by simpa using c2
   exact⟨[],rfl,hs (hsh (.inr c2'))⟩
 have c2' : List.take 7 b=st:=by simpa using c2
 have hb7:¬(b.length<7\/b.take 7≠st):=by rw[not_or]; exact⟨by omega,by simpa using c2'⟩
 refine⟨⟨[0,7,8],fun mm ws H=>∃(fl:Bool) (pre:List Evt) (s:Sc),ws = [.sl 1 (bs b) f,.ms 12 0 0 (yw::dz pre).length fl,.ptr 1 0]/\H = [.buf (yw::dz pre),.cells [fI s.a,.sl 3 (tbs s.l) false,.sl 3 (tbs s.h) false,fI s.x]]/\Run b F4 pre s/\mm=(b.length-s.a).toNat,?_,?_⟩⟩
 . refine .frz (b.length+1) (.sub _ [.dead,.buf (yw::dz []),.cells [fI 7,.sl 3 (tbs []) false,.sl 3 (tbs []) false,fI (-1)]] (VSubs.refl _) ?_ (.go [1,2] rfl (b.length-7) (by omega) ⟨true,[],F4,rfl,rfl,.nil _,?_⟩))
   . exact .cons (.dead _) (.cons (.refl _) (.cons (.cells (.cons (.refl _) (.cons (au false) (.cons (au false) (VSubs.refl _))))) (HSub.refl _)))
   . show b.length-7=((b.length:Int)-7).toNat
     omega
 rintro mm ws H ⟨fl,pre,s,rfl,rfl,hrun,rfl⟩;obtain⟨hsok,hsl7⟩:=hrun.ok w6;have hle:=hrun.le w6 (by show(7:Int)<=_; omega)
 have hsa:(7:Int)+pre.length<=s.a:=hsl7
 conv=>whnf
 refine .pure (xD (b:=b) (s:=s) hb hsok ⟨rfl,?_⟩);have hway' := hway pre s hb7 hrun;have hsn:=fun h=>hrun.snoc (s2:=s) h
 have hinv:=fun h=>jT (b:=b) hsok h
 generalize bT b s=R at *;obtain⟨e,s', g⟩:=R;simp only at hway' hsn hinv
 conv=>whnf
 have hel:=f8 pre;have hR:∀er,wk b=(mP::pre,s.a,er)->ARet 0 Q (.tup [.ms 12 0 0 (yw::dz pre).length fl,fI s.a,fI er]) [.buf (yw::dz pre)]:=fun er he=>hf _ _ _ _ he
 refine ac (fun c3=>?_) (fun c3=>?_)<;>try rw[c3]<;>conv=>whnf
 focus
  have c3' := aB c3;subst c3';have hw7:=hway' (by decide)
  refine ac (fun c4=>?_) (fun c4=>?_)<;>try rw[c4]<;>conv=>whnf
  focus
   have c4' := aB c4;refine ac (fun c5=>?_) (fun c5=>?_)<;>try rw[c5]<;>conv=>whnf
   . have c5' := aB c5;rw[if_pos ⟨rfl,by omega,c5'⟩]at hw7
     refine⟨List.range 7,by kernel_rfl,by kernel_rfl,?_⟩
     repeat (conv=>whnf
             refine⟨rfl,?_⟩)
     conv=>whnf
     exact⟨[0],rfl,hR 4 hw7⟩
   . have c5' := aG c5;rw[if_neg (fun hh=>c5' hh.2.2)]at hw7
     refine⟨List.range 7,by kernel_rfl,by kernel_rfl,?_⟩
     repeat (conv=>whnf
             refine⟨rfl,?_⟩)
     conv=>whnf
     exact⟨[0],rfl,hR 7 hw7⟩
  . have c4' := aG c4;rw[if_neg (fun hh=>c4' (by omega))]at hw7
    refine⟨List.range 7,by kernel_rfl,by kernel_rfl,?_⟩
    repeat (conv=>whnf
            refine⟨rfl,?_⟩)
    conv=>whnf
    exact⟨[0],rfl,hR 7 hw7⟩
 have c3' := aG c3;refine ac (fun c4=>?_) (fun c4=>?_)<;>try rw[c4]<;>conv=>whnf
 . have c4' : g≠0:=by simpa using c4
   have hw:=hway' c4';rw[if_neg (fun hh=>c3' hh.1)]at hw
   refine⟨List.range 7,by kernel_rfl,by kernel_rfl,?_⟩
   repeat (conv=>whnf
           refine⟨rfl,?_⟩)
   conv=>whnf
   exact⟨[0],rfl,hR g hw⟩
 have c4' : g=0:=by simpa using c4
 obtain⟨i1,i2,i3⟩:=hinv c4';have hsn' := hsn c4';have hcat:yw::dz pre ++ [zW e]=yw::dz (pre ++ [e]):=by rw[Cd]; rfl
 cases fl with
 | true =>
  refine GJ (i:=0) (j:=4) (X:=yw::dz pre) (w:=e) rfl rfl rfl (by simp only[List.length_cons]; omega) ?_
  rw[hcat]
  conv=>whnf
  exact .go [5,1] rfl (b.length-s'.a).toNat (by omega) ⟨false,pre ++ [e],s', rfl,rfl,hsn', rfl⟩
 | false =>
  refine GI (i:=0) (j:=4) (X:=yw::dz pre) (w:=e) rfl rfl rfl (by simp only[List.length_cons]; omega) ?_
  rw[hcat]
  conv=>whnf
  exact .go [5,1] rfl (b.length-s'.a).toNat (by omega) ⟨false,pre ++ [e],s', rfl,rfl,hsn', rfl⟩
theorem tM {b:List UInt8} {f:Bool} (hb:b.length<=900000000) (h:Q (K6 (wk b)) []):ACall Tryz.prog 23 0 [.sl 1 (bs b) f] [] Q :=
 vu hb (fun he=>by rw[he]at h; exact .sub _ _ (HA _ _) (HSub.refl _) (.done [] rfl h)) (fun pre a er fl he=>Jq (by rw[he]at h; exact h))
end
section
theorem JK {e:Evt} {l:List Tb} (hl:TbsB l) (hm:cm e l=0) (hn:gl e):kC (cC e) l=(e,0):=by
 unfold kC;rw[IK hl (dF hm) hn];simp only[hm,if_true]
theorem F9 {b:List UInt8} {s:Sc} {e:Evt} (hs:ry s) (ha:s.a=(b.length:Int)) (hm:cm e s.h=0) (hn:gl e) :
 bT (b++dD (cC e)) s=if fL s.x e=false then(jB,s,14)else if(cE s e ((b++dD (cC e)).length:Nat)).2≠0 then(jB,s,(cE s e ((b++dD (cC e)).length:Nat)).2)else(e,(cE s e ((b++dD (cC e)).length:Nat)).1,0):=by
 have hwl:=qM hs.h (dF hm) hn;have hnx:eZ (b++dD (cC e)) s.a=(cC e,((b++dD (cC e)).length:Int),0):=by
  rw[ha,zf (x:=cC e) (r:=[]) (by omega) (by rw[List.drop_left,List.append_nil])]
  simp
 unfold bT;rw[hnx];simp only[ne_eq,not_true_eq_false,if_false];unfold CI;rw[JK hs.h hm hn];simp only[ne_eq,not_true_eq_false,if_false]
theorem zL {b:List UInt8} {s:Sc} (ha:s.a=(b.length:Int)):(bT b s).2.2=7:=by
 have hn:eZ b s.a=([],s.a,7):=by unfold eZ; rw[if_neg (by omega),if_pos ha]
 unfold bT;rw[hn]; rfl
structure LogH (b:List UInt8) (es:List Evt) (s:Sc):Prop where
 len:7<=b.length
 st:b.take 7=start
 run:Run b F4 es s
 pos:s.a=(b.length:Int)
theorem LogH.nil:LogH start [] ⟨(start.length:Nat),[],[],-1⟩:=⟨by rw[xe]; omega,by rw[<-xe,List.take_length],by rw[xe]; exact .nil _,rfl⟩
theorem LogH.snoc {b:List UInt8} {es:List Evt} {a x x' : Int} {l h l' h' : List Tb} {e:Evt} (hL:LogH b es ⟨a,l,h,x⟩) (hm:cm e h=0) (hn:gl e) (hx:fL x e=true)
 (ht:∀n,cE ⟨a,l,h,x⟩ e n=(⟨n,l', h', x'⟩,0)) (hb:(b++dD (cC e)).length<=800000000):LogH (b++dD (cC e)) (es ++ [e]) ⟨((b++dD (cC e)).length:Nat),l', h', x'⟩:=by
 have hs:=F9 (b:=b) (e:=e) (hL.run.ok w6).1 hL.pos hm hn;rw[if_neg (by simp only; rw[hx]; decide),ht,if_neg (fun hh=>hh rfl)]at hs
 have hbl:b.length<=(b++dD (cC e)).length:=by rw[aD]; omega
 refine⟨by have:=hL.len; omega,by rw[List.take_append_of_le_length hL.len]; exact hL.st,?_,rfl⟩
 have:=(hL.run.more (dD (cC e)) (by omega)).snoc (by rw[hs])
 rw[hs]at this;exact this
theorem Fg {b:List UInt8} {es:List Evt} {s:Sc} (h:LogH b es s) (hx:s.x<0):wk b=(mP::es,(b.length:Int),7):=by
 rw[Ce (b:=b) (pre:=es) (s:=s) (by rw[not_or]; exact⟨by have:=h.len; omega,by simpa using h.st⟩) h.run (by rw[zL h.pos]; decide),zL h.pos,h.pos]
 rw[if_neg (fun hh=>by have:=hh.2.2; omega)]
theorem LogH.many {l h:List Tb} {x:Int} (hx0:0<=x):∀ {D es:List Evt} {b:List UInt8} {a:Int},LogH b es ⟨a,l,h,x⟩->(∀e∈D,cm e h=0/\gl e/\3<=e.k/\e.k<=5)->(aR b D).length<=800000000->a=(b.length:Int) ->
 LogH (aR b D) (es++D) ⟨((aR b D).length:Nat),l,h,x⟩
 | [],es,b,a,hL,_,_,ha=>by rw[List.append_nil]; subst ha; exact hL
 | e::D,es,b,a,hL,hD,hb,_=>by
  obtain⟨h1,h2,h3,h4⟩:=hD e (.head _);have hmore:=iT D (b++dD (cC e));have hb' : (aR (b++dD (cC e)) D).length<=800000000:=hb
  have:=LogH.many hx0 (hL.snoc h1 h2 (by unfold fL; rw[if_neg (by omega),if_neg (by omega),decide_eq_true hx0,decide_eq_false (show ¬e.k=1 by omega)]; rfl)
   (l' := l) (h' := h) (x' := x) (fun n=>by unfold cE; rw[if_neg (by omega),if_neg (by omega),if_neg (by omega),if_neg (by omega)]) (by omega)) (fun d hd=>hD d (.tail _ hd)) hb' rfl
  rw[List.append_assoc]at this;exact this
theorem w7 {α:Type} {es fs:List α} {a n:Nat} (ha:a<=n) (hn:n<=es.length):((es++fs).drop a).take (n-a)=(es.drop a).take (n-a):=by
 rw[List.drop_append_of_le_length (by omega),List.take_append_of_le_length (by rw[List.length_drop]; omega)]
theorem lE {es fs:List Evt}:∀ {n:Nat},n<=es.length->bF (es++fs) n=bF es n
 | 0,_=>rfl
 | n+1,h=>by
  have hg:(es++fs)[n]? = es[n]?:=List.getElem?_append_left (by omega)
  have hk:=(lF es n).2.2.2.2;rw[bF,bF,hg,lE (by omega:n<=es.length),w7 hk (by omega)]
theorem CA {es D:List Evt} {e0 e1:Evt} (h0:e0.k=2) (hD:∀e∈D,e.k≠2/\e.k≠7):∀ {j:Nat},j<=D.length->bF (es++e0::(D ++ [e1])) (es.length+1+j)=(es.length,(bF es es.length).2)
 | 0,_=>by
  have hg:(es++e0::(D ++ [e1]))[es.length]? = some e0:=by rw[List.getElem?_append_right (Nat.le_refl _),Nat.sub_self]; rfl
  rw[Nat.add_zero,bF,hg,lE (Nat.le_refl _)];simp only[h0,if_true]
 | j+1,h=>by
  have hg:(es++e0::(D ++ [e1]))[es.length+1+j]? = some D[j]:=by
   rw[List.getElem?_append_right (by omega),show es.length+1+j-es.length=j+1 by omega,List.getElem?_cons_succ,List.getElem?_append_left (by omega)]
   exact aS (by omega)
  obtain⟨k1,k2⟩:=hD D[j] (List.getElem_mem (by omega))
  rw[<-Nat.add_assoc,bF,hg,CA h0 hD (by omega:j<=D.length)]
  simp only[k1,k2,if_false]
theorem BM (s:SS) {e:Evt} (h:e.k=2):tU s e=s:=by
 unfold tU;rw[if_neg (by omega),if_neg (by omega)]
theorem FZ {es D:List Evt} {n:Int} (hok:um es) (hD:∀e∈D,e.k≠2/\e.k≠7) (hdoc:DocOk (bF es es.length).2.l (bF es es.length).2.R 700000) (hap:xp (bF es es.length).2 D) :
 um (es++bh 2 n::(D ++ [bh 7 n]))/\(bF (es++bh 2 n::(D ++ [bh 7 n])) (es++bh 2 n::(D ++ [bh 7 n])).length).2 = { mJ (bF es es.length).2 D with m:=(bF es es.length).2.m+1 }:=by
 have hseg:((es++bh 2 n::(D ++ [bh 7 n])).drop es.length).take (es.length+1+D.length-es.length)=bh 2 n::D:=by
  rw[List.drop_left,show es.length+1+D.length-es.length=D.length+1 by omega,List.take_succ_cons,List.take_left]
 have hmid:=CA (es:=es) (D:=D) (e0:=bh 2 n) (e1:=bh 7 n) rfl hD (Nat.le_refl _);have hgl:(es++bh 2 n::(D ++ [bh 7 n]))[es.length+1+D.length]? = some (bh 7 n):=by
  rw[List.getElem?_append_right (by omega),show es.length+1+D.length-es.length=D.length+1 by omega,List.getElem?_cons_succ,List.getElem?_append_right (Nat.le_refl _),Nat.sub_self]; rfl
 constructor
 . intro i e hi h7;rcases Nat.lt_or_ge i es.length with hlt | hge
   . rw[List.getElem?_append_left hlt]at hi;have hk:=(lF es i).2.2.2.2;rw[lE (by omega),w7 hk (by omega)]
     exact hok i e hi h7
   obtain⟨j,rfl⟩:∃j,i=es.length+j:=⟨i-es.length,by omega⟩
   rw[List.getElem?_append_right hge,Nat.add_sub_cancel_left]at hi;cases j with
   | zero=>cases hi; cases h7
   | succ j =>
    rw[List.getElem?_cons_succ]at hi;rcases Nat.lt_or_ge j D.length with hj | hj
    . rw[List.getElem?_append_left hj]at hi;exact absurd h7 (hD e (List.mem_of_getElem? hi)).2
    . have hjl:=(liZ.1 hi).1;rw[aD,List.length_singleton]at hjl;have:j=D.length:=by omega
      subst this;rw[show es.length+(D.length+1)=es.length+1+D.length by omega,hmid,hseg]
      exact⟨⟨hdoc,wl _ _ _,by simp[bh,br]⟩,by rw[BM _ rfl]; exact hap⟩
 . rw[show(es++bh 2 n::(D ++ [bh 7 n])).length=es.length+1+D.length+1 by simp only[aD,List.length_cons,List.length_nil]; omega,bF,hgl]
   simp only[hmid,hseg];rw[if_neg (show ¬(bh 7 n).k=2 by show ¬(7:Int)=2; decide),if_pos (show(bh 7 n).k=7 from rfl)]
   rw[show mJ (bF es es.length).2 (bh 2 n::D)=mJ (bF es es.length).2 D from congrArg (fun z=>mJ z D) (BM _ rfl)]
theorem zB {es:List Evt} (hok:um es):∀ {T:List Evt},(∀e∈T,e.k≠7)->um (es++T)/\(bF (es++T) (es++T).length).2=(bF es es.length).2:=by
 intro T hT;have hN:∀j,j<=T.length->(bF (es++T) (es.length+j)).2=(bF es es.length).2:=by
  intro j;induction j with
  | zero=>intro _; rw[Nat.add_zero,lE (Nat.le_refl _)]
  | succ j ih =>
   intro hj;have hg:(es++T)[es.length+j]? = some T[j]:=by rw[List.getElem?_append_right (by omega),Nat.add_sub_cancel_left]; exact aS (by omega)
   have h7:=hT T[j] (List.getElem_mem (by omega))
   rw[<-Nat.add_assoc,bF,hg];simp only[h7,if_false];split
   . exact ih (by omega)
   . exact ih (by omega)
 constructor
 . intro i e hi h7;rcases Nat.lt_or_ge i es.length with hlt | hge
   . rw[List.getElem?_append_left hlt]at hi;have hk:=(lF es i).2.2.2.2;rw[lE (by omega),w7 hk (by omega)]
     exact hok i e hi h7
   . rw[List.getElem?_append_right hge]at hi;exact absurd h7 (hT e (List.mem_of_getElem? hi))
 . rw[aD];exact hN _ (Nat.le_refl _)
structure Hist (s:SS) (E:List Evt):Prop where
 log:LogH s.log E ⟨(s.log.length:Nat),s.l,s.l,-1⟩
 ok:um (mP::E)
 rpl:(bF (mP::E) (mP::E).length).2=⟨s.l,s.R,start,0,s.m⟩
theorem DocOk.mono {l:List Tb} {R:List (List Rw)} {b b' : Nat} (h:DocOk l R b) (hb:b<=b'):DocOk l R b' := ⟨h.tbs,h.len,fun i t rs h1 h2=>⟨(h.rows i t rs h1 h2).1,Nat.le_trans (h.rows i t rs h1 h2).2 hb⟩⟩
theorem Hist.nil:Hist ss0 []:=by
 refine⟨LogH.nil,fun n e hn h7=>?_,rfl⟩
 match n,hn with
 | 0,hn=>cases hn; exact absurd h7 (by decide)
 | n+1,hn=>cases hn
theorem ID (d:Dd) (h:1<=d.k/\d.k<=3):3<=(dn d).k/\(dn d).k<=5:=by
 unfold dn;split
 . exact(by decide:(3:Int)<=5/\(5:Int)<=5)
 . simp only; omega
theorem B6 {l:List Tb} {R:List (List Rw)} {d:Dd} (h:bn l R d=0):1<=d.k/\d.k<=3:=by
 unfold bn at h;split at h
 . exact absurd h (by decide)
 . omega
theorem IE (d:Dd):(dn d).t=d.t/\(dn d).ch=br:=by unfold dn; split<;>exact⟨rfl,rfl⟩
theorem I5 {s:SS} {d:Dd} (h:bn s.l s.R d=0):tU s (dn d) = { s with R:=wd s.l s.R d }:=by
 have hk:=ID d (B6 h);unfold tU;rw[if_pos (by omega)]
 unfold CK wd;rw[(IE d).1];cases dP s.l d.t with
 | none=>rfl
 | some i =>
  simp only;cases s.l[i]?<;>rfl
theorem BP:∀ {ds:List Dd} {s:SS} {b:Nat},DocOk s.l s.R b->b+ds.length<=700000->(gY s.l s.R ds).2=0->(∀d∈ds,gV d)->xp s (ds.map dn)/\mJ s (ds.map dn) = { s with R:=(gY s.l s.R ds).1 }
 | [],s,b,_,_,_,_=>⟨trivial,rfl⟩
 | d::ds,s,b,hD,hb,hdo,hin=>by
  have hd:=hin d (.head _);by_cases he:bn s.l s.R d=0
  . rw[mO ds he]at hdo ⊢;have hm:=AQ hD.tbs he hd.t hd.n;have ha:=I5 he;rw[List.length_cons]at hb;obtain⟨g1,g2⟩:=BP (s:={ s with R:=wd s.l s.R d }) (hD.deed he) (by omega) hdo fun d hd=>hin d (.tail _ hd)
    refine⟨⟨⟨?_,hm.2.2,by rw[(IE d).2]; decide⟩,by rw[ha]; exact g1⟩,?_⟩
    . exact hD.mono (by omega)
    . show mJ (tU s (dn d)) (ds.map dn)=_
      rw[ha,g2]
  . have:gY s.l s.R (d::ds)=(s.R,bn s.l s.R d):=if_neg he;rw[this]at hdo;exact absurd hdo he
theorem IF {l:List Tb}:∀ {ds:List Dd} {R:List (List Rw)},(gY l R ds).2=0 -> ∀e∈ds.map dn,3<=e.k/\e.k<=5
 | [],R,_,e,he=>by simp at he
 | d::ds,R,h,e,he=>by
  by_cases h0:bn l R d=0
  . rw[mO ds h0]at h;rw[List.map_cons]at he;rcases List.mem_cons.1 he with rfl | he
    . exact ID d (B6 h0)
    . exact IF h e he
  . have:gY l R (d::ds)=(R,bn l R d):=if_neg h0;rw[this]at h;exact absurd h h0
theorem LogH.two {b:List UInt8} {es:List Evt} {l:List Tb} {n:Int} (hL:LogH b es ⟨(b.length:Nat),l,l,-1⟩) (hn:0<=n/\n<=1000000) (hb:(b++dD (cC (bh 2 n))).length<=800000000) :
 LogH (b++dD (cC (bh 2 n))) (es ++ [bh 2 n]) ⟨((b++dD (cC (bh 2 n))).length:Nat),l,l,n⟩ :=
 hL.snoc (bA rfl hn.1) (du (by unfold ei; omega)) rfl (fun _=>rfl) hb
theorem LogH.seven {b:List UInt8} {es:List Evt} {a:Int} {l h:List Tb} {n:Int} (hL:LogH b es ⟨a,l,h,n⟩) (hn:0<=n/\n<=1000000) (hb:(b++dD (cC (bh 7 n))).length<=800000000) :
 LogH (b++dD (cC (bh 7 n))) (es ++ [bh 7 n]) ⟨((b++dD (cC (bh 7 n))).length:Nat),h,h,-1⟩ :=
 hL.snoc (bA rfl hn.1) (du (by unfold ei; omega)) (by show(if(7:Int)=2\/(7:Int)=9\/(7:Int)=10 then decide (n<0)else if(7:Int)=7\/(7:Int)=8 then decide (0<=n)&&decide (n=n)else _)=true; rw[if_neg (by decide),if_pos (by decide),decide_eq_true hn.1,decide_eq_true rfl]; rfl) (fun _=>rfl) hb
theorem LogH.eight {b:List UInt8} {es:List Evt} {a:Int} {l h:List Tb} {n:Int} (hL:LogH b es ⟨a,l,h,n⟩) (hn:0<=n/\n<=1000000) (hb:(b++dD (cC (bh 8 n))).length<=800000000) :
 LogH (b++dD (cC (bh 8 n))) (es ++ [bh 8 n]) ⟨((b++dD (cC (bh 8 n))).length:Nat),l,l,-1⟩ :=
 hL.snoc (bA rfl hn.1) (du (by unfold ei; omega)) (by show(if(8:Int)=2\/(8:Int)=9\/(8:Int)=10 then decide (n<0)else if(8:Int)=7\/(8:Int)=8 then decide (0<=n)&&decide (n=n)else _)=true; rw[if_neg (by decide),if_pos (by decide),decide_eq_true hn.1,decide_eq_true rfl]; rfl) (fun _=>rfl) hb
theorem Hist.tx {s:SS} {E:List Evt} {ds:List Dd} {u:Bool} {b:Nat} (h:Hist s E) (hD:DocOk s.l s.R b) (hb:b+ds.length<=700000) (hds:∀d∈ds,gV d) (hdo:(gY s.l s.R ds).2=0) (hn:0<=s.n/\s.n<=1000000)
 (hlen:(oW s ds u).1.log.length<=800000000):Hist (oW s ds u).1 (E++bh 2 s.n::(ds.map dn ++ [bh (if u then 8 else 7) s.n])):=by
 have hm:=qK hD.tbs hdo (fun d hd=>(hds d hd).t) (fun d hd=>(hds d hd).n)
 have hk:=IF hdo;rw[oX hdo]at hlen ⊢;simp only at hlen;have hcat:∀e,aR s.log (bh 2 s.n::(ds.map dn ++ [e]))=aR (s.log++dD (cC (bh 2 s.n))) (ds.map dn)++dD (cC e):=fun e=>by
  show aR (s.log++dD (cC (bh 2 s.n))) (ds.map dn ++ [e])=_
  rw[kI]
 rw[hcat]at hlen;have hl1:=iT (ds.map dn) (s.log++dD (cC (bh 2 s.n)));have hl2:(aR (s.log++dD (cC (bh 2 s.n))) (ds.map dn)).length<=800000000:=by rw[aD]at hlen; omega
 have g1:=h.log.two hn (by omega)
 have g2:=LogH.many hn.1 g1 (fun e he=>⟨(hm e he).1,(hm e he).2.1,hk e he⟩) hl2 rfl
 have hr:=h.rpl;have hst:DocOk (bF (mP::E) (mP::E).length).2.l (bF (mP::E) (mP::E).length).2.R b:=by rw[hr]; exact hD
 have hdo' : (gY (bF (mP::E) (mP::E).length).2.l (bF (mP::E) (mP::E).length).2.R ds).2=0:=by rw[hr]; exact hdo
 obtain⟨a1,a2⟩:=BP hst hb hdo' hds;have hD7:∀e∈ds.map dn,e.k≠2/\e.k≠7:=fun e he=>by have:=hk e he; omega
 cases u with
 | true =>
  simp only[if_true]at hlen ⊢;have g3:=g2.eight hn hlen;obtain⟨k1,k2⟩:=zB h.ok (T:=bh 2 s.n::(ds.map dn ++ [bh 8 s.n])) (fun e he=>by
   rcases List.mem_cons.1 he with rfl | he
   . exact(by decide:(2:Int)≠7)
   . rcases List.mem_append.1 he with he | he
     . exact(hD7 e he).2
     . rw[List.mem_singleton.1 he]; exact(by decide:(8:Int)≠7))
  refine⟨?_,k1,?_⟩
  . simp only[hcat];rw[List.append_assoc,List.append_assoc]at g3;exact g3
  . exact k2.trans hr
 | false =>
  simp only[Bool.false_eq_true,if_false]at hlen ⊢;have g3:=g2.seven hn hlen;obtain⟨k1,k2⟩:=FZ h.ok (n:=s.n) hD7 (hst.mono (by omega)) a1
  refine⟨?_,k1,?_⟩
  . simp only[hcat];rw[List.append_assoc,List.append_assoc]at g3;exact g3
  . refine k2.trans ?_;rw[a2,hr]
theorem Hist.alt {s:SS} {E:List Evt} {c:Chg} {b:Nat} (h:Hist s E) (hD:DocOk s.l s.R b) (hb:b<=700000) (hc:c.c.length<9223372036854775808) (hn:0<=s.n/\s.n<=1000000)
 (hme:cm ⟨6,0,[],[],[],c⟩ s.l=0) (hf:(cZ s.l c.k c.t c.c c.ks c.col).2=0) (hlen:(bq s c).1.log.length<=800000000):Hist (bq s c).1 (E++bh 2 s.n::([⟨6,0,[],[],[],c⟩] ++ [bh 7 s.n])):=by
 have hr:=h.rpl;have ha:bq s c=(⟨(cZ s.l c.k c.t c.c c.ks c.col).1,cw s.l s.R c (cZ s.l c.k c.t c.c c.ks c.col).1,aR s.log [bh 2 s.n,⟨6,0,[],[],[],c⟩,bh 7 s.n],s.n+1,s.m+1⟩,0):=by
  unfold bq; rw[if_pos hme,if_pos hf]
 have haS:tU ⟨s.l,s.R,start,0,s.m⟩ ⟨6,0,[],[],[],c⟩=⟨(cZ s.l c.k c.t c.c c.ks c.col).1,cw s.l s.R c (cZ s.l c.k c.t c.c c.ks c.col).1,start,0,s.m⟩:=by
  unfold tU bq;rw[if_neg (show ¬((6:Int)=3\/(6:Int)=4\/(6:Int)=5) by decide),if_pos (show(6:Int)=6 from rfl),if_pos hme,if_pos hf]
 rw[ha]at hlen ⊢;simp only at hlen;have hlen:(((s.log++dD (cC (bh 2 s.n)))++dD (cC ⟨6,0,[],[],[],c⟩))++dD (cC (bh 7 s.n))).length<=800000000:=hlen;have g1:=h.log.two hn (by simp only[aD]at hlen ⊢; omega)
 have g2:=g1.snoc (e:=⟨6,0,[],[],[],c⟩) hme (ER _ _ _ ⟨by decide,by decide⟩) (by show(if(6:Int)=2\/(6:Int)=9\/(6:Int)=10 then decide (s.n<0)else if(6:Int)=7\/(6:Int)=8 then _ else decide (0<=s.n) && !decide ((6:Int)=1))=true; rw[if_neg (by decide),if_neg (by decide),decide_eq_true hn.1]; rfl)
  (l' := s.l) (h' := (cZ s.l c.k c.t c.c c.ks c.col).1) (x' := s.n) (fun n=>by
   unfold cE;rw[if_neg (show ¬(6:Int)=2 by decide),if_neg (show ¬(6:Int)=7 by decide),if_neg (show ¬(6:Int)=8 by decide),if_pos (show(6:Int)=6 from rfl)]
   simp only;rw[if_neg (fun hh=>hh hf)]) (by rw[aD]at hlen; omega)
 have g3:=g2.seven hn hlen;have hst:DocOk (bF (mP::E) (mP::E).length).2.l (bF (mP::E) (mP::E).length).2.R b:=by rw[hr]; exact hD
 obtain⟨k1,k2⟩:=FZ h.ok (n:=s.n) (D:=[⟨6,0,[],[],[],c⟩]) (fun e he=>by rw[List.mem_singleton.1 he]; exact(by decide:(6:Int)≠2/\(6:Int)≠7)) (hst.mono hb) ⟨⟨hst.mono hb,ES _ _ hc,hc⟩,trivial⟩
 refine⟨?_,k1,?_⟩
 . have e:((E ++ [bh 2 s.n]) ++ [⟨6,0,[],[],[],c⟩]) ++ [bh 7 s.n]=E++bh 2 s.n::([⟨6,0,[],[],[],c⟩] ++ [bh 7 s.n]):=by simp
   rw[e]at g3;exact g3
 . refine k2.trans ?_;rw[hr];show { tU ⟨s.l,s.R,start,0,s.m⟩ ⟨6,0,[],[],[],c⟩with m:=s.m+1 } = _
   rw[haS]
theorem Hist.mark {s:SS} {E:List Evt} {hi:Bool} {k:Int} (h:Hist s E) (hk:0<=k) (h64:ei k) (hlen:(fB s hi k).1.log.length<=800000000):Hist (fB s hi k).1 (E ++ [bh (if hi then 10 else 9) k]):=by
 unfold fB at hlen ⊢;rw[if_neg (by omega)]at hlen ⊢
 obtain⟨k1,k2⟩:=zB h.ok (T:=[bh (if hi then 10 else 9) k]) (fun e he=>by
  rw[List.mem_singleton.1 he];cases hi
  . exact(by decide:(9:Int)≠7)
  . exact(by decide:(10:Int)≠7))
 refine⟨?_,k1,k2.trans h.rpl⟩;exact h.log.snoc (bA (by cases hi<;>rfl) hk) (du h64) (by cases hi<;>rfl) (fun n=>by cases hi<;>rfl) hlen
theorem Hist.ask {a:xn} {s s' : SS} {E:List Evt} {b:Nat} (h:Hist s E) (hA:AskS a s s') (ha:pC a) (hD:DocOk s.l s.R b) (hb:b<=600000) (hn:0<=s.n/\s.n<=1000000) (hlen:s'.log.length<=800000000) :
 ∃E', Hist s' E'/\E'.length<=E.length+8:=by
 cases hA with
 | same=>exact⟨E,h,Nat.le_add_right _ _⟩
 | tx ds u h1 h2 h3 =>
  by_cases hdo:(gY s.l s.R ds).2=0
  . exact⟨_,h.tx hD (by omega) h1 hdo hn hlen,by simp only[aD,List.length_cons,List.length_map,List.length_nil]; omega⟩
  . rw[sg hdo]; exact⟨E,h,Nat.le_add_right _ _⟩
 | alt c h1 h2 =>
  by_cases hme:cm ⟨6,0,[],[],[],c⟩ s.l=0
  . by_cases hf:(cZ s.l c.k c.t c.c c.ks c.col).2=0
    . exact⟨_,h.alt hD (by omega) h2 hn hme hf hlen,by simp only[aD,List.length_cons,List.length_nil]; omega⟩
    . have:(bq s c).1=s:=by unfold bq; rw[if_pos hme,if_neg hf]
      rw[this]; exact⟨E,h,Nat.le_add_right _ _⟩
  . have:(bq s c).1=s:=by unfold bq; rw[if_neg hme]
    rw[this]; exact⟨E,h,Nat.le_add_right _ _⟩
 | mark hi =>
  by_cases hk:a.n<0
  . have:(fB s hi a.n).1=s:=by unfold fB; rw[if_pos hk]
    rw[this]; exact⟨E,h,Nat.le_add_right _ _⟩
  . exact⟨_,h.mark (by omega) ha.n hlen,by simp only[aD,List.length_cons,List.length_nil]; omega⟩
end
section
variable {Q:V->List O->Prop}
def J9 (l:List xn) (f:Bool) (k:Nat) (ws:List V) (H:List O):Prop :=
 ∃(i:Nat) (s:SS) (L:List gF) (c:Nat) (E:List Evt),ws = [.sl 11 (nC l) f,.ptr 0 0,.ptr 2 0,fI i,.bool false]/\H=mi s L c ++ [.cells (sC s)]/\SrcOk s L (6*i)/\Stand s i/\Hist s E/\E.length<=8*i/\i<=25/\i<=l.length/\k=l.length-i
set_option maxRecDepth 8000 in
theorem oM {l:List xn} {f:Bool} (hl:∀a∈l,pC a):ACall Tryz.prog 7 0 [.sl 11 (nC l) f] [] (fun v _=>v = .bool true):=by
 refine ad Tryz.func7 0 rfl (aA rfl) ?_;have hal:=C2 l
 conv=>whnf
 refine .call [] 0 ⟨rfl,rfl,rfl⟩ (un ?_)
 conv=>whnf
 refine .pure (pH ⟨rfl,?_⟩)
 conv=>whnf
 refine⟨⟨[0,3,4,5,2],J9 l f,.at _ ⟨0,ss0,[],0,[],rfl,rfl,CG,J4,Hist.nil,Nat.le_refl _,by omega,by omega,rfl⟩,?_⟩⟩
 rintro k ws H ⟨i,s,L,c,E,rfl,rfl,hok,hst,hh,hE,hi25,hi,rfl⟩
 conv=>whnf
 refine ac (fun c1=>?_) (fun c1=>?_)<;>try rw[c1]<;>conv=>whnf
 focus refine ac (fun c2=>?_) (fun c2=>?_)<;>try rw[c2]<;>conv=>whnf
 focus
  have c1' := aB c1;have hil:i<l.length:=by omega
  have c2' := aB c2;have hg:l[i]? = some l[i]:=aS hil;have ha:=hl l[i] (List.getElem_mem hil);generalize l[i]=a at *;refine⟨List.range 13,by kernel_rfl,by kernel_rfl,?_⟩
  conv=>whnf
  refine⟨_,⟨by omega,uv hg⟩,?_⟩
  conv=>whnf
  refine .call [0,1] 2 ⟨rfl,rfl,rfl⟩ (C3 (a:=a) hok (hst.b.mono (by omega)) ha (by omega) (hst.small (by omega)) fun s' L' c' hs' hok' => ?_)
  have hst' := hst.step (by omega) hok.rs.tbs ha hs'
  have hsm' := hst'.small (by omega)
  obtain⟨E', hh', hE'⟩:=hh.ask hs' ha hok.rs.doc (by omega) ⟨hst.b.n0,by have:=hst.b.n1; omega⟩ (by omega)
  repeat (conv=>whnf
          first | (refine⟨rfl,?_⟩) | (refine⟨⟨_,⟨by omega,uv hg⟩,rfl⟩,?_⟩))
  conv=>whnf
  refine .go [0,1,2] rfl (l.length-(i+1)) (by omega) ⟨i+1,s', L', c', E', ?_,rfl,by rw[Nat.mul_succ]; exact hok', hst', hh', by omega,by omega,by omega,rfl⟩
  show [V.sl 11 (nC l) f,.ptr 0 0,.ptr 2 0,.int .i64 (IntKind.i64.wrap ((i:Int)+1)),.bool false]=_
  rw[dm (by omega)]; rfl
 all_goals
  clear c1;have hsm:=hst.small (by omega)
  refine .call [0,1] 2 ⟨rfl,rfl,rfl⟩ (CS (l:=s.l) (L:=L) (c:=c) (log:=s.log) (n:=s.n) (m:=s.m) (by omega) ?_)
  conv=>whnf
  have hev:=Fg hh.log (show(-1:Int)<0 by decide)
  refine .pure (tM (b:=s.log) (f:=false) (by omega) ⟨rfl,?_⟩)
  rw[hev]
  conv=>whnf
  rw[f8];refine .pure (vz (es:=mP::E) (f:=false) (by rw[List.length_cons]; omega) hh.ok ⟨rfl,?_⟩)
  rw[hh.rpl]
  conv=>whnf
  have hl' : TbsB s.l:=hok.rs.tbs;have hfew:=hl'.few;refine⟨[0,1,2,3,4,5,6,7,8,9,10,11,12,13,14,15,16,18,19,17,20,21,22],by kernel_rfl,by kernel_rfl,?_⟩
  conv=>whnf
  refine .call [0,1] 2 ⟨rfl,rfl,rfl⟩ (Ao (l:=s.l) (L:=L) (c:=c) (log:=s.log) (n:=s.n) (m:=s.m) ?_)
  repeat (conv=>whnf
          refine⟨rfl,?_⟩)
  conv=>whnf
  rw[show decide ((s.log.length:Int)=(s.log.length:Int))=true from decide_eq_true rfl]
  conv=>whnf
  refine .call [0,1] 2 ⟨rfl,rfl,rfl⟩ (rv (l:=s.l) (L:=L) (c:=c) (log:=s.log) (n:=s.n) (m:=s.m) ?_)
  repeat (conv=>whnf
          refine⟨rfl,?_⟩)
  conv=>whnf
  rw[show decide (s.m=s.m)=true from decide_eq_true rfl]
  conv=>whnf
  refine .call [0,1] 2 ⟨rfl,rfl,rfl⟩ (vD (l:=s.l) (L:=L) (c:=c) (log:=s.log) (n:=s.n) (m:=s.m) hl' ?_)
  repeat (conv=>whnf
          refine⟨rfl,?_⟩)
  conv=>whnf
  refine .pure (xI (l:=s.l) hfew (fun x hx=>by have:=hl'.cols x hx; omega) ⟨rfl,?_⟩)
  repeat (conv=>whnf
          refine⟨rfl,?_⟩)
  conv=>whnf
  have hlt:=bR s.l;have hrl:=eT s.R;have hlen:=hok.rs.len;refine⟨⟨[3,11,12,2],fun k ws H=>∃i:Nat,ws = [.ptr 0 0,.ptr 2 0,fI i,.bool false]/\H=mi s L c ++ [.cells (sC ⟨s.l,s.R,start,0,s.m⟩)]/\i<=s.l.length/\k=s.l.length-i,.frz (s.l.length+1) (.go [0,1,3] rfl s.l.length (by omega) ⟨0,rfl,rfl,Nat.zero_le _,rfl⟩),?_⟩⟩
  rintro k ws H ⟨j,rfl,rfl,hi,rfl⟩
  conv=>whnf
  refine ac (fun c1=>?_) (fun c1=>?_)<;>try rw[c1]<;>conv=>whnf
  rotate_left
  . refine .pure (wA ⟨rfl,?_⟩)
    conv=>whnf
    exact⟨[],rfl,rfl⟩
  have c1' : (j:Int)<((tbs s.l).length:Int):=aB c1;have hil:j<s.l.length:=by omega
  have hti:s.l[j]? = some s.l[j]:=aS hil;generalize s.l[j]=t at hti;obtain⟨rs,hRi,hgd,hro,hrb⟩:=hok.rs.doc.get hti;have htk:=hl'.tbk (List.mem_of_getElem? hti);have hrows:vc s t.n=rs:=by unfold vc; rw[eR hl'.ok.sorted hti]; exact hgd
  refine⟨[0,1,2,3,4,5,6,8,9,10,11,12,7,13,14],by kernel_rfl,by kernel_rfl,?_⟩
  conv=>whnf
  refine⟨_,⟨by omega,ay hti⟩,?_⟩
  conv=>whnf
  refine⟨_,⟨by omega,aK hRi⟩,?_⟩
  conv=>whnf
  refine .call [0,1] 2 ⟨rfl,rfl,rfl⟩ (rx (table:=t.n) hok (by omega) ?_)
  rw[hrows]
  repeat (conv=>whnf
          first | (refine⟨rfl,?_⟩) | (refine⟨⟨_,⟨by omega,ay hti⟩,rfl⟩,?_⟩) | (refine⟨⟨_,⟨by omega,aK hRi⟩,rfl⟩,?_⟩))
  conv=>whnf
  refine .pure (ml (l:=rs) (by omega) (fun r hr=>by have:=dq (hro.fit r hr); have:=htk.few; omega) ⟨rfl,?_⟩)
  repeat (conv=>whnf
          first | (refine⟨rfl,?_⟩) | (refine⟨⟨_,⟨by omega,ay hti⟩,rfl⟩,?_⟩) | (refine⟨⟨_,⟨by omega,aK hRi⟩,rfl⟩,?_⟩))
  conv=>whnf
  refine .go [0,1,2] rfl (s.l.length-(j+1)) (by omega) ⟨j+1,?_,rfl,by omega,rfl⟩
  show [V.ptr 0 0,.ptr 2 0,.int .i64 (IntKind.i64.wrap ((j:Int)+1)),.bool false]=_
  rw[dm (by omega)]; rfl
end
end Go.Proofs.YteiagdlfccbpcaaGreatDoorPg
