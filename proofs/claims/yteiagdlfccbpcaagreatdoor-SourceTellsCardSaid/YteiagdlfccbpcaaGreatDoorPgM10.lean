/- Code, and functions. -/
import Derived.Test.YteiagdlfccbpcaaGreatDoorPgM9
import Derived.Scope
set_option linter.unusedSectionVars false
set_option linter.unusedSimpArgs false
set_option linter.unusedVariables false
namespace Go.Proofs.YteiagdlfccbpcaaGreatDoorPg
open Go Go.RowKit
variable [Globs]
variable {P:Program} {T:Nat->TI} {I:aU} {ρ:List Pl} {H:List O} {w:World} {e:Env}
theorem CPost.step {X:dI} {Q:AEx->Env->List O->Prop} {I I1:aU} {ρ ρ1:List Pl} {H H1:List O} {w w1:World} {a a1:Act} {ex:Exit} {a' : Act} {w' : World} (h:CPost X Q I1 ρ1 H1 w1 a1 ex a' w') (hs:Step X.k I ρ H w I1 ρ1 H1 w1) (hd:PutNew a a1 w):CPost X Q I ρ H w a ex a' w' := by
 obtain⟨x,e', H', I', ρ', h1,h2,h3,h4,h5,h6,h7⟩:=h;exact⟨x,e', H', I', ρ', h1,h2,h3,h4,h5,⟨h6.1,hd.trans h6.2 hs.size⟩,hs.trans h7⟩
theorem CPost.mk {X:dI} {Q:AEx->Env->List O->Prop} {a:Act} {x:AEx} {ex:Exit} (hx:AEx.is x ex) (hQ:Q x e H) (hst:St I ρ H w) (he:ERel I ρ e a.tmps) (hs:a.tmps.size=X.n) (hd:PutOk a ρ H w):CPost X Q I ρ H w a ex a w :=
 ⟨x,e,H,I,ρ,hx,hQ,hst,he,hs,⟨hd,.same rfl⟩,Step.refl _ _ _ _ _⟩
theorem jS {k:Nat} {I I' : aU} {ρ ρ' : List Pl} {H H' : List O} {w w' : World} {sel:List Nat} (h3:St I' ρ' H' w') (hsel:gC sel H'.length k=true) (h7:Step k I ρ H w I' ρ' H' w') :
 St I' (ci sel ρ') (aJ (bI sel) H' sel) w'/\oJ (bI sel) ρ' (ci sel ρ')/\Step k I ρ H w I' (ci sel ρ') (aJ (bI sel) H' sel) w' := by
 simp only[gC,Bool.and_eq_true]at hsel;obtain⟨⟨q1,q2⟩,q3⟩:=hsel;obtain⟨r1,r2,r3⟩:=fx h3 q1 q2;refine⟨r1,r2,⟨h7.ile,fun i hi=>?_,h7.os,h7.tape,h7.output,h7.size,h7.frame,fun b hb=>?_,h7.imm⟩⟩
 . have q3' := eq_of_beq q3;have hsi:sel[i]? = some i:=by
    have:(sel.take k)[i]? = some i:=by rw[q3']; simp[hi]
    rwa [List.getElem?_take_of_lt hi]at this
   rw[<-h7.take i hi];have hlt:∀i∈sel,i < ρ'.length:=fun j hj=>by rw[h3.len]; exact fv q1 j hj
   have hil:=hlt i (List.mem_of_getElem? hsi);rw[aS hil];exact(fF hlt).2 ⟨i,hsi,aS hil⟩
 . obtain⟨i,_,p,o,g1,g2,g3⟩:=r3 b hb;exact h7.own b ⟨i,p,o,g1,g2,g3⟩
theorem pT {k n:Nat} {Inv:Nat->List V->List O->Prop} {vs:List V} {H' : List O} (h:jo k n Inv vs H'):∀ {I I' : aU} {ρ ρ' : List Pl} {H:List O} {w w' : World} {tm:Array Value} (ts:List Nat),vs.length=ts.length->k<=ρ'.length->St I' ρ' H' w' ->
 (∀(i t:Nat) (v:V),ts[i]? = some t->vs[i]? = some v->VRel I' ρ' v (tm.getD t undef))->Step k I ρ H w I' ρ' H' w' ->
 ∃m I3 ρ3 vs3 H3,m<n/\Inv m vs3 H3/\vs3.length=ts.length/\St I3 ρ3 H3 w'/\ERel I3 ρ3 (ts.zip vs3) tm/\Step k I ρ H w I3 ρ3 H3 w' := by
 induction h with
 | go sel hsel m hm h =>
  intro I I' ρ ρ' H w w' tm ts hl hk hst he hs;rename_i vs0 H0;obtain⟨z1,z2,z3⟩:=jS hst hsel hs;refine⟨m,I', _,_,_,hm,h,by simpa using hl,z1,si (fun i t v ht hv=>?_),z3⟩
  rw[List.getElem?_map]at hv;cases hx:vs0[i]? with
  | none=>rw[hx]at hv; cases hv
  | some z=>rw[hx]at hv; cases hv; exact(he i t z ht hx).ren z2
 | frz id hok hfit h ih =>
  intro I I' ρ ρ' H w w' tm ts hl hk hst he hs;rename_i vs0 H0;have hne:ar H0 id ≠ .dead:=fun e=>by rw[e]at hok; cases hok
  have ho:=ax (H:=H0) (id:=id) rfl hne;have hlt:id < ρ'.length:=by rw[hst.len]; exact(liZ.1 ho).1
  obtain⟨I2,g1,g2,g3⟩:=mT hst (aS hlt) ho hok (jG hfit) k;refine ih ts (by rw[dX]; simpa using hl) hk g1 (fun i t v ht hv=>?_) (hs.trans g2)
  rw[dX,List.getElem?_map]at hv;cases hx:vs0[i]? with
  | none=>rw[hx]at hv; cases hv
  | some z=>rw[hx]at hv; cases hv; exact g3 _ _ (lq hfit (List.mem_of_getElem? hx)) (he i t z ht hx)
 | sub vs' H2 hv hH h ih =>
  intro I I' ρ ρ' H w w' tm ts hl hk hst he hs;refine ih ts (by rw[<-hv.1]; exact hl) hk (hH.st hst) (fun i t v ht hv' => ?_) (hs.trans (hH.step k))
  obtain⟨c,hc,hsub⟩:=hv.get hv';exact hsub _ _ _ (he i t c ht hc)
 | adopt h ih =>
  intro I I' ρ ρ' H w w' tm ts hl hk hst he hs;exact ih ts hl (by simp; omega) (lg hst).1 (fun i t v ht hv=>(he i t v ht hv).mono (ILe.refl _) (PLe.append _ _)) (hs.trans (mI hst hk))
theorem eE {b:Frame} {a:Act} {k:List Item} {cs:List Frame} {c:Code}:step P (lone (b.atR a (.code (.scope c)::k)) cs w) = .next (lone (b.atR a (.code c :: .inScope c::k)) cs w) :=
 step_lone_go (by simp[stepG,stepG.exec,Frame.atR])
theorem tu {b:Frame} {a:Act} {k:List Item} {cs:List Frame} {c:Code}:step P (lone (b.atR a (.inScope c::k)) cs w) = .next (lone (b.atR a k) cs w) :=
 step_lone_go (by simp[stepG,stepG.exec,Frame.atR])
theorem mj {F:Fence} {n:Nat} {Q:Exit->Act->World->Prop} {a:Act} {c:Code} (h:c.wpIn F n P (Exit.noGoto Q) a w):(Code.scope c).wpIn F n P Q a w:=by
 intro b k cs hro hb hr;have h0:(lone (b.atR a (.code (.scope c)::k)) cs w).fenced P F:=fenced_calm hb hr rfl;obtain⟨e,a₁,w₁,hq,harr⟩:=h b (.inScope c::k) cs hro hb hr;cases e with
 | normal=>exact⟨.normal,a₁,w₁,hq,.head h0 eE (StepsIn.trans harr (.one (fenced_calm hb hr rfl) tu))⟩
 | exit id =>
  have hx:exitTo id (.inScope c::k)=exitTo id k:=by simp[exitTo]
  exact⟨.exit id,a₁,w₁,hq,fun k' hk=>.head h0 eE (harr.1 k' (by rw[hx]; exact hk)),
   fun hr' hk=>let ⟨k₁,h1,h2⟩:=harr.2 hr' (by rw[hx]; exact hk); ⟨k₁,h1,.head h0 eE h2⟩⟩
 | goto l=>exact hq.elim
 | ret=>exact⟨_,a₁,w₁,hq,.of_steps (.one h0 eE) harr⟩
 | panic ch=>exact⟨_,a₁,w₁,hq,.of_steps (.one h0 eE) harr⟩
 | outgrown=>exact⟨_,a₁,w₁,hq,.of_steps (.one h0 eE) harr⟩
theorem vT {X:dI} {f:FuncId} {n:Nat} {K:Env->List O->Prop} {args:List V} {e:Env} {H:List O} (h:mD X f n K args e H) :
 ∀(I:aU) (ρ:List Pl) (w:World) (us:Array Value) (a:Act) (p:Pl),St I ρ H w->ERel I ρ e a.tmps->VRels I ρ args us.toList->X.k<=ρ.length->ρ[n]? = some p->Calls X.P f us w fun en w' =>
  ∃v I' ρ' e' H', en = .returned v/\K e' H'/\St I' ρ' H' w'/\ERel I' ρ' e' a.tmps/\Step X.k I ρ H w I' ρ' H' w'/\ρ'[n]? = some p:=by
 induction h with
 | call is k' hok h =>
  obtain⟨hok,hge,hkeep⟩:=hok;simp only[yU,Bool.and_eq_true]at hok;obtain⟨⟨hl,hn⟩,hkl⟩:=hok;have hk' : k'<=is.length:=aA hkl;intro I ρ w us a p hst he hargs hk hp;rename_i as0 e0 H;obtain⟨hsub,hfit,_⟩:=fx hst hl hn;have hlt:∀i∈is,i < ρ.length:=fun i hi=>by rw[hst.len]; exact fv hl i hi
  refine(h.out I (ci is ρ) w us hsub (by simp[fY]; exact hk') (hargs.ren hfit)).mono ?_
  rintro en w' ⟨v,r,I', ρ', H', rfl,s1,s2,s3,s4⟩;obtain⟨t1,t2,t3,t4,t5⟩:=oF hst hl hn hk' hge hk s1 s3;refine⟨v,I', _,_,_,rfl,s4,t1,fun t=>su is k' _ t t3 s3.ile (he t) t4,t5,?_⟩
  cases hj:bI is n with
  | none=>rw[hj]at hkeep; cases hkeep
  | some j =>
   rw[hj]at hkeep;have hjk:j<k' := aA hkeep;have hisj:=fy hj;refine t2 j n p (by unfold mc; rw[hisj]) ?_
   rw[s3.take j hjk];exact(fF hlt).2 ⟨n,hisj,hp⟩
 | frz id hok hfit h ih =>
  intro I ρ w us a p hst he hargs hk hp;rename_i as0 e0 H;have hne:ar H id ≠ .dead:=fun e=>by rw[e]at hok; cases hok
  have ho:=ax (H:=H) (id:=id) rfl hne;have hlt:id < ρ.length:=by rw[hst.len]; exact(liZ.1 ho).1
  obtain⟨I2,g1,g2,g3⟩:=mT hst (aS hlt) ho hok (jG hfit) X.k;refine(ih I2 ρ w us a p g1 (fun t=>by rw[lp]; exact g3 _ _ (sw hfit t) (he t)) ⟨by rw[dX]; simpa using hargs.1,fun i v u hv hu=>?_⟩ hk hp).mono ?_
  . rw[dX,List.getElem?_map]at hv;cases hx:as0[i]? with
    | none=>rw[hx]at hv; cases hv
    | some z=>rw[hx]at hv; cases hv; exact g3 _ _ (lq hfit (List.mem_of_getElem? hx)) (hargs.2 i z u hx hu)
  . rintro en w' ⟨v,I', ρ', e', H', h1,h2,h3,h4,h5,h6⟩;exact⟨v,I', ρ', e', H', h1,h2,h3,h4,g2.trans h5,h6⟩
 | pack is js k' J J' hok hJ h =>
  intro I ρ w us a p hst he hargs hk hp;rename_i as0 e0 H;unfold FC at hok;simp only[Bool.and_eq_true,yU]at hok;obtain⟨⟨⟨s1,s2⟩,s3⟩,⟨⟨t1,t2⟩,t3⟩,⟨⟨u1,u2⟩,u3⟩,hge,hhead⟩:=hok;have hk's:k'+js.length<=(cB is js k').length:=aA s3;have hk'i:k'<=is.length:=aA t3;obtain⟨hh,hk0⟩:is[0]? = some n/\0<k' := by
   cases is with
   | nil=>simp at hhead
   | cons i is =>
    cases k' with
    | zero=>simp at hhead
    | succ k' => simp only at hhead; exact⟨by rw[<-Nat.eq_of_beq_eq_true hhead]; rfl,Nat.succ_pos _⟩
  have hmem:∀i,i∈cB is js k' ↔ i∈is\/i∈js:=fun i=>by
   unfold cB;simp only[List.mem_append];constructor
   . rintro(h | h | h)
     . exact .inl (List.mem_of_mem_take h)
     . exact .inr h
     . exact .inl (List.mem_of_mem_drop h)
   . rintro(h | h)
     . rw[<-List.take_append_drop k' is,List.mem_append]at h;rcases h with h | h
       . exact .inl h
       . exact .inr (.inr h)
     . exact .inr (.inl h)
  have hdis:∀i∈is,i ∉ js:=by
   intro i hi hj;obtain⟨x,hx⟩:=List.getElem?_of_mem hi;obtain⟨y,hy⟩:=List.getElem?_of_mem hj;have hyl:=(liZ.1 hy).1;have hxl:=(liZ.1 hx).1;have e1:(cB is js k')[k'+y]? = some i:=by
    unfold cB;rw[List.getElem?_append_right (by simp; omega),List.getElem?_append_left (by simp; omega)]
    simp only[List.length_take];rw[show k'+y-min k' is.length=y by omega]; exact hy
   have e2:∃z,z≠k'+y/\(cB is js k')[z]? = some i:=by
    by_cases hxk:x<k'
    . refine⟨x,by omega,?_⟩
      unfold cB;rw[List.getElem?_append_left (by simp; omega),List.getElem?_take_of_lt hxk]; exact hx
    . refine⟨x+js.length,by omega,?_⟩
      unfold cB;rw[List.getElem?_append_right (by simp; omega),List.getElem?_append_right (by simp; omega),List.getElem?_drop]
      simp only[List.length_take];rw[show k'+(x+js.length-min k' is.length-js.length)=x by omega]; exact hx
   obtain⟨z,hz,e2⟩:=e2;have g1:=ij s2 e1;have g2:=ij s2 e2;rw[g1]at g2;exact hz (Option.some.inj g2).symm
  obtain⟨B,hB,hpst⟩:=HN hst t1 t2 u1 u2 hdis hh hk0 hJ;have hlt:∀i∈is,i < ρ.length:=fun i hi=>by rw[hst.len]; exact fv t1 i hi
  have hlt2:∀i∈n::js,i < ρ.length:=fun i hi=>by rw[hst.len]; exact fv u1 i hi
  have hlts:∀i∈cB is js k', i < ρ.length:=fun i hi=>by
   rcases(hmem i).1 hi with h | h
   . exact hlt i h
   . exact hlt2 i (by simp[h])
  have hks:((ci is ρ).take k').length=k' := by simp[ci]; omega
  obtain⟨b1,b2,b3⟩:=fx hst u1 u2;obtain⟨a1,a2,a3⟩:=fx hst t1 t2;refine((h _ B hks).out I (ci (n::js) ρ) w us hpst (by simp[fY]; omega) (hargs.ren b2)).mono ?_
  rintro en w' ⟨v,r,I', ρ', H', rfl,q1,q2,q3,B', rest,rfl,hrl,hQ⟩;obtain⟨p0,ρr,rfl⟩:∃p0 ρr,ρ'=p0::ρr:=by
   cases ρ' with
   | nil=>have:=q1.len; simp at this
   | cons p0 ρr=>exact⟨p0,ρr,rfl⟩
  have hρr:ρr.length=js.length:=by have:=q1.len; simp at this; omega
  have hsub:∀i,i<js.length->ρr[i]? = (ci js ρ)[i]?:=fun i hi=>by
   have:=q3.take (i+1) (by omega)
   simpa [ci]using this
  obtain⟨ρs,Hs,g1,g2,g3,g4,g5,g6⟩:=D1 q1;rw[hks]at g4 g5 g6;have upOwn:∀b,az (ci (n::js) ρ) (.res (cu J ((ci is ρ).take k') B) B::aJ (bI (n::js)) H js) b->az (ci (cB is js k') ρ) (aJ (bI (cB is js k')) H (cB is js k')) b:=by
   rintro b ⟨i,pq,o,hpq,ho,hw⟩;cases i with
   | zero =>
    simp only[List.getElem?_cons_zero,Option.some.injEq]at ho;subst ho;obtain⟨i,hi,pp,oo,z1,z2,z3⟩:=a3 b ((hB b).2 hw);exact Fz hlts ((hmem i).2 (.inl hi)) z1 z2 z3
   | succ i =>
    have hpq' : (ci js ρ)[i]? = some pq:=by simpa [ci]using hpq
    obtain⟨i2,h4,h5⟩:=(fF (fun i hi=>hlt2 i (by simp[hi]))).1 hpq'
    obtain⟨i3,h6,h7⟩:=gather_get.1 (show(aJ (bI (n::js)) H js)[i]? = some o by simpa using ho)
    rw[h4]at h6; cases h6;have hmm:=List.mem_of_getElem? h4;subst h7;rw[aZ]at hw;refine Fz hlts ((hmem i2).2 (.inr hmm)) h5 ?_ hw;have:i2<H.length:=by rw[<-hst.len]; exact hlt2 i2 (by simp[hmm])
    simp[ar,List.getD,aS this]
  have hstep:Step (k'+js.length) I (ci (cB is js k') ρ) (aJ (bI (cB is js k')) H (cB is js k')) w I' (ρs.take k'++(ρr++ρs.drop k')) (gU k' Hs rest) w' := by
   refine⟨q3.ile,fun i hi=>?_,q3.os,q3.tape,q3.output,q3.size,fun b hb hn=>q3.frame b hb fun ho=>hn (upOwn b ho),fun b hb=>?_,fun b o v hv=>?_⟩
   . have hρs:k'<=ρs.length:=by rw[g3]; exact g4
     unfold cB;rw[qs,qs];by_cases hik:i<k'
     . rw[List.getElem?_append_left (by simp; omega),List.getElem?_take_of_lt hik,List.getElem?_append_left (by simp[ci]; omega)]
       have e1:((ci is ρ).take k')[i]? = (ci (is.take k') ρ)[i]?:=by simp[ci,List.map_take]
       rw[<-e1];have hil:i<((ci is ρ).take k').length:=by omega
       rw[aS hil];exact g2 i _ (aS hil)
     . rw[List.getElem?_append_right (by simp; omega),List.getElem?_append_left (by simp; omega),List.getElem?_append_right (by simp[ci]; omega),List.getElem?_append_left (by simp[ci]; omega)]
       simp only[List.length_take,ci,List.length_map];rw[show min k' ρs.length=k' by omega,show min k' is.length=k' by omega]
       exact hsub _ (by omega)
   . rcases q3.own b (g6 b hb)with h | h
     . exact .inl (upOwn b h)
     . exact .inr h
   . rcases q3.imm b o v hv with h | h | h
     . exact .inl h
     . exact .inr (.inl (upOwn b h))
     . exact .inr (.inr h)
  have hge' : pS ((cB is js k').drop (k'+js.length)) X.k=true:=by
   have:(cB is js k').drop (k'+js.length)=is.drop k' := by
    unfold cB;have e1:(is.take k').length=k' := by simp; omega
    have e2:(is.take k'++(js++is.drop k'))=(is.take k'++js)++is.drop k' := by simp
    rw[e2];have e3:(is.take k'++js).length=k'+js.length:=by simp; omega
    rw[<-e3,List.drop_left]
   rw[this]; exact hge
  obtain⟨z1,z2,z3,z4,z5⟩:=oF hst s1 s2 hk's hge' hk g5 hstep;refine⟨v,I', _,_,_,rfl,hQ Hs g1 g4,z1,fun t=>su _ _ _ t z3 q3.ile (he t) z4,z5,?_⟩
  have h0:(cB is js k')[0]? = some n:=by
   unfold cB;rw[List.getElem?_append_left (by simp; omega),List.getElem?_take_of_lt hk0]; exact hh
  refine z2 0 n p (by unfold mc; rw[h0]) ?_
  rw[hstep.take 0 (by omega)]
  exact(fF hlts).2 ⟨n,h0,hp⟩
theorem St.alloc_un (h:St I ρ H w) (k:Nat) (o:Obj):St I ρ H (w.alloc o)/\Step k I ρ H w I ρ H (w.alloc o):=by
 have hold:∀b,b<w.heap.size->(w.alloc o).heap[b]? = w.heap[b]?:=fun b hb=>by
  show(w.heap.push o)[b]? = _
  rw[Array.getElem?_push_lt hb]; simp[hb]
 refine⟨⟨h.len,fun i p x hp hx=>(h.obj i p x hp hx).keep (fun b hh=>hold _ (h.lt ⟨i,p,x,hp,hx,hh⟩)) (ILe.refl _) (PLe.refl _),h.inj,⟨fun b q v hv=>?_,h.imm.glob⟩,h.sep⟩,
  ⟨ILe.refl _,fun _ _=>rfl,rfl,rfl,rfl,by simp,fun b hb _=>hold b hb,fun _ hb=>.inl hb,fun _ _ _ hv=>.inl hv⟩⟩
 rw[<-h.imm b q v hv];exact World.cell?_of_block (w:=w) (hold b (h.imm_lt hv))
theorem J2 (hst:St I ρ H w) (k:Nat) (hk:k<=ρ.length) {id:Nat} {p:Pl} {o o' : O} (hp:ρ[id]? = some p) (ho:H[id]? = some o) (hh:o.has p) (hh' : o'.has p) (ob:Obj) (horel:ORel I ρ (w.putObj p.b ob) p o') :
 St I ρ (H.set id o') (w.putObj p.b ob)/\Step k I ρ H w I ρ (H.set id o') (w.putObj p.b ob) :=
 l6 hst k hk hp ho hh hh' (fun b hb=>World.putObj_heap_other hb) rfl rfl rfl (by simp) horel
theorem St.unput (hst:St I ρ H w) {b:Nat} (hn:¬az ρ H b) (hI:∀o,I b o=none) (ob:Obj):St I ρ H (w.putObj b ob) :=
 ⟨hst.len,fun i p x hp hx=>(hst.obj i p x hp hx).keep (fun b' hh=>World.putObj_heap_other (fun e=>hn (e ▸ ⟨i,p,x,hp,hx,hh⟩))) (ILe.refl _) (PLe.refl _),hst.inj,⟨fun b' q v hv=>(World.cell?_of_block (w:=w) (World.putObj_heap_other fun e=>by
  have e' : b'=b:=e;rw[e', hI]at hv; cases hv)).trans (hst.imm b' q v hv),hst.imm.glob⟩,hst.sep⟩
theorem Ie (hst:St I ρ H w) (k:Nat) {id:Nat} {p:Pl} {o:O} (hp:ρ[id]? = some p) (ho:H[id]? = some o) (hh:o.has p) (ob:Obj) :
 St I ρ (H.set id .dead) (w.putObj p.b ob)/\Step k I ρ H w I ρ (H.set id .dead) (w.putObj p.b ob):=by
 obtain⟨d1,d2⟩:=hst.drop1 id;have hown:az ρ H p.b:=⟨id,p,o,hp,ho,hh.owns⟩;have hlt:=(liZ.1 ho).1;refine⟨d1.unput (fun⟨i,q,x,hq,hx,hhx⟩=>?_) (hst.sep _ hown) ob,⟨ILe.refl _,fun _ _=>rfl,rfl,rfl,rfl,by simp,fun b hb hn=>World.putObj_heap_other (fun e=>hn (e ▸ hown)),(d2 k).own,fun _ _ _ hv=>.inl hv⟩⟩
 by_cases hi:i=id
 . subst hi;rw[List.getElem?_set_self hlt]at hx;cases hx; exact hhx.1
 . rw[List.getElem?_set_ne (by omega)]at hx
   exact hi (hst.inj i id q p x o p.b hq hx hhx hp ho hh.owns)
theorem nZ (hst:St I ρ H w) {id:Nat} {p:Pl} {c:jq} {st:LSt} {e0:Env} (hp:ρ[id]? = some p) (ho:ar H id = .loop c st e0):H[id]? = some (.loop c st e0) /\ ∃r:Loop,w.heap[p.b]? = some (.loop r)/\IX I ρ c st e0 r:=by
 have h:=ax ho (by simp)
 exact⟨h,hst.obj id p _ hp h⟩
theorem uX (hst:St I ρ H w) (k:Nat) (hk:k<=ρ.length) {id:Nat} {p:Pl} {c:jq} {st:LSt} {e0:Env} {r r' : Loop} (hp:ρ[id]? = some p) (ho:H[id]? = some (.loop c st e0)) (hl:w.heap[p.b]? = some (.loop r)) (st' : LSt) (hr:IX I ρ c st' e0 r') :
 St I ρ (H.set id (.loop c st' e0)) (w.putObj p.b (.loop r'))/\Step k I ρ H w I ρ (H.set id (.loop c st' e0)) (w.putObj p.b (.loop r')) :=
 J2 hst k hk hp ho (o' := .loop c st' e0) trivial trivial (.loop r') ⟨r', World.putObj_heap_same (Array.getElem?_eq_some_iff.1 hl).1,hr⟩
theorem yr {X:dI} {a:Act} (hst:St I ρ H w) (he:ERel I ρ e a.tmps) (hk:X.k<=ρ.length) (hs:a.tmps.size=X.n) (hD:PutOk a ρ H w) {F:Fence} (hF:FOk X F ρ) (hr:qY X.round H=true) (ts:List Nat) (fn:FuncId) (ps:Array Tmp) (asg body:Code) :
 ∃l mark w1,(Instr.enterLoop fn a.tmps ps asg body F.round).run X.P w = .ok (l,mark) w1 /\
  St I (ρ ++ [⟨l,0,0,0⟩]) (H ++ [.loop ⟨ps,asg,body,X.n⟩ .ready (ts.zip (ts.map (Env.get e)))]) w1 /\
  Step X.k I ρ H w I (ρ ++ [⟨l,0,0,0⟩]) (H ++ [.loop ⟨ps,asg,body,X.n⟩ .ready (ts.zip (ts.map (Env.get e)))]) w1 /\
  PutOk { a with defers:=mark++a.defers } (ρ ++ [⟨l,0,0,0⟩]) (H ++ [.loop ⟨ps,asg,body,X.n⟩ .ready (ts.zip (ts.map (Env.get e)))]) w1/\PutNew a { a with defers:=mark++a.defers } w:=by
 have hz:∀(ρ' : List Pl),PLe ρ ρ' -> ∀t,VRel I ρ' (Env.get (ts.zip (ts.map (Env.get e))) t) (a.tmps.getD t undef):=fun ρ' hp =>
  si (fun i t v ht hv=>by rw[List.getElem?_map,ht]at hv; cases hv; exact(he t).mono (ILe.refl _) hp)
 rcases hF with⟨h1,rfl⟩ | ⟨id,p,h1,h2,h3,rfl⟩
 . obtain⟨s1,s2⟩:=hst.alloc_un X.k (.deferred (some []));have hsz:(w.alloc (.deferred (some []))).heap.size=w.heap.size+1:=by simp
   have hnew:=World.alloc_heap_new (w.alloc (.deferred (some []))) (.loop { state:=.ready,pending:=none,fn,tmps:=a.tmps,params:=ps,assign:=asg,body,defers:=w.heap.size });rw[hsz]at hnew
   obtain⟨t1,t2⟩:=s1.push X.k hk (.loop { state:=.ready,pending:=none,fn,tmps:=a.tmps,params:=ps,assign:=asg,body,defers:=w.heap.size }) ⟨w.heap.size+1,0,0,0⟩ (.loop ⟨ps,asg,body,X.n⟩ .ready (ts.zip (ts.map (Env.get e)))) hsz.symm ((w.alloc (.deferred (some []))).alloc (.loop { state:=.ready,pending:=none,fn,tmps:=a.tmps,params:=ps,assign:=asg,body,defers:=w.heap.size })) rfl rfl rfl rfl
    ⟨_,hnew,rfl,rfl,rfl,hs,rfl,rfl,hz _ (PLe.append _ _)⟩
   refine⟨_,_,_,run_enterLoop_outer _ _ _ _ _,t1,s2.trans t2,?_,?_⟩
   . obtain⟨Ds,d1,d2,d3⟩:=(hD.step (s2.trans t2) (a' := a) rfl);refine⟨w.heap.size::Ds,by simp[d1,n6],?_,fun D hDm=>?_⟩
     . obtain⟨Ds0,f1,f2,f3⟩:=hD;rw[List.nodup_cons];refine⟨fun hm=>?_,d2⟩
       have:Ds0=Ds:=by
        rw[f1]at d1;have hinj:∀(a b:List Nat),a.map n6=b.map n6->a=b:=by
         intro a;induction a with
         | nil=>intro b hb; cases b with
          | nil=>rfl
          | cons _ _=>cases hb
         | cons x a ih=>intro b hb; cases b with
          | nil=>cases hb
          | cons y b =>
           simp only[List.map_cons,List.cons.injEq,n6,Deferred.mk.injEq,Target.collected.injEq,and_true]at hb;rw[hb.1,ih b hb.2]
        exact hinj _ _ d1
       subst this;have:=(Array.getElem?_eq_some_iff.1 (f3 _ hm).1).1;omega
     . rcases List.mem_cons.1 hDm with rfl | hDm
       . refine⟨?_,fun ho=>?_⟩
         . rw[Below.heap_alloc _ _ _ (by simp)]
           exact World.alloc_heap_new w _
         . rcases t2.own _ ho with x | x
           . have:=hst.lt x; omega
           . rw[hsz]at x; omega
       . exact d3 D hDm
   . intro D hD';simp only[List.mem_append,List.mem_singleton]at hD';rcases hD' with hD' | hD'
     . simp only[n6,Deferred.mk.injEq,Target.collected.injEq,and_true]at hD';exact .inr (by omega)
     . exact .inl hD'
 . rw[h1]at hr;simp only[qY]at hr;split at hr<;>try cases hr
   rename_i c st e0 hl;obtain⟨_,r0,hl0,_⟩:=nZ hst h3 hl;have hnew:=World.alloc_heap_new w (.loop { state:=.ready,pending:=none,fn,tmps:=a.tmps,params:=ps,assign:=asg,body,defers:=r0.defers })
   obtain⟨t1,t2⟩:=hst.push X.k hk (.loop { state:=.ready,pending:=none,fn,tmps:=a.tmps,params:=ps,assign:=asg,body,defers:=r0.defers }) ⟨w.heap.size,0,0,0⟩ (.loop ⟨ps,asg,body,X.n⟩ .ready (ts.zip (ts.map (Env.get e)))) rfl (w.alloc (.loop { state:=.ready,pending:=none,fn,tmps:=a.tmps,params:=ps,assign:=asg,body,defers:=r0.defers })) rfl rfl rfl rfl
    ⟨_,hnew,rfl,rfl,rfl,hs,rfl,rfl,hz _ (PLe.append _ _)⟩
   exact⟨_,_,_,run_enterLoop_inner hl0 _ _ _ _ _,t1,t2,hD.step t2 rfl,.same rfl⟩
theorem zq {X:dI} (hX:CtxOk X) {g:Operand} {f:FuncId} {as bs:List V} {ps:Array Tmp} {asg body:Code} {Q:AEx->Env->List O->Prop} {a:Act} {F:Fence} {n:Nat} (hg:am e g = .fn (.func f) as bs) (hr:qY X.round H=true) (hm:n8 f X.fns=true) {ts:List Nat}
 (h:mD X f H.length (fun e' H' => Ay H.length Q e' H') (as ++ .yld H.length::bs) e (H ++ [.loop ⟨ps,asg,body,X.n⟩ .ready (ts.zip (ts.map (Env.get e)))]))
 (hst:St I ρ H w) (he:ERel I ρ e a.tmps) (hk:X.k<=ρ.length) (hs:a.tmps.size=X.n) (hD:PutOk a ρ H w) (hF:FOk X F ρ):(Code.rangeFunc g ps asg body).wpIn F n X.P (CPost X Q I ρ H w a) a w:=by
 have hrg:=aE he g;rw[hg]at hrg;obtain⟨us,ws,eg,hus,hws⟩:=zU hrg;refine wpIn_rangeFunc fun fn _=>?_
 obtain⟨l,mark,w1,hrun,s1,s2,s3,s4⟩:=yr hst he hk hs hD hF hr ts fn ps asg body;have hpn:(ρ ++ [(⟨l,0,0,0⟩:Pl)])[H.length]? = some ⟨l,0,0,0⟩:=by rw[<-hst.len]; simp
 have hlen' : (ρ ++ [(⟨l,0,0,0⟩:Pl)]).length=ρ.length+1:=by simp
 have hargs:VRels I (ρ ++ [⟨l,0,0,0⟩]) (as ++ .yld H.length::bs) (us ++ #[Value.func (.yield l) #[] #[]]++ws).toList:=by
  have h1:=(hus.mono (ILe.refl _) (PLe.append ρ [⟨l,0,0,0⟩])).append (VRels.cons (VRel.yld _ _ _ hpn) (hws.mono (ILe.refl _) (PLe.append ρ [⟨l,0,0,0⟩])));simpa [List.append_assoc]using h1
 have hcall:=vT h I (ρ ++ [⟨l,0,0,0⟩]) w1 (us ++ #[Value.func (.yield l) #[] #[]]++ws) a ⟨l,0,0,0⟩ s1 (he.mono (ILe.refl _) (PLe.append _ _)) hargs (by rw[hlen']; omega) hpn
 refine⟨l,mark,w1,{ target:=.fn (.func f) ws,args:=us ++ #[Value.func (.yield l) #[] #[]] },w1,f,us ++ #[Value.func (.yield l) #[] #[]]++ws,w1,hrun,?_,fun f' _=>hF.wide.fn f', ?_,fun hd=>by rw[hF.wide.depth]at hd; simp at hd,rW hF.wide (hcall.mono ?_)⟩
 . have e2:a.eval (.const (Value.func (.yield l) #[] #[]))=Value.func (.yield l) #[] #[]:=rfl;simp[resolve,rangeCall,eg,Deferred.ofValue,e2]
 . have h1:=hX.fns f (sS hm) (us ++ #[Value.func (.yield l) #[] #[]]++ws) w1;simp[invoke];simpa using h1
 . rintro en w2 ⟨v,I', ρ', e', H', rfl,hK,t1,t2,t3,t4⟩;have hk' : X.k<=ρ'.length:=by
    rcases Nat.eq_zero_or_pos X.k with h0 | h0
    . omega
    . have:=t3.take (X.k-1) (by omega)
      rw[List.getElem?_append_left (by omega),aS (show X.k-1 < ρ.length by omega)]at this
      have:=(liZ.1 this).1;omega
   have key:∀(c:jq) (st:LSt) (e0:Env),ar H' H.length = .loop c st e0->st ≠ .busy -> ∃w3,(Instr.endLoop l).run X.P w2 = .ok st.pend w3/\St I' ρ' (H'.set H.length .dead) w3 /\
    PutOk { a with defers:=mark++a.defers } ρ' (H'.set H.length .dead) w3/\Step X.k I ρ H w I' ρ' (H'.set H.length .dead) w3:=by
    intro c st e0 hg' hb;obtain⟨ho,r,hl,hrel⟩:=nZ t1 t4 hg';obtain⟨r1,r2,r3,r4,r5,r6,r7⟩:=hrel;have hend:=run_endLoop (P:=X.P) (w:=w2) (l:=l) hl (by rw[r5]; cases st<;>simp[LSt.state]at hb ⊢)
    obtain⟨u1,u2⟩:=Ie t1 X.k t4 ho trivial (.loop { r with state:=.exhausted })
    exact⟨_,by rw[<-r6]; exact hend,u1,s3.step (t3.trans u2) rfl,s2.trans (t3.trans u2)⟩
   have h0:=hK;unfold Ay at h0;split at h0<;>try exact h0.elim
   . rename_i c e0 hg';obtain⟨w3,g1,g2,g3,g4⟩:=key c .ready e0 hg' (by simp)
     simp only[aj,bO]at h0;exact⟨none,w3,g1,.normal,e', _,I', ρ', trivial,h0,g2,t2,hs,⟨g3,s4⟩,g4⟩
   . rename_i c i e0 hg';obtain⟨w3,g1,g2,g3,g4⟩:=key c (.exit i) e0 hg' (by simp)
     simp only[aj,bO]at h0;exact⟨some (.exit i),w3,g1,wpIn_exit ⟨.exit i,e', _,I', ρ', rfl,h0,g2,t2,hs,⟨g3,s4⟩,g4⟩⟩
   . rename_i c e0 hg';obtain⟨w3,g1,g2,g3,g4⟩:=key c .ret e0 hg' (by simp)
     simp only[aj,bO]at h0;exact⟨some .ret,w3,g1,wpIn_ret ⟨.ret,e', _,I', ρ', trivial,h0,g2,t2,hs,⟨g3,s4⟩,g4⟩⟩
theorem oT {X:dI} (hX:CtxOk X):∀(c:Code) {Q:AEx->Env->List O->Prop} {e:Env} {H:List O},tV X c Q e H->Lb X c Q e H:=by
 intro c;induction c with
 | skip =>
  intro Q e H h I ρ w a hst he hk hs hD F n hF;exact wpIn_skip (CPost.mk (x:=.normal) trivial h hst he hs hD)
 | region id ops draw =>
  intro Q e H h I ρ w a hst he hk hs hD F n hF;cases draw with
  | false =>
   simp only[tV]at h;refine wpIn_region ?_;have:=AB hX ops.toList 0 (by simp) e H h I ρ w a hst he hk hs F n hF.wide (CPost X Q I ρ H w a) (fun I' ρ' e' H' w' a' hK h1 h2 h3 h4 h5=>⟨.normal,e', H', I', ρ', trivial,hK,h1,h2,h3,⟨hD.step h5 h4,.same h4⟩,h5⟩)
   rw[List.range_eq_range'];simpa using this
  | true =>
   simp only[tV]at h;exact xT hX h hst he hk hs hF.wide (fun I' ρ' e' H' w' a' hK h1 h2 h3 h4 h5=>⟨.normal,e', H', I', ρ', trivial,hK,h1,h2,h3,⟨hD.step h5 h4,.same h4⟩,h5⟩)
 | seq x y ihx ihy =>
  intro Q e H h I ρ w a hst he hk hs hD F n hF;simp only[tV]at h;refine wpIn_seq (wpIn_mono (ihx h I ρ w a hst he hk hs hD F n hF) ?_);rintro ex a' w' ⟨x', e', H', I', ρ', h1,h2,h3,h4,h5,h6,h7⟩;cases x' <;> cases ex<;>simp only[AEx.is]at h1<;>simp only[Exit.then]
  . simp only[AEx.seq]at h2;refine wpIn_mono (ihy h2 I' ρ' w' a' h3 h4 (h7.klen hk) h5 h6.1 F n (hF.step h7)) fun ex2 a2 w2 g=>g.step h7 h6.2
  . subst h1;exact⟨.exit _,e', H', I', ρ', rfl,h2,h3,h4,h5,h6,h7⟩
  . exact⟨.ret,e', H', I', ρ', trivial,h2,h3,h4,h5,h6,h7⟩
 | cond c x y ihx ihy =>
  intro Q e H h I ρ w a hst he hk hs hD F n hF;simp only[tV]at h;cases hc:am e c<;>simp only[hc]at h
  rename_i b;have hr:=aE he c;rw[hc]at hr;refine wpIn_cond (fH hr) ?_;cases b with
  | true=>exact ihx h I ρ w a hst he hk hs hD F n hF
  | false=>exact ihy h I ρ w a hst he hk hs hD F n hF
 | block id c ih =>
  intro Q e H h I ρ w a hst he hk hs hD F n hF;simp only[tV]at h;refine wpIn_block (wpIn_mono (ih h I ρ w a hst he hk hs hD F n hF) ?_);rintro ex a' w' ⟨x', e', H', I', ρ', h1,h2,h3,h4,h5,h6,h7⟩;cases x' <;> cases ex<;>simp only[AEx.is]at h1<;>simp only[Exit.inBlock]
  . exact⟨.normal,e', H', I', ρ', trivial,h2,h3,h4,h5,h6,h7⟩
  . rename_i i j;subst h1;simp only[AEx.block]at h2;cases hb:Nat.beq i id with
    | true =>
     have:=Nat.eq_of_beq_eq_true hb;subst this;simp only[hb]at h2;rw[if_pos rfl];exact⟨.normal,e', H', I', ρ', trivial,h2,h3,h4,h5,h6,h7⟩
    | false =>
     simp only[hb]at h2;rw[if_neg (Nat.ne_of_beq_eq_false hb)];exact⟨.exit i,e', H', I', ρ', rfl,h2,h3,h4,h5,h6,h7⟩
  . exact⟨.ret,e', H', I', ρ', trivial,h2,h3,h4,h5,h6,h7⟩
 | loop c ih =>
  intro Q e H h I ρ w a hst he hk hs hD F n hF;simp only[tV]at h;obtain⟨ts,Inv,hinto,hround⟩:=h.out
  let Rel:Nat->Act->World->Prop:=fun m a1 w1=>∃vs H1 I1 ρ1,Inv m vs H1/\vs.length=ts.length/\St I1 ρ1 H1 w1/\ERel I1 ρ1 (ts.zip vs) a1.tmps/\a1.tmps.size=X.n/\(PutOk a1 ρ1 H1 w1/\PutNew a a1 w)/\Step X.k I ρ H w I1 ρ1 H1 w1
  intro b k cs hro hb hr;have hk' := hk;have key:∀m a1 w1,Rel m a1 w1 -> ∃ex a' w', CPost X Q I ρ H w a ex a' w'/\ArrivesIn (Machine.fenced X.P F) X.P (lone (b.atR a1 (.code c :: .inLoop c::k)) cs w1) b k cs ex a' w' := by
   intro m;induction m using Nat.strongRecOn with
   | _ m ihm =>
    rintro a1 w1 ⟨vs,H1,I1,ρ1,hI,hlen,g1,g2,g3,g4,g5⟩;obtain⟨ex,a2,w2,hq,harr⟩:=ih (hround m vs H1 hI) I1 ρ1 w1 a1 g1 g2 (g5.klen hk) g3 g4.1 F n (hF.step g5) b (.inLoop c::k) cs hro hb hr;obtain⟨x,e2,H2,I2,ρ2,p1,p2,p3,p4,p5,p6,p7⟩:=hq;cases x<;>cases ex<;>simp only[AEx.is]at p1
    . obtain⟨m', I3,ρ3,vs3,H3,hm', hI', hl3,z1,z2,z3⟩:=pT p2 (tm:=a2.tmps) ts (by simp) ((g5.trans p7).klen hk') p3 (fun i t v ht hv=>by rw[List.getElem?_map,ht]at hv; cases hv; exact p4 t) (Step.refl X.k _ _ _ _)
      obtain⟨ex3,a3,w3,hq3,harr3⟩:=ihm m' hm' a2 w2 ⟨vs3,H3,I3,ρ3,hI', hl3,z1,z2,p5,⟨p6.1.step z3 rfl,g4.2.trans p6.2 g5.size⟩,(g5.trans p7).trans z3⟩;exact⟨ex3,a3,w3,hq3,.of_steps (StepsIn.trans harr (.one (fenced_calm hb hr rfl) stepR_inLoop)) harr3⟩
    . subst p1;exact⟨Exit.exit _,a2,w2,⟨.exit _,e2,H2,I2,ρ2,rfl,p2,p3,p4,p5,⟨p6.1,g4.2.trans p6.2 g5.size⟩,g5.trans p7⟩,.pass (x:=.inLoop c) rfl (fun _ _=>.inl (by simp)) harr⟩
    . exact⟨Exit.ret,a2,w2,⟨.ret,e2,H2,I2,ρ2,trivial,p2,p3,p4,p5,⟨p6.1,g4.2.trans p6.2 g5.size⟩,g5.trans p7⟩,.pass (x:=.inLoop c) rfl (fun _ _=>.inl (by simp)) harr⟩
  have hts:ERel I ρ (ts.zip (ts.map (Env.get e))) a.tmps:=si (fun i t v ht hv=>by rw[List.getElem?_map,ht]at hv; cases hv; exact he t)
  obtain⟨m0,hR⟩:∃m0,Rel m0 a w:=by
   generalize hvs:ts.map (Env.get e)=vs0 at hinto;cases hinto with
   | «at» m0 hI0=>subst hvs; exact⟨m0,_,H,I,ρ,hI0,by simp,hst,hts,hs,⟨hD,.same rfl⟩,Step.refl _ _ _ _ _⟩
   | frz N hN =>
    subst hvs;obtain⟨m', I3,ρ3,vs3,H3,_,hI', hl3,z1,z2,z3⟩:=pT hN (tm:=a.tmps) ts (by simp) hk hst (fun i t v ht hv=>by rw[List.getElem?_map,ht]at hv; cases hv; exact he t) (Step.refl X.k _ _ _ _)
    exact⟨m', vs3,H3,I3,ρ3,hI', hl3,z1,z2,hs,⟨hD.step z3 rfl,.same rfl⟩,z3⟩
  obtain⟨ex,a', w', hq,harr⟩:=key m0 a w hR;exact⟨ex,a', w', hq,.of_steps (.one (fenced_calm hb hr rfl) stepR_loop) harr⟩
 | rangeFunc f params assign body ih1 ih2 =>
  intro Q e H h I ρ w a hst he hk hs hD F n hF;simp only[tV]at h;split at h<;>try exact h.elim
  rename_i f as bs hg hr;cases hm:n8 f X.fns<;>simp only[hm]at h
  obtain⟨ts,h⟩:=h;exact zq hX hg hr hm (h _ rfl) hst he hk hs hD hF
 | exit id =>
  intro Q e H h I ρ w a hst he hk hs hD F n hF;exact wpIn_exit (CPost.mk (x:=.exit id) rfl h hst he hs hD)
 | scope body ih =>
  intro Q e H h I ρ w a hst he hk hs hD F n hF;simp only[tV]at h;refine mj (wpIn_mono (ih h I ρ w a hst he hk hs hD F n hF) ?_);rintro ex a' w' ⟨x', e', H', I', ρ', h1,h2,h3,h4,h5,h6,h7⟩;cases x' <;> cases ex<;>simp only[AEx.is]at h1<;>simp only[Exit.noGoto]
  . exact⟨.normal,e', H', I', ρ', trivial,h2,h3,h4,h5,h6,h7⟩
  . exact⟨.exit _,e', H', I', ρ', h1,h2,h3,h4,h5,h6,h7⟩
  . exact⟨.ret,e', H', I', ρ', trivial,h2,h3,h4,h5,h6,h7⟩
 | label l =>
  intro Q e H h I ρ w a hst he hk hs hD F n hF;exact wpIn_label (CPost.mk (x:=.normal) trivial h hst he hs hD)
 | goto l=>intro Q e H h; simp only[tV]at h
 | ret =>
  intro Q e H h I ρ w a hst he hk hs hD F n hF;exact wpIn_ret (CPost.mk (x:=.ret) trivial h hst he hs hD)
 | refuse why=>intro Q e H h; simp only[tV]at h
def th:List Value->Value
 | [u]=>u
 | us=>.tuple us.toArray
def F1 (tmps:Array Value):ResultVar->Sem Value
 | .tmp t=>pure (tmps.getD t undef)
 | .cell a t=>do loadVar t (<-asAddr (tmps.getD a undef))
theorem Bo (fn:Func) (tmps:Array Value):results fn tmps=(do let vs <-fn.results.mapM (F1 tmps); pure (if h:vs.size=1 then vs[0]else .tuple vs)):=by
 unfold results;congr 1
theorem AD {X:dI} (hX:CtxOk X):∀(rs:List ResultVar) {e:Env} {H:List O} {K:List V->Prop},AC X.T e H rs K -> ∃l,K l /\ ∀(I:aU) (ρ:List Pl) (w:World) (tmps:Array Value),St I ρ H w->ERel I ρ e tmps ->
 ∃us,(rs.mapM (F1 tmps)).run X.P w = .ok us w/\VRels I ρ l us:=by
 intro rs;induction rs with
 | nil=>intro e H K h; exact⟨[],h,fun I ρ w tmps hst he=>⟨[],by simp,.nil _ _⟩⟩
 | cons r rs ih =>
  intro e H K h;cases r with
  | tmp t =>
   simp only[AC,cr]at h;obtain⟨l,hK,hl⟩:=ih h;refine⟨_,hK,fun I ρ w tmps hst he=>?_⟩
   obtain⟨us,h1,h2⟩:=hl I ρ w tmps hst he;exact⟨tmps.getD t undef::us,by simp[List.mapM_cons,F1,h1],.cons (he t) h2⟩
  | cell a t =>
   simp only[AC]at h;cases hx:Env.get e a<;>simp only[hx]at h
   rename_i id off;cases hg:ar H id<;>simp only[hg]at h
   rename_i cs;obtain⟨v,h', hl⟩:=ja hX.T h;obtain⟨l,hK,hl2⟩:=ih h';refine⟨_,hK,fun I ρ w tmps hst he=>?_⟩
   have hr:=he a;rw[hx]at hr;obtain⟨p,hp,hu⟩:=iV hr;obtain⟨hb0,_,hc⟩:=hst.cells hg hp;obtain⟨u,hrun,hv⟩:=hl I ρ w p.b 0 hc;obtain⟨us,h1,h2⟩:=hl2 I ρ w tmps hst he;rw[Nat.zero_add]at hrun;refine⟨u::us,?_,.cons hv h2⟩;rw[hb0,Nat.zero_add]at hu;simp only[List.mapM_cons,F1,hu,asAddr];simp[hrun,h1]
theorem zt {X:dI} {fn:Func} {tmps:Array Value} {w:World} {us:List Value} (h:(fn.results.toList.mapM (F1 tmps)).run X.P w = .ok us w) :
 (results fn tmps).run X.P w = .ok (th us) w:=by
 rw[Bo,Array.mapM_eq_mapM_toList];simp only[Sem.run_bind,Sem.run_map,h,Result.andThen_ok,Sem.run_pure];congr 1
 match us with
 | []=>simp[th]
 | [u]=>simp[th]
 | u::v::r=>simp[th]
theorem FT {l:List V} {us:List Value} (h:VRels I ρ l us):VRel I ρ (JW l) (th us):=by
 match l,us,h with
 | [],[],h=>exact .tup _ _ _ rfl (fun i a u ha=>by simp at ha)
 | [v],[u],h=>exact h.2 0 v u (by simp) (by simp)
 | v::v'::l,u::u'::us,h=>exact .tup _ _ _ (by simpa using h.1) (fun i a x ha hx=>h.2 i a x ha (by simpa using hx))
 | [],u::us,h=>have:=h.1; simp at this
 | v::l,[],h=>have:=h.1; simp at this
 | [v],u::u'::us,h=>have:=h.1; simp at this
 | v::v'::l,[u],h=>have:=h.1; simp at this
theorem nB:∀(args:List V) (i:Nat) (pre us:List Value) (m:Nat),pre.length=i->VRels I ρ args us->ERel I ρ (jt i args) (pre++us++List.replicate m undef).toArray
 | [],i,pre,us,m,hi,h=>fun t=>by simp[jt,Env.get]; exact .any _ _
 | v::args,i,pre,us,m,hi,h=>by
  obtain⟨u,us', rfl,h1,h2⟩:=h.cons_inv;intro t;simp only[jt,Env.get];cases ht:Nat.beq i t with
  | true =>
   have:=Nat.eq_of_beq_eq_true ht;subst this;simp only;have:((pre++u::us'++List.replicate m undef).toArray).getD i undef=u:=by
    simp[List.append_assoc,List.getElem?_append_right,hi]
   rw[this]; exact h1
  | false =>
   have:=nB args (i+1) (pre ++ [u]) us' m (by simp[hi]) h2 t
   simpa [List.append_assoc]using this
theorem nY {fn:Func} {tmps:Array Value} {R:Ending->World->Prop}:∀(Ds:List Nat) {w:World},Ds.Nodup->St I ρ H w->(∀D∈Ds,w.heap[D]? = some (.deferred (some [])) /\ ¬az ρ H D) ->
 (∀w', St I ρ H w'->(∀b,b ∉ Ds->w'.heap[b]? = w.heap[b]?)->w'.os=w.os->w'.tape=w.tape->w'.output=w.output->w'.heap.size=w.heap.size -> ∃v,(results fn tmps).run P w' = .ok v w'/\R (.returned v) w') ->
 LeavesInM Fence.wide 0 P fn tmps R (Ds.map n6) .returning w
 | [],w,_,hst,_,hw=>hw w hst (fun _ _=>rfl) rfl rfl rfl rfl
 | D::Ds,w,hnd,hst,hD,hw=>by
  obtain⟨h1,h2⟩:=hD D (by simp)
  rw[List.nodup_cons]at hnd;have hI:∀o,I D o=none:=fun o=>by
   cases hx:I D o with
   | none=>rfl
   | some v =>
    have:=hst.imm D o v hx;simp[World.cell?,h1]at this
  refine⟨by simp,.inl ⟨D,_,rfl,run_takeDeferred h1,nY Ds hnd.2 (hst.unput h2 hI _) (fun D' hD' => ?_) fun w' hst' hb m1 m2 m3 m4=>?_⟩⟩
  . have hne:D'≠D:=fun e=>hnd.1 (e ▸ hD')
    rw[World.putObj_heap_other hne];exact hD D' (by simp[hD'])
  . refine hw w' hst' (fun b hbn=>?_) m1 m2 m3 (by rw[m4]; simp)
    simp only[List.mem_cons,not_or]at hbn;rw[hb b hbn.2,World.putObj_heap_other hbn.1]
theorem xR {X:dI} (hX:CtxOk X) {f:FuncId} {fn:Func} {c:Code} (hf:X.P.funcs[f]? = some fn) (hb:fn.body=some c) (hn:fn.ntmps=X.n) (hround:X.round=none) {args:List V} {H:List O} {Q:V->List O->Prop} (hl:args.length<=X.n)
 (h:Ix X fn c args H Q):ACall X.P f X.k args H Q:=by
 refine⟨fun I ρ w us hst hk hargs=>callsIn_wide.1 (callsIn_of_wp_marks (n:=0) hf hb trivial ?_)⟩
 have hlen:us.size<=X.n:=by have:=hargs.1; simp at this; omega
 have he:ERel I ρ (jt 0 args) (us++Array.replicate (fn.ntmps-us.size) undef):=by
  have:=nB (I:=I) (ρ:=ρ) args 0 [] us.toList (fn.ntmps-us.size) rfl hargs;have e1:(([]:List Value)++us.toList++List.replicate (fn.ntmps-us.size) undef).toArray=us++Array.replicate (fn.ntmps-us.size) undef:=by
   apply Array.ext';simp
  rw[e1]at this;exact this
 have hs:(us++Array.replicate (fn.ntmps-us.size) undef).size=X.n:=by simp; omega
 have hwp:=oT hX c h I ρ w { tmps:=us++Array.replicate (fn.ntmps-us.size) undef,defers:=[] } hst he (by rw[hst.len]; exact hk) hs .nil Fence.wide 0 (.inl ⟨hround,rfl⟩)
 refine wpIn_mono hwp ?_;rintro ex a' w' ⟨x,e', H', I', ρ', h1,h2,h3,h4,h5,⟨⟨Ds,d1,d2,d3⟩,h6⟩,h7⟩
 have fin:AC X.T e' H' fn.results.toList (fun l=>∃sel,gC sel H'.length X.k=true/\Q (aM (bI sel) (JW l)) (aJ (bI sel) H' sel)) ->
  LeavesInM Fence.wide 0 X.P fn a'.tmps (fun en w'' => ∃v_1 r I'_1 ρ'_1 H'_1,en = .returned v_1/\St I'_1 ρ'_1 H'_1 w''/\VRel I'_1 ρ'_1 r v_1/\Step X.k I ρ H w I'_1 ρ'_1 H'_1 w''/\Q r H'_1) a'.defers .returning w' := by
  intro ha;obtain⟨l,⟨sel,hsel,hQ⟩,hl⟩:=AD hX fn.results.toList ha;rw[d1];refine nY Ds d2 h3 d3 fun w'' hst'' hb' m1 m2 m3 m4=>?_
  obtain⟨us', hrun,hrel⟩:=hl I' ρ' w'' a'.tmps hst'' h4;have h7' : Step X.k I ρ H w I' ρ' H' w'' := ⟨h7.ile,h7.take,m1.trans h7.os,m2.trans h7.tape,m3.trans h7.output,by rw[m4]; exact h7.size,fun b hbl hbn=>by
   rw[hb' b fun hm=>?_,h7.frame b hbl hbn]
   rcases h6 b (by rw[d1]; exact List.mem_map.2 ⟨b,hm,rfl⟩)with x | x
   . simp at x
   . omega,h7.own,h7.imm⟩
  obtain⟨z1,z2,z3⟩:=jS hst'' hsel h7';exact⟨_,zt hrun,_,_,I', ci sel ρ', _,rfl,z1,(FT hrel).ren z2,z3,hQ⟩
 cases x<;>cases ex<;>simp only[AEx.is]at h1<;>simp only at h2
 . exact fin h2
 . exact fin h2
end Go.Proofs.YteiagdlfccbpcaaGreatDoorPg
