/- Own texts, laid together: PgB44, PgB45, PgB43, PgB46, PgE1, PgE61, PgB7, PgB8, PgB9, PgC0, PgC02. -/
import Derived.Test.YteiagdlfccbpcaaGreatDoorPgM7
import Derived.Laws.MakeOwn
import Derived.MapKept
import Derived.Test.YteiagdlfccbpcaaGreatDoorPgM6
set_option linter.unusedSectionVars false
set_option linter.unusedSimpArgs false
set_option linter.unusedVariables false
namespace Go.Proofs.YteiagdlfccbpcaaGreatDoorPg
open Go Go.RowKit
section
variable [Globs]
variable {P:Program} {T:Nat->TI} {I:aU} {ρ:List Pl} {H:List O} {w:World} {e:Env}
theorem wC (z:Array Value) (n:Nat):madeCells z n=ag z n:=rfl
theorem yn (hT:bH P T) {k:Nat} {o:Oper} {t:TypeId} {l c:Operand} (ho:o.op = .makeSlice t l c) {K:V->Env->List O->Prop}
 (h:lO T t (ao e l) (ao e c) H fun v H' => K v e H'):ESem P k o e H K:=by
 unfold lO at h;split at h<;>try exact h.elim
 rename_i q hk';split at h<;>try exact h.elim
 rename_i hq;split at h<;>try exact h.elim
 rename_i kl n kc m hl hc;obtain⟨⟨h0,hnm,hroom⟩,h⟩:=h;rw[aj]at h;obtain⟨i,z,g1,g2,g3,g4,g5,g6,g7,g8,hgd⟩:=dB hT hq;obtain⟨i', z', d,f1,f2,f3,f4,f5⟩:=bS hT hgd;rw[g1]at f1; cases f1;rw[g2]at f2; cases f2;have hzero:(T q).zero=z.cells.toList.map cV:=by rw[f4]
 have hlz:(T q).zero.length=(T q).size:=by rw[hzero,g3]; simp[g8]
 have hu:=dv hT hk';rw[g4]at hroom;have hm1:m.toNat<=m.toNat*i.bytes:=Nat.le_mul_of_pos_right _ g5;refine aH (by simp[ho]) fun I ρ w a hst he hk=>?_
 have r1:=aI he l;rw[hl]at r1;have e1:=bN r1;have r2:=aI he c;rw[hc]at r2;have e2:=bN r2;have hb:(i.bytes:Int)*m<=281474976710656:=by
  have e3:m=(m.toNat:Int):=by omega
  rw[e3,<-Int.natCast_mul,Nat.mul_comm];omega
 have hrun:=run_make (P:=P) w t q i z hu g1 g2 kl kc n m h0 hnm hb (by omega)
 rw[wC]at hrun;have hal:AllLen i.size (List.replicate n.toNat (T q).zero):=c9 (by rw[hlz,g3]) _
 have hget:∀(j:Nat) (u:Value),(ag z.cells (m.toNat*i.size))[j]? = some u->z.cells[j % z.cells.size]? = some u:=by
  intro j u hu;have hjl:j<m.toNat*z.cells.size:=by
   have:=(Array.getElem?_eq_some_iff.1 hu).1;simp[ag]at this; rw[g8]; exact this
  have hz0:=ce hjl;rw[<-g8,hz0.1]at hu;exact hu
 have hflat:VRels I [] (List.replicate n.toNat (T q).zero).flatten ((ag z.cells (m.toNat*i.size)).toList.take ((List.replicate n.toNat (T q).zero).length*i.size)):=by
  have hmul:n.toNat*i.size<=m.toNat*i.size:=Nat.mul_le_mul_right _ (by omega)
  refine⟨by rw[bt hal]; simp only[ag,List.length_replicate,List.length_take,Array.length_toList,Array.size_map,Array.size_range]; omega,fun j x u hx hu=>?_⟩
  have hu0:(ag z.cells (m.toNat*i.size)).toList[j]? = some u:=by
   have:=(liZ.1 hu).1;rw[List.getElem?_take_of_lt (by simp at this ⊢; omega)]at hu
   exact hu
  have hu' := hget j u (by simpa using hu0)
  obtain⟨y,h1,h2,h3,h4⟩:=gu hal hx;have hy:y=(T q).zero:=(List.mem_replicate.1 (List.mem_of_getElem? h1)).2;subst hy;rw[<-g8]at h2;exact(cA z.cells).2 (j % z.cells.size) x u (by rw[<-hzero]; exact h2) (by simpa using hu')
 obtain⟨s1,s2⟩:=od hst k hk (es:=List.replicate n.toNat (T q).zero) (sz:=i.size) (tot:=m.toNat) (us:=ag z.cells (m.toNat*i.size)) hal hflat
  (fun j u _ hu=>cN f5 _ u (hget j u hu)) (by simp; omega) (by simp[ag]) q w rfl rfl rfl rfl
 refine⟨.slice (some ⟨w.heap.size,0,none⟩) n.toNat m.toNat,_,I,_,e,_,_,.inl ?_,h,s1,?_,he.mono (ILe.refl _) (PLe.append _ _),s2⟩
 . simp[execOp,ho,e1,e2,hrun]
 . have:=VRel.ms (I:=I) (ρ ++ [⟨w.heap.size,0,i.size,m.toNat⟩]) H.length 0 n.toNat m.toNat false ⟨w.heap.size,0,i.size,m.toNat⟩ (by rw[<-hst.len]; simp) (by omega) (by simp) (by simp) (by simp)
   rw[g3];simpa using this
theorem KC (hT:bH P T) {k:Nat} {o:Oper} {c:Call} (ho:o.op = .call c) (hc:c.callee = .builtin .cap) {K:V->Env->List O->Prop} {s:Operand} (ha:c.args.toList = [s]) {t:TypeId} (hat:c.argTypes.toList = [t])
 (h:CX T t (ao e s) H fun v H' => K v e H'):ESem P k o e H K:=by
 unfold CX at h;cases hk:(T t).kind<;>simp only[hk]at h
 rename_i q;have hu:=dv hT hk;have run:∀(w:World) (a:Act) (A:Option Addr) (len cap:Nat),a.eval s = .slice A len cap->(execOp a.eval o).run P w = .ok (.value (.int .i64 cap)) w:=by
  intro w a A len cap hs;obtain⟨callee,args,argTypes⟩:=c;obtain⟨args⟩:=args;obtain⟨argTypes⟩:=argTypes;simp only at hc ha hat;subst hc; subst ha; subst hat;simp[execOp,ho,resolve,invoke,builtin,hs,Builtin.cap_,af hu,goInt]
 refine aH (by simp[ho]) fun I ρ w a hst he hkk=>?_
 have hrs:=aI he s;generalize ao e s=sv at h hrs;split at h<;>try exact h.elim
 . rename_i z id off len full;cases full with
   | true =>
    simp only at h;generalize hau:a.eval s=u at hrs;cases hrs with
    | ms _ _ _ _ cap _ p hp m1 m2 m3 m4=>exact⟨_,_,I,ρ,e,H,w,.inl (run w a _ _ _ hau),h,hst,by rw[m3 rfl]; exact .int _ _ _,he,Step.refl _ _ _ _ _⟩
    | ms0=>exact⟨_,_,I,ρ,e,H,w,.inl (run w a _ _ _ hau),h,hst,.int _ _ _,he,Step.refl _ _ _ _ _⟩
   | false =>
    simp only at h;cases hg:ar H id<;>simp only[hg]at h
    rename_i es;obtain⟨⟨hl,hpos⟩,hK⟩:=h;generalize hau:a.eval s=u at hrs;cases hrs with
    | ms0=>omega
    | ms _ _ _ _ cap _ p hp m1 m2 m3 m4 =>
    have hcap:=m4 rfl;have hH:H[id]? = some (.buf es):=ax hg (by simp)
    rcases hst.obj id p _ hp hH with⟨e0,_⟩ | ⟨o1,o2,o3⟩
    . subst e0; simp at hl; omega
    have hK:=hK (cap-len);rw[aj,bO,show len+(cap-len)=cap by omega]at hK
    have horel:ORel I ρ w p (.bufc (es++List.replicate (cap-len) [])):=by
     refine⟨by simp; omega,o2,fun i y hy hne=>?_⟩
     by_cases hi:i<es.length
     . rw[List.getElem?_append_left hi]at hy;exact o3 i y hy
     . rw[List.getElem?_append_right (by omega)]at hy
       exact absurd (List.mem_replicate.1 (List.mem_of_getElem? hy)).2 hne
    have htot:p.tot≠0:=by omega
    obtain⟨s1,s2⟩:=l6 hst k hkk hp hH (o' := .bufc (es++List.replicate (cap-len) [])) htot trivial (w' := w) (fun _ _=>rfl) rfl rfl rfl rfl horel
    exact⟨_,_,I,ρ,e,_,w,.inl (run w a _ _ _ hau),hK,s1,.int _ _ _,he,s2⟩
 . rename_i z es;generalize hau:a.eval s=u at hrs;cases hrs with
   | sl _ _ _ _ b base cap f g1 g2 g3 g4 g4' g5=>exact⟨_,_,I,ρ,e,H,w,.inl (run w a _ _ _ hau),h,hst,by rw[g2 rfl]; exact .int _ _ _,he,Step.refl _ _ _ _ _⟩
   | slnil=>exact⟨_,_,I,ρ,e,H,w,.inl (run w a _ _ _ hau),h,hst,.int _ _ _,he,Step.refl _ _ _ _ _⟩
 . have hau:=fJ hrs;exact⟨_,_,I,ρ,e,H,w,.inl (run w a _ _ _ hau),h,hst,.int _ _ _,he,Step.refl _ _ _ _ _⟩
theorem wY {sz n:Nat} {x:V} {K:List (List V)->Prop} (hn:0<n) (h:pt H sz n x K) :
 ∃ys,K ys/\ys.length=n /\ ∀(I:aU) (ρ:List Pl) (w:World) (u:Value),St I ρ H w->VRel I ρ x u->AllLen sz ys /\ ∃news:List Value,(∀w', w'.heap=w.heap->(Builtin.firstCells sz n u).run P w' = .ok news.toArray w')/\VRels I [] ys.flatten news /\ ∀v∈news,v.oneCell'=true:=by
 unfold pt at h;split at h<;>try exact h.elim
 . rename_i z es full;cases hb:Nat.beq z sz<;>simp only[hb]at h
   have e0:=Nat.eq_of_beq_eq_true hb;subst e0;obtain⟨hle,hK⟩:=h;have hlen:(es.take n).length=n:=by rw[List.length_take]; omega
   refine⟨_,hK,hlen,fun I ρ w u hst hr=>?_⟩
   have get:∀(i:Nat) (y:List V),(es.take n)[i]? = some y->es[i]? = some y:=fun i y hy=>by
    have:=(liZ.1 hy).1;rw[List.length_take]at this
    rwa [List.getElem?_take_of_lt (by omega)]at hy
   cases hr with
   | sl _ _ _ _ b base cap f g1 g2 g3 g4 g4' g5 =>
    have hl:AllLen z (es.take n):=fun y hy=>by
     obtain⟨i,hi⟩:=List.getElem?_of_mem hy;exact g3 i y (get i y hi)
    obtain⟨news,h1,h2,h3⟩:=fW (P:=P) (I:=I) (w:=w) (n:=n) (cap:=cap) (len:=es.length) rfl hl hlen.symm (fun i y j v hy hv=>⟨f i j,hst.imm _ _ _ (g4 i y j v (get i y hy) hv),g4' i y j v (get i y hy) hv,g5 i y j v (get i y hy) hv⟩)
    exact⟨hl,news,h1,h2,h3⟩
   | slnil=>simp at hle; omega
 . rename_i z id off len full;cases hb:Nat.beq z sz<;>simp only[hb]at h
   have e0:=Nat.eq_of_beq_eq_true hb;subst e0;cases hg:ar H id<;>simp only[hg]at h
   . rename_i es;obtain⟨⟨hle1,hle⟩,hK⟩:=h;have hlen:((es.drop off).take n).length=n:=by simp; omega
     refine⟨_,hK,hlen,fun I ρ w u hst hr=>?_⟩
     have get:∀(i:Nat) (y:List V),((es.drop off).take n)[i]? = some y->es[off+i]? = some y:=fun i y hy=>by
      have hlt:=(liZ.1 hy).1;rw[List.getElem?_take_of_lt (by simp at hlt; omega),List.getElem?_drop]at hy
      exact hy
     cases hr with
     | ms _ _ _ _ cap _ p hp g1 g2 g3 =>
      have hl:AllLen p.sz ((es.drop off).take n):=fun y hy=>by
       obtain⟨i,hi⟩:=List.getElem?_of_mem hy;exact(iD hst hp hg (get i y hi)).1
      obtain⟨news,h1,h2,h3⟩:=fW (P:=P) (I:=I) (w:=w) (b:=p.b) (base:=p.base+off*p.sz) (n:=n) (cap:=cap) (len:=len) rfl hl hlen.symm (fun i y j v hy hv=>by
       obtain⟨u,c1,c2,c3⟩:=(iD hst hp hg (get i y hy)).2.1 j v hv;refine⟨u,?_,c2,c3⟩;rw[<-c1]; congr 2; rw[Nat.add_mul]; omega)
      exact⟨hl,news,h1,h2,h3⟩
     | ms0=>omega
   . rename_i es;obtain⟨⟨hle1,hle,hne⟩,hK⟩:=h;have hlen:((es.drop off).take n).length=n:=by simp; omega
     refine⟨_,hK,hlen,fun I ρ w u hst hr=>?_⟩
     have get:∀(i:Nat) (y:List V),((es.drop off).take n)[i]? = some y->es[off+i]? = some y:=fun i y hy=>by
      have hlt:=(liZ.1 hy).1;rw[List.getElem?_take_of_lt (by simp at hlt; omega),List.getElem?_drop]at hy
      exact hy
     cases hr with
     | ms _ _ _ _ cap _ p hp g1 g2 g3 =>
      have hH:H[id]? = some (.bufc es):=ax hg (by simp)
      obtain⟨o1,o2,o3⟩:=hst.obj id p _ hp hH;have cell:∀(i:Nat) (y:List V),((es.drop off).take n)[i]? = some y->y.length=p.sz/\CellsAt I [] w p.b (p.base+(off+i)*p.sz) y:=fun i y hy=>o3 (off+i) y (get i y hy) (hne y (List.mem_of_getElem? hy))
      have hl:AllLen p.sz ((es.drop off).take n):=fun y hy=>by
       obtain⟨i,hi⟩:=List.getElem?_of_mem hy;exact(cell i y hi).1
      obtain⟨news,h1,h2,h3⟩:=fW (P:=P) (I:=I) (w:=w) (b:=p.b) (base:=p.base+off*p.sz) (n:=n) (cap:=cap) (len:=len) rfl hl hlen.symm (fun i y j v hy hv=>by
       obtain⟨u,c1,c2,c3⟩:=(cell i y hy).2 j v hv;refine⟨u,?_,c2,c3⟩;rw[<-c1]; congr 2; rw[Nat.add_mul]; omega)
      exact⟨hl,news,h1,h2,h3⟩
     | ms0=>omega
theorem Bb {x:V} {m:Nat} (h:JA x=some m) {u:Value} (hr:VRel I ρ x u) (w:World):(Builtin.lenOf u).run P w = .ok m w:=by
 unfold JA at h;split at h<;>cases h
 . cases hr with
   | sl=>simp[Builtin.lenOf]
   | slnil=>simp[Builtin.lenOf]
 . cases hr with
   | ms=>simp[Builtin.lenOf]
   | ms0=>simp[Builtin.lenOf]
 . obtain⟨b,hb,rfl⟩:=eM hr;have:b.size=(by assumption:List UInt8).length:=by rw[<-hb]; rfl
   simp[Builtin.lenOf,this]
 . rw[fJ hr]; simp[Builtin.lenOf]
theorem F2 {t t2 ty q:TypeId} {i:TypeInfo} (hu:P.underlying t=some (.slice q)) (hi:P.info? q=some i) {b o dl dc m:Nat} {x:Value} {news:List Value} (hlen:∀w', (Builtin.lenOf x).run P w' = .ok m w')
 (hcells:(Builtin.firstCells i.size (Nat.min m dl) x).run P w = .ok news.toArray w) (hc:∀j,j<news.length->(w.cell? ⟨b,o+j,none⟩).isSome=true) (hf:∀j,j<news.length->w.frozen? ⟨b,o+j,none⟩=false) (h1:∀v∈news,v.oneCell'=true) :
 (Builtin.copy_ #[t,t2] ty #[.slice (some ⟨b,o,none⟩) dl dc,x]).run P w = .ok (.int .i64 (Nat.min m dl:Nat)) (w.setCells b o news):=by
 have hst:=run_storeCells_cells (P:=P) b o news 0 w (by simpa using hc) (by simpa using hf) h1
 simp only[Nat.add_zero]at hst;simp[Builtin.copy_,af hu,bu hi,hlen,hcells,hst,goInt]
theorem u5 {p:Pl} {off:Nat} {es ys:List (List V)} {news:List Value} {sz:Nat} (hsz:p.sz=sz) (o1:es.length<=p.tot) (o2:Open w p.b p.base (p.base+p.tot*p.sz)) (hin:off+ys.length<=es.length)
 (n2:AllLen sz ys) (n3:VRels I [] ys.flatten news) (n4:∀v∈news,v.oneCell'=true) {C:List V->Prop}
 (o3:∀(i:Nat) (e:List V),es[i]? = some e->C e->e.length=p.sz/\CellsAt I [] w p.b (p.base+i*p.sz) e) (hys:∀y∈ys,C y) :
 ∀(i:Nat) (e:List V),(es.take off++ys++es.drop (off+ys.length))[i]? = some e->C e->e.length=p.sz/\CellsAt I [] (w.setCells p.b (p.base+off*p.sz) news) p.b (p.base+i*p.sz) e:=by
 subst hsz;have hl2:news.length=ys.length*p.sz:=by rw[<-n3.1,bt n2]
 have hmul:p.base+off*p.sz+news.length<=p.base+p.tot*p.sz:=by
  rw[hl2,Nat.add_assoc,<-Nat.add_mul];have:=Nat.mul_le_mul_right p.sz (show off+ys.length<=p.tot by omega)
  omega
 intro j y hy hC;rcases m6 hin hy with⟨h1,h2⟩ | ⟨h1,h2,h3⟩ | ⟨h1,h2⟩
 . obtain⟨c1,c2⟩:=o3 j y h2 hC;refine⟨c1,c2.apart news (.inl ?_)⟩;have:=Nat.mul_le_mul_right p.sz (show j+1<=off by omega)
   rw[Nat.add_mul]at this;rw[c1]; omega
 . have hyl:=n2 y (List.mem_of_getElem? h3);refine⟨hyl,?_⟩;refine CellsAt.written o2 hmul n4 (d:=(j-off)*p.sz) ?_ (fun j' v hv=>?_)
   . rw[Nat.add_assoc,<-Nat.add_mul];congr 2; omega
   . have hf:=iF n2 h3 hv;have hlt:=(liZ.1 hf).1;rw[n3.1]at hlt;exact⟨news[(j-off)*p.sz+j'],aS hlt,n3.2 _ v _ hf (aS hlt)⟩
 . obtain⟨c1,c2⟩:=o3 j y h2 hC;refine⟨c1,c2.apart news (.inr ?_)⟩;rw[hl2,Nat.add_assoc,<-Nat.add_mul];have:=Nat.mul_le_mul_right p.sz h1;omega
theorem Jk (hT:bH P T) {k:Nat} {o:Oper} {c:Call} (ho:o.op = .call c) (hc:c.callee = .builtin .copy) {K:V->Env->List O->Prop} {d x:Operand} (ha:c.args.toList = [d,x]) {t t2:TypeId} (hat:c.argTypes.toList = [t,t2])
 (h:uq T t (ao e d) (ao e x) H fun v H' => K v e H'):ESem P k o e H K:=by
 unfold uq at h;cases hk:(T t).kind<;>simp only[hk]at h
 rename_i q;have hu:=dv hT hk;split at h<;>try exact h.elim
 rename_i z id off len full m hq hd hm;cases hb:Nat.beq z (T q).size<;>simp only[hb]at h
 have e0:=Nat.eq_of_beq_eq_true hb;obtain⟨i,zv,g1,g2,g3,g4,g5,g6,g7,g8,hgd⟩:=dB hT hq;obtain⟨hpos,h⟩:=h;rw[g3]at h e0;obtain⟨ys,hK,hlen,hys⟩:=wY (P:=P) hpos h;refine aH (by simp[ho]) fun I ρ w a hst he hkk=>?_
 have hrd:=aI he d;have hrx:=aI he x;rw[hd]at hrd;obtain⟨n2,news,n1,n3,n4⟩:=hys I ρ w _ hst hrx;have hl2:news.length=ys.length*i.size:=by rw[<-n3.1,bt n2]
 have hne:∀y∈ys,y ≠ []:=fun y hy e=>by
  have:=n2 y hy;rw[e]at this; simp at this; omega
 have exec:∀(w' : World) (b o' dl dc:Nat),a.eval d = .slice (some ⟨b,o', none⟩) dl dc->(Builtin.copy_ #[t,t2] o.type #[.slice (some ⟨b,o', none⟩) dl dc,a.eval x]).run P w = .ok (.int .i64 (Nat.min m dl:Nat)) w'->(execOp a.eval o).run P w = .ok (.value (.int .i64 (Nat.min m dl:Nat))) w' := by
  intro w' b o' dl dc had hrun;obtain⟨callee,args,argTypes⟩:=c;obtain⟨args⟩:=args;obtain⟨argTypes⟩:=argTypes;simp only at hc ha hat;subst hc; subst ha; subst hat;simp[execOp,ho,resolve,invoke,builtin,had,hrun]
 generalize had:a.eval d=u at hrd;generalize hszq:z=sz at hrd e0;cases hrd with
 | ms0=>exfalso; simp only[Nat.min_def]at hpos; split at hpos<;>omega
 | ms _ _ _ _ cap _ p hp m1 m2 m3 m4 =>
 have hmin:Nat.min m len=min m len:=rfl
 have fin:∀(es:List (List V)) (ob ob' : O),H[id]? = some ob->ob.has p->ob'.has p->es.length<=p.tot->Open w p.b p.base (p.base+p.tot*p.sz)->off+min m len<=es.length->K (.int .i64 (min m len:Nat)) e (H.set id ob') ->
  (∀w', ORel I ρ (w.setCells p.b (p.base+off*p.sz) news) p ob'\/w'=w->ORel I ρ (w.setCells p.b (p.base+off*p.sz) news) p ob'\/w'=w)->ORel I ρ (w.setCells p.b (p.base+off*p.sz) news) p ob' ->
  ∃u v I' ρ' e' H' w', (((execOp a.eval o).run P w = .ok (.value u) w')/\K v e' H'/\St I' ρ' H' w'/\VRel I' ρ' v u/\ERel I' ρ' e' a.tmps/\Step k I ρ H w I' ρ' H' w'):=by
  intro es ob ob' hH hh hh' o1 o2 hin hKK _ horel;have hmul:p.base+off*p.sz+news.length<=p.base+p.tot*p.sz:=by
   rw[hl2,hlen,e0,Nat.add_assoc,<-Nat.add_mul];have:=Nat.mul_le_mul_right i.size (show off+min m len<=p.tot by omega)
   omega
  have hrun:=F2 (t2:=t2) (ty:=o.type) (P:=P) (w:=w) (dc:=cap) (dl:=len) (m:=m) (x:=a.eval x) hu g1 (b:=p.b) (o:=p.base+off*p.sz) (fun w' => Bb hm hrx w') (n1 w rfl) (fun j hj=>o2.cell (by omega)) (fun j hj=>by
   obtain⟨c', t', fr,c1,c2,c3⟩:=o2;exact c3 _ (by omega)) n4
  obtain⟨s1,s2⟩:=lH hst k hkk hp hH hh hh' horel;exact⟨_,_,I,ρ,e,_,_,exec _ _ _ _ _ had hrun,hKK,s1,.int _ _ _,he,s2⟩
 cases hg:ar H id<;>simp only[hg]at hK
 . rename_i es;obtain⟨hin,hK⟩:=hK;rw[aj,bO]at hK;have hH:H[id]? = some (.buf es):=ax hg (by simp)
   rcases hst.obj id p _ hp hH with⟨h0,_⟩ | ⟨o1,o2,o3⟩
   . subst h0; simp at hin hpos; omega
   have htot:p.tot≠0:=by omega
   have hrows:=u5 (w:=w) (C:=fun _=>True) e0 o1 o2 (by rw[hlen]; exact hin) n2 n3 n4 (fun i y hy _=>o3 i y hy) (fun _ _=>trivial)
   rw[hlen]at hrows;obtain⟨u,v,I', ρ', e', H', w', r1,r2,r3,r4,r5,r6⟩:=fin es _ (.buf (es.take off++ys++es.drop (off+min m len))) hH htot htot o1 o2 hin hK (fun _ h=>h) (.inr ⟨by simp; omega,o2.setCells _ _,fun j y hy=>hrows j y hy trivial⟩)
   exact⟨u,v,I', ρ', e', H', w', .inl r1,r2,r3,r4,r5,r6⟩
 . rename_i es;obtain⟨hin,hK⟩:=hK;rw[aj,bO]at hK;have hH:H[id]? = some (.bufc es):=ax hg (by simp)
   obtain⟨o1,o2,o3⟩:=hst.obj id p _ hp hH;have hrows:=u5 (w:=w) (C:=fun y=>y ≠ []) e0 (Nat.le_of_eq o1) o2 (by rw[hlen]; exact hin) n2 n3 n4 (fun i y hy hC=>o3 i y hy hC) hne
   rw[hlen]at hrows;obtain⟨u,v,I', ρ', e', H', w', r1,r2,r3,r4,r5,r6⟩:=fin es _ (.bufc (es.take off++ys++es.drop (off+min m len))) hH trivial trivial (Nat.le_of_eq o1) o2 hin hK (fun _ h=>h) ⟨by simp; omega,o2.setCells _ _,hrows⟩
   exact⟨u,v,I', ρ', e', H', w', .inl r1,r2,r3,r4,r5,r6⟩
theorem qm {t t2 ty q:TypeId} {k2 k1:IntKind} {i:TypeInfo} {z:Value} (ht:P.underlying t=some (.slice q)) (ht2:P.underlying t2=some (.int k2)) (hi:P.info? q=some i) (hz:i.zero=some z)
 {A:Option Addr} {sLen sCap:Nat} {n:Int} (h0:0<n) (hn1:n<=70368744177664) {olds:List Value} (ho:∀w', w'.heap=w.heap->(Builtin.firstCells i.size sLen (.slice A sLen sCap)).run P w' = .ok olds.toArray w') (hg:sCap<sLen+n.toNat)
 (hb0:0<i.bytes) (hs0:0<i.size) (hfit:Builtin.nextslicecap (sLen+n.toNat) sCap*i.bytes<=281474976710656) (hroom:n*i.bytes<=281474976710656) (hneed:sLen+n.toNat<=9223372036854775807) :
 (Builtin.append_ #[t,t2] ty #[.slice A sLen sCap,.int k1 n]).run P w = .ok (.slice (some ⟨w.heap.size,0,none⟩) (sLen+n.toNat) (grownCap w (sLen+n.toNat) sCap q))
  (w.drew.alloc (.cells ((olds++(Builtin.zeroCells z.cells n.toNat).toList).toArray++Builtin.zeroCells z.cells (grownCap w (sLen+n.toNat) sCap q-(sLen+n.toNat))) q)):=by
 have hn:¬(sLen+n.toNat<=sCap):=by omega
 have h48' : ¬(281474976710656<Builtin.nextslicecap (sLen+n.toNat) sCap*i.bytes):=by omega
 have hb:i.bytes≠0:=by omega
 have e2:=ho w.drew rfl;have hw:IntKind.i64.wrap n=n:=by rw[IntKind.wrap_i64]; omega
 have hneg:¬n<0:=by omega
 have hr:¬(281474976710656<n*(i.bytes:Int)):=by omega
 have hmax:¬((9223372036854775807:Int)<((sLen:Int)+max n 0)):=by omega
 have hnz:¬(n.toNat*i.size=0):=by
  have:0<n.toNat:=by omega
  have:=Nat.mul_pos this hs0;omega
 have hi64:IntKind.i64.max=9223372036854775807:=rfl;simp[Builtin.append_,af ht,af ht2,sizeOf,typeInfo,zeroValue,asInt,asIntOf,hi,hz,hw,hneg,hr,hn,h48', hb,hmax,hi64,hnz,Question.forced,e2,newRow,grownCap,<-Array.append_assoc];rw[show(olds++(Builtin.zeroCells z.cells n.toNat).toList).toArray=olds.toArray++Builtin.zeroCells z.cells n.toNat by simp]
theorem ln (A:Option Addr) (cap sz:Nat) (w' : World):(Builtin.firstCells sz 0 (.slice A 0 cap)).run P w' = .ok ([]:List Value).toArray w' := by
 cases A<;>simp[Builtin.firstCells,loadCells,loadCellsFrom]
theorem tY (hT:bH P T) {k:Nat} {o:Oper} {c:Call} (ho:o.op = .call c) (hc:c.callee = .builtin .append) {K:V->Env->List O->Prop} {s x:Operand} (ha:c.args.toList = [s,x]) {t t2:TypeId} (hat:c.argTypes.toList = [t,t2])
 {q:TypeId} (hk' : (T t).kind = .sl q) (hq:eJ (T q)=true) {k2 k1:IntKind} (hk2:(T t2).kind = .int k2) {n:Int} (hx:ao e x = .int k1 n)
 (hs0:ao e s = .nils) (h:pQ (T q).size (T q).bytes (T q).zero (ao e s) n H fun v H' => K v e H'):ESem P k o e H K:=by
 obtain⟨i,z,g1,g2,g3,g4,g5,g6,g7,g8,hgd⟩:=dB hT hq;obtain⟨i', z', d,f1,f2,f3,f4,f5⟩:=bS hT hgd;rw[g1]at f1; cases f1;rw[g2]at f2; cases f2;have hzero:(T q).zero=z.cells.toList.map cV:=by rw[f4]
 have hlz:(T q).zero.length=i.size:=by rw[hzero]; simp[g8]
 have hu:=dv hT hk';have hu2:=eL hT hk2;rw[hs0]at h;unfold pQ at h;simp only at h;obtain⟨⟨h0,hn1⟩,hle,hK⟩:=h;rw[aj]at hK;rw[g4]at hle;refine aH (by simp[ho]) fun I ρ w a hst he hkk=>?_
 have hrs:=aI he s;have hrx:=aI he x;rw[hs0]at hrs;rw[hx]at hrx;have hax:=bN hrx;generalize hau:a.eval s=u at hrs
 have core:∀(A:Option Addr) (cap:Nat) (olds:List Value),a.eval s = .slice A 0 cap->cap<0+n.toNat->(∀w', w'.heap=w.heap->(Builtin.firstCells i.size 0 (.slice A 0 cap)).run P w' = .ok olds.toArray w')->AllLen i.size (([]:List (List V)))->VRels I [] (([]:List (List V))).flatten olds->(∀v∈olds,v.oneCell'=true) ->
  ∃u v I' ρ' e' H' w', (((execOp a.eval o).run P w = .ok (.value u) w')/\K v e' H'/\St I' ρ' H' w'/\VRel I' ρ' v u/\ERel I' ρ' e' a.tmps/\Step k I ρ H w I' ρ' H' w'):=by
  intro A cap olds hau hg' h1 hl h2 h3;have hpn:0<n:=by omega
  have hlen2:(([]:List (List V))++List.replicate n.toNat (T q).zero).length=0+n.toNat:=by rw[aD,List.length_replicate]; rfl
  rw[<-List.nil_append (List.replicate n.toNat (T q).zero)]at hle hK;rw[hlen2]at hle hK;have hcapb:Builtin.nextslicecap (0+n.toNat) cap*i.bytes<=281474976710656:=by
   have h1:=gI _ _ hg';have h2:=Nat.mul_le_mul_right i.bytes h1;rw[Nat.add_mul,Nat.mul_assoc]at h2;have h3:768*i.bytes<=768*65536:=Nat.mul_le_mul_left _ g6;omega
  have hnb:n*i.bytes<=281474976710656:=by
   have e3:n=(n.toNat:Int):=by omega
   rw[e3,<-Int.natCast_mul];have:n.toNat*i.bytes<=(0+n.toNat)*i.bytes:=Nat.mul_le_mul_right _ (by omega)
   omega
  have hbig:0+n.toNat<=9223372036854775807:=by
   have:0+n.toNat<=(0+n.toNat)*i.bytes:=Nat.le_mul_of_pos_right _ g5;omega
  have hrun:=qm (P:=P) (ty:=o.type) (k1:=k1) hu hu2 g1 g2 hpn hn1 h1 hg' g5 g7 hcapb hnb hbig;obtain⟨cp,hcp⟩:∃cp,cp=grownCap w (0+n.toNat) cap q:=⟨_,rfl⟩;have hge:0+n.toNat<=cp:=by rw[hcp]; simp only[grownCap,Question.cut]; omega
  rw[<-hcp]at hrun;have hzc:Builtin.zeroCells z.cells n.toNat=ag z.cells (n.toNat*z.cells.size):=rfl;have hget0:∀(j:Nat) (u:Value),(ag z.cells (n.toNat*z.cells.size))[j]? = some u->z.cells[j % z.cells.size]? = some u:=by
   intro j u hu';have hjl:j<n.toNat*z.cells.size:=by
    have:=(Array.getElem?_eq_some_iff.1 hu').1;simpa [ag]using this
   rw[(ce hjl).1]at hu'; exact hu'
  have hflat:VRels I [] (List.replicate n.toNat (T q).zero).flatten (ag z.cells (n.toNat*z.cells.size)).toList:=by
   refine⟨by rw[bt (c9 hlz n.toNat)]; simp[ag,g8],fun j v u hv hu' => ?_⟩
   have hu2' := hget0 j u (by simpa using hu')
   obtain⟨y,y1,y2,y3,y4⟩:=gu (c9 hlz n.toNat) hv;have hy:y=(T q).zero:=(List.mem_replicate.1 (List.mem_of_getElem? y1)).2;subst hy;rw[<-g8]at y2;exact(cA z.cells).2 (j % z.cells.size) v u (by rw[<-hzero]; exact y2) (by simpa using hu2')
  have hone:∀v∈(ag z.cells (n.toNat*z.cells.size)).toList,v.oneCell'=true:=by
   intro u hu';obtain⟨j,hj⟩:=List.getElem?_of_mem hu';exact cN f5 _ u (hget0 j u (by simpa using hj))
  have hl1:olds.length=0*i.size:=by rw[<-h2.1,bt hl]; rfl
  have hl2:(ag z.cells (n.toNat*z.cells.size)).size=n.toNat*i.size:=by simp[ag,g8]
  obtain⟨us,hus⟩:∃us,us=(olds++(Builtin.zeroCells z.cells n.toNat).toList).toArray++Builtin.zeroCells z.cells (cp-(0+n.toNat)):=⟨_,rfl⟩;have hsize:us.size=cp*i.size:=by
   rw[hus,hzc];simp only[List.size_toArray,Array.size_append,aD,Array.length_toList,hl1,hl2];simp only[Builtin.zeroCells,Array.size_map,Array.size_range,g8];rw[<-Nat.add_mul,<-Nat.add_mul];congr 1; omega
  have htake:us.toList.take ((0+n.toNat)*i.size)=olds++(ag z.cells (n.toNat*z.cells.size)).toList:=by
   have e1:(0+n.toNat)*i.size=(olds++(ag z.cells (n.toNat*z.cells.size)).toList).length:=by rw[aD,hl1,Array.length_toList,hl2,Nat.add_mul]
   rw[e1,hus,hzc,Array.toList_append];exact List.take_left
  have hall:AllLen i.size (([]:List (List V))++List.replicate n.toNat (T q).zero):=hl.append (c9 hlz n.toNat);have hrels:VRels I [] (([]:List (List V))++List.replicate n.toNat (T q).zero).flatten (us.toList.take ((([]:List (List V))++List.replicate n.toNat (T q).zero).length*i.size)):=by
   rw[hlen2,htake,List.flatten_append];exact h2.append hflat
  obtain⟨s1,s2⟩:=od hst k hkk (es:=([]:List (List V))++List.replicate n.toNat (T q).zero) (sz:=i.size) (tot:=cp) (us:=us) hall hrels (fun j u hj hu' => by
   rw[hlen2]at hj;have h1' : (us.toList.take ((0+n.toNat)*i.size))[j]? = some u:=by
    rw[List.getElem?_take_of_lt hj]; simpa using hu'
   rw[htake]at h1';rcases List.mem_append.1 (List.mem_of_getElem? h1')with y2 | y2
   . exact h3 u y2
   . exact hone u y2) (by rw[hlen2]; exact hge) hsize q w.drew rfl rfl rfl rfl
  rw[<-hus]at hrun;refine⟨.slice (some ⟨w.heap.size,0,none⟩) (0+n.toNat) cp,_,I,_,e,_,_,?_,hK,s1,?_,he.mono (ILe.refl _) (PLe.append _ _),s2⟩
  . obtain⟨callee,args,argTypes⟩:=c;obtain⟨args⟩:=args;obtain⟨argTypes⟩:=argTypes;simp only at hc ha hat;subst hc; subst ha; subst hat;simp[execOp,ho,resolve,invoke,builtin,hau,hax,hrun];rfl
  . have:=VRel.mr (I:=I) (ρ ++ [⟨w.heap.size,0,i.size,cp⟩]) H.length 0 (0+n.toNat) cp ⟨w.heap.size,0,i.size,cp⟩ (by rw[<-hst.len]; simp) hge (by simp)
    rw[g3];simpa using this
 have fin:(∃u v I' ρ' e' H' w', (((execOp a.eval o).run P w = .ok (.value u) w')/\K v e' H'/\St I' ρ' H' w'/\VRel I' ρ' v u/\ERel I' ρ' e' a.tmps/\Step k I ρ H w I' ρ' H' w')):=by
  cases hrs;exact core _ 0 [] hau (by omega) (fun w' _=>ln _ _ _ w') (fun y hy=>by simp at hy) (by simpa using VRels.nil _ _) (by simp)
 obtain⟨u,v,I', ρ', e', H', w', r1,r2,r3,r4,r5,r6⟩:=fin;exact⟨u,v,I', ρ', e', H', w', .inl r1,r2,r3,r4,r5,r6⟩
theorem Di (hT:bH P T) {k:Nat} {o:Oper} {c:Call} (ho:o.op = .call c) (hc:c.callee = .builtin .append) {K:V->Env->List O->Prop} {s x:Operand} (ha:c.args.toList = [s,x]) {t t2:TypeId} (hat:c.argTypes.toList = [t,t2])
 {q:TypeId} (hk' : (T t).kind = .sl q) (hq:eJ (T q)=true) {k2 k1:IntKind} (hk2:(T t2).kind = .int k2) {n:Int} (hx:ao e x = .int k1 n)
 (h:pQ (T q).size (T q).bytes (T q).zero (ao e s) n H fun v H' => K v e H'):ESem P k o e H K:=by
 obtain⟨i,z,g1,g2,g3,g4,g5,g6,g7,g8,hgd⟩:=dB hT hq;obtain⟨i', z', d,f1,f2,f3,f4,f5⟩:=bS hT hgd;rw[g1]at f1; cases f1;rw[g2]at f2; cases f2;have hzero:(T q).zero=z.cells.toList.map cV:=by rw[f4]
 have hlz:(T q).zero.length=i.size:=by rw[hzero]; simp[g8]
 have hu:=dv hT hk';have hu2:=eL hT hk2;by_cases hnil:ao e s = .nils
 . exact tY hT ho hc ha hat hk' hq hk2 hx hnil h
 unfold pQ at h;split at h<;>try exact h.elim
 rotate_left
 . rename_i hs; exact absurd hs hnil
 rename_i zz id off len hs;cases hb:Nat.beq zz (T q).size<;>simp only[hb]at h
 have e0:=Nat.eq_of_beq_eq_true hb;cases hg:ar H id<;>simp only[hg]at h
 rename_i es;obtain⟨⟨h0,hn1,hin,hfull,hne⟩,hle,hK⟩:=h;rw[aj]at hK;rw[g3]at e0;rw[g4]at hle;refine aH (by simp[ho]) fun I ρ w a hst he hkk=>?_
 have hrs:=aI he s;have hrx:=aI he x;rw[hs]at hrs;rw[hx]at hrx;have hax:=bN hrx;generalize hau:a.eval s=u at hrs;generalize hszq:zz=sz at hrs e0;have hlen:((es.drop off).take len).length=len:=by simp; omega
 have hH:H[id]? = some (.bufc es):=ax hg (by simp)
 have core:∀(A:Option Addr) (cap:Nat) (olds:List Value),a.eval s = .slice A len cap->cap<len+n.toNat->(∀w', w'.heap=w.heap->(Builtin.firstCells i.size len (.slice A len cap)).run P w' = .ok olds.toArray w')->AllLen i.size ((es.drop off).take len)->VRels I [] ((es.drop off).take len).flatten olds->(∀v∈olds,v.oneCell'=true) ->
  ∃u v I' ρ' e' H' w', (((execOp a.eval o).run P w = .ok (.value u) w')/\K v e' H'/\St I' ρ' H' w'/\VRel I' ρ' v u/\ERel I' ρ' e' a.tmps/\Step k I ρ H w I' ρ' H' w'):=by
  intro A cap olds hau hg' h1 hl h2 h3;have hpn:0<n:=by omega
  have hlen2:((es.drop off).take len++List.replicate n.toNat (T q).zero).length=len+n.toNat:=by rw[aD,hlen,List.length_replicate]
  rw[hlen2]at hle hK;have hcapb:Builtin.nextslicecap (len+n.toNat) cap*i.bytes<=281474976710656:=by
   have h1:=gI _ _ hg';have h2:=Nat.mul_le_mul_right i.bytes h1;rw[Nat.add_mul,Nat.mul_assoc]at h2;have h3:768*i.bytes<=768*65536:=Nat.mul_le_mul_left _ g6;omega
  have hnb:n*i.bytes<=281474976710656:=by
   have e3:n=(n.toNat:Int):=by omega
   rw[e3,<-Int.natCast_mul];have:n.toNat*i.bytes<=(len+n.toNat)*i.bytes:=Nat.mul_le_mul_right _ (by omega)
   omega
  have hbig:len+n.toNat<=9223372036854775807:=by
   have:len+n.toNat<=(len+n.toNat)*i.bytes:=Nat.le_mul_of_pos_right _ g5;omega
  have hrun:=qm (P:=P) (ty:=o.type) (k1:=k1) hu hu2 g1 g2 hpn hn1 h1 hg' g5 g7 hcapb hnb hbig;obtain⟨cp,hcp⟩:∃cp,cp=grownCap w (len+n.toNat) cap q:=⟨_,rfl⟩;have hge:len+n.toNat<=cp:=by rw[hcp]; simp only[grownCap,Question.cut]; omega
  rw[<-hcp]at hrun;have hzc:Builtin.zeroCells z.cells n.toNat=ag z.cells (n.toNat*z.cells.size):=rfl;have hget0:∀(j:Nat) (u:Value),(ag z.cells (n.toNat*z.cells.size))[j]? = some u->z.cells[j % z.cells.size]? = some u:=by
   intro j u hu';have hjl:j<n.toNat*z.cells.size:=by
    have:=(Array.getElem?_eq_some_iff.1 hu').1;simpa [ag]using this
   rw[(ce hjl).1]at hu'; exact hu'
  have hflat:VRels I [] (List.replicate n.toNat (T q).zero).flatten (ag z.cells (n.toNat*z.cells.size)).toList:=by
   refine⟨by rw[bt (c9 hlz n.toNat)]; simp[ag,g8],fun j v u hv hu' => ?_⟩
   have hu2' := hget0 j u (by simpa using hu')
   obtain⟨y,y1,y2,y3,y4⟩:=gu (c9 hlz n.toNat) hv;have hy:y=(T q).zero:=(List.mem_replicate.1 (List.mem_of_getElem? y1)).2;subst hy;rw[<-g8]at y2;exact(cA z.cells).2 (j % z.cells.size) v u (by rw[<-hzero]; exact y2) (by simpa using hu2')
  have hone:∀v∈(ag z.cells (n.toNat*z.cells.size)).toList,v.oneCell'=true:=by
   intro u hu';obtain⟨j,hj⟩:=List.getElem?_of_mem hu';exact cN f5 _ u (hget0 j u (by simpa using hj))
  have hl1:olds.length=len*i.size:=by rw[<-h2.1,bt hl,hlen]
  have hl2:(ag z.cells (n.toNat*z.cells.size)).size=n.toNat*i.size:=by simp[ag,g8]
  obtain⟨us,hus⟩:∃us,us=(olds++(Builtin.zeroCells z.cells n.toNat).toList).toArray++Builtin.zeroCells z.cells (cp-(len+n.toNat)):=⟨_,rfl⟩;have hsize:us.size=cp*i.size:=by
   rw[hus,hzc];simp only[List.size_toArray,Array.size_append,aD,Array.length_toList,hl1,hl2];simp only[Builtin.zeroCells,Array.size_map,Array.size_range,g8];rw[<-Nat.add_mul,<-Nat.add_mul];congr 1; omega
  have htake:us.toList.take ((len+n.toNat)*i.size)=olds++(ag z.cells (n.toNat*z.cells.size)).toList:=by
   have e1:(len+n.toNat)*i.size=(olds++(ag z.cells (n.toNat*z.cells.size)).toList).length:=by rw[aD,hl1,Array.length_toList,hl2,Nat.add_mul]
   rw[e1,hus,hzc,Array.toList_append];exact List.take_left
  have hall:AllLen i.size ((es.drop off).take len++List.replicate n.toNat (T q).zero):=hl.append (c9 hlz n.toNat);have hrels:VRels I [] ((es.drop off).take len++List.replicate n.toNat (T q).zero).flatten (us.toList.take (((es.drop off).take len++List.replicate n.toNat (T q).zero).length*i.size)):=by
   rw[hlen2,htake,List.flatten_append];exact h2.append hflat
  obtain⟨s1,s2⟩:=od hst k hkk (es:=(es.drop off).take len++List.replicate n.toNat (T q).zero) (sz:=i.size) (tot:=cp) (us:=us) hall hrels (fun j u hj hu' => by
   rw[hlen2]at hj;have h1' : (us.toList.take ((len+n.toNat)*i.size))[j]? = some u:=by
    rw[List.getElem?_take_of_lt hj]; simpa using hu'
   rw[htake]at h1';rcases List.mem_append.1 (List.mem_of_getElem? h1')with y2 | y2
   . exact h3 u y2
   . exact hone u y2) (by rw[hlen2]; exact hge) hsize q w.drew rfl rfl rfl rfl
  rw[<-hus]at hrun;refine⟨.slice (some ⟨w.heap.size,0,none⟩) (len+n.toNat) cp,_,I,_,e,_,_,?_,hK,s1,?_,he.mono (ILe.refl _) (PLe.append _ _),s2⟩
  . obtain⟨callee,args,argTypes⟩:=c;obtain⟨args⟩:=args;obtain⟨argTypes⟩:=argTypes;simp only at hc ha hat;subst hc; subst ha; subst hat;simp[execOp,ho,resolve,invoke,builtin,hau,hax,hrun];rfl
  . have:=VRel.ms (I:=I) (ρ ++ [⟨w.heap.size,0,i.size,cp⟩]) H.length 0 (len+n.toNat) cp false ⟨w.heap.size,0,i.size,cp⟩ (by rw[<-hst.len]; simp) hge (by simp) (by simp)
    rw[g3];simpa using this
 have fin:(∃u v I' ρ' e' H' w', (((execOp a.eval o).run P w = .ok (.value u) w')/\K v e' H'/\St I' ρ' H' w'/\VRel I' ρ' v u/\ERel I' ρ' e' a.tmps/\Step k I ρ H w I' ρ' H' w')):=by
  cases hrs with
  | ms0=>exact core _ 0 [] hau (by omega) (fun w' _=>ln _ _ _ w') (fun y hy=>by simp at hy) (by simpa using VRels.nil _ _) (by simp)
  | ms _ _ _ _ cap _ p hp m1 m2 m3 m4 =>
   have hcap:=m4 rfl;obtain⟨o1,o2,o3⟩:=hst.obj id p _ hp hH;have get:∀(j:Nat) (y:List V),((es.drop off).take len)[j]? = some y->es[off+j]? = some y:=fun j y hy=>by
    have hlt:=(liZ.1 hy).1;rw[List.getElem?_take_of_lt (by simp at hlt; omega),List.getElem?_drop]at hy
    exact hy
   have cell:∀(j:Nat) (y:List V),((es.drop off).take len)[j]? = some y->y.length=p.sz/\CellsAt I [] w p.b (p.base+(off+j)*p.sz) y:=fun j y hy=>o3 (off+j) y (get j y hy) (hne y (List.mem_of_getElem? hy))
   have hl:AllLen p.sz ((es.drop off).take len):=fun y hy=>by
    obtain⟨j,hj⟩:=List.getElem?_of_mem hy;exact(cell j y hj).1
   obtain⟨olds,h1,h2,h3⟩:=fW (P:=P) (I:=I) (w:=w) (b:=p.b) (base:=p.base+off*p.sz) (n:=len) (cap:=cap) (len:=len) rfl hl hlen.symm (fun j y m v hy hv=>by
    obtain⟨u,c1,c2,c3⟩:=(cell j y hy).2 m v hv;refine⟨u,?_,c2,c3⟩;rw[<-c1]; congr 2; rw[Nat.add_mul]; omega)
   rw[e0]at h1 hl;exact core _ cap olds (by rw[hau,e0]) (by omega) h1 hl h2 h3
 obtain⟨u,v,I', ρ', e', H', w', r1,r2,r3,r4,r5,r6⟩:=fin;exact⟨u,v,I', ρ', e', H', w', .inl r1,r2,r3,r4,r5,r6⟩
open Go Go.RowKit Go.MapKept
theorem nV (hT:bH P T) {kt:TypeId} {x:V} (h:mW (T kt).kind x=true):∃d,P.underlying kt=some d /\ ∀(I:aU) (ρ:List Pl) (u:Value),VRel I ρ x u->IsKey d u:=by
 unfold mW at h;split at h
 . rename_i k k' n hk;exact⟨_,eL hT hk,fun I ρ u hu=>by rw[bN hu]; exact aB (p:=k'=k) h⟩
 . rename_i s hk;exact⟨_,dC hT hk,fun I ρ u hu=>by obtain⟨b,_,rfl⟩:=eM hu; trivial⟩
 . cases h
def Ents (I:aU) (ρ:List Pl) (kvs:List (V × V)) (es:List MapEntry):Prop :=
 es.length=kvs.length /\ ∀(i:Nat) (kv:V × V) (x:MapEntry),kvs[i]? = some kv->es[i]? = some x->VRel I ρ kv.1 x.key/\VRel I ρ kv.2 x.val
theorem Ents.tail {kv:V × V} {kvs:List (V × V)} {x:MapEntry} {es:List MapEntry} (h:Ents I ρ (kv::kvs) (x::es)):Ents I ρ kvs es :=
 ⟨by simpa using h.1,fun i a b ha hb=>h.2 (i+1) a b (by simpa using ha) (by simpa using hb)⟩
theorem vd {d:TypeDesc} {x y:V} {b:Bool} (h:tr x y=some b) {u v:Value} (hu:VRel I ρ x u) (hv:VRel I ρ y v) (hd:IsKey d u):Instr.sameNow d u v=some b/\(b=true->v=u):=by
 unfold tr at h;split at h
 . rename_i k m k' n;have e1:=bN hu;have e2:=bN hv;subst e1; subst e2;by_cases hk:k=k'
   . subst hk;simp at h;subst h;cases d<;>simp_all [IsKey,Instr.sameNow]
     by_cases hmn:m=n<;>simp[hmn]
   . simp[hk]at h
 . rename_i m n;obtain⟨b1,h1,rfl⟩:=eM hu;obtain⟨b2,h2,rfl⟩:=eM hv;simp at h;subst h;have hb:(b1 == b2)=decide (m=n):=by
    by_cases hmn:m=n
    . have:b1=b2:=by
       obtain⟨x1⟩:=b1;obtain⟨x2⟩:=b2;congr 1
       apply Array.ext';simp only at h1 h2;rw[h1,h2,hmn]
      simp[hmn,(bytes_beq b1 b2).2 this]
    . have:¬b1=b2:=fun e=>hmn (by rw[<-h1,<-h2,e])
      have h3:(b1 == b2)=false:=by
       cases h4:b1 == b2 with
       | false=>rfl
       | true=>exact absurd ((bytes_beq b1 b2).1 h4) this
      simp[hmn,h3]
   cases d<;>simp_all [IsKey,Instr.sameNow]
   intro hmn;subst hmn;obtain⟨x1⟩:=b1;obtain⟨x2⟩:=b2;congr 1
   apply Array.ext';simp only at h1 h2;rw[h1,h2]
 . cases h
theorem gp {x:V}:∀(kvs:List (V × V)) (i:Nat) {K:Option (Nat × V)->Prop},gQ x kvs i K ->
 ∃r,K r /\ ∀(I:aU) (ρ:List Pl) (d:TypeDesc) (u:Value) (es:List MapEntry),VRel I ρ x u->IsKey d u->Ents I ρ kvs es ->
  match r with
  | none=>Instr.findNow d u es i=some none
  | some (j,v)=>∃m en,j=i+m/\es[m]? = some en/\en.key=u/\VRel I ρ v en.val/\Instr.findNow d u es i=some (some (j,en.val))
 | [],i,K,h=>⟨none,h,fun I ρ d u es hu hd hes=>by
  cases es with
  | nil=>rfl
  | cons a es=>have:=hes.1; simp at this⟩
 | (y,v)::r,i,K,h=>by
  unfold gQ at h;cases hs:tr x y with
  | none=>simp only[hs]at h
  | some b =>
   simp only[hs]at h;cases b with
   | true =>
    simp only[eU]at h;refine⟨_,h,fun I ρ d u es hu hd hes=>?_⟩
    cases es with
    | nil=>have:=hes.1; simp at this
    | cons a es =>
     obtain⟨g1,g2⟩:=hes.2 0 (y,v) a (by simp) (by simp)
     obtain⟨g3,g4⟩:=vd hs hu g1 hd;exact⟨0,a,rfl,by simp,g4 rfl,g2,by simp[Instr.findNow,g3]⟩
   | false =>
    simp only[eU]at h;obtain⟨q,hK,hq⟩:=gp r (i+1) h;refine⟨q,hK,fun I ρ d u es hu hd hes=>?_⟩
    cases es with
    | nil=>have:=hes.1; simp at this
    | cons a es =>
     obtain⟨g1,g2⟩:=hes.2 0 (y,v) a (by simp) (by simp)
     obtain⟨g3,g4⟩:=vd hs hu g1 hd;have ih:=hq I ρ d u es hu hd hes.tail;have step:Instr.findNow d u (a::es) i=Instr.findNow d u es (i+1):=by simp[Instr.findNow,g3]
     cases q with
     | none=>simp only at ih ⊢; rw[step]; exact ih
     | some p =>
      obtain⟨j,v'⟩:=p;simp only at ih ⊢;obtain⟨m,en,e1,e2,e3,e4,e5⟩:=ih;exact⟨m+1,en,by omega,by simpa using e2,e3,e4,by rw[step]; exact e5⟩
theorem tF {id:Nat} {u:Value} (h:VRel I ρ (.map id) u):∃p,ρ[id]? = some p/\u = .map (some p.b):=by cases h; exact⟨_,‹_›,rfl⟩
theorem Iv {u:Value} (h:VRel I ρ .nilm u):u = .map none:=by cases h; rfl
theorem pA (hT:bH P T) {t kt et:TypeId} (h:(T t).kind = .map kt et):P.underlying t=some (.map kt et):=by
 obtain⟨d,h1,h2⟩:=gg hT h (by simp); rw[h1,E8 h2]
theorem Dj (hT:bH P T) {k:Nat} {o:Oper} {t:TypeId} (ho:o.op = .makeMap t none) {K:V->Env->List O->Prop} (h:jr T t H fun v H' => K v e H'):ESem P k o e H K:=by
 unfold jr at h;split at h<;>try exact h.elim
 rename_i kt et hk';rw[aj]at h;refine aH (by simp[ho]) fun I ρ w a hst he hk=>?_
 have hnew:(w.alloc (.map #[] 0)).heap[w.heap.size]? = some (.map #[] 0):=(heap_alloc w _).1;obtain⟨s1,s2⟩:=hst.push k hk (.map #[] 0) ⟨w.heap.size,0,0,0⟩ (.map [] 0) rfl (w.alloc (.map #[] 0)) rfl rfl rfl rfl ⟨#[],hnew,rfl,fun i kv x hx=>by simp at hx⟩
 refine⟨.map (some w.heap.size),_,I,_,e,_,_,.inl ?_,h,s1,?_,he.mono (ILe.refl _) (PLe.append _ _),s2⟩
 . simp[execOp,ho,Instr.makeMap]
 . exact VRel.map (I:=I) (ρ ++ [⟨w.heap.size,0,0,0⟩]) H.length ⟨w.heap.size,0,0,0⟩ (by rw[<-hst.len]; simp)
theorem ux {t:TypeId} {z:V} (h:xo P t z) (w:World):∃u,(zeroValue t).run P w = .ok u w /\ ∀(I:aU) (ρ:List Pl),VRel I ρ z u:=by
 obtain⟨i,u,h1,h2,rfl⟩:=h;exact⟨u,by simp[zeroValue,typeInfo,run_program,h1,h2],fun I ρ=>u4 u⟩
theorem wO {ok b:Bool} {v:V} {u:Value} (h:VRel I ρ v u):VRel I ρ (Gx ok v b) (if ok then .tuple #[u,.bool b]else u):=by
 cases ok with
 | false=>simpa [Gx]using h
 | true =>
  simp only[Gx,if_true];refine .tup _ _ _ rfl fun i a x ha hx=>?_
  match i,ha,hx with
  | 0,ha,hx=>simp at ha hx; subst ha; subst hx; exact h
  | 1,ha,hx=>simp at ha hx; subst ha; subst hx; exact .bool _ _
  | i+2,ha,hx=>simp at ha
theorem mo (hT:bH P T) {k:Nat} {o:Oper} {t kt et:TypeId} {m x:Operand} {ok:Bool} {id c:Nat} {kvs:List (V × V)} (ho:o.op = .lookup t m x ok) {K:V->Env->List O->Prop}
 (hk' : (T t).kind = .map kt et) (hf:mW (T kt).kind (ao e x)=true) (hm:ao e m = .map id)
 (hv:∀ {I:aU} {ρ:List Pl} {w:World} {p:Pl},St I ρ H w->ρ[id]? = some p -> ∃es:Array MapEntry,w.heap[p.b]? = some (.map es c)/\es.size=kvs.length /\ ∀(i:Nat) (kv:V × V) (en:MapEntry),kvs[i]? = some kv->es[i]? = some en->VRel I ρ kv.1 en.key/\VRel I ρ kv.2 en.val)
 (h:gQ (ao e x) kvs 0 fun r=>match r with | some (_,v)=>gS v fun v=>K (Gx ok v true) e H | none=>∃z,xo P et z/\K (Gx ok z false) e H):ESem P k o e H K:=by
 obtain⟨d,hd,hkey⟩:=nV hT hf;have hu:=pA hT hk';obtain⟨r,hK,hr⟩:=gp kvs 0 h;refine aH (by simp[ho]) fun I ρ w a hst he hk=>?_
 have h1:=aI he m;rw[hm]at h1;obtain⟨p,hp,e1⟩:=tF h1;have h2:=aI he x;have hkx:=hkey _ _ _ h2;obtain⟨es,b1,b2,b3⟩:=hv hst hp;have hs:=hr I ρ d (a.eval x) es.toList h2 hkx ⟨by simpa using b2,fun i kv en hkv hen=>b3 i kv en hkv (by simpa using hen)⟩
 cases r with
 | none =>
  simp only at hs hK;obtain⟨z,hz,hK⟩:=hK;obtain⟨u,hz1,hz2⟩:=ux hz w;refine⟨_,_,I,ρ,e,H,w,.inl ?_,hK,hst,wO (hz2 I ρ),he,Step.refl _ _ _ _ _⟩;simp[execOp,ho,e1,Instr.lookup,af hu,Go.MapKept.run_getObj_map b1,Go.MapKept.run_checkKey hd hkx,Go.MapKept.run_findKey hd hs,hz1]
 | some q =>
  obtain⟨j,v⟩:=q;simp only[cr]at hs hK;obtain⟨m', en,_,g1,g2,g3,g4⟩:=hs;refine⟨_,_,I,ρ,e,H,w,.inl ?_,hK,hst,wO g3,he,Step.refl _ _ _ _ _⟩;simp[execOp,ho,e1,Instr.lookup,af hu,Go.MapKept.run_getObj_map b1,Go.MapKept.run_checkKey hd hkx,Go.MapKept.run_findKey hd g4]
theorem DK {I:aU} {ρ:List Pl} {w:World} {p:Pl} {id c:Nat} {kvs:List (V × V)} (hst:St I ρ H w) (hp:ρ[id]? = some p) (hg:ar H id = .pmap kvs c) :
 ∃es:Array MapEntry,w.heap[p.b]? = some (.map es c)/\es.size=kvs.length /\ ∀(i:Nat) (kv:V × V) (en:MapEntry),kvs[i]? = some kv->es[i]? = some en->VRel I ρ kv.1 en.key/\VRel I ρ kv.2 en.val:=by
 obtain⟨es,b1,b2,_,b3⟩:=hst.obj id p _ hp (ax hg (by simp))
 exact⟨es,b1,b2,fun i kv en hkv hen=>⟨(b3 i kv en hkv hen).2.1.mono (ILe.refl _) (PLe.nil _),(b3 i kv en hkv hen).2.2.mono (ILe.refl _) (PLe.nil _)⟩⟩
theorem EI (hT:bH P T) {k:Nat} {o:Oper} {t:TypeId} {m x:Operand} {ok:Bool} (ho:o.op = .lookup t m x ok) {K:V->Env->List O->Prop}
 (h:lN P T t (ao e m) (ao e x) ok H fun v H' => K v e H'):ESem P k o e H K:=by
 unfold lN at h;split at h<;>try exact h.elim
 rename_i kt et hk';split at h<;>try exact h.elim
 rename_i hf;split at h<;>try exact h.elim
 . rename_i id hm;split at h<;>try exact h.elim
   . rename_i kvs c hg;exact mo hT ho hk' hf hm (fun hst hp=>hst.obj id _ _ hp (ax hg (by simp))) h
   . rename_i kvs c hg;exact mo hT ho hk' hf hm (fun hst hp=>DK hst hp hg) h
 . rename_i hm;obtain⟨z,hz,hK⟩:=h;refine aH (by simp[ho]) fun I ρ w a hst he hk=>?_
   have hu:=pA hT hk';obtain⟨d,hd,hkey⟩:=nV hT hf;have h1:=aI he m;rw[hm]at h1;have e1:=Iv h1;have h2:=aI he x;have hkx:=hkey _ _ _ h2;obtain⟨u,hz1,hz2⟩:=ux hz w;refine⟨_,_,I,ρ,e,H,w,.inl ?_,hK,hst,wO (hz2 I ρ),he,Step.refl _ _ _ _ _⟩;have hs:Instr.findNow d (a.eval x) [] 0=some none:=rfl;simp[execOp,ho,e1,Instr.lookup,af hu,Go.MapKept.run_checkKey hd hkx,Go.MapKept.run_findKey hd hs,hz1]
omit [Globs] in
theorem FD {I:aU} {kvs:List (V × V)} {es:Array MapEntry} (hl:es.size=kvs.length)
 (b3:∀(i:Nat) (kv:V × V) (en:MapEntry),kvs[i]? = some kv->es[i]? = some en->(∃s,kv.1 = .str s)/\VRel I [] kv.1 en.key/\VRel I [] kv.2 en.val):∀x∈es.toList,∃b,x.key = .string b:=fun x hx=>by
 obtain⟨i,hi⟩:=List.mem_iff_getElem?.1 hx;have hi' : es[i]? = some x:=by simpa using hi
 have hlt:i<kvs.length:=by rw[<-hl]; exact(Array.getElem?_eq_some_iff.1 hi').1
 obtain⟨⟨s,hs⟩,h2,_⟩:=b3 i kvs[i] x (aS hlt) hi';rw[hs]at h2;generalize x.key=u at h2;cases h2;exact⟨_,rfl⟩
theorem Dz {d:TypeDesc} {b:ByteArray} (h:IsKey d (.string b)):∀b', IsKey d (.string b'):=by
 cases d<;>simp_all [IsKey]
theorem Dk (hT:bH P T) {k:Nat} {o:Oper} {t kt et:TypeId} {m x y:Operand} {id c:Nat} {kvs:List (V × V)} {s:List UInt8} (ho:o.op = .mapUpdate t m x y\/o.op = .insert t m x y) {K:V->Env->List O->Prop}
 (hk' : (T t).kind = .map kt et) (hf:mW (T kt).kind (ao e x)=true) (hm:ao e m = .map id) (hg:ar H id = .pmap kvs c) (hx:ao e x = .str s) (hpx:aY (am e y)=true)
 (h:gQ (.str s) kvs 0 fun r=>match r with
  | some (i,_)=>aV (bX H id (.pmap (kvs.set i (.str s,am e y)) c)) fun H' => K (.tup []) e H'
  | none=>aV (bX H id (.pmap (kvs ++ [(.str s,am e y)]) (c+1))) fun H' => K (.tup []) e H'):ESem P k o e H K:=by
 obtain⟨d,hd,hkey⟩:=nV hT hf;have hu:=pA hT hk';rw[<-hx]at h;obtain⟨r,hK,hr⟩:=gp kvs 0 h;refine aH (by rcases ho with ho | ho<;>simp[ho]) fun I ρ w a hst he hk=>?_
 have h1:=aI he m;rw[hm]at h1;obtain⟨p,hp,e1⟩:=tF h1;have h2:=aI he x;have h3:=ik hpx (aE he y);have hkx:=hkey _ _ _ h2;have hH:=ax hg (by simp)
 obtain⟨es,b1,b2,bs,b3⟩:=hst.obj id p _ hp hH;have hs:=hr I ρ d (a.eval x) es.toList h2 hkx ⟨by simpa using b2,fun i kv en hkv hen=>by
  have:=b3 i kv en hkv (by simpa using hen)
  exact⟨this.2.1.mono (ILe.refl _) (PLe.nil _),this.2.2.mono (ILe.refl _) (PLe.nil _)⟩⟩
 rw[hx]at h2;have h2n:VRel I [] (.str s) (a.eval x):=by
  generalize a.eval x=u at h2;cases h2; exact .str _ _
 have hkstr:∃b,a.eval x = .string b:=by
  generalize a.eval x=u at h2;cases h2; exact⟨_,rfl⟩
 obtain⟨kb,hkb⟩:=hkstr;have hks:∀z∈es.toList,IsKey d z.key:=fun z hz=>by
  obtain⟨b,hb⟩:=FD b2 b3 z hz;rw[hb]; rw[hkb]at hkx; exact Dz hkx b
 have turn:∀(es' : Array MapEntry) (c' : Nat) (kvs' : List (V × V)),es'.size=kvs'.length->Stamped es' c'->(∀(i:Nat) (kv:V × V) (en:MapEntry),kvs'[i]? = some kv->es'[i]? = some en->(∃s,kv.1 = .str s)/\VRel I [] kv.1 en.key/\VRel I [] kv.2 en.val) ->
  K (.tup []) e (bX H id (.pmap kvs' c'))->(∀mm,mm=Instr.mapUpdate t (.map (some p.b)) (a.eval x) (a.eval y)->mm.run P w = .ok () { w with heap:=w.heap.setIfInBounds p.b (.map es' c') }) ->
  ∃u v I' ρ' e' H' w', (((execOp a.eval o).run P w = .ok (.value u) w')\/((execOp a.eval o).run P w = .ok .skip w'/\u=undef))/\K v e' H'/\St I' ρ' H' w'/\VRel I' ρ' v u/\ERel I' ρ' e' a.tmps/\Step k I ρ H w I' ρ' H' w' := by
  intro es' c' kvs' k1 ks k2 k3 k4;rw[bO]at k3;obtain⟨s1,s2⟩:=l6 hst k hk hp hH (o' := .pmap kvs' c') trivial trivial (w' := { w with heap:=w.heap.setIfInBounds p.b (.map es' c') }) (fun b hb=>(heap_set b1).2 b hb) rfl rfl rfl (by simp) ⟨es', (heap_set b1).1,k1,ks,k2⟩
  refine⟨undef,.tup [],I,ρ,e,_,_,.inr ⟨?_,rfl⟩,k3,s1,.tup _ _ _ rfl (fun i a u hx=>by simp at hx),he,s2⟩
  have:=k4 _ rfl;rcases ho with ho | ho<;>simp[execOp,ho,e1,this]
 cases r with
 | none =>
  simp only[aj]at hs hK;have hne:∀z∈es.toList,z.key≠a.eval x:=by
   rcases findNow_spec hkx es.toList 0 hks with⟨_,q⟩ | ⟨j,en,q,_⟩
   . exact q
   . rw[hs]at q; simp at q
  refine turn (es.push { key:=a.eval x,val:=a.eval y,born:=c }) _ _ (by simp[b2]) (stamped_push bs hne) (fun i kv en hkv hen=>?_) hK (fun mm hmm=>?_)
  rotate_left
  . subst hmm;simp[Instr.mapUpdate,af hu,Go.MapKept.run_getObj_map b1,Go.MapKept.run_checkKey hd hkx,Go.MapKept.run_findKey hd hs,Go.MapKept.run_setObj_map _ b1]
  . rcases Nat.lt_or_ge i es.size with hi | hi
    . rw[List.getElem?_append_left (by omega)]at hkv
      rw[Array.getElem?_push_lt hi]at hen;exact b3 i kv en hkv (by rw[Array.getElem?_eq_getElem hi]; exact hen)
    . rw[List.getElem?_append_right (by omega)]at hkv
      have hi0:i-kvs.length=0:=by
       have:=(liZ.1 hkv).1;simp at this; omega
      have hi1:i=es.size:=by omega
      subst hi1;rw[hi0]at hkv;simp at hkv hen;subst hkv; subst hen;exact⟨⟨s,hx⟩,by rw[hx]; exact h2n,h3⟩
 | some q =>
  obtain⟨j,v⟩:=q;simp only[aj]at hs hK;obtain⟨m', en0,e0,g1,g2,g3,g4⟩:=hs;have hj:j=m' := by omega
  subst hj;have hen0:es[j]? = some en0:=by simpa using g1
  have hlt:j<es.size:=(Array.getElem?_eq_some_iff.1 hen0).1;refine turn (es.modify j fun(en:MapEntry)=>{ en with key:=a.eval x,val:=a.eval y }) _ _ (by simp[b2]) (stamped_modify bs _ _ (fun _ _=>rfl) (fun en _ he' => by rw[hen0]at he'; cases he'; exact g2.symm)) (fun i kv en hkv hen=>?_) hK (fun mm hmm=>?_)
  rotate_left
  . subst hmm;have hst:(Instr.keyThatStays (((es[j]?).map (·.key)).getD (a.eval x)) (a.eval x)).run P w = .ok (a.eval x) w:=by
     rw[hen0]; simp only[Option.map_some,Option.getD_some,g2];exact run_keyThatStays hkx
    simp[Instr.mapUpdate,af hu,Go.MapKept.run_getObj_map b1,Go.MapKept.run_checkKey hd hkx,Go.MapKept.run_findKey hd g4,hst,Go.MapKept.run_setObj_map _ b1]
  . rw[Array.getElem?_modify]at hen;by_cases hij:j=i
    . subst hij;rw[if_pos rfl,hen0]at hen;simp at hen;subst hen;rw[List.getElem?_set_self (by omega)]at hkv
      cases hkv;exact⟨⟨s,hx⟩,by rw[hx]; exact h2n,h3⟩
    . rw[if_neg hij]at hen;rw[List.getElem?_set_ne hij]at hkv;exact b3 i kv en hkv hen
theorem pY (hT:bH P T) {k:Nat} {o:Oper} {t:TypeId} {m x y:Operand} (ho:o.op = .mapUpdate t m x y\/o.op = .insert t m x y) {K:V->Env->List O->Prop}
 (h:j8 T t (ao e m) (ao e x) (am e y) H fun v H' => K v e H'):ESem P k o e H K:=by
 unfold j8 at h;split at h<;>try exact h.elim
 rename_i kt et hk';split at h<;>try exact h.elim
 rename_i hf;obtain⟨d,hd,hkey⟩:=nV hT hf;have hu:=pA hT hk';split at h<;>try exact h.elim
 rename_i id hm;split at h<;>try exact h.elim
 rotate_left
 . rename_i kvs c hg;split at h<;>try exact h.elim
   rename_i s hx hpx;exact Dk hT ho hk' hf hm hg hx hpx h
 rename_i kvs c hg;obtain⟨r,hK,hr⟩:=gp kvs 0 h;refine aH (by rcases ho with ho | ho<;>simp[ho]) fun I ρ w a hst he hk=>?_
 have h1:=aI he m;rw[hm]at h1;obtain⟨p,hp,e1⟩:=tF h1;have h2:=aI he x;have h3:=aE he y;have hkx:=hkey _ _ _ h2;have hH:=ax hg (by simp)
 obtain⟨es,b1,b2,b3⟩:=hst.obj id p _ hp hH;have hs:=hr I ρ d (a.eval x) es.toList h2 hkx ⟨by simpa using b2,fun i kv en hkv hen=>b3 i kv en hkv (by simpa using hen)⟩
 have turn:∀(es' : Array MapEntry) (c' : Nat) (kvs' : List (V × V)),es'.size=kvs'.length->(∀(i:Nat) (kv:V × V) (en:MapEntry),kvs'[i]? = some kv->es'[i]? = some en->VRel I ρ kv.1 en.key/\VRel I ρ kv.2 en.val) ->
  K (.tup []) e (bX H id (.map kvs' c'))->(∀mm,mm=Instr.mapUpdate t (.map (some p.b)) (a.eval x) (a.eval y)->mm.run P w = .ok () { w with heap:=w.heap.setIfInBounds p.b (.map es' c') }) ->
  ∃u v I' ρ' e' H' w', (((execOp a.eval o).run P w = .ok (.value u) w')\/((execOp a.eval o).run P w = .ok .skip w'/\u=undef))/\K v e' H'/\St I' ρ' H' w'/\VRel I' ρ' v u/\ERel I' ρ' e' a.tmps/\Step k I ρ H w I' ρ' H' w' := by
  intro es' c' kvs' k1 k2 k3 k4;rw[bO]at k3;obtain⟨s1,s2⟩:=l6 hst k hk hp hH (o' := .map kvs' c') trivial trivial (w' := { w with heap:=w.heap.setIfInBounds p.b (.map es' c') }) (fun b hb=>(heap_set b1).2 b hb) rfl rfl rfl (by simp) ⟨es', (heap_set b1).1,k1,k2⟩
  refine⟨undef,.tup [],I,ρ,e,_,_,.inr ⟨?_,rfl⟩,k3,s1,.tup _ _ _ rfl (fun i a u hx=>by simp at hx),he,s2⟩
  have:=k4 _ rfl;rcases ho with ho | ho<;>simp[execOp,ho,e1,this]
 cases r with
 | none =>
  simp only[aj]at hs hK;refine turn (es.push { key:=a.eval x,val:=a.eval y,born:=c }) _ _ (by simp[b2]) (fun i kv en hkv hen=>?_) hK (fun mm hmm=>?_)
  rotate_left
  . subst hmm;simp[Instr.mapUpdate,af hu,Go.MapKept.run_getObj_map b1,Go.MapKept.run_checkKey hd hkx,Go.MapKept.run_findKey hd hs,Go.MapKept.run_setObj_map _ b1]
  . rcases Nat.lt_or_ge i es.size with hi | hi
    . rw[List.getElem?_append_left (by omega)]at hkv
      rw[Array.getElem?_push_lt hi]at hen;exact b3 i kv en hkv (by rw[Array.getElem?_eq_getElem hi]; exact hen)
    . rw[List.getElem?_append_right (by omega)]at hkv
      have hi0:i-kvs.length=0:=by
       have:=(liZ.1 hkv).1;simp at this; omega
      have hi1:i=es.size:=by omega
      subst hi1;rw[hi0]at hkv;simp at hkv hen;subst hkv; subst hen;exact⟨h2,h3⟩
 | some q =>
  obtain⟨j,v⟩:=q;simp only[aj]at hs hK;obtain⟨m', en0,e0,g1,g2,g3,g4⟩:=hs;have hj:j=m' := by omega
  subst hj;have hen0:es[j]? = some en0:=by simpa using g1
  have hlt:j<es.size:=(Array.getElem?_eq_some_iff.1 hen0).1;refine turn (es.modify j fun(en:MapEntry)=>{ en with key:=a.eval x,val:=a.eval y }) _ _ (by simp[b2]) (fun i kv en hkv hen=>?_) hK (fun mm hmm=>?_)
  rotate_left
  . subst hmm;have hst:(Instr.keyThatStays (((es[j]?).map (·.key)).getD (a.eval x)) (a.eval x)).run P w = .ok (a.eval x) w:=by
     rw[hen0]; simp only[Option.map_some,Option.getD_some,g2];exact run_keyThatStays hkx
    simp[Instr.mapUpdate,af hu,Go.MapKept.run_getObj_map b1,Go.MapKept.run_checkKey hd hkx,Go.MapKept.run_findKey hd g4,hst,Go.MapKept.run_setObj_map _ b1]
  . rw[Array.getElem?_modify]at hen;by_cases hij:j=i
    . subst hij;rw[if_pos rfl,hen0]at hen;simp at hen;subst hen;rw[List.getElem?_set_self (by omega)]at hkv
      cases hkv;exact⟨h2,h3⟩
    . rw[if_neg hij]at hen;rw[List.getElem?_set_ne hij]at hkv;exact b3 i kv en hkv hen
theorem EG (hT:bH P T) {k:Nat} {o:Oper} {t t2:TypeId} {m x:Operand} {c:Call} (ho:o.op = .call c) (hc:c.callee = .builtin .delete) (ha:c.args.toList = [m,x]) (ht:c.argTypes.toList = [t,t2]) {K:V->Env->List O->Prop}
 (h:lM T t (ao e m) (ao e x) H fun v H' => K v e H'):ESem P k o e H K:=by
 unfold lM at h;split at h<;>try exact h.elim
 rename_i kt et hk';split at h<;>try exact h.elim
 rename_i hf;split at h<;>try exact h.elim
 rename_i id hm;split at h<;>try exact h.elim
 rename_i kvs cl hg;obtain⟨d,hd,hkey⟩:=nV hT hf;have hu:=pA hT hk';obtain⟨r,hK,hr⟩:=gp kvs 0 h;refine aH (by simp[ho]) fun I ρ w a hst he hk=>?_
 have h1:=aI he m;rw[hm]at h1;obtain⟨p,hp,e1⟩:=tF h1;have h2:=aI he x;have hkx:=hkey _ _ _ h2;have hH:=ax hg (by simp)
 obtain⟨es,b1,b2,bs,b3⟩:=hst.obj id p _ hp hH;have hs:=hr I ρ d (a.eval x) es.toList h2 hkx ⟨by simpa using b2,fun i kv en hkv hen=>by
  have:=b3 i kv en hkv (by simpa using hen)
  exact⟨this.2.1.mono (ILe.refl _) (PLe.nil _),this.2.2.mono (ILe.refl _) (PLe.nil _)⟩⟩
 have ha' : c.args = #[m,x]:=Array.toList_inj.1 (by simpa using ha)
 have ht' : c.argTypes = #[t,t2]:=Array.toList_inj.1 (by simpa using ht)
 have turn:∀(es' : Array MapEntry) (kvs' : List (V × V)),es'.size=kvs'.length->Stamped es' cl->(∀(i:Nat) (kv:V × V) (en:MapEntry),kvs'[i]? = some kv->es'[i]? = some en->(∃s,kv.1 = .str s)/\VRel I [] kv.1 en.key/\VRel I [] kv.2 en.val) ->
  K (.tup []) e (bX H id (.pmap kvs' cl))->((Builtin.delete_ #[t,t2] o.type #[.map (some p.b),a.eval x]).run P w = .ok (.tuple #[]) { w with heap:=w.heap.setIfInBounds p.b (.map es' cl) }) ->
  ∃u v I' ρ' e' H' w', (((execOp a.eval o).run P w = .ok (.value u) w')\/((execOp a.eval o).run P w = .ok .skip w'/\u=undef))/\K v e' H'/\St I' ρ' H' w'/\VRel I' ρ' v u/\ERel I' ρ' e' a.tmps/\Step k I ρ H w I' ρ' H' w' := by
  intro es' kvs' k1 ks k2 k3 k4;rw[bO]at k3;obtain⟨s1,s2⟩:=l6 hst k hk hp hH (o' := .pmap kvs' cl) trivial trivial (w' := { w with heap:=w.heap.setIfInBounds p.b (.map es' cl) }) (fun b hb=>(heap_set b1).2 b hb) rfl rfl rfl (by simp) ⟨es', (heap_set b1).1,k1,ks,k2⟩
  refine⟨.tuple #[],.tup [],I,ρ,e,_,_,.inl ?_,k3,s1,.tup _ _ _ rfl (fun i a u hx=>by simp at hx),he,s2⟩
  simp[execOp,ho,hc,ha', ht', e1,resolve,invoke,builtin,k4]
 cases r with
 | none =>
  simp only at hs hK;refine turn es kvs b2 bs b3 ?_ ?_
  . rw[bO,show H.set id (.pmap kvs cl)=H from List.ext_getElem? fun z=>by
     rw[List.getElem?_set];split
     . rename_i hz; subst hz; rw[hH,if_pos (liZ.1 hH).1]
     . rfl]
    exact hK
  . simp[Builtin.delete_,af hu,Go.MapKept.run_getObj_map b1,Go.MapKept.run_checkKey hd hkx,Go.MapKept.run_findKey hd hs,Go.MapKept.run_setObj_map _ b1]
 | some q =>
  obtain⟨j,v⟩:=q;simp only[aj]at hs hK;obtain⟨m', en0,e0,g1,g2,g3,g4⟩:=hs;have hj:j=m' := by omega
  subst hj;have hen0:es[j]? = some en0:=by simpa using g1
  have hlt:j<es.size:=(Array.getElem?_eq_some_iff.1 hen0).1;have hel:(es.eraseIdxIfInBounds j).toList=es.toList.eraseIdx j:=by simp[Array.eraseIdxIfInBounds,hlt]
  refine turn (es.eraseIdxIfInBounds j) _ (by rw[List.length_eraseIdx_of_lt (by omega),<-b2,<-Array.length_toList,hel,List.length_eraseIdx_of_lt (by simpa using hlt),Array.length_toList]) (stamped_erase bs _) (fun i kv en hkv hen=>?_) hK ?_
  . have hen' : (es.toList.eraseIdx j)[i]? = some en:=by
     rw[<-hel,Array.getElem?_toList]; exact hen
    rw[List.getElem?_eraseIdx]at hkv hen';split at hkv
    . rename_i hi; rw[if_pos hi]at hen'; exact b3 i kv en hkv (by simpa using hen')
    . rename_i hi; rw[if_neg hi]at hen'; exact b3 (i+1) kv en hkv (by simpa using hen')
  . simp[Builtin.delete_,af hu,Go.MapKept.run_getObj_map b1,Go.MapKept.run_checkKey hd hkx,Go.MapKept.run_findKey hd g4,Go.MapKept.run_setObj_map _ b1]
open Go Go.RowKit Go.MapKept
theorem J3 (hst:St I ρ H w) (k:Nat) {id:Nat} {p:Pl} {o0 o1:O} {B:List Nat} (hp:ρ[id]? = some p) (ho:H[id]? = some o0) (hw0:∀b,o0.owns p b ↔ b∈B) (hw1:∀b,o1.owns p b ↔ b∈B) {w' : World} (hoth:∀b,b ∉ B->w'.heap[b]? = w.heap[b]?)
 (m1:w'.os=w.os) (m2:w'.tape=w.tape) (m3:w'.output=w.output) (m4:w'.heap.size=w.heap.size) (horel:ORel I ρ w' p o1) :
 St I ρ (H.set id o1) w'/\Step k I ρ H w I ρ (H.set id o1) w' := by
 have hlt:=(liZ.1 ho).1;have get:∀(i:Nat) (x:O),(H.set id o1)[i]? = some x->(i=id/\x=o1)\/(i≠id/\H[i]? = some x):=fun i x hx=>by
  by_cases hi:i=id
  . subst hi; rw[List.getElem?_set_self hlt]at hx; exact .inl ⟨rfl,(Option.some.inj hx).symm⟩
  . rw[List.getElem?_set_ne (Ne.symm hi)]at hx; exact .inr ⟨hi,hx⟩
 have own:∀(i:Nat) (q:Pl) (x:O) (b:Nat),ρ[i]? = some q->(H.set id o1)[i]? = some x->x.owns q b -> ∃y,H[i]? = some y/\y.owns q b:=fun i q x b hq hx hb=>by
  rcases get i x hx with⟨rfl,rfl⟩ | ⟨_,h⟩
  . exact⟨_,ho,by rw[hp]at hq; cases hq; exact(hw0 b).2 ((hw1 b).1 hb)⟩
  . exact⟨_,h,hb⟩
 have owned:∀b,az ρ (H.set id o1) b->az ρ H b:=fun b ⟨i,q,x,hq,hx,hb⟩=>by
  obtain⟨y,hy,hyb⟩:=own i q x b hq hx hb;exact⟨i,q,y,hq,hy,hyb⟩
 have hB:∀b∈B,az ρ H b:=fun b hb=>⟨id,p,_,hp,ho,(hw0 b).2 hb⟩
 refine⟨⟨by rw[List.length_set]; exact hst.len,fun i q x hq hx=>?_,fun i j q r x y b hq hx hb hr hy hc=>?_,⟨fun b o v hv=>?_,hst.imm.glob⟩,fun b hb o=>hst.sep b (owned b hb) o⟩,⟨ILe.refl _,fun _ _=>rfl,m1,m2,m3,by rw[m4]; exact Nat.le_refl _,fun b hb hn=>hoth b fun hbB=>hn (hB b hbB),fun b hb=>.inl (owned b hb),fun b o v hv=>.inl hv⟩⟩
 . rcases get i x hx with⟨rfl,rfl⟩ | ⟨hi,h⟩
   . rw[hp]at hq; cases hq; exact horel
   . refine(hst.obj i q x hq h).keep (fun b hb=>hoth b fun hbB=>hi ?_) (ILe.refl _) (PLe.refl _)
     exact hst.inj i id q p x _ b hq h hb hp ho ((hw0 b).2 hbB)
 . obtain⟨x', hx', hb'⟩:=own i q x b hq hx hb;obtain⟨y', hy', hc'⟩:=own j r y b hr hy hc;exact hst.inj i j q r x' y' b hq hx' hb' hr hy' hc'
 . have h1:=hst.imm b o v hv;have hnB:b ∉ B:=fun hbB=>by have:=hst.sep b (hB b hbB) o; rw[hv]at this; cases this
   unfold World.cell? at h1 ⊢;rw[hoth b hnB]; exact h1
theorem w8 {w:World} {r:Nat} {o:Obj} (h:r<w.heap.size):(Go.ChangeMaps.setBlock w r o).heap[r]? = some o:=by simp[Go.ChangeMaps.setBlock,h]
theorem qp {w:World} {r b:Nat} {o:Obj} (h:b≠r):(Go.ChangeMaps.setBlock w r o).heap[b]? = w.heap[b]?:=by simp[Go.ChangeMaps.setBlock,Array.getElem?_setIfInBounds_ne (Ne.symm h)]
theorem Ln {ρ:List Pl} {b:Bool} {x y:V} {u v:Value} (hx:VRel I [] x u) (hy:VRel I [] y v):VRel I ρ (.tup [.bool b,x,y]) (.tuple #[.bool b,u,v]):=.tup _ _ _ rfl fun i a z ha hz=>by
 match i,ha,hz with
 | 0,ha,hz=>simp at ha hz; subst ha; subst hz; exact .bool _ _
 | 1,ha,hz=>simp at ha hz; subst ha; subst hz; exact hx.mono (ILe.refl _) (PLe.nil _)
 | 2,ha,hz=>simp at ha hz; subst ha; subst hz; exact hy.mono (ILe.refl _) (PLe.nil _)
theorem rT:∀(l:List MapEntry) (j:Nat) (e:MapEntry),(l.map (·.born)).Nodup->l[j]? = some e->l.filter (fun x=>!(x.born == e.born))=l.eraseIdx j
 | [],_,_,_,h=>by simp at h
 | a::l,0,e,hn,h=>by
  simp at h; subst h;rw[List.map_cons,List.nodup_cons]at hn;simp only[List.filter_cons,beq_self_eq_true,Bool.not_true,Bool.false_eq_true,if_false,List.eraseIdx_cons_zero];exact List.filter_eq_self.2 fun x hx=>by
   have:x.born≠a.born:=fun he=>hn.1 (by rw[<-he]; exact List.mem_map_of_mem hx)
   simpa using this
 | a::l,j+1,e,hn,h=>by
  rw[List.map_cons,List.nodup_cons]at hn;rw[List.getElem?_cons_succ]at h;have:a.born≠e.born:=fun he=>hn.1 (by rw[he]; exact List.mem_map_of_mem (List.mem_of_getElem? h))
  rw[List.filter_cons,if_pos (by simpa using this),List.eraseIdx_cons_succ,rT l j e hn.2 h]
theorem G8 {k:Nat} {o:Oper} {x:Operand} (ho:o.op = .next x false) {K:V->Env->List O->Prop} {id:Nat} {B:List Nat} {left:List (V × V)} {cur:Option (V × V)} (hx:am e x = .ptr id 0) (hob:ar H id = .miter B left cur)
 (h0:left = []->K (.tup [.bool false]) e H)
 (h1:∀j kv,left[j]? = some kv->aV (bX H id (.miter B (left.eraseIdx j) (some kv))) fun H' => K (.tup [.bool true,kv.1,kv.2]) e H'):ESem P k o e H K:=by
 refine aH (by simp[ho]) fun I ρ w a hst he hk=>?_
 have hrx:=aE he x;rw[hx]at hrx;obtain⟨p,hp,hu⟩:=iV hrx;have hH:=ax hob (by simp)
 obtain⟨hb0,⟨mb,since,seen,es,b1,b2,⟨b3,b4,b5⟩,b6,b7,b8,b9⟩,hbd⟩:=hst.obj id p _ hp hH;rw[hb0,Nat.add_zero]at hu;have hlo:(leftOf es seen).toList=es.toList.filter fun e=>!seen.contains e.born:=by unfold leftOf; simp
 rcases run_next_at (P:=P) w o.type p.b mb since since seen es since b1 b2 b6.1 (Nat.le_refl _)with⟨q1,q2⟩ | ⟨en,q1,w1,q2,q3⟩
 . have hl0:left = []:=List.eq_nil_of_length_eq_zero (by rw[<-b7,<-hlo,Array.length_toList]; exact q1)
   refine⟨.tuple #[.bool false],_,I,ρ,e,H,w,.inl ?_,h0 hl0,hst,.tup _ _ _ rfl (fun i a u ha hu=>?_),he,Step.refl _ _ _ _ _⟩
   . simp[execOp,ho,hu,q2]
   . cases i with
     | zero=>simp at ha hu; subst ha; subst hu; exact .bool _ _
     | succ i=>simp at ha
 . rw[hlo]at q1;obtain⟨j,hj⟩:=List.mem_iff_getElem?.1 q1;have hjl:j<left.length:=by rw[<-b7]; exact(liZ.1 hj).1
   have hkv:left[j]? = some left[j]:=aS hjl;generalize left[j]=kv at hkv;have hK:=h1 j kv hkv;rw[aj,bO]at hK;obtain⟨v1,v2⟩:=b8 j kv en hkv hj;have hw1:w1.heap=w.heap:=by rcases q2 with rfl | rfl<;>rfl
   have hsz:p.b<w1.heap.size:=by rw[hw1]; exact hbd _ b4
   have hes:en∈es.toList:=(List.mem_filter.1 q1).1;have hnod:((es.toList.filter fun e=>!seen.contains e.born).map (·.born)).Nodup:=b6.2.1.sublist (List.filter_sublist.map _)
   have hfil:(es.toList.filter fun e=>!(seen.push en.born).contains e.born)=(es.toList.filter fun e=>!seen.contains e.born).eraseIdx j:=by
    rw[<-rT _ j en hnod hj,List.filter_filter];refine List.filter_congr fun y _=>?_
    rw[Array.contains_push];cases seen.contains y.born<;>simp
   have horel:ORel I ρ (Go.ChangeMaps.setBlock w1 p.b (.mapIter (some mb) since (seen.push en.born) since)) p (.miter B (left.eraseIdx j) (some kv)):=by
    refine⟨hb0,⟨mb,since,seen.push en.born,es,w8 hsz,by rw[qp (Ne.symm b3),hw1]; exact b2,⟨b3,b4,b5⟩,b6,?_,fun i kv' en' h2 h3=>?_,fun kv' hkv' => ?_⟩,fun b hb=>?_⟩
    . rw[hfil,List.length_eraseIdx,List.length_eraseIdx,b7]
    . rw[hfil]at h3;rw[List.getElem?_eraseIdx]at h2 h3;split at h2
      . rename_i hij; rw[if_pos hij]at h3; exact b8 i kv' en' h2 h3
      . rename_i hij; rw[if_neg hij]at h3; exact b8 (i+1) kv' en' h2 h3
    . cases hkv';exact⟨en,seen,hes,rfl,v1,v2⟩
    . show b<(w1.heap.setIfInBounds _ _).size
      rw[Array.size_setIfInBounds,hw1]; exact hbd b hb
   obtain⟨s1,s2⟩:=J3 hst k hp hH (fun _=>Iff.rfl) (fun _=>Iff.rfl) (w' := Go.ChangeMaps.setBlock w1 p.b (.mapIter (some mb) since (seen.push en.born) since)) (fun b hb=>by
    have hne:b≠p.b:=fun e=>hb (by rw[e]; exact b4)
    rw[qp hne,hw1]) (by rcases q2 with rfl | rfl<;>rfl) (by rcases q2 with rfl | rfl<;>rfl) (by rcases q2 with rfl | rfl<;>rfl) (by
    show(w1.heap.setIfInBounds _ _).size=_
    rw[Array.size_setIfInBounds,hw1]) horel
   refine⟨.tuple #[.bool true,en.key,en.val],_,I,ρ,e,_,_,.inl ?_,hK,s1,Ln v1 v2,he,s2⟩;simp[execOp,ho,hu,q3]
theorem EJ (hT:bH P T) {k:Nat} {o:Oper} {t kt et:TypeId} {x:Operand} (ho:o.op = .range t x) {K:V->Env->List O->Prop} (hk' : (T t).kind = .map kt et) {id c:Nat} {kvs:List (V × V)} (hx:am e x = .map id) (hob:ar H id = .pmap kvs c)
 (h:∀B,aV (bX H id .dead ++ [.miter B kvs none]) fun H' => K (.ptr H.length 0) e H'):ESem P k o e H K:=by
 refine aH (by simp[ho]) fun I ρ w a hst he hk=>?_
 have hrx:=aE he x;rw[hx]at hrx;obtain⟨p,hp,hu⟩:=tF hrx;have hH:=ax hob (by simp)
 obtain⟨es,b1,b2,b3,b4⟩:=hst.obj id p _ hp hH;have hK:=h [w.heap.size,p.b];rw[aj,bO]at hK;have hpb:p.b<w.heap.size:=(Array.getElem?_eq_some_iff.1 b1).1;have hlt:=(liZ.1 hH).1;have hown:az ρ H p.b:=⟨id,p,_,hp,hH,⟨trivial,rfl⟩⟩
 let w' : World:={ w with heap:=w.heap.push (.mapIter (some p.b) c #[] c) }
 have hold:∀b,b<w.heap.size->w'.heap[b]? = w.heap[b]?:=fun b hb=>by simp[w', Array.getElem?_push_lt hb,hb]
 have hnew:w'.heap[w.heap.size]? = some (.mapIter (some p.b) c #[] c):=by simp[w']
 have get:∀(i:Nat) (q:Pl) (y:O),(ρ ++ [⟨w.heap.size,0,0,0⟩])[i]? = some q->(H.set id .dead ++ [O.miter [w.heap.size,p.b] kvs none])[i]? = some y ->
  (i=H.length/\q=⟨w.heap.size,0,0,0⟩/\y = .miter [w.heap.size,p.b] kvs none)\/(y = .dead)\/(i≠id/\ρ[i]? = some q/\H[i]? = some y):=fun i q y hq hy=>by
  rcases Nat.lt_or_ge i H.length with hi | hi
  . rw[List.getElem?_append_left (by rw[hst.len]; exact hi)]at hq
    rw[List.getElem?_append_left (by rw[List.length_set]; exact hi)]at hy
    by_cases hid:i=id
    . subst hid; rw[List.getElem?_set_self hlt]at hy; exact .inr (.inl (Option.some.inj hy).symm)
    . rw[List.getElem?_set_ne (Ne.symm hid)]at hy; exact .inr (.inr ⟨hid,hq,hy⟩)
  . rw[List.getElem?_append_right (by rw[hst.len]; exact hi),hst.len]at hq
    rw[List.getElem?_append_right (by rw[List.length_set]; exact hi),List.length_set]at hy
    have h0:i-H.length=0:=by
     have:=(liZ.1 hq).1;simp at this; omega
    rw[h0]at hq hy;exact .inl ⟨by omega,(Option.some.inj hq).symm,(Option.some.inj hy).symm⟩
 have old:∀b,az (ρ ++ [⟨w.heap.size,0,0,0⟩]) (H.set id .dead ++ [O.miter [w.heap.size,p.b] kvs none]) b->az ρ H b\/b=w.heap.size:=fun b ⟨i,q,y,hq,hy,hb⟩=>by
  rcases get i q y hq hy with⟨_,rfl,rfl⟩ | rfl | ⟨_,h1,h2⟩
  . rcases List.mem_cons.1 hb with rfl | hb
    . exact .inr rfl
    . rw[List.mem_singleton.1 hb]; exact .inl hown
  . exact hb.1.elim
  . exact .inl ⟨i,q,y,h1,h2,hb⟩
 have hst' : St I (ρ ++ [⟨w.heap.size,0,0,0⟩]) (H.set id .dead ++ [O.miter [w.heap.size,p.b] kvs none]) w' := by
  refine⟨by rw[aD,aD,List.length_set,hst.len]; rfl,fun i q y hq hy=>?_,fun i j q r y z b hq hy hb hr hz hc=>?_,⟨fun b o v hv=>?_,hst.imm.glob⟩,fun b hb o=>?_⟩
  . rcases get i q y hq hy with⟨_,rfl,rfl⟩ | rfl | ⟨_,h1,h2⟩
    . refine⟨rfl,⟨p.b,c,#[],es,hnew,by rw[hold _ hpb]; exact b1,⟨by show w.heap.size≠p.b; omega,by simp,by simp⟩,b3,?_,fun i kv en h1 h2=>?_,fun kv hkv=>by cases hkv⟩,fun b hb=>?_⟩
      . have hf:(es.toList.filter fun e=>!(#[]:Array Nat).contains e.born)=es.toList:=List.filter_eq_self.2 fun y _=>by simp
        rw[hf,Array.length_toList]; exact b2
      . have hf:(es.toList.filter fun e=>!(#[]:Array Nat).contains e.born)=es.toList:=List.filter_eq_self.2 fun y _=>by simp
        rw[hf]at h2;exact(b4 i kv en h1 (by simpa using h2)).2
      . show b<(w.heap.push _).size
        rw[Array.size_push];rcases List.mem_cons.1 hb with rfl | hb
        . exact Nat.lt_succ_self _
        . rw[List.mem_singleton.1 hb]; omega
    . exact trivial
    . exact(hst.obj i q y h1 h2).keep (fun b hb=>hold b (hst.lt ⟨i,q,y,h1,h2,hb⟩)) (ILe.refl _) (PLe.append _ _)
  . have side:∀(i:Nat) (q:Pl) (y:O),i≠id->ρ[i]? = some q->H[i]? = some y->y.owns q b->b ∉ [w.heap.size,p.b]:=fun i q y hi h1 h2 h3 hbB=>by
     rcases List.mem_cons.1 hbB with rfl | hbB
     . exact Nat.lt_irrefl _ (hst.lt ⟨i,q,y,h1,h2,h3⟩)
     . rw[List.mem_singleton.1 hbB]at h3;exact hi (hst.inj i id q p y _ p.b h1 h2 h3 hp hH ⟨trivial,rfl⟩)
    rcases get i q y hq hy with⟨i1,rfl,rfl⟩ | rfl | ⟨hi,h1,h2⟩
    . rcases get j r z hr hz with⟨j1,rfl,rfl⟩ | rfl | ⟨hj,h3,h4⟩
      . omega
      . exact hc.1.elim
      . exact absurd hb (side j r z hj h3 h4 hc)
    . exact hb.1.elim
    . rcases get j r z hr hz with⟨j1,rfl,rfl⟩ | rfl | ⟨hj,h3,h4⟩
      . exact absurd hc (side i q y hi h1 h2 hb)
      . exact hc.1.elim
      . exact hst.inj i j q r y z b h1 h2 hb h3 h4 hc
  . have h1:=hst.imm b o v hv;have hb:=BY h1;unfold World.cell? at h1 ⊢;rw[hold b hb]; exact h1
  . rcases old b hb with h1 | rfl
    . exact hst.sep b h1 o
    . cases hi:I w.heap.size o with
      | none=>rfl
      | some v=>exact absurd (hst.imm_lt hi) (Nat.lt_irrefl _)
 refine⟨.pointer (some ⟨w.heap.size,0,none⟩),_,I,_,e,_,w', .inl ?_,hK,hst', ?_,he.mono (ILe.refl _) (PLe.append _ _),⟨ILe.refl _,fun i hi=>?_,rfl,rfl,rfl,by show w.heap.size<=(w.heap.push _).size; rw[Array.size_push]; omega,fun b hb _=>hold b hb,fun b hb=>?_,fun b o v hv=>.inl hv⟩⟩
 . simp[execOp,ho,hu,Instr.range,af (pA hT hk'),Go.MapKept.run_getObj_map b1];rfl
 . have:=VRel.ptr (I:=I) (ρ ++ [⟨w.heap.size,0,0,0⟩]) H.length 0 ⟨w.heap.size,0,0,0⟩ (by rw[<-hst.len]; simp)
   simpa using this
 . rw[List.getElem?_append_left (by omega)]
 . rcases old b hb with h1 | rfl
   . exact .inl h1
   . exact .inr (Nat.le_refl _)
theorem EH {k:Nat} {o:Oper} {x:Operand} (ho:o.op = .entry x) {K:V->Env->List O->Prop} {id:Nat} {B:List Nat} {left:List (V × V)} {kv:V × V} (hx:am e x = .ptr id 0) (hob:ar H id = .miter B left (some kv))
 (h:K (.tup [kv.1,kv.2]) e H):ESem P k o e H K:=by
 refine aH (by simp[ho]) fun I ρ w a hst he hk=>?_
 have hrx:=aE he x;rw[hx]at hrx;obtain⟨p,hp,hu⟩:=iV hrx;have hH:=ax hob (by simp)
 obtain⟨hb0,⟨mb,since,seen,es,b1,b2,⟨b3,b4,b5⟩,b6,b7,b8,b9⟩,hbd⟩:=hst.obj id p _ hp hH;rw[hb0,Nat.add_zero]at hu;obtain⟨en,sn,q1,q2,q3,q4⟩:=b9 kv rfl;subst q2;have:=run_entry_at (P:=P) w p.b mb since sn es since en b1 b2 q1 b6.2.1;refine⟨.tuple #[en.key,en.val],_,I,ρ,e,H,w,.inl ?_,h,hst,.tup _ _ _ rfl (fun i a z ha hz=>?_),he,Step.refl _ _ _ _ _⟩
 . simp[execOp,ho,hu,this]
 . match i,ha,hz with
   | 0,ha,hz=>simp at ha hz; subst ha; subst hz; exact q3.mono (ILe.refl _) (PLe.nil _)
   | 1,ha,hz=>simp at ha hz; subst ha; subst hz; exact q4.mono (ILe.refl _) (PLe.nil _)
end
section
variable [Globs]
theorem dX (id:Nat) (o:O) (l:List V):fX id o l=l.map (cL id o):=by
 induction l with
 | nil=>rfl
 | cons v l ih=>simp only[fX,ih,List.map_cons]
variable {I:aU} {ρ:List Pl} {H:List O} {w:World}
def sG (I:aU) (w:World) (b:Nat):aU:=fun b' o=>if b'=b then w.cell? ⟨b', o,none⟩else I b' o
def At (o:O) (x:Nat × Nat):Prop :=
 match o with
 | .buf es=>x.1+x.2<=es.length
 | _=>True
def CN (id:Nat) (o:O) (v:V):Prop:=∀x∈ua id v,At o x
theorem ky {id:Nat} {x:Nat × Nat}:∀ {l:List V} {v:V},v∈l->x∈ua id v->x∈t8 id l
 | [],v,h,_=>by simp at h
 | y::l,v,h,hx=>by
  simp only[t8,List.mem_append];rcases List.mem_cons.1 h with rfl | h
  . exact .inl hx
  . exact .inr (ky h hx)
theorem wG {id:Nat} {x:Nat × Nat}:∀ {e:Env} {t:Nat},x∈ua id (Env.get e t)->x∈JB id e
 | [],t,h=>by simp[Env.get,ua]at h
 | (i,v)::e,t,h=>by
  simp only[JB,List.mem_append];simp only[Env.get]at h;cases hb:Nat.beq i t<;>rw[hb]at h
  . exact .inr (wG h)
  . exact .inl h
theorem sW {id:Nat} {x:Nat × Nat}:∀ {l:List (V × V)} {kv:V × V},kv∈l->x∈ua id kv.1\/x∈ua id kv.2->x∈Hz id l
 | [],kv,h,_=>by simp at h
 | (a,b)::l,kv,h,hx=>by
  simp only[Hz,List.mem_append];rcases List.mem_cons.1 h with rfl | h
  . rcases hx with hx | hx
    . exact .inl hx
    . exact .inr (.inl hx)
  . exact .inr (.inr (sW h hx))
theorem Cl {id:Nat} {x:Nat × Nat}:∀ {H:List O} {o:O},o∈H->x∈JD id o->x∈JC id H
 | [],o,h,_=>by simp at h
 | y::H,o,h,hx=>by
  simp only[JC,List.mem_append];rcases List.mem_cons.1 h with rfl | h
  . exact .inl hx
  . exact .inr (Cl h hx)
theorem y9 {n:Nat}:∀ {l:List (Nat × Nat)},wH n l -> ∀x∈l,x.1+x.2<=n
 | [],_,x,hx=>by simp at hx
 | (a,b)::l,h,x,hx=>by
  rcases List.mem_cons.1 hx with rfl | hx
  . exact h.1
  . exact y9 h.2 x hx
theorem mS {id:Nat} {o:O} {vs:List V} {e:Env} {H:List O} (h:iG id o vs e H) {x:Nat × Nat} (hx:x∈t8 id vs\/x∈JB id e\/x∈JC id H):At o x:=by
 cases o<;>try trivial
 refine y9 h x ?_;simp only[List.mem_append];exact hx
theorem lq {id:Nat} {o:O} {vs:List V} {e:Env} {H:List O} (h:iG id o vs e H) {v:V} (hv:v∈vs):CN id o v:=fun x hx=>mS h (.inl (ky hv hx))
theorem sw {id:Nat} {o:O} {vs:List V} {e:Env} {H:List O} (h:iG id o vs e H) (t:Nat):CN id o (Env.get e t):=fun x hx=>mS h (.inr (.inl (wG hx)))
def IW (id:Nat) (o:O) (H:List O):Prop:=∀y∈H,∀x∈JD id y,At o x
theorem jG {id:Nat} {o:O} {vs:List V} {e:Env} {H:List O} (h:iG id o vs e H):IW id o H:=fun y hy x hx=>mS h (.inr (.inr (Cl hy hx)))
theorem Hj {I' : aU} (hI:ILe I I') {id:Nat} {p:Pl} {o:O} (hok:mt o=true) (hor:ORel I ρ w p o) (hc:o.has p -> ∀q c,w.cell? ⟨p.b,q,none⟩=some c->I' p.b q=some c) {v:V} {u:Value} {ρ0:List Pl} (h:VRel I ρ0 v u) :
 (ρ0=ρ->ρ[id]? = some p->CN id o v->VRel I' ρ (cL id o v) u):=by
 induction h with
 | any=>intros; simp only[cL]; exact .any _ _
 | bool=>intros; simp only[cL]; exact .bool _ _
 | int=>intros; simp only[cL]; exact .int _ _ _
 | str=>intros; simp only[cL]; exact .str _ _
 | ptr ρ1 i off q h =>
  rintro rfl hp hfit;simp only[cL];cases hb:Nat.beq i id with
  | false=>exact .ptr _ _ _ _ h
  | true =>
   have:=Nat.eq_of_beq_eq_true hb;subst this;rw[hp]at h; cases h;cases o with
   | cells cs =>
    obtain⟨b0,_,_,hcells⟩:=hor;refine .ip _ _ _ _ _ (fun j=>(w.cell? ⟨p.b,p.base+j,none⟩).getD undef) (fun j c hj=>?_) (fun j c hj=>?_) (fun j c hj=>?_)
    all_goals
     obtain⟨x,x1,x2,x3⟩:=hcells j c hj;rw[b0]at *
    . rw[x1]; exact hc trivial _ _ x1
    . rw[x1]; exact x2
    . rw[x1]; exact(ik (List.all_eq_true.1 hok c (List.mem_of_getElem? hj)) x3).mono hI (PLe.refl _)
   | _=>exact .any _ _
 | ep ρ1 i a b q h =>
  rintro rfl hp hfit;simp only[cL];cases hb:Nat.beq i id with
  | false=>exact .ep _ _ _ _ _ h
  | true =>
   have:=Nat.eq_of_beq_eq_true hb;subst this;rw[hp]at h; cases h;cases o with
   | buf es =>
    simp only;cases he:es[a]? with
    | none=>exact .any _ _
    | some cs =>
     have hlt:=(liZ.1 he).1;rcases hor with⟨rfl,_⟩ | ⟨g1,g2,g3⟩
     . simp at hlt
     . obtain⟨_,hcells⟩:=g3 a cs he;have h0:p.tot≠0:=by omega
       have:=VRel.ip (I:=I') ρ1 cs b p.b (p.base+a*p.sz) (fun j=>(w.cell? ⟨p.b,p.base+a*p.sz+j,none⟩).getD undef) (fun j c hj=>?_) (fun j c hj=>?_) (fun j c hj=>?_)
       . simpa [Nat.add_assoc]using this
       all_goals obtain⟨x,x1,x2,x3⟩:=hcells j c hj
       . rw[x1]; exact hc h0 _ _ x1
       . rw[x1]; exact x2
       . rw[x1]; exact x3.mono hI (PLe.refl _)
   | _=>exact .any _ _
 | ip ρ1 cs off b base u h1 h1' h2 ih=>rintro rfl hp hfit; simp only[cL]; exact .ip _ _ _ _ _ u (fun i c hc=>hI _ _ _ (h1 i c hc)) h1' (fun i c hc=>(h2 i c hc).mono hI (PLe.refl _))
 | nilp=>intros; simp only[cL]; exact .nilp _
 | sl ρ1 sz es full b base cap u h1 h2 h3 h4 h4' h5 ih=>rintro rfl hp hfit; simp only[cL]; exact .sl _ _ _ _ _ _ _ u h1 h2 h3 (fun i e j c he hc=>hI _ _ _ (h4 i e j c he hc)) h4' (fun i e j c he hc=>(h5 i e j c he hc).mono hI (PLe.refl _))
 | slnil=>intros; simp only[cL]; exact .slnil _ _ _ _
 | ms ρ1 i off len cap full q h1 h2 h3 h4 h5 =>
  rintro rfl hp hfit;simp only[cL];cases hb:Nat.beq i id with
  | false=>exact .ms _ _ _ _ _ _ _ h1 h2 h3 h4 h5
  | true =>
   have:=Nat.eq_of_beq_eq_true hb;subst this;rw[hp]at h1; cases h1;cases o with
   | buf es =>
    simp only
    . have hle:off+len<=es.length:=hfit (off,len) (by simp[ua])
      have hlen:((es.drop off).take len).length=len:=by simp; omega
      rcases hor with⟨rfl,h0⟩ | ⟨g1,g2,g3⟩
      . have e1:cap=0:=by omega
        have e2:len=0:=by omega
        subst e1 e2;simp only[List.take_zero];exact .slnil _ _ _ _
      . have get:∀(j:Nat) (x:List V),((es.drop off).take len)[j]? = some x->es[off+j]? = some x:=fun j x hx=>by
         have hlt:=(liZ.1 hx).1;rw[List.getElem?_take_of_lt (by omega),List.getElem?_drop]at hx
         exact hx
        have:=VRel.sl (I:=I') ρ1 p.sz ((es.drop off).take len) full p.b (p.base+off*p.sz) cap (fun i j=>(w.cell? ⟨p.b,p.base+(off+i)*p.sz+j,none⟩).getD undef) (by omega) (fun hf=>by rw[hlen]; exact h4 hf)
         (fun j x hx=>(g3 _ x (get j x hx)).1) (fun i x j c hx hj=>?_) (fun i x j c hx hj=>?_) (fun i x j c hx hj=>?_)
        . rw[hlen]at this; exact this
        all_goals
         obtain⟨_,hcells⟩:=g3 _ x (get i x hx);obtain⟨y,x1,x2,x3⟩:=hcells j c hj;have h0:p.tot≠0:=by have:=(liZ.1 (get i x hx)).1; omega
        . rw[show p.base+off*p.sz+(i*p.sz+j)=p.base+(off+i)*p.sz+j by rw[Nat.add_mul]; omega,x1]; exact hc h0 _ _ x1
        . rw[x1]; exact x2
        . rw[x1]; exact x3.mono hI (PLe.refl _)
   | _=>exact .any _ _
 | ms0 ρ1 sz i off full a =>
  rintro rfl hp hfit;simp only[cL];cases hb:Nat.beq i id with
  | false=>exact .ms0 _ _ _ _ _ _
  | true =>
   cases o with
   | buf es=>simp only[List.take_zero]; exact .slnil _ _ _ _
   | _=>exact .any _ _
 | mr ρ1 i off len cap q h1 h2 h3 =>
  rintro rfl hp hfit;simp only[cL];cases hb:Nat.beq i id with
  | false=>exact .mr _ _ _ _ _ _ h1 h2 h3
  | true=>exact .any _ _
 | mr0 ρ1 i off q a h1 h2 =>
  rintro rfl hp hfit;simp only[cL];cases hb:Nat.beq i id with
  | false=>exact .mr0 _ _ _ _ _ h1 h2
  | true=>exact .any _ _
 | nils=>intros; simp only[cL]; exact .nils _
 | fn ρ1 f as bs us ws h1 h2 h3 h4 ih1 ih2 =>
  rintro rfl hp hfit;simp only[cL,dX];refine .fn _ _ _ _ _ _ (by simp[h1]) (by simp[h2]) (fun i a u ha hu=>?_) (fun i a u ha hu=>?_)
  . rw[List.getElem?_map]at ha;cases hx:as[i]? with
    | none=>rw[hx]at ha; cases ha
    | some x=>rw[hx]at ha; cases ha; exact ih1 i x u hx hu rfl hp fun y hy=>hfit y (by simp only[ua,List.mem_append]; exact .inl (ky (List.mem_of_getElem? hx) hy))
  . rw[List.getElem?_map]at ha;cases hx:bs[i]? with
    | none=>rw[hx]at ha; cases ha
    | some x=>rw[hx]at ha; cases ha; exact ih2 i x u hx hu rfl hp fun y hy=>hfit y (by simp only[ua,List.mem_append]; exact .inr (ky (List.mem_of_getElem? hx) hy))
 | nilf=>intros; simp only[cL]; exact .nilf _
 | map ρ1 i q h =>
  rintro rfl hp hfit;simp only[cL];cases hb:Nat.beq i id with
  | false=>exact .map _ _ _ h
  | true=>exact .any _ _
 | nilm=>intros; simp only[cL]; exact .nilm _
 | agg ρ1 cs us h1 h1' h2 ih =>
  rintro rfl hp hfit;simp only[cL,dX];refine .agg _ _ _ (by simp[h1]) h1' (fun i a u ha hu=>?_)
  rw[List.getElem?_map]at ha;cases hx:cs[i]? with
  | none=>rw[hx]at ha; cases ha
  | some x=>rw[hx]at ha; cases ha; exact ih i x u hx hu rfl hp fun y hy=>hfit y (by simp only[ua]; exact ky (List.mem_of_getElem? hx) hy)
 | tup ρ1 cs us h1 h2 ih =>
  rintro rfl hp hfit;simp only[cL,dX];refine .tup _ _ _ (by simp[h1]) (fun i a u ha hu=>?_)
  rw[List.getElem?_map]at ha;cases hx:cs[i]? with
  | none=>rw[hx]at ha; cases ha
  | some x=>rw[hx]at ha; cases ha; exact ih i x u hx hu rfl hp fun y hy=>hfit y (by simp only[ua]; exact ky (List.mem_of_getElem? hx) hy)
 | iface ρ1 t v u h ih=>rintro rfl hp hfit; simp only[cL]; exact .iface _ _ _ _ (ih rfl hp fun y hy=>hfit y (by simpa only[ua]using hy))
 | nili=>intros; simp only[cL]; exact .nili _
 | glob=>intros; simp only[cL]; exact .glob _ _
 | im ρ1 v u h1 h2 ih=>rintro rfl hp hfit; simp only[cL]; exact .im _ _ _ h1 (h2.mono hI (PLe.refl _))
 | yld ρ1 i q h =>
  rintro rfl hp hfit;simp only[cL];cases hb:Nat.beq i id with
  | false=>exact .yld _ _ _ h
  | true=>exact .any _ _
 | raw ρ1 u h=>rintro rfl hp hfit; simp only[cL]; exact .raw _ _ h
theorem uM (id:Nat) (o:O) (l:List (V × V)):Cg id o l=l.map fun p=>(cL id o p.1,cL id o p.2):=by
 induction l with
 | nil=>rfl
 | cons v l ih=>obtain⟨a,b⟩:=v; simp only[Cg,ih,List.map_cons]
theorem lp (id:Nat) (o:O):∀(e:Env) (t:Nat),Env.get (wp id o e) t=cL id o (Env.get e t)
 | [],t=>by simp[wp,Env.get,cL]
 | (i,v)::e,t=>by
  simp only[wp,Env.get];cases Nat.beq i t
  . exact lp id o e t
  . rfl
theorem yH (id:Nat) (o:O):∀(H:List O) (j i:Nat),(jH id o j H)[i]? = (H[i]?).map fun x=>if j+i=id then .dead else Hi id o x
 | [],j,i=>by simp[jH]
 | x::H,j,i=>by
  cases i with
  | zero =>
   simp only[jH,List.getElem?_cons_zero,Option.map_some,Nat.add_zero];cases hb:Nat.beq j id with
   | true=>rw[if_pos (Nat.eq_of_beq_eq_true hb)]
   | false=>rw[if_neg (Nat.ne_of_beq_eq_false hb)]
  | succ i =>
   simp only[jH,List.getElem?_cons_succ];rw[yH id o H (j+1) i,show j+1+i=j+(i+1) by omega]
theorem sx (id:Nat) (o:O):∀(H:List O) (j:Nat),(jH id o j H).length=H.length
 | [],j=>rfl
 | x::H,j=>by simp[jH,sx id o H (j+1)]
theorem sy (id:Nat) (o:O) (q:Pl) (b:Nat) (x:O):(Hi id o x).owns q b ↔ x.owns q b:=by cases x<;>exact Iff.rfl
theorem mT (hst:St I ρ H w) {id:Nat} {p:Pl} {o:O} (hp:ρ[id]? = some p) (ho:H[id]? = some o) (hok:mt o=true) (hfit:IW id o H) (k:Nat) :
 ∃I', St I' ρ (jH id o 0 H) w/\Step k I ρ H w I' ρ (jH id o 0 H) w /\ ∀v u,CN id o v->VRel I ρ v u->VRel I' ρ (cL id o v) u:=by
 have hor:=hst.obj id p o hp ho;obtain⟨I', hI,hcell,himm,hsame⟩:∃I' : aU,ILe I I'/\(o.has p -> ∀q c,w.cell? ⟨p.b,q,none⟩=some c->I' p.b q=some c)/\(∀b q v,I' b q=some v->w.cell? ⟨b,q,none⟩=some v/\(I b q=some v\/(o.has p/\b=p.b)))/\(∀b,¬(o.has p/\b=p.b)->I' b=I b):=by
  by_cases hh:o.has p
  . refine⟨sG I w p.b,fun b q v hv=>?_,fun _ q c hc=>by simp[sG,hc],fun b q v hv=>?_,fun b hb=>?_⟩
    . have hne:b≠p.b:=fun hb=>by
       have:=hst.sep p.b ⟨id,p,o,hp,ho,hh.owns⟩ q;rw[hb,this]at hv; cases hv
      simp[sG,hne,hv]
    . unfold sG at hv;split at hv
      . rename_i hb; subst hb; exact⟨hv,.inr ⟨hh,rfl⟩⟩
      . exact⟨hst.imm b q v hv,.inl hv⟩
    . funext q
      have:b≠p.b:=fun h=>hb ⟨hh,h⟩
      simp[sG,this]
  . exact⟨I,ILe.refl _,fun h=>absurd h hh,fun b q v hv=>⟨hst.imm b q v hv,.inl hv⟩,fun _ _=>rfl⟩
 have hval:∀v u,CN id o v->VRel I ρ v u->VRel I' ρ (cL id o v) u:=fun v u hf h=>Hj hI hok hor hcell h rfl hp hf
 have hget:∀i x,(jH id o 0 H)[i]? = some x->x = .dead \/ ∃y,H[i]? = some y/\x=Hi id o y/\i≠id:=fun i x hx=>by
  rw[yH]at hx;cases hy:H[i]? with
  | none=>rw[hy]at hx; cases hx
  | some y =>
   rw[hy]at hx;simp only[Option.map_some,Nat.zero_add,Option.some.injEq]at hx;split at hx
   . exact .inl hx.symm
   . rename_i hne; exact .inr ⟨y,rfl,hx.symm,hne⟩
 have hown:∀b,az ρ (jH id o 0 H) b->az ρ H b /\ ¬(o.has p/\b=p.b):=by
  rintro b ⟨i,q,x,hq,hx,hh⟩;rcases hget i x hx with rfl | ⟨y,hy,rfl,hne⟩
  . exact hh.1.elim
  . have hh' := (sy id o q b y).1 hh;exact⟨⟨i,q,y,hq,hy,hh'⟩,fun⟨h1,h2⟩=>hne (hst.inj i id q p y o b hq hy hh' hp ho (by rw[h2]; exact h1.owns))⟩
 refine⟨I', ⟨by rw[sx]; exact hst.len,fun i q x hq hx=>?_,fun i j q r x y b0 hq hx hh hr hy hh' => ?_,⟨fun b q v hv=>(himm b q v hv).1,Globs.mono hI hst.imm.glob⟩,fun b hb q=>?_⟩,⟨hI,fun _ _=>rfl,rfl,rfl,rfl,Nat.le_refl _,fun _ _ _=>rfl,fun b hb=>.inl (hown b hb).1,fun b q v hv=>?_⟩,hval⟩
 . rcases hget i x hx with rfl | ⟨y,hy,rfl,hne⟩
   . trivial
   . have h1:=hst.obj i q y hq hy;cases y with
     | cells cs =>
      obtain⟨g1,⟨c,t,fr,g2,g3⟩,g4,g5⟩:=h1;have hl:(fX id o cs).length=cs.length:=by rw[dX]; simp
      refine⟨g1,⟨c,t,fr,g2,by rw[hl]; exact g3⟩,by rw[hl]; exact g4,fun j v hv=>?_⟩
      rw[dX,List.getElem?_map]at hv;cases hx:cs[j]? with
      | none=>rw[hx]at hv; cases hv
      | some z =>
       rw[hx]at hv; cases hv;obtain⟨u,u1,u2,u3⟩:=g5 j z hx;exact⟨u,u1,u2,hval z u (fun x hx' => hfit _ (List.mem_of_getElem? hy) x (by simp only[JD]; exact ky (List.mem_of_getElem? hx) hx')) u3⟩
     | buf es=>exact h1.keep (fun _ _=>rfl) hI (PLe.refl _)
     | bufc es=>exact h1.keep (fun _ _=>rfl) hI (PLe.refl _)
     | iter s pos=>exact h1.keep (fun _ _=>rfl) hI (PLe.refl _)
     | pmap kvs clock=>exact h1.keep (fun _ _=>rfl) hI (PLe.refl _)
     | miter B left cur=>exact h1.keep (fun _ _=>rfl) hI (PLe.refl _)
     | bag l=>exact h1.keep (fun _ _=>rfl) hI (PLe.refl _)
     | map kvs clock =>
      obtain⟨es,g1,g2,g3⟩:=h1;refine⟨es,g1,by rw[uM]; simp[g2],fun j kv e hkv he=>?_⟩
      rw[uM,List.getElem?_map]at hkv;cases hx:kvs[j]? with
      | none=>rw[hx]at hkv; cases hkv
      | some z =>
       rw[hx]at hkv; cases hkv;have:=g3 j z e hx he;exact⟨hval _ _ (fun x hx' => hfit _ (List.mem_of_getElem? hy) x (by simp only[JD]; exact sW (List.mem_of_getElem? hx) (.inl hx'))) this.1,hval _ _ (fun x hx' => hfit _ (List.mem_of_getElem? hy) x (by simp only[JD]; exact sW (List.mem_of_getElem? hx) (.inr hx'))) this.2⟩
     | loop c st e =>
      obtain⟨r,g1,g2,g3,g4,g5,g6,g7,g8⟩:=h1;exact⟨r,g1,g2,g3,g4,g5,g6,g7,fun t=>by rw[lp]; exact hval _ _ (fun x hx' => hfit _ (List.mem_of_getElem? hy) x (by simp only[JD]; exact wG hx')) (g8 t)⟩
     | res R B=>exact h1.keep (fun _ _=>rfl) hI (PLe.refl _)
     | dead=>trivial
 . rcases hget i x hx with rfl | ⟨x', hx', rfl,_⟩
   . exact hh.1.elim
   rcases hget j y hy with rfl | ⟨y', hy', rfl,_⟩
   . exact hh'.1.elim
   exact hst.inj i j q r x' y' b0 hq hx' ((sy id o q b0 x').1 hh) hr hy' ((sy id o r b0 y').1 hh')
 . obtain⟨h1,h2⟩:=hown b hb;rw[hsame b h2];exact hst.sep b h1 q
 . rcases(himm b q v hv).2 with h1 | ⟨h1,rfl⟩
   . exact .inl h1
   . exact .inr (.inl ⟨id,p,o,hp,ho,h1.owns⟩)
end
section
variable [Globs]
variable {I:aU} {ρ:List Pl} {H:List O} {w:World}
theorem lg (h:St I ρ H w):St I (ρ ++ [⟨0,0,0,0⟩]) (H ++ [.buf []]) w /\ ∀b,az (ρ ++ [⟨0,0,0,0⟩]) (H ++ [.buf []]) b->az ρ H b:=by
 have get:∀(i:Nat) (p:Pl) (o:O),(ρ ++ [⟨0,0,0,0⟩])[i]? = some p->(H ++ [O.buf []])[i]? = some o->(ρ[i]? = some p/\H[i]? = some o)\/(i=ρ.length/\p=⟨0,0,0,0⟩/\o = .buf []):=by
  intro i p o hp ho;rcases Nat.lt_or_ge i ρ.length with hi | hi
  . rw[List.getElem?_append_left hi]at hp;rw[List.getElem?_append_left (by rw[<-h.len]; exact hi)]at ho
    exact .inl ⟨hp,ho⟩
  . have hlt:=(liZ.1 hp).1;simp at hlt;have e:i=ρ.length:=by omega
    subst e;rw[List.getElem?_append_right (Nat.le_refl _),Nat.sub_self]at hp;rw[List.getElem?_append_right (by rw[<-h.len]; exact Nat.le_refl _),<-h.len,Nat.sub_self]at ho
    exact .inr ⟨rfl,by simpa using hp.symm,by simpa using ho.symm⟩
 have hno:∀b,¬(O.buf []).owns ⟨0,0,0,0⟩ b:=fun b hw=>hw.1 rfl
 have hown:∀b,az (ρ ++ [⟨0,0,0,0⟩]) (H ++ [.buf []]) b->az ρ H b:=by
  rintro b ⟨i,p,o,hp,ho,hw⟩;rcases get i p o hp ho with⟨g1,g2⟩ | ⟨_,rfl,rfl⟩
  . exact⟨i,p,o,g1,g2,hw⟩
  . exact absurd hw (hno b)
 refine⟨⟨by simp[h.len],fun i p o hp ho=>?_,fun i j p q o r b hp ho hw hq hr hw' => ?_,h.imm,fun b hb=>h.sep b (hown b hb)⟩,hown⟩
 . rcases get i p o hp ho with⟨g1,g2⟩ | ⟨_,rfl,rfl⟩
   . exact(h.obj i p o g1 g2).keep (fun _ _=>rfl) (ILe.refl _) (PLe.append _ _)
   . exact .inl ⟨rfl,rfl⟩
 . rcases get i p o hp ho with⟨g1,g2⟩ | ⟨_,rfl,rfl⟩
   . rcases get j q r hq hr with⟨g3,g4⟩ | ⟨_,rfl,rfl⟩
     . exact h.inj i j p q o r b g1 g2 hw g3 g4 hw'
     . exact absurd hw' (hno b)
   . exact absurd hw (hno b)
theorem mI {k:Nat} (h:St I ρ H w) (hk:k<=ρ.length):Step k I ρ H w I (ρ ++ [⟨0,0,0,0⟩]) (H ++ [.buf []]) w :=
 ⟨ILe.refl _,fun i hi=>by rw[List.getElem?_append_left (by omega)],rfl,rfl,rfl,Nat.le_refl _,fun _ _ _=>rfl,fun b hb=>.inl ((lg h).2 b hb),fun _ _ _ h=>.inl h⟩
end
section
variable [Globs]
variable {P:Program} {T:Nat->TI} {I:aU} {ρ:List Pl} {H:List O} {w:World} {e:Env}
structure CtxOk (X:dI):Prop where
 T:bH X.P X.T
 fns:∀f∈X.fns,∀args w,(callFunc f args).run X.P w = .ok (.enter f args) w
 mixed:X.P.follows .mixedOrders=true
theorem rW {F:Fence} (hF:Wide F) {n:Nat} {f:FuncId} {args:Array Value} {w:World} {R:Ending->World->Prop} (h:Calls P f args w R):CallsIn F n P f args w R:=by
 have:=(callsIn_wide (n:=n)).2 h;rcases hF with rfl | ⟨l,rfl⟩
 . exact this
 . exact CallsIn.inRound l this
def CallsC (P:Program) (f:Option FuncId) (us:List Value) (w:World) (R:Ending->World->Prop):Prop :=
 match f with
 | some f=>Calls P f us.toArray w R
 | none=>∃l us', us = .func (.yield l) #[] #[]::us'/\YieldAt Fence.wide 0 P l us'.toArray w R
theorem CallsC.mono {P:Program} {f:Option FuncId} {us:List Value} {w:World} {R R' : Ending->World->Prop} (h:CallsC P f us w R) (hr:∀e w', R e w'->R' e w'):CallsC P f us w R' := by
 cases f with
 | some f=>exact Calls.mono h hr
 | none =>
  obtain⟨l,us', h1,fn,tmps,asg,body,h2,h3⟩:=h;exact⟨l,us', h1,fn,tmps,asg,body,h2,h3.mono hr⟩
theorem xP {P:Program} {f:Option FuncId} {k:Nat} {args:List V} {H:List O} {Q:V->List O->Prop} (h:D5 P f k args H Q) (I:aU) (ρ:List Pl) (w:World) (us:List Value) (hst:St I ρ H w) (hk:k<=H.length) (ha:VRels I ρ args us) :
 CallsC P f us w fun en w' => ∃v r I' ρ' H', en = .returned v/\St I' ρ' H' w'/\VRel I' ρ' r v/\Step k I ρ H w I' ρ' H' w'/\Q r H' := by
 cases f with
 | some f=>exact h.out I ρ w us.toArray hst hk (by simpa using ha)
 | none=>exact h.out I ρ w us hst hk ha
mutual
theorem l5:∀v,aM some v=v
 | .ptr _ _=>rfl
 | .ep _ _ _=>rfl
 | .ms _ _ _ _ _=>rfl
 | .mr _ _ _ _=>rfl
 | .map _=>rfl
 | .yld _=>rfl
 | .fn g a b=>by simp[aM,il a,il b]
 | .agg a=>by simp[aM,il a]
 | .tup a=>by simp[aM,il a]
 | .iface t v=>by simp[aM,l5 v]
 | .bool _ | .int _ _ | .str _ | .ip _ _ | .nilp | .sl _ _ _ | .nils | .nilf | .nilm | .nili | .glob _ | .im _ | .raw _ | .any=>rfl
theorem il:∀l,iP some l=l
 | []=>rfl
 | v::l=>by simp[iP,l5 v,il l]
end
theorem tg:∀l,u9 some l=l
 | []=>rfl
 | (a,b)::l=>by simp[u9,l5,tg l]
theorem u7:∀l,zs some l=l
 | []=>rfl
 | (a,b)::l=>by simp[zs,l5,u7 l]
theorem DN (o:O):gA some o=o:=by
 cases o<;>simp[gA,il,tg,u7]
theorem qc (n:Nat):∀(i:Nat) (H:List O),dZ [] n some [] i H=H
 | _,[]=>rfl
 | i,o::H=>by
  have:=qc n (i+1) H;simp only[dZ,bI,DN];rw[this]
theorem nv {X:dI} {f:Option FuncId} {K:V->Env->List O->Prop} {args:List V} {e:Env} {H:List O} (h:ACalls X f K args e H) :
 ∀(I:aU) (ρ:List Pl) (w:World) (us:List Value) (a:Act),St I ρ H w->ERel I ρ e a.tmps->VRels I ρ args us->X.k<=ρ.length->CallsC X.P f us w fun en w' =>
  ∃v r I' ρ' e' H', en = .returned v/\K r e' H'/\St I' ρ' H' w'/\VRel I' ρ' r v/\ERel I' ρ' e' a.tmps/\Step X.k I ρ H w I' ρ' H' w' := by
 induction h with
 | call is k' hok h =>
  obtain⟨hok,hge,_⟩:=hok;simp only[yU,Bool.and_eq_true]at hok;obtain⟨⟨hl,hn⟩,hkl⟩:=hok;have hk' : k'<=is.length:=aA hkl;intro I ρ w us a hst he hargs hk;obtain⟨hsub,hfit,_⟩:=fx hst hl hn;refine(xP h I (ci is ρ) w us hsub (by simp[fY]; exact hk') (hargs.ren hfit)).mono ?_
  rintro en w' ⟨v,r,I', ρ', H', rfl,s1,s2,s3,s4⟩;obtain⟨t1,t2,t3,t4,t5⟩:=oF hst hl hn hk' hge hk s1 s3;exact⟨v,_,I', _,_,_,rfl,s4,t1,s2.ren t2,fun t=>su is k' _ t t3 s3.ile (he t) t4,t5⟩
 | pure h =>
  intro I ρ w us a hst he hargs hk;obtain⟨hsub,hfit,_⟩:=fx hst (is:=[]) rfl rfl;refine(xP h I (ci [] ρ) w us hsub (Nat.zero_le _) (hargs.ren hfit)).mono ?_;rintro en w' ⟨v,r,I', ρ', H', rfl,s1,s2,s3,rfl,s4⟩;have hρ:ρ' = []:=List.eq_nil_of_length_eq_zero s1.len;subst hρ;obtain⟨t1,t2,t3,t4,t5⟩:=oF hst (is:=[]) rfl rfl (Nat.zero_le _) rfl hk s1 s3;have hf:fQ [] 0=some:=rfl;rw[hf,qc]at t1 t5;have hm:PLe ρ (eI [] ρ []):=t4 rfl;exact⟨v,r,I', _,_,_,rfl,s4,t1,s2.mono (ILe.refl _) (PLe.nil _),he.mono s3.ile hm,t5⟩
 | frz id hs hok hfit h ih =>
  intro I ρ w us a hst he hargs hk;rename_i as0 e0 H;have hne:ar H id ≠ .dead:=fun e=>by rw[e]at hok; cases hok
  have ho:=ax (H:=H) (id:=id) rfl hne;have hlt:id < ρ.length:=by rw[hst.len]; exact(liZ.1 ho).1
  obtain⟨I2,g1,g2,g3⟩:=mT hst (aS hlt) ho hok (jG hfit) X.k;refine(ih I2 ρ w us a g1 (fun t=>by rw[lp]; exact g3 _ _ (sw hfit t) (he t)) ⟨by rw[dX]; simpa using hargs.1,fun i v u hv hu=>?_⟩ hk).mono ?_
  . rw[dX,List.getElem?_map]at hv;cases hx:as0[i]? with
    | none=>rw[hx]at hv; cases hv
    | some z=>rw[hx]at hv; cases hv; exact g3 _ _ (lq hfit (List.mem_of_getElem? hx)) (hargs.2 i z u hx hu)
  . rintro en w' ⟨v,r,I', ρ', e', H', h1,h2,h3,h4,h5,h6⟩;exact⟨v,r,I', ρ', e', H', h1,h2,h3,h4,h5,g2.trans h6⟩
 | sub args' H2 hs hv hH h ih =>
  intro I ρ w us a hst he hargs hk;refine(ih I ρ w us a (hH.st hst) he ⟨by rw[<-hv.1]; exact hargs.1,fun i b u hb hu=>?_⟩ hk).mono ?_
  . obtain⟨c,hc,hsub⟩:=hv.get hb;exact hsub I ρ u (hargs.2 i c u hc hu)
  . rintro en w' ⟨v,r,I', ρ', e', H', h1,h2,h3,h4,h5,h6⟩;exact⟨v,r,I', ρ', e', H', h1,h2,h3,h4,h5,(hH.step X.k).trans h6⟩
 | adopt hs h ih =>
  intro I ρ w us a hst he hargs hk;refine(ih I _ w us a (lg hst).1 (fun t=>(he t).mono (ILe.refl _) (PLe.append _ _)) (hargs.mono (ILe.refl _) (PLe.append _ _)) (by simp; omega)).mono ?_
  rintro en w' ⟨v,r,I', ρ', e', H', h1,h2,h3,h4,h5,h6⟩;exact⟨v,r,I', ρ', e', H', h1,h2,h3,h4,h5,(mI hst hk).trans h6⟩
theorem Jj {X:dI} (hX:CtxOk X) {o:Oper} {c:Call} (ho:o.op = .call c) {g:Operand} (hc:c.callee = .value g) {f:FuncId} {as bs:List V} (hg:am e g = .fn (.func f) as bs) (hf:n8 f X.fns=true) {K:V->Env->List O->Prop}
 (h:rD X (some f) (as++(c.args.toList.map (am e)++bs)) e H K):ESem X.P X.k o e H K:=by
 intro I ρ w a hst he hk F n hF next Q hnext;have hrg:=aE he g;rw[hg]at hrg;obtain⟨us,ws,eg,hus,hws⟩:=zU hrg;have hargs:VRels I ρ (as++(c.args.toList.map (am e)++bs)) (us++c.args.map a.eval++ws).toList:=by
  have:=hus.append ((iO (aE he) c.args.toList).append hws);simpa [List.append_assoc]using this
 have hcall:Calls X.P f (us++c.args.map a.eval++ws).toList.toArray w _:=nv h I ρ w (us++c.args.map a.eval++ws).toList a hst he hargs hk;rw[Array.toArray_toList]at hcall;have hrun:(execOp a.eval o).run X.P w = .ok (.enter f (us++c.args.map a.eval++ws)) w:=by
  have h1:=hX.fns f (sS hf) (us++c.args.map a.eval++ws) w;obtain⟨callee,args,argTypes⟩:=c;simp only at hc;subst hc;simp[execOp,ho,resolve,eg,Deferred.ofValue,invoke];simpa using h1
 refine⟨fun f _=>hF.fn f,?_⟩
 rw[gD _ _ _ (by simp[ho]),hrun,Oper.uponIn_enter]
 refine⟨fun hd=>by rw[hF.depth]at hd; simp at hd,rW hF (hcall.mono ?_)⟩
 rintro en w' ⟨v,r,I', ρ', e', H', rfl,h1,h2,h3,h4,h5⟩;exact hnext v _ I' _ _ _ w' h1 h2 h3 h4 h5
theorem BG {id:Nat} {u:Value} (h:VRel I ρ (.yld id) u):∃p,ρ[id]? = some p/\u = .func (.yield p.b) #[] #[]:=by cases h; exact⟨_,‹_›,rfl⟩
theorem Bp {F:Fence} (hF:Wide F) {n:Nat} {l:Nat} {f:FuncId} {tmps:Array Value} {asg body:Code} {w:World} {R:Ending->World->Prop} (h:RoundIn Fence.wide 0 P l f tmps asg body w R):RoundIn F n P l f tmps asg body w R:=by
 obtain⟨_,h⟩:=h;rcases hF with rfl | ⟨l', rfl⟩
 . exact⟨trivial,fun c cs _=>h c cs (room_wide _)⟩
 . exact⟨trivial,fun c cs _=>h c cs (room_wide _)⟩
theorem Ha {X:dI} {o:Oper} {c:Call} (ho:o.op = .call c) {g:Operand} (hc:c.callee = .value g) {id:Nat} (hg:am e g = .yld id) {K:V->Env->List O->Prop}
 (h:rD X none (.yld id::c.args.toList.map (am e)) e H K):ESem X.P X.k o e H K:=by
 intro I ρ w a hst he hk F n hF next Q hnext;have hrg:=aE he g;rw[hg]at hrg;obtain⟨p,hp,eg⟩:=BG hrg;have hargs:VRels I ρ (.yld id::c.args.toList.map (am e)) (.func (.yield p.b) #[] #[]::c.args.toList.map a.eval):=VRels.cons (.yld _ _ _ hp) (iO (aE he) c.args.toList);obtain⟨l,us', e1,fn,tmps,asg,body,hrun,hround⟩:=nv h I ρ w _ a hst he hargs hk;simp only[List.cons.injEq,Value.func.injEq,Fn.yield.injEq,and_true]at e1;obtain⟨rfl,rfl⟩:=e1;have hrun:(execOp a.eval o).run X.P w = .ok (.round p.b fn tmps asg body) w:=by
  obtain⟨callee,args,argTypes⟩:=c;simp only at hc;subst hc;have hl:(List.map a.eval args.toList).toArray=args.map a.eval:=by apply Array.ext'; simp
  rw[hl]at hrun;simp[execOp,ho,resolve,eg,Deferred.ofValue,invoke];simpa using hrun
 refine⟨fun f _=>hF.fn f,?_⟩
 rw[gD _ _ _ (by simp[ho]),hrun,Oper.uponIn_round]
 refine⟨fun hd=>by rw[hF.depth]at hd; simp at hd,Bp hF (hround.mono ?_)⟩
 rintro en w' ⟨v,r,I', ρ', e', H', rfl,h1,h2,h3,h4,h5⟩;exact hnext v _ I' _ _ _ w' h1 h2 h3 h4 h5
def ul (X:dI) (o:Oper) (e:Env) (H:List O) (K:Env->List O->Prop):Prop :=
 ∀(I:aU) (ρ:List Pl) (w:World) (a:Act),St I ρ H w->ERel I ρ e a.tmps->X.k<=ρ.length->a.tmps.size=X.n -> ∀(F:Fence) (n:Nat),Wide F -> ∀(next:Act->World->Prop) (Q:Exit->Act->World->Prop),
  (∀I' ρ' e' H' w' (a' : Act),K e' H'->St I' ρ' H' w'->ERel I' ρ' e' a'.tmps->a'.tmps.size=X.n->a'.defers=a.defers->Step X.k I ρ H w I' ρ' H' w'->next a' w')->o.wpIn F n X.P a w next Q
theorem qV {I:aU} {ρ:List Pl} {n:Nat} {dst:Option Nat} {v:V} {e:Env} {K:Env->Prop} (h:fM n dst v e K) {a:Act} (he:ERel I ρ e a.tmps) (hs:a.tmps.size=n) {u:Value} (hv:VRel I ρ v u) :
 ∃e', K e'/\ERel I ρ e' (a.put dst u).tmps/\(a.put dst u).tmps.size=n/\(a.put dst u).defers=a.defers:=by
 unfold fM at h;cases dst with
 | none=>exact⟨e,h,he,hs,rfl⟩
 | some d =>
  simp only at h;cases hb:Nat.blt d n with
  | false=>simp only[hb]at h
  | true =>
   simp only[hb]at h;have hd:d<n:=aA hb;refine⟨_,h,fun t=>?_,by simp[Act.put,hs],rfl⟩
   simp only[Env.get,Act.put];cases ht:Nat.beq d t with
   | true =>
    have:=Nat.eq_of_beq_eq_true ht;subst this;simp only;rw[show(a.tmps.setIfInBounds d u).getD d undef=u by simp[hs,hd]]
    exact hv
   | false =>
    have hne:=Nat.ne_of_beq_eq_false ht;simp only;rw[show(a.tmps.setIfInBounds d u).getD t undef=a.tmps.getD t undef by simp[Array.getElem?_setIfInBounds_ne hne]]
    exact he t
theorem mz {X:dI} {o:Oper} {K:Env->List O->Prop} (h:ESem X.P X.k o e H fun v e' H' => fM X.n o.dst v e' fun e'' => K e'' H'):ul X o e H K:=by
 intro I ρ w a hst he hk hs F n hF next Q hnext;refine h I ρ w a hst he hk F n hF next Q fun u v I' ρ' e' H' w' hK h1 h2 h3 h4=>?_
 obtain⟨e'', g1,g2,g3,g4⟩:=qV hK h3 hs h2;exact hnext I' ρ' e'' H' w' _ g1 h1 g2 g3 g4 h4
theorem Fv {X:dI} {o:Oper} (hd:∀c,o.op ≠ .defer c) {K:Env->List O->Prop} {v:V} (hK:fM X.n o.dst v e fun e' => K e' H) (hv:lL X.P o e H v):ul X o e H K:=by
 intro I ρ w a hst he hk hs F n hF next Q hnext;obtain⟨u,hrun,hr⟩:=hv I ρ w a hst he;obtain⟨e', g1,g2,g3,g4⟩:=qV hK he hs hr;refine⟨fun f _=>hF.fn f,?_⟩
 rw[gD _ _ _ hd,hrun];exact hnext I ρ e' H w _ g1 hst g2 g3 g4 (Step.refl _ _ _ _ _)
theorem zg {X:dI} (hX:CtxOk X) {o:Oper} (hd:∀c,o.op ≠ .defer c) {K:Env->List O->Prop} (h:aq X.T o.op e H fun v=>fM X.n o.dst v e fun e' => K e' H):ul X o e H K:=by
 obtain⟨v,hK,hv⟩:=rO hX.T o h;intro I ρ w a hst he hk hs F n hF next Q hnext;obtain⟨u,hrun,hr⟩:=hv I ρ w a hst he;obtain⟨e', g1,g2,g3,g4⟩:=qV hK he hs hr;refine⟨fun f _=>hF.fn f,?_⟩
 rw[gD _ _ _ hd,hrun];exact hnext I ρ e' H w _ g1 hst g2 g3 g4 (Step.refl _ _ _ _ _)
theorem mH {X:dI} (hX:CtxOk X) {o:Oper} {t:TypeId} {len:Nat} {parts:Array (Nat × Operand)} (ho:o.op = .buildSlice t len parts) {K:V->Env->List O->Prop} {e:Env} {H:List O} (h:Ax X.T t len parts.toList e H K):ESem X.P X.k o e H K:=by
 unfold Ax at h;cases hk:(X.T t).kind<;>simp only[hk]at h
 rename_i q;cases hq:eJ (X.T q)<;>simp only[hq]at h
 cases hb:Nat.ble (len*(X.T q).size) 16777216<;>simp only[hb,aj]at h
 exact wj hX.T ho hk hq (aA hb) h
theorem EL {k:Nat} {o:Oper} {K:V->Env->List O->Prop} {e:Env} {H:List O} (id:Nat) (hok:mt (ar H id)=true) (hfit:iG id (ar H id) [] e H) (h:ESem P k o (wp id (ar H id) e) (jH id (ar H id) 0 H) K):ESem P k o e H K:=by
 intro I ρ w a hst he hk F n hF next Q hn;have hne:ar H id ≠ .dead:=fun e=>by rw[e]at hok; cases hok
 have ho:=ax (H:=H) (id:=id) rfl hne;have hlt:id < ρ.length:=by rw[hst.len]; exact(liZ.1 ho).1
 obtain⟨I2,g1,g2,g3⟩:=mT hst (aS hlt) ho hok (jG hfit) k;exact h I2 ρ w a g1 (fun t=>by rw[lp]; exact g3 _ _ (sw hfit t) (he t)) hk F n hF next Q fun u v I' ρ' e' H' w' hK hst' hv he' hs=>hn u v I' ρ' e' H' w' hK hst' hv he' (g2.trans hs)
theorem rB {X:dI} (hX:CtxOk X) {o:Oper} {t:TypeId} {len:Nat} {parts:Array (Nat × Operand)} (ho:o.op = .buildSlice t len parts) {K:V->Env->List O->Prop}:∀(n:Nat) {e:Env} {H:List O},GD X.T t len parts.toList K n e H->ESem X.P X.k o e H K
 | 0,e,H,h=>mH hX ho h
 | n+1,e,H,h=>by
  unfold GD at h;split at h
  . exact mH hX ho h
  . rename_i id _;exact EL id h.1.1 h.1.2 (rB hX ho n h.2)
theorem xU {X:dI} (hX:CtxOk X) {o:Oper} {K:V->Env->List O->Prop} (h:ae X o.op e H K):ESem X.P X.k o e H K:=by
 unfold ae at h;split at h
 . rename_i t ho;cases hg:(X.T t).good<;>simp only[hg,aW,aj]at h
   exact G6 hX.T ho hg h
 . rename_i t x ho;cases hc:cellsOf (am e x)<;>simp only[hc,aW,aj]at h
   exact KB ho hc h
 . rename_i t len parts ho;split at h
   . exact mH hX ho h
   . exact rB hX ho _ h
 . rename_i t x y ho;split at h<;>try exact h.elim
   rename_i cs hc hg;cases hb:Nat.beq cs.length (X.T t).size<;>simp only[hb]at h
   have hsz:=Nat.eq_of_beq_eq_true hb;cases hx:am e x<;>simp only[hx]at h
   . rename_i id off;cases ho' : ar H id<;>simp only[ho']at h
     rename_i old;cases hle:Nat.ble (off+cs.length) old.length<;>simp only[hle,aW,aj,bO]at h
     exact yo hX.T ho hg hc hsz hx ho' (aA hle) h
   . rename_i id i j;split at h<;>try exact h.elim
     rename_i es ho' hp;obtain⟨old,hes,h⟩:=h;cases hle:Nat.ble (j+cs.length) old.length<;>simp only[hle,aW,aj,bO]at h
     exact AX hX.T ho hg hc hsz hx ho' hp hes (aA hle) h
 . rename_i t x ho;split at h<;>try exact h.elim
   . rename_i s hk hx;simp only[aj]at h;exact G9 hX.T ho hk hx h
   . rename_i kt et id hk hx;split at h<;>try exact h.elim
     rename_i kvs c hob;exact EJ hX.T ho hk hx hob h
 . rename_i x ho;split at h<;>try exact h.elim
   rename_i id hx;split at h<;>try exact h.elim
   rename_i s pos hob;simp only[aj,bO]at h;exact Jl ho hx hob h.1 h.2
 . rename_i x ho;split at h<;>try exact h.elim
   rename_i id hx;split at h<;>try exact h.elim
   rename_i B left cur hob;exact G8 ho hx hob h.1 h.2
 . rename_i x ho;split at h<;>try exact h.elim
   rename_i id hx;split at h<;>try exact h.elim
   rename_i B left cur hob;cases cur with
   | none=>exact h.elim
   | some kv=>exact EH ho hx hob h
 . rename_i c ho;split at h
   . rename_i g hc;split at h<;>try exact h.elim
     . rename_i f as bs hg;cases hm:n8 f X.fns<;>simp only[hm]at h
       . obtain⟨r,hr,h⟩:=h;exact KD ho hc hg hr h
       . exact Jj hX ho hc hg hm h
     . rename_i id hg;exact Ha ho hc hg h
   . rename_i hc;split at h<;>try exact h.elim
     rename_i s x t t2 ha hat;cases hk:(X.T t).kind<;>simp only[hk]at h
     rename_i q;split at h<;>try exact h.elim
     . rename_i hq ht2;exact EF hX.T ho hc ha hat hk hq ht2 h
     . rename_i hq ht2;split at h<;>try exact h.elim
       rename_i k2 k1 n hk2 hx;exact Di hX.T ho hc ha hat hk hq hk2 hx h
   . rename_i hc;split at h<;>try exact h.elim
     rename_i m x t t2 ha hat;exact EG hX.T ho hc ha hat h
   . rename_i hc;split at h<;>try exact h.elim
     rename_i s t ha hat;exact KC hX.T ho hc ha hat h
   . rename_i hc;split at h<;>try exact h.elim
     rename_i d x t t2 ha hat;exact Jk hX.T ho hc ha hat h
   . rename_i hc;split at h<;>try exact h.elim
     rename_i s t ha hat;cases hk:(X.T t).kind<;>simp only[hk]at h
     rename_i q;cases hq:eJ (X.T q)<;>simp only[hq]at h
     split at h<;>try exact h.elim
     rename_i z id off len full hs;split at h<;>try exact h.elim
     rename_i es hz hg;obtain⟨⟨hpos,hin⟩,h⟩:=h;rw[aj,bO]at h;have e0:=Nat.eq_of_beq_eq_true hz;subst e0;exact G7 hX.T ho hc ha hat hk hq hs hg hpos hin h
   . exact h.elim
 . rename_i t ho;exact Dj hX.T ho h
 . rename_i t m k x ho;exact pY hX.T (.inl ho) h
 . rename_i t m k x ho;exact pY hX.T (.inr ho) h
 . rename_i t m k ok ho;exact EI hX.T ho h
 . rename_i t l c ho;exact yn hX.T ho h
 . exact h.elim
theorem DA {y:Operand} (h:A7 y=true) (a:Act):a.eval y = .slice none 0 0:=by
 unfold A7 at h;split at h
 . rfl
 . cases h
theorem wJ {X:dI} (hX:CtxOk X) {o:Oper} {op:BinOp} (hn:wI X.T o.op e=some op) {K:V->Prop} (h1:j9 op true K) (h2:j9 op false K):ESem X.P X.k o e H fun v e' H' => K v/\e'=e/\H'=H:=by
 unfold wI at hn;split at hn<;>try (cases hn; done)
 rename_i op' t x y yt ho;split at hn<;>try (cases hn; done)
 rename_i hy;split at hn<;>try (cases hn; done)
 rename_i z f hx;split at hn<;>try (cases hn; done)
 rename_i q hk;cases hn;refine aH (fun c hc=>by rw[hc]at ho; cases ho) fun I ρ w a hst he hkl=>?_
 have hr:=aI he x;rw[hx]at hr;obtain⟨p,l,c,hu⟩:∃p l c,a.eval x = .slice p l c:=by
  revert hr;generalize a.eval x=u;intro hr;cases hr with
  | sl=>exact⟨_,_,_,rfl⟩
  | slnil=>exact⟨_,_,_,rfl⟩
 have hyv:=DA hy a;have heq:=nO (dv hX.T hk) p l c w;have hb:∀b:Bool,p.isNone=b->((binOp .eql t (.slice p l c) (.slice none 0 0)).run X.P w = .ok (.bool b) w/\(binOp .neq t (.slice p l c) (.slice none 0 0)).run X.P w = .ok (.bool (!b)) w):=by
  intro b hb;subst hb;constructor<;>(unfold binOp; split<;>first | contradiction | (simp[heq]))
 have hK:j9 op p.isNone K:=by cases p.isNone<;>assumption
 cases op<;>simp only[j9]at hK<;>try exact hK.elim
 . exact⟨_,_,I,ρ,e,H,w,.inl (jd ho hu hyv (by simp) (by simp) (hb _ rfl).1),⟨hK,rfl,rfl⟩,hst,.bool _ _,he,Step.refl _ _ _ _ _⟩
 . exact⟨_,_,I,ρ,e,H,w,.inl (jd ho hu hyv (by simp) (by simp) (hb _ rfl).2),⟨hK,rfl,rfl⟩,hst,.bool _ _,he,Step.refl _ _ _ _ _⟩
theorem ESem.mono {P:Program} {k:Nat} {o:Oper} {K K' : V->Env->List O->Prop} (h:ESem P k o e H K) (hK:∀v e' H', K v e' H'->K' v e' H'):ESem P k o e H K' := by
 intro I ρ w a hst he hkl F n hF next Q hn;exact h I ρ w a hst he hkl F n hF next Q fun u v I' ρ' e' H' w' g=>hn u v I' ρ' e' H' w' (hK _ _ _ g)
theorem oP {X:dI} (hX:CtxOk X) {o:Oper} {K:Env->List O->Prop} (h:Iz X o e H K):ul X o e H K:=by
 unfold Iz at h;cases hb:uR o.op with
 | true=>simp only[hb]at h; exact mz (xU hX h)
 | false =>
  simp only[hb]at h;have quiet:(aq X.T o.op e H fun v=>fM X.n o.dst v e fun e'' => K e'' H)->ul X o e H K:=fun h=>zg hX (fun c hc=>by rw[hc]at h; simp[aq]at h) h
  cases hs:X.stab with
  | true=>simp only[hs]at h; exact quiet h
  | false =>
   simp only[hs]at h;cases hn:wI X.T o.op e with
   | none =>
    simp only[hn]at h;split at h
    . rename_i t x lo hi mx ho;obtain⟨v,hK,hv⟩:=Cv hX.T ho (HB:=H) (fun _=>Nat.le_refl _) h
      exact Fv (fun c hc=>by rw[hc]at ho; cases ho) hK hv
    . exact quiet h
   | some op =>
    simp only[hn]at h;exact mz ((wJ hX hn h.1 h.2).mono fun v e' H' ⟨g,e1,e2⟩=>by subst e1; subst e2; exact g)
end
section
variable [Globs]
variable {P:Program} {T:Nat->TI} {I:aU} {ρ:List Pl} {H:List O} {w:World} {e:Env}
def GSem (X:dI) (ops:Array Oper) (o:Oper) (e:Env) (H:List O) (K:Env->List O->Prop):Prop :=
 ∀(I:aU) (ρ:List Pl) (w:World) (a:Act),St I ρ H w->ERel I ρ e a.tmps->X.k<=ρ.length->a.tmps.size=X.n -> ∀(F:Fence) (n:Nat),Wide F -> ∀(next:Act->World->Prop) (Q:Exit->Act->World->Prop),
  (∀I' ρ' e' H' w' (a' : Act),K e' H'->St I' ρ' H' w'->ERel I' ρ' e' a'.tmps->a'.tmps.size=X.n->a'.defers=a.defers->Step X.k I ρ H w I' ρ' H' w'->next a' w') ->
  if Region.wanted o (yielded ops a.tmps)then o.wpIn F n X.P a w next Q else(∀f,o.about X.P w a.eval=some f->F.fn f)/\next (a.put o.dst undef) w
theorem GSem.skip {X:dI} {ops:Array Oper} {o:Oper} {K:Env->List O->Prop} (h:fM X.n o.dst (.tup []) e fun e' => K e' H)
 (hw:∀(I:aU) (ρ:List Pl) (a:Act),ERel I ρ e a.tmps->a.tmps.size=X.n->Region.wanted o (yielded ops a.tmps)=false):GSem X ops o e H K:=by
 intro I ρ w a hst he hk hs F n hF next Q hnext;rw[hw I ρ a he hs,if_neg (by simp)]
 obtain⟨e', g1,g2,g3,g4⟩:=qV h he hs (u:=undef) (.tup _ _ _ rfl (fun i a u ha=>by simp at ha))
 exact⟨fun f _=>hF.fn f,hnext I ρ e' H w _ g1 hst g2 g3 g4 (Step.refl _ _ _ _ _)⟩
theorem GSem.take {X:dI} {ops:Array Oper} {o:Oper} {K:Env->List O->Prop} (h:ul X o e H K)
 (hw:∀(I:aU) (ρ:List Pl) (a:Act),ERel I ρ e a.tmps->a.tmps.size=X.n->Region.wanted o (yielded ops a.tmps)=true):GSem X ops o e H K:=by
 intro I ρ w a hst he hk hs F n hF next Q hnext;rw[hw I ρ a he hs,if_pos rfl];exact h I ρ w a hst he hk hs F n hF next Q hnext
theorem GSem.env {X:dI} {ops:Array Oper} {o:Oper} {K:Env->List O->Prop} {e' : Env} (h:GSem X ops o e' H K) (he' : ∀I ρ (tmps:Array Value),ERel I ρ e tmps->ERel I ρ e' tmps):GSem X ops o e H K :=
 fun I ρ w a hst he hk hs F n hF next Q hnext=>h I ρ w a hst (he' I ρ a.tmps he) hk hs F n hF next Q hnext
theorem yv {d:Nat} {v:V} (hd:Env.get e d=v) {tmps:Array Value} (h:ERel I ρ e tmps):ERel I ρ ((d,v)::e) tmps:=fun t=>by
 simp only[Env.get];cases ht:Nat.beq d t with
 | true=>have:=Nat.eq_of_beq_eq_true ht; subst this; rw[<-hd]; exact h d
 | false=>exact h t
theorem iW {ops:Array Oper} {j d:Nat} (hd:(ops[j]?).bind (·.dst)=some d) {b:Bool} (he:Env.get e d = .bool b) {tmps:Array Value} (h:ERel I ρ e tmps):yielded ops tmps j=some b:=by
 have:=h d;rw[he]at this;have h1:=fH this;have hlt:tmps[d]? = some (.bool b):=by
  cases hx:tmps[d]? with
  | none=>simp[hx,undef]at h1
  | some u=>simp[hx]at h1; rw[h1]
 simp[yielded,hd,hlt]
theorem jn {ops:Array Oper} {j d:Nat} (hd:(ops[j]?).bind (·.dst)=some d) (he:Env.get e d = .tup []) {tmps:Array Value} (h:ERel I ρ e tmps):yielded ops tmps j=none:=by
 have:=h d;rw[he]at this;obtain⟨us,h1,_⟩:=Gu this;cases hx:tmps[d]? with
 | none=>simp[yielded,hd,hx]
 | some u=>simp[hx]at h1; subst h1; simp[yielded,hd,hx]
theorem vP {X:dI} (hX:CtxOk X) {ops:Array Oper} {o:Oper} {K:Env->List O->Prop} (h:Az X ops.toList o e H K):GSem X ops o e H K:=by
 unfold Az at h;cases hg:o.guard with
 | none =>
  simp only[hg]at h;exact GSem.take (oP hX h) fun I ρ a _ _=>by simp[Region.wanted,hg]
 | some jw =>
  obtain⟨j,want⟩:=jw;simp only[hg]at h;cases hd:(ops.toList[j]?).bind (·.dst)with
  | none=>simp only[hd]at h
  | some d =>
   simp only[hd]at h;have hd' : (ops[j]?).bind (·.dst)=some d:=by simpa using hd
   split at h
   . rename_i b hb;have hy:∀(I:aU) (ρ:List Pl) (a:Act),ERel I ρ e a.tmps->yielded ops a.tmps j=some b:=fun I ρ a he=>iW hd' hb he
     cases b with
     | true =>
      simp only[eU]at h;refine GSem.env (e' := (d,.bool true)::e) ?_ (fun I ρ tmps he=>yv hb he)
      have hb' : Env.get ((d,V.bool true)::e) d = .bool true:=by simp[Env.get,show Nat.beq d d=true from Nat.beq_refl d]
      have hy' : ∀(I:aU) (ρ:List Pl) (a:Act),ERel I ρ ((d,.bool true)::e) a.tmps->yielded ops a.tmps j=some true:=fun I ρ a he=>iW hd' hb' he
      cases want with
      | true=>exact GSem.take (oP hX h) fun I ρ a he _=>by simp[Region.wanted,hg,hy' I ρ a he]
      | false=>exact GSem.skip h fun I ρ a he _=>by simp[Region.wanted,hg,hy' I ρ a he]
     | false =>
      simp only[eU]at h;refine GSem.env (e' := (d,.bool false)::e) ?_ (fun I ρ tmps he=>yv hb he)
      have hb' : Env.get ((d,V.bool false)::e) d = .bool false:=by simp[Env.get,show Nat.beq d d=true from Nat.beq_refl d]
      have hy' : ∀(I:aU) (ρ:List Pl) (a:Act),ERel I ρ ((d,.bool false)::e) a.tmps->yielded ops a.tmps j=some false:=fun I ρ a he=>iW hd' hb' he
      cases want with
      | false=>exact GSem.take (oP hX h) fun I ρ a he _=>by simp[Region.wanted,hg,hy' I ρ a he]
      | true=>exact GSem.skip h fun I ρ a he _=>by simp[Region.wanted,hg,hy' I ρ a he]
   . rename_i hb;exact GSem.skip h fun I ρ a he _=>by simp[Region.wanted,hg,jn hd' hb he]
   . exact h.elim
theorem AB {X:dI} (hX:CtxOk X) {ops:Array Oper} {K:Env->List O->Prop}:∀(rest:List Oper) (i:Nat),ops.toList.drop i=rest -> ∀(e:Env) (H:List O),I4 X ops.toList K rest e H ->
 ∀(I:aU) (ρ:List Pl) (w:World) (a:Act),St I ρ H w->ERel I ρ e a.tmps->X.k<=ρ.length->a.tmps.size=X.n -> ∀(F:Fence) (n:Nat),Wide F -> ∀(Q:Exit->Act->World->Prop),
 (∀I' ρ' e' H' w' (a' : Act),K e' H'->St I' ρ' H' w'->ERel I' ρ' e' a'.tmps->a'.tmps.size=X.n->a'.defers=a.defers->Step X.k I ρ H w I' ρ' H' w'->Q .normal a' w')->wpOpsIn F n X.P ops Q (List.range' i rest.length) a w:=by
 intro rest;induction rest with
 | nil =>
  intro i hi e H h I ρ w a hst he hk hs F n hF Q hQ;exact hQ I ρ e H w a h hst he hs rfl (Step.refl _ _ _ _ _)
 | cons o rest ih =>
  intro i hi e H h I ρ w a hst he hk hs F n hF Q hQ;have ho:ops[i]? = some o:=by
   have:ops.toList[i]? = some o:=by
    have h1:(ops.toList.drop i)[0]? = some o:=by rw[hi]; rfl
    rwa [List.getElem?_drop,Nat.add_zero]at h1
   simpa using this
  have hrest:ops.toList.drop (i+1)=rest:=by rw[<-List.drop_drop,hi]; rfl
  simp only[List.length_cons,List.range'_succ,wpOpsIn,ho];refine vP hX h I ρ w a hst he hk hs F n hF _ Q fun I' ρ' e' H' w' a' hK h1 h2 h3 h4 h5=>?_
  refine ih (i+1) hrest e' H' hK I' ρ' w' a' h1 h2 ?_ h3 F n hF Q fun I2 ρ2 e2 H2 w2 a2 g1 g2 g3 g4 g5 g6=>hQ I2 ρ2 e2 H2 w2 a2 g1 g2 g3 g4 (g5.trans h4) (h5.trans g6)
  rcases Nat.eq_zero_or_pos X.k with h0 | h0
  . omega
  . have h6:=h5.take (X.k-1) (by omega)
    rw[aS (show X.k-1 < ρ.length by omega)]at h6
    have:=(liZ.1 h6).1;omega
theorem Step.klen {k:Nat} {I I' : aU} {ρ ρ' : List Pl} {H H' : List O} {w w' : World} (h:Step k I ρ H w I' ρ' H' w') (hk:k<=ρ.length):k<=ρ'.length:=by
 rcases Nat.eq_zero_or_pos k with h0 | h0
 . omega
 . have h6:=h.take (k-1) (by omega)
   rw[aS (show k-1 < ρ.length by omega)]at h6
   have:=(liZ.1 h6).1;omega
def AEx.is:AEx->Exit->Prop
 | .normal,.normal=>True
 | .exit i,.exit j=>i=j
 | .ret,.ret=>True
 | _,_=>False
def n6 (D:Nat):Deferred:={ target:=.collected D,args:=#[] }
def PutOk (a:Act) (ρ:List Pl) (H:List O) (w:World):Prop :=
 ∃Ds:List Nat,a.defers=Ds.map n6/\Ds.Nodup /\ ∀D∈Ds,w.heap[D]? = some (.deferred (some [])) /\ ¬az ρ H D
def PutNew (a a' : Act) (w:World):Prop:=∀D,n6 D∈a'.defers->n6 D∈a.defers\/w.heap.size<=D
theorem PutOk.nil {tmps:Array Value}:PutOk { tmps,defers:=[] } ρ H w:=⟨[],rfl,.nil,fun D h=>by simp at h⟩
theorem PutNew.same {a a' : Act} (h:a'.defers=a.defers):PutNew a a' w:=fun D hD=>.inl (by rw[<-h]; exact hD)
theorem PutNew.trans {a a1 a2:Act} {w1:World} (h:PutNew a a1 w) (k:PutNew a1 a2 w1) (hs:w.heap.size<=w1.heap.size):PutNew a a2 w:=fun D hD=>by
 rcases k D hD with x | x
 . exact h D x
 . exact .inr (Nat.le_trans hs x)
theorem PutOk.step {a a' : Act} (h:PutOk a ρ H w) {k:Nat} {I I' : aU} {ρ' : List Pl} {H' : List O} {w' : World} (hs:Step k I ρ H w I' ρ' H' w') (hd:a'.defers=a.defers):PutOk a' ρ' H' w' := by
 obtain⟨Ds,h1,h2,h3⟩:=h;refine⟨Ds,hd.trans h1,h2,fun D hD=>?_⟩
 obtain⟨g1,g2⟩:=h3 D hD;have hlt:=(Array.getElem?_eq_some_iff.1 g1).1;refine⟨by rw[hs.frame D hlt g2]; exact g1,fun ho=>?_⟩
 rcases hs.own D ho with x | x
 . exact g2 x
 . omega
def FOk (X:dI) (F:Fence) (ρ:List Pl):Prop:=(X.round=none/\F=Fence.wide) \/ ∃id p,X.round=some id/\id<X.k/\ρ[id]? = some p/\F=Fence.wide.inRound p.b
theorem FOk.wide {X:dI} {F:Fence} (h:FOk X F ρ):Wide F:=by
 rcases h with⟨_,rfl⟩ | ⟨id,p,_,_,_,rfl⟩
 . exact .inl rfl
 . exact .inr ⟨_,rfl⟩
theorem FOk.step {X:dI} {F:Fence} (h:FOk X F ρ) {I I' : aU} {ρ' : List Pl} {H' : List O} {w' : World} (hs:Step X.k I ρ H w I' ρ' H' w'):FOk X F ρ' := by
 rcases h with h | ⟨id,p,h1,h2,h3,h4⟩
 . exact .inl h
 . exact .inr ⟨id,p,h1,h2,by rw[hs.take id h2]; exact h3,h4⟩
def CPost (X:dI) (Q:AEx->Env->List O->Prop) (I:aU) (ρ:List Pl) (H:List O) (w:World) (a:Act) (ex:Exit) (a' : Act) (w' : World):Prop :=
 ∃x e' H' I' ρ', AEx.is x ex/\Q x e' H'/\St I' ρ' H' w'/\ERel I' ρ' e' a'.tmps/\a'.tmps.size=X.n/\(PutOk a' ρ' H' w'/\PutNew a a' w)/\Step X.k I ρ H w I' ρ' H' w'
def Lb (X:dI) (c:Code) (Q:AEx->Env->List O->Prop) (e:Env) (H:List O):Prop :=
 ∀(I:aU) (ρ:List Pl) (w:World) (a:Act),St I ρ H w->ERel I ρ e a.tmps->X.k<=ρ.length->a.tmps.size=X.n->PutOk a ρ H w -> ∀(F:Fence) (n:Nat),FOk X F ρ->c.wpIn F n X.P (CPost X Q I ρ H w a) a w
theorem si {ts:List Nat}:∀ {vs:List V} {tmps:Array Value},(∀(i:Nat) (t:Nat) (v:V),ts[i]? = some t->vs[i]? = some v->VRel I ρ v (tmps.getD t undef))->ERel I ρ (ts.zip vs) tmps:=by
 induction ts with
 | nil=>intro vs tmps h t; simp[Env.get]; exact .any _ _
 | cons t0 ts ih =>
  intro vs tmps h t;cases vs with
  | nil=>simp[Env.get]; exact .any _ _
  | cons v vs =>
   simp only[List.zip_cons_cons,Env.get];cases ht:Nat.beq t0 t with
   | true =>
    have:=Nat.eq_of_beq_eq_true ht;subst this;exact h 0 _ _ (by simp) (by simp)
   | false=>exact ih (fun i t v h1 h2=>h (i+1) t v (by simpa using h1) (by simpa using h2)) t
theorem BQ {o:Op} (h:gM o=false) (e:Env) (H H' : List O) (K:V->Prop):aq T o e H K=aq T o e H' K:=by
 cases o<;>first | rfl | (simp[gM]at h; done)
theorem eN {o:Op} {e e' : Env} (h:∀x∈o.operands,am e x=am e' x) (H:List O) (K:V->Prop):aq T o e H K=aq T o e' H K:=by
 have hm:∀l:List Operand,(∀x∈l,am e x=am e' x)->l.map (am e)=l.map (am e'):=fun l hl=>List.map_congr_left hl
 have g:∀x∈o.operands,ao e x=ao e' x:=fun x hx=>by unfold ao; rw[h x hx]
 have ho:∀l:Option Operand,(∀x∈l.toArray,ao e x=ao e' x)->l.map (ao e)=l.map (ao e'):=fun l hl=>by
  cases l with
  | none=>rfl
  | some x=>simp[hl x (by simp)]
 cases o<;>simp only[Op.operands]at h g<;>try rfl
 case move x=>simp only[aq,h x (by simp)]
 case assign x=>simp only[aq,h x (by simp)]
 case pick c a b=>simp only[aq,h c (by simp),h a (by simp),h b (by simp)]
 case build t ps =>
  simp only[aq];have:(ps.toList.map fun p=>(p.1,am e p.2))=ps.toList.map fun p=>(p.1,am e' p.2):=List.map_congr_left fun p hp=>by
   rw[h p.2 (by simp; exact⟨p.1,by simpa using hp⟩)]
  rw[this]
 case load t x=>simp only[aq,g x (by simp)]
 case nilCheck x=>simp only[aq,g x (by simp)]
 case binOp op t x y yt=>simp only[aq,g x (by simp),g y (by simp)]
 case unOp op t x=>simp only[aq,g x (by simp)]
 case convert s d x=>simp only[aq,g x (by simp)]
 case makeInterface t x=>simp only[aq,h x (by simp)]
 case makeFunc f a b =>
  simp only[aq];rw[hm a.toList (fun x hx=>h x (by simp at hx ⊢; exact .inl hx)),hm b.toList (fun x hx=>h x (by simp at hx ⊢; exact .inr hx))]
 case slice t x lo hi mx =>
  simp only[aq];rw[g x (by simp),ho lo (fun y hy=>g y (by simp at hy ⊢; simp[hy])),ho hi (fun y hy=>g y (by simp at hy ⊢; simp[hy])),ho mx (fun y hy=>g y (by simp at hy ⊢; simp[hy]))]
 case fieldAddr s x f=>simp only[aq,g x (by simp)]
 case field s x f=>simp only[aq,g x (by simp)]
 case indexAddr t x i=>simp only[aq,g x (by simp),g i (by simp)]
 case index t x i=>simp only[aq,g x (by simp),g i (by simp)]
 case extract x i=>simp only[aq,h x (by simp)]
 case call c =>
  have hmo:c.args.toList.map (ao e)=c.args.toList.map (ao e'):=List.map_congr_left fun x hx=>g x (by simp[Call.operands]; exact .inr (by simpa using hx))
  simp only[aq];rw[hm c.args.toList (fun x hx=>h x (by simp[Call.operands]; exact .inr (by simpa using hx))),hmo]
def tG (q:(V->Prop)->Prop):Prop:=∀K,q K -> ∃v,K v/\q (fun u=>u=v)
theorem fP (v:V):tG fun K=>K v:=fun K h=>⟨v,h,rfl⟩
theorem ez {p:Prop} {q:(V->Prop)->Prop} (h:tG q):tG fun K=>p/\q K:=fun K ⟨hp,hq⟩=>let ⟨v,h1,h2⟩:=h K hq; ⟨v,h1,hp,h2⟩
theorem se {α:Type} {q:α->(V->Prop)->Prop} (h:∀x,tG (q x)):tG fun K=>∃x,q x K:=fun K ⟨x,hq⟩=>let ⟨v,h1,h2⟩:=h x K hq; ⟨v,h1,x,h2⟩
theorem aT:tG fun _=>False:=fun _ h=>h.elim
theorem jy (v:V):tG (gS v):=fun K h=>⟨v,(cr v K).1 h,(cr v _).2 rfl⟩
theorem AU (v:V) (g:V->V):tG fun K=>gS v fun u=>K (g u):=fun K h=>⟨g v,(cr v _).1 h,(cr v _).2 rfl⟩
theorem yj (l:List V) (g:List V->V):tG fun K=>gR l fun r=>K (g r):=fun K h=>⟨g l,(aW l _).1 h,(aW l _).2 rfl⟩
theorem lT (ti:TI) (cs:List V) (off:Nat):tG (jL ti cs off):=by
 unfold jL
 repeat' split
 all_goals first | exact yj _ _ | exact jy _ | exact aT
theorem yh (op:BinOp) (k:IntKind) (x y:Int):tG (nt op k x y):=by
 unfold nt;split<;>first | exact fP _ | exact ez (fP _) | exact aT
theorem yi (op:BinOp) (x y:List UInt8):tG (nu op x y):=by
 unfold nu;split<;>first | exact fP _ | exact ez (fP _) | exact aT
theorem sd (op:BinOp) (b:Bool):tG (j9 op b):=by
 unfold j9;split<;>first | exact fP _ | exact aT
theorem Ba (k:TK) (x y:V):(∃b,∀K,ku k x y K ↔ K b) \/ ∀K,¬ku k x y K:=by
 unfold ku
 repeat' split
 all_goals first | exact .inl ⟨_,fun K=>Iff.rfl⟩ | exact .inr fun K h=>h
theorem nL (xs ys:List V):∀(fs:List (Nat × TypeId)) (g:Bool->(V->Prop)->Prop),(∀b,tG (g b))->tG fun K=>iE T xs ys fs fun b=>g b K
 | [],g,hg=>hg true
 | (o,t)::r,g,hg=>by
  intro K h;simp only[iE]at h ⊢;split at h<;>try exact h.elim
  rename_i x y _ _ _;rcases Ba (T t).kind x y with⟨b,hb⟩ | hb
  . rw[hb]at h;obtain⟨v,h1,h2⟩:=nL xs ys r (fun c=>g (b&&c)) (fun c=>hg _) K h
    exact⟨v,h1,by rw[hb]; exact h2⟩
  . exact absurd h (hb _)
theorem EC (op:BinOp) (t:TypeId) (x y:V):tG (Ed T op t x y):=by
 unfold Ed
 repeat' split
 all_goals first | exact ez (fP _) | exact yh _ _ _ _ | exact yi _ _ _ | exact sd _ _ | exact ez (sd _ _) | exact nL _ _ _ _ (sd _) | exact aT
theorem G0 (op:UnOp) (x:V):tG (Ku op x):=by
 unfold Ku;split<;>first | exact fP _ | exact aT
theorem Db (s d de:TK) (x:V):tG (xS s d de H x):=by
 unfold xS
 repeat' split
 all_goals first | exact fP _ | exact aT | exact se fun _=>ez (fP _) | exact ez (se fun _=>ez (fP _))
theorem AT (sz bl:Nat) (bc:Bool) (x:V) (lo hi mx:Option Int):tG (oR sz bl bc x lo hi mx):=by
 unfold oR
 repeat' split
 all_goals first | exact fP _ | exact aT | exact ez (fP _)
theorem pW (mx:Bool) (l:List V):∀v:V,tG (f9 mx v l):=by
 induction l with
 | nil =>
  intro v K h;cases v<;>simp only[f9]at h
  exact⟨_,h,by simp only[f9]⟩
 | cons x l ih =>
  intro v K h;cases v<;>(try (simp only[f9]at h; done))
  cases x<;>simp only[f9]at h ⊢
  exact ih _ K h
theorem uG (place:Nat->Option (Nat × Nat)):∀(l:List (Nat × V)) (cells:List V),tG (mq place cells l)
 | [],cells=>fun K h=>by
  simp only[mq]at h ⊢;exact yj cells _ K h
 | (i,v)::l,cells=>by
  intro K h;unfold mq at h;cases hp:place i<;>simp only[hp]at h
  rename_i os;obtain⟨off,size⟩:=os;cases hc:cellsOf v<;>simp only[hc]at h
  cases hb:Nat.beq (by assumption:List V).length size<;>simp only[hb]at h
  cases hb2:Nat.ble (off+size) cells.length<;>simp only[hb2]at h
  obtain⟨u,h1,h2⟩:=uG place l _ K h;exact⟨u,h1,by unfold mq; simp only[hp,hc,hb,hb2]; exact h2⟩
theorem El (o:Op) (e:Env) (H:List O):tG (aq T o e H):=by
 unfold aq;split
 . exact jy _
 . exact jy _
 . unfold Cu; repeat' split
   all_goals first | exact jy _ | exact aT
 . unfold wR; repeat' split
   all_goals first | exact uG _ _ _ | exact aT
 . unfold Ct; repeat' split
   all_goals first | exact lT _ _ _ | exact aT | exact se fun _=>ez (lT _ _ _)
 . unfold HU; repeat' split
   all_goals first | exact fP _ | exact aT
 . exact EC _ _ _ _
 . exact G0 _ _
 . exact Db _ _ _ _
 . intro K h;simp only[aW]at h ⊢;exact⟨_,h,rfl⟩
 . unfold s9; repeat' split
   all_goals first | exact AT _ _ _ _ _ _ _ | exact aT
 . unfold kD; repeat' split
   all_goals first | exact fP _ | exact aT
 . unfold wS; repeat' split
   all_goals first | exact lT _ _ _ | exact aT
 . unfold kE; repeat' split
   all_goals first | exact se fun _=>ez (fP _) | exact ez (fP _) | exact aT
 . unfold wU; repeat' split
   all_goals first | exact se fun _=>ez (fP _) | exact ez (lT _ _ _) | exact aT
 . unfold ot; repeat' split
   all_goals first | exact jy _ | exact aT
 . unfold wT; repeat' split
   all_goals first | exact aT | exact AU _ _
 . split
   . unfold HT; repeat' split
     all_goals first | exact fP _ | exact aT
   . unfold DL; repeat' split
     all_goals first | exact pW _ _ _ | exact aT
   . unfold DL; repeat' split
     all_goals first | exact pW _ _ _ | exact aT
   . exact aT
 . exact aT
theorem St.heap {w' : World} (h:St I ρ H w) (hh:w'.heap=w.heap):St I ρ H w' := by
 refine⟨h.len,fun i p o hp ho=>(h.obj i p o hp ho).keep (fun _ _=>by rw[hh]) (ILe.refl _) (PLe.refl _),h.inj,⟨fun b o v hv=>?_,h.imm.glob⟩,h.sep⟩
 rw[<-h.imm b o v hv];exact World.cell?_of_block (w:=w) (by rw[hh])
theorem tA (j k m:Nat) (h:Nat.testBit (2 ^ j ||| m) k=true):k=j\/Nat.testBit m k=true:=by
 rw[Nat.testBit_or,Bool.or_eq_true,Nat.testBit_two_pow]at h;rcases h with h | h
 . exact .inl (aB h).symm
 . exact .inr h
theorem sP:∀(l D:List Nat) (k:Nat),Nat.testBit (lw l D) k=true -> ∃j∈l,k=j\/Nat.testBit (D.getD j 0) k=true
 | [],D,k,h=>by simp[lw]at h
 | j::l,D,k,h=>by
  simp only[lw]at h;rw[Nat.testBit_or,Bool.or_eq_true]at h;rcases h with h | h
  . rcases tA _ _ _ h with h | h
    . exact⟨j,by simp,.inl h⟩
    . exact⟨j,by simp,.inr h⟩
  . obtain⟨j', h1,h2⟩:=sP l D k h;exact⟨j', by simp[h1],h2⟩
theorem rX:∀(ops:List Oper) (D:List Nat) (i:Nat),i<D.length->(cT ops D)[i]? = D[i]?
 | [],D,i,h=>rfl
 | o::ops,D,i,h=>by
  rw[cT,rX ops _ i (by simp; omega),List.getElem?_append_left h]
theorem uE:∀(ops:List Oper) (D:List Nat) (i:Nat) (o:Oper),ops[i]? = some o->(cT ops D)[D.length+i]? = some (lw (bp o) ((cT ops D).take (D.length+i)))
 | [],D,i,o,h=>by simp at h
 | x::ops,D,0,o,h=>by
  simp at h; subst h;rw[cT,Nat.add_zero,rX ops _ _ (by simp)]
  have:((cT ops (D ++ [lw (bp x) D])).take D.length)=D:=by
   apply List.ext_getElem?;intro j;by_cases hj:j<D.length
   . rw[List.getElem?_take_of_lt hj,rX ops _ j (by simp; omega),List.getElem?_append_left hj]
   . rw[List.getElem?_eq_none (by simp; omega),List.getElem?_eq_none (by omega)]
  rw[this]; simp
 | x::ops,D,i+1,o,h=>by
  have:=uE ops (D ++ [lw (bp x) D]) i o (by simpa using h)
  rw[cT];simp only[aD,List.length_singleton]at this;rw[show D.length+(i+1)=D.length+1+i by omega]
  exact this
theorem cI {ops:List Oper} {S:Nat->Prop} (hS:∀(i:Nat) (o:Oper),ops[i]? = some o->S i -> ∀k∈bp o,S k):∀(i:Nat) (o:Oper),ops[i]? = some o->(∀k∈bp o,S k) -> ∀j,Nat.testBit ((cT ops []).getD i 0) j=true->S j:=by
 intro i;induction i using Nat.strongRecOn with
 | _ i ih =>
  intro o ho he j hj;have hc:=uE ops [] i o ho;simp only[List.length_nil,Nat.zero_add]at hc;rw[List.getD,hc]at hj;simp only[Option.getD_some]at hj;obtain⟨k,hk,h⟩:=sP _ _ _ hj;rcases h with rfl | h
  . exact he _ hk
  . by_cases hki:k<i
    . have e1:((cT ops []).take i).getD k 0=(cT ops []).getD k 0:=by
       simp[List.getD,List.getElem?_take_of_lt hki]
      rw[e1]at h;cases hok:ops[k]? with
      | none =>
       exfalso;have:(cT ops [])[k]? = none:=by
        apply List.getElem?_eq_none;have hlen:∀(ops:List Oper) (D:List Nat),(cT ops D).length=D.length+ops.length:=by
         intro ops;induction ops with
         | nil=>intro D; rfl
         | cons x ops ihl=>intro D; rw[cT,ihl]; simp; omega
        rw[hlen]; simp;exact List.getElem?_eq_none_iff.1 hok
       simp[List.getD,this]at h
      | some ok=>exact ih k hki ok hok (fun m hm=>hS k ok hok (he k hk) m hm) j h
    . have:((cT ops []).take i).getD k 0=0:=by
       simp[List.getD,List.getElem?_eq_none (show((cT ops []).take i).length<=k by simp; omega)]
      rw[this]at h; simp at h
theorem x9 {o:Oper} {e:Edge} (he:e∈o.after) (hb:Region.binds .any e=true):e.on∈bp o:=by
 unfold bp;rw[List.mem_filterMap];refine⟨e,by simpa using he,?_⟩
 unfold Region.binds at hb;cases hg:e.ground<;>rw[hg]at hb<;>simp at hb ⊢
theorem yp {o:Oper} {k:Nat} (h:k∈bp o):∃e∈o.after,Region.binds .any e=true/\e.on=k:=by
 unfold bp at h;rw[List.mem_filterMap]at h;obtain⟨e,h1,h2⟩:=h;refine⟨e,by simpa using h1,?_⟩
 unfold Region.binds;cases hg:e.ground<;>rw[hg]at h2<;>simp at h2 ⊢<;>exact h2
theorem ph {ops:Array Oper} {listed:Array Bool} (hs:listed.size=ops.size) {i:Nat}:i∈Region.ready .any ops listed ↔ ∃o,ops[i]? = some o/\listed.getD i false=false /\ ∀k∈bp o,listed.getD k false=true:=by
 unfold Region.ready;rw[List.mem_filter,List.mem_range];constructor
 . rintro⟨h1,h2⟩;have ho:ops[i]? = some ops[i]:=by simp[h1]
   rw[ho]at h2;simp only[Option.map_some,Option.getD_some,Bool.and_eq_true,Bool.not_eq_true']at h2;refine⟨_,ho,?_,fun k hk=>?_⟩
   . have:=h2.1;simp[hs,h1]at this ⊢; exact this
   . obtain⟨e,he,hb,rfl⟩:=yp hk;have:=h2.2;rw[Array.all_eq_true']at this;have:=this e he;rw[hb]at this;simpa using this
 . rintro⟨o,h1,h2,h3⟩;have hlt:i<ops.size:=(Array.getElem?_eq_some_iff.1 h1).1;refine⟨hlt,?_⟩;rw[h1];simp only[Option.map_some,Option.getD_some,Bool.and_eq_true,Bool.not_eq_true'];refine⟨?_,?_⟩
   . simp[hs,hlt]at h2 ⊢; exact h2
   . rw[Array.all_eq_true'];intro e he;cases hb:Region.binds .any e with
     | false=>rfl
     | true =>
      have:=h3 _ (x9 he hb);simpa using this
theorem ACall.mono {P:Program} {f:FuncId} {k:Nat} {args:List V} {H:List O} {Q Q' : V->List O->Prop} (h:ACall P f k args H Q) (hq:∀r H', Q r H'->Q' r H'):ACall P f k args H Q' :=
 ⟨fun I ρ w us hst hk ha=>(h.out I ρ w us hst hk ha).mono fun en w' ⟨v,r,I', ρ', H', h1,h2,h3,h4,h5⟩=>⟨v,r,I', ρ', H', h1,h2,h3,h4,hq _ _ h5⟩⟩
theorem AYield.mono {P:Program} {k:Nat} {args:List V} {H:List O} {Q Q' : V->List O->Prop} (h:AYield P k args H Q) (hq:∀r H', Q r H'->Q' r H'):AYield P k args H Q' := by
 refine⟨fun I ρ w us hst hk ha=>?_⟩
 obtain⟨l,us', h1,fn,tmps,asg,body,h2,h3⟩:=h.out I ρ w us hst hk ha;refine⟨l,us', h1,fn,tmps,asg,body,h2,h3.mono ?_⟩;rintro en w' ⟨v,r,I', ρ', H', h1,h2,h3,h4,h5⟩;exact⟨v,r,I', ρ', H', h1,h2,h3,h4,hq _ _ h5⟩
theorem ur {P:Program} {f:Option FuncId} {k:Nat} {args:List V} {H:List O} {Q Q' : V->List O->Prop} (h:D5 P f k args H Q) (hq:∀r H', Q r H'->Q' r H'):D5 P f k args H Q' := by
 cases f with
 | some f=>exact ACall.mono h hq
 | none=>exact AYield.mono h hq
theorem rF {X:dI} (hs:X.stab=true) {f:Option FuncId} {args:List V} {e e2:Env} {K:V->Env->List O->Prop} (h:rD X f args e H K):rD X f args e2 H (fun v e1 H' => e1=e2/\K v e H'):=by
 unfold rD at h ⊢;cases h with
 | frz id hs' _ _ _=>rw[hs]at hs'; cases hs'
 | sub _ _ hs' _ _ _=>rw[hs]at hs'; cases hs'
 | adopt hs' _=>rw[hs]at hs'; cases hs'
 | pure hA=>exact .pure (ur hA fun r H' ⟨g1,g2⟩=>⟨g1,rfl,g2⟩)
 | call is k hok hA =>
 obtain⟨h1,h2,h3⟩:=hok;refine .call is k ⟨h1,h2,h3⟩ (ur hA ?_);intro r H' g5;have hk:k=is.length:=by
  rw[hs]at h3;simp at h3;exact Nat.eq_of_beq_eq_true (by simpa using h3)
 have e0:∀e,A3 is k e=e:=fun e=>by
  unfold A3;rw[hk,List.drop_length]
 rw[e0]at g5;exact⟨e0 e2,g5⟩
theorem mQ {sz:Nat} {K K' : List (List V)->Prop} (h:∀l,K l->K' l):∀(ps:List (Nat × V)) (es:List (List V)),jC sz es ps K->jC sz es ps K'
 | [],es,hh=>h _ hh
 | (i,v)::ps,es,hh=>by
  unfold jC at hh ⊢;cases hc:cellsOf v<;>simp only[hc]at hh ⊢
  split at hh<;>try exact hh.elim
  rw[aW]at hh ⊢;exact mQ h ps _ hh
theorem fh {sz bytes:Nat} {es:List (List V)} {K K' : V->List O->Prop} (h:∀v l,K v l->K' v l) (hh:bJ sz bytes es H K):bJ sz bytes es H K' := by
 unfold bJ at hh ⊢;rw[aj]at hh ⊢;exact⟨hh.1,h _ _ hh.2⟩
theorem vM {sz bytes:Nat} {s:V} {ys:List (List V)} {K K' : V->List O->Prop} (h:∀v l,K v l->K' v l) (hh:co sz bytes s ys H K):co sz bytes s ys H K' := by
 unfold co at hh ⊢;split at hh
 . exact fh h hh
 . split at hh
   . exact hh.elim
   . rename_i z es hb
     try simp only[hb]
     split at hh
     . exact fh h hh
     . exact⟨fun h0=>h _ _ (hh.1 h0),fun h0=>fh h (hh.2 h0)⟩
 . split at hh
   . exact hh.elim
   . rename_i z id off len full hb
     try simp only[hb]
     split at hh<;>try exact hh.elim
     rename_i es hes
     try simp only[hes]
     split at hh
     . exact⟨hh.1,fh h hh.2⟩
     . exact⟨hh.1,fun h0=>h _ _ (hh.2.1 h0),fun h0=>fh h (hh.2.2 h0)⟩
 . exact hh.elim
theorem CZ {sz bytes:Nat} {s x:V} {ys:List (List V)} {K K' : V->List O->Prop} (h:∀v l,K v l->K' v l) (hh:dW sz bytes s x ys H K):dW sz bytes s x ys H K' := by
 have win:∀s:V,gW sz s ys H K->gW sz s ys H K' := fun s hh=>by
  unfold gW at hh ⊢;split at hh
  . split at hh<;>try exact hh.elim
    split at hh<;>try exact hh.elim
    refine⟨hh.1,?_⟩;have:=hh.2;rw[aj]at this ⊢;exact h _ _ this
  . split at hh<;>try exact hh.elim
    split at hh<;>try exact hh.elim
    refine⟨fun h0=>h _ _ (hh.1 h0),fun h0=>?_⟩
    have:=hh.2 h0;refine⟨this.1,?_⟩;have:=this.2;rw[aj]at this ⊢;exact h _ _ this
  . exact hh.elim
 unfold dW at hh ⊢;split at hh
 . exact win _ hh
 . split at hh
   . exact win _ hh
   . exact vM h hh
theorem yq {sz:Nat} {x:V} {K K' : List (List V)->Prop} (h:∀l,K l->K' l) (hh:ki sz x H K):ki sz x H K' := by
 unfold ki at hh ⊢;split at hh
 . split at hh
   . exact h _ hh
   . exact hh.elim
 . exact h _ hh
 . split at hh
   . split at hh
     . exact⟨hh.1,h _ hh.2⟩
     . exact hh.elim
   . exact hh.elim
 . split at hh
   . exact h _ hh
   . exact hh.elim
 . exact hh.elim
theorem iy {x:V} {K K' : Option (Nat × V)->Prop} (h:∀r,K r->K' r):∀(kvs:List (V × V)) (i:Nat),gQ x kvs i K->gQ x kvs i K'
 | [],i,g=>h _ g
 | (y,v)::r,i,g=>by
  unfold gQ at g ⊢;split at g
  . rename_i b hb;cases b with
    | true=>exact h _ g
    | false=>exact iy h r (i+1) g
  . exact g.elim
theorem tQ {T:Nat->TI} {t:TypeId} {H:List O} {K K' : V->List O->Prop} (h:∀v l,K v l->K' v l) (g:jr T t H K):jr T t H K' := by
 unfold jr at g ⊢;split at g<;>try exact g.elim
 simp only[aj]at g ⊢;exact h _ _ g
theorem nr {T:Nat->TI} {t:TypeId} {m k x:V} {H:List O} {K K' : V->List O->Prop} (h:∀v l,K v l->K' v l) (g:j8 T t m k x H K):j8 T t m k x H K' := by
 unfold j8 at g ⊢;split at g<;>try exact g.elim
 split at g<;>try exact g.elim
 split at g<;>try exact g.elim
 split at g<;>try exact g.elim
 . refine iy (fun r hr=>?_) _ _ g
   split at hr<;>simp only[aj]at hr ⊢<;>exact h _ _ hr
 . split at g<;>try exact g.elim
   refine iy (fun r hr=>?_) _ _ g
   split at hr<;>simp only[aj]at hr ⊢<;>exact h _ _ hr
theorem vJ {T:Nat->TI} {t:TypeId} {m k:V} {H:List O} {K K' : V->List O->Prop} (h:∀v l,K v l->K' v l) (g:lM T t m k H K):lM T t m k H K' := by
 unfold lM at g ⊢;split at g<;>try exact g.elim
 split at g<;>try exact g.elim
 split at g<;>try exact g.elim
 split at g<;>try exact g.elim
 refine iy (fun r hr=>?_) _ _ g
 split at hr
 . simp only[aj]at hr ⊢; exact h _ _ hr
 . exact h _ _ hr
theorem vK {P:Program} {T:Nat->TI} {t:TypeId} {m k:V} {ok:Bool} {H:List O} {K K' : V->List O->Prop} (h:∀v l,K v l->K' v l) (g:lN P T t m k ok H K):lN P T t m k ok H K' := by
 unfold lN at g ⊢;split at g<;>try exact g.elim
 split at g<;>try exact g.elim
 split at g<;>try exact g.elim
 . split at g<;>try exact g.elim
   all_goals
    refine iy (fun r hr=>?_) _ _ g
    split at hr
    . simp only[cr]at hr ⊢; exact h _ _ hr
    . obtain⟨z,hz,hr⟩:=hr; exact⟨z,hz,h _ _ hr⟩
 . obtain⟨z,hz,hr⟩:=g; exact⟨z,hz,h _ _ hr⟩
theorem vL {T:Nat->TI} {t:TypeId} {l c:V} {H:List O} {K K' : V->List O->Prop} (h:∀v l,K v l->K' v l) (g:lO T t l c H K):lO T t l c H K' := by
 unfold lO at g ⊢;split at g<;>try exact g.elim
 split at g<;>try exact g.elim
 split at g<;>try exact g.elim
 refine⟨g.1,?_⟩;have:=g.2;simp only[aj]at this ⊢;exact h _ _ this
theorem Au {sz bytes:Nat} {zero:List V} {s:V} {n:Int} {H:List O} {K K' : V->List O->Prop} (h:∀v l,K v l->K' v l) (g:pQ sz bytes zero s n H K):pQ sz bytes zero s n H K' := by
 unfold pQ at g ⊢;split at g<;>try exact g.elim
 . split at g<;>try exact g.elim
   split at g<;>try exact g.elim
   exact⟨g.1,fh h g.2⟩
 . refine⟨g.1,g.2.1,?_⟩;have:=g.2.2;rw[aj]at this ⊢;exact h _ _ this
theorem CY {T:Nat->TI} {t:TypeId} {s:V} {H:List O} {K K' : V->List O->Prop} (h:∀v l,K v l->K' v l) (g:CX T t s H K):CX T t s H K' := by
 unfold CX at g ⊢;split at g<;>try exact g.elim
 split at g<;>try exact g.elim
 . split at g
   . exact h _ _ g
   . split at g<;>try exact g.elim
     refine⟨g.1,fun m=>?_⟩
     have:=g.2 m;simp only[aj]at this ⊢;exact h _ _ this
 . exact h _ _ g
 . exact h _ _ g
theorem zA {H:List O} {sz n:Nat} {x:V} {K K' : List (List V)->Prop} (h:∀l,K l->K' l) (g:pt H sz n x K):pt H sz n x K' := by
 unfold pt at g ⊢;split at g<;>try exact g.elim
 . split at g<;>try exact g.elim
   exact⟨g.1,h _ g.2⟩
 . split at g<;>try exact g.elim
   split at g<;>try exact g.elim
   . exact⟨g.1,h _ g.2⟩
   . exact⟨g.1,h _ g.2⟩
theorem Av {T:Nat->TI} {t:TypeId} {d x:V} {H:List O} {K K' : V->List O->Prop} (h:∀v l,K v l->K' v l) (g:uq T t d x H K):uq T t d x H K' := by
 unfold uq at g ⊢;split at g<;>try exact g.elim
 split at g<;>try exact g.elim
 split at g<;>try exact g.elim
 refine⟨g.1,zA (fun ys hy=>?_) g.2⟩
 split at hy<;>try exact hy.elim
 . refine⟨hy.1,?_⟩;have:=hy.2;simp only[aj]at this ⊢;exact h _ _ this
 . refine⟨hy.1,?_⟩;have:=hy.2;simp only[aj]at this ⊢;exact h _ _ this
theorem GF {X:dI} (hs:X.stab=true) {o:Op} {e e2:Env} (h:∀x∈o.operands,am e x=am e2 x) {K:V->Env->List O->Prop} (hh:ae X o e H K):ae X o e2 H (fun v e1 H' => e1=e2/\K v e H'):=by
 have hm:∀l:List Operand,(∀x∈l,am e x=am e2 x)->l.map (am e)=l.map (am e2):=fun l hl=>List.map_congr_left hl
 cases o<;>simp only[Op.operands]at h<;>simp only[ae]at hh ⊢<;>try exact hh.elim
 case alloc t =>
  split at hh
  . rename_i hg;simp only[aW,aj]at hh ⊢;exact⟨trivial,hh⟩
  . exact hh.elim
 case box t x =>
  rw[<-h x (by simp)]
  split at hh
  . simp only[aW,aj]at hh ⊢;exact⟨trivial,hh⟩
  . exact hh.elim
 case buildSlice t n ps =>
  have:(ps.toList.map fun p=>(p.1,am e p.2))=ps.toList.map fun p=>(p.1,am e2 p.2):=List.map_congr_left fun p hp=>by
   rw[h p.2 (by simp; exact⟨p.1,by simpa using hp⟩)]
  simp only[hs]at hh ⊢;unfold Ax at hh ⊢;rw[<-this];split at hh<;>try exact hh.elim
  split at hh<;>try exact hh.elim
  split at hh<;>try exact hh.elim
  exact mQ (fun l hl=>by simp only[aj]at hl ⊢; exact⟨trivial,hl⟩) _ _ hh
 case store t x y =>
  rw[<-h x (by simp),<-h y (by simp)]
  split at hh<;>try exact hh.elim
  split at hh<;>try exact hh.elim
  split at hh<;>try exact hh.elim
  . split at hh<;>try exact hh.elim
    split at hh<;>try exact hh.elim
    simp only[aW,aj]at hh ⊢;exact⟨trivial,hh⟩
  . split at hh<;>try exact hh.elim
    obtain⟨z,hz,hh⟩:=hh;refine⟨z,hz,?_⟩;split at hh<;>try exact hh.elim
    simp only[aW,aj]at hh ⊢;exact⟨trivial,hh⟩
 case range t x =>
  rw[<-h x (by simp)]
  split at hh<;>try exact hh.elim
  . simp only[aj]at hh ⊢;exact⟨trivial,hh⟩
  . split at hh<;>try exact hh.elim
    simp only[aj]at hh ⊢;exact fun B=>⟨trivial,hh B⟩
 case next x b =>
  cases b<;>simp only at hh ⊢
  . rw[<-h x (by simp)]
    split at hh<;>try exact hh.elim
    split at hh<;>try exact hh.elim
    simp only[aj]at hh ⊢;exact⟨fun h0=>⟨trivial,hh.1 h0⟩,fun j kv hb=>⟨trivial,hh.2 j kv hb⟩⟩
  . rw[<-h x (by simp)]
    split at hh<;>try exact hh.elim
    split at hh<;>try exact hh.elim
    simp only[aj]at hh ⊢;exact⟨fun h0=>⟨trivial,hh.1 h0⟩,fun b r hb=>⟨trivial,hh.2 b r hb⟩⟩
 case entry x =>
  rw[<-h x (by simp)]
  split at hh<;>try exact hh.elim
  split at hh<;>try exact hh.elim
  split at hh<;>try exact hh.elim
  exact⟨trivial,hh⟩
 case call c =>
  have hargs:c.args.toList.map (am e)=c.args.toList.map (am e2):=hm _ (fun x hx=>h x (by simp[Call.operands]; exact .inr (by simpa using hx)))
  cases hc:c.callee with
  | value g =>
   have hg:am e g=am e2 g:=h g (by simp[Call.operands,hc])
   simp only[hc]at hh ⊢;rw[<-hg,<-hargs];split at hh<;>try exact hh.elim
   . split at hh
     . exact rF hs hh
     . obtain⟨r,hr,hh⟩:=hh;exact⟨r,hr,trivial,hh⟩
   . exact rF hs hh
  | invoke r m=>simp only[hc]at hh
  | builtin b =>
   simp only[hc]at hh ⊢;cases b<;>simp only at hh ⊢
   case append =>
    split at hh<;>try exact hh.elim
    rename_i s x t t2 ha hat;have e1:ao e s=ao e2 s:=by unfold ao; rw[h s (by simp[Call.operands,hc]; rw[show s∈c.args ↔ s∈c.args.toList by simp,ha]; simp)]
    have e2' : ao e x=ao e2 x:=by unfold ao; rw[h x (by simp[Call.operands,hc]; rw[show x∈c.args ↔ x∈c.args.toList by simp,ha]; simp)]
    rw[<-e1,<-e2'];split at hh<;>try exact hh.elim
    split at hh<;>try exact hh.elim
    . exact yq (fun ys hy=>CZ (fun v l hl=>⟨trivial,hl⟩) hy) hh
    . split at hh<;>try exact hh.elim
      exact Au (fun v l hl=>⟨trivial,hl⟩) hh
   case delete =>
    split at hh<;>try exact hh.elim
    rename_i m x t t2 ha hat;have e1:ao e m=ao e2 m:=by unfold ao; rw[h m (by simp[Call.operands,hc]; rw[show m∈c.args ↔ m∈c.args.toList by simp,ha]; simp)]
    have e2' : ao e x=ao e2 x:=by unfold ao; rw[h x (by simp[Call.operands,hc]; rw[show x∈c.args ↔ x∈c.args.toList by simp,ha]; simp)]
    rw[<-e1,<-e2'];exact vJ (fun v l hl=>⟨trivial,hl⟩) hh
   case cap =>
    split at hh<;>try exact hh.elim
    rename_i s t ha hat;have e1:ao e s=ao e2 s:=by unfold ao; rw[h s (by simp[Call.operands,hc]; rw[show s∈c.args ↔ s∈c.args.toList by simp,ha]; simp)]
    rw[<-e1];exact CY (fun v l hl=>⟨trivial,hl⟩) hh
   case copy =>
    split at hh<;>try exact hh.elim
    rename_i d x t t2 ha hat;have e1:ao e d=ao e2 d:=by unfold ao; rw[h d (by simp[Call.operands,hc]; rw[show d∈c.args ↔ d∈c.args.toList by simp,ha]; simp)]
    have e2' : ao e x=ao e2 x:=by unfold ao; rw[h x (by simp[Call.operands,hc]; rw[show x∈c.args ↔ x∈c.args.toList by simp,ha]; simp)]
    rw[<-e1,<-e2'];exact Av (fun v l hl=>⟨trivial,hl⟩) hh
   case clear =>
    split at hh<;>try exact hh.elim
    rename_i s t ha hat;have e1:ao e s=ao e2 s:=by unfold ao; rw[h s (by simp[Call.operands,hc]; rw[show s∈c.args ↔ s∈c.args.toList by simp,ha]; simp)]
    rw[<-e1];split at hh<;>try exact hh.elim
    split at hh<;>try exact hh.elim
    split at hh<;>try exact hh.elim
    split at hh<;>try exact hh.elim
    refine⟨hh.1,?_⟩;have:=hh.2;rw[aj]at this ⊢;exact⟨trivial,this⟩
 case makeMap t r =>
  cases r<;>simp only at hh ⊢
  exact tQ (fun v l hl=>⟨trivial,hl⟩) hh
 case mapUpdate t m k x =>
  rw[show ao e2 m=ao e m by unfold ao; rw[h m (by simp)],show ao e2 k=ao e k by unfold ao; rw[h k (by simp)],show am e2 x=am e x from(h x (by simp)).symm]
  exact nr (fun v l hl=>⟨trivial,hl⟩) hh
 case insert t m k x =>
  rw[show ao e2 m=ao e m by unfold ao; rw[h m (by simp)],show ao e2 k=ao e k by unfold ao; rw[h k (by simp)],show am e2 x=am e x from(h x (by simp)).symm]
  exact nr (fun v l hl=>⟨trivial,hl⟩) hh
 case lookup t m k ok =>
  rw[show ao e2 m=ao e m by unfold ao; rw[h m (by simp)],show ao e2 k=ao e k by unfold ao; rw[h k (by simp)]]
  exact vK (fun v l hl=>⟨trivial,hl⟩) hh
 case makeSlice t l c =>
  rw[show ao e2 l=ao e l by unfold ao; rw[h l (by simp)],show ao e2 c=ao e c by unfold ao; rw[h c (by simp)]]
  exact vL (fun v l hl=>⟨trivial,hl⟩) hh
end
section
variable [Globs]
variable {P:Program} {T:Nat->TI}
def Jc:Value->Option Nat
 | .pointer (some a)=>some a.block
 | .slice (some a) _ _=>some a.block
 | _=>none
def EOk (X:dI) (ev:Operand->Value) (c:Obj) (o:Oper) (u:Value) (b:Nat):Prop :=
 ∀(I:aU) (ρ:List Pl) (H:List O) (w:World) (e:Env) (K:V->Env->List O->Prop),St I ρ H w->w.heap[b]? = some c->(∀x∈o.op.operands,VRel I ρ (am e x) (ev x))->ae X o.op e H K ->
  ∃v ob p,K v e (H ++ [ob])/\p.b=b/\VRel I (ρ ++ [p]) v u/\ORel I (ρ ++ [p]) w p ob/\(∀b', ob.owns p b'->ob.has p/\p.b=b')
theorem EOk.congr {X:dI} {ev ev' : Operand->Value} {c:Obj} {o:Oper} {u:Value} {b:Nat} (h:EOk X ev c o u b) (he:∀x∈o.op.operands,ev' x=ev x):EOk X ev' c o u b :=
 fun I ρ H w e K hst hw hx hae=>h I ρ H w e K hst hw (fun x hx' => by rw[<-he x hx']; exact hx x hx') hae
theorem rU (hT:bH P T) {t:TypeId} {len:Nat} {parts:Array (Nat × Operand)} {q:TypeId} (hq:eJ (T q)=true) {e:Env} {K:List (List V)->Prop}
 (h:jC (T q).size (List.replicate len (T q).zero) (parts.toList.map fun p=>(p.1,am e p.2)) K) {i:TypeInfo} {z:Value} (g1:P.info? q=some i) (g2:i.zero=some z) :
 ∃es,K es/\es.length=len/\AllLen i.size es /\ ∀(I:aU) (ρ:List Pl) (ev:Operand->Value),(∀p∈parts.toList,VRel I ρ (am e p.2) (ev p.2)) ->
  ∃r,Instr.fill (fun j=>some (j*i.size,i.size)) (ag z.cells (len*i.size)) (parts.toList.map fun p=>(p.1,ev p.2))=some r/\VRels I [] es.flatten r.toList/\(∀(j:Nat) (u:Value),r[j]? = some u->u.oneCell'=true)/\r.size=len*i.size:=by
 obtain⟨i0,z0,h1,h2,g3,g4,g5,g6,g7,g8,hg⟩:=dB hT hq;rw[g1]at h1; cases h1;rw[g2]at h2; cases h2;obtain⟨i', z', d,f1,f2,f3,f4,f5⟩:=bS hT hg;rw[g1]at f1; cases f1;rw[g2]at f2; cases f2;have hzero:(T q).zero=z.cells.toList.map cV:=by rw[f4]
 have hlz:(T q).zero.length=(T q).size:=by rw[hzero,g3]; simp[g8]
 obtain⟨es,hK,hlen,hal,hv⟩:=p8 _ _ h (c9 hlz len);rw[g3]at hal hv;have hlen' : es.length=len:=by rw[hlen]; simp
 refine⟨es,hK,hlen', hal,fun I ρ ev hev=>?_⟩
 have hflat:VRels I [] (List.replicate len (T q).zero).flatten (ag z.cells (len*i.size)).toList:=by
  refine⟨by rw[bt (c9 hlz len),g3]; simp[ag],fun j x u hx hu=>?_⟩
  have hjl:j<len*z.cells.size:=by
   have:=(liZ.1 hu).1;simp[ag]at this; rw[g8]; exact this
  have hz0:=ce hjl;rw[<-g8]at hu;have hu' : (ag z.cells (len*z.cells.size))[j]? = some u:=by simpa using hu
  rw[hz0.1]at hu';obtain⟨y,h1,h2,h3,h4⟩:=gu (c9 hlz len) hx;have hy:y=(T q).zero:=(List.mem_replicate.1 (List.mem_of_getElem? h1)).2;subst hy;rw[g3,<-g8]at h2;exact(cA z.cells).2 (j % z.cells.size) x u (by rw[<-hzero]; exact h2) (by simpa using hu')
 have hone:∀(j:Nat) (u:Value),(ag z.cells (len*i.size))[j]? = some u->u.oneCell'=true:=by
  intro j u hu;have hjl:j<len*z.cells.size:=by
   have:=(Array.getElem?_eq_some_iff.1 hu).1;simp[ag]at this; rw[g8]; exact this
  have hz0:=ce hjl;rw[<-g8,hz0.1]at hu;exact cN f5 _ u hu
 obtain⟨r,r1,r2,r3⟩:=hv I ρ (ag z.cells (len*i.size)) (parts.toList.map fun p=>(p.1,ev p.2)) hflat hone (by simp[List.map_map,Function.comp_def]) (by
  refine⟨by simp,fun j x u hx hu=>?_⟩
  simp only[List.map_map,List.getElem?_map,Function.comp_def]at hx hu;cases hp:parts.toList[j]? with
  | none=>rw[hp]at hx; cases hx
  | some p =>
   rw[hp]at hx hu;cases hx; cases hu;exact hev p (List.mem_of_getElem? hp))
 refine⟨r,r1,r2,r3,?_⟩;have:=r2.1; rw[bt hal,hlen']at this; simpa using this.symm
theorem Br {t:TypeId} {len:Nat} {parts:Array (Nat × Value)} {q:TypeId} (hu:P.underlying t=some (.slice q)) {i:TypeInfo} {z:Value} (g1:P.info? q=some i) (g2:i.zero=some z) (hle:len*i.size<=16777216) {r:Array Value}
 (hfill:Instr.fill (fun j=>some (j*i.size,i.size)) (ag z.cells (len*i.size)) parts.toList=some r) (w:World) :
 (Instr.buildSlice t len parts).run P w = .ok (.slice (some ⟨w.heap.size,0,none⟩) len len) { w with heap:=w.heap.push (.cells r q) }:=by
 by_cases h0:len*i.size=0
 . have hr0:ag #[] (len*i.size)=ag z.cells (len*i.size):=by rw[h0]; simp[ag]
   rw[<-hr0]at hfill;unfold Instr.buildSlice;simp only[Sem.run_bind,af hu,Result.andThen_ok,bu g1,Sem.run_ite,gt_iff_lt];rw[if_neg (by omega),if_pos h0]
   simp only[Sem.run_pure,Result.andThen_ok];unfold ag at hfill;rw[hfill];simp[newRow]
 . unfold Instr.buildSlice;simp only[Sem.run_bind,af hu,Result.andThen_ok,bu g1,Sem.run_ite,gt_iff_lt];rw[if_neg (by omega),if_neg h0]
   unfold ag at hfill;simp only[Sem.run_bind,zeroValue,typeInfo,run_program,Result.andThen_ok,g1,Sem.run_pure,g2];rw[hfill];simp[newRow]
theorem memN_iff {n:Nat}:∀ {l:List Nat},n8 n l=true ↔ n∈l
 | []=>by simp[n8]
 | j::l=>by
  unfold n8;cases hb:Nat.beq n j with
  | true=>simp[Nat.eq_of_beq_eq_true hb]
  | false =>
   have:n≠j:=fun e=>by subst e; rw[Nat.beq_refl]at hb; cases hb
   simp[this,memN_iff (l:=l)]
theorem uK {sz:Nat} {K:Prop}:∀(ps:List (Nat × V)) (es:List (List V)),jC sz es ps (fun _=>K)->K
 | [],es,h=>h
 | (i,v)::ps,es,h=>by
  unfold jC at h;split at h
  . exact h.elim
  . split at h
    . rw[aW]at h;exact uK ps _ h
    . exact h.elim
def lB (T:Nat->TI) (o:Oper) (e:Env):Prop :=
 match o.op with
 | .buildSlice t len parts=>match (T t).kind with
  | .sl q=>jC (T q).size (List.replicate len (T q).zero) (parts.toList.map fun p=>(p.1,am e p.2)) fun _=>True
  | _=>False
 | _=>True
theorem fU {ops:List Oper} {D:List Nat} {i:Nat} {L:List Nat} {e:Env} {K:Prop}:∀ {r:List Nat},pV T ops D i L e K r->K /\ ∀j∈r,∀o,ops[j]? = some o->Nat.testBit (D.getD j 0) i=false->lB T o e/\((∃t len parts,o.op = .buildSlice t len parts) -> ∀k∈bp o,k ∉ L)
 | [],h=>⟨h,fun j hj=>by cases hj⟩
 | x::r,h=>by
  unfold pV at h;cases ho:ops[x]? with
  | none =>
   simp only[ho]at h;obtain⟨h1,h2⟩:=fU h;refine⟨h1,fun j hj o hoj hb=>?_⟩
   rcases List.mem_cons.1 hj with rfl | hj
   . rw[ho]at hoj; cases hoj
   . exact h2 j hj o hoj hb
  | some ox =>
   simp only[ho]at h;split at h
   . rename_i t len parts hop;split at h
     . rename_i hb1;obtain⟨h1,h2⟩:=fU h;refine⟨h1,fun j hj o hoj hb=>?_⟩
       rcases List.mem_cons.1 hj with rfl | hj
       . rw[hb1]at hb; cases hb
       . exact h2 j hj o hoj hb
     . split at h
       . rename_i q hall hk;have hK:pV T ops D i L e K r:=uK _ _ h;obtain⟨h1,h2⟩:=fU hK;refine⟨h1,fun j hj o hoj hb=>?_⟩
         rcases List.mem_cons.1 hj with rfl | hj
         . rw[ho]at hoj; cases hoj;refine⟨?_,fun _ k hk' hkL=>?_⟩
           . unfold lB;simp only[hop,hk];exact mQ (fun _ _=>trivial) _ _ h
           . rw[List.all_eq_true]at hall;have:=hall k hk';rw[memN_iff.2 hkL]at this;cases this
         . exact h2 j hj o hoj hb
       . exact h.elim
   . rename_i hno;obtain⟨h1,h2⟩:=fU h;refine⟨h1,fun j hj o hoj hb=>?_⟩
     rcases List.mem_cons.1 hj with rfl | hj
     . rw[ho]at hoj; cases hoj;refine⟨?_,fun⟨t,len,parts,hp⟩=>absurd hp (hno t len parts)⟩
       unfold lB;split
       . rename_i t len parts hp; exact absurd hp (hno t len parts)
       . trivial
     . exact h2 j hj o hoj hb
theorem AI {ops:List Oper} {D:List Nat} {i:Nat} {o:Oper} {L:List Nat} {e:Env} {K:Prop} (hl:loud o=false) (h:C4 T ops D i o L e K):K:=by
 unfold C4 at h;simp only[hl]at h; exact h
theorem Dl {X:dI} (hX:CtxOk X) (hs:X.stab=true) {o:Oper} (hb:bL o=true) (hok:lR X.T X.n o=true) {I:aU} {ρ:List Pl} {H:List O} {w:World} {a:Act} {e:Env} (hfit:lB X.T o e) (hrel:(∃t len parts,o.op = .buildSlice t len parts) -> ∀x∈o.op.operands,VRel I ρ (am e x) (a.eval x)) :
 ∃d u c,o.dst=some d/\o.guard=none/\d<X.n/\(∀k,o.op ≠ .defer k)/\(execOp a.eval o).run X.P w = .ok (.value u) { w with heap:=w.heap.push c } /\ Jc u=some w.heap.size/\EOk X a.eval c o u w.heap.size:=by
 unfold bL at hb;split at hb<;>try (cases hb; done)
 ·
  rename_i t d hop hg hd;unfold lR at hok;simp only[hop,hd,Bool.and_eq_true]at hok;obtain⟨i,z,td,g1,g2,g3,g4,g5⟩:=bS hX.T hok.1;refine⟨d,.pointer (some ⟨w.heap.size,0,none⟩),.cells z.cells t (0,0),hd,hg,aA hok.2,by simp[hop],?_,rfl,?_⟩
  . simp[execOp,hop,Instr.alloc,zeroValue,typeInfo,g1,g2,newVar,newRow]
  . intro I' ρ' H' w' e' K hst hw hx hae;simp only[hop,ae,hok.1,aW,aj]at hae;obtain⟨c1,c2,c3⟩:=oU (I:=I') (ρ:=ρ' ++ [⟨w.heap.size,0,0,0⟩]) (w:=w') (cs:=(X.T t).zero) (us:=z.cells) (by rw[g4]; exact cA z.cells) (cN g5) hw
    refine⟨_,_,⟨w.heap.size,0,0,0⟩,hae,rfl,?_,⟨rfl,c1,c2,c3⟩,fun _ h=>h⟩
    exact VRel.ptr (I:=I') (ρ' ++ [⟨w.heap.size,0,0,0⟩]) H'.length 0 ⟨w.heap.size,0,0,0⟩ (by rw[<-hst.len]; simp)
 ·
  rename_i t x d hop hg hd;unfold lR at hok;simp only[hop,hd]at hok;refine⟨d,.pointer (some ⟨w.heap.size,0,none⟩),.cells (a.eval x).cells t (0,0),hd,hg,aA hok,by simp[hop],?_,rfl,?_⟩
  . simp[execOp,hop,Instr.box,newVar,newRow]
  . intro I' ρ' H' w' e' K hst hw hx hae;simp only[hop,ae]at hae;cases hc:cellsOf (am e' x)<;>simp only[hc]at hae
    rename_i cs;simp only[aW,aj]at hae;have hxx:VRel I' ρ' (am e' x) (a.eval x):=hx x (by simp[hop,Op.operands])
    obtain⟨s1,s2,s3,s4⟩:=fc hc hxx;obtain⟨c1,c2,c3⟩:=oU (I:=I') (ρ:=ρ' ++ [⟨w.heap.size,0,0,0⟩]) (w:=w') (cs:=cs) (us:=(a.eval x).cells) (s2.mono (ILe.refl _) (PLe.append _ _)) s4 hw;refine⟨_,_,⟨w.heap.size,0,0,0⟩,hae,rfl,?_,⟨rfl,c1,c2,c3⟩,fun _ h=>h⟩
    exact VRel.ptr (I:=I') (ρ' ++ [⟨w.heap.size,0,0,0⟩]) H'.length 0 ⟨w.heap.size,0,0,0⟩ (by rw[<-hst.len]; simp)
 ·
  rename_i t len parts d hop hg hd;unfold lR at hok;simp only[hop,hd,Bool.and_eq_true]at hok;obtain⟨hok,hdn⟩:=hok;cases hk:(X.T t).kind<;>simp only[hk]at hok<;>try (cases hok; done)
  rename_i q;simp only[Bool.and_eq_true]at hok;obtain⟨hq,hle⟩:=hok;obtain⟨i,z,g1,g2,g3,g4,g5,g6,g7,g8,hgd⟩:=dB hX.T hq;unfold lB at hfit;simp only[hop,hk]at hfit;have hle' : len*i.size<=16777216:=by rw[<-g3]; exact aA hle
  have hmem:∀p∈parts.toList,p.2∈o.op.operands:=fun p hp=>by
   simp only[hop,Op.operands];simp only[List.mem_toArray,List.mem_map];exact⟨p,hp,rfl⟩
  obtain⟨_,_,_,_,hv⟩:=rU (parts:=parts) (t:=t) hX.T hq hfit g1 g2;obtain⟨r,r1,_,_,rs⟩:=hv I ρ a.eval fun p hp=>hrel ⟨t,len,parts,hop⟩ p.2 (hmem p hp)
  have hu:=dv hX.T hk;have hmap:(parts.map fun(j,x)=>(j,a.eval x)).toList=parts.toList.map fun p=>(p.1,a.eval p.2):=by simp
  refine⟨d,.slice (some ⟨w.heap.size,0,none⟩) len len,.cells r q (0,0),hd,hg,aA hdn,by simp[hop],?_,rfl,?_⟩
  . have:=Br (parts:=parts.map fun(j,x)=>(j,a.eval x)) hu g1 g2 hle' (by rw[hmap]; exact r1) w
    simp[execOp,hop,this]
  . intro I' ρ' H' w' e' K hst hw hx hae;simp only[hop,ae,hs,Ax,hk,hq,hle]at hae;simp only[aj]at hae;obtain⟨es,hK,hlen,hal,hv'⟩:=rU (parts:=parts) (t:=t) hX.T hq hae g1 g2;obtain⟨r', q1,q2,q3,q4⟩:=hv' I' ρ' a.eval fun p hp=>hx p.2 (hmem p hp)
    rw[r1]at q1; cases q1;refine⟨_,_,⟨w.heap.size,0,i.size,len⟩,hK,rfl,?_,.inr ⟨by rw[hlen]; exact Nat.le_refl _,⟨r,q,(0,0),hw,by rw[Nat.zero_add,rs]; exact Nat.le_refl _,fun o _=>by simp[World.frozen?,hw]⟩,fun j x hxj=>⟨hal x (List.mem_of_getElem? hxj),fun m v hv=>?_⟩⟩,fun _ h=>h⟩
    . have:=VRel.ms (I:=I') (ρ' ++ [⟨w.heap.size,0,i.size,len⟩]) H'.length 0 len len true ⟨w.heap.size,0,i.size,len⟩ (by rw[<-hst.len]; simp) (by omega) (by simp) (by simp) (by simp)
      rw[g3];simpa using this
    . have hf:=iF hal hxj hv;have hlt:=(liZ.1 hf).1;rw[q2.1]at hlt;have hlt3:j*i.size+m<r.size:=by simpa using hlt
      refine⟨r[j*i.size+m],by simp[World.cell?,hw,hlt3],q3 (j*i.size+m) r[j*i.size+m] (by simp[hlt3]),q2.2 (j*i.size+m) v r[j*i.size+m] hf (by simp[hlt3])⟩
end
end Go.Proofs.YteiagdlfccbpcaaGreatDoorPg
