/- Own texts, laid together: PgA6, PgA7. -/
import Derived.Test.YteiagdlfccbpcaaGreatDoorPgM3
import Derived.Laws.StructEq
set_option linter.unusedSectionVars false
set_option linter.unusedSimpArgs false
set_option linter.unusedVariables false
namespace Go.Proofs.YteiagdlfccbpcaaGreatDoorPg
open Go Go.RowKit
section
variable [Globs]
variable {P:Program} {T:Nat->TI} {I:aU} {ρ:List Pl} {H:List O} {w:World} {e:Env}
theorem Kj {o:Oper} {v:V} {K:V->Prop} (hK:K v) (h:∀(I:aU) (ρ:List Pl) (w:World) (a:Act),St I ρ H w->(∀x,VRel I ρ (am e x) (a.eval x)) -> ∃u,(execOp a.eval o).run P w = .ok (.value u) w/\VRel I ρ v u):∃v,K v/\lL P o e H v :=
 ⟨v,hK,fun I ρ w a hst he=>h I ρ w a hst (aE he)⟩
theorem dG {o:Oper} {v:V} {K:V->Prop} (hK:K v) (h:∀(I:aU) (ρ:List Pl) (w:World) (a:Act),St I ρ H w->(∀x,VRel I ρ (ao e x) (a.eval x)) -> ∃u,(execOp a.eval o).run P w = .ok (.value u) w/\VRel I ρ v u):∃v,K v/\lL P o e H v :=
 ⟨v,hK,fun I ρ w a hst he=>h I ρ w a hst (aI he)⟩
theorem yf (a b:ByteArray):(a++b).data.toList=a.data.toList++b.data.toList:=by simp
theorem FK {o:Oper} {op:BinOp} {t:TypeId} {x y:Operand} {yt:TypeId} (ho:o.op = .binOp op t x y yt) {m n:List UInt8}
 (hx:ao e x = .str m) (hy:ao e y = .str n) {K:V->Prop} (h:nu op m n K):∃v,K v/\lL P o e H v:=by
 have key:∀r:V,K r->(∀(w:World) (a b:ByteArray),a.data.toList=m->b.data.toList=n -> ∃u,(binOp op t (.string a) (.string b)).run P w = .ok u w /\ ∀(I:aU) (ρ:List Pl),VRel I ρ r u) -> ∃v,K v/\lL P o e H v:=fun r hK hr =>
  dG hK fun I ρ w a hst he=>by
   have h1:=he x;have h2:=he y;rw[hx]at h1; rw[hy]at h2;obtain⟨s,hs,e1⟩:=eM h1;obtain⟨q,hq,e2⟩:=eM h2;obtain⟨u,hu,hv⟩:=hr w s q hs hq;exact⟨u,jd ho e1 e2 (by simp) (by simp) hu,hv I ρ⟩
 have heq:∀a b:ByteArray,a.data.toList=m->b.data.toList=n->(a.toList == b.toList)=decide (m=n):=by
  intro a b ha hb; subst ha; subst hb; exact Gd a b
 have hlt:∀a b:ByteArray,a.data.toList=m->b.data.toList=n->Op.bytesLess a.toList b.toList=Op.bytesLess m n:=by
  intro a b ha hb; subst ha; subst hb; rw[ByteArray.toList_eq,ByteArray.toList_eq]
 cases op<;>simp only[nu]at h<;>try exact h.elim
 case add =>
  refine key _ h.2 fun w a b ha hb=>⟨.string (a++b),?_,fun I ρ=>gh _ (by rw[yf,ha,hb])⟩
  have e1:a.size=m.length:=by rw[<-ha]; rfl
  have e2:b.size=n.length:=by rw[<-hb]; rfl
  have h1:=h.1;simp only[binOp,Op.stringOp];rw[if_neg]
  . rfl
  . rw[show IntKind.i64.max=9223372036854775807 from by decide]
    rw[e1,e2]; omega
 case eql=>exact key _ h fun w a b ha hb=>⟨_,by simp only[binOp,Op.stringOp]; rfl,fun I ρ=>by rw[heq a b ha hb]; exact .bool _ _⟩
 case neq=>exact key _ h fun w a b ha hb=>⟨_,by simp only[binOp,Op.stringOp]; rfl,fun I ρ=>by rw[heq a b ha hb]; exact .bool _ _⟩
 case lss=>exact key _ h fun w a b ha hb=>⟨_,by simp only[binOp,Op.stringOp]; rfl,fun I ρ=>by rw[hlt a b ha hb]; exact .bool _ _⟩
 case leq=>exact key _ h fun w a b ha hb=>⟨_,by simp only[binOp,Op.stringOp]; rfl,fun I ρ=>by rw[heq a b ha hb,hlt a b ha hb]; exact .bool _ _⟩
 case gtr=>exact key _ h fun w a b ha hb=>⟨_,by simp only[binOp,Op.stringOp]; rfl,fun I ρ=>by rw[heq a b ha hb,hlt a b ha hb]; exact .bool _ _⟩
 case geq=>exact key _ h fun w a b ha hb=>⟨_,by simp only[binOp,Op.stringOp]; rfl,fun I ρ=>by rw[hlt a b ha hb]; exact .bool _ _⟩
theorem kQ {o:Oper} {op:BinOp} {t:TypeId} {x y:Operand} {yt:TypeId} (ho:o.op = .binOp op t x y yt) {b:Bool} {K:V->Prop} (h:j9 op b K)
 (hr:∀(I:aU) (ρ:List Pl) (w:World) (a:Act),(∀x,VRel I ρ (ao e x) (a.eval x))->(Op.equal t (a.eval x) (a.eval y)).run P w = .ok b w/\a.eval x ≠ .nilIface/\(∀c,a.eval x ≠ .agg c) /\
  (∀k n,a.eval x ≠ .int k n)/\(∀s,a.eval x ≠ .string s)/\(∀k n,a.eval x ≠ .float k n)/\(∀k m n,a.eval x ≠ .complex k m n)):∃v,K v/\lL P o e H v:=by
 have key:∀(w:World) (u v:Value),(Op.equal t u v).run P w = .ok b w->u ≠ .nilIface->(∀c,u ≠ .agg c)->(∀k n,u ≠ .int k n)->(∀s,u ≠ .string s)->(∀k n,u ≠ .float k n)->(∀k m n,u ≠ .complex k m n) ->
  (binOp .eql t u v).run P w = .ok (.bool b) w/\(binOp .neq t u v).run P w = .ok (.bool (!b)) w:=by
  intro w u v h1 h2 h3 h4 h5 h6 h7;constructor<;>(unfold binOp; split<;>first | (exfalso; first | exact h4 _ _ rfl | exact h5 _ rfl | exact h6 _ _ rfl | exact h7 _ _ _ rfl | contradiction) | (simp[h1]))
 cases op<;>simp only[j9]at h<;>try exact h.elim
 case eql =>
  refine dG h fun I ρ w a hst he=>?_
  obtain⟨h1,h2,h3,h4,h5,h6,h7⟩:=hr I ρ w a he;exact⟨_,jd ho rfl rfl h2 h3 (key w _ _ h1 h2 h3 h4 h5 h6 h7).1,.bool _ _⟩
 case neq =>
  refine dG h fun I ρ w a hst he=>?_
  obtain⟨h1,h2,h3,h4,h5,h6,h7⟩:=hr I ρ w a he;exact⟨_,jd ho rfl rfl h2 h3 (key w _ _ h1 h2 h3 h4 h5 h6 h7).2,.bool _ _⟩
theorem ii {t q:TypeId} (h:P.underlying t=some (.pointer q)) (p:Option Addr) (w:World):(Op.equal t (.pointer p) (.pointer none)).run P w = .ok p.isNone w:=by
 show(Op.equalIn (9999+1) t _ _).run P w=_
 rw[Op.equalIn];cases p<;>simp[af h]
theorem nO {t q:TypeId} (h:P.underlying t=some (.slice q)) (p:Option Addr) (l c:Nat) (w:World):(Op.equal t (.slice p l c) (.slice none 0 0)).run P w = .ok p.isNone w:=by
 show(Op.equalIn (9999+1) t _ _).run P w=_
 rw[Op.equalIn];cases p<;>simp[af h]
theorem AZ {t:TypeId} (h:P.underlying t=some .bool) (x y:Bool) (w:World):(Op.equal t (.bool x) (.bool y)).run P w = .ok (x == y) w:=by
 show(Op.equalIn (9999+1) t _ _).run P w=_
 rw[Op.equalIn];simp[af h]
theorem yu {t:TypeId} {a b c} (h:P.underlying t=some (.func a b c)) (v:Value) (hv:v = .nilFunc \/ ∃f x y,v = .func f x y) (w:World):(Op.equal t v .nilFunc).run P w = .ok (match v with | .nilFunc=>true | _=>false) w:=by
 show(Op.equalIn (9999+1) t _ _).run P w=_
 rw[Op.equalIn];rcases hv with rfl | ⟨f,x,y,rfl⟩<;>simp[af h]
theorem Iu {k:TK} {x y:V} {K:Bool->Prop} (h:ku k x y K) {d:Nat} {t:TypeId} (hT:bH P T) (hk:(T t).kind=k):∃b,K b /\ ∀(I:aU) (ρ:List Pl) (u v:Value) (w:World),VRel I ρ x u->VRel I ρ y v->(Op.equalIn (d+1) t u v).run P w = .ok b w:=by
 unfold ku at h;split at h
 . split at h<;>try exact h.elim
   rename_i k1 a k2 b;cases hd:decide (k1=k2)<;>simp only[hd]at h
   have:=aB hd;subst this;refine⟨_,h,fun I ρ u v w h1 h2=>?_⟩
   rw[bN h1,bN h2,run_equalIn_int w d t _ _ a b (eL hT hk),BW]
 . split at h<;>try exact h.elim
   rename_i a b;refine⟨_,h,fun I ρ u v w h1 h2=>?_⟩
   rw[fH h1,fH h2,run_equalIn_bool' w d t a b (q9 hT hk)]
 . split at h<;>try exact h.elim
   rename_i a b;refine⟨_,h,fun I ρ u v w h1 h2=>?_⟩
   obtain⟨s,hs,e1⟩:=eM h1;obtain⟨q,hq,e2⟩:=eM h2;subst hs; subst hq;rw[e1,e2,run_equalIn_string w d t s q (dC hT hk),Gd]
 . exact h.elim
theorem yZ {k:TK} {x y:V} {K:Bool->Prop} (h:ku k x y K):k.isAgg=false:=by
 unfold ku at h; split at h<;>first | rfl | exact h.elim
theorem yY (hT:bH P T) {t:TypeId} {x y:V} {K:Bool->Prop} (h:ku (T t).kind x y K):(T t).good=true:=by
 have hne:T t≠TI.bad:=fun e=>by rw[e]at h; exact h
 obtain⟨i,z,d,_,_,_,h4,_⟩:=py hT hne;rw[h4]
theorem zC (hT:bH P T) {t:TypeId} (hg:(T t).good=true) (ha:(T t).kind.isAgg=false) {cs:Array Value} {o:Nat} {v:Value} (h:cs[o]? = some v) (w:World):(part t cs o).run P w = .ok v w:=by
 simp[part,e7 hT hg,ha,h]
theorem lm (hT:bH P T) (d:Nat):∀(fs:List Field) {xs ys:List V} {K:Bool->Prop},(∀f∈fs,f.name ≠ "_")->iE T xs ys (fs.map fun f=>(f.offset,f.type)) K -> ∃b,K b /\ ∀(I:aU) (ρ:List Pl) (us vs:Array Value) (w:World),
 (xs.length=us.size /\ ∀(i:Nat) (a:V) (u:Value),xs[i]? = some a->us[i]? = some u->VRel I ρ a u)->(ys.length=vs.size /\ ∀(i:Nat) (a:V) (u:Value),ys[i]? = some a->vs[i]? = some u->VRel I ρ a u) ->
 (Op.eqFields (d+1) us vs fs).run P w = .ok b w
 | [],xs,ys,K,_,h=>⟨true,h,fun I ρ us vs w _ _=>by simp[Op.eqFields]⟩
 | f::fs,xs,ys,K,hn,h=>by
  simp only[List.map_cons,iE]at h;split at h<;>try exact h.elim
  rename_i x y hsz hx hy;obtain⟨b,hb,hr⟩:=Iu (d:=d) h hT rfl;obtain⟨c,hc,hr2⟩:=lm hT d fs (fun f hf=>hn f (by simp[hf])) hb
  refine⟨_,hc,fun I ρ us vs w h1 h2=>?_⟩
  have hg:=yY hT h;have ha:=yZ h;have l1:=(liZ.1 hx).1;have l2:=(liZ.1 hy).1;obtain⟨u,hu⟩:∃u,us[f.offset]? = some u:=⟨_,Array.getElem?_eq_getElem (by omega)⟩
  obtain⟨v,hv⟩:∃v,vs[f.offset]? = some v:=⟨_,Array.getElem?_eq_getElem (by omega)⟩
  have hnm:=hn f (by simp)
  simp only[Op.eqFields,if_pos hnm,Sem.run_bind,zC hT hg ha hu,zC hT hg ha hv,Result.andThen_ok,hr I ρ u v w (h1.2 _ _ _ hx hu) (h2.2 _ _ _ hy hv)];cases b with
  | false=>simp
  | true=>simp[hr2 I ρ us vs w h1 h2]
theorem HW (hT:bH P T) {o:Oper} {op:BinOp} {t:TypeId} {x y:Operand} {yt:TypeId} (ho:o.op = .binOp op t x y yt) {xs ys:List V} (hx:ao e x = .agg xs) (hy:ao e y = .agg ys) {fs:List (Nat × TypeId)} (hk:(T t).kind = .struct fs) (hq:(T t).eqok=true) {K:V->Prop}
 (h:iE T xs ys fs fun b=>j9 op b K):∃v,K v/\lL P o e H v:=by
 have hne:T t≠TI.bad:=fun e=>by rw[e]at hk; cases hk
 obtain⟨i,z,d,h1,h2,h3,h4,_⟩:=py hT hne;rw[h4]at hk hq;simp only at hk hq;obtain⟨fa,rfl,rfl⟩:=ls hk;simp only[Hc,Bool.and_eq_true,List.all_eq_true,Bool.not_eq_true', bne_iff_ne]at hq;obtain⟨q1,q2,q3⟩:=hq;obtain⟨b,hb,hr⟩:=lm hT 9998 fa.toList (fun f hf=>(q1 f hf).2) h
 have hf:P.fieldsOf t=fa:=by simp[Program.fieldsOf,h3]
 have h3' : P.underlying t=some (.struct (P.fieldsOf t)):=by rw[hf]; exact h3
 have key:∀(I:aU) (ρ:List Pl) (w:World) (us vs:Array Value),VRel I ρ (.agg xs) (.agg us)->VRel I ρ (.agg ys) (.agg vs)->(Op.equalIn 10000 t (.agg us) (.agg vs)).run P w = .ok b w:=by
  intro I ρ w us vs g1 g2;obtain⟨us', e1,a1,_,a3⟩:=iU g1;cases e1;obtain⟨vs', e2,b1,_,b3⟩:=iU g2;cases e2;rw[run_equalIn_agg w 9999 t us vs h3' q2,hf];exact hr I ρ us vs w ⟨a1,a3⟩ ⟨b1,b3⟩
 cases op<;>simp only[j9]at hb<;>try exact hb.elim
 case eql =>
  refine dG hb fun I ρ w a hst he=>?_
  have g1:=he x; have g2:=he y;rw[hx]at g1; rw[hy]at g2;obtain⟨us,e1,_⟩:=iU g1;obtain⟨vs,e2,_⟩:=iU g2;rw[e1]at g1; rw[e2]at g2;refine⟨.bool b,?_,.bool _ _⟩;have:=key I ρ w us vs g1 g2;simp[execOp,ho,e1,e2,run_eqGuard_agg w .eql t x y us vs q3,run_eql_struct,this]
 case neq =>
  refine dG hb fun I ρ w a hst he=>?_
  have g1:=he x; have g2:=he y;rw[hx]at g1; rw[hy]at g2;obtain⟨us,e1,_⟩:=iU g1;obtain⟨vs,e2,_⟩:=iU g2;rw[e1]at g1; rw[e2]at g2;refine⟨.bool (!b),?_,.bool _ _⟩;have:=key I ρ w us vs g1 g2;simp[execOp,ho,e1,e2,run_eqGuard_agg w .neq t x y us vs q3,run_neq_struct,this]
theorem KQ (hT:bH P T) {o:Oper} {op:BinOp} {t:TypeId} {x y:Operand} {yt:TypeId} (ho:o.op = .binOp op t x y yt) {K:V->Prop} (h:Ed T op t (ao e x) (ao e y) K):∃v,K v/\lL P o e H v:=by
 unfold Ed at h;split at h
 . rename_i k a k' b hx hy;split at h
   . refine dG h.2 fun I ρ w c hst he=>?_
     have h1:=he x; have h2:=he y;rw[hx]at h1; rw[hy]at h2;exact⟨_,jd ho (bN h1) (bN h2) (by simp) (by simp) (by simp[binOp,Op.shift,Int.not_lt.2 h.1]),.int _ _ _⟩
   . refine dG h.2 fun I ρ w c hst he=>?_
     have h1:=he x; have h2:=he y;rw[hx]at h1; rw[hy]at h2;exact⟨_,jd ho (bN h1) (bN h2) (by simp) (by simp) (by simp[binOp,Op.shift,Int.not_lt.2 h.1]),.int _ _ _⟩
   . cases hk:decide (k=k')with
     | false=>simp only[hk]at h
     | true =>
      simp only[hk]at h;have:=aB hk;subst this;exact FI ho hx hy h
 . rename_i a b hx hy;exact FK ho hx hy h
 . rename_i a b hx hy;cases hk:(T t).kind<;>simp only[hk]at h
   refine kQ ho h fun I ρ w c he=>?_
   have h1:=he x; have h2:=he y;rw[hx]at h1; rw[hy]at h2;rw[fH h1,fH h2];exact⟨AZ (q9 hT hk) _ _ _,by simp⟩
 all_goals first | exact h.elim | skip
 all_goals
  cases hk:(T t).kind<;>simp only[hk]at h
 . rename_i hx hy q;rw[hx]at h;refine kQ ho h fun I ρ w c he=>?_
   have h1:=he x; have h2:=he y;rw[hx]at h1; rw[hy]at h2;rw[kJ h1,kJ h2];exact⟨ii (pB hT hk) _ _,by simp⟩
 . rename_i i o hx hy q;rw[hx]at h;refine kQ ho h fun I ρ w c he=>?_
   have h1:=he x; have h2:=he y;rw[hx]at h1; rw[hy]at h2;obtain⟨p,_,e1⟩:=iV h1;rw[e1,kJ h2];exact⟨ii (pB hT hk) _ _,by simp⟩
 . rename_i i o hx hy q;rw[hx]at h;refine kQ ho h fun I ρ w c he=>?_
   have h1:=he x; have h2:=he y;rw[hx]at h1; rw[hy]at h2;obtain⟨b,base,f,_,_,_,e1⟩:=CM h1;rw[e1,kJ h2];exact⟨ii (pB hT hk) _ _,by simp⟩
 . rename_i i j o hx hy q;rw[hx]at h;refine kQ ho h fun I ρ w c he=>?_
   have h1:=he x; have h2:=he y;rw[hx]at h1; rw[hy]at h2;obtain⟨p,_,e1⟩:=zT h1;rw[e1,kJ h2];exact⟨ii (pB hT hk) _ _,by simp⟩
 . rename_i g hx hy q;rw[hx]at h;refine kQ ho h fun I ρ w c he=>?_
   have h1:=he x; have h2:=he y;rw[hx]at h1; rw[hy]at h2;rw[It h1,kJ h2];exact⟨ii (pB hT hk) _ _,by simp⟩
 . rename_i a hx hy q;refine kQ ho h fun I ρ w c he=>?_
   have h1:=he x; have h2:=he y;rw[hx]at h1; rw[hy]at h2;rw[kJ h2];generalize c.eval x=u at h1;cases h1;exact⟨ii (pB hT hk) _ _,by simp⟩
 . rename_i hx hy q;rw[hx]at h;refine kQ ho h fun I ρ w c he=>?_
   have h1:=he x; have h2:=he y;rw[hx]at h1; rw[hy]at h2;rw[fJ h1,fJ h2];exact⟨nO (dv hT hk) _ _ _ _,by simp⟩
 . rename_i sz d l f hx hy q;rw[hx]at h;refine kQ ho h fun I ρ w c he=>?_
   have h1:=he x; have h2:=he y;rw[hx]at h1; rw[hy]at h2;rw[fJ h2];revert h1;generalize c.eval x=u;intro h1;cases h1;exact⟨nO (dv hT hk) _ _ _ _,by simp⟩
 . rename_i xs ys hx hy fs;split at h<;>try exact h.elim
   rename_i hkk hq;cases hkk;exact HW hT ho hx hy hk hq h
 . rename_i sz i j l f hx hy q;refine kQ ho h.2 fun I ρ w c he=>?_
   have h1:=he x; have h2:=he y;rw[hx]at h1; rw[hy]at h2;rw[fJ h2];have hl:=h.1;revert h1;generalize c.eval x=u;intro h1;cases h1 with
   | ms=>exact⟨nO (dv hT hk) _ _ _ _,by simp⟩
   | ms0=>exact absurd hl (by omega)
 . rename_i hx hy;rw[hx]at h;obtain⟨p,q,r,hu⟩:=IU hT hk;refine kQ ho h fun I ρ w c he=>?_
   have h1:=he x; have h2:=he y;rw[hx]at h1; rw[hy]at h2;rw[xl h1,xl h2];exact⟨yu hu _ (.inl rfl) _,by simp⟩
 . rename_i g as bs hx hy;rw[hx]at h;obtain⟨p,q,r,hu⟩:=IU hT hk;refine kQ ho h fun I ρ w c he=>?_
   have h1:=he x; have h2:=he y;rw[hx]at h1; rw[hy]at h2;obtain⟨us,ws,e1,_,_⟩:=zU h1;rw[e1,xl h2];exact⟨yu hu _ (.inr ⟨_,_,_,rfl⟩) _,by simp⟩
theorem Li {o:Oper} {op:UnOp} {t:TypeId} {x:Operand} (ho:o.op = .unOp op t x) {K:V->Prop} (h:Ku op (ao e x) K):∃v,K v/\lL P o e H v:=by
 unfold Ku at h;split at h
 . rename_i k n hx;refine dG h fun I ρ w a hst he=>?_
   have h1:=he x;rw[hx]at h1;exact⟨_,by simp[execOp,ho,bN h1,Op.unary,Op.intArith],.int _ _ _⟩
 . rename_i k n hx;refine dG h fun I ρ w a hst he=>?_
   have h1:=he x;rw[hx]at h1;exact⟨.int k (k.wrap (BitVec.ofInt k.bits (if k.signed then -1 else k.max) ^^^ BitVec.ofInt k.bits n).toNat),KX (s:=Op.unary .xor (.int k n)) (by rw[<-bN h1]; simp[execOp,ho]) rfl,.int _ _ _⟩
 . rename_i b hx;refine dG h fun I ρ w a hst he=>?_
   have h1:=he x;rw[hx]at h1;exact⟨_,by simp[execOp,ho,fH h1,Op.unary],.bool _ _⟩
 . exact h.elim
theorem DM {o:Oper} {x:Operand} {i:Nat} (ho:o.op = .extract x i) {K:V->Prop} (h:ot (am e x) i K):∃v,K v/\lL P o e H v:=by
 unfold ot at h;cases hx:am e x<;>simp only[hx]at h
 rename_i vs;cases hv:vs[i]?<;>simp only[hv,cr]at h
 rename_i v;refine Kj h fun I ρ w a hst he=>?_
 have h1:=he x;rw[hx]at h1;obtain⟨us,e1,hl,hr⟩:=Gu h1;have hlt:i<us.size:=by rw[<-hl]; exact(liZ.1 hv).1
 refine⟨us[i],?_,hr i v _ hv (by simp[hlt])⟩
 simp[execOp,ho,e1,Instr.extract,hlt]
theorem HY (hT:bH P T) {o:Oper} {t:TypeId} {x:Operand} (ho:o.op = .makeInterface t x) {K:V->Prop} (h:wT T t (am e x) K):∃v,K v/\lL P o e H v:=by
 unfold wT at h;have key:gS (am e x) (fun v=>K (.iface t v))->(∃d,P.underlying t=some d /\ ∀m,d ≠ .interface m) -> ∃v,K v/\lL P o e H v:=by
  intro hf ⟨d,hd,hn⟩;rw[cr]at hf;refine Kj hf fun I ρ w a hst he=>⟨_,?_,.iface _ _ _ _ (he x)⟩
  cases d<;>simp[execOp,ho,Instr.makeInterface,af hd]at hn ⊢
 have und:∀k,(T t).kind=k->k ≠ .other->k ≠ .iface -> ∃d,P.underlying t=some d /\ ∀m,d ≠ .interface m:=by
  intro k hk h1 h2;obtain⟨d,hd,hkd⟩:=gg hT hk h1;exact⟨d,hd,fun m e=>by subst e; exact h2 hkd.symm⟩
 cases hk:(T t).kind<;>simp only[hk]at h
 all_goals exact key h (und _ hk (by simp) (by simp))
theorem HX (hT:bH P T) {o:Oper} {s:TypeId} {f:Nat} {x:Operand} (ho:o.op = .field s x f) {K:V->Prop} (h:wS T s f (ao e x) K):∃v,K v/\lL P o e H v:=by
 unfold wS at h;cases hf:fieldAt T s f<;>simp only[hf]at h
 rename_i ft;obtain⟨fo,ft⟩:=ft;cases hx:ao e x<;>simp only[hx]at h
 rename_i cs;unfold fieldAt at hf;cases hk:(T s).kind<;>simp only[hk]at hf<;>try (cases hf; done)
 rename_i fs;obtain⟨fa,hu,hfs⟩:=l8 hT hk;subst hfs;have hfa:∃fd,fa[f]? = some fd/\fd.offset=fo/\fd.type=ft:=by
  rw[List.getElem?_map]at hf;cases hq:fa.toList[f]? with
  | none=>rw[hq]at hf; simp at hf
  | some fd=>rw[hq]at hf; simp at hf; exact⟨fd,by simpa using hq,hf.1,hf.2⟩
 obtain⟨fd,hfd,rfl,rfl⟩:=hfa;unfold jL at h;cases hg:(T fd.type).good with
 | false=>simp only[hg]at h
 | true =>
  simp only[hg]at h;obtain⟨i,z,d,h1,h2,h3,h4,_⟩:=bS hT hg;have hsz:(T fd.type).size=i.size:=by rw[h4]
  cases ha:(T fd.type).kind.isAgg with
  | true =>
   simp only[ha]at h;cases hb:Nat.ble (fd.offset+(T fd.type).size) cs.length with
   | false=>simp only[hb]at h
   | true =>
    simp only[hb,aW]at h;refine dG h fun I ρ w a hst he=>?_
    have hr:=he x;rw[hx]at hr;obtain⟨us,e1,hl,hone,hr⟩:=iU hr;refine⟨.agg (us.extract fd.offset (fd.offset+i.size)),?_,?_⟩
    . simp[execOp,ho,e1,Instr.field,af hu,hfd,part,asAgg,e7 hT hg,ha,bu h1]
    . have hle:=aA hb;rw[hsz]at hle ⊢;refine .agg _ _ _ (by simp; omega) (fun j u hu' => by
       rw[Array.getElem?_extract]at hu';split at hu'
       . exact hone _ _ hu'
       . cases hu') (fun j c u hc hu' => ?_)
      have hj:j<i.size:=by have:=(liZ.1 hc).1; simp at this; omega
      refine hr (fd.offset+j) c u ?_ ?_
      . rw[List.getElem?_take_of_lt hj,List.getElem?_drop]at hc; exact hc
      . rw[Array.getElem?_extract]at hu';split at hu'
        . exact hu'
        . cases hu'
  | false =>
   simp only[ha]at h;cases hv:cs[fd.offset]?<;>simp only[hv,cr]at h
   rename_i v;refine dG h fun I ρ w a hst he=>?_
   have hr:=he x;rw[hx]at hr;obtain⟨us,e1,hl,_,hr⟩:=iU hr;have hlt:fd.offset<us.size:=by rw[<-hl]; exact(liZ.1 hv).1
   refine⟨us[fd.offset],?_,hr _ v _ hv (by simp[hlt])⟩
   simp[execOp,ho,e1,Instr.field,af hu,hfd,part,asAgg,e7 hT hg,ha,hlt]
theorem tp {ft:Field} {i:TypeInfo} (hi:P.info? ft.type=some i) (h0:i.size≠0) (a:Addr) (w:World):(fieldPlace a ft).run P w = .ok (a.add ft.offset) w:=by
 simp[fieldPlace,bu hi,h0]
theorem fu (b o n:Nat):(⟨b,o,none⟩:Addr).add n=⟨b,o+n,none⟩:=by
 unfold Addr.add;by_cases h:n=0
 . subst h; simp
 . simp[h]
theorem zk (hT:bH P T) {o:Oper} {s:TypeId} {f:Nat} {x:Operand} (ho:o.op = .fieldAddr s x f) {K:V->Prop} (h:kD T s f (ao e x) K):∃v,K v/\lL P o e H v:=by
 unfold kD at h;cases hf:fieldAt T s f<;>simp only[hf]at h
 rename_i ft;obtain⟨fo,ft⟩:=ft;unfold fieldAt at hf;cases hk:(T s).kind<;>simp only[hk]at hf<;>try (cases hf; done)
 rename_i fs;obtain⟨fa,hu,hfs⟩:=l8 hT hk;subst hfs;have hfa:∃fd,fa[f]? = some fd/\fd.offset=fo/\fd.type=ft:=by
  rw[List.getElem?_map]at hf;cases hq:fa.toList[f]? with
  | none=>rw[hq]at hf; simp at hf
  | some fd=>rw[hq]at hf; simp at hf; exact⟨fd,by simpa using hq,hf.1,hf.2⟩
 obtain⟨fd,hfd,rfl,rfl⟩:=hfa;cases hg:(T fd.type).good<;>simp only[hg]at h
 obtain⟨i,z,d,h1,h2,h3,h4,_⟩:=bS hT hg;cases hs:(T fd.type).size<;>simp only[hs]at h
 rename_i sz;have hsz:i.size≠0:=by rw[h4]at hs; simp at hs; omega
 have run:∀(a:Act) (w:World) (b o' : Nat),a.eval x = .pointer (some ⟨b,o', none⟩)->(execOp a.eval o).run P w = .ok (.value (.pointer (some ⟨b,o'+fd.offset,none⟩))) w:=by
  intro a w b o' ha;simp[execOp,ho,ha,Instr.fieldAt,Instr.sureAddr,af hu,hfd,tp h1 hsz,fu]
 cases hx:ao e x<;>simp only[hx]at h
 case ptr id off =>
  refine dG h fun I ρ w a hst he=>?_
  have hr:=he x;rw[hx]at hr;obtain⟨p,hp,e1⟩:=iV hr;exact⟨_,run a w _ _ e1,by rw[Nat.add_assoc]; exact .ptr _ _ _ _ hp⟩
 case ep id j k =>
  refine dG h fun I ρ w a hst he=>?_
  have hr:=he x;rw[hx]at hr;obtain⟨p,hp,e1⟩:=zT hr;exact⟨_,run a w _ _ e1,by rw[Nat.add_assoc,Nat.add_assoc]; exact .ep _ _ _ _ _ hp⟩
 case ip cs off =>
  refine dG h fun I ρ w a hst he=>?_
  have hr:=he x;rw[hx]at hr;obtain⟨b,base,g,g1,g1', g2,e1⟩:=CM hr;exact⟨_,run a w _ _ e1,by rw[Nat.add_assoc]; exact .ip _ _ _ _ _ g g1 g1' g2⟩
theorem zl (hT:bH P T) {o:Oper} {t:TypeId} {x i:Operand} (ho:o.op = .indexAddr t x i) {K:V->Prop} (h:kE T t (ao e x) (ao e i) K):∃v,K v/\lL P o e H v:=by
 unfold kE at h;cases hk:(T t).kind<;>simp only[hk]at h
 case arr len q =>
  have hu:=BA hT hk;cases hg:(T q).good<;>simp only[hg]at h
  obtain⟨ti,z,d,h1,h2,h3,h4,_⟩:=bS hT hg;have hsz:(T q).size=ti.size:=by rw[h4]
  cases hi:ao e i<;>simp only[hi]at h
  rename_i k n;cases hx:ao e x<;>simp only[hx]at h
  rename_i id off;obtain⟨⟨h0,hl⟩,hK⟩:=h;refine dG hK fun I ρ w a hst he=>?_
  have hr:=he x; have hri:=he i;rw[hx]at hr; rw[hi]at hri;obtain⟨p,hp,e1⟩:=iV hr;refine⟨.pointer (some ⟨p.b,p.base+off+n.toNat*ti.size,none⟩),?_,?_⟩
  . have hx' := e1;have hi' := bN hri;simp[execOp,ho,hx', hi', Instr.indexAt,Instr.sureAddr,asIntOf,af hu,h0,hl,bu h1,fu]
  . rw[hsz,Nat.add_assoc,Nat.add_comm off];exact .ptr _ _ _ _ hp
 rename_i q;have hu:=dv hT hk;cases hg:(T q).good<;>simp only[hg]at h
 obtain⟨ti,z,d,h1,h2,h3,h4,_⟩:=bS hT hg;have hsz:(T q).size=ti.size:=by rw[h4]
 cases hi:ao e i<;>simp only[hi]at h
 rename_i k n;have run:∀(a:Act) (w:World) (b o' len cap:Nat),a.eval x = .slice (some ⟨b,o', none⟩) len cap->a.eval i = .int k n->0<=n->n<len->(execOp a.eval o).run P w = .ok (.value (.pointer (some ⟨b,o'+n.toNat*ti.size,none⟩))) w:=by
  intro a w b o' len cap hx hi' h0 hl;simp[execOp,ho,hx,hi', Instr.indexAt,asIntOf,af hu,h0,hl,bu h1,fu]
 cases hx:ao e x<;>simp only[hx]at h
 case sl sz es full =>
  cases hb:Nat.beq sz (T q).size<;>simp only[hb]at h
  have e0:sz=ti.size:=by rw[<-hsz]; exact Nat.eq_of_beq_eq_true hb
  obtain⟨c,⟨h0,hc⟩,hK⟩:=h;have hlt:n.toNat<es.length:=(liZ.1 hc).1;refine dG hK fun I ρ w a hst he=>?_
  have hr:=he x; have hri:=he i;rw[hx]at hr; rw[hi]at hri;generalize hq:a.eval x=u at hr;cases hr with
  | sl _ _ _ _ b base cap f g1 g2 g3 g4 g4' g5 =>
   refine⟨_,run a w _ _ _ _ hq (bN hri) h0 (by omega),?_⟩
   rw[<-e0];have:=VRel.ip (I:=I) ρ c 0 b (base+n.toNat*sz) (fun j=>f n.toNat j) (fun j d hd=>by rw[Nat.add_assoc]; exact g4 _ _ _ _ hc hd) (fun j d hd=>g4' _ _ _ _ hc hd) (fun j d hd=>g5 _ _ _ _ hc hd)
   exact this
  | slnil=>simp at hlt
 case ms sz id off len full =>
  cases hb:Nat.beq sz (T q).size<;>simp only[hb]at h
  have e0:sz=ti.size:=by rw[<-hsz]; exact Nat.eq_of_beq_eq_true hb
  obtain⟨⟨h0,hl⟩,hK⟩:=h;refine dG hK fun I ρ w a hst he=>?_
  have hr:=he x; have hri:=he i;rw[hx]at hr; rw[hi]at hri;generalize hq:a.eval x=u at hr;cases hr with
  | ms _ _ _ _ cap _ p hp g1 g2 g3 g4 =>
   refine⟨_,run a w _ _ _ _ hq (bN hri) h0 (by omega),?_⟩
   have:=VRel.ep (I:=I) ρ id (off+n.toNat) 0 p hp;rw[<-e0,Nat.add_comm n.toNat off];rw[Nat.add_assoc,<-Nat.add_mul];exact this
  | ms0=>omega
theorem zm (hT:bH P T) {o:Oper} {t:TypeId} {x i:Operand} {len:Nat} {q:TypeId} {cs:List V} {k:IntKind} {n:Int} (ho:o.op = .index t x i) (hk:(T t).kind = .arr len q) (hx:ao e x = .agg cs) (hi:ao e i = .int k n) (h0:0<=n) (hn:n<len) {K:V->Prop}
 (h:jL (T q) cs (n.toNat*(T q).size) K):∃v,K v/\lL P o e H v:=by
 have hu:=BA hT hk;unfold jL at h;cases hg:(T q).good with
 | false=>simp only[hg]at h
 | true =>
  simp only[hg]at h;obtain⟨ti,z,d,h1,h2,h3,h4,_⟩:=bS hT hg;have hsz:(T q).size=ti.size:=by rw[h4]
  rw[hsz]at h;cases ha:(T q).kind.isAgg with
  | true =>
   simp only[ha]at h;cases hb:Nat.ble (n.toNat*ti.size+ti.size) cs.length with
   | false=>simp only[hb]at h
   | true =>
    simp only[hb,aW]at h;refine dG h fun I ρ w a hst he=>?_
    have hr:=he x; have hri:=he i;rw[hx]at hr; rw[hi]at hri;obtain⟨us,e1,hl,hone,hr⟩:=iU hr;refine⟨.agg (us.extract (n.toNat*ti.size) (n.toNat*ti.size+ti.size)),?_,?_⟩
    . simp[execOp,ho,e1,bN hri,Instr.index,asIntOf,af hu,h0,hn,part,asAgg,e7 hT hg,ha,bu h1]
    . have hle:=aA hb;refine .agg _ _ _ (by simp; omega) (fun j u hu' => by
       rw[Array.getElem?_extract]at hu';split at hu'
       . exact hone _ _ hu'
       . cases hu') (fun j c u hc hu' => ?_)
      have hj:j<ti.size:=by have:=(liZ.1 hc).1; simp at this; omega
      refine hr (n.toNat*ti.size+j) c u ?_ ?_
      . rw[List.getElem?_take_of_lt hj,List.getElem?_drop]at hc; exact hc
      . rw[Array.getElem?_extract]at hu';split at hu'
        . exact hu'
        . cases hu'
  | false =>
   simp only[ha]at h;cases hv:cs[n.toNat*ti.size]?<;>simp only[hv,cr]at h
   rename_i v;refine dG h fun I ρ w a hst he=>?_
   have hr:=he x; have hri:=he i;rw[hx]at hr; rw[hi]at hri;obtain⟨us,e1,hl,_,hr⟩:=iU hr;have hlt:n.toNat*ti.size<us.size:=by rw[<-hl]; exact(liZ.1 hv).1
   refine⟨us[n.toNat*ti.size],?_,hr _ v _ hv (by simp[hlt])⟩
   simp[execOp,ho,e1,bN hri,Instr.index,asIntOf,af hu,h0,hn,part,asAgg,e7 hT hg,ha,hlt,bu h1]
theorem HZ (hT:bH P T) {o:Oper} {t:TypeId} {x i:Operand} (ho:o.op = .index t x i) {K:V->Prop} (h:wU T t (ao e x) (ao e i) K):∃v,K v/\lL P o e H v:=by
 unfold wU at h;cases hk:(T t).kind<;>simp only[hk]at h
 case arr len q =>
  cases hx:ao e x<;>simp only[hx]at h
  cases hi:ao e i<;>simp only[hi]at h
  exact zm hT ho hk hx hi h.1.1 h.1.2 h.2
 have hu:=dC hT hk;cases hx:ao e x<;>simp only[hx]at h
 rename_i s;cases hi:ao e i<;>simp only[hi]at h
 rename_i k n;obtain⟨c,⟨h0,hc⟩,hK⟩:=h;refine dG hK fun I ρ w a hst he=>?_
 have hr:=he x; have hri:=he i;rw[hx]at hr; rw[hi]at hri;obtain⟨b,hb,e1⟩:=eM hr;refine⟨.int .u8 c.toNat,?_,.int _ _ _⟩;have hlt:n.toNat<b.size:=by rw[show b.size=s.length by rw[<-hb]; rfl]; exact(liZ.1 hc).1
 have hbn:b[n.toNat]? = some c:=by
  rw[<-hb]at hc;have:b[n.toNat]? = some b[n.toNat]:=by rw[getElem?_pos]
  rw[this];congr 1
  have h2:b.data.toList[n.toNat]? = some b[n.toNat]:=by
   rw[aS (by simpa using hlt)]; rfl
  rw[h2]at hc; exact Option.some.inj hc
 simp[execOp,ho,e1,bN hri,Instr.index,asIntOf,af hu,h0,hbn]
theorem dH (k:IntKind) (i:Int) (y:Nat) (code:BoundsCode) (h0:0<=i) (h1:i<=y) (w:World):(Instr.sliceBound (.int k i) y code).run P w = .ok i.toNat w:=by
 simp[Instr.sliceBound,asIntOf,h0,h1]
def jY (x:Option Value) (l:Option Int):Prop:=(x=none/\l=none) \/ ∃k n,x=some (.int k n)/\l=some n
theorem bC {lo:Option Operand} {l:Option Int} (h:kf (lo.map (ao e))=some l) {a:Act} (he:∀x,VRel I ρ (ao e x) (a.eval x)):jY (lo.map a.eval) l:=by
 cases lo with
 | none=>simp[kf]at h; exact .inl ⟨rfl,h.symm⟩
 | some x =>
  have hr:=he x;simp only[Option.map_some,kf]at h;cases hx:ao e x<;>simp only[hx]at h<;>try (cases h; done)
  rename_i k n;rw[hx]at hr;cases h;exact .inr ⟨k,n,by simp[bN hr],rfl⟩
theorem tn {isSlice:Bool} {len cap:Nat} {lo hi mx:Option Value} {l h m:Option Int} (hl:jY lo l) (hh:jY hi h) (hm:jY mx m) (hc:len<=cap)
 (b0:0<=l.getD 0) (b1:l.getD 0<=h.getD len) (b2:h.getD len<=m.getD cap) (b3:m.getD cap<=cap) (b4:m.isSome=true->h.isSome=true) (w:World) :
 (Instr.sliceBounds isSlice len cap lo hi mx).run P w = .ok ((l.getD 0).toNat,(h.getD len).toNat,(m.getD cap).toNat) w:=by
 rcases hm with⟨rfl,rfl⟩ | ⟨km,m,rfl,rfl⟩
 . rcases hh with⟨rfl,rfl⟩ | ⟨kh,h,rfl,rfl⟩
   . rcases hl with⟨rfl,rfl⟩ | ⟨kl,l,rfl,rfl⟩
     . simp[Instr.sliceBounds]
     . simp at b0 b1 b2 b3;simp[Instr.sliceBounds,dH,b0,b1]
   . rcases hl with⟨rfl,rfl⟩ | ⟨kl,l,rfl,rfl⟩
     . simp at b0 b1 b2 b3;simp[Instr.sliceBounds,dH,b0,b1,b2]
     . simp at b0 b1 b2 b3;have:0<=h:=by omega
       have e:(h.toNat:Int)=h:=Int.toNat_of_nonneg this;simp[Instr.sliceBounds,dH,b0,b1,b2,this,e]
 . rcases hh with⟨rfl,rfl⟩ | ⟨kh,h,rfl,rfl⟩
   . simp at b4
   . rcases hl with⟨rfl,rfl⟩ | ⟨kl,l,rfl,rfl⟩
     . simp at b0 b1 b2 b3;have h1:0<=m:=by omega
       have e1:(m.toNat:Int)=m:=Int.toNat_of_nonneg h1;simp[Instr.sliceBounds,dH,b0,b1,b2,b3,h1,e1]
     . simp at b0 b1 b2 b3;have h1:0<=m:=by omega
       have e1:(m.toNat:Int)=m:=Int.toNat_of_nonneg h1;have h2:0<=h:=by omega
       have e2:(h.toNat:Int)=h:=Int.toNat_of_nonneg h2;simp[Instr.sliceBounds,dH,b0,b1,b2,b3,h1,h2,e1,e2]
theorem da {o:Oper} {t:TypeId} {x:Operand} {lo hi mx:Option Operand} (ho:o.op = .slice t x lo hi mx) {q:TypeId} (hu:P.underlying t=some (.slice q)) {i:TypeInfo} (hi' : P.info? q=some i)
 {a:Act} {w:World} {A:Option Addr} {len cap:Nat} (hx:a.eval x = .slice A len cap) {l h m:Option Int} (hl:jY (lo.map a.eval) l) (hh:jY (hi.map a.eval) h) (hm:jY (mx.map a.eval) m) (hc:len<=cap)
 (b0:0<=l.getD 0) (b1:l.getD 0<=h.getD len) (b2:h.getD len<=m.getD cap) (b3:m.getD cap<=cap) (b4:m.isSome=true->h.isSome=true) :
 (execOp a.eval o).run P w = .ok (.value (sliced A (l.getD 0).toNat (h.getD len).toNat (m.getD cap).toNat i.size)) w:=by
 have:=tn (P:=P) (isSlice:=true) hl hh hm hc b0 b1 b2 b3 b4 w;simp[execOp,ho,hx,Instr.sliceAt,af hu,Instr.slice,this,bu hi', sliced]
theorem J7 {sz:Nat} {es:List (List V)} {full full' : Bool} {A:Option Addr} {len cap:Nat} (hr:VRel I ρ (.sl sz es full) (.slice A len cap)) {l h m:Nat} (h1:l<=h) (h2:h<=es.length) (h3:h<=m) (h4:m<=cap)
 (hf:full'=true->m=h):VRel I ρ (.sl sz ((es.take h).drop l) full') (sliced A l h m sz):=by
 have hlen:((es.take h).drop l).length=h-l:=by simp; omega
 cases hr with
 | sl _ _ _ _ b base _ f g1 g2 g3 g4 g4' g5 =>
  by_cases hm:m=l
  . have:h=l:=by omega
    subst this;have e0:(es.take h).drop h = []:=by apply List.eq_nil_of_length_eq_zero; simp
    rw[e0];simp only[sliced,hm,if_pos];have:=VRel.sl (I:=I) ρ sz [] full' b base 0 f (by simp) (fun _=>rfl) (fun i x hx=>by simp at hx) (fun i x j c hx=>by simp at hx) (fun i x j c hx=>by simp at hx) (fun i x j c hx=>by simp at hx)
    simpa using this
  . simp only[sliced,hm,if_false,Option.map_some,fu];have get:∀(i:Nat) (x:List V),((es.take h).drop l)[i]? = some x->es[l+i]? = some x:=fun i x hx=>by
     rw[List.getElem?_drop]at hx;have hlt:=(liZ.1 hx).1;rw[List.getElem?_take_of_lt (by simp at hlt; omega)]at hx
     exact hx
    have:=VRel.sl (I:=I) ρ sz ((es.take h).drop l) full' b (base+l*sz) (m-l) (fun i j=>f (l+i) j) (by omega) (fun hq=>by rw[hf hq,hlen])
     (fun i x hx=>g3 _ _ (get i x hx)) (fun i x j c hx hc=>by rw[show base+l*sz+(i*sz+j)=base+((l+i)*sz+j) by rw[Nat.add_mul]; omega]; exact g4 _ _ _ _ (get i x hx) hc)
     (fun i x j c hx hc=>g4' _ _ _ _ (get i x hx) hc) (fun i x j c hx hc=>g5 _ _ _ _ (get i x hx) hc)
    rw[hlen]at this;exact this
 | slnil =>
  have:h=0:=by simpa using h2
  subst this;have:m=0:=by omega
  subst this;have:l=0:=by omega
  subst this;simp only[sliced];exact .slnil _ _ _ _
theorem J6 {sz id off len:Nat} {full full' : Bool} {A:Option Addr} {len' cap:Nat} (hr:VRel I ρ (.ms sz id off len full) (.slice A len' cap)) {l h m:Nat} (h1:l<=h) (h2:len=0->h=0) (h3:h<=m) (h4:m<=cap)
 (hf:full'=true->m=h) (hf2:full'=false->full=false/\m=cap):VRel I ρ (.ms sz id (off+l) (h-l) full') (sliced A l h m sz):=by
 cases hr with
 | ms _ _ _ _ _ _ p hp g1 g2 g3 g4 =>
  by_cases hm:m=l
  . have:h=l:=by omega
    subst this;simp only[sliced,hm,if_pos,Nat.sub_self];exact .ms0 _ _ _ _ _ _
  . simp only[sliced,hm,if_false,Option.map_some,fu];have:=VRel.ms (I:=I) ρ id (off+l) (h-l) (m-l) full' p hp (by omega) (by omega) (fun hq=>by rw[hf hq]) (fun hq=>by have h1:=(hf2 hq).2; have h2:=g4 (hf2 hq).1; omega)
    rw[Nat.add_mul,<-Nat.add_assoc]at this;exact this
 | ms0 =>
  have:h=0:=h2 rfl;subst this;have:m=0:=by omega
  subst this;have:l=0:=by omega
  subst this;simp[sliced];exact .ms0 _ _ _ _ _ _
theorem Ge {sz id off len:Nat} {A:Option Addr} {len' cap:Nat} (hr:VRel I ρ (.mr sz id off len) (.slice A len' cap)) {l h:Nat} (h1:l<=h) (h3:h<=cap):VRel I ρ (.ms sz id (off+l) (h-l) false) (sliced A l h cap sz):=by
 cases hr with
 | mr _ _ _ _ _ p hp g1 g2 =>
  by_cases hm:cap=l
  . have:h=l:=by omega
    subst this;simp only[sliced,hm,if_pos,Nat.sub_self];exact .ms0 _ _ _ _ _ _
  . simp only[sliced,hm,if_false,Option.map_some,fu];have:=VRel.ms (I:=I) ρ id (off+l) (h-l) (cap-l) false p hp (by omega) (by omega) (fun hq=>by cases hq) (fun _=>by omega)
    rw[Nat.add_mul,<-Nat.add_assoc]at this;exact this
 | mr0 =>
  have:h=0:=by omega
  subst this;have:l=0:=by omega
  subst this;simp[sliced];exact .ms0 _ _ _ _ _ _
theorem Ii {sz id off len:Nat} {A:Option Addr} {len' cap:Nat} (hr:VRel I ρ (.mr sz id off len) (.slice A len' cap)) {h:Nat} (h3:h<=cap):VRel I ρ (.mr sz id off h) (sliced A 0 h cap sz):=by
 cases hr with
 | mr _ _ _ _ _ p hp g1 g2 =>
  by_cases hm:cap=0
  . have:h=0:=by omega
    subst this;subst hm;simp only[sliced,if_pos,Nat.sub_self];exact .mr0 _ _ _ _ _ hp (by omega)
  . simp only[sliced,hm,if_false,Option.map_some,fu];have:=VRel.mr (I:=I) ρ id off h cap p hp h3 g2;simpa using this
 | mr0 _ _ _ p _ hp g =>
  have:h=0:=by omega
  subst this;simp[sliced];exact .mr0 _ _ _ _ _ hp g
theorem y6 {sz id off len:Nat} {u:Value} (hr:VRel I ρ (.mr sz id off len) u):∃A cap,u = .slice A len cap/\len<=cap /\ ∃p,ρ[id]? = some p/\off+cap=p.tot:=by
 cases hr with
 | mr _ _ _ _ cap p hp g1 g2=>exact⟨_,_,rfl,g1,p,hp,g2⟩
 | mr0 _ _ _ p a hp g=>exact⟨_,_,rfl,Nat.le_refl _,p,hp,by omega⟩
theorem KU {o:Oper} {t:TypeId} {x:Operand} {lo hi mx:Option Operand} (ho:o.op = .slice t x lo hi mx) {q:TypeId} (hu:P.underlying t=some (.slice q)) {i:TypeInfo} (hi' : P.info? q=some i)
 {a:Act} {w:World} {es:List (List V)} {full full' : Bool} (hr:VRel I ρ (.sl i.size es full) (a.eval x)) {l h m:Option Int} (hl:jY (lo.map a.eval) l) (hh:jY (hi.map a.eval) h) (hm:jY (mx.map a.eval) m)
 (b0:0<=l.getD 0) (b1:l.getD 0<=h.getD es.length) (b2:h.getD es.length<=es.length) (b3:∀k,m=some k->h=some k) (b4:full'=true->m.isSome=true\/(full=true/\h.getD es.length=es.length)) :
 ∃u,(execOp a.eval o).run P w = .ok (.value u) w/\VRel I ρ (.sl i.size ((es.take (h.getD es.length).toNat).drop (l.getD 0).toNat) full') u:=by
 have hsh:∃A cap,a.eval x = .slice A es.length cap/\es.length<=cap/\(full=true->cap=es.length):=by
  revert hr; generalize a.eval x=u; intro hr;cases hr with
  | sl _ _ _ _ b base cap f g1 g2=>exact⟨_,_,rfl,g1,g2⟩
  | slnil=>exact⟨_,_,rfl,Nat.le_refl _,fun _=>rfl⟩
 obtain⟨A,cap,hx,hcap,hfull⟩:=hsh;have hM:(h.getD es.length:Int)<=m.getD cap/\(m.getD cap:Int)<=cap/\(m.isSome=true->m.getD cap=h.getD es.length/\h.isSome=true):=by
  cases m with
  | none=>simp; omega
  | some k=>rw[b3 k rfl]at b2 ⊢; simp at b2 ⊢; omega
 refine⟨_,da ho hu hi' hx hl hh hm hcap b0 b1 hM.1 hM.2.1 (fun hs=>(hM.2.2 hs).2),?_⟩
 rw[hx]at hr;refine J7 hr (by omega) (by omega) (by omega) (by omega) (fun hf=>?_)
 rcases b4 hf with hs | ⟨h1,h2⟩
 . rw[(hM.2.2 hs).1]
 . cases m with
   | none=>simp only[Option.getD_none]; rw[h2,hfull h1]
   | some k=>rw[(hM.2.2 rfl).1]
theorem KT {o:Oper} {t:TypeId} {x:Operand} {lo hi mx:Option Operand} (ho:o.op = .slice t x lo hi mx) {q:TypeId} (hu:P.underlying t=some (.slice q)) {i:TypeInfo} (hi' : P.info? q=some i)
 {a:Act} {w:World} {id off len:Nat} {full full' : Bool} (hr:VRel I ρ (.ms i.size id off len full) (a.eval x)) {l h m:Option Int} (hl:jY (lo.map a.eval) l) (hh:jY (hi.map a.eval) h) (hm:jY (mx.map a.eval) m)
 (b0:0<=l.getD 0) (b1:l.getD 0<=h.getD len) (b2:h.getD len<=len\/(0<len /\ ∀A cap,a.eval x = .slice A len cap->h.getD len<=cap)) (b3:∀k,m=some k->h=some k) (b4:full'=true->m.isSome=true\/(full=true/\h.getD len=len)) (b5:full'=false->full=false/\m=none) :
 ∃u,(execOp a.eval o).run P w = .ok (.value u) w/\VRel I ρ (.ms i.size id (off+(l.getD 0).toNat) ((h.getD len).toNat-(l.getD 0).toNat) full') u:=by
 have hsh:∃A cap,a.eval x = .slice A len cap/\len<=cap/\(full=true->cap=len):=by
  revert hr; generalize a.eval x=u; generalize hz:i.size=sz; intro hr;cases hr with
  | ms _ _ _ _ cap _ p hp g1 g2 g3 g4=>exact⟨_,_,rfl,g1,g3⟩
  | ms0=>exact⟨_,_,rfl,Nat.le_refl _,fun _=>rfl⟩
 obtain⟨A,cap,hx,hcap,hfull⟩:=hsh;have hM:(h.getD len:Int)<=m.getD cap/\(m.getD cap:Int)<=cap/\(m.isSome=true->m.getD cap=h.getD len/\h.isSome=true):=by
  have hb2:h.getD len<=(cap:Int):=by
   rcases b2 with b2 | ⟨_,b2⟩
   . omega
   . exact b2 A cap hx
  cases m with
  | none=>simp; omega
  | some k=>rw[b3 k rfl]at hb2 ⊢; simp at hb2 ⊢; omega
 refine⟨_,da ho hu hi' hx hl hh hm hcap b0 b1 hM.1 hM.2.1 (fun hs=>(hM.2.2 hs).2),?_⟩
 rw[hx]at hr;refine J6 hr (by omega) (fun h0=>by rcases b2 with b2 | ⟨b2,_⟩<;>omega) (by omega) (by omega) (fun hf=>?_) (fun hf=>⟨(b5 hf).1,by rw[(b5 hf).2]; simp⟩)
 rcases b4 hf with hs | ⟨h1,h2⟩
 . rw[(hM.2.2 hs).1]
 . cases m with
   | none=>simp only[Option.getD_none]; rw[h2,hfull h1]
   | some k=>rw[(hM.2.2 rfl).1]
theorem H4 {o:Oper} {t:TypeId} {x:Operand} {lo hi mx:Option Operand} (ho:o.op = .slice t x lo hi mx) {q:TypeId} (hu:P.underlying t=some (.slice q)) {i:TypeInfo} (hi' : P.info? q=some i)
 {a:Act} {w:World} (hr:VRel I ρ .nils (a.eval x)) {l h m:Option Int} (hl:jY (lo.map a.eval) l) (hh:jY (hi.map a.eval) h) (hm:jY (mx.map a.eval) m)
 (b0:l.getD 0=0) (b1:h.getD 0=0) (b2:m.getD 0=0) (b3:m.isSome=true->h.isSome=true) :
 ∃u,(execOp a.eval o).run P w = .ok (.value u) w/\VRel I ρ .nils u:=by
 have hx:=fJ hr;have h0:∀z:Option Int,z.getD 0=0->z.getD ((0:Nat):Int)=0:=fun z hz=>hz
 refine⟨_,da ho hu hi' hx hl hh hm (Nat.le_refl _) (by omega) (by have:=h0 h b1; omega) (by have:=h0 h b1; have:=h0 m b2; omega) (by have:=h0 m b2; omega) b3,?_⟩
 have e1:(l.getD 0).toNat=0:=by omega
 have e2:(h.getD ((0:Nat):Int)).toNat=0:=by have:=h0 h b1; omega
 have e3:(m.getD ((0:Nat):Int)).toNat=0:=by have:=h0 m b2; omega
 rw[e1,e2,e3];simp[sliced];exact .nils _
theorem JP {o:Oper} {t:TypeId} {x:Operand} {lo hi mx:Option Operand} (ho:o.op = .slice t x lo hi mx) (hu:P.underlying t=some .string)
 {a:Act} {w:World} {s:List UInt8} (hr:VRel I ρ (.str s) (a.eval x)) {l h:Option Int} (hl:jY (lo.map a.eval) l) (hh:jY (hi.map a.eval) h) (hm:jY (mx.map a.eval) none)
 (b0:0<=l.getD 0) (b1:l.getD 0<=h.getD s.length) (b2:h.getD s.length<=s.length) :
 ∃u,(execOp a.eval o).run P w = .ok (.value u) w/\VRel I ρ (.str ((s.take (h.getD s.length).toNat).drop (l.getD 0).toNat)) u:=by
 obtain⟨b,hb,hx⟩:=eM hr;have hsz:b.size=s.length:=by rw[<-hb]; rfl
 have hn:mx.map a.eval=none:=by
  rcases hm with⟨h1,_⟩ | ⟨_,_,_,h1⟩
  . exact h1
  . cases h1
 refine⟨.string (b.extract (l.getD 0).toNat (h.getD s.length).toNat),?_,gh _ ?_⟩
 . have:=tn (P:=P) (isSlice:=false) (len:=b.size) (cap:=b.size) hl hh (.inl ⟨rfl,rfl⟩) (Nat.le_refl _) b0 (by rw[hsz]; exact b1) (by rw[hsz]; exact b2) (by simp) (by simp) w
   rw[hsz]at this;simp[execOp,ho,hx,Instr.sliceAt,af hu,Instr.slice,hn,this,hsz]
 . rw[ByteArray.data_extract,Array.toList_extract,hb];simp only[List.extract,List.drop_take]
theorem tl {α:Type} (l:List α):l.take ((l.length:Int)).toNat=l:=by simp
theorem Cv (hT:bH P T) {o:Oper} {t:TypeId} {x:Operand} {lo hi mx:Option Operand} (ho:o.op = .slice t x lo hi mx) {K:V->Prop}
 {HB:List O} (hHB:∀v,mM HB v<=mM H v) (h:s9 T HB t (ao e x) (lo.map (ao e)) (hi.map (ao e)) (mx.map (ao e)) K):∃v,K v/\lL P o e H v:=by
 unfold s9 at h;cases el:kf (lo.map (ao e))<;>simp only[el]at h
 rename_i l;cases eh:kf (hi.map (ao e))<;>simp only[eh]at h
 rename_i hh;cases em:kf (mx.map (ao e))<;>simp only[em]at h
 rename_i m;cases hk:(T t).kind<;>simp only[hk]at h
 ·
  have hu:=dC hT hk;cases hx:ao e x<;>simp only[hx]at h
  rename_i s;unfold oR at h;cases m<;>simp only at h
  have fin:∀(r:List UInt8),K (.str r)->(0<=l.getD 0/\l.getD 0<=hh.getD s.length/\hh.getD s.length<=s.length)->r=(s.take (hh.getD s.length).toNat).drop (l.getD 0).toNat -> ∃v,K v/\lL P o e H v:=by
   intro r hK hb hr;refine dG hK fun I ρ w a hst he=>?_
   have h1:=he x;rw[hx]at h1;rw[hr];exact JP ho hu h1 (bC el he) (bC eh he) (bC em he) hb.1 hb.2.1 hb.2.2
  cases l<;>cases hh<;>simp only at h
  . exact fin _ h (by simp) (by simp)
  . exact fin _ h.2 (by simp; omega) (by simp)
  . exact fin _ h.2 (by simp; omega) (by simp)
  . exact fin _ h.2 (by simp; omega) (by simp)
 . rename_i q;have hu:=dv hT hk;cases hg:(T q).good<;>simp only[hg]at h
   obtain⟨ti,z,d,h1,h2,h3,h4,_⟩:=bS hT hg;have hsz:(T q).size=ti.size:=by rw[h4]
   rw[hsz]at h;cases hx:ao e x<;>simp only[hx]at h<;>unfold oR at h<;>try exact h.elim
   case sl sz es full =>
    cases hb:Nat.beq sz ti.size<;>simp only[hb]at h
    have e0:=Nat.eq_of_beq_eq_true hb;subst e0
    have fin:∀(r:List (List V)) (full' : Bool),K (.sl ti.size r full')->(0<=l.getD 0/\l.getD 0<=hh.getD es.length/\hh.getD es.length<=es.length)->(∀k,m=some k->hh=some k)->(full'=true->m.isSome=true\/(full=true/\hh.getD es.length=es.length)) ->
     r=(es.take (hh.getD es.length).toNat).drop (l.getD 0).toNat -> ∃v,K v/\lL P o e H v:=by
     intro r full' hK hb hm hf hr;refine dG hK fun I ρ w a hst he=>?_
     have h1' := he x;rw[hx]at h1';rw[hr];exact KU ho hu h1 h1' (bC el he) (bC eh he) (bC em he) hb.1 hb.2.1 hb.2.2 hm hf
    cases m<;>cases l<;>cases hh<;>simp only at h
    . exact fin _ _ h (by simp) (by simp) (by simp) (by simp)
    . exact fin _ _ h.2 (by simp; omega) (by simp) (by simp) (by simp)
    . exact fin _ _ h.2 (by simp; omega) (by simp) (by simp) (by simp)
    . exact fin _ _ h.2 (by simp; omega) (by simp) (by simp) (by simp)
    . exact fin _ _ h.2 (by simp; omega) (by simp; omega) (by simp) (by simp)
    . exact fin _ _ h.2 (by simp; omega) (by simp; omega) (by simp) (by simp)
   case ms sz id off len full =>
    cases hb:Nat.beq sz ti.size<;>simp only[hb]at h
    have e0:=Nat.eq_of_beq_eq_true hb;subst e0
    have fin:∀(off' len' : Nat) (full' : Bool),K (.ms ti.size id off' len' full')->(0<=l.getD 0/\l.getD 0<=hh.getD len/\(hh.getD len<=len\/(full=false/\0<len/\off+(hh.getD len).toNat<=mM H (.ms ti.size id off len full))))->(∀k,m=some k->hh=some k)->(full'=true->m.isSome=true\/(full=true/\hh.getD len=len))->(full'=false->full=false/\m=none) ->
     off'=off+(l.getD 0).toNat->len'=(hh.getD len).toNat-(l.getD 0).toNat -> ∃v,K v/\lL P o e H v:=by
     intro off' len' full' hK hb hm hf hf2 hr1 hr2;refine dG hK fun I ρ w a hst he=>?_
     have h1' := he x;rw[hx]at h1';rw[hr1,hr2];refine KT ho hu h1 h1' (bC el he) (bC eh he) (bC em he) hb.1 hb.2.1 ?_ hm hf hf2;rcases hb.2.2 with hb3 | ⟨hf3,hb4,hb5⟩
     . exact .inl hb3
     . refine .inr ⟨hb4,fun A cap hax=>?_⟩
       rw[hax]at h1';generalize hsz:ti.size=sz at h1';cases h1' with
       | ms0=>omega
       | ms _ _ _ _ _ _ p hp g1 g2 g3 g4 =>
        have hcap:=g4 hf3;unfold mM at hb5;cases hob:ar H id<;>simp only[hob]at hb5
        case buf es =>
         have hH:=ax hob (by simp)
         rcases hst.obj id p _ hp hH with⟨e0,_⟩ | ⟨o1,_,_⟩
         . subst e0; simp at hb5; omega
         . omega
        case bufc es =>
         have hH:=ax hob (by simp)
         have:=(hst.obj id p _ hp hH).1;omega
        all_goals omega
    cases m<;>cases l<;>cases hh<;>cases full<;>simp only at h
    . exact fin _ _ _ h (by simp) (by simp) (by simp) (by simp) (by simp<;>omega) (by simp)
    . exact fin _ _ _ h (by simp) (by simp) (by simp) (by simp) (by simp<;>omega) (by simp)
    . split at h
      . exact fin _ _ _ h.2 (by simp; omega) (by simp) (by simp) (by simp) (by simp<;>omega) (by simp)
      . exact fin _ _ _ h.2 ⟨by simp,by simpa using h.1.1,by rcases h.1.2 with g | ⟨g1,g2⟩; exact .inl g; exact .inr ⟨rfl,g1,Nat.le_trans (by simpa using g2) (hHB _)⟩⟩ (by simp) (by simp) (by simp) (by simp<;>omega) (by simp)
    . exact fin _ _ _ h.2 (by simp; omega) (by simp) (by simp; omega) (by simp) (by simp<;>omega) (by simp)
    . exact fin _ _ _ h.2 (by simp; omega) (by simp) (by simp) (by simp) (by simp<;>omega) (by simp)
    . exact fin _ _ _ h.2 (by simp; omega) (by simp) (by simp) (by simp) (by simp<;>omega) (by simp)
    . exact fin _ _ _ h.2 ⟨h.1.1,h.1.2.1,by rcases h.1.2.2 with g | ⟨g1,g2⟩; exact .inl g; exact .inr ⟨rfl,g1,Nat.le_trans (by simpa using g2) (hHB _)⟩⟩ (by simp) (by simp) (by simp) (by simp<;>omega) (by simp)
    . exact fin _ _ _ h.2 (by simp; omega) (by simp) (by simp; omega) (by simp) (by simp<;>omega) (by simp)
    . exact fin _ _ _ h.2 (by simp; omega) (by simp; omega) (by simp) (by simp) (by simp<;>omega) (by simp)
    . exact fin _ _ _ h.2 (by simp; omega) (by simp; omega) (by simp) (by simp) (by simp<;>omega) (by simp)
    all_goals
     split at h
     . exact fin _ _ _ h.2 (by simp; omega) (by simp; omega) (by simp) (by simp) (by simp<;>omega) (by simp)
     . refine dG h.2 fun I ρ w a hst he=>?_
       have h1' := he x;rw[hx]at h1';have hsh:∃A cap,a.eval x = .slice A len cap/\len<=cap:=by
        revert h1'; generalize a.eval x=u; generalize hz:ti.size=sz; intro hr;cases hr with
        | ms _ _ _ _ cap _ p hp g1 g2 g3=>exact⟨_,_,rfl,g1⟩
        | ms0=>exact⟨_,_,rfl,Nat.le_refl _⟩
       obtain⟨A,cap,hxx,hcap⟩:=hsh;exact⟨_,da ho hu h1 hxx (bC el he) (bC eh he) (bC em he) hcap (by simp; omega) (by simp; omega) (by simp; omega) (by simp; omega) (by simp),.any _ _⟩
   case mr sz id off len =>
    cases hb:Nat.beq sz ti.size<;>simp only[hb]at h
    have e0:=Nat.eq_of_beq_eq_true hb;subst e0;cases m<;>cases l<;>cases hh<;>simp only at h<;>refine dG h.2 fun I ρ w a hst he=>?_
    all_goals
     have h1' := he x;rw[hx]at h1';obtain⟨A,cap,hxx,hcap,p,hp,htot⟩:=y6 h1';rw[hxx]at h1';have hl' := bC el he;have hh' := bC eh he;have hm' := bC em he
    . exact⟨_,da ho hu h1 hxx hl' hh' hm' hcap (by simp) (by simp; omega) (by simp; omega) (by simp) (by simp),Ii h1' (by simp; omega)⟩
    . refine⟨_,da ho hu h1 hxx hl' hh' hm' hcap (by simp; omega) (by simp; omega) (by simp; omega) (by simp) (by simp),?_⟩
      rename_i lv;have hlv:=h.1;have:=Ge h1' (l:=lv.toNat) (h:=len) (by omega) hcap
      rw[Nat.add_comm]at this;simpa using this
    . rename_i lv hv;obtain⟨⟨b0,b1,b2⟩,_⟩:=h;have hhc:hv<=(cap:Int):=by
       rcases b2 with b2 | b2
       . omega
       . have hb5:=Nat.le_trans b2 (hHB _);unfold mM at hb5;cases hob:ar H id<;>simp only[hob]at hb5
         case buf es =>
          have hH:=ax hob (by simp)
          rcases hst.obj id p _ hp hH with⟨e0,_⟩ | ⟨o1,_,_⟩
          . subst e0; simp at hb5; omega
          . omega
         case bufc es =>
          have hH:=ax hob (by simp)
          have:=(hst.obj id p _ hp hH).1;omega
         all_goals omega
      refine⟨_,da ho hu h1 hxx hl' hh' hm' hcap (by simp; omega) (by simp; omega) (by simp; omega) (by simp) (by simp),?_⟩
      have:=Ge h1' (l:=lv.toNat) (h:=hv.toNat) (by omega) (by omega)
      rw[Nat.add_comm]at this;simpa using this
    . exact⟨_,da ho hu h1 hxx hl' hh' hm' hcap (by simp; omega) (by simp; omega) (by simp; omega) (by simp; omega) (by simp),.any _ _⟩
   case nils =>
    have fin:K .nils->l.getD 0=0->hh.getD 0=0->m.getD 0=0->(m.isSome=true->hh.isSome=true) -> ∃v,K v/\lL P o e H v:=by
     intro hK b0 b1 b2 b3;refine dG hK fun I ρ w a hst he=>?_
     have h1' := he x;rw[hx]at h1';exact H4 ho hu h1 h1' (bC el he) (bC eh he) (bC em he) b0 b1 b2 b3
    cases m<;>cases l<;>cases hh<;>simp only at h
    . exact fin h rfl rfl rfl (by simp)
    . exact fin h.2 rfl h.1 rfl (by simp)
    . exact fin h.2 h.1 rfl rfl (by simp)
    . exact fin h.2 h.1.1 h.1.2 rfl (by simp)
    . exact fin h.2 rfl h.1.1 h.1.2 (by simp)
    . exact fin h.2 h.1.1 h.1.2.1 h.1.2.2 (by simp)
end
end Go.Proofs.YteiagdlfccbpcaaGreatDoorPg
