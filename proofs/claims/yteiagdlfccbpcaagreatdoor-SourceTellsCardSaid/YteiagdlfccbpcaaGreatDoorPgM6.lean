/- Own texts, laid together: PgA9, PgB1, PgB2, PgB3, PgB4, PgB41. -/
import Derived.Test.YteiagdlfccbpcaaGreatDoorPgM5
import Derived.Laws.IdiomCopy
import Derived.Laws.AppendOwn
set_option linter.unusedSectionVars false
set_option linter.unusedSimpArgs false
set_option linter.unusedVariables false
namespace Go.Proofs.YteiagdlfccbpcaaGreatDoorPg
open Go Go.RowKit
section
variable [Globs]
variable {P:Program} {T:Nat->TI} {I:aU} {ρ:List Pl} {H:List O} {w:World} {e:Env}
theorem Open.of_block {w w' : World} {b lo hi:Nat} (h:Open w b lo hi) (hb:w'.heap[b]? = w.heap[b]?):Open w' b lo hi:=by
 obtain⟨c,t,fr,h1,h2,h3⟩:=h;exact⟨c,t,fr,by rw[hb,h1],h2,fun o ho1=>by rw[<-h3 o ho1]; exact World.frozen?_of_block (w:=w) hb⟩
theorem CellsAt.of_block {w w' : World} {b base:Nat} {cs:List V} {I' : aU} {ρ' : List Pl} (h:CellsAt I ρ w b base cs) (hb:w'.heap[b]? = w.heap[b]?) (hI:ILe I I') (hp:PLe ρ ρ'):CellsAt I' ρ' w' b base cs:=fun i v hv=>by
 obtain⟨u,h1,ho,h2⟩:=h i v hv;exact⟨u,by rw[<-h1]; exact World.cell?_of_block (w:=w) hb,ho,h2.mono hI hp⟩
theorem ORel.keep {I' : aU} {ρ' : List Pl} {w' : World} {p:Pl} {o:O} (h:ORel I ρ w p o) (hb:∀b,o.owns p b->w'.heap[b]? = w.heap[b]?) (hI:ILe I I') (hp:PLe ρ ρ'):ORel I' ρ' w' p o:=by
 cases o with
 | cells cs =>
  have hb:=hb p.b ⟨trivial,rfl⟩;obtain⟨h1,h2,h3,h4⟩:=h;exact⟨h1,by rw[hb]; exact h2,h3.of_block hb,h4.of_block hb hI hp⟩
 | buf es =>
  rcases h with h | ⟨h1,h2,h3⟩
  . exact .inl h
  . by_cases h0:p.tot=0
    . exact .inl ⟨List.eq_nil_of_length_eq_zero (by omega),h0⟩
    . have hb:=hb p.b ⟨h0,rfl⟩;exact .inr ⟨h1,h2.of_block hb,fun i e he=>⟨(h3 i e he).1,(h3 i e he).2.of_block hb hI (PLe.refl _)⟩⟩
 | bufc es =>
  have hb:=hb p.b ⟨trivial,rfl⟩;obtain⟨h1,h2,h3⟩:=h;exact⟨h1,h2.of_block hb,fun i e he hne=>⟨(h3 i e he hne).1,(h3 i e he hne).2.of_block hb hI (PLe.refl _)⟩⟩
 | iter s pos =>
  have hb:=hb p.b ⟨trivial,rfl⟩;obtain⟨h1,ba,h2,h3⟩:=h;exact⟨h1,ba,h2,by rw[hb,h3]⟩
 | map kvs clock =>
  have hb:=hb p.b ⟨trivial,rfl⟩;obtain⟨es,h1,h2,h3⟩:=h;exact⟨es,by rw[hb,h1],h2,fun i kv e a b=>⟨(h3 i kv e a b).1.mono hI hp,(h3 i kv e a b).2.mono hI hp⟩⟩
 | pmap kvs clock =>
  have hb:=hb p.b ⟨trivial,rfl⟩;obtain⟨es,h1,h2,h3,h4⟩:=h;exact⟨es,by rw[hb,h1],h2,h3,fun i kv e a b=>⟨(h4 i kv e a b).1,(h4 i kv e a b).2.1.mono hI (PLe.refl _),(h4 i kv e a b).2.2.mono hI (PLe.refl _)⟩⟩
 | loop c st e =>
  have hb:=hb p.b ⟨trivial,rfl⟩;obtain⟨r,h1,h2,h3,h4,h5,h6,h7,h8⟩:=h;exact⟨r,by rw[hb,h1],h2,h3,h4,h5,h6,h7,fun t=>(h8 t).mono hI hp⟩
 | res R B =>
  obtain⟨h1,h2,h3⟩:=h;refine⟨h2 I' w' hI hb,fun I'' w'' hi hs=>h2 I'' w'' (hI.trans hi) (fun b hbB=>(hs b hbB).trans (hb b hbB)),fun b hbB=>?_⟩
  have h4:=hb b hbB;rw[Array.getElem?_eq_getElem (h3 b hbB)]at h4;exact(Array.getElem?_eq_some_iff.1 h4).1
 | miter B left cur =>
  obtain⟨h0,⟨mb,since,seen,es,b1,b2,b3,b6,b7,b8,b9⟩,h3⟩:=h;refine⟨h0,⟨mb,since,seen,es,by rw[hb _ b3.2.1]; exact b1,by rw[hb _ b3.2.2]; exact b2,b3,b6,b7,fun i kv e h1 h2=>⟨(b8 i kv e h1 h2).1.mono hI (PLe.refl _),(b8 i kv e h1 h2).2.mono hI (PLe.refl _)⟩,fun kv hkv=>?_⟩,fun b hbB=>?_⟩
  . obtain⟨e,sn,q1,q2,q3,q4⟩:=b9 kv hkv;exact⟨e,sn,q1,q2,q3.mono hI (PLe.refl _),q4.mono hI (PLe.refl _)⟩
  . have h4:=hb b hbB;rw[Array.getElem?_eq_getElem (h3 b hbB)]at h4;exact(Array.getElem?_eq_some_iff.1 h4).1
 | bag l =>
  obtain⟨h0,h1⟩:=h;refine⟨h0,fun x hx=>?_⟩
  have hb:=hb x.1 (List.mem_map_of_mem hx);obtain⟨h2,h3,h4⟩:=h1 x hx;exact⟨by rw[hb]; exact h2,h3.of_block hb,h4.of_block hb hI (PLe.refl _)⟩
 | dead=>exact trivial
theorem St.one (h:St I ρ H w) {ρ' : List Pl} {H' : List O} {w' : World} (c:Nat) (pc:Pl) (oc:O) (hlen:ρ'.length=H'.length) (hP:PLe ρ ρ') (hc1:ρ'[c]? = some pc) (hc2:H'[c]? = some oc)
 (hoth:∀(i:Nat) (o:O),i≠c->H'[i]? = some o->o = .dead\/H[i]? = some o) (hothρ:∀(i:Nat) (p:Pl),i≠c->ρ'[i]? = some p->ρ[i]? = some p)
 (hblk:∀b,b<w.heap.size->b≠pc.b->w'.heap[b]? = w.heap[b]?) (hsame:¬oc.has pc->w'.heap[pc.b]? = w.heap[pc.b]?)
 (hnew:oc.has pc -> ∀(i:Nat) (p:Pl) (o:O),i≠c->ρ[i]? = some p->H'[i]? = some o -> ¬o.owns p pc.b)
 (hsep:oc.has pc -> ∀o,I pc.b o=none) (horel:ORel I ρ' w' pc oc) (hone:∀b,oc.owns pc b->oc.has pc/\pc.b=b:=by exact fun _ h=>h):St I ρ' H' w' := by
 have old:∀(i:Nat) (p:Pl) (o:O) (b:Nat),i≠c->ρ'[i]? = some p->H'[i]? = some o->o.owns p b->ρ[i]? = some p/\H[i]? = some o:=by
  intro i p o b hi hp ho hh;rcases hoth i o hi ho with rfl | ho'
  . exact hh.1.elim
  . exact⟨hothρ i p hi hp,ho'⟩
 refine⟨hlen,?_,?_,⟨?_,h.imm.glob⟩,?_⟩
 . intro i p o hp ho;by_cases hi:i=c
   . subst hi;rw[hc1]at hp; rw[hc2]at ho;cases hp; cases ho;exact horel
   . rcases hoth i o hi ho with rfl | ho'
     . exact trivial
     . have hp' := hothρ i p hi hp;refine(h.obj i p o hp' ho').keep (fun b hh=>?_) (ILe.refl _) hP
       have hlt:b<w.heap.size:=h.lt ⟨i,p,o,hp', ho', hh⟩;by_cases hpb:b=pc.b
       . by_cases hhc:oc.has pc
         . exact absurd (hpb ▸ hh) (hnew hhc i p o hi hp' ho)
         . rw[hpb]; exact hsame hhc
       . exact hblk _ hlt hpb
 . intro i j p q o r b hp ho hh hq hr hh';by_cases hi:i=c
   . by_cases hj:j=c
     . rw[hi,hj]
     . subst hi;rw[hc1]at hp; rw[hc2]at ho;cases hp; cases ho;obtain⟨a1,a2⟩:=old j q r b hj hq hr hh';obtain⟨g1,rfl⟩:=hone b hh;exact absurd hh' (hnew g1 j q r hj a1 hr)
   . by_cases hj:j=c
     . subst hj;rw[hc1]at hq; rw[hc2]at hr;cases hq; cases hr;obtain⟨a1,a2⟩:=old i p o b hi hp ho hh;obtain⟨g1,rfl⟩:=hone b hh';exact absurd hh (hnew g1 i p o hi a1 ho)
     . obtain⟨a1,a2⟩:=old i p o b hi hp ho hh;obtain⟨b1,b2⟩:=old j q r b hj hq hr hh';exact h.inj i j p q o r b a1 a2 hh b1 b2 hh'
 . intro b o v hv;have hlt:=h.imm_lt hv;rw[<-h.imm b o v hv];by_cases hpb:b=pc.b
   . by_cases hhc:oc.has pc
     . subst hpb; rw[hsep hhc o]at hv; cases hv
     . subst hpb; exact World.cell?_of_block (w:=w) (hsame hhc)
   . exact World.cell?_of_block (w:=w) (hblk b hlt hpb)
 . intro b ⟨i,p,o,hp,ho,hh⟩ q;by_cases hi:i=c
   . subst hi;rw[hc1]at hp; rw[hc2]at ho;cases hp; cases ho;obtain⟨g1,rfl⟩:=hone b hh;exact hsep g1 q
   . obtain⟨a1,a2⟩:=old i p o b hi hp ho hh;exact h.sep b ⟨i,p,o,a1,a2,hh⟩ q
theorem Step.one {ρ' : List Pl} {H' : List O} {w' : World} (c:Nat) (pc:Pl) (oc:O) (k:Nat) (hk:k<=ρ.length) (hP:PLe ρ ρ') (hc1:ρ'[c]? = some pc) (hc2:H'[c]? = some oc)
 (hoth:∀(i:Nat) (o:O),i≠c->H'[i]? = some o->o = .dead\/H[i]? = some o) (hothρ:∀(i:Nat) (p:Pl),i≠c->ρ'[i]? = some p->ρ[i]? = some p)
 (hblk:∀b,b<w.heap.size->b≠pc.b->w'.heap[b]? = w.heap[b]?) (hsame:¬oc.has pc->w'.heap[pc.b]? = w.heap[pc.b]?)
 (hown:oc.has pc->az ρ H pc.b\/w.heap.size<=pc.b) (hos:w'.os=w.os) (htape:w'.tape=w.tape) (hout:w'.output=w.output) (hsize:w.heap.size<=w'.heap.size) (hone:∀b,oc.owns pc b->oc.has pc/\pc.b=b:=by exact fun _ h=>h) :
 Step k I ρ H w I ρ' H' w' := by
 refine⟨ILe.refl _,fun i hi=>?_,hos,htape,hout,hsize,fun b hb hn=>?_,fun b ⟨i,p,o,hp,ho,hh⟩=>?_,fun b o v h=>.inl h⟩
 . have:i < ρ.length:=by omega
   rw[aS this,hP i _ (aS this)]
 . by_cases hpb:b=pc.b
   . subst hpb;by_cases hhc:oc.has pc
     . rcases hown hhc with h1 | h1
       . exact absurd h1 hn
       . omega
     . exact hsame hhc
   . exact hblk b hb hpb
 . by_cases hi:i=c
   . subst hi;rw[hc1]at hp; rw[hc2]at ho;cases hp; cases ho;obtain⟨g1,rfl⟩:=hone b hh;exact hown g1
   . rcases hoth i o hi ho with rfl | ho'
     . exact hh.1.elim
     . exact .inl ⟨i,p,o,hothρ i p hi hp,ho', hh⟩
theorem St.push (h:St I ρ H w) (k:Nat) (hk:k<=ρ.length) (ob:Obj) (p:Pl) (o:O) (hp:p.b=w.heap.size) (w' : World) (hw:w'.heap=w.heap.push ob) (hos:w'.os=w.os) (htape:w'.tape=w.tape) (hout:w'.output=w.output)
 (horel:ORel I (ρ ++ [p]) w' p o) (hone:∀b,o.owns p b->o.has p/\p.b=b:=by exact fun _ h=>h):St I (ρ ++ [p]) (H ++ [o]) w'/\Step k I ρ H w I (ρ ++ [p]) (H ++ [o]) w' := by
 have e1:(ρ ++ [p])[H.length]? = some p:=by rw[<-h.len]; simp
 have e2:(H ++ [o])[H.length]? = some o:=by simp
 have e3:∀(i:Nat) (x:O),i≠H.length->(H ++ [o])[i]? = some x->x = .dead\/H[i]? = some x:=by
  intro i x hi hx;have hlt:=(liZ.1 hx).1;simp at hlt;rw[List.getElem?_append_left (by omega)]at hx
  exact .inr hx
 have e4:∀(i:Nat) (q:Pl),i≠H.length->(ρ ++ [p])[i]? = some q->ρ[i]? = some q:=by
  intro i q hi hq;have hlt:=(liZ.1 hq).1;simp[h.len]at hlt;rw[List.getElem?_append_left (by rw[h.len]; omega)]at hq
  exact hq
 have e5:∀b,b<w.heap.size->w'.heap[b]? = w.heap[b]?:=by
  intro b hb;rw[hw,Array.getElem?_push,if_neg (by omega)]
 have fresh:∀(i:Nat) (q:Pl) (x:O),i≠H.length->ρ[i]? = some q->(H ++ [o])[i]? = some x -> ¬x.owns q p.b:=by
  intro i q x hi hq hx hh;rcases e3 i x hi hx with rfl | hx'
  . exact hh.1
  . have:=h.lt ⟨i,q,x,hq,hx', hh⟩;omega
 have nosame:∀ {A:Prop},w'.heap[p.b]? = w.heap[p.b]? -> A:=by
  intro A he;rw[hw,hp]at he;simp at he
 constructor
 . by_cases hh:o.has p
   . exact h.one H.length p o (by simp[h.len]) (PLe.append _ _) e1 e2 e3 e4 (fun b hb _=>e5 b hb) (fun hn=>absurd hh hn) (fun _=>fresh) (fun _ q=>by
      cases hi:I p.b q with
      | none=>rfl
      | some v=>have:=h.imm_lt hi; omega) horel hone
   . refine⟨by simp[h.len],?_,?_,⟨?_,h.imm.glob⟩,?_⟩
     . intro i q x hq hx;by_cases hi:i=H.length
       . subst hi; rw[e1]at hq; rw[e2]at hx; cases hq; cases hx; exact horel
       . rcases e3 i x hi hx with rfl | hx'
         . exact trivial
         . exact(h.obj i q x (e4 i q hi hq) hx').keep (fun b hh' => e5 _ (h.lt ⟨i,q,x,e4 i q hi hq,hx', hh'⟩)) (ILe.refl _) (PLe.append _ _)
     . intro i j q r x y b hq hx hx' hr hy hy';have ni:i≠H.length:=fun hi=>by subst hi; rw[e1]at hq; rw[e2]at hx; cases hq; cases hx; exact hh (hone b hx').1
       have nj:j≠H.length:=fun hi=>by subst hi; rw[e1]at hr; rw[e2]at hy; cases hr; cases hy; exact hh (hone b hy').1
       rcases e3 i x ni hx with rfl | hx2
       . exact hx'.1.elim
       . rcases e3 j y nj hy with rfl | hy2
         . exact hy'.1.elim
         . exact h.inj i j q r x y b (e4 i q ni hq) hx2 hx' (e4 j r nj hr) hy2 hy'
     . intro b q v hv;rw[<-h.imm b q v hv];exact World.cell?_of_block (w:=w) (e5 b (h.imm_lt hv))
     . intro b ⟨i,q,x,hq,hx,hx'⟩ z;have ni:i≠H.length:=fun hi=>by subst hi; rw[e1]at hq; rw[e2]at hx; cases hq; cases hx; exact hh (hone b hx').1
       rcases e3 i x ni hx with rfl | hx2
       . exact hx'.1.elim
       . exact h.sep b ⟨i,q,x,e4 i q ni hq,hx2,hx'⟩ z
 . refine⟨ILe.refl _,fun i hi=>?_,hos,htape,hout,by rw[hw]; simp,fun b hb hn=>e5 b hb,fun b ⟨i,q,x,hq,hx,hx'⟩=>?_,fun b q v hv=>.inl hv⟩
   . rw[List.getElem?_append_left (by omega)]
   . by_cases hi:i=H.length
     . subst hi; rw[e1]at hq; rw[e2]at hx; cases hq; cases hx; right; have:=(hone b hx').2; omega
     . rcases e3 i x hi hx with rfl | hx2
       . exact hx'.1.elim
       . exact .inl ⟨i,q,x,e4 i q hi hq,hx2,hx'⟩
def Wide (F:Fence):Prop:=F=Fence.wide \/ ∃l,F=Fence.wide.inRound l
theorem Wide.fn {F:Fence} (h:Wide F) (f:FuncId):F.fn f:=by rcases h with rfl | ⟨l,rfl⟩<;>trivial
theorem Wide.depth {F:Fence} (h:Wide F):F.depth=none:=by rcases h with rfl | ⟨l,rfl⟩<;>rfl
def ESem (P:Program) (k:Nat) (o:Oper) (e:Env) (H:List O) (K:V->Env->List O->Prop):Prop :=
 ∀(I:aU) (ρ:List Pl) (w:World) (a:Act),St I ρ H w->ERel I ρ e a.tmps->k<=ρ.length -> ∀(F:Fence) (n:Nat),Wide F -> ∀(next:Act->World->Prop) (Q:Exit->Act->World->Prop),
  (∀u v I' ρ' e' H' w', K v e' H'->St I' ρ' H' w'->VRel I' ρ' v u->ERel I' ρ' e' a.tmps->Step k I ρ H w I' ρ' H' w'->next (a.put o.dst u) w')->o.wpIn F n P a w next Q
theorem gD (ro:Option Nat) (ρ' : Operand->Value) (o:Oper) (h:∀c,o.op ≠ .defer c):o.semAt ro ρ'=execOp ρ' o:=by
 unfold Oper.semAt;split
 . rename_i l c ho; exact absurd ho (h c)
 . rfl
theorem aH {k:Nat} {o:Oper} {K:V->Env->List O->Prop} (hd:∀c,o.op ≠ .defer c)
 (h:∀(I:aU) (ρ:List Pl) (w:World) (a:Act),St I ρ H w->ERel I ρ e a.tmps->k<=ρ.length -> ∃u v I' ρ' e' H' w',
  (((execOp a.eval o).run P w = .ok (.value u) w')\/((execOp a.eval o).run P w = .ok .skip w'/\u=undef))/\K v e' H'/\St I' ρ' H' w'/\VRel I' ρ' v u/\ERel I' ρ' e' a.tmps/\Step k I ρ H w I' ρ' H' w'):ESem P k o e H K:=by
 intro I ρ w a hst he hk F n hF next Q hn;obtain⟨u,v,I', ρ', e', H', w', hrun,h1,h2,h3,h4,h5⟩:=h I ρ w a hst he hk;refine⟨fun f _=>hF.fn f,?_⟩
 rw[gD _ _ _ hd];rcases hrun with hrun | ⟨hrun,rfl⟩
 . rw[hrun]; exact hn u v I' ρ' e' H' w' h1 h2 h3 h4 h5
 . rw[hrun]; exact hn undef v I' ρ' e' H' w' h1 h2 h3 h4 h5
theorem oU {I:aU} {ρ:List Pl} {w:World} {cs:List V} {us:Array Value} {t:TypeId} (h:VRels I ρ cs us.toList) (h1:∀(i:Nat) (u:Value),us[i]? = some u->u.oneCell'=true) {b:Nat} (hb:w.heap[b]? = some (.cells us t (0,0))) :
 (∃c t' fr,w.heap[b]? = some (.cells c t' fr)/\c.size=cs.length)/\Open w b 0 cs.length/\CellsAt I ρ w b 0 cs:=by
 have hl:us.size=cs.length:=by have:=h.1; simp at this; exact this.symm
 refine⟨⟨us,t,(0,0),hb,hl⟩,⟨us,t,(0,0),hb,by omega,fun o _=>by simp[World.frozen?,hb]⟩,fun i v hv=>?_⟩
 have hlt:i<us.size:=by rw[hl]; exact(liZ.1 hv).1
 refine⟨us[i],by simp[World.cell?,hb,hlt],h1 i _ (by simp[hlt]),h.2 i v _ hv (by simp[hlt])⟩
theorem uY (hst:St I ρ H w) (k:Nat) (hk:k<=ρ.length) {cs:List V} {us:Array Value} (h:VRels I ρ cs us.toList) (h1:∀(i:Nat) (u:Value),us[i]? = some u->u.oneCell'=true) (t:TypeId) :
 St I (ρ ++ [⟨w.heap.size,0,0,0⟩]) (H ++ [.cells cs]) { w with heap:=w.heap.push (.cells us t) } /\
 VRel I (ρ ++ [⟨w.heap.size,0,0,0⟩]) (.ptr H.length 0) (.pointer (some ⟨w.heap.size,0,none⟩))/\Step k I ρ H w I (ρ ++ [⟨w.heap.size,0,0,0⟩]) (H ++ [.cells cs]) { w with heap:=w.heap.push (.cells us t) }:=by
 have hb:(w.heap.push (.cells us t))[w.heap.size]? = some (.cells us t (0,0)):=by simp
 obtain⟨c1,c2,c3⟩:=oU (I:=I) (ρ:=ρ ++ [⟨w.heap.size,0,0,0⟩]) (w:={ w with heap:=w.heap.push (.cells us t) }) (h.mono (ILe.refl _) (PLe.append _ _)) h1 hb
 obtain⟨s1,s2⟩:=hst.push k hk (.cells us t) ⟨w.heap.size,0,0,0⟩ (.cells cs) rfl { w with heap:=w.heap.push (.cells us t) } rfl rfl rfl rfl ⟨rfl,c1,c2,c3⟩
 refine⟨s1,?_,s2⟩;have:=VRel.ptr (I:=I) (ρ ++ [⟨w.heap.size,0,0,0⟩]) H.length 0 ⟨w.heap.size,0,0,0⟩ (by rw[<-hst.len]; simp)
 simpa using this
theorem G6 (hT:bH P T) {k:Nat} {o:Oper} {t:TypeId} (ho:o.op = .alloc t) {K:V->Env->List O->Prop} (hg:(T t).good=true) (h:K (.ptr H.length 0) e (H ++ [.cells (T t).zero])):ESem P k o e H K:=by
 obtain⟨i,z,d,g1,g2,g3,g4,g5⟩:=bS hT hg;refine aH (by simp[ho]) fun I ρ w a hst he hk=>?_
 have hz:VRels I ρ (T t).zero z.cells.toList:=by rw[g4]; exact cA z.cells
 obtain⟨s1,s2,s3⟩:=uY hst k hk hz (cN g5) t;refine⟨_,_,I,_,e,_,_,.inl ?_,h,s1,s2,he.mono (ILe.refl _) (PLe.append _ _),s3⟩;simp[execOp,ho,Instr.alloc,zeroValue,typeInfo,g1,g2,newVar,newRow]
theorem KB {k:Nat} {o:Oper} {t:TypeId} {x:Operand} (ho:o.op = .box t x) {K:V->Env->List O->Prop} {cs:List V} (hc:cellsOf (am e x)=some cs) (h:K (.ptr H.length 0) e (H ++ [.cells cs])):ESem P k o e H K:=by
 refine aH (by simp[ho]) fun I ρ w a hst he hk=>?_
 obtain⟨c1,c2,c3,c4⟩:=fc hc (aE he x);obtain⟨s1,s2,s3⟩:=uY hst k hk c2 c4 t;refine⟨_,_,I,_,e,_,_,.inl ?_,h,s1,s2,he.mono (ILe.refl _) (PLe.append _ _),s3⟩;simp[execOp,ho,Instr.box,newVar,newRow]
theorem G9 (hT:bH P T) {k:Nat} {o:Oper} {t:TypeId} {x:Operand} (ho:o.op = .range t x) {K:V->Env->List O->Prop} (hk' : (T t).kind = .str) {s:List UInt8} (hx:am e x = .str s) (h:K (.ptr H.length 0) e (H ++ [.iter s 0])):ESem P k o e H K:=by
 refine aH (by simp[ho]) fun I ρ w a hst he hk=>?_
 have hr:=aE he x;rw[hx]at hr;obtain⟨b,hb,e1⟩:=eM hr;have hnew:({ w with heap:=w.heap.push (.stringIter b 0) }:World).heap[w.heap.size]? = some (.stringIter b 0):=by simp
 obtain⟨s1,s2⟩:=hst.push k hk (.stringIter b 0) ⟨w.heap.size,0,0,0⟩ (.iter s 0) rfl { w with heap:=w.heap.push (.stringIter b 0) } rfl rfl rfl rfl ⟨rfl,b,hb,hnew⟩
 refine⟨.pointer (some ⟨w.heap.size,0,none⟩),_,I,_,e,_,_,.inl ?_,h,s1,?_,he.mono (ILe.refl _) (PLe.append _ _),s2⟩
 . simp[execOp,ho,e1,Instr.range,af (dC hT hk')]
 . have:=VRel.ptr (I:=I) (ρ ++ [⟨w.heap.size,0,0,0⟩]) H.length 0 ⟨w.heap.size,0,0,0⟩ (by rw[<-hst.len]; simp)
   simpa using this
def AllLen (sz:Nat) (es:List (List V)):Prop:=∀x∈es,x.length=sz
theorem bt {sz:Nat}:∀ {es:List (List V)},AllLen sz es->es.flatten.length=es.length*sz
 | [],_=>by simp
 | x::es,h=>by
  have ih:=bt (es:=es) fun y hy=>h y (by simp[hy])
  rw[List.flatten_cons,aD,ih,h x (by simp),List.length_cons,Nat.add_mul]; omega
theorem iF {sz:Nat}:∀ {es:List (List V)},AllLen sz es -> ∀ {i j:Nat} {x:List V} {v:V},es[i]? = some x->x[j]? = some v->es.flatten[i*sz+j]? = some v
 | [],_,i,j,x,v,hx,_=>by simp at hx
 | y::es,h,0,j,x,v,hx,hv=>by
  simp at hx; subst hx;have hlt:=(liZ.1 hv).1;rw[List.flatten_cons,List.getElem?_append_left (by omega)]
  simpa using hv
 | y::es,h,i+1,j,x,v,hx,hv=>by
  simp at hx;have hy:=h y (by simp)
  have ih:=iF (es:=es) (fun z hz=>h z (by simp[hz])) hx hv
  rw[List.flatten_cons,List.getElem?_append_right (by rw[hy,Nat.add_mul]; omega),hy,show(i+1)*sz+j-sz=i*sz+j by rw[Nat.add_mul]; omega]
  exact ih
theorem AllLen.append {sz:Nat} {a b:List (List V)} (h:AllLen sz a) (g:AllLen sz b):AllLen sz (a++b):=fun x hx=>by
 rcases List.mem_append.1 hx with h1 | h1
 . exact h x h1
 . exact g x h1
theorem od (hst:St I ρ H w) (k:Nat) (hk:k<=ρ.length) {es:List (List V)} {sz tot:Nat} {us:Array Value} (hes:AllLen sz es) (h:VRels I [] es.flatten (us.toList.take (es.length*sz))) (h1:∀(i:Nat) (u:Value),i<es.length*sz->us[i]? = some u->u.oneCell'=true) (hsz:es.length<=tot) (htot:us.size=tot*sz) (t:TypeId) (w1:World)
 (hh:w1.heap=w.heap) (hos:w1.os=w.os) (htape:w1.tape=w.tape) (hout:w1.output=w.output) :
 St I (ρ ++ [⟨w.heap.size,0,sz,tot⟩]) (H ++ [.buf es]) { w1 with heap:=w.heap.push (.cells us t) } /\ Step k I ρ H w I (ρ ++ [⟨w.heap.size,0,sz,tot⟩]) (H ++ [.buf es]) { w1 with heap:=w.heap.push (.cells us t) }:=by
 have hb:({ w1 with heap:=w.heap.push (.cells us t) }:World).heap[w.heap.size]? = some (.cells us t (0,0)):=by simp
 refine hst.push k hk (.cells us t) ⟨w.heap.size,0,sz,tot⟩ (.buf es) rfl _ rfl hos htape hout (.inr ⟨hsz,⟨us,t,(0,0),hb,by simp[htot],fun o _=>by simp[World.frozen?]⟩,fun i x hx=>⟨hes x (List.mem_of_getElem? hx),fun j v hv=>?_⟩⟩)
 have hf:=iF hes hx hv;have hlt:=(liZ.1 hf).1;have hlt2:i*sz+j<(us.toList.take (es.length*sz)).length:=by rw[<-h.1]; exact hlt
 have hlt3:i*sz+j<us.size:=by simp at hlt2; omega
 refine⟨us[i*sz+j],by simp[World.cell?,hlt3],h1 (i*sz+j) us[i*sz+j] (by simp at hlt2; omega) (by simp[hlt3]),h.2 _ v _ hf ?_⟩
 rw[List.getElem?_take_of_lt (by simp at hlt2; omega)]
 simp[hlt3]
theorem adopt (hst:St I ρ H w) (k:Nat) (hk:k<=ρ.length) (sz:Nat):St I (ρ ++ [⟨0,0,sz,0⟩]) (H ++ [.buf []]) w/\Step k I ρ H w I (ρ ++ [⟨0,0,sz,0⟩]) (H ++ [.buf []]) w:=by
 have e1:(ρ ++ [(⟨0,0,sz,0⟩:Pl)])[H.length]? = some ⟨0,0,sz,0⟩:=by rw[<-hst.len]; simp
 have e2:(H ++ [O.buf []])[H.length]? = some (.buf []):=by simp
 have e3:∀(i:Nat) (x:O),i≠H.length->(H ++ [O.buf []])[i]? = some x->x = .dead\/H[i]? = some x:=by
  intro i x hi hx;have hlt:=(liZ.1 hx).1;simp at hlt;rw[List.getElem?_append_left (by omega)]at hx
  exact .inr hx
 have e4:∀(i:Nat) (q:Pl),i≠H.length->(ρ ++ [(⟨0,0,sz,0⟩:Pl)])[i]? = some q->ρ[i]? = some q:=by
  intro i q hi hq;have hlt:=(liZ.1 hq).1;simp[hst.len]at hlt;rw[List.getElem?_append_left (by rw[hst.len]; omega)]at hq
  exact hq
 have nh:¬(O.buf []).has (⟨0,0,sz,0⟩:Pl):=fun h=>h rfl
 exact⟨hst.one H.length ⟨0,0,sz,0⟩ (.buf []) (by simp[hst.len]) (PLe.append _ _) e1 e2 e3 e4 (fun _ _ _=>rfl) (fun _=>rfl) (fun h=>absurd h nh) (fun h=>absurd h nh) (.inl ⟨rfl,rfl⟩),
  Step.one H.length ⟨0,0,sz,0⟩ (.buf []) k hk (PLe.append _ _) e1 e2 e3 e4 (fun _ _ _=>rfl) (fun _=>rfl) (fun h=>absurd h nh) rfl rfl rfl (Nat.le_refl _)⟩
theorem St.drop1 (hst:St I ρ H w) (id:Nat):St I ρ (H.set id .dead) w /\ ∀k,Step k I ρ H w I ρ (H.set id .dead) w:=by
 have sub:∀(i:Nat) (o:O) (p:Pl),(H.set id .dead)[i]? = some o -> ∀b,o.owns p b->H[i]? = some o:=by
  intro i o p ho b hh;by_cases hi:i=id
  . subst hi;have hlt:=(liZ.1 ho).1;simp at hlt;rw[List.getElem?_set_self hlt]at ho;cases ho; exact hh.1.elim
  . rwa [List.getElem?_set_ne (by omega)]at ho
 refine⟨⟨by simp[hst.len],fun i p o hp ho=>?_,fun i j p q o r b hp ho hh hq hr hh' => hst.inj i j p q o r b hp (sub i o p ho b hh) hh hq (sub j r q hr b hh') hh', hst.imm,fun b ⟨i,p,o,hp,ho,hh⟩=>hst.sep b ⟨i,p,o,hp,sub i o p ho b hh,hh⟩⟩,fun k=>⟨ILe.refl _,fun _ _=>rfl,rfl,rfl,rfl,Nat.le_refl _,fun _ _ _=>rfl,fun b ⟨i,p,o,hp,ho,hh⟩=>.inl ⟨i,p,o,hp,sub i o p ho b hh,hh⟩,fun _ _ _ h=>.inl h⟩⟩
 by_cases hi:i=id
 . subst hi;have hlt:=(liZ.1 ho).1;simp at hlt;rw[List.getElem?_set_self hlt]at ho;cases ho; exact trivial
 . rw[List.getElem?_set_ne (by omega)]at ho
   exact hst.obj i p o hp ho
theorem gI (need old:Nat) (h:old<need):Builtin.nextslicecap need old<=2*need+768:=by
 unfold Builtin.nextslicecap;split
 . omega
 . split
   . omega
   . have key:∀n c,c<need+need / 2+400->Builtin.growBy need n c<=2*need+768:=by
      intro n;induction n with
      | zero=>intro c hc; unfold Builtin.growBy; omega
      | succ n ih =>
       intro c hc;unfold Builtin.growBy;split
       . omega
       . exact ih _ (by omega)
     exact key 4 old (by omega)
structure K4 (P:Program) (w:World) (x:Value) (sz n:Nat) (news:List Value):Prop where
 len:∀w', (Builtin.lenOf x).run P w' = .ok n w'
 cells:∀w', w'.heap=w.heap->(Builtin.firstCells sz n x).run P w' = .ok news.toArray w'
theorem jQ {t t2 ty q:TypeId} {i:TypeInfo} (ht:P.underlying t=some (.slice q)) {d2:TypeDesc} (ht2:P.underlying t2=some d2) (hd2:d2 = .string \/ ∃q2,d2 = .slice q2) (hi:P.info? q=some i) {b o sLen sCap n:Nat} {x:Value} {news:List Value}
 (hs:K4 P w x i.size n news) (hroom:sLen+n<=sCap) (hc:∀j,j<news.length->(w.cell? ⟨b,o+sLen*i.size+j,none⟩).isSome=true) (hf:∀j,j<news.length->w.frozen? ⟨b,o+sLen*i.size+j,none⟩=false) (h1:∀v∈news,v.oneCell'=true) :
 (Builtin.append_ #[t,t2] ty #[.slice (some ⟨b,o,none⟩) sLen sCap,x]).run P w = .ok (.slice (some ⟨b,o,none⟩) (sLen+n) sCap) (w.setCells b (o+sLen*i.size) news):=by
 have hst:=run_storeCells_cells (P:=P) b (o+sLen*i.size) news 0 w (by simpa using hc) (by simpa using hf) h1
 simp only[Nat.add_zero]at hst;rcases hd2 with rfl | ⟨q2,rfl⟩<;>simp[Builtin.append_,af ht,af ht2,sizeOf,typeInfo,hi,hs.len,hs.cells w rfl,hroom,fu,hst]
theorem gO {t t2 ty q:TypeId} {i:TypeInfo} (ht:P.underlying t=some (.slice q)) {d2:TypeDesc} (ht2:P.underlying t2=some d2) (hd2:d2 = .string \/ ∃q2,d2 = .slice q2) (hi:P.info? q=some i) {A:Option Addr} {sLen sCap:Nat} {x:Value}
 (hs:K4 P w x i.size 0 []) (hroom:sLen<=sCap):(Builtin.append_ #[t,t2] ty #[.slice A sLen sCap,x]).run P w = .ok (.slice A sLen sCap) w:=by
 have h0:Sem.run P (Builtin.firstCells i.size 0 x) w = .ok #[] w:=hs.cells w rfl;cases A<;>rcases hd2 with rfl | ⟨q2,rfl⟩<;>simp[Builtin.append_,af ht,af ht2,sizeOf,typeInfo,hi,hs.len,h0,hroom,storeCells]
theorem pu {t t2 ty q:TypeId} {i:TypeInfo} {z:Value} (ht:P.underlying t=some (.slice q)) {d2:TypeDesc} (ht2:P.underlying t2=some d2) (hd2:d2 = .string \/ ∃q2,d2 = .slice q2) (hi:P.info? q=some i) (hz:i.zero=some z)
 {A:Option Addr} {sLen sCap n:Nat} {x:Value} {news olds:List Value} (hs:K4 P w x i.size n news) (ho:∀w', w'.heap=w.heap->(Builtin.firstCells i.size sLen (.slice A sLen sCap)).run P w' = .ok olds.toArray w') (hg:sCap<sLen+n)
 (hb0:0<i.bytes) (hfit:Builtin.nextslicecap (sLen+n) sCap*i.bytes<=281474976710656) :
 (Builtin.append_ #[t,t2] ty #[.slice A sLen sCap,x]).run P w = .ok (.slice (some ⟨w.heap.size,0,none⟩) (sLen+n) (grownCap w (sLen+n) sCap q))
  (w.drew.alloc (.cells ((olds++news).toArray++Builtin.zeroCells z.cells (grownCap w (sLen+n) sCap q-(sLen+n))) q)):=by
 have hn:¬(sLen+n<=sCap):=by omega
 have h48' : ¬(281474976710656<Builtin.nextslicecap (sLen+n) sCap*i.bytes):=by omega
 have hb:i.bytes≠0:=by omega
 have e1:=hs.cells w.drew rfl;have e2:=ho w.drew rfl
 rcases hd2 with rfl | ⟨q2,rfl⟩ <;>
  simp[Builtin.append_,af ht,af ht2,sizeOf,typeInfo,zeroValue,hi,hz,hs.len,hn,h48', hb,Question.forced,e1,e2,newRow,grownCap,<-Array.append_assoc]
structure ir (P:Program) (I:aU) (w:World) (x:Value) (sz:Nat) (ys:List (List V)):Prop where
 out:∃news,K4 P w x sz ys.length news/\AllLen sz ys/\VRels I [] ys.flatten news /\ ∀u∈news,u.oneCell'=true
theorem gu {sz:Nat}:∀ {es:List (List V)},AllLen sz es -> ∀ {k:Nat} {v:V},es.flatten[k]? = some v -> ∃x,es[k / sz]? = some x/\x[k % sz]? = some v/\0<sz/\k % sz<sz
 | [],_,k,v,h=>by simp at h
 | y::es,hl,k,v,h=>by
  have hy:=hl y (by simp)
  by_cases hk:k<y.length
  . rw[List.flatten_cons,List.getElem?_append_left hk]at h;have h0:0<sz:=by omega
    exact⟨y,by rw[Nat.div_eq_of_lt (by omega)]; simp,by rw[Nat.mod_eq_of_lt (by omega)]; exact h,h0,Nat.mod_lt _ h0⟩
  . rw[List.flatten_cons,List.getElem?_append_right (by omega),hy]at h
    obtain⟨x,h1,h2,h3,h4⟩:=gu (es:=es) (fun z hz=>hl z (by simp[hz])) h
    have e1:k / sz=(k-sz) / sz+1:=by
     rw[Nat.div_eq k sz,if_pos ⟨h3,by omega⟩]
    have e2:k % sz=(k-sz) % sz:=by rw[Nat.mod_eq_sub_mod (by omega)]
    exact⟨x,by rw[e1]; simpa using h1,by rw[e2]; exact h2,h3,by rw[e2]; exact h4⟩
theorem fW {x:Value} {b base len cap sz:Nat} (hx:x = .slice (some ⟨b,base,none⟩) len cap) {ys:List (List V)} (hl:AllLen sz ys) {n:Nat} (hn:n=ys.length)
 (hc:∀(i:Nat) (y:List V) (j:Nat) (v:V),ys[i]? = some y->y[j]? = some v -> ∃u,w.cell? ⟨b,base+(i*sz+j),none⟩=some u/\u.oneCell'=true/\VRel I [] v u) :
 ∃news:List Value,(∀w', w'.heap=w.heap->(Builtin.firstCells sz n x).run P w' = .ok news.toArray w')/\VRels I [] ys.flatten news /\ ∀u∈news,u.oneCell'=true:=by
 subst hn;have hex:∀k,k<ys.length*sz -> ∃u,w.cell? ⟨b,base+k,none⟩=some u/\u.oneCell'=true/\VRel I [] (ys.flatten.getD k .any) u:=by
  intro k hk;have hlt:k<ys.flatten.length:=by rw[bt hl]; exact hk
  obtain⟨y,h1,h2,h3,h4⟩:=gu hl (aS hlt);obtain⟨u,g1,g2,g3⟩:=hc _ y _ _ h1 h2;refine⟨u,?_,g2,by simpa [List.getD,aS hlt]using g3⟩
  rw[<-g1];congr 2
  have:=Nat.div_add_mod k sz;rw[Nat.mul_comm]at this;omega
 obtain⟨f,hf⟩:∃f:Nat->Value,∀k,k<ys.length*sz->w.cell? ⟨b,base+k,none⟩=some (f k)/\(f k).oneCell'=true/\VRel I [] (ys.flatten.getD k .any) (f k) :=
  ⟨fun k=>if hk:k<ys.length*sz then(hex k hk).choose else default,fun k hk=>by simp only[hk,dif_pos]; exact(hex k hk).choose_spec⟩
 refine⟨(List.range (ys.length*sz)).map f,fun w' hw=>?_,⟨by simp[bt hl],fun k v u hv hu=>?_⟩,fun u hu=>?_⟩
 . subst hx;have:=run_loadCells (P:=P) w' ⟨b,base,none⟩ (ys.length*sz) f (fun j hj=>by
    rw[fu];rw[<- (hf j hj).1];exact World.cell?_of_block (w:=w) (by rw[hw]))
   simpa [Builtin.firstCells]using this
 . have hk:k<ys.length*sz:=by have:=(liZ.1 hu).1; simpa using this
   simp[hk]at hu;subst hu;have:=(hf k hk).2.2;simpa [List.getD,hv]using this
 . simp at hu;obtain⟨k,hk,rfl⟩:=hu;exact(hf k hk).2.1
theorem lU {x:Value} {A:Option Addr} {cap:Nat} (hx:x = .slice A 0 cap) (sz:Nat):ir P I w x sz []:=by
 subst hx;refine⟨[],⟨fun w' => by simp[Builtin.lenOf],fun w' hw=>?_⟩,fun y hy=>by simp at hy,.nil _ _,by simp⟩
 cases A<;>simp[Builtin.firstCells,loadCells,loadCellsFrom]
theorem kj {sz:Nat} {x:V} {K:List (List V)->Prop} (h:ki sz x H K) :
 ∃ys,K ys /\ ∀(I:aU) (ρ:List Pl) (w:World) (u:Value),St I ρ H w->VRel I ρ x u->ir P I w u sz ys:=by
 unfold ki at h;split at h
 . rename_i z es full;cases hb:Nat.beq z sz<;>simp only[hb]at h
   have e0:=Nat.eq_of_beq_eq_true hb;subst e0;refine⟨es,h,fun I ρ w u hst hr=>?_⟩
   cases hr with
   | sl _ _ _ _ b base cap f g1 g2 g3 g4 g4' g5 =>
    have hl:AllLen z es:=fun y hy=>by
     obtain⟨i,hi⟩:=List.getElem?_of_mem hy;exact g3 i y hi
    obtain⟨news,h1,h2,h3⟩:=fW (P:=P) (I:=I) (w:=w) (n:=es.length) (cap:=cap) (len:=es.length) rfl hl rfl (fun i y j v hy hv=>⟨f i j,hst.imm _ _ _ (g4 i y j v hy hv),g4' i y j v hy hv,g5 i y j v hy hv⟩)
    exact⟨news,⟨fun w' => by simp[Builtin.lenOf],h1⟩,hl,h2,h3⟩
   | slnil=>exact lU rfl _
 . exact⟨[],h,fun I ρ w u hst hr=>lU (fJ hr) _⟩
 . rename_i z id off len full;cases hb:Nat.beq z sz<;>simp only[hb]at h
   have e0:=Nat.eq_of_beq_eq_true hb;subst e0;cases hg:ar H id<;>simp only[hg]at h
   rename_i es;obtain⟨hle,hK⟩:=h;refine⟨_,hK,fun I ρ w u hst hr=>?_⟩
   have hlen:((es.drop off).take len).length=len:=by simp; omega
   have get:∀(i:Nat) (y:List V),((es.drop off).take len)[i]? = some y->es[off+i]? = some y:=fun i y hy=>by
    have hlt:=(liZ.1 hy).1;rw[List.getElem?_take_of_lt (by simp at hlt; omega),List.getElem?_drop]at hy
    exact hy
   cases hr with
   | ms _ _ _ _ cap _ p hp g1 g2 g3 =>
    have hl:AllLen p.sz ((es.drop off).take len):=fun y hy=>by
     obtain⟨i,hi⟩:=List.getElem?_of_mem hy;exact(iD hst hp hg (get i y hi)).1
    obtain⟨news,h1,h2,h3⟩:=fW (P:=P) (I:=I) (w:=w) (b:=p.b) (base:=p.base+off*p.sz) (n:=len) (cap:=cap) (len:=len) rfl hl hlen.symm (fun i y j v hy hv=>by
     obtain⟨u,c1,c2,c3⟩:=(iD hst hp hg (get i y hy)).2.1 j v hv;refine⟨u,?_,c2,c3⟩;rw[<-c1]; congr 2; rw[Nat.add_mul]; omega)
    exact⟨news,⟨fun w' => by simp[Builtin.lenOf,hlen],by rw[hlen]; exact h1⟩,hl,h2,h3⟩
   | ms0 =>
    have e0:(es.drop off).take 0 = []:=by simp
    rw[e0];exact lU rfl _
 . rename_i s;cases hb:Nat.beq 1 sz<;>simp only[hb]at h
   have e0:=Nat.eq_of_beq_eq_true hb;subst e0;refine⟨_,h,fun I ρ w u hst hr=>?_⟩
   obtain⟨b,hb,rfl⟩:=eM hr;have hl:AllLen 1 (s.map fun c=>[V.int .u8 c.toNat]):=fun y hy=>by simp at hy; obtain⟨c,_,rfl⟩:=hy; rfl
   have hf:∀s:List UInt8,(s.map fun c=>[V.int .u8 c.toNat]).flatten=s.map fun c=>V.int .u8 c.toNat:=by
    intro s;induction s with
    | nil=>rfl
    | cons c s ih=>simp[ih]
   refine⟨s.map fun c=>Value.int .u8 c.toNat,⟨fun w' => ?_,fun w' hw=>?_⟩,hl,?_,fun u hu=>by simp at hu; obtain⟨c,_,rfl⟩:=hu; rfl⟩
   . have:b.size=s.length:=by rw[<-hb]; rfl
     simp[Builtin.lenOf,this]
   . have hsz:b.size=s.length:=by rw[<-hb]; rfl
     have:(b.extract 0 s.length).data.map (fun c=>Value.int .u8 c.toNat)=(s.map fun c=>Value.int .u8 c.toNat).toArray:=by
      apply Array.ext';rw[ByteArray.data_extract];simp[hb,List.extract,List.take_of_length_le]
     simp[Builtin.firstCells];simpa using this
   . rw[hf];exact⟨by simp,fun i a u ha hu=>by simp at ha hu; obtain⟨c,h1,rfl⟩:=ha; obtain⟨c', h1', rfl⟩:=hu; rw[h1]at h1'; cases h1'; exact .int _ _ _⟩
 . exact h.elim
theorem dB (hT:bH P T) {q:TypeId} (h:eJ (T q)=true):∃i z,P.info? q=some i/\i.zero=some z/\(T q).size=i.size/\(T q).bytes=i.bytes/\0<i.bytes/\i.bytes<=65536/\0<i.size/\z.cells.size=i.size/\(T q).good=true:=by
 unfold eJ at h;simp only[Bool.and_eq_true]at h;obtain⟨h1,h2,h3,h4,h5⟩:=h;obtain⟨i,z,d,g1,g2,g3,g4,g5⟩:=bS hT h1;rw[g4]at h2 h3 h4 h5;have h6:=Nat.eq_of_beq_eq_true h5;simp at h6;exact⟨i,z,g1,g2,by rw[g4],by rw[g4],aA h2,aA h3,aA h4,h6,h1⟩
def m7 (P:Program) (k:Nat) (I:aU) (ρ:List Pl) (H:List O) (w:World) (K:V->List O->Prop) (t t2 ty:TypeId) (s x:Value):Prop :=
 ∃u w' v ρ' H', (Builtin.append_ #[t,t2] ty #[s,x]).run P w = .ok u w'/\K v H'/\St I ρ' H' w'/\VRel I ρ' v u/\PLe ρ ρ'/\Step k I ρ H w I ρ' H' w'
theorem nA {k:Nat} {t t2 ty q:TypeId} {i:TypeInfo} {z:Value} (ht:P.underlying t=some (.slice q)) {d2:TypeDesc} (ht2:P.underlying t2=some d2) (hd2:d2 = .string \/ ∃q2,d2 = .slice q2) (hi:P.info? q=some i) (hz:i.zero=some z)
 (hb0:0<i.bytes) (hb1:i.bytes<=65536) (hzs:z.cells.size=i.size) (hst:St I ρ H w) (hk:k<=ρ.length) {A:Option Addr} {sLen sCap:Nat} {x:Value} {os ys:List (List V)} (hos:os.length=sLen) (hE:ir P I w x i.size ys) (hO:ir P I w (.slice A sLen sCap) i.size os) (hg:sCap<sLen+ys.length)
 {K:V->List O->Prop} (hn:bJ i.size i.bytes (os++ys) H K):m7 P k I ρ H w K t t2 ty (.slice A sLen sCap) x:=by
 obtain⟨news,n1,n2,n3,n4⟩:=hE.out;obtain⟨olds,o1,o2,o3,o4⟩:=hO.out;obtain⟨hle,hK⟩:=hn;rw[aj]at hK;subst hos;have hneed:(os++ys).length=os.length+ys.length:=by simp
 rw[hneed]at hle;have hcapb:Builtin.nextslicecap (os.length+ys.length) sCap*i.bytes<=281474976710656:=by
  have h1:=gI _ _ hg;have h2:=Nat.mul_le_mul_right i.bytes h1;rw[Nat.add_mul,Nat.mul_assoc]at h2;have h3:768*i.bytes<=768*65536:=Nat.mul_le_mul_left _ hb1;omega
 have hrun:=pu (ty:=ty) ht ht2 hd2 hi hz n1 o1.cells hg hb0 hcapb;obtain⟨cap,hcap⟩:∃cap,cap=grownCap w (os.length+ys.length) sCap q:=⟨_,rfl⟩;have hge:os.length+ys.length<=cap:=by rw[hcap]; simp only[grownCap,Question.cut]; omega
 rw[<-hcap]at hrun;obtain⟨us,hus⟩:∃us,us=(olds++news).toArray++Builtin.zeroCells z.cells (cap-(os.length+ys.length)):=⟨_,rfl⟩;have hl1:olds.length=os.length*i.size:=by rw[<-o3.1,bt o2]
 have hl2:news.length=ys.length*i.size:=by rw[<-n3.1,bt n2]
 have hsize:us.size=cap*i.size:=by
  rw[hus];simp[Builtin.zeroCells,hl1,hl2,hzs];rw[<-Nat.add_mul,<-Nat.add_mul];congr 1; omega
 have htake:us.toList.take ((os++ys).length*i.size)=olds++news:=by
  have e1:(os++ys).length*i.size=(olds++news).length:=by rw[hneed,Nat.add_mul,<-hl1,<-hl2]; simp
  rw[e1,hus,Array.toList_append];exact List.take_left
 have hrels:VRels I [] (os++ys).flatten (us.toList.take ((os++ys).length*i.size)):=by
  rw[htake,List.flatten_append];exact o3.append n3
 obtain⟨s1,s2⟩:=od hst k hk (es:=os++ys) (sz:=i.size) (tot:=cap) (us:=us) (o2.append n2) hrels (fun j u hj hu=>by
  have h1:(us.toList.take ((os++ys).length*i.size))[j]? = some u:=by
   rw[List.getElem?_take_of_lt hj]; simpa using hu
  rw[htake]at h1;rcases List.mem_append.1 (List.mem_of_getElem? h1)with h2 | h2
  . exact o4 u h2
  . exact n4 u h2) (by rw[hneed]; exact hge) hsize q w.drew rfl rfl rfl rfl
 rw[<-hus]at hrun;refine⟨_,_,_,_,_,hrun,hK,s1,?_,PLe.append _ _,s2⟩;have:=VRel.ms (I:=I) (ρ ++ [⟨w.heap.size,0,i.size,cap⟩]) H.length 0 (os++ys).length cap false ⟨w.heap.size,0,i.size,cap⟩ (by rw[<-hst.len]; simp) (by rw[hneed]; exact hge) (by simp) (by simp)
 rw[hneed]at this;rw[hneed];simpa using this
theorem C1 {k:Nat} {t t2 ty q:TypeId} {i:TypeInfo} (ht:P.underlying t=some (.slice q)) {d2:TypeDesc} (ht2:P.underlying t2=some d2) (hd2:d2 = .string \/ ∃q2,d2 = .slice q2) (hi:P.info? q=some i)
 (hst:St I ρ H w) (hk:k<=ρ.length) {A:Option Addr} {x:Value} (hE:ir P I w x i.size []) {K:V->List O->Prop} (hn:bJ i.size i.bytes [] H K):m7 P k I ρ H w K t t2 ty (.slice A 0 0) x:=by
 obtain⟨news,n1,n2,n3,n4⟩:=hE.out;obtain⟨_,hK⟩:=hn;rw[aj]at hK;have h0:news = []:=by have:=n3.1; simp at this; exact List.eq_nil_of_length_eq_zero this.symm
 subst h0;have hrun:=gO (ty:=ty) ht ht2 hd2 hi (A:=A) (sLen:=0) (sCap:=0) n1 (Nat.le_refl _);obtain⟨s1,s2⟩:=adopt hst k hk i.size;exact⟨_,_,_,_,_,hrun,hK,s1,.ms0 _ _ _ _ _ _,PLe.append _ _,s2⟩
theorem lP {k:Nat} {t t2 ty q:TypeId} {i:TypeInfo} {z:Value} (ht:P.underlying t=some (.slice q)) {d2:TypeDesc} (ht2:P.underlying t2=some d2) (hd2:d2 = .string \/ ∃q2,d2 = .slice q2) (hi:P.info? q=some i) (hz:i.zero=some z)
 (hb0:0<i.bytes) (hb1:i.bytes<=65536) (hzs:z.cells.size=i.size) (hst:St I ρ H w) (hk:k<=ρ.length) {A:Option Addr} {x:Value} {ys:List (List V)} (hE:ir P I w x i.size ys)
 {K:V->List O->Prop} (hn:bJ i.size i.bytes ys H K):m7 P k I ρ H w K t t2 ty (.slice A 0 0) x:=by
 cases ys with
 | nil=>exact C1 ht ht2 hd2 hi hst hk hE hn
 | cons y ys=>exact nA (os:=[]) ht ht2 hd2 hi hz hb0 hb1 hzs hst hk rfl hE (lU rfl _) (by simp) hn
theorem iS (b:Nat):∀(vs:List Value) (o:Nat) (w:World) {c:Array Value} {t:TypeId} {fr:Nat × Nat},w.heap[b]? = some (.cells c t fr) -> ∃c', (w.setCells b o vs).heap[b]? = some (.cells c' t fr)/\c'.size=c.size
 | [],o,w,c,t,fr,h=>⟨c,h,rfl⟩
 | v::vs,o,w,c,t,fr,h=>by
  have h1:(w.setCell ⟨b,o,none⟩ v).heap[b]? = some (.cells (c.setIfInBounds o v) t fr):=by
   simp[World.setCell,Array.getElem?_modify,h]
  obtain⟨c', h2,h3⟩:=iS b vs (o+1) _ h1;exact⟨c', by rw[World.setCells]; exact h2,by rw[h3]; simp⟩
theorem fD (b:Nat):∀(vs:List Value) (o:Nat) (w:World) (b' : Nat),b'≠b->(w.setCells b o vs).heap[b']? = w.heap[b']?
 | [],o,w,b', h=>rfl
 | v::vs,o,w,b', h=>by
  rw[World.setCells,fD b vs (o+1) _ b' h];exact Below.heap_setCell _ _ _ _ h
theorem jm (b:Nat):∀(vs:List Value) (o:Nat) (w:World),(w.setCells b o vs).os=w.os/\(w.setCells b o vs).tape=w.tape/\(w.setCells b o vs).output=w.output/\(w.setCells b o vs).heap.size=w.heap.size
 | [],o,w=>⟨rfl,rfl,rfl,rfl⟩
 | v::vs,o,w=>by
  obtain⟨h1,h2,h3,h4⟩:=jm b vs (o+1) (w.setCell ⟨b,o,none⟩ v);rw[World.setCells];exact⟨h1,h2,h3,by rw[h4]; simp[World.setCell]⟩
theorem Open.setCells {b lo hi:Nat} (h:Open w b lo hi) (o:Nat) (vs:List Value):Open (w.setCells b o vs) b lo hi:=by
 obtain⟨c,t,fr,h1,h2,h3⟩:=h;obtain⟨c', g1,g2⟩:=iS b vs o w h1;exact⟨c', t,fr,g1,by omega,fun q q1=>by rw[World.frozen?_setCells]; exact h3 q q1⟩
theorem Open.cell {b lo hi:Nat} (h:Open w b lo hi) {o:Nat} (ho:o<hi):(w.cell? ⟨b,o,none⟩).isSome=true:=by
 obtain⟨c,t,fr,h1,h2,h3⟩:=h;have:o<c.size:=by omega
 simp[World.cell?,h1,this]
theorem Open.sub {b lo hi lo' hi' : Nat} (h:Open w b lo hi) (h1:lo<=lo') (h2:hi'<=hi):Open w b lo' hi' := by
 obtain⟨c,t,fr,g1,g2,g3⟩:=h;exact⟨c,t,fr,g1,by omega,fun o a=>g3 o (by omega)⟩
theorem CellsAt.apart {b base o:Nat} {cs:List V} (h:CellsAt I ρ w b base cs) (vs:List Value) (hd:base+cs.length<=o\/o+vs.length<=base):CellsAt I ρ (w.setCells b o vs) b base cs:=fun i v hv=>by
 obtain⟨u,h1,h2,h3⟩:=h i v hv;have hlt:=(liZ.1 hv).1;exact⟨u,by rw[World.cell?_setCells_out _ _ _ _ _ (fun _ _=>by simp; omega)]; exact h1,h2,h3⟩
theorem CellsAt.written {b lo hi o:Nat} (hop:Open w b lo hi) {vs:List Value} (hhi:o+vs.length<=hi) {cs:List V} {base:Nat} (h1:∀u∈vs,u.oneCell'=true) {d:Nat} (hb:base=o+d) (hr:∀(i:Nat) (v:V),cs[i]? = some v -> ∃u,vs[d+i]? = some u/\VRel I ρ v u) :
 CellsAt I ρ (w.setCells b o vs) b base cs:=fun i v hv=>by
 obtain⟨u,g1,g2⟩:=hr i v hv;have hlt:=(liZ.1 g1).1;refine⟨u,?_,h1 u (List.mem_of_getElem? g1),g2⟩;have:=World.cell?_setCells_in b vs o w (fun j hj=>hop.cell (by omega)) (d+i) hlt
 rw[show base+i=o+(d+i) by omega,this]
 rw[aS hlt]at g1;exact g1
theorem Ej {k:Nat} {t t2 ty q:TypeId} {i:TypeInfo} (ht:P.underlying t=some (.slice q)) {d2:TypeDesc} (ht2:P.underlying t2=some d2) (hd2:d2 = .string \/ ∃q2,d2 = .slice q2) (hi:P.info? q=some i) (hb0:0<i.size)
 (hst:St I ρ H w) (hk:k<=ρ.length) {id off len cap:Nat} {p:Pl} (hp:ρ[id]? = some p) (hsz:p.sz=i.size) {es ys:List (List V)} (hg:ar H id = .buf es) (htip:off+len=es.length) (g1:len<=cap) (g2:off+cap<=p.tot)
 {x:Value} (hE:ir P I w x i.size ys) (hroom:len+ys.length<=cap)
 {K:V->List O->Prop} (hn:bJ i.size i.bytes (es.drop off++ys) (bX H id .dead) K):m7 P k I ρ H w K t t2 ty (.slice (some ⟨p.b,p.base+off*p.sz,none⟩) len cap) x:=by
 obtain⟨news,n1,n2,n3,n4⟩:=hE.out;obtain⟨_,hK⟩:=hn;rw[aj,bO]at hK;obtain⟨s0,IS⟩:=hst.drop1 id;have hH:H[id]? = some (.buf es):=ax hg (by simp)
 have hor:=hst.obj id p _ hp hH;have hlen:(es.drop off++ys).length=len+ys.length:=by simp; omega
 have hHl:(H.set id .dead).length=H.length:=by simp
 by_cases hc0:cap=0
 . have hy0:ys = []:=List.eq_nil_of_length_eq_zero (by omega)
   subst hy0;have hnews:news = []:=by have:=n3.1; simp at this; exact List.eq_nil_of_length_eq_zero this.symm
   subst hnews;have hl0:len=0:=by omega
   subst hl0;subst hc0;have hd0:es.drop off = []:=by apply List.eq_nil_of_length_eq_zero; simp; omega
   rw[hd0]at hK;have hrun:=gO (ty:=ty) ht ht2 hd2 hi (A:=some ⟨p.b,p.base+off*p.sz,none⟩) (sLen:=0) (sCap:=0) n1 (Nat.le_refl _);obtain⟨s1,s2⟩:=adopt s0 k hk i.size;exact⟨_,_,_,_,_,hrun,hK,s1,.ms0 _ _ _ _ _ _,PLe.append _ _,(IS k).trans s2⟩
 . have htot:p.tot≠0:=by omega
   rcases hor with⟨_,h0⟩ | ⟨o1,o2,o3⟩
   . exact absurd h0 htot
   have hl2:news.length=ys.length*i.size:=by rw[<-n3.1,bt n2]
   have hmul:p.base+off*p.sz+len*i.size+news.length<=p.base+p.tot*p.sz:=by
    rw[hl2,hsz,Nat.add_assoc,Nat.add_assoc,<-Nat.add_mul,<-Nat.add_mul];have:=Nat.mul_le_mul_right i.size (show off+(len+ys.length)<=p.tot by omega)
    omega
   have hrun:=jQ (ty:=ty) ht ht2 hd2 hi (b:=p.b) (o:=p.base+off*p.sz) n1 hroom (fun j hj=>o2.cell (by omega)) (fun j hj=>by
    obtain⟨c,t', fr,c1,c2,c3⟩:=o2;exact c3 _ (by omega)) n4
   obtain⟨w', hw'⟩:∃w', w'=w.setCells p.b (p.base+off*p.sz+len*i.size) news:=⟨_,rfl⟩;rw[<-hw']at hrun;obtain⟨m1,m2,m3,m4⟩:=jm p.b news (p.base+off*p.sz+len*i.size) w;rw[<-hw']at m1 m2 m3 m4;have e1:(ρ ++ [(⟨p.b,p.base+off*p.sz,i.size,cap⟩:Pl)])[H.length]? = some ⟨p.b,p.base+off*p.sz,i.size,cap⟩:=by rw[<-hst.len]; simp
   have e2:(H.set id .dead ++ [O.buf (es.drop off++ys)])[H.length]? = some (.buf (es.drop off++ys)):=by simp
   have e3:∀(j:Nat) (o:O),j≠H.length->(H.set id .dead ++ [O.buf (es.drop off++ys)])[j]? = some o->o = .dead\/(H.set id .dead)[j]? = some o:=by
    intro j o hj ho;have hlt:=(liZ.1 ho).1;simp at hlt;rw[List.getElem?_append_left (by simp; omega)]at ho
    exact .inr ho
   have e4:∀(j:Nat) (r:Pl),j≠H.length->(ρ ++ [(⟨p.b,p.base+off*p.sz,i.size,cap⟩:Pl)])[j]? = some r->ρ[j]? = some r:=by
    intro j r hj hr;have hlt:=(liZ.1 hr).1;simp[hst.len]at hlt;rw[List.getElem?_append_left (by rw[hst.len]; omega)]at hr
    exact hr
   have hown:az ρ H p.b:=⟨id,p,_,hp,hH,htot,rfl⟩;have e5:∀b,b<w.heap.size->b≠p.b->w'.heap[b]? = w.heap[b]?:=fun b _ hb=>by rw[hw']; exact fD _ _ _ _ _ hb
   have e6:∀(j:Nat) (r:Pl) (o:O),j≠H.length->ρ[j]? = some r->(H.set id .dead ++ [O.buf (es.drop off++ys)])[j]? = some o -> ¬o.owns r p.b:=by
    intro j r o hj hr ho hh;rcases e3 j o hj ho with rfl | ho'
    . exact hh.1
    . by_cases hji:j=id
      . subst hji;have hlt:=(liZ.1 ho').1;simp at hlt;rw[List.getElem?_set_self hlt]at ho';cases ho'; exact hh.1
      . rw[List.getElem?_set_ne (by omega)]at ho'
        exact hji (hst.inj j id r p o _ p.b hr ho' hh hp hH ⟨htot,rfl⟩)
   have horel:ORel I (ρ ++ [⟨p.b,p.base+off*p.sz,i.size,cap⟩]) w' ⟨p.b,p.base+off*p.sz,i.size,cap⟩ (.buf (es.drop off++ys)):=by
    refine .inr ⟨by rw[hlen]; exact hroom,?_,fun j y hy=>?_⟩
    . rw[hw'];refine(o2.setCells _ _).sub (by simp) ?_
      simp only;rw[hsz,Nat.add_assoc,<-Nat.add_mul];have:=Nat.mul_le_mul_right i.size g2;omega
    . by_cases hj:j<(es.drop off).length
      . rw[List.getElem?_append_left hj,List.getElem?_drop]at hy;obtain⟨c1,c2⟩:=o3 _ y hy;refine⟨by rw[c1,hsz],?_⟩
        rw[hw'];simp only;have e:p.base+(off+j)*p.sz=p.base+off*p.sz+j*i.size:=by rw[Nat.add_mul,hsz]; omega
        rw[e]at c2;refine c2.apart news (.inl ?_);have hjl:j+1<=len:=by simp at hj; omega
        have:=Nat.mul_le_mul_right i.size hjl;rw[Nat.add_mul]at this;rw[c1,hsz]; omega
      . rw[List.getElem?_append_right (by omega)]at hy
        refine⟨n2 y (List.mem_of_getElem? hy),?_⟩;rw[hw'];have hd:(es.drop off).length=len:=by simp; omega
        rw[hd]at hy hj;refine CellsAt.written o2 hmul n4 (d:=(j-len)*i.size) ?_ (fun j' v hv=>?_)
        . simp only;have:j*i.size=len*i.size+(j-len)*i.size:=by rw[<-Nat.add_mul]; congr 1; omega
          omega
        . have hf:=iF n2 hy hv;have hlt:=(liZ.1 hf).1;rw[n3.1]at hlt;exact⟨news[(j-len)*i.size+j'],aS hlt,n3.2 _ v _ hf (aS hlt)⟩
   have nohas:¬(O.buf (es.drop off++ys)).has (⟨p.b,p.base+off*p.sz,i.size,cap⟩:Pl)->w'.heap[p.b]? = w.heap[p.b]?:=fun hn=>absurd hc0 hn
   have s1:=s0.one H.length ⟨p.b,p.base+off*p.sz,i.size,cap⟩ (.buf (es.drop off++ys)) (w' := w') (by simp[hst.len]) (PLe.append _ _) e1 e2 e3 e4 e5 nohas (fun _=>e6) (fun _=>hst.sep _ hown) horel
   have s2:Step k I ρ H w I (ρ ++ [⟨p.b,p.base+off*p.sz,i.size,cap⟩]) (H.set id .dead ++ [.buf (es.drop off++ys)]) w' :=
    ⟨ILe.refl _,fun j hj=>by rw[List.getElem?_append_left (by omega)],m1,m2,m3,by rw[m4]; exact Nat.le_refl _,fun b hb hnb=>e5 b hb (fun h=>hnb (h ▸ hown)),fun b ⟨j,r,o,hr,ho,hh⟩=>by
     by_cases hj:j=H.length
     . subst hj; rw[e1]at hr; rw[e2]at ho; cases hr; cases ho; obtain⟨_,rfl⟩:=hh; exact .inl hown
     . rcases e3 j o hj ho with rfl | ho'
       . exact hh.1.elim
       . have:=(IS k).own b ⟨j,r,o,e4 j r hj hr,ho', hh⟩;exact this,fun _ _ _ h=>.inl h⟩
   refine⟨_,_,_,_,_,hrun,hK,s1,?_,PLe.append _ _,s2⟩;have:=VRel.ms (I:=I) (ρ ++ [⟨p.b,p.base+off*p.sz,i.size,cap⟩]) H.length 0 (es.drop off++ys).length cap false ⟨p.b,p.base+off*p.sz,i.size,cap⟩ e1 (by rw[hlen]; exact hroom) (by simp) (by simp)
   rw[hlen]at this ⊢;simpa [hsz]using this
theorem rM {k:Nat} {t t2 ty q:TypeId} {i:TypeInfo} (ht:P.underlying t=some (.slice q)) {d2:TypeDesc} (ht2:P.underlying t2=some d2) (hd2:d2 = .string \/ ∃q2,d2 = .slice q2) (hi:P.info? q=some i)
 (hst:St I ρ H w) {A:Option Addr} {len cap:Nat} (hc:len<=cap) {x:Value} (hE:ir P I w x i.size []) {K:V->List O->Prop} {v:V} (hv:VRel I ρ v (.slice A len cap)) (hK:K v H):m7 P k I ρ H w K t t2 ty (.slice A len cap) x:=by
 obtain⟨news,n1,n2,n3,n4⟩:=hE.out;have h0:news = []:=by have:=n3.1; simp at this; exact List.eq_nil_of_length_eq_zero this.symm
 subst h0;exact⟨_,_,_,_,_,gO (ty:=ty) ht ht2 hd2 hi n1 hc,hK,hst,hv,PLe.refl _,Step.refl _ _ _ _ _⟩
theorem tT {k:Nat} {t t2 ty q:TypeId} {i:TypeInfo} {z:Value} (ht:P.underlying t=some (.slice q)) {d2:TypeDesc} (ht2:P.underlying t2=some d2) (hd2:d2 = .string \/ ∃q2,d2 = .slice q2) (hi:P.info? q=some i) (hz:i.zero=some z)
 (hb0:0<i.bytes) (hb1:i.bytes<=65536) (hzs:z.cells.size=i.size) (hs0:0<i.size) (hst:St I ρ H w) (hk:k<=ρ.length) {s:V} {u x:Value} (hs:VRel I ρ s u) {ys:List (List V)} (hE:ir P I w x i.size ys)
 {K:V->List O->Prop} (h:co i.size i.bytes s ys H K):m7 P k I ρ H w K t t2 ty u x:=by
 unfold co at h;split at h
 . rw[fJ hs];exact lP ht ht2 hd2 hi hz hb0 hb1 hzs hst hk hE h
 . rename_i z' es;cases hb:Nat.beq z' i.size<;>simp only[hb]at h
   have e0:=Nat.eq_of_beq_eq_true hb;subst e0;split at h
   . rename_i hes;cases hs with
     | sl _ _ _ _ b base cap f g1 g2 =>
      have:cap=0:=g2 rfl;subst this;exact lP ht ht2 hd2 hi hz hb0 hb1 hzs hst hk hE h
     | slnil=>exact lP ht ht2 hd2 hi hz hb0 hb1 hzs hst hk hE h
   . rename_i hes;obtain⟨h0,h1⟩:=h;have hs' := hs;cases hs with
     | sl _ _ _ _ b base cap f g1 g2 g3 g4 g4' g5 =>
      have:cap=es.length:=g2 rfl;subst this;by_cases hy:ys = []
      . subst hy;exact rM ht ht2 hd2 hi hst (Nat.le_refl _) hE hs' (h0 rfl)
      . have hl:AllLen i.size es:=fun y hy' => by
         obtain⟨j,hj⟩:=List.getElem?_of_mem hy';exact g3 j y hj
        obtain⟨news,o1,o2,o3⟩:=fW (P:=P) (I:=I) (w:=w) (n:=es.length) (b:=b) (base:=base) (cap:=es.length) (len:=es.length) rfl hl rfl (fun j y j' v hy hv=>⟨f j j', hst.imm _ _ _ (g4 j y j' v hy hv),g4' j y j' v hy hv,g5 j y j' v hy hv⟩)
        have hO:ir P I w (.slice (some ⟨b,base,none⟩) es.length es.length) i.size es:=⟨news,⟨fun w' => by simp[Builtin.lenOf],o1⟩,hl,o2,o3⟩
        have hpos:0<ys.length:=List.length_pos_iff.2 hy;exact nA ht ht2 hd2 hi hz hb0 hb1 hzs hst hk rfl hE hO (by omega) (h1 hy)
     | slnil=>exact absurd rfl hes
 . rename_i z' id off len full;cases hb:Nat.beq z' i.size<;>simp only[hb]at h
   have e0:=Nat.eq_of_beq_eq_true hb;subst e0;cases hg:ar H id<;>simp only[hg]at h
   rename_i es;cases full<;>simp only at h
   . obtain⟨htip0,hn⟩:=h;have htip:off+len=es.length:=by omega
     have hs' := hs;generalize hsz:i.size=sz at hs;cases hs with
     | ms _ _ _ _ cap _ p hp g1 g2 g3 =>
      by_cases hroom:len+ys.length<=cap
      . exact Ej ht ht2 hd2 hi hs0 hst hk hp hsz.symm hg htip g1 g2 hE hroom hn
      . have hO:ir P I w (.slice (some ⟨p.b,p.base+off*p.sz,none⟩) len cap) i.size (es.drop off):=by
         obtain⟨ys', hK', hs2⟩:=kj (P:=P) (H:=H) (sz:=i.size) (x:=.ms i.size id off len false) (K:=fun l=>l=(es.drop off).take len) (by
          unfold ki;simp only[hb];simp only[hg];exact⟨by omega,trivial⟩)
         subst hK';have:=hs2 I ρ w _ hst hs'
         rwa [List.take_of_length_le (by simp; omega)]at this
        have hn' : bJ i.size i.bytes (es.drop off++ys) (H.set id .dead) K:=by rw[<-bO]; exact hn
        obtain⟨s0,IS⟩:=hst.drop1 id;obtain⟨u,w', v,ρ', H', r1,r2,r3,r4,r5,r6⟩:=nA (ty:=ty) ht ht2 hd2 hi hz hb0 hb1 hzs s0 hk (os:=es.drop off) (sLen:=len) (by simp; omega) hE hO (by omega) hn'
        exact⟨u,w', v,ρ', H', r1,r2,r3,r4,r5,(IS k).trans r6⟩
     | ms0 =>
      have hd:es.drop off = []:=by apply List.eq_nil_of_length_eq_zero; simp; omega
      rw[hd,List.nil_append]at hn;have hn' : bJ i.size i.bytes ys (H.set id .dead) K:=by rw[<-bO]; exact hn
      obtain⟨s0,IS⟩:=hst.drop1 id;obtain⟨u,w', v,ρ', H', r1,r2,r3,r4,r5,r6⟩:=lP (ty:=ty) ht ht2 hd2 hi hz hb0 hb1 hzs s0 hk hE hn';exact⟨u,w', v,ρ', H', r1,r2,r3,r4,r5,(IS k).trans r6⟩
   . obtain⟨hle,h0,h1⟩:=h;have hs' := hs;have hcap:∃A,u = .slice A len len:=by
      generalize hsz:i.size=sz at hs;cases hs with
      | ms _ _ _ _ cap _ p hp g1 g2 g3=>have:=g3 rfl; subst this; exact⟨_,rfl⟩
      | ms0=>exact⟨_,rfl⟩
     obtain⟨A,rfl⟩:=hcap;by_cases hy:ys = []
     . subst hy;exact rM ht ht2 hd2 hi hst (Nat.le_refl _) hE hs' (h0 rfl)
     . have hO:ir P I w (.slice A len len) i.size ((es.drop off).take len):=by
        obtain⟨ys', hK', hs2⟩:=kj (P:=P) (H:=H) (sz:=i.size) (x:=.ms i.size id off len true) (K:=fun l=>l=(es.drop off).take len) (by
         unfold ki;simp only[hb];simp only[hg];exact⟨hle,trivial⟩)
        subst hK';exact hs2 I ρ w _ hst hs'
       have hpos:0<ys.length:=List.length_pos_iff.2 hy;exact nA ht ht2 hd2 hi hz hb0 hb1 hzs hst hk (by simp; omega) hE hO (by omega) (h1 hy)
 . exact h.elim
def ag (z:Array Value) (n:Nat):Array Value:=(Array.range n).map fun i=>z[i % z.size]!
theorem c9 {sz:Nat} {z:List V} (h:z.length=sz) (n:Nat):AllLen sz (List.replicate n z):=fun x hx=>by rw[(List.mem_replicate.1 hx).2]; exact h
theorem ce {z:Array Value} {n k:Nat} (hk:k<n*z.size):(ag z (n*z.size))[k]? = z[k % z.size]? /\ 0<z.size:=by
 have h0:0<z.size:=by
  rcases Nat.eq_zero_or_pos z.size with h | h
  . rw[h]at hk; omega
  . exact h
 have hm:k % z.size<z.size:=Nat.mod_lt _ h0;refine⟨?_,h0⟩;simp[ag,hk,hm]
theorem ik {v:V} (h:aY v=true) {u:Value} (hr:VRel I ρ v u):VRel I [] v u:=by
 cases hr<;>simp[aY]at h
 case bool=>exact .bool _ _
 case int=>exact .int _ _ _
 case str=>exact .str _ _
 case ip cs off b base f h1 h2 h3=>exact .ip _ _ _ _ _ f h1 h2 h3
 case nilp=>exact .nilp _
 case sl sz es full b base cap f g1 g2 g3 g4 g5 g6=>exact .sl _ _ _ _ _ _ _ f g1 g2 g3 g4 g5 g6
 case slnil=>exact .slnil _ _ _ _
 case nils=>exact .nils _
 case fn f as bs us ws h1 h2 h3 h4 =>
  cases as with
  | cons a as=>simp[aY]at h
  | nil =>
   cases bs with
   | cons b bs=>simp[aY]at h
   | nil=>exact .fn _ _ _ _ _ _ h1 h2 (fun i a u ha=>by simp at ha) (fun i a u ha=>by simp at ha)
 case nilf=>exact .nilf _
 case nilm=>exact .nilm _
 case nili=>exact .nili _
 case glob=>exact .glob _ _
 case im v h1 h2=>exact .im _ _ _ h1 h2
 case raw h1=>exact .raw _ _ h1
theorem u6 {cs:List V} (h:cs.all aY=true) {us:List Value} (hr:VRels I ρ cs us):VRels I [] cs us :=
 ⟨hr.1,fun i a u ha hu=>ik (List.all_eq_true.1 h a (List.mem_of_getElem? ha)) (hr.2 i a u ha hu)⟩
theorem EV {sz:Nat} {es:List (List V)} (hl:AllLen sz es) {i:Nat} (hi:i<es.length) {cs:List V} (hc:cs.length=sz):(es.set i cs).flatten=es.flatten.take (i*sz)++cs++es.flatten.drop (i*sz+cs.length):=by
 induction es generalizing i with
 | nil=>simp at hi
 | cons y es ih =>
  have hy:=hl y (by simp)
  cases i with
  | zero =>
   simp only[List.set_cons_zero,List.flatten_cons,Nat.zero_mul,List.take_zero,List.nil_append,Nat.zero_add,hc,<-hy];rw[List.drop_left]
  | succ i =>
   have hi' : i<es.length:=by simpa using hi
   simp only[List.set_cons_succ,List.flatten_cons];rw[ih (fun z hz=>hl z (by simp[hz])) hi']
   have e1:(i+1)*sz=y.length+i*sz:=by rw[hy,Nat.add_mul]; omega
   rw[e1,List.take_length_add_append,Nat.add_assoc,List.drop_length_add_append];simp[List.append_assoc]
theorem p8 {sz:Nat}:∀(parts:List (Nat × V)) (es:List (List V)) {K:List (List V)->Prop},jC sz es parts K->AllLen sz es -> ∃es', K es'/\es'.length=es.length/\AllLen sz es' /\ ∀(I:aU) (ρ:List Pl) (us:Array Value) (ps:List (Nat × Value)),
 VRels I [] es.flatten us.toList->(∀(i:Nat) (u:Value),us[i]? = some u->u.oneCell'=true)->ps.map (·.1)=parts.map (·.1)->VRels I ρ (parts.map (·.2)) (ps.map (·.2)) ->
 ∃r,Instr.fill (fun i=>some (i*sz,sz)) us ps=some r/\VRels I [] es'.flatten r.toList/\(∀(i:Nat) (u:Value),r[i]? = some u->u.oneCell'=true):=by
 intro parts;induction parts with
 | nil =>
  intro es K h hl;refine⟨es,h,rfl,hl,fun I ρ us ps hc h1 hi hr=>?_⟩
  have:ps = []:=by simpa using hi
  subst this;exact⟨us,rfl,hc,h1⟩
 | cons p parts ih =>
  intro es K h hl;obtain⟨i,v⟩:=p;unfold jC at h;cases hc:cellsOf v<;>simp only[hc]at h
  rename_i cs;split at h<;>try exact h.elim
  rename_i hb1 hb2 hb3;rw[aW]at h;have e0:=Nat.eq_of_beq_eq_true hb1;have hlt:i<es.length:=aA hb2;have hl' : AllLen sz (es.set i cs):=fun y hy=>by
   rcases List.mem_or_eq_of_mem_set hy with h1 | h1
   . exact hl y h1
   . rw[h1]; exact e0
  obtain⟨es', hK,hlen,hal,hv⟩:=ih _ h hl';refine⟨es', hK,by rw[hlen]; simp,hal,fun I ρ us ps hcells h1 hi hr=>?_⟩
  cases ps with
  | nil=>simp at hi
  | cons q ps =>
   obtain⟨j,u⟩:=q;simp at hi;obtain⟨rfl,hi⟩:=hi;obtain⟨u', us', e1,e2,e3⟩:=hr.cons_inv;simp at e1;obtain⟨rfl,rfl⟩:=e1;obtain⟨s1,s2,s3,s4⟩:=fc hc e2;have s2' := u6 hb3 s2;have hsz:us.size=es.length*sz:=by have:=hcells.1; rw[bt hl]at this; simp at this; exact this.symm
   have hfit:j*sz+cs.length<=es.flatten.length:=by
    rw[bt hl,e0,show j*sz+sz=(j+1)*sz by rw[Nat.add_mul]; omega]
    exact Nat.mul_le_mul_right _ hlt
   have key:=ql hcells s2' hfit;rw[<-EV hl hlt e0]at key;obtain⟨r,h2,h3,h4⟩:=hv I ρ (u.cells.zipIdx.foldl (fun cs (c,q)=>cs.setIfInBounds (j*sz+q) c) us) ps (by
    rw[<-Array.foldl_toList];simpa using key) (fun m x hx=>by
    rw[<-Array.foldl_toList]at hx;have hx' : ((u.cells.toList.zipIdx 0).foldl (fun(c:Array Value) (p:Value × Nat)=>c.setIfInBounds (j*sz+p.2) p.1) us)[m]? = some x:=by simpa using hx
    rw[o5 _ us (j*sz) 0 (by rw[bt hl]at hfit; simp[s1,hsz]; omega)]at hx'
    split at hx'
    . exact s4 _ x (by simpa using hx')
    . exact h1 _ x hx') hi e3
   refine⟨r,?_,h3,h4⟩;unfold Instr.fill;simp only;rw[if_neg]
   . exact h2
   . rw[bt hl]at hfit;simp[s1,e0,hsz]; omega
theorem wj (hT:bH P T) {k:Nat} {o:Oper} {t:TypeId} {len:Nat} {parts:Array (Nat × Operand)} (ho:o.op = .buildSlice t len parts) {K:V->Env->List O->Prop} {q:TypeId} (hk' : (T t).kind = .sl q) (hq:eJ (T q)=true)
 (hle:len*(T q).size<=16777216) (h:jC (T q).size (List.replicate len (T q).zero) (parts.toList.map fun p=>(p.1,am e p.2)) fun es=>K (.ms (T q).size H.length 0 len true) e (H ++ [.buf es])):ESem P k o e H K:=by
 obtain⟨i,z,g1,g2,g3,g4,g5,g6,g7,g8,hg⟩:=dB hT hq;obtain⟨i', z', d,f1,f2,f3,f4,f5⟩:=bS hT hg;rw[g1]at f1; cases f1;rw[g2]at f2; cases f2;have hzero:(T q).zero=z.cells.toList.map cV:=by rw[f4]
 have hlz:(T q).zero.length=(T q).size:=by rw[hzero,g3]; simp[g8]
 have hu:=dv hT hk';obtain⟨es,hK,hlen,hal,hv⟩:=p8 _ _ h (c9 hlz len);rw[g3]at hle hK hal hv;refine aH (by simp[ho]) fun I ρ w a hst he hk=>?_
 have hflat:VRels I [] (List.replicate len (T q).zero).flatten (ag z.cells (len*i.size)).toList:=by
  refine⟨by rw[bt (c9 hlz len),g3]; simp[ag],fun j x u hx hu=>?_⟩
  have hjl:j<len*z.cells.size:=by
   have:=(liZ.1 hu).1;simp[ag]at this; rw[g8]; exact this
  have hz0:=ce hjl;rw[<-g8]at hu;have hu' : (ag z.cells (len*z.cells.size))[j]? = some u:=by simpa using hu
  rw[hz0.1]at hu';obtain⟨y,h1,h2,h3,h4⟩:=gu (c9 hlz len) hx;have hy:y=(T q).zero:=(List.mem_replicate.1 (List.mem_of_getElem? h1)).2;subst hy;rw[g3,<-g8]at h2;exact(cA z.cells).2 (j % z.cells.size) x u (by rw[<-hzero]; exact h2) (by simpa using hu')
 have hone:∀(j:Nat) (u:Value),(ag z.cells (len*i.size))[j]? = some u->u.oneCell'=true:=by
  intro j u hu;have hjl:j<len*z.cells.size:=by
   have:=(Array.getElem?_eq_some_iff.1 hu).1;simp[ag]at this; rw[g8]; exact this
  have hz0:=ce hjl;rw[<-g8,hz0.1]at hu;exact cN f5 _ u hu
 obtain⟨r,r1,r2,r3⟩:=hv I ρ (ag z.cells (len*i.size)) (parts.toList.map fun p=>(p.1,a.eval p.2)) hflat hone (by simp[List.map_map,Function.comp_def]) (by
  have:=iO (aE he) (parts.toList.map (·.2));simpa [List.map_map,Function.comp_def]using this)
 have hlen' : es.length=len:=by rw[hlen]; simp
 have hrs:r.size=len*i.size:=by have:=r2.1; rw[bt hal,hlen']at this; simpa using this.symm
 obtain⟨s1,s2⟩:=od hst k hk (es:=es) (sz:=i.size) (tot:=len) (us:=r) hal (by
  rw[List.take_of_length_le (by rw[hlen']; simp[hrs])]; exact r2) (fun j u _ hu=>r3 j u hu) (by omega) hrs q w rfl rfl rfl rfl
 refine⟨.slice (some ⟨w.heap.size,0,none⟩) len len,_,I,_,e,_,_,.inl ?_,hK,s1,?_,he.mono (ILe.refl _) (PLe.append _ _),s2⟩
 . have hle' : ¬(16777216<len*i.size):=by omega
   have hmap:(parts.map fun(j,x)=>(j,a.eval x)).toList=parts.toList.map fun p=>(p.1,a.eval p.2):=by simp
   have hfill:Instr.fill (fun j=>some (j*i.size,i.size)) (ag z.cells (len*i.size)) (parts.map fun(j,x)=>(j,a.eval x)).toList=some r:=by rw[hmap]; exact r1
   by_cases h0:len*i.size=0
   . have hr0:ag #[] (len*i.size)=ag z.cells (len*i.size):=by rw[h0]; simp[ag]
     rw[<-hr0]at hfill;have h2:(Instr.buildSlice t len (parts.map fun(j,x)=>(j,a.eval x))).run P w = .ok (.slice (some ⟨w.heap.size,0,none⟩) len len) { w with heap:=w.heap.push (.cells r q) }:=by
      unfold Instr.buildSlice;simp only[Sem.run_bind,af hu,Result.andThen_ok,bu g1,Sem.run_ite,gt_iff_lt];rw[if_neg (by omega),if_pos h0]
      simp only[Sem.run_pure,Result.andThen_ok];unfold ag at hfill;rw[hfill];simp[newRow]
     simp[execOp,ho,h2]
   . have h2:(Instr.buildSlice t len (parts.map fun(j,x)=>(j,a.eval x))).run P w = .ok (.slice (some ⟨w.heap.size,0,none⟩) len len) { w with heap:=w.heap.push (.cells r q) }:=by
      unfold Instr.buildSlice;simp only[Sem.run_bind,af hu,Result.andThen_ok,bu g1,Sem.run_ite,gt_iff_lt];rw[if_neg (by omega),if_neg h0]
      unfold ag at hfill;simp only[Sem.run_bind,zeroValue,typeInfo,run_program,Result.andThen_ok,g1,Sem.run_pure,g2];rw[hfill];simp[newRow]
     simp[execOp,ho,h2]
 . have:=VRel.ms (I:=I) (ρ ++ [⟨w.heap.size,0,i.size,len⟩]) H.length 0 len len true ⟨w.heap.size,0,i.size,len⟩ (by rw[<-hst.len]; simp) (by omega) (by simp) (by simp)
   simpa using this
theorem mB {t:TypeId} {i:TypeInfo} (hi:P.info? t=some i) {b o:Nat} {u:Value} (hsz:u.cells.size=i.size) (hc:∀j,j<u.cells.size->(w.cell? ⟨b,o+j,none⟩).isSome=true) (hf:∀j,j<u.cells.size->w.frozen? ⟨b,o+j,none⟩=false)
 (h1:∀(i:Nat) (x:Value),u.cells[i]? = some x->x.oneCell'=true):(storeVar t ⟨b,o,none⟩ u).run P w = .ok () (w.setCells b o u.cells.toList):=by
 have:=run_storeCells_cells (P:=P) b o u.cells.toList 0 w (by simpa using hc) (by simpa using hf) (fun v hv=>by
  obtain⟨j,hj⟩:=List.getElem?_of_mem hv;exact h1 j v (by simpa using hj))
 simp only[storeVar,Sem.run_bind,bu hi,Result.andThen_ok,Sem.run_ite];rw[if_neg (by simp[hsz])]
 simpa using this
theorem CellsAt.spliced {b lo hi:Nat} {base off:Nat} {old cs:List V} (h:CellsAt I ρ w b base old) (hop:Open w b lo hi) {vs:List Value} (hr:VRels I ρ cs vs) (h1:∀u∈vs,u.oneCell'=true) (hle:off+cs.length<=old.length) (hhi:base+off+vs.length<=hi) :
 CellsAt I ρ (w.setCells b (base+off) vs) b base (old.take off++cs++old.drop (off+cs.length)):=by
 intro i v hv;rw[List.append_assoc]at hv;by_cases hi1:i<off
 . rw[List.getElem?_append_left (by simp; omega),List.getElem?_take_of_lt hi1]at hv
   obtain⟨u,c1,c2,c3⟩:=h i v hv;exact⟨u,by rw[World.cell?_setCells_out _ _ _ _ _ (fun _ _=>by simp; omega)]; exact c1,c2,c3⟩
 . have e0:(old.take off).length=off:=by simp; omega
   rw[List.getElem?_append_right (by omega),e0]at hv
   by_cases hi2:i<off+cs.length
   . rw[List.getElem?_append_left (by omega)]at hv
     have hlt:i-off<vs.length:=by rw[<-hr.1]; omega
     have:=World.cell?_setCells_in b vs (base+off) w (fun j hj=>hop.cell (by omega)) (i-off) hlt
     refine⟨vs[i-off],?_,h1 _ (List.getElem_mem hlt),hr.2 _ v _ hv (aS hlt)⟩;rw[<-this]; congr 2; omega
   . rw[List.getElem?_append_right (by omega),List.getElem?_drop]at hv
     rw[show off+cs.length+(i-off-cs.length)=i by omega]at hv
     obtain⟨u,c1,c2,c3⟩:=h i v hv;have:=hr.1;exact⟨u,by rw[World.cell?_setCells_out _ _ _ _ _ (fun _ _=>by simp; omega)]; exact c1,c2,c3⟩
theorem lH (hst:St I ρ H w) (k:Nat) (hk:k<=ρ.length) {id:Nat} {p:Pl} {o o' : O} (hp:ρ[id]? = some p) (ho:H[id]? = some o) (hh:o.has p) (hh' : o'.has p) {off:Nat} {vs:List Value} (horel:ORel I ρ (w.setCells p.b off vs) p o') :
 St I ρ (H.set id o') (w.setCells p.b off vs)/\Step k I ρ H w I ρ (H.set id o') (w.setCells p.b off vs):=by
 have hlt:=(liZ.1 ho).1;have e2:(H.set id o')[id]? = some o' := by rw[List.getElem?_set_self hlt]
 have e3:∀(i:Nat) (x:O),i≠id->(H.set id o')[i]? = some x->x = .dead\/H[i]? = some x:=fun i x hi hx=>.inr (by rwa [List.getElem?_set_ne (by omega)]at hx)
 have hown:az ρ H p.b:=⟨id,p,o,hp,ho,hh.owns⟩;obtain⟨m1,m2,m3,m4⟩:=jm p.b vs off w;exact⟨hst.one id p o' (by simp[hst.len]) (PLe.refl _) hp e2 e3 (fun _ _ _ h=>h) (fun b _ hb=>fD _ _ _ _ _ hb) (fun hn=>absurd hh' hn) (fun _ i q x hi hq hx hhx=>by
  rcases e3 i x hi hx with rfl | hx'
  . exact hhx.1
  . exact hi (hst.inj i id q p x o p.b hq hx' hhx hp ho hh.owns)) (fun _=>hst.sep _ hown) horel (hh'.one),
  Step.one id p o' k hk (PLe.refl _) hp e2 e3 (fun _ _ _ h=>h) (fun b _ hb=>fD _ _ _ _ _ hb) (fun hn=>absurd hh' hn) (fun _=>.inl hown) m1 m2 m3 (by rw[m4]; exact Nat.le_refl _) (hh'.one)⟩
theorem yo (hT:bH P T) {k:Nat} {o:Oper} {t:TypeId} {x y:Operand} (ho:o.op = .store t x y) {K:V->Env->List O->Prop} (hg:(T t).good=true) {cs old:List V} {id off:Nat} (hc:cellsOf (am e y)=some cs) (hsz:cs.length=(T t).size)
 (hx:am e x = .ptr id off) (hob:ar H id = .cells old) (hle:off+cs.length<=old.length) (h:K (.tup []) e (H.set id (.cells (old.take off++cs++old.drop (off+cs.length))))):ESem P k o e H K:=by
 obtain⟨i,z,d,g1,g2,g3,g4,_⟩:=bS hT hg;have hsz' : (T t).size=i.size:=by rw[g4]
 refine aH (by simp[ho]) fun I ρ w a hst he hk=>?_
 have hrx:=aE he x;rw[hx]at hrx;obtain⟨p,hp,hu⟩:=iV hrx;have hH:=ax hob (by simp)
 obtain⟨hb0,⟨c,ct,fr,hblk,hcs⟩,hop,hcells⟩:=hst.obj id p _ hp hH;obtain⟨s1,s2,s3,s4⟩:=fc hc (aE he y);have hlen:(a.eval y).cells.toList.length=cs.length:=by simp[s1]
 have hrun:=mB (P:=P) (w:=w) g1 (b:=p.b) (o:=p.base+off) (u:=a.eval y) (by rw[s1,hsz,hsz']) (fun j hj=>hop.cell (by omega)) (fun j hj=>by
  obtain⟨c', t', fr', c1,c2,c3⟩:=hop;exact c3 _ (by omega)) s4
 have h1v:∀u∈(a.eval y).cells.toList,u.oneCell'=true:=fun u hu=>by
  obtain⟨j,hj⟩:=List.getElem?_of_mem hu;exact s4 j u (by simpa using hj)
 have hsp:=hcells.spliced hop s2 h1v hle (by rw[hlen]; omega)
 have hl' : (old.take off++cs++old.drop (off+cs.length)).length=old.length:=by simp; omega
 rw[Nat.zero_add]at hsp;have horel:ORel I ρ (w.setCells p.b (p.base+off) (a.eval y).cells.toList) p (.cells (old.take off++cs++old.drop (off+cs.length))):=by
  rw[hb0,Nat.zero_add];obtain⟨c', b1,b2⟩:=iS p.b (a.eval y).cells.toList off w hblk;exact⟨hb0,⟨c', ct,fr,b1,by rw[b2,hcs,hl']⟩,by rw[hl']; exact hop.setCells _ _,hsp⟩
 obtain⟨w1,w2⟩:=lH (o' := .cells (old.take off++cs++old.drop (off+cs.length))) hst k hk hp hH trivial trivial horel;refine⟨undef,_,I,ρ,e,_,_,.inr ⟨?_,rfl⟩,h,w1,.tup _ _ _ rfl (fun i a u ha=>by simp at ha),he,w2⟩
 simp[execOp,ho,Instr.storeAt,Instr.sureAddr,hu,hrun]
theorem AX (hT:bH P T) {k:Nat} {o:Oper} {t:TypeId} {x y:Operand} (ho:o.op = .store t x y) {K:V->Env->List O->Prop} (hg:(T t).good=true) {cs old:List V} {es:List (List V)} {id i j:Nat} (hc:cellsOf (am e y)=some cs) (hsz:cs.length=(T t).size)
 (hx:am e x = .ep id i j) (hob:ar H id = .buf es) (hpure:cs.all aY=true) (hes:es[i]? = some old) (hle:j+cs.length<=old.length) (h:K (.tup []) e (H.set id (.buf (es.set i (old.take j++cs++old.drop (j+cs.length)))))):ESem P k o e H K:=by
 obtain⟨ti,z,d,g1,g2,g3,g4,_⟩:=bS hT hg;have hsz' : (T t).size=ti.size:=by rw[g4]
 refine aH (by simp[ho]) fun I ρ w a hst he hk=>?_
 have hrx:=aE he x;rw[hx]at hrx;obtain⟨p,hp,hu⟩:=zT hrx;have hH:=ax hob (by simp)
 obtain⟨q1,q2,q3,q4⟩:=iD hst hp hob hes;have hil:i<es.length:=(liZ.1 hes).1;have htot:p.tot≠0:=by omega
 obtain⟨s1,s2,s3,s4⟩:=fc hc (aE he y);have s2' := u6 hpure s2;have hlen:(a.eval y).cells.toList.length=cs.length:=by simp[s1]
 have hi1:i*p.sz+p.sz<=p.tot*p.sz:=by
  rw[show i*p.sz+p.sz=(i+1)*p.sz by rw[Nat.add_mul]; omega]
  exact Nat.mul_le_mul_right _ (by omega)
 have hrun:=mB (P:=P) (w:=w) g1 (b:=p.b) (o:=p.base+(i*p.sz+j)) (u:=a.eval y) (by rw[s1,hsz,hsz']) (fun j' hj=>q4.cell (by omega)) (fun j' hj=>by
  obtain⟨c', t', fr', c1,c2,c3⟩:=q4;exact c3 _ (by omega)) s4
 have h1v:∀u∈(a.eval y).cells.toList,u.oneCell'=true:=fun u hu=>by
  obtain⟨j', hj⟩:=List.getElem?_of_mem hu;exact s4 j' u (by simpa using hj)
 have hsp:=q2.spliced q4 s2' h1v hle (by rw[hlen]; omega)
 have hl' : (old.take j++cs++old.drop (j+cs.length)).length=old.length:=by simp; omega
 have hobj:=hst.obj id p _ hp hH;rcases hobj with⟨_,h0⟩ | ⟨o1,o2,o3⟩
 . exact absurd h0 htot
 have horel:ORel I ρ (w.setCells p.b (p.base+(i*p.sz+j)) (a.eval y).cells.toList) p (.buf (es.set i (old.take j++cs++old.drop (j+cs.length)))):=by
  refine .inr ⟨by simpa using o1,o2.setCells _ _,fun m y' hy=>?_⟩
  by_cases hm:m=i
  . subst hm;rw[List.getElem?_set_self hil]at hy;cases hy;exact⟨by rw[hl', q1],by rw[<-Nat.add_assoc]; exact hsp⟩
  . rw[List.getElem?_set_ne (by omega)]at hy
    refine⟨(o3 m y' hy).1,(o3 m y' hy).2.apart _ ?_⟩;rw[(o3 m y' hy).1,hlen];rcases Nat.lt_or_gt_of_ne hm with hlt | hlt
    . left
      have:=Nat.mul_le_mul_right p.sz (show m+1<=i by omega)
      rw[Nat.add_mul]at this;omega
    . right
      have:=Nat.mul_le_mul_right p.sz (show i+1<=m by omega)
      rw[Nat.add_mul]at this;omega
 obtain⟨w1,w2⟩:=lH (o' := .buf (es.set i (old.take j++cs++old.drop (j+cs.length)))) hst k hk hp hH htot htot horel;refine⟨undef,_,I,ρ,e,_,_,.inr ⟨?_,rfl⟩,h,w1,.tup _ _ _ rfl (fun i a u ha=>by simp at ha),he,w2⟩
 simp[execOp,ho,Instr.storeAt,Instr.sureAddr,hu,hrun]
theorem m6 {α:Type} {es ys:List α} {n j:Nat} (hn:n+ys.length<=es.length) {y:α} (h:(es.take n++ys++es.drop (n+ys.length))[j]? = some y) :
 (j<n/\es[j]? = some y)\/(n<=j/\j<n+ys.length/\ys[j-n]? = some y)\/(n+ys.length<=j/\es[j]? = some y):=by
 have hl:(es.take n).length=n:=by simp; omega
 by_cases h1:j<n
 . rw[List.append_assoc,List.getElem?_append_left (by omega),List.getElem?_take_of_lt h1]at h
   exact .inl ⟨h1,h⟩
 . by_cases h2:j<n+ys.length
   . rw[List.getElem?_append_left (by simp; omega),List.getElem?_append_right (by omega),hl]at h
     exact .inr (.inl ⟨by omega,h2,h⟩)
   . rw[List.getElem?_append_right (by simp; omega),List.getElem?_drop]at h
     simp only[aD,hl]at h;rw[show n+ys.length+(j-(n+ys.length))=j by omega]at h
     exact .inr (.inr ⟨by omega,h⟩)
theorem rN {k:Nat} {t t2 ty q:TypeId} {i:TypeInfo} (ht:P.underlying t=some (.slice q)) {d2:TypeDesc} (ht2:P.underlying t2=some d2) (hd2:d2 = .string \/ ∃q2,d2 = .slice q2) (hi:P.info? q=some i)
 (hst:St I ρ H w) (hk:k<=ρ.length) {id off len cap:Nat} {p:Pl} (hp:ρ[id]? = some p) (hsz:p.sz=i.size) {es ys:List (List V)} (hg:ar H id = .buf es) (hpos:0<len+ys.length) (hin:off+len+ys.length<=es.length) (g2:off+cap=p.tot)
 {x:Value} (hE:ir P I w x i.size ys)
 {K:V->List O->Prop} (hK:K (.ms i.size id off (len+ys.length) false) (H.set id (.buf (es.take (off+len)++ys++es.drop (off+len+ys.length))))):m7 P k I ρ H w K t t2 ty (.slice (some ⟨p.b,p.base+off*p.sz,none⟩) len cap) x:=by
 obtain⟨news,n1,n2,n3,n4⟩:=hE.out;have hH:H[id]? = some (.buf es):=ax hg (by simp)
 have hor:=hst.obj id p _ hp hH;rcases hor with⟨h0,_⟩ | ⟨o1,o2,o3⟩
 . subst h0; have h9:off+len+ys.length<=0:=hin; omega
 have hroom:len+ys.length<=cap:=by omega
 have hl2:news.length=ys.length*i.size:=by rw[<-n3.1,bt n2]
 have hmul:p.base+off*p.sz+len*i.size+news.length<=p.base+p.tot*p.sz:=by
  rw[hl2,hsz,Nat.add_assoc,Nat.add_assoc,<-Nat.add_mul,<-Nat.add_mul];have:=Nat.mul_le_mul_right i.size (show off+(len+ys.length)<=p.tot by omega)
  omega
 have hrun:=jQ (ty:=ty) ht ht2 hd2 hi (b:=p.b) (o:=p.base+off*p.sz) n1 hroom (fun j hj=>o2.cell (by omega)) (fun j hj=>by
  obtain⟨c,t', fr,c1,c2,c3⟩:=o2;exact c3 _ (by omega)) n4
 have hX:p.base+off*p.sz+len*i.size=p.base+(off+len)*p.sz:=by rw[hsz,Nat.add_mul]; omega
 rw[hX]at hrun hmul;have htot:p.tot≠0:=by omega
 have hl' : (es.take (off+len)++ys++es.drop (off+len+ys.length)).length=es.length:=by simp; omega
 have horel:ORel I ρ (w.setCells p.b (p.base+(off+len)*p.sz) news) p (.buf (es.take (off+len)++ys++es.drop (off+len+ys.length))):=by
  refine .inr ⟨by rw[hl']; exact o1,o2.setCells _ _,fun j y hy=>?_⟩
  rcases m6 hin hy with⟨h1,h2⟩ | ⟨h1,h2,h3⟩ | ⟨h1,h2⟩
  . obtain⟨c1,c2⟩:=o3 j y h2;refine⟨c1,c2.apart news (.inl ?_)⟩;have:=Nat.mul_le_mul_right p.sz (show j+1<=off+len by omega)
    rw[Nat.add_mul]at this;rw[c1]; omega
  . have hyl:=n2 y (List.mem_of_getElem? h3);refine⟨by rw[hsz]; exact hyl,?_⟩
    refine CellsAt.written o2 hmul n4 (d:=(j-(off+len))*i.size) ?_ (fun j' v hv=>?_)
    . rw[hsz,Nat.add_assoc,<-Nat.add_mul];congr 2; omega
    . have hf:=iF n2 h3 hv;have hlt:=(liZ.1 hf).1;rw[n3.1]at hlt;exact⟨news[(j-(off+len))*i.size+j'],aS hlt,n3.2 _ v _ hf (aS hlt)⟩
  . obtain⟨c1,c2⟩:=o3 j y h2;refine⟨c1,c2.apart news (.inr ?_)⟩;rw[hl2,hsz,Nat.add_assoc,<-Nat.add_mul];have:=Nat.mul_le_mul_right i.size h1;omega
 obtain⟨s1,s2⟩:=lH hst k hk hp hH htot (o' := .buf (es.take (off+len)++ys++es.drop (off+len+ys.length))) htot horel;refine⟨_,_,_,_,_,hrun,hK,s1,?_,PLe.refl _,s2⟩;have:=VRel.ms (I:=I) ρ id off (len+ys.length) cap false p hp hroom (by omega) (fun h=>by cases h) (fun _=>g2)
 rw[hsz]at this ⊢;exact this
theorem y7 {k:Nat} {t t2 ty q:TypeId} {i:TypeInfo} (ht:P.underlying t=some (.slice q)) {d2:TypeDesc} (ht2:P.underlying t2=some d2) (hd2:d2 = .string \/ ∃q2,d2 = .slice q2) (hi:P.info? q=some i)
 (hs0:0<i.size) (hst:St I ρ H w) (hk:k<=ρ.length) {z1 id off len:Nat} {u x:Value} (hs:VRel I ρ (.mr z1 id off len) u) {ys:List (List V)} (hE:ir P I w x i.size ys)
 {K:V->List O->Prop} (h:gW i.size (.mr z1 id off len) ys H K):m7 P k I ρ H w K t t2 ty u x:=by
  unfold gW at h;simp only at h;cases hb:Nat.beq z1 i.size<;>simp only[hb]at h
  have e0:=Nat.eq_of_beq_eq_true hb;cases hg:ar H id<;>simp only[hg]at h
  rename_i es;obtain⟨h0,h1⟩:=h;subst e0;have hs' := hs;by_cases hy:ys = []
  . subst hy;obtain⟨A,cap,rfl,hcap,_⟩:=y6 hs;exact rM ht ht2 hd2 hi hst hcap hE hs' (h0 rfl)
  . obtain⟨hin,hK⟩:=h1 hy;have hpos:0<ys.length:=List.length_pos_iff.2 hy;rw[aj,bO]at hK;generalize hsz:i.size=sz at hs;cases hs with
    | mr _ _ _ _ cap p hp g1 g2=>exact rN ht ht2 hd2 hi hst hk hp hsz.symm hg (by omega) hin g2 hE hK
    | mr0 _ _ _ p A hp g =>
     exfalso;have hH:=ax hg (by simp)
     rcases hst.obj id p _ hp hH with⟨e0,_⟩ | ⟨o1,_,_⟩
     . subst e0; have h9:_+0+ys.length<=0:=hin; omega
     . omega
theorem Aw {k:Nat} {t t2 ty q:TypeId} {i:TypeInfo} {z:Value} (ht:P.underlying t=some (.slice q)) {d2:TypeDesc} (ht2:P.underlying t2=some d2) (hd2:d2 = .string \/ ∃q2,d2 = .slice q2) (hi:P.info? q=some i) (hz:i.zero=some z)
 (hb0:0<i.bytes) (hb1:i.bytes<=65536) (hzs:z.cells.size=i.size) (hs0:0<i.size) (hst:St I ρ H w) (hk:k<=ρ.length) {s xv:V} {u x:Value} (hs:VRel I ρ s u) {ys:List (List V)} (hE:ir P I w x i.size ys)
 {K:V->List O->Prop} (h:dW i.size i.bytes s xv ys H K):m7 P k I ρ H w K t t2 ty u x:=by
 unfold dW at h;cases hsb:db s xv with
 | false =>
  simp only[hsb]at h;split at h
  . exact y7 ht ht2 hd2 hi hs0 hst hk hs hE h
  . exact tT ht ht2 hd2 hi hz hb0 hb1 hzs hs0 hst hk hs hE h
 | true =>
  simp only[hsb]at h;unfold gW at h;unfold db at hsb;split at hsb<;>try (cases hsb; done)
  . rename_i z1 id off len z2 id2 off2 len2 f2;simp only at h;cases hb:Nat.beq z1 i.size<;>simp only[hb]at h
    have e0:=Nat.eq_of_beq_eq_true hb;cases hg:ar H id<;>simp only[hg]at h
    rename_i es;obtain⟨⟨hpos,hin⟩,hK⟩:=h;rw[aj,bO]at hK;subst e0;generalize hsz:i.size=sz at hs;cases hs with
    | ms _ _ _ _ cap _ p hp g1 g2 g3 g4=>exact rN ht ht2 hd2 hi hst hk hp hsz.symm hg (by omega) hin (g4 rfl) hE hK
    | ms0=>omega
  . exact y7 ht ht2 hd2 hi hs0 hst hk hs hE (by unfold gW; exact h)
theorem EF (hT:bH P T) {k:Nat} {o:Oper} {c:Call} (ho:o.op = .call c) (hc:c.callee = .builtin .append) {K:V->Env->List O->Prop} {s x:Operand} (ha:c.args.toList = [s,x]) {t t2:TypeId} (hat:c.argTypes.toList = [t,t2])
 {q:TypeId} (hk' : (T t).kind = .sl q) (hq:eJ (T q)=true) (ht2:(match (T t2).kind with | .sl _=>true | .str=>true | _=>false)=true)
 (h:ki (T q).size (ao e x) H fun ys=>dW (T q).size (T q).bytes (ao e s) (ao e x) ys H fun v H' => K v e H'):ESem P k o e H K:=by
 obtain⟨i,z,g1,g2,g3,g4,g5,g6,g7,g8,_⟩:=dB hT hq;rw[g3,g4]at h;have hu:=dv hT hk';have hu2:∃d2,P.underlying t2=some d2/\(d2 = .string \/ ∃q2,d2 = .slice q2):=by
  cases hk2:(T t2).kind<;>simp only[hk2]at ht2<;>try (cases ht2; done)
  . exact⟨_,dC hT hk2,.inl rfl⟩
  . exact⟨_,dv hT hk2,.inr ⟨_,rfl⟩⟩
 obtain⟨d2,hd2,hd2'⟩:=hu2;obtain⟨ys,hK,hE⟩:=kj (P:=P) h;refine aH (by simp[ho]) fun I ρ w a hst he hk=>?_
 have hrs:=aI he s;have hrx:=aI he x;obtain⟨u,w', v,ρ', H', r1,r2,r3,r4,r5,r6⟩:=Aw (ty:=o.type) (k:=k) hu hd2 hd2' g1 g2 g5 g6 g8 g7 hst hk hrs (hE I ρ w _ hst hrx) hK;refine⟨u,v,I,ρ', e,H', w', .inl ?_,r2,r3,r4,he.mono (ILe.refl _) r5,r6⟩;obtain⟨callee,args,argTypes⟩:=c;obtain⟨args⟩:=args;obtain⟨argTypes⟩:=argTypes;simp only at hc ha hat;subst hc; subst ha; subst hat;simp[execOp,ho,resolve,invoke,builtin,r1]
end
end Go.Proofs.YteiagdlfccbpcaaGreatDoorPg
