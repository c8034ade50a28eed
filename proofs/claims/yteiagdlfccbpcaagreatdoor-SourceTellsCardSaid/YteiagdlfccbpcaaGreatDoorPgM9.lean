/- Own texts, laid together: PgC00, PgC01, PgE0. -/
import Derived.Test.YteiagdlfccbpcaaGreatDoorPgM8
import Derived.Test.YteiagdlfccbpcaaGreatDoorPgM7
set_option linter.unusedSectionVars false
set_option linter.unusedSimpArgs false
set_option linter.unusedVariables false
namespace Go.Proofs.YteiagdlfccbpcaaGreatDoorPg
open Go Go.RowKit
section
variable [Globs]
variable {P:Program} {T:Nat->TI} {I:aU} {ρ:List Pl} {H:List O} {w:World} {e:Env}
def PF (X:dI) (ops:List Oper) (e:Env) (H:List O) (i:Nat) (ran:Bool):Prop :=
 ∃o,ops[i]? = some o/\loud o=false /\
  (match o.guard with
   | none=>ran=true
   | some (j,want)=>∃d,(ops[j]?).bind (·.dst)=some d/\((∃b,Env.get e d = .bool b/\ran=(b == want))\/(Env.get e d = .tup []/\ran=false))) /\
  (match o.dst with
   | none=>ran=true -> ∃v,aq X.T o.op e H (fun u=>u=v)
   | some d=>d<X.n/\(ran=true->aq X.T o.op e H (fun u=>u=Env.get e d))/\(ran=false->Env.get e d = .tup []))
def l7 (ops:List Oper) (o:Oper) (t:Nat):Prop:=t∈cd ops o\/o.dst=some t
theorem c8 {ops:List Oper} {o:Oper} {e e' : Env} (h:∀t∈cd ops o,Env.get e' t=Env.get e t):∀x∈o.op.operands,am e x=am e' x:=by
 intro x hx;cases x with
 | tmp t =>
  have:t∈cd ops o:=by
   unfold cd;rw[List.mem_append];left
   rw[List.mem_filterMap];exact⟨.tmp t,by simpa using hx,rfl⟩
  simp only[am,h t this]
 | const v=>rfl
 | global g=>rfl
 | func f=>rfl
theorem jb {ops:List Oper} {o:Oper} {j:Nat} {want:Bool} (hg:o.guard=some (j,want)) {d:Nat} (hd:(ops[j]?).bind (·.dst)=some d):d∈cd ops o:=by
 unfold cd;rw[List.mem_append];right
 simp[hg,hd]
theorem PF.env {X:dI} {ops:List Oper} {e e' : Env} {H H' : List O} {i:Nat} {ran:Bool} (h:PF X ops e H i ran) (ht:∀o,ops[i]? = some o -> ∀t,l7 ops o t->Env.get e' t=Env.get e t)
 (hr:∀o d,ops[i]? = some o->o.dst=some d->ran=true->gM o.op=true->aq X.T o.op e' H' (fun u=>u=Env.get e' d)) (hr0:∀o,ops[i]? = some o->o.dst=none->gM o.op=true->ran=true->H'=H):PF X ops e' H' i ran:=by
 obtain⟨o,h1,h2,h3,h4⟩:=h;have htl:∀t∈cd ops o,Env.get e' t=Env.get e t:=fun t h=>ht o h1 t (.inl h)
 have hop:=c8 htl;refine⟨o,h1,h2,?_,?_⟩
 . cases hg:o.guard with
   | none=>rw[hg]at h3; exact h3
   | some jw =>
    obtain⟨j,want⟩:=jw;rw[hg]at h3;obtain⟨d,hd,h5⟩:=h3;refine⟨d,hd,?_⟩;rw[htl d (jb hg hd)];exact h5
 . cases hd:o.dst with
   | none =>
    rw[hd]at h4;intro hran;obtain⟨v,hv⟩:=h4 hran;refine⟨v,?_⟩;rw[<-eN hop];cases hre:gM o.op with
    | false=>rw[BQ hre e H' H]; exact hv
    | true=>rw[hr0 o h1 hd hre hran]; exact hv
   | some d =>
    rw[hd]at h4;obtain⟨g1,g2,g3⟩:=h4;have hdd:Env.get e' d=Env.get e d:=ht o h1 d (.inr hd);refine⟨g1,fun hran=>?_,fun hran=>by rw[hdd]; exact g3 hran⟩
    cases hre:gM o.op with
    | false=>rw[<-eN hop,BQ hre e H' H,hdd]; exact g2 hran
    | true=>exact hr o d h1 hd hran hre
structure DInv (X:dI) (ops:Array Oper) (K:Env->List O->Prop) (L:List Nat) (I0:aU) (ρ0:List Pl) (H0:List O) (w0:World) (a0:Act) (M:List Nat) (listed:Array Bool) (a:Act) (w:World) (pre post:List Nat) (recs:List (Nat × Bool)) (e:Env) (H:List O) (I:aU) (ρ:List Pl):Prop where
 hL:L=pre++post
 hr:recs.map (·.1)=pre.reverse
 C:iY X ops.toList (cT ops.toList []) K post recs e H
 sz:listed.size=ops.size
 unl:∀i∈post,listed.getD i false=false
 lst:∀i∈pre,∀o,ops[i]? = some o->loud o=true->listed.getD i false=true
 cl:∀(i:Nat) (o:Oper),ops[i]? = some o->listed.getD i false=true -> ∀k∈bp o,listed.getD k false=true
 pf:∀i ran,(i,ran)∈recs->listed.getD i false=false->PF X ops.toList e H i ran
 st:St I ρ H w
 er:∀t,t ∉ M->(∀i∈pre,listed.getD i false=false -> ∀o,ops[i]? = some o->o.dst≠some t)->VRel I ρ (Env.get e t) (a.tmps.getD t undef)
 as:a.tmps.size=X.n
 df:a.defers=a0.defers
 step:Step X.k I0 ρ0 H0 w0 I ρ H w
structure DOk (ops:Array Oper) (L:List Nat):Prop where
 all:∀i,i<ops.size->i∈L
 topo:∀p i q,L=p++i::q->i ∉ p /\ ∃o,ops[i]? = some o /\ ∀k∈bp o,k∈p
 loud:∀p i q,L=p++i::q -> ∀o,ops[i]? = some o->loud o=true -> ∀j∈q,Nat.testBit ((cT ops.toList []).getD j 0) i=true\/vU ops.toList j=true
 apart:∀(i j:Nat) (oi oj:Oper),ops[i]? = some oi->ops[j]? = some oj->i≠j -> ∀d,oj.dst=some d->l7 ops.toList oi d->Nat.testBit ((cT ops.toList []).getD i 0) j=true\/(Go.Proofs.YteiagdlfccbpcaaGreatDoorPg.loud oj=true/\Nat.testBit ((cT ops.toList []).getD j 0) i=true)
 self:∀(i:Nat) (o:Oper),ops[i]? = some o->Go.Proofs.YteiagdlfccbpcaaGreatDoorPg.loud o=false -> ∀d,o.dst=some d->d ∉ cd ops.toList o
 reads:∀(i:Nat) (o:Oper),ops[i]? = some o->Go.Proofs.YteiagdlfccbpcaaGreatDoorPg.loud o=false->o.dst=none->gM o.op=false
 len:L.length<=ops.size
 bdist:∀(i j:Nat) (oi oj:Oper),ops[i]? = some oi->ops[j]? = some oj->i≠j->bL oi=true->bL oj=true -> ∀d,oi.dst=some d->oj.dst≠some d
 blook:∀(i j:Nat) (oi oj:Oper),ops[i]? = some oi->ops[j]? = some oj->i≠j->bL oi=true->bL oj=true -> ∀d,oj.dst=some d->Operand.tmp d∈oi.op.operands->Nat.testBit ((cT ops.toList []).getD i 0) j=true
 bself:∀(i:Nat) (o:Oper),ops[i]? = some o->bL o=true -> ∀d,o.dst=some d->Operand.tmp d ∉ o.op.operands
theorem tB:∀(ops:List Oper) (L:List Nat) (done:Nat) (S:List Nat),(∀j,Nat.testBit done j=true ↔ j∈S)->xg ops done L=true -> ∀p i q,L=p++i::q->i ∉ S/\i ∉ p /\ ∃o,ops[i]? = some o /\ ∀k∈bp o,k∈S\/k∈p
 | ops,[],done,S,hS,h,p,i,q,hL=>by simp at hL
 | ops,x::L,done,S,hS,h,p,i,q,hL=>by
  simp only[xg,Bool.and_eq_true]at h;obtain⟨h1,h2,h3⟩:=h;cases ho:ops[x]? with
  | none=>simp[ho]at h1
  | some o =>
   simp only[ho,Cz,List.all_eq_true]at h1;have hx:x ∉ S:=fun hx=>by
    have:=(hS x).2 hx;rw[this]at h2; simp at h2
   cases p with
   | nil =>
    simp at hL;obtain⟨rfl,rfl⟩:=hL;exact⟨hx,by simp,o,ho,fun k hk=>.inl ((hS k).1 (h1 k hk))⟩
   | cons y p =>
    simp at hL;obtain⟨rfl,rfl⟩:=hL;have hS' : ∀j,Nat.testBit (done ||| 2 ^ x) j=true ↔ j∈x::S:=fun j=>by
     rw[Nat.testBit_or,Bool.or_eq_true,hS j,Nat.testBit_two_pow,decide_eq_true_eq,List.mem_cons];constructor
     . rintro(h | h)
       . exact .inr h
       . exact .inl h.symm
     . rintro(h | h)
       . exact .inr h.symm
       . exact .inl h
    obtain⟨g1,g2,o', g3,g4⟩:=tB ops (p++i::q) _ (x::S) hS' h3 p i q rfl;simp at g1;refine⟨g1.2,by simp[g1.1,g2],o', g3,fun k hk=>?_⟩
    rcases g4 k hk with h | h
    . rcases List.mem_cons.1 h with h | h
      . exact .inr (by simp[h])
      . exact .inl h
    . exact .inr (by simp[h])
theorem sM:∀(ops:List Oper) (D L:List Nat),wB ops D L=true -> ∀p i q,L=p++i::q -> ∀o,ops[i]? = some o->loud o=true -> ∀j∈q,Nat.testBit (D.getD j 0) i=true\/vU ops j=true
 | ops,D,[],h,p,i,q,hL=>by simp at hL
 | ops,D,x::L,h,p,i,q,hL=>by
  simp only[wB,Bool.and_eq_true]at h;intro o ho hl j hj;cases p with
  | nil =>
   simp at hL;obtain⟨rfl,rfl⟩:=hL;have:=h.1;simp only[ho,hl,Bool.not_true,Bool.false_or,List.all_eq_true,Bool.or_eq_true]at this;exact this j hj
  | cons y p =>
   simp at hL;obtain⟨rfl,rfl⟩:=hL;exact sM ops D _ h.2 p i q rfl o ho hl j hj
theorem AW {ops:Array Oper} {L:List Nat} (h:AV ops.toList L=true):DOk ops L:=by
 unfold AV at h;simp only[Bool.and_eq_true,List.all_eq_true]at h;obtain⟨h1,h2,h3,h4,h5,h6,h7⟩:=h;refine⟨fun i hi=>?_,fun p i q hL=>?_,fun p i q hL o ho hl j hj=>?_,fun i j oi oj hi hj hij d hd ht=>?_,fun i o ho hl d hd=>?_,fun i o ho hl hd=>?_,by simpa using aA h6,fun i j oi oj hi hj hij hbi hbj d hdi hdj=>?_,fun i j oi oj hi hj hij hbi hbj d hdj hlook=>?_,fun i o ho hbo d hd hlook=>?_⟩
 . have:=h1 i (by simpa using hi)
   simpa using this
 . obtain⟨_,g2,o,g3,g4⟩:=tB ops.toList L 0 [] (fun j=>by simp) h2 p i q hL
   exact⟨g2,o,by simpa using g3,fun k hk=>by simpa using g4 k hk⟩
 . exact sM _ _ _ h3 p i q hL o (by simpa using ho) hl j hj
 . unfold xX at h4;simp only[List.all_eq_true]at h4;have mem:∀(k:Nat) (o:Oper),ops[k]? = some o->(k,o)∈(List.range ops.toList.length).zip ops.toList:=fun k o hk=>by
    have hlt:=(Array.getElem?_eq_some_iff.1 hk).1;apply List.mem_of_getElem? (i:=k);rw[List.getElem?_zip_eq_some];exact⟨by simp[hlt],by simpa using hk⟩
   have:=h4 _ (mem i oi hi) _ (mem j oj hj);rw[Bool.or_eq_true]at this;rcases this with h | h
   . exact absurd (Nat.eq_of_beq_eq_true h) hij
   . unfold Ei at h;simp only[hd]at h;split at h
     . rename_i hfalse;exfalso;rw[Bool.or_eq_false_iff]at hfalse;rcases ht with ht | ht
       . have:=hfalse.1; simp at this; exact this ht
       . have:=hfalse.2;rw[ht]at this;simp only at this;rw[show Nat.beq d d=true from Nat.beq_refl d]at this; cases this
     . rw[Bool.or_eq_true,Bool.and_eq_true]at h;exact h
 . have:=h5 o (by
    have hlt:=(Array.getElem?_eq_some_iff.1 ho).1;exact List.mem_of_getElem? (i:=i) (by simpa using ho))
   rw[hl,Bool.false_or,hd]at this;simpa using this
 . have:=h5 o (by
    have hlt:=(Array.getElem?_eq_some_iff.1 ho).1;exact List.mem_of_getElem? (i:=i) (by simpa using ho))
   rw[hl,Bool.false_or,hd]at this;simpa using this
 . have mem:∀(k:Nat) (o:Oper),ops[k]? = some o->(k,o)∈(List.range ops.toList.length).zip ops.toList:=fun k o hk=>by
    have hlt:=(Array.getElem?_eq_some_iff.1 hk).1;apply List.mem_of_getElem? (i:=k);rw[List.getElem?_zip_eq_some];exact⟨by simp[hlt],by simpa using hk⟩
   unfold lQ at h7;rw[Bool.and_eq_true]at h7;have h7:=h7.2;simp only[List.all_eq_true]at h7;have:=h7 _ (mem i oi hi) _ (mem j oj hj);rw[Bool.or_eq_true]at this;rcases this with h | h
   . exact hij (Nat.eq_of_beq_eq_true h)
   . simp only[hbi,hbj,CD,hdi,hdj]at h;rw[show Nat.beq d d=true from Nat.beq_refl d]at h
     simp at h
 . have mem:∀(k:Nat) (o:Oper),ops[k]? = some o->(k,o)∈(List.range ops.toList.length).zip ops.toList:=fun k o hk=>by
    have hlt:=(Array.getElem?_eq_some_iff.1 hk).1;apply List.mem_of_getElem? (i:=k);rw[List.getElem?_zip_eq_some];exact⟨by simp[hlt],by simpa using hk⟩
   unfold lQ at h7;rw[Bool.and_eq_true]at h7;have h7:=h7.2;simp only[List.all_eq_true]at h7;have:=h7 _ (mem i oi hi) _ (mem j oj hj);rw[Bool.or_eq_true]at this;rcases this with h | h
   . exact absurd (Nat.eq_of_beq_eq_true h) hij
   . have hl:jM oi oj=true:=by
      unfold jM;simp only[hdj];rw[List.any_eq_true];exact⟨.tmp d,by simpa using hlook,Nat.beq_refl d⟩
     simp only[hbi,hbj,hl,Bool.true_and,Bool.not_or,Bool.and_eq_true,Bool.not_not]at h;exact h.2
 . have hlt:=(Array.getElem?_eq_some_iff.1 ho).1;have hm:(i,o)∈(List.range ops.toList.length).zip ops.toList:=by
    apply List.mem_of_getElem? (i:=i);rw[List.getElem?_zip_eq_some];exact⟨by simp[hlt],by simpa using ho⟩
   unfold lQ at h7;rw[Bool.and_eq_true]at h7;have h7:=h7.1;simp only[List.all_eq_true]at h7;have:=h7 _ hm;have hl:jM o o=true:=by
    unfold jM;simp only[hd];rw[List.any_eq_true];exact⟨.tmp d,by simpa using hlook,Nat.beq_refl d⟩
   simp[hbo,hl]at this
theorem DOk.D_pre {ops:Array Oper} {L:List Nat} (h:DOk ops L) {p q:List Nat} {i:Nat} (hL:L=p++i::q) {j:Nat} (hj:Nat.testBit ((cT ops.toList []).getD i 0) j=true):j∈p:=by
 obtain⟨_,o,ho,he⟩:=h.topo p i q hL;refine cI (ops:=ops.toList) (S:=fun k=>k∈p) (fun k ok hk hkp m hm=>?_) i o (by simpa using ho) he j hj
 obtain⟨p1,p2,rfl⟩:=List.append_of_mem hkp;obtain⟨_,o', ho', he'⟩:=h.topo p1 k (p2++i::q) (by rw[hL]; simp)
 have:ops[k]? = some ok:=by simpa using hk
 rw[this]at ho'; cases ho';have:=he' m hm;simp[this]
theorem DInv.push {X:dI} {ops:Array Oper} {K:Env->List O->Prop} {L:List Nat} {I0:aU} {ρ0:List Pl} {H0:List O} {w0:World} {a0:Act} {M:List Nat} {listed:Array Bool} {a:Act} {w:World} {pre post:List Nat} {recs:List (Nat × Bool)} {e:Env} {H:List O} {I:aU} {ρ:List Pl}
 (hL:DOk ops L) {i:Nat} (h:DInv X ops K L I0 ρ0 H0 w0 a0 M listed a w pre (i::post) recs e H I ρ) {o:Oper} (ho:ops[i]? = some o) (hl:loud o=false) {e' : Env} {ran:Bool}
 (hC:iY X ops.toList (cT ops.toList []) K post ((i,ran)::recs) e' H) (hsame:∀t,o.dst≠some t->Env.get e' t=Env.get e t)
 (hg:match o.guard with
  | none=>ran=true
  | some (j,want)=>∃d,(ops.toList[j]?).bind (·.dst)=some d/\((∃b,Env.get e d = .bool b/\ran=(b == want))\/(Env.get e d = .tup []/\ran=false)))
 (hv:match o.dst with
  | none=>ran=true -> ∃v,aq X.T o.op e H (fun u=>u=v)
  | some d=>d<X.n/\(ran=true->aq X.T o.op e H (fun u=>u=Env.get e' d))/\(ran=false->Env.get e' d = .tup [])) :
 DInv X ops K L I0 ρ0 H0 w0 a0 M listed a w (pre ++ [i]) post ((i,ran)::recs) e' H I ρ:=by
 have hLs:L=pre++i::post:=h.hL;have hown:∀t∈cd ops.toList o,Env.get e' t=Env.get e t:=fun t ht=>hsame t fun hd=>hL.self i o ho hl t hd ht
 have hop:=c8 hown;refine⟨by rw[hLs]; simp,by simp[h.hr],hC,h.sz,fun j hj=>h.unl j (by simp[hj]),fun j hj oj hoj hlj=>?_,h.cl,fun j rj hj hlj=>?_,h.st,fun t htM ht=>?_,h.as,h.df,h.step⟩
 . rcases List.mem_append.1 hj with hj | hj
   . exact h.lst j hj oj hoj hlj
   . simp at hj; subst hj;rw[ho]at hoj; cases hoj;rw[hl]at hlj; cases hlj
 . rcases List.mem_cons.1 hj with hj | hj
   . cases hj;refine⟨o,by simpa using ho,hl,?_,?_⟩
     . cases hgd:o.guard with
       | none=>rw[hgd]at hg; exact hg
       | some jw =>
        obtain⟨j,want⟩:=jw;rw[hgd]at hg;obtain⟨d,hd,h5⟩:=hg;refine⟨d,hd,?_⟩;rw[hown d (jb hgd hd)];exact h5
     . cases hd:o.dst with
       | none =>
        rw[hd]at hv;intro hran;obtain⟨v,hv⟩:=hv hran;exact⟨v,by rw[<-eN hop]; exact hv⟩
       | some d =>
        rw[hd]at hv;exact⟨hv.1,fun hran=>by rw[<-eN hop]; exact hv.2.1 hran,hv.2.2⟩
   ·
    have hpf:=h.pf j rj hj hlj;have hjp:j∈pre:=by
     have:j∈recs.map (·.1):=List.mem_map.2 ⟨_,hj,rfl⟩;rw[h.hr]at this; simpa using this
    have hne:j≠i:=fun hji=>by
     obtain⟨g1,_⟩:=hL.topo pre i post hLs;exact g1 (hji ▸ hjp)
    have htouch:∀oj,ops.toList[j]? = some oj -> ∀t,l7 ops.toList oj t->Env.get e' t=Env.get e t:=by
     intro oj hoj t ht;refine hsame t fun hd=>?_
     rcases hL.apart j i oj o (by simpa using hoj) ho hne t hd ht with hb | ⟨hb,_⟩
     . obtain⟨p1,p2,hp⟩:=List.append_of_mem hjp;have hi' := hL.D_pre (p:=p1) (q:=p2++i::post) (i:=j) (by rw[hLs,hp]; simp) hb
       obtain⟨g1,_⟩:=hL.topo pre i post hLs;exact g1 (by rw[hp]; simp[hi'])
     . rw[hl]at hb; cases hb
    refine hpf.env htouch (fun oj d hoj hd hran hre=>?_) (fun _ _ _ _ _=>rfl)
    obtain⟨oj', q1,q2,q3,q4⟩:=hpf;rw[hoj]at q1; cases q1;rw[hd]at q4;rw[<-eN (c8 fun t ht=>htouch oj hoj t (.inl ht)),htouch oj hoj d (.inr hd)]
    exact q4.2.1 hran
 . have hd:o.dst≠some t:=ht i (by simp) (h.unl i (by simp)) o ho
   rw[hsame t hd];exact h.er t htM fun j hj hlj oj hoj=>ht j (by simp[hj]) hlj oj hoj
theorem ko {d:Nat} {v:V} {e:Env}:Env.get ((d,v)::e) d=v:=by
 simp only[Env.get];rw[show Nat.beq d d=true from Nat.beq_refl d]
theorem eY {d t:Nat} (h:d≠t) {v:V} {e:Env}:Env.get ((d,v)::e) t=Env.get e t:=by
 simp only[Env.get];cases hb:Nat.beq d t with
 | true=>exact absurd (Nat.eq_of_beq_eq_true hb) h
 | false=>rfl
theorem gv {d:Nat} {v:V} {e:Env} (h:Env.get e d=v) (t:Nat):Env.get ((d,v)::e) t=Env.get e t:=by
 by_cases hd:d=t
 . subst hd; rw[ko,h]
 . exact eY hd
def Adv (X:dI) (ops:Array Oper) (K:Env->List O->Prop) (L:List Nat) (I0:aU) (ρ0:List Pl) (H0:List O) (w0:World) (a0:Act) (M:List Nat) (listed:Array Bool) (a:Act) (w:World) (pre post:List Nat) (H:List O) (I:aU) (ρ:List Pl):Prop :=
 ∃pre' post' recs' e' q,DInv X ops K L I0 ρ0 H0 w0 a0 M listed a w pre' post' recs' e' H I ρ/\(post' = [] \/ ∃i r o,post'=i::r/\ops[i]? = some o/\loud o=true) /\
  post=q++post'/\pre'=pre++q /\ ∀i∈q,∃o,ops[i]? = some o/\loud o=false
theorem Adv.cons {X:dI} {ops:Array Oper} {K:Env->List O->Prop} {L:List Nat} {I0:aU} {ρ0:List Pl} {H0:List O} {w0:World} {a0:Act} {M:List Nat} {listed:Array Bool} {a:Act} {w:World} {pre post:List Nat} {H:List O} {I:aU} {ρ:List Pl} {i:Nat} {o:Oper}
 (ho:ops[i]? = some o) (hl:loud o=false) (h:Adv X ops K L I0 ρ0 H0 w0 a0 M listed a w (pre ++ [i]) post H I ρ):Adv X ops K L I0 ρ0 H0 w0 a0 M listed a w pre (i::post) H I ρ:=by
 obtain⟨pre', post', recs', e', q,h1,h2,h3,h4,h5⟩:=h;refine⟨pre', post', recs', e', i::q,h1,h2,by rw[h3]; rfl,by rw[h4]; simp,fun k hk=>?_⟩
 rcases List.mem_cons.1 hk with rfl | hk
 . exact⟨o,ho,hl⟩
 . exact h5 k hk
theorem DInv.advance {X:dI} {ops:Array Oper} {K:Env->List O->Prop} {L:List Nat} {I0:aU} {ρ0:List Pl} {H0:List O} {w0:World} {a0:Act} {M:List Nat} {listed:Array Bool} {a:Act} {w:World} {H:List O} {I:aU} {ρ:List Pl} (hL:DOk ops L) :
 ∀(post pre:List Nat) (recs:List (Nat × Bool)) (e:Env),DInv X ops K L I0 ρ0 H0 w0 a0 M listed a w pre post recs e H I ρ ->
 Adv X ops K L I0 ρ0 H0 w0 a0 M listed a w pre post H I ρ:=by
 intro post;induction post with
 | nil=>intro pre recs e h; exact⟨pre,[],recs,e,[],h,.inl rfl,by simp,by simp,by simp⟩
 | cons i post ih =>
  intro pre recs e h;have hC:=h.C;unfold iY at hC;cases ho' : ops.toList[i]? with
  | none=>simp only[ho']at hC
  | some o =>
   simp only[ho']at hC;have ho:ops[i]? = some o:=by simpa using ho'
   cases hl:loud o with
   | true=>exact⟨pre,i::post,recs,e,[],h,.inr ⟨i,post,o,rfl,ho,hl⟩,by simp,by simp,by simp⟩
   | false =>
    have hC:=AI hl hC;have runs:∀e2:Env,(∀t,Env.get e2 t=Env.get e t)->(match o.guard with
     | none=>True
     | some (j,want)=>∃d,(ops.toList[j]?).bind (·.dst)=some d/\Env.get e d = .bool want) ->
     IG X ops.toList (cT ops.toList []) i o recs e2 H (iY X ops.toList (cT ops.toList []) K post ((i,true)::recs)) ->
     Adv X ops K L I0 ρ0 H0 w0 a0 M listed a w pre (i::post) H I ρ:=by
     intro e2 h2 hg hd;unfold IG at hd;simp only[hl]at hd;obtain⟨v,hp,haq⟩:=El o.op e2 H _ hd;have haq' : aq X.T o.op e H (fun u=>u=v):=by
      rw[eN (e' := e2) (fun x _=>by cases x<;>simp[am,h2])]; exact haq
     have hg' : match o.guard with
      | none=>true=true
      | some (j,want)=>∃d,(ops.toList[j]?).bind (·.dst)=some d/\((∃b,Env.get e d = .bool b/\true=(b == want))\/(Env.get e d = .tup []/\true=false)):=by
      cases hgd:o.guard with
      | none=>rfl
      | some jw =>
       obtain⟨j,want⟩:=jw;rw[hgd]at hg;obtain⟨d,h3,h4⟩:=hg;exact⟨d,h3,.inl ⟨want,h4,by simp⟩⟩
     unfold fM at hp;cases hdst:o.dst with
     | none =>
      simp only[hdst]at hp;exact Adv.cons ho hl (ih _ _ _ (h.push hL ho hl (ran:=true) hp (fun t _=>h2 t) hg' (by rw[hdst]; exact fun _=>⟨v,haq'⟩)))
     | some d =>
      simp only[hdst]at hp;cases hb:Nat.blt d X.n with
      | false=>simp only[hb]at hp
      | true =>
       simp only[hb]at hp;exact Adv.cons ho hl (ih _ _ _ (h.push hL ho hl (ran:=true) hp (fun t ht=>by rw[eY (fun h=>ht (by rw[hdst,h])),h2]) hg' (by
        rw[hdst];exact⟨aA hb,fun _=>by rw[ko]; exact haq', by simp⟩)))
    have skips:∀e2:Env,(∀t,Env.get e2 t=Env.get e t)->(∃j want d,o.guard=some (j,want)/\(ops.toList[j]?).bind (·.dst)=some d/\(Env.get e d = .bool (!want)\/Env.get e d = .tup [])) ->
     (fM X.n o.dst (.tup []) e2 fun e' => iY X ops.toList (cT ops.toList []) K post ((i,false)::recs) e' H) ->
     Adv X ops K L I0 ρ0 H0 w0 a0 M listed a w pre (i::post) H I ρ:=by
     rintro e2 h2 ⟨j,want,d,hgd,h3,h4⟩ hp;have hg' : match o.guard with
      | none=>false=true
      | some (j,want)=>∃d,(ops.toList[j]?).bind (·.dst)=some d/\((∃b,Env.get e d = .bool b/\false=(b == want))\/(Env.get e d = .tup []/\false=false)):=by
      rw[hgd];refine⟨d,h3,?_⟩;rcases h4 with h4 | h4
      . exact .inl ⟨!want,h4,by cases want<;>rfl⟩
      . exact .inr ⟨h4,rfl⟩
     unfold fM at hp;cases hdst:o.dst with
     | none =>
      simp only[hdst]at hp;exact Adv.cons ho hl (ih _ _ _ (h.push hL ho hl (ran:=false) hp (fun t _=>h2 t) hg' (by rw[hdst]; simp)))
     | some d' =>
      simp only[hdst]at hp;cases hb:Nat.blt d' X.n with
      | false=>simp only[hb]at hp
      | true =>
       simp only[hb]at hp;exact Adv.cons ho hl (ih _ _ _ (h.push hL ho hl (ran:=false) hp (fun t ht=>by rw[eY (fun h=>ht (by rw[hdst,h])),h2]) hg' (by
        rw[hdst];exact⟨aA hb,by simp,fun _=>ko⟩)))
    cases hgd:o.guard with
    | none =>
     simp only[hgd]at hC;exact runs e (fun _=>rfl) (by rw[hgd]; trivial) hC
    | some jw =>
     obtain⟨j,want⟩:=jw;simp only[hgd]at hC;cases hd:(ops.toList[j]?).bind (·.dst)with
     | none=>simp only[hd]at hC
     | some d =>
      simp only[hd]at hC;split at hC
      . rename_i b hb;cases b with
        | true =>
         simp only[eU]at hC;cases want with
         | true=>exact runs _ (gv hb) (by rw[hgd]; exact⟨d,hd,hb⟩) hC
         | false=>exact skips _ (gv hb) ⟨j,false,d,hgd,hd,.inl hb⟩ hC
        | false =>
         simp only[eU]at hC;cases want with
         | false=>exact runs _ (gv hb) (by rw[hgd]; exact⟨d,hd,hb⟩) hC
         | true=>exact skips _ (gv hb) ⟨j,true,d,hgd,hd,.inl hb⟩ hC
      . rename_i hb;exact skips e (fun _=>rfl) ⟨j,want,d,hgd,hd,.inr hb⟩ hC
      . exact hC.elim
def jO (ops:Array Oper) (listed:Array Bool) (pre:List Nat):List Nat:=(pre.filter fun i=>!listed.getD i false).filterMap fun i=>(ops[i]?).bind (·.dst)
theorem mem_pends {ops:Array Oper} {listed:Array Bool} {pre:List Nat} {t:Nat}:t∈jO ops listed pre ↔ ∃i∈pre,listed.getD i false=false /\ ∃o,ops[i]? = some o/\o.dst=some t:=by
 unfold jO;simp only[List.mem_filterMap,List.mem_filter,Bool.not_eq_true', Option.bind_eq_some_iff];constructor
 . rintro⟨i,⟨h1,h2⟩,o,h3,h4⟩; exact⟨i,h1,h2,o,h3,h4⟩
 . rintro⟨i,h1,h2,o,h3,h4⟩; exact⟨i,⟨h1,h2⟩,o,h3,h4⟩
def gT (ps:List Nat) (e:Env):Env:=ps.map (fun t=>(t,V.any))++e
theorem lY (ps:List Nat) (e:Env) (t:Nat):(t∈ps->Env.get (gT ps e) t = .any)/\(t ∉ ps->Env.get (gT ps e) t=Env.get e t):=by
 induction ps with
 | nil=>exact⟨fun h=>by simp at h,fun _=>rfl⟩
 | cons x ps ih =>
  by_cases hx:x=t
  . subst hx;exact⟨fun _=>by show Env.get ((x,V.any)::gT ps e) x=_; exact ko,fun h=>absurd (by simp) h⟩
  . have e1:Env.get (gT (x::ps) e) t=Env.get (gT ps e) t:=by
     show Env.get ((x,V.any)::gT ps e) t=_
     exact eY hx
    rw[e1];refine⟨fun h=>ih.1 ?_,fun h=>ih.2 (fun h' => h (by simp[h']))⟩
    rcases List.mem_cons.1 h with h | h
    . exact absurd h.symm hx
    . exact h
theorem DInv.mask {X:dI} {ops:Array Oper} {K:Env->List O->Prop} {L:List Nat} {I0:aU} {ρ0:List Pl} {H0:List O} {w0:World} {a0:Act} {M:List Nat} {listed:Array Bool} {a:Act} {w:World} {pre post:List Nat} {recs:List (Nat × Bool)} {e:Env} {H:List O} {I:aU} {ρ:List Pl}
 (h:DInv X ops K L I0 ρ0 H0 w0 a0 M listed a w pre post recs e H I ρ):ERel I ρ (gT (M++jO ops listed pre) e) a.tmps:=fun t=>by
 by_cases ht:t∈M++jO ops listed pre
 . rw[(lY _ _ _).1 ht]; exact .any _ _
 . rw[(lY _ _ _).2 ht];exact h.er t (fun hm=>ht (by simp[hm])) fun i hi hl o ho hd=>ht (List.mem_append.2 (.inr (mem_pends.2 ⟨i,hi,hl,o,ho,hd⟩)))
theorem DInv.looks {X:dI} {ops:Array Oper} {K:Env->List O->Prop} {L:List Nat} {I0:aU} {ρ0:List Pl} {H0:List O} {w0:World} {a0:Act} {M:List Nat} {listed:Array Bool} {a:Act} {w:World} {pre post:List Nat} {recs:List (Nat × Bool)} {e:Env} {H:List O} {I:aU} {ρ:List Pl}
 (hL:DOk ops L) (h:DInv X ops K L I0 ρ0 H0 w0 a0 M listed a w pre post recs e H I ρ) {i:Nat} {o:Oper} (ho:ops[i]? = some o) (he:∀k∈bp o,listed.getD k false=true) (hself:loud o=true->i ∉ pre) {t:Nat} (ht:t∈cd ops.toList o) (htM:t ∉ M) :
 Env.get (gT (M++jO ops listed pre) e) t=Env.get e t:=by
 refine(lY _ _ _).2 fun hp=>?_
 rcases List.mem_append.1 hp with hp | hp
 . exact htM hp
 obtain⟨j,hj,hlj,oj,hoj,hd⟩:=mem_pends.1 hp;have hcl:=cI (ops:=ops.toList) (S:=fun k=>listed.getD k false=true) (fun k ok hk hs m hm=>h.cl k ok (by simpa using hk) hs m hm) i o (by simpa using ho) he
 by_cases hij:i=j
 . subst hij;rw[ho]at hoj; cases hoj;cases hl:loud o with
   | false=>exact hL.self i o ho hl t hd ht
   | true=>exact hself hl hj
 . rcases hL.apart i j o oj ho hoj hij t hd (.inl ht)with hb | ⟨hb,_⟩
   . have:=hcl j hb;rw[hlj]at this; cases this
   . have:=h.lst j hj oj hoj hb;rw[hlj]at this; cases this
theorem aF {listed:Array Bool} {i:Nat} (hi:i<listed.size) (j:Nat):(listed.setIfInBounds i true).getD j false=if j=i then true else listed.getD j false:=by
 by_cases h:j=i
 . subst h; simp[hi]
 . rw[if_neg h];simp[Array.getElem?_setIfInBounds_ne (show i≠j from fun e=>h e.symm)]
theorem DInv.done {X:dI} {ops:Array Oper} {K:Env->List O->Prop} {L:List Nat} {I0:aU} {ρ0:List Pl} {H0:List O} {w0:World} {a0:Act} {M:List Nat} {listed:Array Bool} {a:Act} {w:World} {pre post:List Nat} {recs:List (Nat × Bool)} {e:Env} {H:List O} {I:aU} {ρ:List Pl}
 (hL:DOk ops L) (h:DInv X ops K L I0 ρ0 H0 w0 a0 M listed a w pre post recs e H I ρ) {i:Nat} {o:Oper} (ho:ops[i]? = some o) (hi:i∈pre) (he:∀k∈bp o,listed.getD k false=true) {u:Value}
 (hu:∀d,o.dst=some d->d<X.n/\VRel I ρ (Env.get e d) u):DInv X ops K L I0 ρ0 H0 w0 a0 M (listed.setIfInBounds i true) (a.put o.dst u) w pre post recs e H I ρ:=by
 have hlt:i<listed.size:=by rw[h.sz]; exact(Array.getElem?_eq_some_iff.1 ho).1
 have hnp:∀j∈post,j≠i:=fun j hj hji=>by
  subst hji;obtain⟨q1,q2,rfl⟩:=List.append_of_mem hj;obtain⟨g1,_⟩:=hL.topo (pre++q1) j q2 (by rw[h.hL]; simp)
  exact g1 (by simp[hi])
 refine⟨h.hL,h.hr,h.C,by simp[h.sz],fun j hj=>?_,fun j hj oj hoj hlj=>?_,fun j oj hoj hlj k hk=>?_,fun j rj hj hlj=>?_,h.st,fun t htM ht=>?_,?_,?_,h.step⟩
 . rw[aF hlt,if_neg (hnp j hj)]; exact h.unl j hj
 . rw[aF hlt];by_cases hji:j=i
   . rw[if_pos hji]
   . rw[if_neg hji]; exact h.lst j hj oj hoj hlj
 . rw[aF hlt]at hlj ⊢;by_cases hki:k=i
   . rw[if_pos hki]
   . rw[if_neg hki];by_cases hji:j=i
     . subst hji;rw[ho]at hoj; cases hoj;exact he k hk
     . rw[if_neg hji]at hlj;exact h.cl j oj hoj hlj k hk
 . rw[aF hlt]at hlj;by_cases hji:j=i
   . rw[if_pos hji]at hlj; cases hlj
   . rw[if_neg hji]at hlj; exact h.pf j rj hj hlj
 . cases hd:o.dst with
   | none =>
    refine h.er t htM fun j hj hlj oj hoj=>?_
    by_cases hji:j=i
    . subst hji; rw[ho]at hoj; cases hoj; rw[hd]; simp
    . exact ht j hj (by rw[aF hlt,if_neg hji]; exact hlj) oj hoj
   | some d =>
    obtain⟨hdn,hrel⟩:=hu d hd;simp only[Act.put];by_cases hdt:d=t
    . subst hdt;rw[show(a.tmps.setIfInBounds d u).getD d undef=u by simp[h.as,hdn]]
      exact hrel
    . rw[show(a.tmps.setIfInBounds d u).getD t undef=a.tmps.getD t undef by simp[Array.getElem?_setIfInBounds_ne hdt]]
      refine h.er t htM fun j hj hlj oj hoj=>?_
      by_cases hji:j=i
      . subst hji; rw[ho]at hoj; cases hoj; rw[hd]; simpa using hdt
      . exact ht j hj (by rw[aF hlt,if_neg hji]; exact hlj) oj hoj
 . cases o.dst<;>simp[Act.put,h.as]
 . cases o.dst<;>exact h.df
theorem DInv.next {X:dI} {ops:Array Oper} {K:Env->List O->Prop} {L:List Nat} {I0:aU} {ρ0:List Pl} {H0:List O} {w0:World} {a0:Act} {M:List Nat} {listed:Array Bool} {a:Act} {w:World} {pre post:List Nat} {recs:List (Nat × Bool)} {e:Env} {H:List O} {I:aU} {ρ:List Pl} {i:Nat}
 (hL:DOk ops L) (h:DInv X ops K L I0 ρ0 H0 w0 a0 M listed a w pre (i::post) recs e H I ρ) {o:Oper} (ho:ops[i]? = some o) (he:∀k∈bp o,listed.getD k false=true) {u:Value} {v:V} {e' : Env} {H' : List O} {I' : aU} {ρ' : List Pl} {w' : World} {ran:Bool}
 (hC:iY X ops.toList (cT ops.toList []) K post ((i,ran)::recs) e' H')
 (hre:∀j rj,(j,rj)∈recs->rj=true->listed.getD j false=false -> ∀oj,ops.toList[j]? = some oj->gM oj.op=true -> ∃d,oj.dst=some d/\aq X.T oj.op e' H' (fun u=>u=Env.get e' d))
 (hget:∀t,o.dst≠some t->Env.get e' t=Env.get e t) (hv:∀d,o.dst=some d->d<X.n/\Env.get e' d=v) (hu:VRel I' ρ' v u) (hst:St I' ρ' H' w') (her:ERel I' ρ' (gT (M++jO ops listed pre) e) a.tmps) (hstep:Step X.k I0 ρ0 H0 w0 I' ρ' H' w') {M' : List Nat} (hM:∀t∈M,t∈M'\/o.dst=some t) :
 DInv X ops K L I0 ρ0 H0 w0 a0 M' (listed.setIfInBounds i true) (a.put o.dst u) w' (pre ++ [i]) post ((i,ran)::recs) e' H' I' ρ' := by
 have hLs:L=pre++i::post:=h.hL;have hlt:i<listed.size:=by rw[h.sz]; exact(Array.getElem?_eq_some_iff.1 ho).1
 have hnpre:i ∉ pre:=(hL.topo pre i post hLs).1;have hcl:=cI (ops:=ops.toList) (S:=fun k=>listed.getD k false=true) (fun k ok hk hs m hm=>h.cl k ok (by simpa using hk) hs m hm) i o (by simpa using ho) he
 have hnp:∀j∈post,j≠i:=fun j hj hji=>by
  subst hji;obtain⟨q1,q2,rfl⟩:=List.append_of_mem hj;obtain⟨g1,_⟩:=hL.topo (pre++j::q1) j q2 (by rw[hLs]; simp)
  exact g1 (by simp)
 refine⟨by rw[hLs]; simp,by simp[h.hr],hC,by simp[h.sz],fun j hj=>?_,fun j hj oj hoj hlj=>?_,fun j oj hoj hlj k hk=>?_,fun j rj hj hlj=>?_,hst,fun t htM ht=>?_,?_,?_,hstep⟩
 . rw[aF hlt,if_neg (hnp j hj)]; exact h.unl j (by simp[hj])
 . rw[aF hlt];by_cases hji:j=i
   . rw[if_pos hji]
   . rw[if_neg hji];rcases List.mem_append.1 hj with hj | hj
     . exact h.lst j hj oj hoj hlj
     . simp at hj; exact absurd hj hji
 . rw[aF hlt]at hlj ⊢;by_cases hki:k=i
   . rw[if_pos hki]
   . rw[if_neg hki];by_cases hji:j=i
     . subst hji;rw[ho]at hoj; cases hoj;exact he k hk
     . rw[if_neg hji]at hlj;exact h.cl j oj hoj hlj k hk
 . rw[aF hlt]at hlj;by_cases hji:j=i
   . rw[if_pos hji]at hlj; cases hlj
   . rw[if_neg hji]at hlj;rcases List.mem_cons.1 hj with hj | hj
     . cases hj; exact absurd rfl hji
     . have hpf:=h.pf j rj hj hlj;have hjp:j∈pre:=by
        have:j∈recs.map (·.1):=List.mem_map.2 ⟨_,hj,rfl⟩;rw[h.hr]at this; simpa using this
       have htouch:∀oj,ops.toList[j]? = some oj -> ∀t,l7 ops.toList oj t->Env.get e' t=Env.get e t:=by
        intro oj hoj t ht;refine hget t fun hd=>?_
        rcases hL.apart j i oj o (by simpa using hoj) ho hji t hd ht with hb | ⟨_,hb⟩
        . obtain⟨p1,p2,hp⟩:=List.append_of_mem hjp;have hi' := hL.D_pre (p:=p1) (q:=p2++i::post) (i:=j) (by rw[hLs,hp]; simp) hb
          exact hnpre (by rw[hp]; simp[hi'])
        . have:=hcl j hb;rw[hlj]at this; cases this
       refine hpf.env htouch (fun oj d hoj hd hran hrd=>?_) (fun oj hoj hd hrd hran=>?_)
       . obtain⟨d', hd', hq⟩:=hre j rj hj hran hlj oj hoj hrd;rw[hd]at hd'; cases hd'; exact hq
       . obtain⟨d', hd', hq⟩:=hre j rj hj hran hlj oj hoj hrd;rw[hd]at hd'; cases hd'
 . have old:∀t,t ∉ M->(∀j∈pre ++ [i],(listed.setIfInBounds i true).getD j false=false -> ∀oj,ops[j]? = some oj->oj.dst≠some t)->VRel I' ρ' (Env.get e t) (a.tmps.getD t undef):=by
    intro t htM ht;have:=her t;rw[(lY _ _ _).2 (fun hp=>by
     rcases List.mem_append.1 hp with hp | hp
     . exact htM hp
     obtain⟨j,hj,hlj,oj,hoj,hd⟩:=mem_pends.1 hp;have hji:j≠i:=fun hji=>hnpre (hji ▸ hj)
     exact ht j (by simp[hj]) (by rw[aF hlt,if_neg hji]; exact hlj) oj hoj hd)]at this
    exact this
   cases hd:o.dst with
   | none =>
    simp only[Act.put];rw[hget t (by rw[hd]; simp)]
    exact old t (fun hm=>by rcases hM t hm with h1 | h1; exact htM h1; rw[hd]at h1; cases h1) ht
   | some d =>
    obtain⟨hdn,hrel⟩:=hv d hd;simp only[Act.put];by_cases hdt:d=t
    . subst hdt;rw[show(a.tmps.setIfInBounds d u).getD d undef=u by simp[h.as,hdn],hrel]
      exact hu
    . rw[show(a.tmps.setIfInBounds d u).getD t undef=a.tmps.getD t undef by simp[Array.getElem?_setIfInBounds_ne hdt]]
      rw[hget t (by rw[hd]; simpa using hdt)]
      exact old t (fun hm=>by
       rcases hM t hm with h1 | h1
       . exact htM h1
       . rw[hd]at h1; cases h1; exact hdt rfl) ht
 . cases o.dst<;>simp[Act.put,h.as]
 . cases o.dst<;>exact h.df
theorem yB:∀(L:List Nat) (f:Nat->Bool),(∃i∈L,f i=false) -> ∃p i q,L=p++i::q/\f i=false /\ ∀j∈p,f j=true
 | [],f,h=>by simp at h
 | x::L,f,h=>by
  cases hx:f x with
  | false=>exact⟨[],x,L,rfl,hx,by simp⟩
  | true =>
   obtain⟨i,hi,hf⟩:=h;have:i∈L:=by
    rcases List.mem_cons.1 hi with rfl | hi
    . rw[hx]at hf; cases hf
    . exact hi
   obtain⟨p,j,q,h1,h2,h3⟩:=yB L f ⟨i,this,hf⟩;exact⟨x::p,j,q,by rw[h1]; rfl,h2,fun k hk=>by
    rcases List.mem_cons.1 hk with rfl | hk
    . exact hx
    . exact h3 k hk⟩
theorem C0 {ops:Array Oper} {L:List Nat} {listed:Array Bool}
 (hL:DOk ops L) (hs:listed.size=ops.size) (hr:Region.ready .any ops listed = []):∀i∈L,listed.getD i false=true:=by
 intro i hi;cases hx:listed.getD i false with
 | true=>rfl
 | false =>
  obtain⟨p,j,q,h1,h2,h3⟩:=yB L (fun i=>listed.getD i false) ⟨i,hi,hx⟩
  obtain⟨_,o,ho,he⟩:=hL.topo p j q h1;have:j∈Region.ready .any ops listed:=(ph hs).2 ⟨o,ho,h2,fun k hk=>h3 k (he k hk)⟩
  rw[hr]at this; simp at this
theorem DInv.finish {X:dI} {ops:Array Oper} {K:Env->List O->Prop} {L:List Nat} {I0:aU} {ρ0:List Pl} {H0:List O} {w0:World} {a0:Act} {listed:Array Bool} {a:Act} {w:World} {pre:List Nat} {recs:List (Nat × Bool)} {e:Env} {H:List O} {I:aU} {ρ:List Pl}
 (h:DInv X ops K L I0 ρ0 H0 w0 a0 [] listed a w pre [] recs e H I ρ) (hall:∀i∈pre,listed.getD i false=true):K e H/\St I ρ H w/\ERel I ρ e a.tmps:=by
 have hC:=h.C;unfold iY at hC;exact⟨hC,h.st,fun t=>h.er t (by simp) fun i hi hl=>by
  have h2:=hall i hi;rw[hl]at h2; cases h2⟩
theorem gy {X:dI} {ops:List Oper} {D:Nat} {e:Env} {H:List O} {K:Prop}:∀(recs:List (Nat × Bool)),jc X ops D e H K recs->K /\ ∀j rj,(j,rj)∈recs->rj=true->Nat.testBit D j=false -> ∀oj,ops[j]? = some oj->gM oj.op=true -> ∃d,oj.dst=some d/\aq X.T oj.op e H (fun u=>u=Env.get e d)
 | [],h=>⟨h,fun j rj hj=>by simp at hj⟩
 | (i,ran)::r,h=>by
  unfold jc at h;cases hb:ran && !Nat.testBit D i with
  | false =>
   simp only[hb]at h;obtain⟨h1,h2⟩:=gy r h;refine⟨h1,fun j rj hj hran hbit oj hoj hrd=>?_⟩
   rcases List.mem_cons.1 hj with hj | hj
   . cases hj; rw[hran,hbit]at hb; simp at hb
   . exact h2 j rj hj hran hbit oj hoj hrd
  | true =>
   simp only[hb]at h;cases ho:ops[i]? with
   | none=>simp only[ho]at h
   | some o =>
    simp only[ho]at h;cases hrd:gM o.op with
    | false =>
     simp only[hrd]at h;obtain⟨h1,h2⟩:=gy r h;refine⟨h1,fun j rj hj hran hbit oj hoj hrd' => ?_⟩
     rcases List.mem_cons.1 hj with hj | hj
     . cases hj; rw[ho]at hoj; cases hoj; rw[hrd]at hrd'; cases hrd'
     . exact h2 j rj hj hran hbit oj hoj hrd'
    | true =>
     cases hd:o.dst with
     | none=>simp only[hrd,hd]at h
     | some d =>
      simp only[hrd,hd]at h;obtain⟨h1,h2⟩:=gy r h.2;refine⟨h1,fun j rj hj hran hbit oj hoj hrd' => ?_⟩
      rcases List.mem_cons.1 hj with hj | hj
      . cases hj; rw[ho]at hoj; cases hoj; exact⟨d,hd,h.1⟩
      . exact h2 j rj hj hran hbit oj hoj hrd'
theorem yz {L:List Nat} {f g:Nat->Bool} (hfg:∀i,g i=true->f i=true) {i:Nat} (hi:i∈L) (h1:f i=true) (h2:g i=false):(L.filter g).length<(L.filter f).length:=by
 induction L with
 | nil=>simp at hi
 | cons x L ih =>
  have hle:(L.filter g).length<=(L.filter f).length:=by
   clear ih hi;induction L with
   | nil=>simp
   | cons y L ih =>
    simp only[List.filter_cons];cases hg:g y with
    | true=>rw[hfg y hg]; simp; exact ih
    | false=>cases f y<;>simp<;>omega
  simp only[List.filter_cons];rcases List.mem_cons.1 hi with rfl | hi
  . rw[h1,h2]; simp; omega
  . have:=ih hi;cases hg:g x with
    | true=>rw[hfg x hg]; simp; exact this
    | false=>cases f x<;>simp<;>omega
end
section
variable [Globs]
variable {P:Program} {T:Nat->TI}
def Early (X:dI) (ops:Array Oper) (a:Act) (w0 w:World) (I:aU) (ρ:List Pl) (H:List O) (i:Nat):Prop :=
 ∃o d b c,ops[i]? = some o/\bL o=true/\o.dst=some d/\o.guard=none/\d<X.n/\Jc (a.tmps.getD d undef)=some b/\w0.heap.size<=b /\
  w.heap[b]? = some c/\EOk X a.eval c o (a.tmps.getD d undef) b /\ ¬az ρ H b /\ ∀o,I b o=none
theorem mn {o:Oper} (h:bL o=true):uR o.op=true/\loud o=true:=by
 unfold bL at h;split at h<;>try (cases h; done)
 all_goals
  rename_i h1 _ _;simp[loud,h1,uR]
theorem Cc {a a' : Act} {x:Operand} (h:∀t,x = .tmp t->a'.tmps.getD t undef=a.tmps.getD t undef):a'.eval x=a.eval x:=by
 cases x with
 | tmp t=>exact h t rfl
 | const v=>rfl
 | global g=>rfl
 | func f=>rfl
theorem DE {ops:List Oper} {o:Oper} {t:Nat} (h:Operand.tmp t∈o.op.operands):t∈cd ops o:=by
 unfold cd;rw[List.mem_append];left
 rw[List.mem_filterMap];exact⟨.tmp t,by simpa using h,rfl⟩
structure tH (X:dI) (ops:Array Oper) (listed lv:Array Bool) (a:Act) (w0 w:World) (I:aU) (ρ:List Pl) (H:List O) (pre post:List Nat):Prop where
 sz:listed.size=ops.size
 eq:∀i∈pre,lv.getD i false=listed.getD i false
 cl:∀(i:Nat) (o:Oper),ops[i]? = some o->listed.getD i false=true -> ∀k∈bp o,listed.getD k false=true
 it:∀i∈post,listed.getD i false=true->Early X ops a w0 w I ρ H i
 inj:∀i∈post,∀j∈post,listed.getD i false=true->listed.getD j false=true->i≠j -> ∀oi oj di dj,ops[i]? = some oi->ops[j]? = some oj->oi.dst=some di->oj.dst=some dj->Jc (a.tmps.getD di undef)≠Jc (a.tmps.getD dj undef)
def dh (ops:Array Oper) (listed:Array Bool) (post:List Nat):List Nat:=(post.filter fun i=>listed.getD i false).filterMap fun i=>(ops[i]?).bind (·.dst)
theorem mem_pendB {ops:Array Oper} {listed:Array Bool} {post:List Nat} {t:Nat}:t∈dh ops listed post ↔ ∃i∈post,listed.getD i false=true /\ ∃o,ops[i]? = some o/\o.dst=some t:=by
 unfold dh;simp only[List.mem_filterMap,List.mem_filter,Option.bind_eq_some_iff];constructor
 . rintro⟨i,⟨h1,h2⟩,o,h3,h4⟩; exact⟨i,h1,h2,o,h3,h4⟩
 . rintro⟨i,h1,h2,o,h3,h4⟩; exact⟨i,⟨h1,h2⟩,o,h3,h4⟩
theorem Early.op {X:dI} {ops:Array Oper} {a:Act} {w0 w:World} {I:aU} {ρ:List Pl} {H:List O} {i:Nat} (h:Early X ops a w0 w I ρ H i) {o:Oper} (ho:ops[i]? = some o):bL o=true/\loud o=true:=by
 obtain⟨o', d,b,c,h1,h2,_⟩:=h;rw[ho]at h1; cases h1;exact⟨h2,(mn h2).2⟩
theorem Early.of {X:dI} {ops:Array Oper} {a a' : Act} {w0 w w' : World} {I I' : aU} {ρ ρ' : List Pl} {H H' : List O} {i:Nat} (h:Early X ops a w0 w I ρ H i)
 (ha:∀o d,ops[i]? = some o->o.dst=some d->a'.tmps.getD d undef=a.tmps.getD d undef) (hx:∀o t,ops[i]? = some o->Operand.tmp t∈o.op.operands->a'.tmps.getD t undef=a.tmps.getD t undef)
 (hw:∀b,b<w.heap.size -> ¬az ρ H b->(∀o,I b o=none)->(∃o d,ops[i]? = some o/\o.dst=some d/\Jc (a.tmps.getD d undef)=some b)->w'.heap[b]? = w.heap[b]? /\ ¬az ρ' H' b /\ ∀o,I' b o=none):Early X ops a' w0 w' I' ρ' H' i:=by
 obtain⟨o,d,b,c,h1,h2,h3,h4,h5,h6,h7,h8,h9,h10,h11⟩:=h;obtain⟨g1,g2,g3⟩:=hw b (Array.getElem?_eq_some_iff.1 h8).1 h10 h11 ⟨o,d,h1,h3,h6⟩;refine⟨o,d,b,c,h1,h2,h3,h4,h5,by rw[ha o d h1 h3,h6],h7,by rw[g1,h8],?_,g2,g3⟩
 rw[ha o d h1 h3];exact h9.congr fun x hx' => Cc fun t ht=>hx o t h1 (ht ▸ hx')
theorem Early.step {X:dI} {ops:Array Oper} {a:Act} {w0 w w' : World} {I I' : aU} {ρ ρ' : List Pl} {H H' : List O} {i:Nat} (h:Early X ops a w0 w I ρ H i) {k:Nat} (hs:Step k I ρ H w I' ρ' H' w'):Early X ops a w0 w' I' ρ' H' i :=
 h.of (fun _ _ _ _=>rfl) (fun _ _ _ _=>rfl) fun b hb hn hi _=>⟨hs.frame b hb hn,fun ho=>by
  rcases hs.own b ho with h1 | h1
  . exact hn h1
  . omega,fun o=>by
  cases hv:I' b o with
  | none=>rfl
  | some v =>
   rcases hs.imm b o v hv with h1 | h1 | h1
   . rw[hi]at h1; cases h1
   . exact absurd h1 hn
   . omega⟩
theorem om {a:Act} {d:Option Nat} {u:Value} {t:Nat} (h:d≠some t):(a.put d u).tmps.getD t undef=a.tmps.getD t undef:=by
 cases d with
 | none=>rfl
 | some d =>
  have:d≠t:=fun e=>h (by rw[e])
  simp[Act.put,Array.getElem?_setIfInBounds_ne this]
section
variable {X:dI} {ops:Array Oper} {K:Env->List O->Prop} {L:List Nat} {I0:aU} {ρ0:List Pl} {H0:List O} {w0:World} {a0:Act} {listed lv:Array Bool} {a:Act} {w:World} {pre post:List Nat} {recs:List (Nat × Bool)} {e:Env} {H:List O} {I:aU} {ρ:List Pl}
theorem ll (hL:DOk ops L) (hLs:L=pre++post):∀i∈pre,i ∉ post:=fun i hi hp=>by
 obtain⟨q1,q2,rfl⟩:=List.append_of_mem hp;obtain⟨g1,_⟩:=hL.topo (pre++q1) i q2 (by rw[hLs]; simp)
 exact g1 (by simp[hi])
theorem B7 {i:Nat} (hL:DOk ops L) (hLs:L=pre++i::post):i ∉ pre/\i ∉ post:=by
 refine⟨(hL.topo pre i post hLs).1,fun hp=>?_⟩
 obtain⟨q1,q2,rfl⟩:=List.append_of_mem hp;obtain⟨g1,_⟩:=hL.topo (pre++i::q1) i q2 (by rw[hLs]; simp)
 exact g1 (by simp)
theorem wg (hL:DOk ops L) {r:List Nat} (hLs:L=pre++post) {i:Nat} (hi:i∈pre\/post=i::r) {j:Nat} (hj:Nat.testBit ((cT ops.toList []).getD i 0) j=true):j∈pre:=by
 rcases hi with hi | rfl
 . obtain⟨p1,p2,rfl⟩:=List.append_of_mem hi;have:=hL.D_pre (p:=p1) (q:=p2++post) (i:=i) (by rw[hLs]; simp) hj
   simp[this]
 . exact hL.D_pre hLs hj
theorem we (hL:DOk ops L) {r:List Nat} (hLs:L=pre++post) {i:Nat} (hi:i∈pre\/post=i::r) {o:Oper} (ho:ops[i]? = some o):∀k∈bp o,k∈pre:=by
 rcases hi with hi | rfl
 . obtain⟨p1,p2,rfl⟩:=List.append_of_mem hi;obtain⟨_,o', ho', he⟩:=hL.topo p1 i (p2++post) (by rw[hLs]; simp)
   rw[ho]at ho'; cases ho';intro k hk;simp[he k hk]
 . obtain⟨_,o', ho', he⟩:=hL.topo pre i r hLs;rw[ho]at ho'; cases ho';exact he
theorem rR (hL:DOk ops L) (hLs:L=pre++post) (hb:tH X ops listed lv a w0 w I ρ H pre post) {r:List Nat} {i:Nat} (hi:i∈pre\/post=i::r) (hl:listed.getD i false=false) {o:Oper} (ho:ops[i]? = some o) (he:∀k∈bp o,listed.getD k false=true)
 {t:Nat} (ht:t∈dh ops listed post):t ∉ cd ops.toList o/\o.dst≠some t:=by
 obtain⟨j,hj,hlj,oj,hoj,hd⟩:=mem_pendB.1 ht;have hji:i≠j:=fun h=>by subst h; rw[hl]at hlj; cases hlj
 have hjpre:j ∉ pre:=fun h=>ll hL hLs j h hj
 have hcl:∀k,Nat.testBit ((cT ops.toList []).getD j 0) k=true->listed.getD k false=true :=
  cI (ops:=ops.toList) (S:=fun k=>listed.getD k false=true) (fun k ok hk hs m hm=>hb.cl k ok (by simpa using hk) hs m hm) j oj (by simpa using hoj) (hb.cl j oj hoj hlj)
 refine⟨fun hx=>?_,fun hx=>?_⟩
 . rcases hL.apart i j o oj ho hoj hji t hd (.inl hx)with h1 | ⟨_,h1⟩
   . exact hjpre (wg hL hLs hi h1)
   . have:=hcl i h1; rw[hl]at this; cases this
 . rcases hL.apart j i oj o hoj ho hji.symm t hx (.inr hd)with h1 | ⟨_,h1⟩
   . have:=hcl i h1; rw[hl]at this; cases this
   . exact hjpre (wg hL hLs hi h1)
theorem uy (hL:DOk ops L) (hLs:L=pre++post) (hb:tH X ops listed lv a w0 w I ρ H pre post) {r:List Nat} {i:Nat} (hi:i∈pre\/post=i::r) (hl:listed.getD i false=false) {o:Oper} (ho:ops[i]? = some o)
 {j:Nat} (hj:j∈post) (hlj:listed.getD j false=true) {oj:Oper} (hoj:ops[j]? = some oj) {t:Nat} (ht:Operand.tmp t∈oj.op.operands):o.dst≠some t:=fun hx=>by
 have hji:j≠i:=fun h=>by subst h; rw[hl]at hlj; cases hlj
 have hjpre:j ∉ pre:=fun h=>ll hL hLs j h hj
 have hcl:∀k,Nat.testBit ((cT ops.toList []).getD j 0) k=true->listed.getD k false=true :=
  cI (ops:=ops.toList) (S:=fun k=>listed.getD k false=true) (fun k ok hk hs m hm=>hb.cl k ok (by simpa using hk) hs m hm) j oj (by simpa using hoj) (hb.cl j oj hoj hlj)
 rcases hL.apart j i oj o hoj ho hji t hx (.inl (DE ht))with h1 | ⟨_,h1⟩
 . have:=hcl i h1; rw[hl]at this; cases this
 . exact hjpre (wg hL hLs hi h1)
theorem BV (hX:CtxOk X) (hL:DOk ops L):∀(n:Nat) (lv:Array Bool) (pre post:List Nat) (recs:List (Nat × Bool)) (e:Env) (H:List O) (ρ:List Pl),post.length<=n->X.k<=ρ.length ->
 DInv X ops K L I0 ρ0 H0 w0 a0 (dh ops listed post) lv a w pre post recs e H I ρ->tH X ops listed lv a w0 w I ρ H pre post ->
 ∃lv' pre' post' recs' e' H' ρ', DInv X ops K L I0 ρ0 H0 w0 a0 (dh ops listed post') lv' a w pre' post' recs' e' H' I ρ'/\tH X ops listed lv' a w0 w I ρ' H' pre' post' /\
  (post' = [] \/ ∃i r o,post'=i::r/\ops[i]? = some o/\loud o=true/\listed.getD i false=false):=by
 intro n;induction n with
 | zero =>
  intro lv pre post recs e H ρ hn hk h hb;have:post = []:=List.eq_nil_of_length_eq_zero (by omega)
  exact⟨lv,pre,post,recs,e,H,ρ,h,hb,.inl this⟩
 | succ n ih =>
  intro lv pre post recs e H ρ hn hk h hb;obtain⟨pre1,post1,recs1,e1,q,h1,hd,hq,hp,hql⟩:=h.advance hL;subst hq hp;have hqn:∀i∈q,listed.getD i false=false:=fun i hi=>by
   cases hx:listed.getD i false with
   | false=>rfl
   | true =>
    obtain⟨o,ho,hlo⟩:=hql i hi;have:=((hb.it i (by simp[hi]) hx).op ho).2
    rw[hlo]at this; cases this
  have hM:dh ops listed (q++post1)=dh ops listed post1:=by
   unfold dh;rw[List.filter_append,List.filter_eq_nil_iff.2 (fun i hi=>by rw[hqn i hi]; simp),List.nil_append]
  rw[hM]at h1;have hb1:tH X ops listed lv a w0 w I ρ H (pre++q) post1:=by
   refine⟨hb.sz,fun i hi=>?_,hb.cl,fun i hi=>hb.it i (by simp[hi]),fun i hi j hj=>hb.inj i (by simp[hi]) j (by simp[hj])⟩
   rcases List.mem_append.1 hi with hi | hi
   . exact hb.eq i hi
   . rw[hqn i hi]; exact h.unl i (by simp[hi])
  rcases hd with rfl | ⟨i,r,o,rfl,ho,hlo⟩
  . exact⟨lv,_,_,_,_,_,_,h1,hb1,.inl rfl⟩
  . cases hx:listed.getD i false with
    | false=>exact⟨lv,_,_,_,_,_,_,h1,hb1,.inr ⟨i,r,o,rfl,ho,hlo,hx⟩⟩
    | true =>
     obtain⟨o', d,b,c,g1,gb,g3,g4,g6,g7,g8,g9,gE,g12,g13⟩:=hb1.it i (by simp) hx
     rw[ho]at g1; cases g1;have hLs:L=(pre++q)++i::r:=h1.hL;obtain⟨hnpre,hnr⟩:=B7 hL hLs;have hev:∀k∈bp o,lv.getD k false=true:=fun k hk=>by
      rw[hb1.eq k (we hL hLs (.inr rfl) ho k hk)];exact hb1.cl i o ho hx k hk
     have hC:=h1.C;unfold iY at hC;simp only[show ops.toList[i]? = some o by simpa using ho,g4]at hC
     unfold C4 at hC;simp only[hlo]at hC;have hC:=(fU hC).1;unfold IG at hC;simp only[hlo]at hC;unfold Iz at hC;simp only[(mn gb).1]at hC;have hlook:∀t∈cd ops.toList o,Env.get (gT (dh ops listed (i::r)++jO ops lv (pre++q)) e1) t=Env.get e1 t:=fun t ht=>h1.looks hL ho hev (fun _=>hnpre) ht fun hm=>by
      obtain⟨j,hj,hlj,oj,hoj,hdj⟩:=mem_pendB.1 hm;have hbj:bL oj=true:=((hb1.it j hj hlj).op hoj).1;have htx:Operand.tmp t∈o.op.operands:=by
       unfold cd at ht;rw[List.mem_append]at ht;rcases ht with ht | ht
       . obtain⟨x,hx1,hx2⟩:=List.mem_filterMap.1 ht;cases x<;>simp at hx2
         subst hx2; simpa using hx1
       . simp[g4]at ht
      by_cases hij:i=j
      . subst hij;rw[ho]at hoj; cases hoj;exact hL.bself i o ho gb t hdj htx
      . have hD:=hL.blook i j o oj ho hoj hij gb hbj t hdj htx;have:=hL.D_pre (p:=pre++q) (q:=r) (i:=i) hLs hD;exact ll hL hLs j this hj
     have hmask:=h1.mask;obtain⟨v,ob,p,hK,hpb,hvu,hor,hone⟩:=gE I ρ H w e1 _ h1.st g9 (fun x hx' => by
      rw[c8 hlook x hx']; exact aE hmask x) hC
     unfold fM at hK;simp only[g3]at hK;simp only[show Nat.blt d X.n=true by exact Nat.ble_eq_true_of_le g6]at hK
     obtain⟨hC', hall⟩:=gy recs1 hK;have hcl:=cI (ops:=ops.toList) (S:=fun k=>lv.getD k false=true) (fun k ok hk hs m hm=>h1.cl k ok (by simpa using hk) hs m hm) i o (by simpa using ho) hev
     have hbit:∀j,lv.getD j false=false->Nat.testBit ((cT ops.toList []).getD i 0) j=false:=fun j hj=>by
      cases hb' : Nat.testBit ((cT ops.toList []).getD i 0) j with
      | false=>rfl
      | true=>have:=hcl j hb'; rw[hj]at this; cases this
     have hst:=h1.st;have e1' : (ρ ++ [p])[H.length]? = some p:=by rw[<-hst.len]; simp
     have e2' : (H ++ [ob])[H.length]? = some ob:=by simp
     have e3' : ∀(i:Nat) (x:O),i≠H.length->(H ++ [ob])[i]? = some x->H[i]? = some x:=by
      intro i x hi hx;have hlt:=(liZ.1 hx).1;simp at hlt
      rwa [List.getElem?_append_left (by omega)]at hx
     have e4' : ∀(i:Nat) (p' : Pl),i≠H.length->(ρ ++ [p])[i]? = some p'->ρ[i]? = some p' := by
      intro i p' hi hp;have hlt:=(liZ.1 hp).1;simp[hst.len]at hlt
      rwa [List.getElem?_append_left (by rw[hst.len]; omega)]at hp
     have hst' : St I (ρ ++ [p]) (H ++ [ob]) w:=by
      refine hst.one H.length p ob (by simp[hst.len]) (PLe.append _ _) e1' e2' (fun i x hi hx=>.inr (e3' i x hi hx)) e4' (fun _ _ _=>rfl) (fun _=>rfl) (fun _ i p' x hi hp hx hh=>?_) (fun _=>by rw[hpb]; exact g13) hor hone
      rw[hpb]at hh;exact g12 ⟨i,p', x,hp,e3' i x hi hx,hh⟩
     have hown' : ∀b', az (ρ ++ [p]) (H ++ [ob]) b'->az ρ H b'\/b'=b:=by
      rintro b' ⟨i,p', x,hp,hx,hh⟩;by_cases hi:i=H.length
      . subst hi; rw[e1']at hp; rw[e2']at hx; cases hp; cases hx; exact .inr (by rw[<- (hone b' hh).2,hpb])
      . exact .inl ⟨i,p', x,e4' i p' hi hp,e3' i x hi hx,hh⟩
     have hstep:Step X.k I0 ρ0 H0 w0 I (ρ ++ [p]) (H ++ [ob]) w:=by
      have s:=h1.step;refine⟨s.ile,fun i hi=>?_,s.os,s.tape,s.output,s.size,s.frame,fun b' hb' => ?_,s.imm⟩
      . rw[List.getElem?_append_left (by omega)]; exact s.take i hi
      . rcases hown' b' hb' with h2 | rfl
        . exact s.own b' h2
        . exact .inr g8
     have hput:a.put (some d) (a.tmps.getD d undef)=a:=by
      have hd' : d<a.tmps.size:=by rw[h1.as]; exact g6
      have hg:a.tmps.getD d undef=a.tmps[d]:=by unfold Array.getD; rw[dif_pos hd']; rfl
      have:a.tmps.setIfInBounds d (a.tmps.getD d undef)=a.tmps:=by
       apply Array.ext (by simp)
       intro k hk1 hk2;by_cases hkd:d=k
       . subst hkd;rw[Array.getElem_setIfInBounds_self,<-hg]
       . rw[Array.getElem_setIfInBounds,if_neg hkd]
      show({ tmps:=a.tmps.setIfInBounds d (a.tmps.getD d undef),defers:=a.defers }:Act)=a
      rw[this]
     have hn' := h1.next hL ho hev (u:=a.tmps.getD d undef) (v:=v) (e' := (d,v)::e1) (I' := I) (w' := w) (ran:=true) hC'
      (fun j rj hj hran hlj oj hoj hrd=>hall j rj hj hran (hbit j hlj) oj hoj hrd)
      (fun t' ht' => eY fun hh=>ht' (by rw[g3,hh])) (fun d' hd' => by rw[g3]at hd'; cases hd'; exact⟨g6,ko⟩)
      hvu hst' (h1.mask.mono (ILe.refl _) (PLe.append _ _)) hstep (M' := dh ops listed r) (fun t' ht' => by
       obtain⟨j,hj,hlj,oj,hoj,hdj⟩:=mem_pendB.1 ht';rcases List.mem_cons.1 hj with rfl | hj
       . rw[ho]at hoj; cases hoj; exact .inr hdj
       . exact .inl (mem_pendB.2 ⟨j,hj,hlj,oj,hoj,hdj⟩))
     rw[g3,hput]at hn';refine ih _ _ _ _ _ _ _ (by simp at hn; omega) (by simp; omega) hn' ?_
     have hlt:i<lv.size:=by rw[h1.sz]; exact(Array.getElem?_eq_some_iff.1 ho).1
     refine⟨hb.sz,fun j hj=>?_,hb.cl,fun j hj hlj=>?_,fun j hj k hk=>hb1.inj j (by simp[hj]) k (by simp[hk])⟩
     . rw[aF hlt];by_cases hji:j=i
       . rw[if_pos hji,hji,hx]
       . rw[if_neg hji];rcases List.mem_append.1 hj with hj | hj
         . exact hb1.eq j hj
         . simp at hj; exact absurd hj hji
     . refine(hb1.it j (by simp[hj]) hlj).of (fun _ _ _ _=>rfl) (fun _ _ _ _=>rfl) fun b' hb' hn' hi' ⟨oj,dj,hoj,hdj,hbj⟩=>⟨rfl,fun ho' => ?_,hi'⟩
       rcases hown' b' ho' with h2 | rfl
       . exact hn' h2
       . have hij:i≠j:=fun hij=>hnr (hij ▸ hj)
         exact hb1.inj i (by simp) j (by simp[hj]) hx hlj hij o oj d dj ho hoj g3 hdj (by rw[g7,hbj])
end
theorem Dg {X:dI} (hX:CtxOk X) (hstab:X.stab=true) {ops:Array Oper} {K:Env->List O->Prop} {L:List Nat} (hL:DOk ops L) (hbk:AH X.T X.n ops.toList=true) {I0:aU} {ρ0:List Pl} {H0:List O} {w0:World} {a0:Act} (hk:X.k<=ρ0.length) {F:Fence} {n:Nat} (hF:Wide F) {Q:Exit->Act->World->Prop}
 (hQ:∀I' ρ' e' H' w' (a' : Act),K e' H'->St I' ρ' H' w'->ERel I' ρ' e' a'.tmps->a'.tmps.size=X.n->a'.defers=a0.defers->Step X.k I0 ρ0 H0 w0 I' ρ' H' w'->Q .normal a' w') :
 ∀(fuel:Nat) (listed lv:Array Bool) (a:Act) (w:World) (pre post:List Nat) (recs:List (Nat × Bool)) (e:Env) (H:List O) (I:aU) (ρ:List Pl),DInv X ops K L I0 ρ0 H0 w0 a0 (dh ops listed post) lv a w pre post recs e H I ρ ->
 tH X ops listed lv a w0 w I ρ H pre post->(post = [] \/ ∃i r o,post=i::r/\ops[i]? = some o/\loud o=true/\listed.getD i false=false)->(L.filter fun i=>!listed.getD i false).length<=fuel->wpAnyIn F n X.P .any ops Q fuel listed a w:=by
 have fin:∀(listed lv:Array Bool) (a:Act) (w:World) (pre post:List Nat) (recs:List (Nat × Bool)) (e:Env) (H:List O) (I:aU) (ρ:List Pl),DInv X ops K L I0 ρ0 H0 w0 a0 (dh ops listed post) lv a w pre post recs e H I ρ ->
  tH X ops listed lv a w0 w I ρ H pre post->(post = [] \/ ∃i r o,post=i::r/\ops[i]? = some o/\loud o=true/\listed.getD i false=false)->(∀i∈L,listed.getD i false=true)->Q .normal a w:=by
  intro listed lv a w pre post recs e H I ρ h hb hd hall;have hpost:post = []:=by
   rcases hd with hd | ⟨i,r,o,rfl,ho,hlo,hx⟩
   . exact hd
   . have:=hall i (by rw[h.hL]; simp)
     rw[hx]at this; cases this
  subst hpost;obtain⟨f1,f2,f3⟩:=h.finish (fun i hi=>by rw[hb.eq i hi]; exact hall i (by rw[h.hL]; simp[hi]))
  exact hQ I ρ e H w a f1 f2 f3 h.as h.df h.step
 intro fuel;induction fuel with
 | zero =>
  intro listed lv a w pre post recs e H I ρ h hb hd hc;have hall:∀i∈L,listed.getD i false=true:=fun i hi=>by
   cases hx:listed.getD i false with
   | true=>rfl
   | false =>
    have:i∈L.filter fun i=>!listed.getD i false:=List.mem_filter.2 ⟨hi,by simp[hx]⟩
    have h0:(L.filter fun i=>!listed.getD i false) = []:=List.eq_nil_of_length_eq_zero (by omega)
    rw[h0]at this;simp at this
  refine⟨?_,fin listed lv a w pre post recs e H I ρ h hb hd hall⟩;apply List.eq_nil_iff_forall_not_mem.2;intro i hi;obtain⟨o,ho,hl,_⟩:=(ph hb.sz).1 hi;have:=hall i (hL.all i (Array.getElem?_eq_some_iff.1 ho).1);rw[hl]at this; cases this
 | succ fuel ih =>
  intro listed lv a w pre post recs e H I ρ h hb hd hc;refine⟨fun hr=>?_,fun i hi=>?_⟩
  . exact fin listed lv a w pre post recs e H I ρ h hb hd (C0 hL hb.sz hr)
  . obtain⟨o,ho,hl,he⟩:=(ph hb.sz).1 hi;have hlt:i<ops.size:=(Array.getElem?_eq_some_iff.1 ho).1;have hiL:i∈L:=hL.all i hlt;have hfuel:∀listed' : Array Bool,listed'=listed.setIfInBounds i true->(L.filter fun j=>!listed'.getD j false).length<=fuel:=by
     rintro listed' rfl;have:=yz (L:=L) (f:=fun j=>!listed.getD j false) (g:=fun j=>!(listed.setIfInBounds i true).getD j false) (fun j hj=>by
      rw[aF (by rw[hb.sz]; exact hlt)]at hj
      split at hj
      . simp at hj
      . exact hj) hiL (by simp[hl]) (by rw[aF (by rw[hb.sz]; exact hlt)]; simp)
     omega
    have htup:VRel I ρ (.tup []) undef:=.tup _ _ _ rfl (fun i a u ha=>by simp at ha)
    have hmask:=h.mask;unfold wpOpIn;simp only[ho];rw[h.hL]at hiL;have hlt' : i<listed.size:=by rw[hb.sz]; exact hlt
    have hltv:i<lv.size:=by rw[h.sz]; exact hlt
    have hpend:∀po:List Nat,i ∉ po->dh ops (listed.setIfInBounds i true) po=dh ops listed po:=fun po hpo=>by
     unfold dh;rw[List.filter_congr (fun j hj=>by rw[aF hlt', if_neg (show ¬j=i from fun hji=>hpo (hji ▸ hj))])]
    have hcl' : ∀(j:Nat) (oj:Oper),ops[j]? = some oj->(listed.setIfInBounds i true).getD j false=true -> ∀k∈bp oj,(listed.setIfInBounds i true).getD k false=true:=by
     intro j oj hoj hlj k hk;rw[aF hlt']at hlj ⊢;by_cases hki:k=i
     . rw[if_pos hki]
     . rw[if_neg hki];by_cases hji:j=i
       . subst hji;rw[ho]at hoj; cases hoj;exact he k hk
       . rw[if_neg hji]at hlj;exact hb.cl j oj hoj hlj k hk
    rcases List.mem_append.1 hiL with hpre | hpost
    ·
     have hq:loud o=false:=by
      cases hlo:loud o with
      | false=>rfl
      | true =>
       have:=h.lst i hpre o ho hlo;rw[hb.eq i hpre,hl]at this; cases this
     have hlv:lv.getD i false=false:=by rw[hb.eq i hpre,hl]
     have hev:∀k∈bp o,lv.getD k false=true:=fun k hk=>by
      rw[hb.eq k (we hL h.hL (r:=[]) (.inl hpre) ho k hk)]; exact he k hk
     have hap:=fun t=>rR hL h.hL hb (r:=[]) (.inl hpre) hl ho he (t:=t)
     have hnpost:i ∉ post:=ll hL h.hL i hpre;have hbank:∀u,tH X ops (listed.setIfInBounds i true) (lv.setIfInBounds i true) (a.put o.dst u) w0 w I ρ H pre post:=fun u=>by
      have hne:∀j∈post,j≠i:=fun j hj hji=>hnpost (hji ▸ hj)
      have hput:∀j∈post,listed.getD j false=true -> ∀oj dj,ops[j]? = some oj->oj.dst=some dj->(a.put o.dst u).tmps.getD dj undef=a.tmps.getD dj undef:=fun j hj hlj oj dj hoj hdj =>
       om (hap dj (mem_pendB.2 ⟨j,hj,hlj,oj,hoj,hdj⟩)).2
      refine⟨by simp[hb.sz],fun j hj=>?_,hcl', fun j hj hlj=>?_,fun j hj k hk hlj hlk hjk oj ok dj dk hoj hok hdj hdk=>?_⟩
      . rw[aF hlt', aF hltv];by_cases hji:j=i
        . rw[if_pos hji,if_pos hji]
        . rw[if_neg hji,if_neg hji]; exact hb.eq j hj
      . rw[aF hlt', if_neg (hne j hj)]at hlj;exact(hb.it j hj hlj).of (fun oj dj hoj hdj=>hput j hj hlj oj dj hoj hdj) (fun oj t hoj ht=>om (uy hL h.hL hb (r:=[]) (.inl hpre) hl ho hj hlj hoj ht)) fun b hb' hn' hi' _=>⟨rfl,hn', hi'⟩
      . rw[aF hlt', if_neg (hne j hj)]at hlj;rw[aF hlt', if_neg (hne k hk)]at hlk;rw[hput j hj hlj oj dj hoj hdj,hput k hk hlk ok dk hok hdk];exact hb.inj j hj k hk hlj hlk hjk oj ok dj dk hoj hok hdj hdk
     have hrec:∃ran,(i,ran)∈recs:=by
      have:i∈recs.map (·.1):=by rw[h.hr]; simpa using hpre
      obtain⟨⟨j,ran⟩,h1,h2⟩:=List.mem_map.1 this;exact⟨ran,by simp at h2; subst h2; exact h1⟩
     obtain⟨ran,hrec⟩:=hrec;obtain⟨o', q1,q2,q3,q4⟩:=h.pf i ran hrec hlv;have:o'=o:=by rw[show ops.toList[i]? = some o by simpa using ho]at q1; exact(Option.some.inj q1).symm
     subst this;have hlook:∀t∈cd ops.toList o', Env.get (gT (dh ops listed post++jO ops lv pre) e) t=Env.get e t:=fun t ht=>h.looks hL ho hev (fun hlo=>by rw[hq]at hlo; cases hlo) ht (fun hm=>(hap t hm).1 ht)
     have hwant:Region.wanted o' (yielded ops a.tmps)=ran:=by
      unfold Region.wanted;cases hg:o'.guard with
      | none=>rw[hg]at q3; simp only; exact q3.symm
      | some jw =>
       obtain⟨j,want⟩:=jw;rw[hg]at q3;obtain⟨d,hdj,hcase⟩:=q3;have hdj' : (ops[j]?).bind (·.dst)=some d:=by simpa using hdj
       have hgd:=hlook d (jb hg hdj);rcases hcase with⟨b,hb,hran⟩ | ⟨hb,hran⟩
       . rw[<-hgd]at hb;simp only[iW hdj' hb hmask];rw[hran];cases b<;>cases want<;>rfl
       . rw[<-hgd]at hb;simp only[jn hdj' hb hmask];rw[hran]; rfl
     have hnd:ran=true -> ∀c,o'.op ≠ .defer c:=by
      intro hran c hc;cases hdst:o'.dst with
      | none =>
       rw[hdst]at q4;obtain⟨v,hv⟩:=q4 hran;rw[hc]at hv; simp[aq]at hv
      | some d =>
       rw[hdst]at q4;have:=q4.2.1 hran;rw[hc]at this; simp[aq]at this
     rw[hwant];cases ran with
     | true =>
      rw[if_pos rfl];have haq:∃v,aq X.T o'.op (gT (dh ops listed post++jO ops lv pre) e) H (fun u=>u=v) /\ ∀d,o'.dst=some d->d<X.n/\Env.get e d=v:=by
       cases hdst:o'.dst with
       | none =>
        rw[hdst]at q4;obtain⟨v,hv⟩:=q4 rfl;exact⟨v,by rw[<-eN (c8 hlook)]; exact hv,by simp⟩
       | some d =>
        rw[hdst]at q4;refine⟨Env.get e d,by rw[<-eN (c8 hlook)]; exact q4.2.1 rfl,fun d' hd' => ?_⟩
        cases hd'; exact⟨q4.1,rfl⟩
      obtain⟨v,hv,hvd⟩:=haq;obtain⟨v', rfl,hok⟩:=rO hX.T o' hv;obtain⟨u,hrun,hrel⟩:=hok I ρ w a h.st hmask;refine⟨fun f _=>hF.fn f,?_⟩
      rw[gD _ _ _ (hnd rfl),hrun];have hn:=h.done hL ho hpre hev (u:=u) (fun d hdst=>⟨(hvd d hdst).1,by rw[(hvd d hdst).2]; exact hrel⟩)
      rw[<-hpend post hnpost]at hn;refine ih _ _ _ _ pre post recs e H I ρ hn (hbank _) ?_ (hfuel _ rfl);rcases hd with hd | ⟨i0,r,o0,hp,h1,h2,h3⟩
      . exact .inl hd
      . exact .inr ⟨i0,r,o0,hp,h1,h2,by rw[aF hlt', if_neg (fun hji=>hnpost (by rw[hp,<-hji]; simp))]; exact h3⟩
     | false =>
      rw[if_neg (by simp)]
      refine⟨fun f _=>hF.fn f,?_⟩
      have hn:=h.done hL ho hpre hev (u:=undef) (fun d hdst=>by
       rw[hdst]at q4;exact⟨q4.1,by rw[q4.2.2 rfl]; exact htup⟩)
      rw[<-hpend post hnpost]at hn;refine ih _ _ _ _ pre post recs e H I ρ hn (hbank _) ?_ (hfuel _ rfl);rcases hd with hd | ⟨i0,r,o0,hp,h1,h2,h3⟩
      . exact .inl hd
      . exact .inr ⟨i0,r,o0,hp,h1,h2,by rw[aF hlt', if_neg (fun hji=>hnpost (by rw[hp,<-hji]; simp))]; exact h3⟩
    ·
     rcases hd with rfl | ⟨i0,r,o0,rfl,ho0,hlo0,hx0⟩
     . simp at hpost
     by_cases hii:i=i0
     rotate_left
     ·
      have hir:i∈r:=by
       rcases List.mem_cons.1 hpost with h1 | h1
       . exact absurd h1 hii
       . exact h1
      have hclr:=cI (ops:=ops.toList) (S:=fun k=>listed.getD k false=true) (fun k ok hk hs m hm=>hb.cl k ok (by simpa using hk) hs m hm) i o (by simpa using ho) he
      have hbo:bL o=true:=by
       rcases hL.loud pre i0 r h.hL o0 ho0 hlo0 i hir with h1 | h1
       . have h2:=hclr i0 h1;rw[hx0]at h2; cases h2
       . unfold vU at h1;rw[show ops.toList[i]? = some o by simpa using ho]at h1
         exact h1
      have hnpre' : i ∉ pre:=fun hp=>ll hL h.hL i hp (by simp[hir])
      have hCb:=h.C;unfold iY at hCb;simp only[show ops.toList[i0]? = some o0 by simpa using ho0]at hCb
      unfold C4 at hCb;simp only[hlo0]at hCb;have hbitf:Nat.testBit ((cT ops.toList []).getD i 0) i0=false:=by
       cases hbt:Nat.testBit ((cT ops.toList []).getD i 0) i0 with
       | false=>rfl
       | true=>have h2:=hclr i0 hbt; rw[hx0]at h2; cases h2
      obtain⟨hfit,hedge⟩:=(fU hCb).2 i hir o (by simpa using ho) hbitf
      have hok1:lR X.T X.n o=true:=by
       unfold AH at hbk;rw[List.all_eq_true]at hbk;exact hbk o (List.mem_of_getElem? (i:=i) (by simpa using ho))
      obtain⟨d,u,c,hd,hg,hdn,hnd,hrun,hblk,hEOk⟩:=Dl (I:=I) (ρ:=ρ) (H:=H) (w:=w) (a:=a) hX hstab hbo hok1 hfit (fun hbs x hx' => by
       have hed:=hedge hbs;have hepre:∀k∈bp o,lv.getD k false=true:=fun k hk=>by
        have hkL:k∈L:=hL.all k (by
         have hlk:=he k hk;rcases Nat.lt_or_ge k ops.size with h2 | h2
         . exact h2
         . rw[Array.getD_eq_getD_getElem?,Array.getElem?_eq_none (by rw[hb.sz]; exact h2)]at hlk
           simp at hlk)
        rw[h.hL]at hkL;rcases List.mem_append.1 hkL with hkp | hkp
        . rw[hb.eq k hkp]; exact he k hk
        . exact absurd hkp (hed k hk)
       have hcl2:=cI (ops:=ops.toList) (S:=fun k=>lv.getD k false=true) (fun k ok hk hs m hm=>h.cl k ok (by simpa using hk) hs m hm) i o (by simpa using ho) hepre
       have hlook:∀t∈cd ops.toList o,Env.get (gT (dh ops listed (i0::r)++jO ops lv pre) e) t=Env.get e t:=fun t ht=>h.looks hL ho hepre (fun _=>hnpre') ht fun hm=>by
        obtain⟨j,hj,hlj,oj,hoj,hdj⟩:=mem_pendB.1 hm;have hbj:bL oj=true:=((hb.it j hj hlj).op hoj).1;have hij:i≠j:=fun hij=>by subst hij; rw[hl]at hlj; cases hlj
        have htx:Operand.tmp t∈o.op.operands:=by
         have hgn:o.guard=none:=by
          unfold bL at hbo;split at hbo<;>first | assumption | (cases hbo; done)
         unfold cd at ht;rw[List.mem_append]at ht;rcases ht with ht | ht
         . obtain⟨x,hx1,hx2⟩:=List.mem_filterMap.1 ht;cases x<;>simp at hx2
           subst hx2; simpa using hx1
         . simp[hgn]at ht
        have hD:=hL.blook i j o oj ho hoj hij hbo hbj t hdj htx;have h2:=hcl2 j hD;rw[h.unl j hj]at h2; cases h2
       rw[c8 hlook x hx']; exact aE hmask x)
      rw[show Region.wanted o (yielded ops a.tmps)=true by simp[Region.wanted,hg],if_pos rfl]
      refine⟨fun f _=>hF.fn f,?_⟩
      rw[gD _ _ _ hnd];rw[hrun];have hst:=h.st;have hfr:∀b,b<w.heap.size->(w.heap.push c)[b]? = w.heap[b]?:=fun b hb' => by rw[Array.getElem?_push,if_neg (by omega)]
      have hst' : St I ρ H { w with heap:=w.heap.push c }:=by
       refine⟨hst.len,fun j p x hp hx=>(hst.obj j p x hp hx).keep (fun b hh=>hfr _ (hst.lt ⟨j,p,x,hp,hx,hh⟩)) (ILe.refl _) (PLe.refl _),hst.inj,⟨fun b q v hv=>?_,hst.imm.glob⟩,hst.sep⟩
       rw[<-hst.imm b q v hv];exact World.cell?_of_block (w:=w) (hfr b (hst.imm_lt hv))
      have hs1:Step X.k I ρ H w I ρ H { w with heap:=w.heap.push c } :=
       ⟨ILe.refl _,fun _ _=>rfl,rfl,rfl,rfl,by simp,fun b hb' _=>hfr b hb', fun _ h=>.inl h,fun _ _ _ h=>.inl h⟩
      have hbd:∀j∈i0::r,listed.getD j false=true -> ∀oj dj,ops[j]? = some oj->oj.dst=some dj->dj≠d:=fun j hj hlj oj dj hoj hdj hdd=>by
       subst hdd;have hji:j≠i:=fun hji=>by subst hji; rw[hl]at hlj; cases hlj
       exact hL.bdist j i oj o hoj ho hji ((hb.it j hj hlj).op hoj).1 hbo dj hdj hd
      have hput:∀t', t'≠d->(a.put o.dst u).tmps.getD t' undef=a.tmps.getD t' undef:=fun t' ht' => om (by rw[hd]; simp; exact fun h=>ht' h.symm)
      have hputd:(a.put o.dst u).tmps.getD d undef=u:=by
       rw[hd]; simp[Act.put,h.as,hdn]
      refine ih _ lv _ _ pre (i0::r) recs e H I ρ ?_ ?_ (.inr ⟨i0,r,o0,rfl,ho0,hlo0,by rw[aF hlt', if_neg (fun h=>hii h.symm)]; exact hx0⟩) (hfuel _ rfl)
      . refine { h with st:=hst', step:=h.step.trans hs1,as:=?_,df:=?_,er:=fun t' hm ht' => ?_ }
        . have htd:t'≠d:=fun htd=>hm (mem_pendB.2 ⟨i,by simp[hir],by rw[aF hlt', if_pos rfl],o,ho,by rw[hd,htd]⟩)
          rw[hput t' htd];refine h.er t' (fun hm' => hm ?_) ht'
          obtain⟨j,hj,hlj,oj,hoj,hdj⟩:=mem_pendB.1 hm';exact mem_pendB.2 ⟨j,hj,by rw[aF hlt']; split; rfl; exact hlj,oj,hoj,hdj⟩
        . show(a.put o.dst _).tmps.size=X.n
          rw[hd]; simp[Act.put,h.as]
        . show(a.put o.dst _).defers=a0.defers
          rw[hd]; exact h.df
      . refine⟨by simp[hb.sz],fun j hj=>?_,hcl', fun j hj hlj=>?_,fun j hj k hk hlj hlk hjk oj ok dj dk hoj hok hdj hdk=>?_⟩
        . rw[aF hlt', if_neg (show ¬j=i from fun hji=>hnpre' (hji ▸ hj))]; exact hb.eq j hj
        . rw[aF hlt']at hlj;by_cases hji:j=i
          . subst hji;refine⟨o,d,w.heap.size,c,ho,hbo,hd,hg,hdn,by rw[hputd]; exact hblk,h.step.size,by simp,?_,fun ho' => ?_,fun q=>?_⟩
            . rw[hputd];exact hEOk.congr fun x hx' => Cc fun t' ht' => hput t' fun htd=>by
               subst htd; subst ht';exact hL.bself _ o ho hbo _ hd hx'
            . have:=hst.lt ho'; omega
            . cases hv:I w.heap.size q with
              | none=>rfl
              | some v=>have:=hst.imm_lt hv; omega
          . rw[if_neg hji]at hlj;exact((hb.it j hj hlj).step hs1).of (fun oj dj hoj hdj=>hput dj (hbd j hj hlj oj dj hoj hdj)) (fun oj t' hoj ht' => hput t' fun htd=>by
             subst htd;have hbj:bL oj=true:=((hb.it j hj hlj).op hoj).1;have hD:=hL.blook j i oj o hoj ho hji hbj hbo _ hd ht';have hcl3:=cI (ops:=ops.toList) (S:=fun k=>listed.getD k false=true) (fun k ok hk hs m hm=>hb.cl k ok (by simpa using hk) hs m hm) j oj (by simpa using hoj) (hb.cl j oj hoj hlj)
             have h2:=hcl3 i hD;rw[hl]at h2; cases h2) fun b hb' hn' hi' _=>⟨rfl,hn', hi'⟩
        . have hlow:∀j∈i0::r,listed.getD j false=true -> ∀oj dj,ops[j]? = some oj->oj.dst=some dj->Jc (a.tmps.getD dj undef)≠Jc u:=fun j hj hlj oj dj hoj hdj hh=>by
           obtain⟨o', d', b', c', q1,q2,q3,q4,q5,q6,q7,q8,_⟩:=hb.it j hj hlj;rw[hoj]at q1; cases q1;rw[hdj]at q3; cases q3;rw[q6,hblk]at hh;cases hh;have:=(Array.getElem?_eq_some_iff.1 q8).1;omega
          rw[aF hlt']at hlj hlk;by_cases hji:j=i
          . subst hji;rw[if_neg (fun h=>hjk h.symm)]at hlk
            rw[ho]at hoj; cases hoj;rw[hd]at hdj; cases hdj;rw[hputd,hput dk (hbd k hk hlk ok dk hok hdk)];exact fun hh=>hlow k hk hlk ok dk hok hdk hh.symm
          . rw[if_neg hji]at hlj;by_cases hki:k=i
            . subst hki;rw[ho]at hok; cases hok;rw[hd]at hdk; cases hdk;rw[hputd,hput dj (hbd j hj hlj oj dj hoj hdj)];exact hlow j hj hlj oj dj hoj hdj
            . rw[if_neg hki]at hlk;rw[hput dj (hbd j hj hlj oj dj hoj hdj),hput dk (hbd k hk hlk ok dk hok hdk)];exact hb.inj j hj k hk hlj hlk hjk oj ok dj dk hoj hok hdj hdk
     subst hii;rw[ho]at ho0; cases ho0;obtain⟨hnpre,hnr⟩:=B7 hL h.hL;have hev:∀k∈bp o,lv.getD k false=true:=fun k hk=>by
      rw[hb.eq k (we hL h.hL (.inr rfl) ho k hk)]; exact he k hk
     have hap:=fun t=>rR hL h.hL hb (.inr rfl) hl ho he (t:=t)
     have hcl:=cI (ops:=ops.toList) (S:=fun k=>lv.getD k false=true) (fun k ok hk hs m hm=>h.cl k ok (by simpa using hk) hs m hm) i o (by simpa using ho) hev
     have hpr:dh ops listed (i::r)=dh ops listed r:=by
      unfold dh;rw[List.filter_cons,hl]; rfl
     have hbank:∀u I' ρ' H' w', Step X.k I ρ H w I' ρ' H' w'->tH X ops (listed.setIfInBounds i true) (lv.setIfInBounds i true) (a.put o.dst u) w0 w' I' ρ' H' (pre ++ [i]) r:=fun u I' ρ' H' w' hs=>by
      have hne:∀j∈r,j≠i:=fun j hj hji=>hnr (hji ▸ hj)
      have hput:∀j∈r,listed.getD j false=true -> ∀oj dj,ops[j]? = some oj->oj.dst=some dj->(a.put o.dst u).tmps.getD dj undef=a.tmps.getD dj undef:=fun j hj hlj oj dj hoj hdj =>
       om (hap dj (mem_pendB.2 ⟨j,by simp[hj],hlj,oj,hoj,hdj⟩)).2
      refine⟨by simp[hb.sz],fun j hj=>?_,hcl', fun j hj hlj=>?_,fun j hj k hk hlj hlk hjk oj ok dj dk hoj hok hdj hdk=>?_⟩
      . rw[aF hlt', aF hltv];by_cases hji:j=i
        . rw[if_pos hji,if_pos hji]
        . rw[if_neg hji,if_neg hji];rcases List.mem_append.1 hj with hj | hj
          . exact hb.eq j hj
          . simp at hj; exact absurd hj hji
      . rw[aF hlt', if_neg (hne j hj)]at hlj;exact((hb.it j (by simp[hj]) hlj).step hs).of (fun oj dj hoj hdj=>hput j hj hlj oj dj hoj hdj) (fun oj t hoj ht=>om (uy hL h.hL hb (.inr rfl) hl ho (by simp[hj]) hlj hoj ht)) fun b hb' hn' hi' _=>⟨rfl,hn', hi'⟩
      . rw[aF hlt', if_neg (hne j hj)]at hlj;rw[aF hlt', if_neg (hne k hk)]at hlk;rw[hput j hj hlj oj dj hoj hdj,hput k hk hlk ok dk hok hdk];exact hb.inj j (by simp[hj]) k (by simp[hk]) hlj hlk hjk oj ok dj dk hoj hok hdj hdk
     have onward:∀u I' ρ' H' w' recs' e', Step X.k I ρ H w I' ρ' H' w'->X.k<=ρ'.length->DInv X ops K L I0 ρ0 H0 w0 a0 (dh ops listed r) (lv.setIfInBounds i true) (a.put o.dst u) w' (pre ++ [i]) r recs' e' H' I' ρ' ->
      wpAnyIn F n X.P .any ops Q fuel (listed.setIfInBounds i true) (a.put o.dst u) w' := fun u I' ρ' H' w' recs' e' hs hk' hn=>by
      rw[<-hpend r hnr]at hn;obtain⟨lv2,pre2,post2,recs2,e2,H2,ρ2,k1,k2,k3⟩:=BV hX hL r.length _ _ _ _ _ _ _ (Nat.le_refl _) hk' hn (hbank u I' ρ' H' w' hs);exact ih _ _ _ _ _ _ _ _ _ _ _ k1 k2 k3 (hfuel _ rfl)
     have hlook:∀t∈cd ops.toList o,Env.get (gT (dh ops listed (i::r)++jO ops lv pre) e) t=Env.get e t:=fun t ht=>h.looks hL ho hev (fun _=>hnpre) ht (fun hm=>(hap t hm).1 ht)
     have hC:=h.C;unfold iY at hC;simp only[show ops.toList[i]? = some o by simpa using ho]at hC
     unfold C4 at hC;simp only[hlo0]at hC;have hC:=(fU hC).1;have hbit:∀j,lv.getD j false=false->Nat.testBit ((cT ops.toList []).getD i 0) j=false:=fun j hj=>by
      cases hb:Nat.testBit ((cT ops.toList []).getD i 0) j with
      | false=>rfl
      | true=>have:=hcl j hb; rw[hj]at this; cases this
     have runs:∀e2:Env,(∀t,Env.get e2 t=Env.get e t)->IG X ops.toList (cT ops.toList []) i o recs e2 H (iY X ops.toList (cT ops.toList []) K r ((i,true)::recs)) ->
      o.wpIn F n X.P a w (wpAnyIn F n X.P .any ops Q fuel (listed.setIfInBounds i true)) Q:=by
      intro e2 h2 hdop;unfold IG at hdop;simp only[hlo0]at hdop;have hop:∀x∈o.op.operands,am e2 x=am (gT (dh ops listed (i::r)++jO ops lv pre) e) x:=fun x hx=>by
       have h3:=c8 hlook x hx;have h4:am e2 x=am e x:=by cases x<;>simp[am,h2]
       rw[h4,h3]
      have go:∀(u:Value) (v:V) (I' : aU) (ρ' : List Pl) (H' : List O) (w' : World),(fM X.n o.dst v e2 fun e' => jc X ops.toList ((cT ops.toList []).getD i 0) e' H' (iY X ops.toList (cT ops.toList []) K r ((i,true)::recs) e' H') recs) ->
       St I' ρ' H' w'->VRel I' ρ' v u->ERel I' ρ' (gT (dh ops listed (i::r)++jO ops lv pre) e) a.tmps->Step X.k I ρ H w I' ρ' H' w'->wpAnyIn F n X.P .any ops Q fuel (listed.setIfInBounds i true) (a.put o.dst u) w' := by
       intro u v I' ρ' H' w' hp g1 g2 g3 g4
       have fin:∀e' : Env,jc X ops.toList ((cT ops.toList []).getD i 0) e' H' (iY X ops.toList (cT ops.toList []) K r ((i,true)::recs) e' H') recs->(∀t,o.dst≠some t->Env.get e' t=Env.get e t)->(∀d,o.dst=some d->d<X.n/\Env.get e' d=v) ->
        wpAnyIn F n X.P .any ops Q fuel (listed.setIfInBounds i true) (a.put o.dst u) w' := by
        intro e' hre hg hv;obtain⟨hC', hall⟩:=gy recs hre;have hn:=h.next hL ho hev (u:=u) (v:=v) (ran:=true) hC' (fun j rj hj hran hlj oj hoj hrd=>hall j rj hj hran (hbit j hlj) oj hoj hrd) hg hv g2 g1 g3 (h.step.trans g4) (M' := dh ops listed r) (fun t ht=>.inl (by rwa [hpr]at ht))
        exact onward u I' ρ' H' w' _ _ g4 ((h.step.trans g4).klen hk) hn
       unfold fM at hp;cases hdst:o.dst with
       | none =>
        simp only[hdst]at hp;have:=fin e2 hp (fun t _=>h2 t) (by simp[hdst])
        rwa [hdst]at this
       | some d =>
        simp only[hdst]at hp;cases hb:Nat.blt d X.n with
        | false=>simp only[hb]at hp
        | true =>
         simp only[hb]at hp;have:=fin _ hp (fun t ht=>by rw[eY (fun h=>ht (by rw[hdst,h])),h2]) (fun d' hd' => by rw[hdst]at hd'; cases hd'; exact⟨aA hb,ko⟩)
         rwa [hdst]at this
      unfold Iz at hdop;cases heff:uR o.op with
      | true =>
       simp only[heff]at hdop;have hsw:=GF hstab hop hdop;refine xU hX hsw I ρ w a h.st hmask (h.step.klen hk) F n hF _ Q fun u v I' ρ' e1 H' w' hK g1 g2 g3 g4=>?_
       obtain⟨rfl,hK⟩:=hK;exact go u v I' ρ' H' w' hK g1 g2 g3 g4
      | false =>
       simp only[heff,hstab]at hdop;obtain⟨v,hp,haq⟩:=El o.op e2 H _ hdop;rw[eN hop]at haq;obtain⟨v', rfl,hok⟩:=rO hX.T o haq;obtain⟨u,hrun,hrel⟩:=hok I ρ w a h.st hmask;refine⟨fun f _=>hF.fn f,?_⟩
       rw[gD _ _ _ (fun c hc=>by rw[hc]at haq; simp[aq]at haq),hrun]
       exact go u v' I ρ H w hp h.st hrel hmask (Step.refl _ _ _ _ _)
     have skips:∀e2:Env,(∀t,Env.get e2 t=Env.get e t)->(fM X.n o.dst (.tup []) e2 fun e' => iY X ops.toList (cT ops.toList []) K r ((i,false)::recs) e' H) ->
      (∀f,o.about X.P w a.eval=some f->F.fn f)/\wpAnyIn F n X.P .any ops Q fuel (listed.setIfInBounds i true) (a.put o.dst undef) w:=by
      intro e2 h2 hp;refine⟨fun f _=>hF.fn f,?_⟩
      have fin:∀e' : Env,iY X ops.toList (cT ops.toList []) K r ((i,false)::recs) e' H->(∀t,o.dst≠some t->Env.get e' t=Env.get e t)->(∀d,o.dst=some d->d<X.n/\Env.get e' d = .tup []) ->
       wpAnyIn F n X.P .any ops Q fuel (listed.setIfInBounds i true) (a.put o.dst undef) w:=by
       intro e' hC' hg hv;have hn:=h.next hL ho hev (u:=undef) (v:=.tup []) (ran:=false) hC' (fun j rj hj hran hlj oj hoj hrd=>by
        obtain⟨o', q1,q2,q3,q4⟩:=h.pf j rj hj hlj;rw[hoj]at q1; cases q1;have hjp:j∈pre:=by
         have:j∈recs.map (·.1):=List.mem_map.2 ⟨_,hj,rfl⟩;rw[h.hr]at this; simpa using this
        have hji:j≠i:=fun hji=>hnpre (hji ▸ hjp)
        have htouch:∀t,l7 ops.toList oj t->Env.get e' t=Env.get e t:=by
         intro t ht;refine hg t fun hd=>?_
         rcases hL.apart j i oj o (by simpa using hoj) ho hji t hd ht with hb | ⟨_,hb⟩
         . obtain⟨p1,p2,hp'⟩:=List.append_of_mem hjp;have hi' := hL.D_pre (p:=p1) (q:=p2++i::r) (i:=j) (by rw[h.hL,hp']; simp) hb
           exact hnpre (by rw[hp']; simp[hi'])
         . have:=hcl j hb;rw[hlj]at this; cases this
        cases hdst:oj.dst with
        | none =>
         exfalso;have hlo:loud oj=false:=by
          cases hlo:loud oj with
          | false=>rfl
          | true =>
           have:=h.lst j hjp oj (by simpa using hoj) hlo
           rw[hlj]at this; cases this
         rw[hL.reads j oj (by simpa using hoj) hlo hdst]at hrd
         cases hrd
        | some d =>
         rw[hdst]at q4;refine⟨d,rfl,?_⟩;rw[<-eN (c8 fun t ht=>htouch t (.inl ht)),htouch d (.inr hdst)]
         exact q4.2.1 hran) hg hv htup h.st hmask (h.step.trans (Step.refl _ _ _ _ _)) (M' := dh ops listed r) (fun t ht=>.inl (by rwa [hpr]at ht))
       exact onward undef I ρ H w _ _ (Step.refl _ _ _ _ _) (h.step.klen hk) hn
      unfold fM at hp;cases hdst:o.dst with
      | none =>
       simp only[hdst]at hp;have:=fin e2 hp (fun t _=>h2 t) (by simp[hdst])
       rwa [hdst]at this
      | some d =>
       simp only[hdst]at hp;cases hb:Nat.blt d X.n with
       | false=>simp only[hb]at hp
       | true =>
        simp only[hb]at hp;have:=fin _ hp (fun t ht=>by rw[eY (fun h=>ht (by rw[hdst,h])),h2]) (fun d' hd' => by rw[hdst]at hd'; cases hd'; exact⟨aA hb,ko⟩)
        rwa [hdst]at this
     cases hg:o.guard with
     | none =>
      simp only[hg]at hC;rw[show Region.wanted o (yielded ops a.tmps)=true by simp[Region.wanted,hg],if_pos rfl]
      exact runs e (fun _=>rfl) hC
     | some jw =>
      obtain⟨j,want⟩:=jw;simp only[hg]at hC;cases hd:(ops.toList[j]?).bind (·.dst)with
      | none=>simp only[hd]at hC
      | some d =>
       simp only[hd]at hC;have hd' : (ops[j]?).bind (·.dst)=some d:=by simpa using hd
       have hgd:=hlook d (jb hg hd);split at hC
       . rename_i b hb;have hy:=iW hd' (by rw[hgd]; exact hb) hmask
         cases b with
         | true =>
          simp only[eU]at hC;cases want with
          | true =>
           rw[show Region.wanted o (yielded ops a.tmps)=true by simp[Region.wanted,hg,hy],if_pos rfl]
           exact runs _ (gv hb) hC
          | false =>
           rw[show Region.wanted o (yielded ops a.tmps)=false by simp[Region.wanted,hg,hy],if_neg (by simp)]
           exact skips _ (gv hb) hC
         | false =>
          simp only[eU]at hC;cases want with
          | false =>
           rw[show Region.wanted o (yielded ops a.tmps)=true by simp[Region.wanted,hg,hy],if_pos rfl]
           exact runs _ (gv hb) hC
          | true =>
           rw[show Region.wanted o (yielded ops a.tmps)=false by simp[Region.wanted,hg,hy],if_neg (by simp)]
           exact skips _ (gv hb) hC
       . rename_i hb;have hy:=jn hd' (by rw[hgd]; exact hb) hmask
         rw[show Region.wanted o (yielded ops a.tmps)=false by simp[Region.wanted,hg,hy],if_neg (by simp)]
         exact skips e (fun _=>rfl) hC
       . exact hC.elim
theorem xT {X:dI} (hX:CtxOk X) {ops:Array Oper} {K:Env->List O->Prop} {e:Env} {H:List O} (h:Iy X ops.toList K e H) {I:aU} {ρ:List Pl} {w:World} {a:Act} (hst:St I ρ H w) (he:ERel I ρ e a.tmps) (hk:X.k<=ρ.length) (hs:a.tmps.size=X.n)
 {F:Fence} {n:Nat} (hF:Wide F) {Q:Exit->Act->World->Prop} {id:Nat}
 (hQ:∀I' ρ' e' H' w' (a' : Act),K e' H'->St I' ρ' H' w'->ERel I' ρ' e' a'.tmps->a'.tmps.size=X.n->a'.defers=a.defers->Step X.k I ρ H w I' ρ' H' w'->Q .normal a' w'):(Code.region id ops true).wpIn F n X.P Q a w:=by
 obtain⟨L,hok,hbk,hgo⟩:=h;have hL:=AW hok;refine wpIn_region_any hX.mixed ?_;have hX' : CtxOk { X with stab:=true }:=⟨hX.T,hX.fns,hX.mixed⟩
 have h0:DInv { X with stab:=true } ops K L I ρ H w a (dh ops (Array.replicate ops.size false) L) (Array.replicate ops.size false) a { w with drawn:=w.drawn+1 } [] L [] e H I ρ:=by
  refine⟨rfl,rfl,hgo,by simp,fun i hi=>?_,fun i hi=>by simp at hi,fun i o ho hl=>?_,fun i ran hi=>by simp at hi,hst.heap rfl,fun t _ _=>he t,hs,rfl,?_⟩
  . simp[Array.getElem?_replicate];split<;>simp
  . exfalso;simp[Array.getElem?_replicate]at hl;split at hl<;>simp at hl
  . exact⟨ILe.refl _,fun _ _=>rfl,rfl,rfl,rfl,Nat.le_refl _,fun _ _ _=>rfl,fun _ h=>.inl h,fun _ _ _ h=>.inl h⟩
 have hno:∀i,(Array.replicate ops.size false).getD i false=false:=fun i=>by
  simp[Array.getElem?_replicate];split<;>simp
 have hb0:tH { X with stab:=true } ops (Array.replicate ops.size false) (Array.replicate ops.size false) a w { w with drawn:=w.drawn+1 } I ρ H [] L:=by
  refine⟨by simp,fun i hi=>rfl,fun i o ho hl=>?_,fun i hi hl=>?_,fun i hi j hj hl=>?_⟩<;>(rw[hno]at hl; cases hl)
 obtain⟨lv2,pre2,post2,recs2,e2,H2,ρ2,k1,k2,k3⟩:=BV hX' hL L.length _ _ _ _ _ _ _ (Nat.le_refl _) hk h0 hb0;refine Dg hX' rfl hL hbk hk hF hQ ops.size _ lv2 a _ pre2 post2 recs2 e2 H2 I ρ2 k1 k2 k3 ?_;exact Nat.le_trans (List.length_filter_le _ _) hL.len
end
section
variable [Globs]
variable {P:Program} {T:Nat->TI} {I:aU} {ρ:List Pl} {H:List O} {w:World} {e:Env}
theorem St.o (h:St I ρ H w):StO I ρ H w:=⟨h.len,h.obj,h.inj⟩
theorem StO.keep {I' : aU} {w' : World} (h:StO I ρ H w) (hI:ILe I I') (hb:∀b,az ρ H b->w'.heap[b]? = w.heap[b]?):StO I' ρ H w' :=
 ⟨h.len,fun i p o hp ho=>(h.obj i p o hp ho).keep (fun b hw=>hb b ⟨i,p,o,hp,ho,hw⟩) hI (PLe.refl _),h.inj⟩
theorem uB {n:Nat} (hlt:∀b,az ρ H b->b<n):∃B:List Nat,∀b,az ρ H b ↔ b∈B:=by
 classical
 exact⟨(List.range n).filter fun b=>decide (az ρ H b),fun b=>⟨fun h=>by simp[h,hlt b h],fun h=>by simp at h; exact h.2⟩⟩
theorem Fz {f:Nat->Option Nat} {is:List Nat} (hl:∀i∈is,i < ρ.length) {i:Nat} (hi:i∈is) {p:Pl} {o:O} {b:Nat} (hp:ρ[i]? = some p) (ho:H[i]? = some o) (hw:o.owns p b):az (ci is ρ) (aJ f H is) b:=by
 obtain⟨j,hj⟩:=List.getElem?_of_mem hi;refine⟨j,p,gA f (ar H i),(fF hl).2 ⟨i,hj,hp⟩,gather_get.2 ⟨i,hj,rfl⟩,?_⟩;rw[aZ];have:ar H i=o:=by simp[ar,List.getD,ho]
 rw[this]; exact hw
theorem zi (hst:St I ρ H w) {J:List O->Prop} (hJ:J H) {ks:List Pl} (hks:PLe ks ρ) {p:Pl} (hp:(ks[0]?).map Pl.b=some p.b) {B:List Nat} (hB:∀b,az ρ H b ↔ b∈B) {ρ0:List Pl}:ORel I ρ0 w p (.res (cu J ks B) B):=by
 refine⟨⟨ρ,H,hJ,hst.o,hks,hp,hB⟩,fun I' w' hI hw=>⟨ρ,H,hJ,hst.o.keep hI fun b hb=>hw b ((hB b).1 hb),hks,hp,hB⟩,fun b hb=>hst.lt ((hB b).2 hb)⟩
theorem sN (f:Nat->Option Nat) (l:List O) (i:Nat):(wD f l)[i]? = (l[i]?).map (gA f):=by rw[lu,List.getElem?_map]
theorem gw (f:Nat->Option Nat) (l:List O):(wD f l).length=l.length:=by rw[lu]; simp
theorem qs (a b:List Nat) (ρ:List Pl):ci (a++b) ρ=ci a ρ++ci b ρ:=by simp[ci]
theorem fk {k:Nat} {Hs rest:List O} {ρs ρr:List Pl} (hs:ρs.length=Hs.length) (hr:ρr.length=rest.length) (hk:k<=Hs.length) {i:Nat} {q:Pl} {o:O}
 (hq:(ρs.take k++(ρr++ρs.drop k))[i]? = some q) (ho:(gU k Hs rest)[i]? = some o) :
 (∃j o0,Hs[j]? = some o0/\ρs[j]? = some q/\o=gA (qA k rest.length) o0/\qA k rest.length j=some i)\/(∃j o0,rest[j]? = some o0/\ρr[j]? = some q/\o=gA (HI k) o0/\i=k+j):=by
 unfold gU at ho;by_cases h1:i<k
 . rw[List.getElem?_append_left (by simp; omega)]at hq
   rw[List.getElem?_append_left (by rw[gw]; simp; omega),sN]at ho
   rw[List.getElem?_take_of_lt h1]at hq ho;cases hx:Hs[i]? with
   | none=>rw[hx]at ho; cases ho
   | some x =>
    rw[hx]at ho; cases ho;refine .inl ⟨i,x,hx,hq,rfl,?_⟩;unfold qA;rw[show Nat.blt i k=true from Nat.ble_eq_true_of_le h1]
 . rw[List.getElem?_append_right (by simp; omega)]at hq
   rw[List.getElem?_append_right (by rw[gw]; simp; omega),gw]at ho
   simp only[List.length_take]at hq ho;rw[show min k ρs.length=k by omega]at hq
   rw[show min k Hs.length=k by omega]at ho
   by_cases h2:i-k<rest.length
   . rw[List.getElem?_append_left (by omega)]at hq
     rw[List.getElem?_append_left (by rw[gw]; omega),sN]at ho
     cases hx:rest[i-k]? with
     | none=>rw[hx]at ho; cases ho
     | some x =>
      rw[hx]at ho; cases ho;exact .inr ⟨i-k,x,hx,hq,rfl,by omega⟩
   . rw[List.getElem?_append_right (by omega),List.getElem?_drop]at hq
     rw[List.getElem?_append_right (by rw[gw]; omega),sN,gw,List.getElem?_drop]at ho
     rw[hr]at hq;cases hx:Hs[k+(i-k-rest.length)]? with
     | none=>rw[hx]at ho; cases ho
     | some x =>
      rw[hx]at ho; cases ho;refine .inl ⟨_,x,hx,hq,rfl,?_⟩;unfold qA;have:Nat.blt (k+(i-k-rest.length)) k=false:=by
       cases hb:Nat.blt (k+(i-k-rest.length)) k with
       | false=>rfl
       | true=>have:=aA hb; omega
      rw[this];simp only;congr 1
      omega
theorem oZ {k:Nat} {ρs ρr:List Pl} (hk:k<=ρs.length):oJ (qA k ρr.length) ρs (ρs.take k++(ρr++ρs.drop k)):=by
 intro i j p hij hp;have hil:=(liZ.1 hp).1;unfold qA at hij;cases hb:Nat.blt i k with
 | true =>
  have hlt:i<k:=aA hb;simp only[hb,Option.some.injEq]at hij;subst hij;rw[List.getElem?_append_left (by simp; omega),List.getElem?_take_of_lt hlt]
  exact hp
 | false =>
  have hge:¬i<k:=fun hlt=>by rw[show Nat.blt i k=true from Nat.ble_eq_true_of_le hlt]at hb; cases hb
  simp only[hb,Option.some.injEq]at hij;subst hij;rw[List.getElem?_append_right (by simp; omega),List.getElem?_append_right (by simp; omega),List.getElem?_drop]
  simp only[List.length_take];rw[show k+(i+ρr.length-min k ρs.length - ρr.length)=i by omega]
  exact hp
theorem Dm {k:Nat} {ρs ρr:List Pl} {p0:Pl} (hk:k<=ρs.length):oJ (HI k) (p0::ρr) (ρs.take k++(ρr++ρs.drop k)):=by
 intro i j p hij hp;cases i with
 | zero=>cases hij
 | succ i =>
  simp only[HI,Option.some.injEq]at hij;subst hij;simp only[List.getElem?_cons_succ]at hp;have hil:=(liZ.1 hp).1;rw[List.getElem?_append_right (by simp; omega),List.getElem?_append_left (by simp; omega)]
  simp only[List.length_take];rw[show k+i-min k ρs.length=i by omega]
  exact hp
theorem D1 {p0:Pl} {ρr:List Pl} {rest:List O} {J:List O->Prop} {ks:List Pl} {B:List Nat} (hst:St I (p0::ρr) (.res (cu J ks B) B::rest) w) :
 ∃ρs Hs,J Hs/\PLe ks ρs/\ρs.length=Hs.length/\(ks.length<=Hs.length)/\St I (ρs.take ks.length++(ρr++ρs.drop ks.length)) (gU ks.length Hs rest) w/\(∀b,az (ρs.take ks.length++(ρr++ρs.drop ks.length)) (gU ks.length Hs rest) b->az (p0::ρr) (.res (cu J ks B) B::rest) b):=by
 obtain⟨⟨ρs,Hs,hJ,hso,hks,_,hB⟩,_,_⟩:=hst.obj 0 p0 _ rfl rfl;have hr:ρr.length=rest.length:=by have:=hst.len; simpa using this
 have hk:ks.length<=ρs.length:=by
  rcases Nat.eq_zero_or_pos ks.length with h0 | h0
  . omega
  . have:=hks (ks.length-1) _ (aS (by omega))
    have:=(liZ.1 this).1;omega
 have hkH:ks.length<=Hs.length:=by rw[<-hso.len]; exact hk
 have f1:=oZ (ρr:=ρr) hk;have f2:=Dm (ρr:=ρr) (p0:=p0) hk;rw[hr]at f1;have hown:∀b,az (ρs.take ks.length++(ρr++ρs.drop ks.length)) (gU ks.length Hs rest) b->az (p0::ρr) (.res (cu J ks B) B::rest) b:=by
  rintro b ⟨i,q,o,hq,ho,hw⟩;rcases fk hso.len hr hkH hq ho with⟨j,o0,h1,h2,rfl,h3⟩ | ⟨j,o0,h1,h2,rfl,h3⟩
  . rw[aZ]at hw;exact⟨0,p0,_,rfl,rfl,(hB b).1 ⟨j,q,o0,h2,h1,hw⟩⟩
  . rw[aZ]at hw;exact⟨j+1,q,o0,by simpa using h2,by simpa using h1,hw⟩
 refine⟨ρs,Hs,hJ,hks,hso.len,hkH,⟨?_,fun i q o hq ho=>?_,fun i j q r o x b hq ho hw hr' hx hw' => ?_,hst.imm,fun b hb=>hst.sep b (hown b hb)⟩,hown⟩
 . have:=hso.len;simp[gU,gw];omega
 . rcases fk hso.len hr hkH hq ho with⟨j,o0,h1,h2,rfl,h3⟩ | ⟨j,o0,h1,h2,rfl,h3⟩
   . exact(hso.obj j q o0 h2 h1).ren f1
   . exact(hst.obj (j+1) q o0 (by simpa using h2) (by simpa using h1)).ren f2
 . rcases fk hso.len hr hkH hq ho with⟨a,o0,h1,h2,rfl,h3⟩ | ⟨a,o0,h1,h2,rfl,h3⟩<;>rcases fk hso.len hr hkH hr' hx with⟨c,x0,g1,g2,rfl,g3⟩ | ⟨c,x0,g1,g2,rfl,g3⟩<;>rw[aZ]at hw hw'
   . have:=hso.inj a c q r o0 x0 b h2 h1 hw g2 g1 hw';subst this;rw[h3]at g3; exact Option.some.inj g3
   . have:=hst.inj 0 (c+1) p0 r _ x0 b rfl rfl ((hB b).1 ⟨a,q,o0,h2,h1,hw⟩) (by simpa using g2) (by simpa using g1) hw'
     cases this
   . have:=hst.inj (a+1) 0 q p0 o0 _ b (by simpa using h2) (by simpa using h1) hw rfl rfl ((hB b).1 ⟨c,r,x0,g2,g1,hw'⟩)
     cases this
   . have:=hst.inj (a+1) (c+1) q r o0 x0 b (by simpa using h2) (by simpa using h1) hw (by simpa using g2) (by simpa using g1) hw'
     omega
theorem HN (hst:St I ρ H w) {is js:List Nat} {n:Nat} {k:Nat} (hl:kM is H.length=true) (hn:gJ is=true) (hl2:kM (n::js) H.length=true) (hn2:gJ (n::js)=true) (hdis:∀i∈is,i ∉ js) (hhead:is[0]? = some n) (hk0:0<k)
 {J:List O->Prop} (hJ:J (aJ (bI is) H is)):∃B,(∀b,az (ci is ρ) (aJ (bI is) H is) b ↔ b∈B) /\
  St I (ci (n::js) ρ) (.res (cu J ((ci is ρ).take k) B) B::aJ (bI (n::js)) H js) w:=by
 obtain⟨a1,a2,a3⟩:=fx hst hl hn;obtain⟨b1,b2,b3⟩:=fx hst hl2 hn2;obtain⟨B,hB⟩:=uB (fun b hb=>a1.lt hb)
 have hlt:∀i∈is,i < ρ.length:=fun i hi=>by rw[hst.len]; exact fv hl i hi
 have hlt2:∀i∈n::js,i < ρ.length:=fun i hi=>by rw[hst.len]; exact fv hl2 i hi
 have hgc:aJ (bI (n::js)) H (n::js)=gA (bI (n::js)) (ar H n)::aJ (bI (n::js)) H js:=rfl;rw[hgc]at b1;have hsc:ci (n::js) ρ=ρ.getD n ⟨0,0,0,0⟩::ci js ρ:=rfl;have hks:PLe ((ci is ρ).take k) (ci is ρ):=fun i p hp=>by
  have hi:i<k:=by have:=(liZ.1 hp).1; simp at this; omega
  rwa [List.getElem?_take_of_lt hi]at hp
 have hnl:n < ρ.length:=hlt2 n (by simp)
 have hk:(((ci is ρ).take k)[0]?).map Pl.b=some (ρ.getD n ⟨0,0,0,0⟩).b:=by
  rw[List.getElem?_take_of_lt hk0];simp[ci,hhead]
 have cross:∀(j:Nat) (q:Pl) (x:O) (b:Nat),(ci js ρ)[j]? = some q->(aJ (bI (n::js)) H js)[j]? = some x->x.owns q b->b ∉ B:=by
  intro j q x b hq hx hw hb;obtain⟨i,hi,p,o,h1,h2,h3⟩:=a3 b ((hB b).2 hb);obtain⟨i2,h4,h5⟩:=(fF (fun i hi=>hlt2 i (by simp[hi]))).1 hq
  obtain⟨i3,h6,h7⟩:=gather_get.1 hx;rw[h4]at h6; cases h6;have hmem:=List.mem_of_getElem? h4;have hi2:i2<H.length:=by rw[<-hst.len]; exact hlt2 i2 (by simp[hmem])
  subst h7;rw[aZ]at hw;have:=hst.inj i i2 p q o (ar H i2) b h1 h2 h3 h5 (by simp[ar,List.getD,aS hi2]) hw
  subst this;exact hdis i hi hmem
 refine⟨B,hB,⟨by simpa [hsc]using b1.len,fun i p o hp ho=>?_,fun i j p q o r b hp ho hw hq hr hw' => ?_,hst.imm,fun b hb=>?_⟩⟩
 . cases i with
   | zero =>
    simp only[hsc,List.getElem?_cons_zero,Option.some.injEq]at hp ho;subst hp; subst ho;exact zi a1 hJ hks hk hB
   | succ i=>exact b1.obj (i+1) p o hp (by simpa using ho)
 . cases i with
   | zero =>
    cases j with
    | zero=>rfl
    | succ j =>
     simp only[List.getElem?_cons_zero,Option.some.injEq]at ho;subst ho;exact absurd hw (cross j q r b (by simpa [hsc]using hq) (by simpa using hr) hw')
   | succ i =>
    cases j with
    | zero =>
     simp only[List.getElem?_cons_zero,Option.some.injEq]at hr;subst hr;exact absurd hw' (cross i p o b (by simpa [hsc]using hp) (by simpa using ho) hw)
    | succ j=>exact b1.inj (i+1) (j+1) p q o r b hp (by simpa using ho) hw hq (by simpa using hr) hw'
 . obtain⟨i,p,o,hp,ho,hw⟩:=hb;cases i with
   | zero =>
    simp only[List.getElem?_cons_zero,Option.some.injEq]at ho;subst ho;exact a1.sep b ((hB b).2 hw)
   | succ i=>exact b1.sep b ⟨i+1,p,o,hp,by simpa using ho,hw⟩
end
end Go.Proofs.YteiagdlfccbpcaaGreatDoorPg
