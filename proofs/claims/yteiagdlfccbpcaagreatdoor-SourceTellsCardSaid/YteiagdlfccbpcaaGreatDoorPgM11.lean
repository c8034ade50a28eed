/- Own texts, laid together: PgD1, PgD2, PgD3, PgE2, PgE3, PgE4, PgE5, PgE6, PgE7, PgE8, PgLess, PgTr1, PgTr2, PgTr3, PgTr4, PgSch1. -/
import Derived.Test.YteiagdlfccbpcaaGreatDoorPgM10
import Derived.ProofKit
import Derived.Test.YteiagdlfccbpcaaGreatDoorPgM8
import Derived.Test.YteiagdlfccbpcaaGreatDoorPgM9
set_option linter.unusedSectionVars false
set_option linter.unusedSimpArgs false
set_option linter.unusedVariables false
namespace Go.Proofs.YteiagdlfccbpcaaGreatDoorPg
open Go Go.RowKit
section
variable [Globs]
variable {P:Program} {T:Nat->TI} {W:World}
def D3 (W:World):aU:=fun b o=>W.cell? ⟨b,o,none⟩
theorem IS (W:World) (hK:Globs.K (D3 W)):St (D3 W) [] [] W :=
 ⟨rfl,fun i p o h=>by simp at h,fun i j p q o r b h=>by simp at h,⟨fun b o v h=>h,hK⟩,fun b ⟨i,p,o,h,_⟩=>by simp at h⟩
def GB (T:Nat->TI):Nat->TypeId->List V->Prop
 | 0,_,_=>False
 | n+1,t,vs=>match (T t).kind with
  | .bool=>∃b,vs = [.bool b]
  | .int k=>∃x,(Lit.int k x).wf=true/\vs = [.int k x]
  | .str=>∃s:List UInt8,s.length<=Globs.txt/\vs = [.str s]
  | .sl e=>∃es,es.length<=maxLen/\(∀x∈es,GB T n e x)/\vs = [.sl (T e).size es false]
  | .struct fs=>fs.foldr (fun f K vs=>∃a b,GB T n f.2 a/\K b/\vs=a++b) (fun vs=>vs = []) vs
  | _=>False
def Cj (T:Nat->TI) (n:Nat) (lay:TypeId->Bool):List (Nat × TypeId)->Nat->Bool
 | [],o=>Nat.beq o n
 | (p,t)::r,o=>Nat.beq p o&&(lay t&&Cj T n lay r (o+(T t).size))
def mf (T:Nat->TI):Nat->TypeId->Bool
 | 0,_=>false
 | n+1,t=>(T t).good&&match (T t).kind with
  | .bool=>Nat.beq (T t).size 1
  | .int _=>Nat.beq (T t).size 1
  | .str=>Nat.beq (T t).size 1
  | .sl e=>Nat.beq (T t).size 1&&(Nat.blt 0 (T e).size&&mf T n e)
  | .struct fs=>Cj T (T t).size (mf T n) fs 0
  | _=>false
theorem xd (hT:bH P T) {t:TypeId} (h:(T t).good=true):P.cellsOf t=(T t).size:=by
 obtain⟨i,z,d,g1,g2,g3,g4,g5⟩:=bS hT h;simp[Program.cellsOf,g1,g4]
structure In (W:World) (vs:List V) (cs:List Value):Prop where
 rel:VRels (D3 W) [] vs cs
 one:∀u∈cs,u.oneCell'=true
theorem In.append {vs vs' : List V} {cs cs' : List Value} (h:In W vs cs) (k:In W vs' cs'):In W (vs++vs') (cs++cs'):=by
 refine⟨⟨by simp[h.rel.1,k.rel.1],fun i a u ha hu=>?_⟩,fun u hu=>?_⟩
 . by_cases hi:i<vs.length
   . rw[List.getElem?_append_left hi]at ha;rw[List.getElem?_append_left (by rw[<-h.rel.1]; exact hi)]at hu
     exact h.rel.2 i a u ha hu
   . rw[List.getElem?_append_right (by omega)]at ha
     rw[List.getElem?_append_right (by rw[<-h.rel.1]; omega),<-h.rel.1]at hu
     exact k.rel.2 _ a u ha hu
 . rcases List.mem_append.1 hu with hu | hu
   . exact h.one u hu
   . exact k.one u hu
theorem In.leaf {v:V} {u:Value} (h:VRel (D3 W) [] v u) (h1:u.oneCell'=true):In W [v] [u] :=
 ⟨VRels.cons h (VRels.nil _ _),fun x hx=>by simp at hx; subst hx; exact h1⟩
theorem xZ {Q:Nat->List V->Prop}:∀(n:Nat),(∀i,i<n -> ∃x,Q i x) -> ∃es:List (List V),es.length=n /\ ∀(i:Nat) (x:List V),es[i]? = some x->Q i x
 | 0,_=>⟨[],rfl,fun i x h=>by simp at h⟩
 | n+1,h=>by
  obtain⟨es,h1,h2⟩:=xZ n fun i hi=>h i (by omega)
  obtain⟨x,hx⟩:=h n (by omega)
  refine⟨es ++ [x],by simp[h1],fun i y hy=>?_⟩
  by_cases hi:i<n
  . rw[List.getElem?_append_left (by omega)]at hy; exact h2 i y hy
  . have hlt:=(liZ.1 hy).1;simp at hlt;have:i=n:=by omega
    subst this;rw[List.getElem?_append_right (by omega),h1]at hy
    simp at hy; subst hy; exact hx
theorem uC {b:Nat} {a:Addr} {n:Nat} {cs:List Value} (h:W.cells? b a n=some cs):cs.length=n /\ ∀i,i<n->W.cell? (a.add i)=cs[i]?:=by
 unfold World.cells? at h;split at h
 . have key:∀(l:List Nat) (cs:List Value),l.mapM (fun i=>W.cell? (a.add i))=some cs->cs.length=l.length /\ ∀(i k:Nat),l[i]? = some k->W.cell? (a.add k)=cs[i]?:=by
    intro l;induction l with
    | nil=>intro cs h; simp at h; subst h; exact⟨rfl,fun i k hk=>by simp at hk⟩
    | cons x l ih =>
     intro cs h;rw[List.mapM_cons]at h;cases ha:W.cell? (a.add x)with
     | none=>simp[ha]at h
     | some y =>
      cases hl:l.mapM (fun i=>W.cell? (a.add i))with
      | none=>simp[ha,hl]at h
      | some ys =>
       simp[ha,hl]at h;subst h;obtain⟨h1,h2⟩:=ih ys hl;refine⟨by simp[h1],fun i k hk=>?_⟩
       cases i with
       | zero=>simp at hk; subst hk; simpa using ha
       | succ i=>simp at hk; simpa using h2 i k hk
   obtain⟨h1,h2⟩:=key _ _ h;refine⟨by simpa using h1,fun i hi=>h2 i i (by simp[hi])⟩
 . cases h
theorem ve {a:Addr} {v:Value} (h:W.cell? a=some v):a.spot=none:=by
 cases hs:a.spot with
 | none=>rfl
 | some s =>
  exfalso;unfold World.cell? at h;rw[hs]at h;split at h<;>simp at h
section
variable {H:Type} {enc:TypeId × Value->H} {sp:Nat->Bool} {hd:Bool} {fuel:Nat} {t:TypeId} {cs:List Value} {x:DataW H × List MemPlace}
theorem Ka (hu:P.underlying t=some .bool) (h:DataW.trod enc P W 0 sp hd fuel t cs=some x):∃b,cs = [.bool b]:=by
 cases fuel with
 | zero=>simp[DataW.trod]at h
 | succ n =>
  unfold DataW.trod at h;rw[hu]at h;split at h<;>simp_all
theorem Kb {k:IntKind} (hu:P.underlying t=some (.int k)) (h:DataW.trod enc P W 0 sp hd fuel t cs=some x):∃n,(Lit.int k n).wf=true/\cs = [.int k n]:=by
 cases fuel with
 | zero=>simp[DataW.trod]at h
 | succ n =>
  unfold DataW.trod at h;rw[hu]at h;split at h<;>simp_all
theorem Kc (hu:P.underlying t=some .string) (h:DataW.trod enc P W 0 sp hd fuel t cs=some x):∃s:ByteArray,s.size<=maxLen/\cs = [.string s]/\s.data.toList.length∈x.1.weights P t:=by
 cases fuel with
 | zero=>simp[DataW.trod]at h
 | succ n =>
  unfold DataW.trod at h;rw[hu]at h;split at h<;>try (simp_all; done)
  rename_i s _;split at h
  . rename_i hs;cases h;refine⟨s,by simpa using hs,rfl,?_⟩
    simp[DataW.weights]
  . cases h
theorem kS {e:TypeId}:∀ {l:List (DataW H)} {i:Nat} {d:DataW H},l[i]? = some d -> ∀k∈d.weights P e,k∈DataW.weightsAll P e l
 | [],i,d,h=>by simp at h
 | a::l,0,d,h=>by simp at h; subst h; intro k hk; simp[DataW.weightsAll,hk]
 | a::l,i+1,d,h=>by
  intro k hk;have:=kS (l:=l) (i:=i) (by simpa using h) k hk
  simp[DataW.weightsAll,this]
end
theorem Iq (hT:bH P T) {H:Type} {enc:TypeId × Value->H} {hd:Bool}:∀(n fuel:Nat) (t:TypeId) (cs:List Value) (x:DataW H × List MemPlace),mf T n t=true->DataW.trod enc P W 0 (fun _=>true) hd fuel t cs=some x->(∀k∈x.1.weights P t,k<=maxLen->k<=Globs.txt) -> ∃vs,GB T n t vs/\In W vs cs/\vs.length=(T t).size:=by
 intro n;induction n with
 | zero=>intro fuel t cs x h; simp[mf]at h
 | succ n ih =>
  intro fuel t cs x h htr hB;simp only[mf,Bool.and_eq_true]at h;obtain⟨hg,h⟩:=h;have hsz:=xd hT hg;cases hk:(T t).kind<;>simp only[hk]at h<;>(try (exact absurd h (by decide)))<;>simp only[GB,hk]
  case bool =>
   obtain⟨b,rfl⟩:=Ka (q9 hT hk) htr;exact⟨_,⟨b,rfl⟩,In.leaf (.bool _ _) rfl,by rw[Nat.eq_of_beq_eq_true h]; rfl⟩
  case int k =>
   obtain⟨m,hw,rfl⟩:=Kb (eL hT hk) htr;exact⟨_,⟨m,hw,rfl⟩,In.leaf (.int _ _ _) rfl,by rw[Nat.eq_of_beq_eq_true h]; rfl⟩
  case str =>
   obtain⟨s,hs,rfl,hm⟩:=Kc (dC hT hk) htr;exact⟨_,⟨s.data.toList,hB _ hm (by simpa using hs),rfl⟩,In.leaf (gh _ rfl) rfl,by rw[Nat.eq_of_beq_eq_true h]; rfl⟩
  case sl e =>
   rw[Bool.and_eq_true,Bool.and_eq_true]at h;obtain⟨h,hpos,hle⟩:=h;have hpos:0<(T e).size:=aA hpos;have hge:(T e).good=true:=by
    cases n with
    | zero=>simp[mf]at hle
    | succ n=>simp only[mf,Bool.and_eq_true]at hle; exact hle.1
   have hce:=xd hT hge;rcases DataW.trod_slice (dv hT hk) htr with⟨rfl,_⟩ | ⟨a,len,cap,elems,rest,m,rfl,rfl,hx1,_,hl,hc,hlen,hel,hspare,_⟩
   . exact⟨_,⟨[],by simp,by simp,rfl⟩,In.leaf (.slnil _ _ _ _) rfl,by rw[Nat.eq_of_beq_eq_true h]; rfl⟩
   . rw[hce]at hel;have each:∀i,i<len -> ∃vs,GB T n e vs/\vs.length=(T e).size /\ ∃cs,In W vs cs /\ ∀j,j<(T e).size->W.cell? ((a.add (i*(T e).size)).add j)=cs[j]?:=by
      intro i hi;have h1:=hel i hi;rw[aS (by omega)]at h1
      simp only[Option.bind_eq_some_iff]at h1;obtain⟨cs,hcs,hy⟩:=h1;obtain⟨hcl,hcg⟩:=uC hcs;obtain⟨vs,g1,g2,g3⟩:=ih _ _ _ _ hle hy (fun k hk' => hB k (by
       rw[hx1];simp only[DataW.weights,dv hT hk];refine List.mem_cons_of_mem _ (List.mem_append_left _ (kS (i:=i) ?_ k hk'));rw[List.getElem?_map,aS (by omega)]; rfl))
      exact⟨vs,g1,g3,cs,g2,hcg⟩
     obtain⟨es,hes,hget⟩:=xZ len each;refine⟨_,⟨es,by omega,fun x hx=>?_,rfl⟩,In.leaf ?_ rfl,by rw[Nat.eq_of_beq_eq_true h]; rfl⟩
     . obtain⟨i,hi⟩:=List.getElem?_of_mem hx;exact(hget i x hi).1
     . by_cases hcap:cap=0
       . have:len=0:=by omega
         subst this;have:es = []:=List.eq_nil_of_length_eq_zero hes;subst this;subst hcap;exact .slnil _ _ _ _
       . have hsp:a.spot=none:=by
          have e0:∀k,(a.add (0*k)).add 0=a:=fun k=>by simp[Addr.add]
          by_cases hlen0:len=0
          . obtain⟨_,hr⟩:=hspare rfl;have h1:=hr 0 (by omega)
            rw[hce,aS (by omega)]at h1
            simp only[Option.bind_eq_some_iff]at h1;obtain⟨cs,hcs,hy⟩:=h1;obtain⟨hcl,hcg⟩:=uC hcs;have h2:=hcg 0 hpos;rw[aS (by omega),hlen0,e0]at h2
            exact ve h2
          . obtain⟨vs,_,hvl,cs,hin,hcell⟩:=each 0 (by omega)
            have h2:=hcell 0 (by omega)
            have:cs.length=(T e).size:=by rw[<-hin.rel.1,hvl]
            rw[aS (by omega),e0]at h2
            exact ve h2
         obtain⟨b,base,spt⟩:=a;cases hsp;subst hes;refine .sl _ _ _ _ _ _ _ (fun i j=>(W.cell? ⟨b,base+(i*(T e).size+j),none⟩).getD undef) hl (by simp) (fun i x hx=>(hget i x hx).2.1) (fun i x j c hx hc=>?_) (fun i x j c hx hc=>?_) (fun i x j c hx hc=>?_)
         all_goals
          obtain⟨_,hvl,cs,hin,hcell⟩:=hget i x hx;have hjx:j<x.length:=(liZ.1 hc).1;have h2:=hcell j (by omega)
          have hcl:cs.length=x.length:=hin.rel.1.symm;rw[aS (by omega)]at h2
          have e0:((⟨b,base,none⟩:Addr).add (i*(T e).size)).add j=⟨b,base+(i*(T e).size+j),none⟩:=by
           unfold Addr.add; split<;>split<;>simp_all<;>omega
          rw[e0]at h2
         . simp only[D3,h2,Option.getD_some]
         . simp only[h2,Option.getD_some]; exact hin.one _ (List.getElem_mem _)
         . simp only[h2,Option.getD_some]; exact hin.rel.2 j c _ hc (by simp)
  case struct fs =>
   obtain⟨fa,hu,hfs⟩:=l8 hT hk;obtain⟨xs,m,_,hx1,hlen,hxl,hm⟩:=DataW.trod_struct hu htr;rw[hsz]at hlen
   have key:∀(l:List (Nat × TypeId)) (o:Nat) (cs' : List Value),Cj T (T t).size (mf T n) l o=true->cs'=cs.drop o->(∀f∈l,∃g∈fa.toList,f=(g.offset,g.type)) ->
    ∃vs,l.foldr (fun f K vs=>∃a b,GB T n f.2 a/\K b/\vs=a++b) (fun vs=>vs = []) vs/\In W vs cs' := by
    intro l;induction l with
    | nil =>
     intro o cs' hl hcs _;have:=Nat.eq_of_beq_eq_true hl;subst this;rw[<-hlen,List.drop_length]at hcs;subst hcs;exact⟨[],rfl,⟨VRels.nil _ _,by simp⟩⟩
    | cons f l ihl =>
     intro o cs' hl hcs hf;obtain⟨p,q⟩:=f;simp only[Cj,Bool.and_eq_true]at hl;obtain⟨hl1,hl2,hl3⟩:=hl;have:=Nat.eq_of_beq_eq_true hl1;subst this;obtain⟨g,hg1,hg2⟩:=hf (p,q) (by simp)
     cases hg2;have hgq:(T g.type).good=true:=by
      cases n with
      | zero=>simp[mf]at hl2
      | succ n=>simp only[mf,Bool.and_eq_true]at hl2; exact hl2.1
     obtain⟨gi,hgi⟩:=List.getElem?_of_mem hg1;have hgl:gi<fa.size:=by have:=(liZ.1 hgi).1; simpa using this
     have hy:=hm gi g (by simpa using hgi)
     have hyx:xs[gi]? = some xs[gi]:=aS (by omega)
     rw[hyx]at hy;rw[xd hT hgq]at hy;obtain⟨vs1,a1,a2,a3⟩:=ih _ _ _ _ hl2 hy (fun k hk' => hB k (by
      rw[hx1];simp only[DataW.weights,hu];exact DataW.weights_mem_each (j:=gi) (t:=g.type) (by rw[List.getElem?_map,hgi]; rfl) (by rw[List.getElem?_map,hyx]; rfl) k hk'))
     obtain⟨vs2,b1,b2⟩:=ihl (g.offset+(T g.type).size) (cs.drop (g.offset+(T g.type).size)) hl3 rfl (fun f hf' => hf f (by simp[hf']))
     refine⟨vs1++vs2,⟨vs1,vs2,a1,b1,rfl⟩,?_⟩;have e1:cs'=(cs.drop g.offset).take (T g.type).size++cs.drop (g.offset+(T g.type).size):=by
      rw[hcs,<-List.drop_drop]; exact(List.take_append_drop _ _).symm
     rw[e1];exact a2.append b2
   obtain⟨vs,h1,h2⟩:=key fs 0 cs h (by simp) (fun f hf=>by
    rw[hfs]at hf;obtain⟨g,hg1,hg2⟩:=List.mem_map.1 hf;exact⟨g,hg1,hg2.symm⟩)
   exact⟨vs,h1,h2,by rw[h2.rel.1,hlen]⟩
end
section
open Go Go.RowKit Go.ChangeShapes Go.WideShapes
variable [Globs]
variable {P:Program} {T:Nat->TI} {W:World}
def GL (T:Nat->TI) (t:TypeId) (vs:List V):V :=
 match (T t).kind.isAgg with
 | true=>.agg vs
 | false=>vs.headD .any
def GC (T:Nat->TI) (n:Nat):List TypeId->List V->Prop
 | [],as=>as = []
 | t::ts,as=>∃vs r,GB T n t vs/\GC T n ts r/\as=GL T t vs::r
theorem I7 (hT:bH P T) {H:Type} {enc:TypeId × Value->H} {hd:Bool} {n:Nat} {t:TypeId} (hlay:mf T n t=true) {r:Reach} {base:Nat} {v:Value} {d:DataW H} {ps:List MemPlace} (hval:Value.okWide P W r base t v)
 (h:DataW.Trod enc P W 0 (fun _=>true) hd t v d ps) (hB:∀k∈d.weights P t,k<=maxLen->k<=Globs.txt):∃vs,GB T n t vs/\VRel (D3 W) [] (GL T t vs) v:=by
 obtain⟨fuel,htr⟩:=h;obtain⟨vs,h1,h2,h3⟩:=Iq hT n fuel t _ _ hlay htr hB;refine⟨vs,h1,?_⟩;have hone:v.cells = #[v]->VRel (D3 W) [] (vs.headD .any) v:=fun hc=>by
  rw[hc]at h2;have hl:=h2.rel.1;simp at hl;obtain⟨x,rfl⟩:=List.length_eq_one_iff.1 hl;exact h2.rel.2 0 x v (by simp) (by simp)
 cases n with
 | zero=>simp[mf]at hlay
 | succ n =>
  simp only[mf,Bool.and_eq_true]at hlay;obtain⟨hg,hlay⟩:=hlay;cases hk:(T t).kind<;>simp only[hk]at hlay<;>(try (exact absurd hlay (by decide)))<;>simp only[GL,hk,TK.isAgg]
  case struct fs =>
   obtain⟨fa,hu,_⟩:=l8 hT hk;unfold Value.okWide at hval;rw[hu]at hval;obtain⟨cs,rfl,_⟩:=hval;simp only[Value.cells]at h2;exact .agg _ _ _ (by simpa using h2.rel.1) (fun i u hu=>h2.one u (by simpa using Array.mem_of_getElem? hu)) (fun i a u ha hu=>h2.rel.2 i a u ha (by simpa using hu))
  case bool =>
   refine hone ?_;have hu:=q9 hT hk;unfold Value.okWide at hval; rw[hu]at hval;cases v<;>first | rfl | (simp[Cell.okWide,Cell.ok,hu]at hval)
  case int =>
   refine hone ?_;have hu:=eL hT hk;unfold Value.okWide at hval; rw[hu]at hval;cases v<;>first | rfl | (simp[Cell.okWide,Cell.ok,hu]at hval)
  case str =>
   refine hone ?_;have hu:=dC hT hk;unfold Value.okWide at hval; rw[hu]at hval;cases v<;>first | rfl | (simp[Cell.okWide,Cell.ok,hu]at hval)
  case sl =>
   refine hone ?_;have hu:=dv hT hk;unfold Value.okWide at hval; rw[hu]at hval;cases v<;>first | rfl | (simp[Cell.okWide,Cell.ok,hu]at hval)
theorem BR (hT:bH P T) {H:Type} {enc:TypeId × Value->H} {hd:Bool} {n:Nat} {r:Reach} {base:Nat}:∀(ts:List TypeId) (us:List Value) (ds:List (DataW H)) (ps:List MemPlace),(∀t∈ts,mf T n t=true) ->
 (∀(j:Nat) t v,ts[j]? = some t->us[j]? = some v->Value.okWide P W r base t v)->DataW.TrodAll enc P W 0 (fun _=>true) hd ts us ds ps->(∀k∈DataW.weightsEach P ts ds,k<=maxLen->k<=Globs.txt) -> ∃as,GC T n ts as/\VRels (D3 W) [] as us
 | [],us,ds,ps,_,_,h,_=>by
  obtain⟨rfl,rfl,rfl⟩:=trodAll_nil h;exact⟨[],rfl,VRels.nil _ _⟩
 | t::ts,us,ds,ps,hl,hv,h,hB=>by
  cases us with
  | nil=>cases ds<;>simp[DataW.TrodAll]at h
  | cons u us =>
   cases ds with
   | nil=>simp[DataW.TrodAll]at h
   | cons d ds =>
    obtain⟨p,q,h1,h2,_⟩:=h;obtain⟨vs,a1,a2⟩:=I7 hT (hl t (by simp)) (hv 0 t u rfl rfl) h1 (fun k hk=>hB k (by simp[DataW.weightsEach,hk]))
    obtain⟨as,b1,b2⟩:=BR hT ts us ds q (fun t ht=>hl t (by simp[ht])) (fun j t v ht hv' => hv (j+1) t v (by simpa using ht) (by simpa using hv')) h2 (fun k hk=>hB k (by simp[DataW.weightsEach,hk]))
    exact⟨_,⟨vs,as,a1,b1,rfl⟩,VRels.cons a2 b2⟩
theorem mC {H:Type} {enc:TypeId × Value->H} (hl:laidOutB P=true) {W' : World} {sp' : Nat->Bool}:∀(ts:List TypeId) (us:List Value) (ds:List (DataW H)) (ps:List MemPlace),(∀t∈ts,P.readableRec t=true/\t<P.types.size) ->
 DataW.TrodAll enc P W 0 (fun _=>true) true ts us ds ps->(∀p∈ps,W.sameAt W' p)->(∀p∈ps,sp' p.block=true)->DataW.TrodAll enc P W' 0 sp' true ts us ds ps
 | [],us,ds,ps,_,h,_,_=>by
  obtain⟨rfl,rfl,rfl⟩:=trodAll_nil h;exact h
 | t::ts,us,ds,ps,hr,h,hs,hsp=>by
  cases us with
  | nil=>cases ds<;>simp[DataW.TrodAll]at h
  | cons u us =>
   cases ds with
   | nil=>simp[DataW.TrodAll]at h
   | cons d ds =>
    obtain⟨p,q,h1,h2,rfl⟩:=h;exact⟨p,q,WideElems.Trod_stays hl (hr t (by simp)).1 (hr t (by simp)).2 h1 (fun x hx=>hs x (by simp[hx])) (fun x hx=>hsp x (by simp[hx])),
     mC hl ts us ds q (fun t ht=>hr t (by simp[ht])) h2 (fun x hx=>hs x (by simp[hx])) (fun x hx=>hsp x (by simp[hx])),rfl⟩
theorem Step.below {k:Nat} {I:aU} {I' : aU} {ρ' : List Pl} {H' : List O} {w' : World} (h:Step k I [] [] W I' ρ' H' w'):Below W.heap.size W w' :=
 ⟨h.os,h.tape,h.output,h.size,fun b hb=>h.frame b hb fun⟨i,p,o,hp,_⟩=>by simp at hp⟩
theorem wy (hT:bH P T) (hl:laidOutB P=true) {f:FuncId} {fn:Func} {s:ChangeSpec} (n:Nat) (hlay:fn.params.toList.all (fun t=>mf T n t&&(P.readableRec t&&Nat.blt t P.types.size))=true)
 {tb:TypeId} (hres:fn.resultTypes = #[tb]) (hb:P.underlying tb=some .bool) (hvars:s.vars = []) (hfn:∀(H:Type) (ds:List (DataW H)),ds.length=fn.params.size->s.fn H ds = { results:=[.lit (.bool true)],args:=ds })
 (law:∀as,GC T n fn.params.toList as->ACall P f 0 as [] (fun v _=>v = .bool true)) {apart fresh handsOn again:Bool} {H:Type} {enc:TypeId × Value->H}
 (W:World) (base:Nat) (args:Array Value) (ds gs:List (DataW H)) (before:List MemPlace) (hval:∀(j:Nat) t v,fn.params[j]? = some t->args[j]? = some v->Value.okWide P W .any base t v)
 (hW:DataW.Whole enc P fn.params.toList s.vars apart W args.toList ds gs before) (hK:Globs.K (D3 W):=by exact trivial) (hB:∀k∈DataW.weightsEach P fn.params.toList ds,k<=maxLen->k<=Globs.txt:=by exact fun _ _ h=>h):Calls P f args W fun e W' => ∃v,e = .returned v/\s.post enc P fn apart fresh handsOn again W args v W' := by
 have hW' := hW;rw[hvars]at hW;obtain⟨p,q,hA,hV,hpq,hfz,hnd⟩:=hW;obtain⟨rfl,rfl⟩:=trodVars_none hV;rw[List.append_nil]at hpq;subst hpq;have hlay' : ∀t∈fn.params.toList,mf T n t=true/\P.readableRec t=true/\t<P.types.size:=fun t ht=>by
  have:=List.all_eq_true.1 hlay t ht;simp only[Bool.and_eq_true]at this;exact⟨this.1,this.2.1,aA this.2.2⟩
 obtain⟨as,h1,h2⟩:=BR hT _ _ _ _ (fun t ht=>(hlay' t ht).1) (fun j t v ht hv=>hval j t v (by simpa using ht) (by simpa using hv)) hA hB
 refine((law as h1).out (D3 W) [] W args (IS W hK) (Nat.zero_le _) h2).mono fun e W' ⟨v,r,I', ρ', H', he,hst,hr,hstep,hq⟩=>?_
 subst hq;have:=fH hr;subst this;have hbel:=hstep.below;have hlt:∀x∈before,x.block<W.heap.size:=fun x hx=>hW'.lt x hx
 have hlen:ds.length=fn.params.size:=by
  have key:∀(ts:List TypeId) (us:List Value) (ds:List (DataW H)) (ps:List MemPlace),DataW.TrodAll enc P W 0 (fun _=>true) true ts us ds ps->ds.length=ts.length:=by
   intro ts;induction ts with
   | nil=>intro us ds ps h; obtain⟨rfl,rfl,rfl⟩:=trodAll_nil h; rfl
   | cons t ts ih =>
    intro us ds ps h;cases us with
    | nil=>cases ds<;>simp[DataW.TrodAll]at h
    | cons u us =>
     cases ds with
     | nil=>simp[DataW.TrodAll]at h
     | cons d ds =>
      obtain⟨p,q,h1,h2,rfl⟩:=h;simp[ih us ds q h2]
  simpa using key _ _ _ _ hA
 have hfn' : s.fn H (ds ++ []) = { results:=[.lit (.bool true)],args:=ds }:=by rw[List.append_nil]; exact hfn H ds hlen
 have hRes:∀(b:Nat) (sp:Nat->Bool) (hd:Bool),DataW.TrodAll enc P W' b sp hd fn.resultTypes.toList ((Value.bool true).resultList fn.resultTypes.size) (s.fn H (ds ++ [])).results []:=fun b sp hd=>by
  rw[hfn', hres];exact trodAll_mk1 (shut_bool hb true)
 have hArgs:∀sp:Nat->Bool,(∀p∈before,sp p.block=true)->DataW.TrodAll enc P W' 0 sp true fn.params.toList args.toList (s.fn H (ds ++ [])).args before:=fun sp hsp=>by
  rw[hfn'];exact mC hl _ _ _ _ (fun t ht=>(hlay' t ht).2) hA (fun x hx=>hbel.same (hlt x hx)) hsp
 have hVars:∀sp:Nat->Bool,DataW.TrodVars enc P W' sp s.vars (s.fn H (ds ++ [])).vars []:=fun sp=>by
  rw[hfn', hvars]; rfl
 have hok:=ok_one (W' := W') hres (v:=.bool true) rfl (okWide_bool_mk hb true);refine⟨_,he,ds,[],before,[],before,[],hW', hRes _ _ _,hArgs _ (fun p hp=>by simpa using hlt p hp),hVars _,hbel.frame _,fun _=>?_⟩
 refine⟨hok,_,_,([]++before) ++ [],⟨[]++before,[],trodAll_append (hArgs _ (fun _ _=>rfl)) (hRes _ _ _),hVars _,rfl,?_,?_⟩,?_⟩
 . intro b off hp;have hp' : MemPlace.cell b off∈before:=by simpa using hp
   rw[hbel.frozen (p:=⟨b,off,none⟩) (hlt _ hp')];exact hfz b off hp'
 . intro ha;simpa using hnd ha
 . intro p hp _;simpa using hp
end
section
variable [Globs]
def Eb (P:Program):List TI->Nat->Prop
 | [],_=>True
 | r::l,i=>(r=Im P i\/r=TI.bad)/\Eb P l (i+1)
theorem vb {P:Program}:∀(l:List TI) (i:Nat),Eb P l i -> ∀t,l.getD t TI.bad=Im P (i+t)\/l.getD t TI.bad=TI.bad
 | [],i,_,t=>.inr (by simp)
 | r::l,i,h,t=>by
  cases t with
  | zero=>simpa using h.1
  | succ t =>
   have:=vb l (i+1) h.2 t;rw[show i+1+t=i+(t+1) by omega]at this
   simpa using this
theorem Io {P:Program} {l:List TI} (h:Eb P l 0):bH P (fun t=>l.getD t TI.bad):=fun t=>by
 have:=vb l 0 h t;simpa using this
def vp (P:Program):List Nat->Prop
 | []=>True
 | f::l=>(∀args w,(callFunc f args).run P w = .ok (.enter f args) w)/\vp P l
theorem pZ {P:Program}:∀(l:List Nat),vp P l -> ∀f∈l,∀args w,(callFunc f args).run P w = .ok (.enter f args) w
 | [],_,f,hf=>by simp at hf
 | g::l,h,f,hf=>by
  rcases List.mem_cons.1 hf with rfl | hf
  . exact h.1
  . exact pZ l h.2 f hf
theorem ac {b:Bool} {A B:Prop} (h1:b=true->A) (h2:b=false->B):eU b A B:=by cases b; exact h2 rfl; exact h1 rfl
def EX:O->Bool
 | .cells cs=>cs.all aY
 | _=>false
theorem ACall.frz {P:Program} {f:FuncId} {k:Nat} {args:List V} {H:List O} {Q:V->List O->Prop} (id:Nat)
 (h:ACall P f k args H fun r H' => EX (ar H' id)=true/\Q (cL id (ar H' id) r) (jH id (ar H' id) 0 H')):ACall P f k args H Q:=by
 refine⟨fun I ρ w us hst hk ha=>(h.out I ρ w us hst hk ha).mono ?_⟩
 rintro en w' ⟨v,r,I', ρ', H', h1,h2,h3,h4,h5,h6⟩;have hne:ar H' id ≠ .dead:=fun e=>by rw[e]at h5; cases h5
 have hfr:mt (ar H' id)=true/\IW id (ar H' id) H' /\ ∀v,CN id (ar H' id) v:=by
  cases ho' : ar H' id<;>rw[ho']at h5<;>simp only[EX]at h5<;>(try (cases h5; done))
  exact⟨h5,fun _ _ _ _=>trivial,fun _ _ _=>trivial⟩
 have ho:=ax (H:=H') (id:=id) rfl hne;have hlt:id < ρ'.length:=by rw[h2.len]; exact(liZ.1 ho).1
 obtain⟨I2,g1,g2,g3⟩:=mT h2 (aS hlt) ho hfr.1 hfr.2.1 k;exact⟨v,_,I2,ρ', _,h1,g1,g3 _ _ (hfr.2.2 _) h3,h4.trans g2,h6⟩
theorem ACall.sel {P:Program} {f:FuncId} {k:Nat} {args:List V} {H:List O} {Q:V->List O->Prop}
 (h:ACall P f k args H fun r H' => ∃sel,gC sel H'.length k=true/\Q (aM (bI sel) r) (aJ (bI sel) H' sel)):ACall P f k args H Q:=by
 refine⟨fun I ρ w us hst hk ha=>(h.out I ρ w us hst hk ha).mono ?_⟩
 rintro en w' ⟨v,r,I', ρ', H', h1,h2,h3,h4,sel,h5,h6⟩;obtain⟨g1,g2,g3⟩:=jS h2 h5 h4;exact⟨v,_,I', _,_,h1,g1,h3.ren g2,g3,h6⟩
end
section
variable [Globs]
variable {P:Program} {T:Nat->TI} {I:aU} {ρ:List Pl} {H:List O} {w:World} {e:Env}
theorem rP {k:Nat} {Q:V->List O->Prop} {r:V} {H' : List O} (h:ARet k Q r H'):∀ {I I' : aU} {ρ ρ' : List Pl} {H:List O} {w w' : World} {u:Value},k<=ρ'.length->St I' ρ' H' w'->VRel I' ρ' r u->Step k I ρ H w I' ρ' H' w' ->
 ∃r3 I3 ρ3 H3,Q r3 H3/\St I3 ρ3 H3 w'/\VRel I3 ρ3 r3 u/\Step k I ρ H w I3 ρ3 H3 w' := by
 induction h with
 | done sel hsel h =>
  intro I I' ρ ρ' H w w' u hk hst hr hs;obtain⟨z1,z2,z3⟩:=jS hst hsel hs;exact⟨_,I', _,_,h,z1,hr.ren z2,z3⟩
 | frz id hok hfit h ih =>
  intro I I' ρ ρ' H w w' u hk hst hr hs;rename_i r0 H0;have hne:ar H0 id ≠ .dead:=fun e=>by rw[e]at hok; cases hok
  have ho:=ax (H:=H0) (id:=id) rfl hne;have hlt:id < ρ'.length:=by rw[hst.len]; exact(liZ.1 ho).1
  obtain⟨I2,g1,g2,g3⟩:=mT hst (aS hlt) ho hok (jG hfit) k;exact ih hk g1 (g3 _ _ (lq hfit (by simp)) hr) (hs.trans g2)
 | sub r' H2 hv hH h ih =>
  intro I I' ρ ρ' H w w' u hk hst hr hs;exact ih hk (hH.st hst) (hv _ _ _ hr) (hs.trans (hH.step k))
 | adopt h ih =>
  intro I I' ρ ρ' H w w' u hk hst hr hs;exact ih (by simp; omega) (lg hst).1 (hr.mono (ILe.refl _) (PLe.append _ _)) (hs.trans (mI hst hk))
theorem qj:∀(ps:List Nat) (vs:List V) (us:List Value) (e:Env) (tmps:Array Value),ps.length=vs.length->VRels I ρ vs us->(∀p∈ps,p<tmps.size)->ERel I ρ e tmps ->
 ERel I ρ (ol ps vs e) ((ps.zip us).foldl (fun t (x:Nat × Value)=>t.setIfInBounds x.1 x.2) tmps)/\((ps.zip us).foldl (fun t (x:Nat × Value)=>t.setIfInBounds x.1 x.2) tmps).size=tmps.size
 | [],vs,us,e,tmps,hl,hr,hp,he=>by
  cases vs with
  | nil=>exact⟨by simpa [ol]using he,by simp⟩
  | cons v vs=>simp at hl
 | p::ps,vs,us,e,tmps,hl,hr,hp,he=>by
  cases vs with
  | nil=>simp at hl
  | cons v vs =>
   obtain⟨u,us', rfl,h1,h2⟩:=hr.cons_inv;simp only[ol,List.zip_cons_cons,List.foldl_cons];have hpl:=hp p (by simp)
   obtain⟨g1,g2⟩:=qj ps vs us' ((p,v)::e) (tmps.setIfInBounds p u) (by simpa using hl) h2 (fun q hq=>by simpa using hp q (by simp[hq])) (fun t=>by
    simp only[Env.get];cases ht:Nat.beq p t with
    | true =>
     have:=Nat.eq_of_beq_eq_true ht;subst this;simp only;rw[show(tmps.setIfInBounds p u).getD p undef=u by simp[hpl]]
     exact h1
    | false =>
     have hne:=Nat.ne_of_beq_eq_false ht;simp only;rw[show(tmps.setIfInBounds p u).getD t undef=tmps.getD t undef by simp[Array.getElem?_setIfInBounds_ne hne]]
     exact he t)
   exact⟨g1,by rw[g2]; simp⟩
theorem CtxOk.turn {X:dI} (hX:CtxOk X) (n k:Nat) (r:Option Nat):CtxOk { X with n:=n,k:=k,stab:=false,round:=r }:=⟨hX.T,hX.fns,hX.mixed⟩
theorem ke {X:dI} (hX:CtxOk X) {k id:Nat} {vs:List V} {H:List O} {Q:V->List O->Prop} (h:Em X k id vs H Q):AYield X.P k (.yld id::vs) H Q:=by
 refine⟨fun I ρ w us hst hk ha=>?_⟩
 obtain⟨u0,us', rfl,h0,hvs⟩:=ha.cons_inv;obtain⟨p,hp,rfl⟩:=BG h0;refine⟨p.b,us', rfl,?_⟩;unfold Em at h;split at h<;>try exact h.elim
 rename_i c e hg;obtain⟨ho,r,hl,hrel⟩:=nZ hst hp hg;obtain⟨r1,r2,r3,r4,r5,r6,r7⟩:=hrel;split at h<;>try exact h.elim
 rename_i hc;simp only[Bool.and_eq_true]at hc;obtain⟨hc1,hc2,hc3⟩:=hc;have hc1:=Nat.eq_of_beq_eq_true hc1;have hid:id<k:=aA hc3;have hps:∀q∈c.ps.toList,q<c.n:=fun q hq=>aA (List.all_eq_true.1 hc2 q hq)
 have hul:=hvs.1;refine⟨r.fn,_,r.assign,r.body,run_yield hl (by rw[r1]; simp; omega),roundIn_of_wpIn trivial ?_⟩
 have hfold:(r.params.zip us'.toArray).foldl (fun tmps (x:Tmp × Value)=>tmps.setIfInBounds x.1 x.2) r.tmps=(c.ps.toList.zip us').foldl (fun t (x:Nat × Value)=>t.setIfInBounds x.1 x.2) r.tmps:=by
  rw[r1,<-Array.foldl_toList];simp
 obtain⟨a1,a2⟩:=qj (I:=I) (ρ:=ρ) c.ps.toList vs us' e r.tmps (by simp; omega) hvs (fun q hq=>by rw[r4]; exact hps q hq) r7
 have hX' := hX.turn c.n k (some id);have hF:FOk { X with n:=c.n,k:=k,stab:=false,round:=some id } (Fence.wide.inRound p.b) ρ:=.inr ⟨id,p,rfl,hid,hp,rfl⟩
 have hkl:k<=ρ.length:=by rw[hst.len]; exact hk
 have hw1:=oT hX' c.asg h I ρ w { tmps:=(c.ps.toList.zip us').foldl (fun t (x:Nat × Value)=>t.setIfInBounds x.1 x.2) r.tmps,defers:=[] } hst a1 hkl (by rw[a2,r4]) .nil (Fence.wide.inRound p.b) 0 hF
 rw[r2,r3];have hfold' : (Array.foldl (fun tmps x=>match x with | (t,a)=>tmps.setIfInBounds t a) r.tmps (r.params.zip us'.toArray))=(c.ps.toList.zip us').foldl (fun t (x:Nat × Value)=>t.setIfInBounds x.1 x.2) r.tmps:=hfold
 rw[hfold'];refine wpIn_mono hw1 ?_;rintro ex act1 w1 ⟨x,e1,H1,I1,ρ1,p1,p2,p3,p4,p5,⟨p6,_⟩,p7⟩;cases x<;>cases ex<;>simp only[AEx.is]at p1<;>simp only at p2
 simp only[Exit.then];split at p2<;>try exact p2.elim
 rename_i c1 e0 hg1;have hp1:ρ1[id]? = some p:=by rw[p7.take id hid]; exact hp
 obtain⟨ho1,q,hl1,q1,q2,q3,q4,q5,q6,q7⟩:=nZ p3 hp1 hg1;have hk1:k<=ρ1.length:=p7.klen hkl;obtain⟨t1,t2⟩:=uX p3 k hk1 hp1 ho1 hl1 .busy (r' := { q with state:=.busy }) ⟨q1,q2,q3,q4,rfl,q6,q7⟩
 refine⟨_,run_beginRound hl1 (by rw[q5]; rfl),?_⟩
 simp only[aj,bO]at p2;have hw2:=oT hX' c.body p2 I1 ρ1 _ act1 t1 p4 hk1 p5 (p6.step t2 rfl) (Fence.wide.inRound p.b) 0 ((hF.step p7).step t2);refine wpIn_mono hw2 ?_;rintro ex act2 w2 ⟨x,e2,H2,I2,ρ2,s1,s2,s3,s4,s5,⟨s6,_⟩,s7⟩;have hp2:ρ2[id]? = some p:=by rw[s7.take id hid]; exact hp1
 unfold uu at s2;split at s2<;>try exact s2.elim
 rename_i c2 e3 hg2;obtain⟨ho2,v,hl2,v1,v2,v3,v4,v5,v6,v7⟩:=nZ s3 hp2 hg2;have hk2:k<=ρ2.length:=s7.klen hk1
 have fin:∀(st:LSt) (jump:Option Code),st.state=(if jump.isNone then .ready else .done)->st.pend=jump->ARet k Q (.bool jump.isNone) (H2.set id (.loop c2 st e3)) ->
  ∃v w', (Instr.endRound p.b jump).run X.P w2 = .ok v w' /\ ∃v_1 r I' ρ' H', Ending.returned v = .returned v_1/\St I' ρ' H' w'/\VRel I' ρ' r v_1/\Step k I ρ H w I' ρ' H' w'/\Q r H' := by
  intro st jump hs1 hs2 hR;obtain⟨x1,x2⟩:=uX s3 k hk2 hp2 ho2 hl2 st (r' := { v with state:=if jump.isNone then .ready else .done,pending:=jump }) ⟨v1,v2,v3,v4,hs1.symm,hs2.symm,v7⟩
  obtain⟨r3,I3,ρ3,H3,y1,y2,y3,y4⟩:=rP hR hk2 x1 (.bool _ _) (p7.trans (t2.trans (s7.trans x2)));exact⟨_,_,run_endRound jump hl2,_,r3,I3,ρ3,H3,rfl,y2,y3,y4,y1⟩
 cases x<;>cases ex<;>simp only[AEx.is]at s1<;>simp only[aj,bO]at s2<;>simp only[roundPost]
 . exact fin .ready none rfl rfl s2
 . subst s1; exact fin (.exit _) (some (.exit _)) rfl rfl s2
 . exact fin .ret (some .ret) rfl rfl s2
theorem FH {v:V} (h:aY v=true) {u:Value} (hr:VRel I ρ v u):u.oneCell'=true:=by
 cases hr<;>simp[aY]at h<;>first | rfl | assumption
theorem VRel.im' {v:V} (h:aY v=true) {u:Value} (hr:VRel I ρ v u):VRel I ρ (.im v) u:=.im _ _ _ (FH h hr) (ik h hr)
theorem ACall.im {P:Program} {f:FuncId} {k:Nat} {args:List V} {H:List O} {Q:V->List O->Prop}
 (h:ACall P f k args H fun r H' => aY r=true/\Q (.im r) H'):ACall P f k args H Q:=by
 refine⟨fun I ρ w us hst hk ha=>(h.out I ρ w us hst hk ha).mono ?_⟩
 rintro en w' ⟨v,r,I', ρ', H', h1,h2,h3,h4,h5,h6⟩;exact⟨v,_,I', ρ', H', h1,h2,h3.im' h5,h4,h6⟩
def ClosedV (a:V):Prop:=∀I ρ u,VRel I ρ a u->VRel I [] a u
theorem ClosedV.pure {v:V} (h:aY v=true):ClosedV v:=fun _ _ _ hr=>ik h hr
theorem ue {J:List O->Prop} {ks:List Pl} {B:List Nat} {args:List V} {Q:V->List O->Prop} {Q' : V->List O->Prop} (hargs:∀a∈args,ClosedV a)
 (h:∀Hs,J Hs->AYield P ks.length (.yld 0::args) Hs Q') (hq:∀r Hs B', Q' r Hs->(∃b,r = .bool b) /\ ∃J', J' Hs/\Q r [.res (cu J' ks B') B']):AYield P 1 (.yld 0::args) [.res (cu J ks B) B] Q:=by
 refine⟨fun I ρ w us hst hk ha=>?_⟩
 obtain⟨p,rfl⟩:∃p,ρ = [p]:=by
  have:=hst.len;simp at this;exact List.length_eq_one_iff.1 this
 obtain⟨⟨ρs,Hs,hJ,hso,hks,hb,hB⟩,_,_⟩:=hst.obj 0 p _ rfl rfl;obtain⟨u0,us', rfl,h0,hvs⟩:=ha.cons_inv;obtain⟨p', hp', rfl⟩:=BG h0;simp only[List.getElem?_cons_zero,Option.some.injEq]at hp';subst hp';have hkl:ks.length<=ρs.length:=by
  rcases Nat.eq_zero_or_pos ks.length with h0 | h0
  . omega
  . have:=hks (ks.length-1) _ (aS (by omega))
    have:=(liZ.1 this).1;omega
 obtain⟨k0,hk0,hkb⟩:∃k0,ks[0]? = some k0/\k0.b=p.b:=by
  cases hx:ks[0]? with
  | none=>rw[hx]at hb; cases hb
  | some k0=>rw[hx]at hb; exact⟨k0,rfl,by simpa using hb⟩
 have hown:∀b,az [p] [.res (cu J ks B) B] b ↔ b∈B:=fun b =>
  ⟨fun⟨i,q,o,hq,ho,hw⟩=>by
   cases i with
   | zero=>simp at ho; subst ho; exact hw
   | succ i=>simp at ho,fun hb=>⟨0,p,_,rfl,rfl,hb⟩⟩
 have hst2:St I ρs Hs w:=⟨hso.len,hso.obj,hso.inj,hst.imm,fun b hb=>hst.sep b ((hown b).2 ((hB b).1 hb))⟩
 have hvs2:VRels I ρs (.yld 0::args) (.func (.yield p.b) #[] #[]::us'):=by
  refine .cons ?_ ⟨hvs.1,fun i x u hx hu=>(hargs x (List.mem_of_getElem? hx) I [p] u (hvs.2 i x u hx hu)).mono (ILe.refl _) (PLe.nil _)⟩
  rw[<-hkb];exact .yld _ _ _ (hks 0 k0 hk0)
 obtain⟨l,us2,e1,fn,tmps,asg,body,h2,h3⟩:=(h Hs hJ).out I ρs w _ hst2 (by rw[<-hso.len]; exact hkl) hvs2
 refine⟨l,us2,e1,fn,tmps,asg,body,h2,h3.mono ?_⟩;rintro en w' ⟨v,r,I', ρ', H', rfl,s1,s2,s3,s4⟩;obtain⟨B', hB'⟩:=uB (fun b hb=>s1.lt hb)
 obtain⟨⟨bb,rfl⟩,J', hJ', hQ⟩:=hq r H' B' s4;have hks' : PLe ks ρ' := fun i q hi=>by
  have hik:i<ks.length:=(liZ.1 hi).1;rw[s3.take i hik]; exact hks i q hi
 have hown' : ∀b,az [p] [.res (cu J' ks B') B'] b ↔ b∈B' := fun b =>
  ⟨fun⟨i,q,o,hq,ho,hw⟩=>by
   cases i with
   | zero=>simp at ho; subst ho; exact hw
   | succ i=>simp at ho,fun hb=>⟨0,p,_,rfl,rfl,hb⟩⟩
 have hst3:St I' [p] [.res (cu J' ks B') B'] w' := by
  refine⟨rfl,fun i q o hq ho=>?_,fun i j q q' o o' b hq ho _ hq' ho' _=>?_,s1.imm,fun b hb=>s1.sep b ((hB' b).2 ((hown' b).1 hb))⟩
  . cases i with
    | zero=>simp at hq ho; subst hq; subst ho; exact zi s1 hJ' hks' (by rw[hk0]; simp[hkb]) hB'
    | succ i=>simp at hq
  . cases i with
    | zero=>cases j with
     | zero=>rfl
     | succ j=>simp at hq'
    | succ i=>simp at hq
 refine⟨v,.bool bb,I', [p],_,rfl,hst3,?_,⟨s3.ile,fun _ _=>rfl,s3.os,s3.tape,s3.output,s3.size,fun b hb hn=>s3.frame b hb fun ho=>hn ((hown b).2 ((hB b).1 ho)),fun b hb=>?_,fun b o x hx=>?_⟩,hQ⟩
 . rw[fH s2]; exact .bool _ _
 . rcases s3.own b ((hB' b).2 ((hown' b).1 hb))with h | h
   . exact .inl ((hown b).2 ((hB b).1 h))
   . exact .inr h
 . rcases s3.imm b o x hx with h | h | h
   . exact .inl h
   . exact .inr (.inl ((hown b).2 ((hB b).1 h)))
   . exact .inr (.inr h)
theorem wQ {J:List O->Prop} {ks:List Pl} {B:List Nat} {args:List V} {Q:V->List O->Prop} {Q' : V->List O->Prop} (hargs:args.all aY=true)
 (h:∀Hs,J Hs->AYield P ks.length (.yld 0::args) Hs Q') (hq:∀r Hs B', Q' r Hs->(∃b,r = .bool b) /\ ∃J', J' Hs/\Q r [.res (cu J' ks B') B']):AYield P 1 (.yld 0::args) [.res (cu J ks B) B] Q :=
 ue (fun a ha=>.pure (List.all_eq_true.1 hargs a ha)) h hq
theorem VSub.im {v:V} (h:aY v=true):VSub v (.im v):=fun _ _ _ hr=>hr.im' h
theorem ACall.sub {f:FuncId} {k:Nat} {args:List V} {H:List O} {Q:V->List O->Prop}
 (h:ACall P f k args H fun r H' => ∃r' H'', VSub r r'/\HSub H' H''/\Q r' H''):ACall P f k args H Q:=by
 refine⟨fun I ρ w us hst hk ha=>(h.out I ρ w us hst hk ha).mono ?_⟩
 rintro en w' ⟨v,r,I', ρ', H', h1,h2,h3,h4,r', H'', h5,h6,h7⟩;exact⟨v,r', I', ρ', H'', h1,h6.st h2,h5 _ _ _ h3,h4.trans (h6.step k),h7⟩
theorem ACall.ret {f:FuncId} {k:Nat} {args:List V} {H:List O} {Q:V->List O->Prop} (h:ACall P f k args H (ARet k Q)):ACall P f k args H Q:=by
 refine⟨fun I ρ w us hst hk ha=>(h.out I ρ w us hst hk ha).mono ?_⟩
 rintro en w' ⟨v,r,I', ρ', H', h1,h2,h3,h4,h5⟩;obtain⟨r3,I3,ρ3,H3,y1,y2,y3,y4⟩:=rP h5 (h4.klen (by rw[hst.len]; exact hk)) h2 h3 h4
 exact⟨v,r3,I3,ρ3,H3,h1,y2,y3,y4,y1⟩
theorem o7 (id z:Nat) (es:List (List V)) (c:Bool):cL id (.buf es) (.ms z id 0 es.length c) = .sl z es c:=by
 simp only[cL,Nat.beq_refl,List.drop_zero,List.take_length]
theorem ARet.frz_ms {k:Nat} {Q:V->List O->Prop} {H:List O} {id z len:Nat} {es:List (List V)} {c:Bool} (ho:ar H id = .buf es) (hl:len=es.length) (hfit:wH es.length (JC id H)) (h:ARet k Q (.sl z es c) (jH id (.buf es) 0 H)):ARet k Q (.ms z id 0 len c) H:=by
 refine .frz id (by rw[ho]; rfl) ?_ ?_
 . rw[ho];show wH es.length (t8 id [.ms z id 0 len c]++(JB id []++JC id H))
   have:t8 id [.ms z id 0 len c] = [(0,len)]:=by simp[t8,ua,Nat.beq_refl]
   rw[this];exact⟨by omega,hfit⟩
 . rw[ho];subst hl;rw[o7]; exact h
theorem ACall.args {f:FuncId} {k:Nat} {as bs:List V} {H:List O} {Q:V->List O->Prop} (hs:VSubs as bs) (h:ACall P f k bs H Q):ACall P f k as H Q :=
 ⟨fun I ρ w us hst hk ha=>h.out I ρ w us hst hk ⟨by rw[<-hs.1]; exact ha.1,fun i b u hb hu=>by
  obtain⟨a,ga,gs⟩:=hs.get hb;exact gs _ _ _ (ha.2 i a u ga hu)⟩⟩
end
section
variable [Globs]
theorem If {I:aU} {ρ ρr:List Pl} {H rest:List O} {w:World} {k:Nat} (hst:St I ρ H w) (hk:k<=H.length) (hr:ρr.length=rest.length) (hd:∀o∈rest,o = .dead) :
 St I (ρ.take k++(ρr++ρ.drop k)) (gU k H rest) w /\ ∀b,az (ρ.take k++(ρr++ρ.drop k)) (gU k H rest) b->az ρ H b:=by
 have f1:=oZ (ρs:=ρ) (ρr:=ρr) (k:=k) (by rw[hst.len]; exact hk)
 rw[hr]at f1;have hdead:∀ {j:Nat} {o0:O},rest[j]? = some o0->o0 = .dead:=fun h=>hd _ (List.mem_of_getElem? h)
 have hown:∀b,az (ρ.take k++(ρr++ρ.drop k)) (gU k H rest) b->az ρ H b:=by
  rintro b ⟨i,q,o,hq,ho,hw⟩;rcases fk hst.len hr hk hq ho with⟨j,o0,h1,h2,rfl,h3⟩ | ⟨j,o0,h1,h2,rfl,h3⟩
  . rw[aZ]at hw;exact⟨j,q,o0,h2,h1,hw⟩
  . rw[aZ,hdead h1]at hw;exact hw.1.elim
 refine⟨⟨?_,fun i q o hq ho=>?_,fun i j q r o x b hq ho hw hr' hx hw' => ?_,hst.imm,fun b hb=>hst.sep b (hown b hb)⟩,hown⟩
 . have:=hst.len;simp[gU,gw];omega
 . rcases fk hst.len hr hk hq ho with⟨j,o0,h1,h2,rfl,h3⟩ | ⟨j,o0,h1,h2,rfl,h3⟩
   . exact(hst.obj j q o0 h2 h1).ren f1
   . rw[hdead h1]; trivial
 . rcases fk hst.len hr hk hq ho with⟨a,o0,h1,h2,rfl,h3⟩ | ⟨a,o0,h1,h2,rfl,h3⟩<;>rcases fk hst.len hr hk hr' hx with⟨c,x0,g1,g2,rfl,g3⟩ | ⟨c,x0,g1,g2,rfl,g3⟩<;>rw[aZ]at hw hw'
   . have:=hst.inj a c q r o0 x0 b h2 h1 hw g2 g1 hw';subst this;rw[h3]at g3; exact Option.some.inj g3
   . rw[hdead g1]at hw'; exact hw'.1.elim
   . rw[hdead h1]at hw; exact hw.1.elim
   . rw[hdead g1]at hw'; exact hw'.1.elim
theorem ACall.stay {P:Program} {f:FuncId} {k:Nat} {args:List V} {H:List O} {Q:V->List O->Prop} (m:Nat) (hm:H.length=k+m)
 (h:ACall P f k args H fun r H' => Q (aM (qA k m) r) (gU k H' (List.replicate m .dead))):ACall P f (k+m) args H Q:=by
 refine⟨fun I ρ w us hst hk ha=>(h.out I ρ w us hst (by omega) ha).mono ?_⟩
 rintro en w' ⟨v,r,I', ρ', H', h1,h2,h3,h4,h5⟩;have hρ:=hst.len;have hkl:k<=ρ'.length:=by
  rcases Nat.eq_zero_or_pos k with h0 | h0
  . omega
  . have e:=h4.take (k-1) (by omega)
    rw[aS (show k-1 < ρ.length by omega)]at e
    have:=(liZ.1 e).1;omega
 have hlen:(ρ.drop k).length=m:=by simp; omega
 have hkH:k<=H'.length:=by rw[<-h2.len]; exact hkl
 obtain⟨g1,g2⟩:=If (ρr:=ρ.drop k) (rest:=List.replicate m .dead) h2 hkH (by simp; omega) (fun o ho=>(List.mem_replicate.1 ho).2)
 have f1:=oZ (ρs:=ρ') (ρr:=ρ.drop k) (k:=k) hkl;rw[hlen]at f1;refine⟨v,_,I', _,_,h1,g1,h3.ren f1,⟨h4.ile,fun i hi=>?_,h4.os,h4.tape,h4.output,h4.size,h4.frame,fun b hb=>h4.own b (g2 b hb),h4.imm⟩,h5⟩
 by_cases hik:i<k
 . rw[List.getElem?_append_left (by simp; omega),List.getElem?_take_of_lt hik]
   exact h4.take i hik
 . rw[List.getElem?_append_right (by simp; omega),List.getElem?_append_left (by simp; omega),List.getElem?_drop]
   simp only[List.length_take];rw[show k+(i-min k ρ'.length)=i by omega]
theorem ACall.adopt {P:Program} {f:FuncId} {k:Nat} {args:List V} {H:List O} {Q:V->List O->Prop}
 (h:ACall P f k args H fun r H' => Q r (H' ++ [.buf []])):ACall P f k args H Q:=by
 refine⟨fun I ρ w us hst hk ha=>(h.out I ρ w us hst hk ha).mono ?_⟩
 rintro en w' ⟨v,r,I', ρ', H', h1,h2,h3,h4,h5⟩;obtain⟨g1,g2⟩:=lg h2;refine⟨v,r,I', _,_,h1,g1,h3.mono (ILe.refl _) (PLe.append _ _),⟨h4.ile,fun i hi=>?_,h4.os,h4.tape,h4.output,h4.size,h4.frame,fun b hb=>h4.own b (g2 b hb),h4.imm⟩,h5⟩
 have hlt:i < ρ'.length:=by
  have hi2:i < ρ.length:=by rw[hst.len]; omega
  have e:=h4.take i hi;rw[aS hi2]at e;exact(liZ.1 e).1
 rw[List.getElem?_append_left hlt];exact h4.take i hi
end
section
variable [Globs]
variable {P:Program} {I:aU} {ρ:List Pl} {H:List O} {w:World}
theorem Er {w' : World} (h:St I ρ [] w) (hb:Below w.heap.size w w'):St I ρ [] w'/\Step 0 I ρ [] w I ρ [] w' := by
 have hρ:ρ = []:=List.eq_nil_of_length_eq_zero h.len;subst hρ;obtain⟨g1,g2,g3,g4,g5⟩:=id hb;refine⟨⟨rfl,fun i p o hp=>by simp at hp,fun i j p q o r b hp=>by simp at hp,⟨fun b o v hv=>?_,h.imm.glob⟩,fun b ⟨i,p,o,hp,_⟩=>by simp at hp⟩,
  ⟨ILe.refl _,fun _ _=>rfl,g1,g2,g3,g4,fun b hb' _=>g5 b hb', fun b ⟨i,p,o,hp,_⟩=>by simp at hp,fun _ _ _ hv=>.inl hv⟩⟩
 exact(hb.cell (h.imm_lt hv)).trans (h.imm b o v hv)
theorem xQ {f:FuncId} {args:List V} {r:V} {Q:V->List O->Prop}
 (h:∀(I:aU) (ρ:List Pl) (w:World) (us:Array Value),St I ρ [] w->VRels I ρ args us.toList -> ∃u,(∀I ρ,VRel I ρ r u)/\Calls P f us w fun e w' => e = .returned u/\Below w.heap.size w w')
 (hQ:Q r []):ACall P f 0 args [] Q:=by
 refine⟨fun I ρ w us hst hk ha=>?_⟩
 obtain⟨u,hu,hc⟩:=h I ρ w us hst ha;refine hc.mono fun e w' ⟨he,hb⟩=>?_
 obtain⟨s1,s2⟩:=Er hst hb;exact⟨u,r,I,ρ,[],he,s1,hu _ _,s2,hQ⟩
end
section
theorem cz:∀ {a b:List UInt8},Op.bytesLess a b=false->Op.bytesLess b a=false->a=b
 | [],[],_,_=>rfl
 | [],_::_,h,_=>by simp[Op.bytesLess]at h
 | _::_,[],_,h=>by simp[Op.bytesLess]at h
 | x::a,y::b,h,g=>by
  simp only[Op.bytesLess,Bool.or_eq_false_iff,decide_eq_false_iff_not,Bool.and_eq_false_iff,beq_eq_false_iff_ne]at h g;have hxy:x=y:=by
   have h1:¬x.toNat<y.toNat:=fun hh=>h.1 (UInt8.lt_iff_toNat_lt.2 hh)
   have h2:¬y.toNat<x.toNat:=fun hh=>g.1 (UInt8.lt_iff_toNat_lt.2 hh)
   exact UInt8.toNat_inj.1 (by omega)
  subst hxy;rcases h.2 with h2 | h2
  . exact absurd rfl h2
  . rcases g.2 with g2 | g2
    . exact absurd rfl g2
    . rw[cz h2 g2]
theorem bf:∀(a:List UInt8),Op.bytesLess a a=false
 | []=>rfl
 | x::a=>by
  have h1:¬x<x:=fun h=>by have:=UInt8.lt_iff_toNat_lt.1 h; omega
  simp[Op.bytesLess,bf a,h1]
theorem bW:∀ {a b c:List UInt8},Op.bytesLess a b=true->Op.bytesLess b c=true->Op.bytesLess a c=true
 | _,_,[],_,h=>by cases ‹List UInt8›<;>simp[Op.bytesLess]at h
 | [],_,_::_,_,_=>by simp[Op.bytesLess]
 | x::a,[],z::c,h,_=>by simp[Op.bytesLess]at h
 | x::a,y::b,z::c,h,g=>by
  simp only[Op.bytesLess,Bool.or_eq_true,decide_eq_true_eq,Bool.and_eq_true,beq_iff_eq]at h g ⊢;rcases h with h | ⟨rfl,h⟩
  . rcases g with g | ⟨rfl,g⟩
    . left
      have:=UInt8.lt_iff_toNat_lt.1 h;have:=UInt8.lt_iff_toNat_lt.1 g;exact UInt8.lt_iff_toNat_lt.2 (by omega)
    . exact .inl h
  . rcases g with g | ⟨rfl,g⟩
    . exact .inl g
    . exact .inr ⟨rfl,bW h g⟩
theorem fZ {a b:List UInt8} (h:Op.bytesLess a b=true):Op.bytesLess b a=false:=by
 cases hb:Op.bytesLess b a with
 | false=>rfl
 | true=>have:=bW h hb; rw[bf]at this; cases this
theorem gc {a b:List UInt8} (h:Op.bytesLess a b=true):a≠b:=fun e=>by rw[e,bf]at h; cases h
theorem KK (a b:List UInt8):(Op.bytesLess a b||decide (a=b)) = !Op.bytesLess b a:=by
 cases h:Op.bytesLess a b
 . cases g:Op.bytesLess b a
   . simp[cz h g]
   . have:=gc g;have e:¬a=b:=fun e=>this e.symm
     simp[e]
 . simp[fZ h]
theorem IJ (a b:List UInt8):(!(Op.bytesLess a b||decide (a=b)))=Op.bytesLess b a:=by rw[KK,Bool.not_not]
theorem Hn {i j:Nat} (h:i+j<1000000000):IntKind.i64.wrap ((IntKind.u64.wrap (IntKind.i64.wrap ((i:Int)+(j:Int)))).fdiv (2 ^ min (1:Int).toNat IntKind.u64.bits))=(((i+j) / 2:Nat):Int):=by
 have e:(2:Int) ^ min (1:Int).toNat IntKind.u64.bits=2:=by decide
 have w:∀n:Int,IntKind.u64.wrap n=n % 18446744073709551616:=fun n=>by simp[IntKind.wrap,IntKind.bits,IntKind.signed]
 rw[e,Int.fdiv_eq_ediv_of_nonneg _ (by decide),w,IntKind.wrap_i64,IntKind.wrap_i64]
 omega
end
section
inductive Tr (α:Type) where
 | nil
 | node (k:List UInt8) (v:α) (a b:Tr α)
variable {α:Type}
def Tr.ht:Tr α->Nat
 | .nil=>0
 | .node _ _ a b=>1+max a.ht b.ht
def cY (f:α->V):Tr α->V
 | .nil=>.nilp
 | .node k v a b=>.ip [.str k,f v,.int .i64 ((Tr.ht (.node k v a b):Nat):Int),.im (cY f a),.im (cY f b)] 0
def kO (k:List UInt8) (v:α) (a b:Tr α):Tr α :=
 if b.ht+1<a.ht then
  match a with
  | .node ak av aa ab=>if ab.ht<=aa.ht then .node ak av aa (.node k v ab b)else match ab with
   | .node mk mv ma mb=>.node mk mv (.node ak av aa ma) (.node k v mb b)
   | .nil=>.node k v a b
  | .nil=>.node k v a b
 else if a.ht+1<b.ht then
  match b with
  | .node bk bv ba bb=>if ba.ht<=bb.ht then .node bk bv (.node k v a ba) bb else match ba with
   | .node mk mv ma mb=>.node mk mv (.node k v a ma) (.node bk bv mb bb)
   | .nil=>.node k v a b
  | .nil=>.node k v a b
 else .node k v a b
def iM (key:List UInt8) (w:α):Tr α->Tr α
 | .nil=>.node key w .nil .nil
 | .node k v a b=>if Op.bytesLess key k then kO k v (iM key w a) b else if Op.bytesLess k key then kO k v a (iM key w b)else .node key w a b
def dE (key:List UInt8):Tr α->Tr α
 | .nil=>.nil
 | .node k v a b=>if k=key then .node k v a b else if Op.bytesLess key k then dE key a else dE key b
def Tr.isNil:Tr α->Bool
 | .nil=>true
 | .node _ _ _ _=>false
def firstT (d:List UInt8 × α):Tr α->List UInt8 × α
 | .nil=>d
 | .node k v a _=>firstT (k,v) a
def kT (key:List UInt8):Tr α->Tr α
 | .nil=>.nil
 | .node k v a b=>if Op.bytesLess key k then kO k v (kT key a) b else if Op.bytesLess k key then kO k v a (kT key b)else
  match a,b with
  | .nil,b=>b
  | a,.nil=>a
  | a,.node bk bv ba bb=>kO (firstT (bk,bv) ba).1 (firstT (bk,bv) ba).2 a (kT (firstT (bk,bv) ba).1 (.node bk bv ba bb))
def DD (a b:List UInt8):Bool:=Op.bytesLess a b||decide (a=b)
def bE (key:List UInt8):Tr α->List (List UInt8 × α)
 | .nil=>[]
 | .node k v a b=>(if DD key k then bE key a ++ [(k,v)]else [])++bE key b
section
variable [Globs]
def vI (P:Program) (ks:List Pl) (J:List (List V)->List O->Prop) (S:List O->Prop) (L:List (List V)):Prop :=
 ∀pre x post B,pre++x::post=L->AYield P 1 (.yld 0::x) [.res (cu (J pre) ks B) B] fun r H' =>
  ∃B', (r = .bool true/\H' = [.res (cu (J (pre ++ [x])) ks B') B'])\/(r = .bool false/\H' = [.res (cu S ks B') B'])
theorem kK {P:Program} {ks:List Pl} {J:List (List V)->List O->Prop} {S:List O->Prop} {L:List (List V)} (hL:∀x∈L,x.all aY=true)
 (h:∀pre x post Hs,pre++x::post=L->J pre Hs->AYield P ks.length (.yld 0::x) Hs fun r Hs' => (r = .bool true/\J (pre ++ [x]) Hs')\/(r = .bool false/\S Hs')):vI P ks J S L :=
 fun pre x post B hp=>wQ (hL x (by rw[<-hp]; simp)) (fun Hs hJ=>h pre x post Hs hp hJ) fun r Hs B' hr=>by
  rcases hr with⟨rfl,h1⟩ | ⟨rfl,h1⟩
  . exact⟨⟨_,rfl⟩,_,h1,B', .inl ⟨rfl,rfl⟩⟩
  . exact⟨⟨_,rfl⟩,_,h1,B', .inr ⟨rfl,rfl⟩⟩
end
def cM (f:α->V) (l:List (List UInt8 × α)):List (List V):=l.map fun kv=>[.str kv.1,f kv.2]
theorem nT (k:List UInt8) (v:α) (a b:Tr α):(kO k v a b).ht<=1+max a.ht b.ht:=by
 unfold kO;split
 . split
   . split
     . simp only[Tr.ht]at *; omega
     . split
       . simp only[Tr.ht]at *; omega
       . simp only[Tr.ht]at *; omega
   . simp only[Tr.ht]at *; omega
 . split
   . split
     . split
       . simp only[Tr.ht]at *; omega
       . split
         . simp only[Tr.ht]at *; omega
         . simp only[Tr.ht]at *; omega
     . simp only[Tr.ht]at *; omega
   . simp only[Tr.ht]at *; omega
theorem sE (key:List UInt8) (w:α):∀t:Tr α,(iM key w t).ht<=t.ht+1
 | .nil=>by simp[iM,Tr.ht]
 | .node k v a b=>by
  have h1:=sE key w a;have h2:=sE key w b;simp only[iM];split
  . have:=nT k v (iM key w a) b;simp only[Tr.ht]; omega
  . split
    . have:=nT k v a (iM key w b);simp only[Tr.ht]; omega
    . simp only[Tr.ht]; omega
def Tr.size:Tr α->Nat
 | .nil=>0
 | .node _ _ a b=>1+a.size+b.size
theorem sD:∀(t:Tr α) (key:List UInt8),(kT key t).ht<=t.ht
 | .nil,key=>by simp[kT,Tr.ht]
 | .node k v a b,key=>by
  have h1:=sD a key;have h2:=sD b;unfold kT;split
  . have:=nT k v (kT key a) b;simp only[Tr.ht]; omega
  . split
    . have:=nT k v a (kT key b);have:=h2 key;simp only[Tr.ht]; omega
    . split
      . simp only[Tr.ht]; omega
      . simp only[Tr.ht]; omega
      . rename_i bk bv ba bb _;have:=nT (firstT (bk,bv) ba).1 (firstT (bk,bv) ba).2 a (kT (firstT (bk,bv) ba).1 (.node bk bv ba bb));have:=h2 (firstT (bk,bv) ba).1;simp only[Tr.ht]at *; omega
end
section
variable {α:Type}
def fm:Tr α->List (List UInt8 × α)
 | .nil=>[]
 | .node k v a b=>fm a++(k,v)::fm b
def aO (l:List (List UInt8 × α)):Prop:=l.Pairwise fun x y=>Op.bytesLess x.1 y.1=true
theorem lr (k:List UInt8) (v:α) (a b:Tr α):fm (kO k v a b)=fm a++(k,v)::fm b:=by
 unfold kO
 repeat' split
 all_goals simp[fm]
def fz (key:List UInt8) (w:α):List (List UInt8 × α)->List (List UInt8 × α)
 | []=>[(key,w)]
 | (k,v)::l=>if Op.bytesLess key k then(key,w)::(k,v)::l else if Op.bytesLess k key then(k,v)::fz key w l else(key,w)::l
theorem yR {key:List UInt8} {w:α} {k:List UInt8} {v:α} {l2:List (List UInt8 × α)} (h:Op.bytesLess key k=true):∀l1,fz key w (l1++(k,v)::l2)=fz key w l1++(k,v)::l2
 | []=>by simp[fz,h]
 | (x,y)::l1=>by
  simp only[List.cons_append,fz];split
  . simp
  . split
    . rw[yR h l1]; simp
    . simp
theorem uP {key:List UInt8} {w:α} {k:List UInt8} {v:α} {l2:List (List UInt8 × α)} (h:Op.bytesLess k key=true):∀l1,(∀x∈l1,Op.bytesLess x.1 k=true)->fz key w (l1++(k,v)::l2)=l1++(k,v)::fz key w l2
 | [],_=>by simp[fz,h,fZ h]
 | (x,y)::l1,hl=>by
  have h1:=bW (hl (x,y) (by simp)) h
  simp only[List.cons_append,fz];rw[if_neg (by rw[fZ h1]; simp),if_pos h1,uP h l1 (fun z hz=>hl z (by simp[hz]))]
theorem yP {key:List UInt8} {w v:α} {l2:List (List UInt8 × α)}:∀l1,(∀x∈l1,Op.bytesLess x.1 key=true)->fz key w (l1++(key,v)::l2)=l1++(key,w)::l2
 | [],_=>by simp[fz,bf]
 | (x,y)::l1,hl=>by
  have h1:=hl (x,y) (by simp)
  simp only at h1;simp only[List.cons_append,fz];rw[if_neg (by rw[fZ h1]; simp),if_pos h1,yP l1 (fun z hz=>hl z (by simp[hz]))]
theorem f0 {l1 l2:List (List UInt8 × α)} {k:List UInt8} {v:α} (h:aO (l1++(k,v)::l2)):aO l1/\aO l2/\(∀x∈l1,Op.bytesLess x.1 k=true)/\(∀x∈l2,Op.bytesLess k x.1=true)/\(∀x∈l1,∀y∈l2,Op.bytesLess x.1 y.1=true):=by
 unfold aO at *;rw[List.pairwise_append,List.pairwise_cons]at h;obtain⟨h1,⟨h2,h3⟩,h4⟩:=h;exact⟨h1,h3,fun x hx=>h4 x hx (k,v) (by simp),fun x hx=>h2 x hx,fun x hx y hy=>h4 x hx y (by simp[hy])⟩
theorem qS (key:List UInt8) (w:α):∀t:Tr α,aO (fm t)->fm (iM key w t)=fz key w (fm t)
 | .nil,_=>rfl
 | .node k v a b,h=>by
  obtain⟨h1,h2,h3,h4,h5⟩:=f0 h;simp only[iM];split
  . rename_i c;rw[lr,qS key w a h1];exact(yR c _).symm
  . split
    . rename_i c;rw[lr,qS key w b h2];exact(uP c _ h3).symm
    . rename_i c1 c2;have e:key=k:=cz (by simpa using c1) (by simpa using c2)
      subst e;exact(yP _ h3).symm
theorem Ci {key:List UInt8} {w:α} {x:List UInt8 × α}:∀ {l:List (List UInt8 × α)},x∈fz key w l->x=(key,w)\/x∈l
 | [],h=>by simp[fz]at h; exact .inl h
 | (k,v)::l,h=>by
  simp only[fz]at h;split at h
  . simp at h; simp; exact h
  . split at h
    . simp at h;rcases h with h | h
      . simp[h]
      . rcases Ci h with h | h
        . exact .inl h
        . simp[h]
    . simp at h;rcases h with h | h
      . exact .inl h
      . simp[h]
theorem mV {key:List UInt8} {w:α}:∀ {l:List (List UInt8 × α)},aO l->aO (fz key w l)
 | [],_=>by simp[fz,aO]
 | (k,v)::l,h=>by
  have h' := h;unfold aO at h' ⊢;rw[List.pairwise_cons]at h';simp only[fz];split
  . rename_i c;rw[List.pairwise_cons];refine⟨fun x hx=>?_,h⟩
    rcases List.mem_cons.1 hx with rfl | hx
    . exact c
    . exact bW c (h'.1 x hx)
  . split
    . rename_i c;rw[List.pairwise_cons];refine⟨fun x hx=>?_,mV h'.2⟩
      rcases Ci hx with rfl | hx
      . exact c
      . exact h'.1 x hx
    . rename_i c1 c2;have e:key=k:=cz (by simpa using c1) (by simpa using c2)
      subst e;rw[List.pairwise_cons];exact⟨fun x hx=>h'.1 x hx,h'.2⟩
def cj (key:List UInt8) (l:List (List UInt8 × α)):Bool:=l.any fun x=>decide (x.1=key)
theorem yO (key:List UInt8) (a b:List (List UInt8 × α)):cj key (a++b)=(cj key a||cj key b):=by simp[cj]
theorem jI {key:List UInt8} {l:List (List UInt8 × α)} (h:∀x∈l,x.1≠key):cj key l=false:=by
 simp[cj]; exact fun a b hx=>h (a,b) hx
theorem jD (key:List UInt8):∀t:Tr α,aO (fm t)->(dE key t).isNil = !cj key (fm t)
 | .nil,_=>rfl
 | .node k v a b,h=>by
  obtain⟨h1,h2,h3,h4,h5⟩:=f0 h;simp only[dE,fm,yO];split
  . rename_i e;subst e;simp[Tr.isNil,cj]
  . rename_i hne;have hk:cj key ((k,v)::fm b)=cj key (fm b):=by simp[cj,hne]
    rw[hk];split
    . rename_i c;rw[jD key a h1,jI (l:=fm b) fun x hx=>?_,Bool.or_false]
      intro e;have:=bW c (h4 x hx);rw[e,bf]at this; cases this
    . rename_i c;have c' : Op.bytesLess key k=false:=by simpa using c
      rw[jD key b h2,jI (l:=fm a) fun x hx=>?_,Bool.false_or]
      intro e;have:=h3 x hx;rw[e,c']at this; cases this
theorem yW {key:List UInt8} {w:α}:∀ {l:List (List UInt8 × α)},aO l->(fz key w l).length=if cj key l then l.length else l.length+1
 | [],_=>by simp[fz,cj]
 | (k,v)::l,h=>by
  have h' := h;unfold aO at h';rw[List.pairwise_cons]at h';simp only[fz];split
  . rename_i c;rw[jI]
    . simp
    . intro x hx e;rcases List.mem_cons.1 hx with rfl | hx
      . simp only at e; rw[e,bf]at c; cases c
      . have:=bW c (h'.1 x hx);rw[e,bf]at this; cases this
  . split
    . rename_i c;have hne:k≠key:=gc c;have:cj key ((k,v)::l)=cj key l:=by simp[cj,hne]
      rw[this,List.length_cons,yW h'.2];split<;>simp
    . rename_i c1 c2;have e:key=k:=cz (by simpa using c1) (by simpa using c2)
      subst e;have:cj key ((key,v)::l)=true:=by simp[cj]
      rw[this]; simp
def nK (key:List UInt8) (l:List (List UInt8 × α)):List (List UInt8 × α):=l.filter fun x=>!decide (x.1=key)
theorem ig {key:List UInt8} {l:List (List UInt8 × α)} (h:∀x∈l,x.1≠key):nK key l=l:=by
 unfold nK;rw[List.filter_eq_self];intro x hx;simp[h x hx]
theorem qJ {key:List UInt8} {v:α} {l1 l2:List (List UInt8 × α)} (h:aO (l1++(key,v)::l2)):nK key (l1++(key,v)::l2)=l1++l2:=by
 obtain⟨_,_,h3,h4,_⟩:=f0 h;have e1:=ig (l:=l1) (key:=key) fun x hx=>gc (h3 x hx)
 have e2:=ig (l:=l2) (key:=key) fun x hx=>(gc (h4 x hx)).symm
 unfold nK at *;rw[List.filter_append,List.filter_cons];simp[e1,e2]
theorem yA (d:List UInt8 × α):∀t:Tr α,∃r,fm t ++ [d]=firstT d t::r
 | .nil=>⟨[],rfl⟩
 | .node k v a b=>by
  obtain⟨r,hr⟩:=yA (k,v) a;refine⟨r++fm b ++ [d],?_⟩;simp only[fm,firstT];have:fm a++(k,v)::fm b=(fm a ++ [(k,v)])++fm b:=by simp
  rw[this,hr]; simp
theorem A1 (k:List UInt8) (v:α) (a b:Tr α):∃r,fm (.node k v a b)=firstT (k,v) a::r:=by
 obtain⟨r,hr⟩:=yA (k,v) a;refine⟨r++fm b,?_⟩;have:fm (.node k v a b)=(fm a ++ [(k,v)])++fm b:=by simp[fm]
 rw[this,hr]; simp
theorem qR:∀(t:Tr α) (key:List UInt8),aO (fm t)->fm (kT key t)=nK key (fm t)
 | .nil,_,_=>rfl
 | .node k v a b,key,h=>by
  obtain⟨h1,h2,h3,h4,h5⟩:=f0 h;have hb:=fun key=>qR b key h2
  unfold kT;split
  . rename_i c;rw[lr,qR a key h1];have e2:=ig (l:=fm b) (key:=key) fun x hx e=>by
     have:=bW c (h4 x hx);rw[e,bf]at this; cases this
    have hne:k≠key:=(gc c).symm;simp only[fm];unfold nK at *;rw[List.filter_append,List.filter_cons];simp[e2,hne]
  . rename_i c1;split
    . rename_i c;rw[lr,hb key];have e1:=ig (l:=fm a) (key:=key) fun x hx e=>by
       have:=bW (h3 x hx) c;rw[e,bf]at this; cases this
      have hne:k≠key:=gc c;simp only[fm];unfold nK at *;rw[List.filter_append,List.filter_cons];simp[e1,hne]
    . rename_i c2;have e:key=k:=cz (by simpa using c1) (by simpa using c2)
      subst e;have hd:nK key (fm (.node key v a b))=fm a++fm b:=qJ h;rw[hd];split
      . simp[fm]
      . simp[fm]
      . rename_i bk bv ba bb _;rw[lr,hb];obtain⟨r,hr⟩:=A1 bk bv ba bb;rw[hr];rw[hr]at h2;have:=qJ (l1:=[]) (l2:=r) (key:=(firstT (bk,bv) ba).1) (v:=(firstT (bk,bv) ba).2) (by simpa using h2)
        simp only[List.nil_append]at this;rw[show((firstT (bk,bv) ba).1,(firstT (bk,bv) ba).2)=firstT (bk,bv) ba from rfl]at this
        rw[this]
theorem sc {key:List UInt8} {l:List (List UInt8 × α)} (h:aO l):aO (nK key l):=List.Pairwise.filter _ h
theorem B8 {key:List UInt8}:∀ {l:List (List UInt8 × α)},aO l->cj key l=true->(nK key l).length+1=l.length
 | [],_,h=>by simp[cj]at h
 | (k,v)::l,hs,h=>by
  have h' := hs;unfold aO at h';rw[List.pairwise_cons]at h';by_cases e:k=key
  . subst e;have:=qJ (l1:=[]) (l2:=l) (key:=k) (v:=v) (by simpa using hs)
    simp only[List.nil_append]at this;rw[this]; simp
  . have h2:cj key l=true:=by simpa [cj,e]using h
    have:=B8 h'.2 h2;unfold nK at *;rw[List.filter_cons];simp[e]; omega
theorem fe (key:List UInt8):∀t:Tr α,aO (fm t)->bE key t=(fm t).filter fun x=>DD key x.1
 | .nil,_=>rfl
 | .node k v a b,h=>by
  obtain⟨h1,h2,h3,h4,h5⟩:=f0 h;simp only[bE,fm];rw[fe key b h2,List.filter_append,List.filter_cons];cases c:DD key k with
  | true=>simp[fe key a h1]
  | false =>
   simp only[DD,Bool.or_eq_false_iff,decide_eq_false_iff_not]at c;have:(fm a).filter (fun x=>DD key x.1) = []:=by
    rw[List.filter_eq_nil_iff];intro x hx hle;simp only[DD,Bool.or_eq_true,decide_eq_true_eq]at hle;have h6:=h3 x hx;rcases hle with hle | hle
    . have:=bW hle h6;rw[c.1]at this; cases this
    . rw[hle]at c; rw[h6]at c; exact absurd c.1 (by simp)
   simp[this]
end
section
structure TOk {α:Type} (t:Tr α) (n:Int) (m:Nat):Prop where
 srt:aO (fm t)
 len:n=((fm t).length:Int)
 le:(fm t).length<=m
 ht:t.ht<=m
theorem TOk.nil {α:Type}:TOk (.nil:Tr α) 0 0:=⟨by simp[fm,aO],rfl,by simp[fm],by simp[Tr.ht]⟩
theorem TOk.mono {α:Type} {t:Tr α} {n:Int} {m m' : Nat} (h:TOk t n m) (hm:m<=m'):TOk t n m' := ⟨h.srt,h.len,Nat.le_trans h.le hm,Nat.le_trans h.ht hm⟩
theorem TOk.put {α:Type} {t:Tr α} {n:Int} {m:Nat} (h:TOk t n m) (hm:m<1099511627776) (key:List UInt8) (v:α):TOk (iM key v t) (if(dE key t).isNil then IntKind.i64.wrap (n+1)else n) (m+1):=by
 have h1:=qS key v t h.srt;have h2:=yW (key:=key) (w:=v) h.srt;have h3:=jD key t h.srt;have h4:=sE key v t;have h5:=h.le;have h6:=h.ht;have h7:=h.len;rw[<-h1]at h2;refine⟨by rw[h1]; exact mV h.srt,?_,?_,by omega⟩
 . rw[h3];cases hc:cj key (fm t)with
   | true=>rw[hc]at h2; simp only[if_true]at h2; simp only[Bool.not_true,Bool.false_eq_true,if_false]; omega
   | false =>
    rw[hc]at h2;simp only[Bool.false_eq_true,if_false]at h2;simp only[Bool.not_false,if_true];rw[IntKind.wrap_i64]; omega
 . split at h2<;>omega
theorem TOk.cut {α:Type} {t:Tr α} {n:Int} {m:Nat} (h:TOk t n m) (hm:m<1099511627776) (key:List UInt8):TOk (if(dE key t).isNil then t else kT key t) (if(dE key t).isNil then n else IntKind.i64.wrap (n-1)) m:=by
 have h3:=jD key t h.srt;cases hc:cj key (fm t)with
 | false =>
  rw[h3,hc];simp only[Bool.not_false,if_true];exact h
 | true =>
  rw[h3,hc];simp only[Bool.not_true,Bool.false_eq_true,if_false];have h1:=qR t key h.srt;have h2:=B8 h.srt hc;have h4:=sD t key;have h5:=h.le;have h6:=h.ht;have h7:=h.len;rw[<-h1]at h2;refine⟨by rw[h1]; exact sc h.srt,?_,by omega,by omega⟩
  rw[IntKind.wrap_i64]; omega
theorem Hx (k:List UInt8):DD [] k=true:=by cases k<;>simp[DD,Op.bytesLess]
end
section
def sA {α:Type} (key:List UInt8):List (List UInt8 × α)->Bool
 | []=>false
 | x::_=>decide (x.1=key)
theorem uQ {α:Type} {key:List UInt8} {v:α} {b:List (List UInt8 × α)}:∀ {a:List (List UInt8 × α)},(∀x∈a,Op.bytesLess x.1 key=true)->(∀x r,b=x::r->Op.bytesLess x.1 key=false)->fz key v (a++b)=a++(key,v)::(if sA key b then b.tail else b)
 | [],_,hb=>by
  cases b with
  | nil=>simp[fz,sA]
  | cons x r =>
   obtain⟨k,w⟩:=x;have h1:=hb (k,w) r rfl;simp only[List.nil_append,fz,sA];by_cases e:k=key
   . subst e; simp[bf]
   . have h2:Op.bytesLess key k=true:=by
      cases h:Op.bytesLess key k with
      | true=>rfl
      | false=>exact absurd (cz h1 h) e
     simp[h2,e]
 | (k,w)::a,ha,hb=>by
  have h1:=ha (k,w) (by simp)
  simp only at h1;simp only[List.cons_append,fz];rw[if_neg (by rw[fZ h1]; simp),if_pos h1,uQ (fun x hx=>ha x (by simp[hx])) hb]
theorem mU {α:Type} {key:List UInt8} {a b:List (List UInt8 × α)} (hs:aO (a++b)) (ha:∀x∈a,Op.bytesLess x.1 key=true) (hb:∀x r,b=x::r->Op.bytesLess x.1 key=false):cj key (a++b)=sA key b:=by
 rw[yO,jI (l:=a) fun x hx=>gc (ha x hx),Bool.false_or]
 cases b with
 | nil=>rfl
 | cons x r =>
  obtain⟨k,w⟩:=x;have h1:=hb (k,w) r rfl;simp only at h1;unfold aO at hs;rw[List.pairwise_append,List.pairwise_cons]at hs;have h2:=hs.2.1.1;by_cases e:k=key
  . simp[cj,sA,e]
  . have h3:Op.bytesLess key k=true:=by
     cases h:Op.bytesLess key k with
     | true=>rfl
     | false=>exact absurd (cz h1 h) e
    have:cj key r=false:=jI fun x hx e' => by
     have:=bW h3 (h2 x hx);rw[e', bf]at this; cases this
    have h4:cj key ((k,w)::r)=(decide (k=key)||cj key r):=by simp[cj]
    rw[h4,this]; simp[sA]
theorem Da {α:Type} {key:List UInt8} {a b:List (List UInt8 × α)} (hs:aO (a++b)) (ha:∀x∈a,Op.bytesLess x.1 key=true) (hb:∀x r,b=x::r->Op.bytesLess x.1 key=false):nK key (a++b)=if sA key b then a++b.tail else a++b:=by
 cases h:sA key b with
 | true =>
  cases b with
  | nil=>simp[sA]at h
  | cons x r =>
   obtain⟨k,w⟩:=x;have e:k=key:=by simpa [sA]using h
   subst e;rw[if_pos rfl];exact qJ hs
 | false =>
  rw[<-mU hs ha hb]at h;simp only[Bool.false_eq_true,if_false];refine ig fun x hx e=>?_
  have:cj key (a++b)=true:=by simp only[cj,List.any_eq_true]; exact⟨x,hx,by simp[e]⟩
  rw[this]at h; cases h
variable {α:Type}
end
section
structure Col where
 n:List UInt8
 k:Int
 o:Bool
 deriving DecidableEq
def GV (c:Col):List V:=[.str c.n,.int .i64 c.k,.bool c.o]
def cols (l:List Col):List (List V):=l.map GV
def sch (l:List Col) (keys:Int):V:=.agg [.sl 3 (cols l) false,.int .i64 keys]
theorem aw (l:List Col):(cols l).length=l.length:=by simp[cols]
theorem bj {l:List Col} {i:Nat} {c:Col} (h:l[i]? = some c):(cols l)[i]? = some [.str c.n,.int .i64 c.k,.bool c.o]:=by simp[cols,h,GV]
theorem nG (a b:List Col):cols (a++b)=cols a++cols b:=by simp[cols]
def dQ (name:List UInt8):List Col->Nat->Int
 | [],_=>-1
 | c::l,i=>if c.n=name then i else dQ name l (i+1)
theorem ss {name:List UInt8}:∀ {a b:List Col} {i:Nat},(∀c∈a,c.n≠name)->dQ name (a++b) i=dQ name b (i+a.length)
 | [],b,i,_=>rfl
 | c::a,b,i,h=>by
  simp only[List.cons_append,dQ];rw[if_neg (h c (by simp)),ss fun x hx=>h x (by simp[hx])]
  simp only[List.length_cons];congr 1; omega
theorem jF {name:List UInt8} {l:List Col} {i:Nat} {c:Col} (h:∀c∈l.take i,c.n≠name) (hc:l[i]? = some c) (hn:c.n=name):dQ name l 0=i:=by
 have hlt:=(liZ.1 hc).1;have e:l=l.take i++c::l.drop (i+1):=by
  have:=liZ.1 hc;rw[<-this.2,<-List.drop_eq_getElem_cons hlt,List.take_append_drop]
 rw[e,ss h];simp only[dQ,hn,if_true,List.length_take];omega
theorem sr {name:List UInt8} {l:List Col} (h:∀c∈l,c.n≠name):dQ name l 0 = -1:=by
 have:=ss (b:=[]) (i:=0) h;rw[List.append_nil]at this;rw[this]; rfl
end
end Go.Proofs.YteiagdlfccbpcaaGreatDoorPg
