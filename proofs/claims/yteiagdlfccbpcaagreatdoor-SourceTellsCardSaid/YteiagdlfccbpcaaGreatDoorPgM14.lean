/- Own texts, laid together: PgE92, PgE10, PgE11, PgSo1, PgWin2, PgWin3, PgWin4, PgWin5, PgE12. -/
import Derived.Test.YteiagdlfccbpcaaGreatDoorPgM12
import Derived.Lib.Overlaps
import Derived.Test.YteiagdlfccbpcaaGreatDoorPgM11
import Derived.Test.YteiagdlfccbpcaaGreatDoorPgM2
set_option linter.unusedSectionVars false
set_option linter.unusedSimpArgs false
set_option linter.unusedVariables false
namespace Go.Proofs.YteiagdlfccbpcaaGreatDoorPg
open Go Go.RowKit
section
variable [Globs]
variable {P:Program} {I:aU} {ρ:List Pl} {H:List O} {w:World}
def rl (o:O):Prop:=(∃es,o = .buf es) \/ ∃es,o = .bufc es
theorem dO (tS tR e:TypeId) (ht:P.underlying tS=some (.slice e)) (size:Nat) (hz:∀w,(Go.sizeOf e).run P w = .ok size w) (a b:Option Addr) (la ca lb cb:Nat) (h0:la=0\/lb=0) :
 (Extern.SlicesOverlaps.overlaps #[tS,tS] #[tR] #[.slice a la ca,.slice b lb cb]).run P w = .ok (.bool false) w:=by
 have h0' : la=0\/lb=0\/size=0:=by omega
 change Sem.run P (α:=Value) (do
  let some t:=(#[tS,tS]:Array TypeId)[0]? | stuck "slices.overlaps: no parameter types"
  let .slice elem <-underlying t | stuck "slices.overlaps: slice type expected"
  let size <-sizeOf elem
  match a,b with
  | some a,some b =>
   if la=0\/lb=0\/size=0 then pure (Value.bool false)
   else if a.block != b.block&&(<-frozen a)&&(<-frozen b)then unsupported .addressObserved
   else do
    if a.block != b.block then do
     noView a; noView b
     if <-mayBeOne a b then return Value.bool ((<-choose (.extern "sameAddr.stringBytes" 2)) == 1)
    pure (Value.bool (a.block == b.block&&a.off<b.off+lb*size&&b.off<a.off+la*size))
  | _,_=>pure (Value.bool false)) w=_
 cases a<;>cases b<;>simp[af ht,hz,h0']
theorem Cp (hst:St I ρ H w) {i:Nat} {p:Pl} (hp:ρ[i]? = some p) (hb:rl (ar H i)) (ht:p.tot≠0):(ar H i).owns p p.b/\H[i]? = some (ar H i)/\Open w p.b p.base (p.base+p.tot*p.sz):=by
 rcases hb with⟨es,hg⟩ | ⟨es,hg⟩
 . have hH:=ax hg (by simp)
   rw[hg];rcases hst.obj i p _ hp hH with⟨_,h0⟩ | ⟨_,o2,_⟩
   . exact absurd h0 ht
   . exact⟨⟨ht,rfl⟩,hH,o2⟩
 . have hH:=ax hg (by simp)
   rw[hg];obtain⟨_,o2,_⟩:=hst.obj i p _ hp hH;exact⟨⟨trivial,rfl⟩,hH,o2⟩
theorem wP {tS tR e:TypeId} (ht:P.underlying tS=some (.slice e)) {size:Nat} (hz:∀w,(Go.sizeOf e).run P w = .ok size w) (hst:St I ρ H w) {z i a n j b m:Nat} {f g:Bool} (hz0:0<z) (hij:i≠j) (hi:rl (ar H i)) (hj:rl (ar H j)) {u v:Value}
 (hu:VRel I ρ (.ms z i a n f) u) (hv:VRel I ρ (.ms z j b m g) v):(Extern.SlicesOverlaps.overlaps #[tS,tS] #[tR] #[u,v]).run P w = .ok (.bool false) w:=by
 generalize hz1:z=z1 at hu;cases hu with
 | ms0 =>
  cases hv with
  | ms0=>exact dO tS tR e ht size hz _ _ _ _ _ _ (.inl rfl)
  | ms=>exact dO tS tR e ht size hz _ _ _ _ _ _ (.inl rfl)
 | ms _ _ _ _ cap _ p hp m1 m2 m3 m4 =>
  generalize hz2:z=z2 at hv;cases hv with
  | ms0=>exact dO tS tR e ht size hz _ _ _ _ _ _ (.inr rfl)
  | ms _ _ _ _ cap2 _ q hq k1 k2 k3 k4 =>
   by_cases h0:n=0\/m=0
   . exact dO tS tR e ht size hz _ _ _ _ _ _ h0
   . obtain⟨r1,r2,r3⟩:=Cp hst hp hi (by omega)
     obtain⟨s1,s2,s3⟩:=Cp hst hq hj (by omega)
     have hne:p.b≠q.b:=fun e=>hij (hst.inj i j p q _ _ q.b hp r2 (by rw[<-e]; exact r1) hq s2 s1)
     obtain⟨c,t,fr,c1,c2,c3⟩:=r3;obtain⟨c', t', fr', d1,d2,d3⟩:=s3;have hpos:0<q.tot*q.sz:=Nat.mul_pos (by omega) (by omega)
     refine Lib.run_overlaps_apart w tS tR e ht size hz _ _ n cap m cap2 hne t t' c.size c'.size ?_ ?_ (by omega) (c3 _ (by omega)) (c3 _ (by omega))
     . simp[World.shape?,c1]
     . simp[World.shape?,d1]
end
section
variable [Globs]
end
section
variable [Globs]
variable {I:aU} {ρ:List Pl} {H:List O} {w:World}
theorem F8 (hst:St I ρ H w) {i j:Nat} {pi pj:Pl} {oi oj oi' oj' : O} (hij:i≠j) (hpi:ρ[i]? = some pi) (hpj:ρ[j]? = some pj) (hi:H[i]? = some oi) (hj:H[j]? = some oj)
 (hown:∀b,(oi'.owns pi b\/oj'.owns pj b) ↔ (oi.owns pi b\/oj.owns pj b)) (hdis:∀b,oi'.owns pi b -> ¬oj'.owns pj b) (ri:ORel I ρ w pi oi') (rj:ORel I ρ w pj oj') :
 St I ρ ((H.set i oi').set j oj') w /\ ∀b,az ρ ((H.set i oi').set j oj') b ↔ az ρ H b:=by
 have hli:=(liZ.1 hi).1;have hlj:=(liZ.1 hj).1;have gi:((H.set i oi').set j oj')[i]? = some oi' := by rw[List.getElem?_set_ne (Ne.symm hij),List.getElem?_set_self hli]
 have gj:((H.set i oi').set j oj')[j]? = some oj' := by rw[List.getElem?_set_self (by rw[List.length_set]; exact hlj)]
 have go:∀k,k≠i->k≠j->((H.set i oi').set j oj')[k]? = H[k]?:=fun k h1 h2=>by rw[List.getElem?_set_ne (Ne.symm h2),List.getElem?_set_ne (Ne.symm h1)]
 have mc:∀b,oi'.owns pi b\/oj'.owns pj b->oi.owns pi b\/oj.owns pj b:=fun b h=>(hown b).1 h
 have side:∀(k:Nat) (q:Pl) (y:O) (b:Nat),k≠i->k≠j->ρ[k]? = some q->H[k]? = some y->y.owns q b -> ¬(oi'.owns pi b\/oj'.owns pj b):=fun k q y b h1 h2 hq hy hb h=>by
  rcases mc b h with h | h
  . exact h1 (hst.inj k i q pi y oi b hq hy hb hpi hi h)
  . exact h2 (hst.inj k j q pj y oj b hq hy hb hpj hj h)
 have owned:∀b,az ρ ((H.set i oi').set j oj') b ↔ az ρ H b:=fun b=>by
  constructor
  . rintro⟨k,q,y,hq,hy,hb⟩;by_cases h1:k=i
    . subst h1; rw[gi]at hy; cases hy; rw[hpi]at hq; cases hq;rcases mc b (.inl hb)with h | h
      . exact⟨k,pi,oi,hpi,hi,h⟩
      . exact⟨j,pj,oj,hpj,hj,h⟩
    . by_cases h2:k=j
      . subst h2; rw[gj]at hy; cases hy; rw[hpj]at hq; cases hq;rcases mc b (.inr hb)with h | h
        . exact⟨i,pi,oi,hpi,hi,h⟩
        . exact⟨k,pj,oj,hpj,hj,h⟩
      . rw[go k h1 h2]at hy; exact⟨k,q,y,hq,hy,hb⟩
  . rintro⟨k,q,y,hq,hy,hb⟩;have fin:oi.owns pi b\/oj.owns pj b->az ρ ((H.set i oi').set j oj') b:=fun h=>by
     rcases(hown b).2 h with h | h
     . exact⟨i,pi,oi', hpi,gi,h⟩
     . exact⟨j,pj,oj', hpj,gj,h⟩
    by_cases h1:k=i
    . subst h1; rw[hi]at hy; cases hy; rw[hpi]at hq; cases hq; exact fin (.inl hb)
    . by_cases h2:k=j
      . subst h2; rw[hj]at hy; cases hy; rw[hpj]at hq; cases hq; exact fin (.inr hb)
      . exact⟨k,q,y,hq,by rw[go k h1 h2]; exact hy,hb⟩
 refine⟨⟨by rw[List.length_set,List.length_set]; exact hst.len,fun k q y hq hy=>?_,fun k m q r y z b hq hy hb hr hz hc=>?_,hst.imm,fun b hb o=>hst.sep b ((owned b).1 hb) o⟩,owned⟩
 . by_cases h1:k=i
   . subst h1; rw[gi]at hy; cases hy; rw[hpi]at hq; cases hq; exact ri
   . by_cases h2:k=j
     . subst h2; rw[gj]at hy; cases hy; rw[hpj]at hq; cases hq; exact rj
     . rw[go k h1 h2]at hy; exact hst.obj k q y hq hy
 . have cls:∀(k:Nat) (q:Pl) (y:O),ρ[k]? = some q->((H.set i oi').set j oj')[k]? = some y->y.owns q b->(k=i/\oi'.owns pi b)\/(k=j/\oj'.owns pj b)\/(k≠i/\k≠j/\H[k]? = some y):=fun k q y hq hy hb=>by
    by_cases h1:k=i
    . subst h1; rw[gi]at hy; cases hy; rw[hpi]at hq; cases hq; exact .inl ⟨rfl,hb⟩
    . by_cases h2:k=j
      . subst h2; rw[gj]at hy; cases hy; rw[hpj]at hq; cases hq; exact .inr (.inl ⟨rfl,hb⟩)
      . rw[go k h1 h2]at hy; exact .inr (.inr ⟨h1,h2,hy⟩)
   rcases cls k q y hq hy hb with⟨rfl,h1⟩ | ⟨rfl,h1⟩ | ⟨h1,h2,h3⟩
   . rcases cls m r z hr hz hc with⟨rfl,h4⟩ | ⟨rfl,h4⟩ | ⟨h4,h5,h6⟩
     . rfl
     . exact absurd h4 (hdis b h1)
     . exact absurd (.inl h1) (side m r z b h4 h5 hr h6 hc)
   . rcases cls m r z hr hz hc with⟨rfl,h4⟩ | ⟨rfl,h4⟩ | ⟨h4,h5,h6⟩
     . exact absurd h1 (hdis b h4)
     . rfl
     . exact absurd (.inr h1) (side m r z b h4 h5 hr h6 hc)
   . rcases cls m r z hr hz hc with⟨rfl,h4⟩ | ⟨rfl,h4⟩ | ⟨h4,h5,h6⟩
     . exact absurd (.inl h4) (side k q y b h1 h2 hq h3 hb)
     . exact absurd (.inr h4) (side k q y b h1 h2 hq h3 hb)
     . exact hst.inj k m q r y z b hq h3 hb hr h6 hc
theorem bag_own {p:Pl} {l:List (Nat × List V)} {b:Nat}:(O.bag l).owns p b ↔ b∈l.map (·.1):=Iff.rfl
theorem oV {p:Pl} {cs:List V} {b:Nat}:(O.cells cs).owns p b ↔ p.b=b:=⟨fun h=>h.2,fun h=>⟨trivial,h⟩⟩
theorem iC {p:Pl} {b:Nat}:¬O.dead.owns p b:=fun h=>h.1
theorem BU (hst:St I ρ H w) {i j:Nat} {pi pj:Pl} {l1 l2:List (Nat × List V)} {cs:List V} (hij:i≠j) (hpi:ρ[i]? = some pi) (hpj:ρ[j]? = some pj) (hb0:pj.base=0) (hi:H[i]? = some (.bag (l1++(pj.b,cs)::l2))) (hj:H[j]? = some .dead) :
 St I ρ ((H.set i (.bag (l1++l2))).set j (.cells cs)) w /\ ∀b,az ρ ((H.set i (.bag (l1++l2))).set j (.cells cs)) b ↔ az ρ H b:=by
 obtain⟨hn,hall⟩:=hst.obj i pi _ hpi hi;obtain⟨h1,h2,h3⟩:=hall (pj.b,cs) (by simp)
 rw[List.map_append,List.map_cons]at hn;have hnb:pj.b ∉ (l1++l2).map (·.1):=by
  rw[List.map_append];have:=List.nodup_append.1 hn;have h5:=List.nodup_cons.1 this.2.1;intro hm;rcases List.mem_append.1 hm with hm | hm
  . exact this.2.2 _ hm _ (List.mem_cons_self ..) rfl
  . exact h5.1 hm
 refine F8 hst hij hpi hpj hi hj (fun b=>?_) (fun b hb hc=>?_) ⟨?_,fun x hx=>hall x ?_⟩ ⟨hb0,h1,h2,fun k v hv=>?_⟩
 . rw[bag_own,bag_own,oV,List.map_append,List.map_append,List.map_cons,List.mem_append,List.mem_append,List.mem_cons];have:¬O.dead.owns pj b:=iC;constructor
   . rintro((h | h) | h)
     . exact .inl (.inl h)
     . exact .inl (.inr (.inr h))
     . exact .inl (.inr (.inl h.symm))
   . rintro((h | h | h) | h)
     . exact .inl (.inl h)
     . exact .inr h.symm
     . exact .inl (.inr h)
     . exact absurd h this
 . rw[oV]at hc;exact hnb (hc ▸ bag_own.1 hb)
 . rw[List.map_append];exact hn.sublist (List.Sublist.append_left (List.sublist_cons_self _ _) _)
 . rcases List.mem_append.1 hx with h | h
   . exact List.mem_append.2 (.inl h)
   . exact List.mem_append.2 (.inr (List.mem_cons_of_mem _ h))
 . obtain⟨u,u1,u2,u3⟩:=h3 k v hv;exact⟨u,u1,u2,u3.mono (ILe.refl _) (PLe.nil _)⟩
theorem AG (hst:St I ρ H w) {i j:Nat} {pi pj:Pl} {l1 l2:List (Nat × List V)} {cs:List V} (hij:i≠j) (hpi:ρ[i]? = some pi) (hpj:ρ[j]? = some pj) (hi:H[i]? = some (.bag (l1++l2))) (hj:H[j]? = some (.cells cs)) (hp:∀c∈cs,aY c=true) :
 St I ρ ((H.set i (.bag (l1++(pj.b,cs)::l2))).set j .dead) w /\ ∀b,az ρ ((H.set i (.bag (l1++(pj.b,cs)::l2))).set j .dead) b ↔ az ρ H b:=by
 obtain⟨hn,hall⟩:=hst.obj i pi _ hpi hi;obtain⟨h0,h1,h2,h3⟩:=hst.obj j pj _ hpj hj;have hnb:pj.b ∉ (l1++l2).map (·.1):=fun hm=>hij (hst.inj i j pi pj _ _ pj.b hpi hi hm hpj hj ⟨trivial,rfl⟩)
 rw[List.map_append]at hn hnb;rw[List.mem_append,not_or]at hnb;have hnn:=List.nodup_append.1 hn;refine F8 hst hij hpi hpj hi hj (fun b=>?_) (fun b hb hc=>iC hc) ⟨?_,fun x hx=>?_⟩ trivial
 . rw[bag_own,bag_own,oV,List.map_append,List.map_append,List.map_cons,List.mem_append,List.mem_append,List.mem_cons];have:¬O.dead.owns pj b:=iC;constructor
   . rintro((h | h | h) | h)
     . exact .inl (.inl h)
     . exact .inr h.symm
     . exact .inl (.inr h)
     . exact absurd h this
   . rintro((h | h) | h)
     . exact .inl (.inl h)
     . exact .inl (.inr (.inr h))
     . exact .inl (.inr (.inl h.symm))
 . rw[List.map_append,List.map_cons];refine List.nodup_append.2 ⟨hnn.1,List.nodup_cons.2 ⟨hnb.2,hnn.2.1⟩,fun a ha b hb=>?_⟩
   rcases List.mem_cons.1 hb with rfl | hb
   . exact fun e=>hnb.1 (by have e:a=pj.b:=e; rw[<-e]; exact ha)
   . exact hnn.2.2 a ha b hb
 . rcases List.mem_append.1 hx with h | h
   . exact hall x (List.mem_append.2 (.inl h))
   . rcases List.mem_cons.1 h with rfl | h
     . refine⟨h1,h2,fun k v hv=>?_⟩
       obtain⟨u,u1,u2,u3⟩:=h3 k v hv;exact⟨u,u1,u2,ik (hp v (List.mem_of_getElem? hv)) u3⟩
     . exact hall x (List.mem_append.2 (.inr h))
theorem CH (hst:St I ρ H w) (p:Pl):St I (ρ ++ [p]) (H ++ [.dead]) w /\ ∀b,az (ρ ++ [p]) (H ++ [.dead]) b ↔ az ρ H b:=by
 have get:∀(i:Nat) (q:Pl) (y:O),(ρ ++ [p])[i]? = some q->(H ++ [.dead])[i]? = some y->y = .dead\/(ρ[i]? = some q/\H[i]? = some y):=fun i q y hq hy=>by
  rcases Nat.lt_or_ge i H.length with hi | hi
  . rw[List.getElem?_append_left (by rw[hst.len]; exact hi)]at hq
    rw[List.getElem?_append_left hi]at hy;exact .inr ⟨hq,hy⟩
  . rw[List.getElem?_append_right hi]at hy;have:=List.mem_of_getElem? hy;exact .inl (List.mem_singleton.1 this)
 have owned:∀b,az (ρ ++ [p]) (H ++ [.dead]) b ↔ az ρ H b:=fun b=>by
  constructor
  . rintro⟨i,q,y,hq,hy,hb⟩;rcases get i q y hq hy with rfl | ⟨h1,h2⟩
    . exact absurd hb iC
    . exact⟨i,q,y,h1,h2,hb⟩
  . rintro⟨i,q,y,hq,hy,hb⟩;exact⟨i,q,y,PLe.append _ _ _ _ hq,by rw[List.getElem?_append_left (liZ.1 hy).1]; exact hy,hb⟩
 refine⟨⟨by rw[aD,aD,hst.len]; rfl,fun i q y hq hy=>?_,fun i j q r y z b hq hy hb hr hz hc=>?_,hst.imm,fun b hb o=>hst.sep b ((owned b).1 hb) o⟩,owned⟩
 . rcases get i q y hq hy with rfl | ⟨h1,h2⟩
   . trivial
   . exact(hst.obj i q y h1 h2).keep (fun _ _=>rfl) (ILe.refl _) (PLe.append _ _)
 . rcases get i q y hq hy with rfl | ⟨h1,h2⟩
   . exact absurd hb iC
   . rcases get j r z hr hz with rfl | ⟨h3,h4⟩
     . exact absurd hc iC
     . exact hst.inj i j q r y z b h1 h2 hb h3 h4 hc
theorem ACall.lend {P:Program} {f:FuncId} {as:List V} {H0:List O} {b:Nat} {cs:List V} {l1 l2:List (Nat × List V)} {Q:V->List O->Prop}
 (h:ACall P f (H0.length+2) (as ++ [.ptr (H0.length+1) 0]) (H0 ++ [.bag (l1++l2),.cells cs]) fun r H' => ∃(H1 N:List O) (cs' : List V),H'=H1 ++ .bag (l1++l2) :: .cells cs'::N/\H1.length=H0.length/\(∀c∈cs', aY c=true) /\
  Q r (H1 ++ .bag (l1++(b,cs')::l2) :: .dead::N)) :
 ACall P f (H0.length+1) (as ++ [.raw (.pointer (some ⟨b,0,none⟩))]) (H0 ++ [.bag (l1++(b,cs)::l2)]) Q:=by
 refine⟨fun I ρ w us hst hk ha=>?_⟩
 have hlen:=hst.len;rw[aD,List.length_singleton]at hlen;obtain⟨d1,d2⟩:=CH hst ⟨b,0,0,0⟩;have hn:(H0 ++ [O.bag (l1++(b,cs)::l2)] ++ [O.dead])[H0.length]? = some (.bag (l1++(b,cs)::l2)):=by simp
 have hd:(H0 ++ [O.bag (l1++(b,cs)::l2)] ++ [O.dead])[H0.length+1]? = some .dead:=by simp
 obtain⟨pn,hpn⟩:∃p,ρ[H0.length]? = some p:=⟨ρ[H0.length],aS (by omega)⟩
 have hpn' : (ρ ++ [⟨b,0,0,0⟩])[H0.length]? = some pn:=PLe.append _ _ _ _ hpn;have hpd:(ρ ++ [(⟨b,0,0,0⟩:Pl)])[H0.length+1]? = some ⟨b,0,0,0⟩:=by rw[<-hlen]; simp
 obtain⟨o1,o2⟩:=BU d1 (by omega) hpn' hpd rfl hn hd
 have e1:((H0 ++ [O.bag (l1++(b,cs)::l2)] ++ [O.dead]).set H0.length (.bag (l1++l2))).set (H0.length+1) (.cells cs)=H0 ++ [.bag (l1++l2),.cells cs]:=by
  rw[List.append_assoc,List.set_append_right _ _ (Nat.le_refl _),Nat.sub_self,List.set_append_right _ _ (by omega),Nat.add_sub_cancel_left]
  rfl
 rw[e1]at o1 o2;have own1:∀x,az (ρ ++ [⟨b,0,0,0⟩]) (H0 ++ [.bag (l1++l2),.cells cs]) x ↔ az ρ (H0 ++ [.bag (l1++(b,cs)::l2)]) x:=fun x=>(o2 x).trans (d2 x)
 have hargs:VRels I (ρ ++ [⟨b,0,0,0⟩]) (as ++ [.ptr (H0.length+1) 0]) us.toList:=by
  refine⟨by have:=ha.1; simpa using this,fun i a u hi hu=>?_⟩
  rcases Nat.lt_or_ge i as.length with hl | hl
  . rw[List.getElem?_append_left hl]at hi;exact(ha.2 i a u (by rw[List.getElem?_append_left hl]; exact hi) hu).mono (ILe.refl _) (PLe.append _ _)
  . rw[List.getElem?_append_right hl]at hi;have h0:i-as.length=0:=by
     have:=(liZ.1 hi).1;simp at this; omega
    rw[h0]at hi;simp at hi;subst hi;have:=ha.2 i (.raw (.pointer (some ⟨b,0,none⟩))) u (by rw[List.getElem?_append_right hl,h0]; rfl) hu
    cases this;exact VRel.ptr (I:=I) _ (H0.length+1) 0 ⟨b,0,0,0⟩ hpd
 refine(h.out I _ w us o1 (by rw[aD]; exact Nat.le_refl _) hargs).mono ?_
 rintro en w' ⟨v,r,I2,ρ2,H2,rfl,s1,s2,s3,H1,N,cs', rfl,hH1,hp,hQ⟩;have hk1:ρ2[H0.length]? = some pn:=by rw[s3.take _ (by omega)]; exact hpn'
 have hk2:ρ2[H0.length+1]? = some ⟨b,0,0,0⟩:=by rw[s3.take _ (by omega)]; exact hpd
 have hi1:(H1++O.bag (l1++l2)::O.cells cs'::N)[H0.length]? = some (.bag (l1++l2)):=by rw[<-hH1]; simp
 have hi2:(H1++O.bag (l1++l2)::O.cells cs'::N)[H0.length+1]? = some (.cells cs'):=by rw[<-hH1]; simp
 obtain⟨t1,t2⟩:=AG s1 (by omega) hk1 hk2 hi1 hi2 hp
 have e2:((H1++O.bag (l1++l2)::O.cells cs'::N).set H0.length (.bag (l1++(b,cs')::l2))).set (H0.length+1) O.dead=H1++O.bag (l1++(b,cs')::l2)::O.dead::N:=by
  rw[<-hH1,List.set_append_right _ _ (Nat.le_refl _),Nat.sub_self,List.set_append_right _ _ (by omega),Nat.add_sub_cancel_left]
  rfl
 rw[show(⟨b,0,0,0⟩:Pl).b=b from rfl,e2]at t1 t2
 refine⟨v,r,I2,ρ2,_,rfl,t1,s2,⟨s3.ile,fun i hi=>?_,s3.os,s3.tape,s3.output,s3.size,fun x hx hn=>s3.frame x hx fun ho=>hn ((own1 x).1 ho),fun x hx=>?_,fun x o y hy=>?_⟩,hQ⟩
 . rw[s3.take i (by omega),List.getElem?_append_left (by omega)]
 . rcases s3.own x ((t2 x).1 hx)with h1 | h1
   . exact .inl ((own1 x).1 h1)
   . exact .inr h1
 . rcases s3.imm x o y hy with h1 | h1 | h1
   . exact .inl h1
   . exact .inr (.inl ((own1 x).1 h1))
   . exact .inr (.inr h1)
theorem ACall.stash {P:Program} {f:FuncId} {k:Nat} {args:List V} {H:List O} {Q:V->List O->Prop}
 (h:ACall P f k args H fun r H' => ∃(i j:Nat) (l:List (Nat × List V)) (cs:List V),r = .ptr j 0/\i≠j/\H'[i]? = some (.bag l)/\H'[j]? = some (.cells cs)/\(∀c∈cs,aY c=true) /\
  ∀b,Q (.raw (.pointer (some ⟨b,0,none⟩))) ((H'.set i (.bag (l ++ [(b,cs)]))).set j .dead)):ACall P f k args H Q:=by
 refine⟨fun I ρ w us hst hk ha=>(h.out I ρ w us hst hk ha).mono ?_⟩
 rintro en w' ⟨v,r,I', ρ', H', rfl,s1,s2,s3,i,j,l,cs,rfl,hij,hi,hj,hp,hQ⟩;obtain⟨pj,hpj,hv⟩:=iV s2;obtain⟨pi,hpi⟩:∃p,ρ'[i]? = some p:=⟨ρ'[i]'(by rw[s1.len]; exact(liZ.1 hi).1),aS _⟩
 have hb0:pj.base=0:=(s1.obj j pj _ hpj hj).1;obtain⟨t1,t2⟩:=AG (l1:=l) (l2:=[]) s1 hij hpi hpj (by rw[List.append_nil]; exact hi) hj hp
 rw[hb0]at hv;subst hv;refine⟨_,_,I', ρ', _,rfl,t1,.raw _ _ rfl,⟨s3.ile,s3.take,s3.os,s3.tape,s3.output,s3.size,s3.frame,fun x hx=>s3.own x ((t2 x).1 hx),s3.imm⟩,hQ pj.b⟩
theorem ACall.unbag {P:Program} {f:FuncId} {k:Nat} {args:List V} {H:List O} {Q:V->List O->Prop}
 (h:ACall P f k args H fun r H' => ∃(i m c:Nat) (l:List (Nat × List V)) (kvs kvs' : List (V × V)),i≠m/\H'[i]? = some (.bag l)/\H'[m]? = some (.pmap kvs c)/\kvs'.length=kvs.length /\
  (∀(n:Nat) (x y:V × V),kvs[n]? = some x->kvs'[n]? = some y->y=x \/ ∃b cs,(b,cs)∈l/\x.2 = .raw (.pointer (some ⟨b,0,none⟩))/\y=(x.1,.ip cs 0)) /\
  Q r ((H'.set i .dead).set m (.pmap kvs' c))):ACall P f k args H Q:=by
 refine⟨fun I ρ w us hst hk ha=>(h.out I ρ w us hst hk ha).mono ?_⟩
 rintro en w' ⟨v,r,I', ρ', H', rfl,s1,s2,s3,i,m,c,l,kvs,kvs', him,hi,hm,hkl,hkv,hQ⟩;have hli:=(liZ.1 hi).1;have hlm:=(liZ.1 hm).1;obtain⟨pi,hpi⟩:∃p,ρ'[i]? = some p:=⟨ρ'[i]'(by rw[s1.len]; exact hli),aS _⟩
 obtain⟨pm,hpm⟩:∃p,ρ'[m]? = some p:=⟨ρ'[m]'(by rw[s1.len]; exact hlm),aS _⟩
 obtain⟨hn,hall⟩:=s1.obj i pi _ hpi hi;obtain⟨es,m1,m2,m3,m4⟩:=s1.obj m pm _ hpm hm;have hown:∀b∈l.map (·.1),az ρ' H' b:=fun b hb=>⟨i,pi,_,hpi,hi,hb⟩
 let I2:aU:=fun b o=>if b∈l.map (·.1)then w'.cell? ⟨b,o,none⟩else I' b o
 have h2y:∀b o,b∈l.map (·.1)->I2 b o=w'.cell? ⟨b,o,none⟩:=fun b o hb=>if_pos hb
 have h2n:∀b o,b ∉ l.map (·.1)->I2 b o=I' b o:=fun b o hb=>if_neg hb
 have hle:ILe I' I2:=fun b o x hx=>by
  by_cases hb:b∈l.map (·.1)
  . rw[s1.sep b (hown b hb) o]at hx; cases hx
  . rw[h2n b o hb]; exact hx
 have hip:∀b cs,(b,cs)∈l->VRel I2 [] (.ip cs 0) (.pointer (some ⟨b,0,none⟩)):=fun b cs hx=>by
  obtain⟨_,_,hc⟩:=hall _ hx;have hb:b∈l.map (·.1):=List.mem_map.2 ⟨_,hx,rfl⟩;refine VRel.ip [] cs 0 b 0 (fun j=>(w'.cell? ⟨b,0+j,none⟩).getD undef) (fun j a ha=>?_) (fun j a ha=>?_) (fun j a ha=>?_)
  all_goals
   obtain⟨u,u1,u2,u3⟩:=hc j a ha;simp only at u1
  . rw[h2y b _ hb,u1]; rfl
  . rw[u1]; exact u2
  . rw[u1]; exact u3.mono hle (PLe.refl _)
 have get:∀(n:Nat) (y:O),((H'.set i .dead).set m (.pmap kvs' c))[n]? = some y->(n=m/\y = .pmap kvs' c)\/y = .dead\/(n≠i/\n≠m/\H'[n]? = some y):=fun n y hy=>by
  by_cases h1:n=m
  . subst h1; rw[List.getElem?_set_self (by rw[List.length_set]; exact hlm)]at hy; exact .inl ⟨rfl,(Option.some.inj hy).symm⟩
  . rw[List.getElem?_set_ne (Ne.symm h1)]at hy;by_cases h2:n=i
    . subst h2; rw[List.getElem?_set_self hli]at hy; exact .inr (.inl (Option.some.inj hy).symm)
    . rw[List.getElem?_set_ne (Ne.symm h2)]at hy; exact .inr (.inr ⟨h2,h1,hy⟩)
 have cls:∀(n:Nat) (q:Pl) (y:O) (b:Nat),ρ'[n]? = some q->((H'.set i .dead).set m (.pmap kvs' c))[n]? = some y->y.owns q b->n≠i /\ ∃z,H'[n]? = some z/\z.owns q b:=fun n q y b hq hy hb=>by
  rcases get n y hy with⟨rfl,rfl⟩ | rfl | ⟨h1,h2,h3⟩
  . exact⟨Ne.symm him,_,hm,hb⟩
  . exact absurd hb iC
  . exact⟨h1,_,h3,hb⟩
 have owned:∀b,az ρ' ((H'.set i .dead).set m (.pmap kvs' c)) b->az ρ' H' b/\b ∉ l.map (·.1):=fun b ⟨n,q,y,hq,hy,hb⟩=>by
  obtain⟨hni,z,hz,hzb⟩:=cls n q y b hq hy hb;exact⟨⟨n,q,z,hq,hz,hzb⟩,fun hbl=>hni (s1.inj n i q pi z _ b hq hz hzb hpi hi hbl)⟩
 have t1:St I2 ρ' ((H'.set i .dead).set m (.pmap kvs' c)) w' := by
  refine⟨by rw[List.length_set,List.length_set]; exact s1.len,fun n q y hq hy=>?_,fun a d q q' y y' b hq hy hb hq' hy' hb' => ?_,⟨fun b o x hx=>?_,Globs.mono hle s1.imm.glob⟩,fun b hb o=>?_⟩
  . rcases get n y hy with⟨rfl,rfl⟩ | rfl | ⟨h1,h2,h3⟩
    . rw[hpm]at hq; cases hq;refine⟨es,m1,by rw[hkl]; exact m2,m3,fun n kv e h1 h2=>?_⟩
      have hnl:n<kvs.length:=by rw[<-hkl]; exact(liZ.1 h1).1
      have hx:=aS hnl;generalize kvs[n]=x at hx;obtain⟨g1,g2,g3⟩:=m4 n x e hx h2;rcases hkv n x kv hx h1 with rfl | ⟨b,cs,hbl,hraw,rfl⟩
      . exact⟨g1,g2.mono hle (PLe.refl _),g3.mono hle (PLe.refl _)⟩
      . refine⟨g1,g2.mono hle (PLe.refl _),?_⟩;rw[hraw]at g3;generalize e.val=u at g3;cases g3;exact hip b cs hbl
    . trivial
    . exact(s1.obj n q y hq h3).keep (fun _ _=>rfl) hle (PLe.refl _)
  . obtain⟨_,z,hz,hzb⟩:=cls a q y b hq hy hb;obtain⟨_,z', hz', hzb'⟩:=cls d q' y' b hq' hy' hb';exact s1.inj a d q q' z z' b hq hz hzb hq' hz' hzb'
  . by_cases hb:b∈l.map (·.1)
    . rw[h2y b o hb]at hx; exact hx
    . rw[h2n b o hb]at hx; exact s1.imm b o x hx
  . obtain⟨h1,h2⟩:=owned b hb;rw[h2n b o h2]; exact s1.sep b h1 o
 refine⟨v,r,I2,ρ', _,rfl,t1,s2.mono hle (PLe.refl _),⟨s3.ile.trans hle,s3.take,s3.os,s3.tape,s3.output,s3.size,s3.frame,fun x hx=>s3.own x (owned x hx).1,fun b o x hx=>?_⟩,hQ⟩
 by_cases hb:b∈l.map (·.1)
 . rcases s3.own b (hown b hb)with h1 | h1
   . exact .inr (.inl h1)
   . exact .inr (.inr h1)
 . rw[h2n b o hb]at hx; exact s3.imm b o x hx
end
section
variable {α:Type}
def cH (n:List UInt8):List (List UInt8 × α)->Option α
 | []=>none
 | x::l=>if x.1=n then some x.2 else cH n l
def NodupN (L:List (List UInt8 × α)):Prop:=(L.map (·.1)).Nodup
theorem NodupN.nil:NodupN ([]:List (List UInt8 × α)):=List.nodup_nil
theorem NodupN.cons {x:List UInt8 × α} {L:List (List UInt8 × α)} (h:NodupN (x::L)):(∀y∈L,y.1≠x.1)/\NodupN L:=by
 have:=List.nodup_cons.1 h;exact⟨fun y hy e=>this.1 (List.mem_map.2 ⟨y,hy,e⟩),this.2⟩
theorem xW {n:List UInt8}:∀ {L:List (List UInt8 × α)},cH n L=none -> ∀x∈L,x.1≠n
 | [],_,x,hx=>by simp at hx
 | y::L,h,x,hx=>by
  unfold cH at h;split at h
  . cases h
  . rcases List.mem_cons.1 hx with rfl | hx
    . assumption
    . exact xW h x hx
theorem pR {n:List UInt8}:∀ {L:List (List UInt8 × α)},(∀x∈L,x.1≠n)->cH n L=none
 | [],_=>rfl
 | y::L,h=>by
  unfold cH;rw[if_neg (h y (by simp))]
  exact pR fun x hx=>h x (by simp[hx])
theorem Eg {n:List UInt8} {a:α}:∀ {L:List (List UInt8 × α)},NodupN L->(n,a)∈L->cH n L=some a
 | [],_,h=>by simp at h
 | y::L,hn,h=>by
  obtain⟨h1,h2⟩:=hn.cons;unfold cH;rcases List.mem_cons.1 h with rfl | h
  . rw[if_pos rfl]
  . rw[if_neg fun e=>h1 _ h e.symm]
    exact Eg h2 h
theorem nz {n:List UInt8} {a b:α}:∀ {L:List (List UInt8 × α)} {j:Nat},NodupN L->L[j]? = some (n,a)->NodupN (L.set j (n,b)) /\ ∀k,cH k (L.set j (n,b))=if k=n then some b else cH k L
 | [],j,_,h=>by simp at h
 | y::L,0,hn,h=>by
  simp at h; subst h;refine⟨hn,fun k=>?_⟩
  show cH k ((n,b)::L)=_
  unfold cH;by_cases hk:n=k
  . rw[if_pos hk,if_pos hk.symm]
  . rw[if_neg hk,if_neg fun e=>hk e.symm,if_neg hk]
 | y::L,j+1,hn,h=>by
  obtain⟨h1,h2⟩:=hn.cons;have h:L[j]? = some (n,a):=by simpa using h
  obtain⟨i1,i2⟩:=nz (b:=b) h2 h;refine⟨?_,fun k=>?_⟩
  . show(y.1::(L.set j (n,b)).map (·.1)).Nodup
    refine List.nodup_cons.2 ⟨fun hm=>?_,i1⟩
    obtain⟨x,hx,e⟩:=List.mem_map.1 hm;rcases List.mem_or_eq_of_mem_set hx with hx | rfl
    . exact h1 x hx e
    . exact h1 _ (List.mem_of_getElem? h) e
  . show cH k (y::L.set j (n,b))=_
    have hne:n≠y.1:=fun e=>h1 _ (List.mem_of_getElem? h) e
    unfold cH;by_cases hy:y.1=k
    . rw[if_pos hy,if_pos hy,if_neg fun e=>hne (e.symm.trans hy.symm)]
    . rw[if_neg hy,if_neg hy]; exact i2 k
theorem ny {n:List UInt8} {b:α}:∀ {L:List (List UInt8 × α)},NodupN L->cH n L=none->NodupN (L ++ [(n,b)]) /\ ∀k,cH k (L ++ [(n,b)])=if k=n then some b else cH k L
 | [],_,_=>⟨by simp[NodupN],fun k=>by
  show(if n=k then some b else none)=if k=n then some b else none
  by_cases h:n=k
  . rw[if_pos h,if_pos h.symm]
  . rw[if_neg h,if_neg fun e=>h e.symm]⟩
 | y::L,hn,h=>by
  obtain⟨h1,h2⟩:=hn.cons;have hy:y.1≠n:=xW h y (by simp)
  have h' : cH n L=none:=by unfold cH at h; rw[if_neg hy]at h; exact h
  obtain⟨i1,i2⟩:=ny (b:=b) h2 h';refine⟨?_,fun k=>?_⟩
  . show(y.1::(L ++ [(n,b)]).map (·.1)).Nodup
    refine List.nodup_cons.2 ⟨fun hm=>?_,i1⟩
    obtain⟨x,hx,e⟩:=List.mem_map.1 hm;rcases List.mem_append.1 hx with hx | hx
    . exact h1 x hx e
    . rw[List.mem_singleton.1 hx]at e; exact hy e.symm
  . show cH k (y::(L ++ [(n,b)]))=_
    unfold cH;by_cases hk:y.1=k
    . rw[if_pos hk,if_pos hk,if_neg fun e=>hy (hk.trans e)]
    . rw[if_neg hk,if_neg hk]; exact i2 k
theorem oO {n:List UInt8} {a:α}:∀ {L:List (List UInt8 × α)} {j:Nat},NodupN L->L[j]? = some (n,a)->NodupN (L.eraseIdx j) /\ ∀k,cH k (L.eraseIdx j)=if k=n then none else cH k L
 | [],j,_,h=>by simp at h
 | y::L,0,hn,h=>by
  simp at h; subst h;obtain⟨h1,h2⟩:=hn.cons;refine⟨h2,fun k=>?_⟩
  show cH k L=if k=n then none else(if n=k then some a else cH k L)
  by_cases hk:k=n
  . rw[if_pos hk,hk]; exact pR h1
  . rw[if_neg hk,if_neg fun e=>hk e.symm]
 | y::L,j+1,hn,h=>by
  obtain⟨h1,h2⟩:=hn.cons;have h:L[j]? = some (n,a):=by simpa using h
  obtain⟨i1,i2⟩:=oO h2 h;refine⟨?_,fun k=>?_⟩
  . show(y.1::(L.eraseIdx j).map (·.1)).Nodup
    refine List.nodup_cons.2 ⟨fun hm=>?_,i1⟩
    obtain⟨x,hx,e⟩:=List.mem_map.1 hm;exact h1 x ((List.eraseIdx_sublist _ _).subset hx) e
  . show cH k (y::L.eraseIdx j)=_
    have hne:n≠y.1:=fun e=>h1 _ (List.mem_of_getElem? h) e
    unfold cH;by_cases hy:y.1=k
    . rw[if_pos hy,if_pos hy,if_neg fun e=>hne (e.symm.trans hy.symm)]
    . rw[if_neg hy,if_neg hy]; exact i2 k
theorem n5 {β:Type} (f:α->β):∀(L:List α) (j:Nat),(L.map f).eraseIdx j=(L.eraseIdx j).map f
 | [],_=>rfl
 | _::_,0=>rfl
 | x::L,j+1=>congrArg (f x :: ·) (n5 f L j)
theorem DT {L:List α} {j:Nat} {x:α} (h:L[j]? = some x):L=L.take j++x::L.drop (j+1):=by
 obtain⟨hj,h2⟩:=liZ.1 h;rw[<-h2,<-List.drop_eq_getElem_cons hj,List.take_append_drop]
theorem GG {n:List UInt8} {a b:α} {L1 L2:List (List UInt8 × α)} (h:NodupN (L1++(n,a)::L2)):NodupN (L1++(n,b)::L2) /\ ∀k,cH k (L1++(n,b)::L2)=if k=n then some b else cH k (L1++(n,a)::L2):=by
 have:=nz (n:=n) (a:=a) (j:=L1.length) (b:=b) h (by simp)
 simpa using this
def eD (f:α->V) (L:List (List UInt8 × α)):List (V × V):=L.map fun x=>(.str x.1,f x.2)
theorem yX (f:α->V) (L:List (List UInt8 × α)) (j:Nat) (n:List UInt8) (a:α):(eD f L).set j (.str n,f a)=eD f (L.set j (n,a)):=by simp[eD,List.map_set]
theorem nW (f:α->V) (L:List (List UInt8 × α)) (n:List UInt8) (a:α):eD f L ++ [(.str n,f a)]=eD f (L ++ [(n,a)]):=by simp[eD]
theorem kp (f:α->V) (L:List (List UInt8 × α)) (j:Nat):(eD f L).eraseIdx j=eD f (L.eraseIdx j):=n5 _ _ _
theorem sL {f:α->V} {L:List (List UInt8 × α)} {j:Nat} {kv:V × V} (h:(eD f L)[j]? = some kv):∃x,L[j]? = some x/\kv=(.str x.1,f x.2):=by
 unfold eD at h;rw[List.getElem?_map]at h;cases hj:L[j]? with
 | none=>rw[hj]at h; cases h
 | some x=>rw[hj]at h; cases h; exact⟨x,rfl,rfl⟩
theorem uL {f:α->V} {n:List UInt8} {K:Option (Nat × V)->Prop}:∀(L:List (List UInt8 × α)) (i:Nat),(cH n L=none->K none)->(∀(j:Nat) a,cH n L=some a->L[j]? = some (n,a)->K (some (i+j,f a)))->gQ (.str n) (eD f L) i K
 | [],i,h,_=>h rfl
 | y::L,i,h,hs=>by
  show(match tr (.str n) (.str y.1)with | some b=>eU b _ _ | none=>False)
  by_cases hy:n=y.1
  . rw[show tr (.str n) (.str y.1)=some true from congrArg some (decide_eq_true hy)]
    have:=hs 0 y.2 (by unfold cH; rw[if_pos hy.symm]) (by rw[hy]; rfl)
    exact this
  . rw[show tr (.str n) (.str y.1)=some false from congrArg some (decide_eq_false hy)]
    have e:cH n (y::L)=cH n L:=by show(if y.1=n then _ else _)=_; rw[if_neg fun e=>hy e.symm]
    refine uL L (i+1) (fun h1=>h (e.trans h1)) fun j a h1 h2=>?_
    have:=hs (j+1) a (e.trans h1) (by simpa using h2)
    rw[show i+1+j=i+(j+1) by omega]
    exact this
theorem eC {f:α->V} {n:List UInt8} {L:List (List UInt8 × α)} {K:Option (Nat × V)->Prop} (h:cH n L=none->K none) (hs:∀(j:Nat) a,cH n L=some a->L[j]? = some (n,a)->K (some (j,f a))):gQ (.str n) (eD f L) 0 K :=
 uL L 0 h fun j a h1 h2=>by rw[Nat.zero_add]; exact hs j a h1 h2
end
section
def ia (t:Tb) (r:Rw):List UInt8:=dK t.c t.k.toNat r
def lX (t:Tb) (l:List Rw):KR:=iX t.c t.k.toNat l
theorem Hw {C:List Col} {K:Nat} {a b:List Rw} (h:iX C K a=iX C K b):a=b:=by
 have:=congrArg (List.map Prod.snd) h;unfold iX at this;rw[List.map_map,List.map_map]at this;simpa [Function.comp_def]using this
def jf (C:List Col) (K:Nat) (l:List Rw) (e:Evt):List Rw:=if e.k=5 then lj C K l (dK C K e.b)else jP C K l e.a
theorem GW {α:Type} {t:Tr α} (hs:aO (fm t)) (key:List UInt8):fm (if(dE key t).isNil then t else kT key t)=nK key (fm t):=by
 rw[jD key t hs];cases hc:cj key (fm t)with
 | true =>
  simp only[Bool.not_true,Bool.false_eq_true,if_false];exact qR t key hs
 | false =>
  simp only[Bool.not_false,if_true];refine(ig fun x hx e=>?_).symm
  have:cj key (fm t)=true:=by simp only[cj,List.any_eq_true]; exact⟨x,hx,by simp[e]⟩
  rw[this]at hc; cases hc
theorem sm {l:List Col} {vs:List Val} (h:bB l vs=true):vs.length=l.length:=by
 unfold bB at h;rw[Bool.and_eq_true,decide_eq_true_eq]at h;exact h.1
theorem dJ {C:List Col} {K:Nat} {r:Rw} (hK:K<=C.length) (h:bB C r=true):aP C K r=true:=by
 have hl:=sm h;unfold bB at h;unfold aP;rw[Bool.and_eq_true,List.all_eq_true]at h ⊢;rw[decide_eq_true_eq]at h ⊢;exact⟨by omega,fun i hi=>h.2 i (List.mem_range.2 (by have:=List.mem_range.1 hi; omega))⟩
theorem Jy {r:Rw} {K:Nat} (h1:1<=K) (h2:K<=r.length):eH (r.take K) ≠ []:=by
 cases r with
 | nil=>simp at h2; omega
 | cons v l =>
  obtain⟨K,rfl⟩:∃k,K=k+1:=⟨K-1,by omega⟩
  simp[eH,hU]
theorem Ff (k:List UInt8) (h:k ≠ []):Op.bytesLess [] k=true:=by cases k<;>simp_all [Op.bytesLess]
theorem Jz {C:List Col} {K:Nat} {r:Rw} (h1:1<=K) (h:aP C K r=true):Op.bytesLess [] (dK C K r)=true:=by
 have h2:K<=r.length:=by
  unfold aP at h;rw[Bool.and_eq_true,decide_eq_true_eq]at h;exact h.1
 unfold dK;rw[if_pos h];exact Ff _ (Jy h1 h2)
structure RowsOk (t:Tb) (l:List Rw):Prop where
 srt:aO (lX t l)
 fit:∀r∈l,bB t.c r=true
structure TbK (t:Tb):Prop where
 lo:1<=t.k
 hi:t.k<=t.c.length
 few:t.c.length<=16
theorem TbK.nat {t:Tb} (h:TbK t):1<=t.k.toNat/\t.k.toNat<=t.c.length:=⟨by have:=h.lo; omega,by have:=h.hi; omega⟩
theorem RowsOk.pos {t:Tb} {l:List Rw} (ht:TbK t) (h:RowsOk t l):∀r∈l,Op.bytesLess [] (ia t r)=true:=fun r hr =>
 Jz ht.nat.1 (dJ ht.nat.2 (h.fit r hr))
theorem RowsOk.put {t:Tb} {l:List Rw} (h:RowsOk t l) {r:Rw} (hr:bB t.c r=true):RowsOk t (jP t.c t.k.toNat l r) :=
 ⟨Bj r h.srt,fun x hx=>by rcases HS hx with rfl | hx; exact hr; exact h.fit x hx⟩
theorem RowsOk.cut {t:Tb} {l:List Rw} (h:RowsOk t l) (key:List UInt8):RowsOk t (lj t.c t.k.toNat l key) :=
 ⟨AO key h.srt,fun x hx=>h.fit x (GY hx)⟩
theorem RowsOk.nil (t:Tb):RowsOk t []:=⟨by simp[lX,iX,aO],by simp⟩
structure Lp (t:Tb) (e:Evt):Prop where
 lo:3<=e.k
 hi:e.k<=5
 name:e.t=t.n
 fit:e.k≠5->bB t.c e.a=true
 key:e.k=5->aP t.c t.k.toNat e.b=true/\(e.b.length:Int)=t.k
theorem RowsOk.turn {t:Tb} {l:List Rw} (h:RowsOk t l) {e:Evt} (he:Lp t e):RowsOk t (jf t.c t.k.toNat l e):=by
 unfold jf;split
 . exact h.cut _
 . rename_i hk; exact h.put (he.fit hk)
theorem Gk (C:List Col) (K:Nat) (l:List Rw) (e:Evt):(jf C K l e).length<=l.length+1:=by
 unfold jf;split
 . have:=GX C K l (dK C K e.b); omega
 . exact HR _ _ _ _
end
section
variable [Globs]
theorem ACall.lendAt {P:Program} {f:FuncId} {as as2:List V} {H0:List O} {b:Nat} {cs:List V} {l1 l2:List (Nat × List V)} {Q:V->List O->Prop}
 (h:ACall P f (H0.length+2) (as ++ .ptr (H0.length+1) 0::as2) (H0 ++ [.bag (l1++l2),.cells cs]) fun r H' => ∃(H1 N:List O) (cs' : List V),H'=H1 ++ .bag (l1++l2) :: .cells cs'::N/\H1.length=H0.length/\(∀c∈cs', aY c=true) /\
  Q r (H1 ++ .bag (l1++(b,cs')::l2) :: .dead::N)) :
 ACall P f (H0.length+1) (as ++ .raw (.pointer (some ⟨b,0,none⟩))::as2) (H0 ++ [.bag (l1++(b,cs)::l2)]) Q:=by
 refine⟨fun I ρ w us hst hk ha=>?_⟩
 have hlen:=hst.len;rw[aD,List.length_singleton]at hlen;obtain⟨d1,d2⟩:=CH hst ⟨b,0,0,0⟩;have hn:(H0 ++ [O.bag (l1++(b,cs)::l2)] ++ [O.dead])[H0.length]? = some (.bag (l1++(b,cs)::l2)):=by simp
 have hd:(H0 ++ [O.bag (l1++(b,cs)::l2)] ++ [O.dead])[H0.length+1]? = some .dead:=by simp
 obtain⟨pn,hpn⟩:∃p,ρ[H0.length]? = some p:=⟨ρ[H0.length],aS (by omega)⟩
 have hpn' : (ρ ++ [⟨b,0,0,0⟩])[H0.length]? = some pn:=PLe.append _ _ _ _ hpn;have hpd:(ρ ++ [(⟨b,0,0,0⟩:Pl)])[H0.length+1]? = some ⟨b,0,0,0⟩:=by rw[<-hlen]; simp
 obtain⟨o1,o2⟩:=BU d1 (by omega) hpn' hpd rfl hn hd
 have e1:((H0 ++ [O.bag (l1++(b,cs)::l2)] ++ [O.dead]).set H0.length (.bag (l1++l2))).set (H0.length+1) (.cells cs)=H0 ++ [.bag (l1++l2),.cells cs]:=by
  rw[List.append_assoc,List.set_append_right _ _ (Nat.le_refl _),Nat.sub_self,List.set_append_right _ _ (by omega),Nat.add_sub_cancel_left]
  rfl
 rw[e1]at o1 o2;have own1:∀x,az (ρ ++ [⟨b,0,0,0⟩]) (H0 ++ [.bag (l1++l2),.cells cs]) x ↔ az ρ (H0 ++ [.bag (l1++(b,cs)::l2)]) x:=fun x=>(o2 x).trans (d2 x)
 have hargs:VRels I (ρ ++ [⟨b,0,0,0⟩]) (as ++ .ptr (H0.length+1) 0::as2) us.toList:=by
  refine⟨by have:=ha.1; simpa using this,fun i a u hi hu=>?_⟩
  rcases Nat.lt_trichotomy i as.length with hl | hl | hl
  . rw[List.getElem?_append_left hl]at hi;exact(ha.2 i a u (by rw[List.getElem?_append_left hl]; exact hi) hu).mono (ILe.refl _) (PLe.append _ _)
  . subst hl;rw[List.getElem?_append_right (Nat.le_refl _),Nat.sub_self]at hi;cases hi;have:=ha.2 as.length (.raw (.pointer (some ⟨b,0,none⟩))) u (by rw[List.getElem?_append_right (Nat.le_refl _),Nat.sub_self]; rfl) hu
    cases this;exact VRel.ptr (I:=I) _ (H0.length+1) 0 ⟨b,0,0,0⟩ hpd
  . obtain⟨j,hj⟩:∃j,i-as.length=j+1:=⟨i-as.length-1,by omega⟩
    rw[List.getElem?_append_right (by omega),hj]at hi
    exact(ha.2 i a u (by rw[List.getElem?_append_right (by omega),hj]; exact hi) hu).mono (ILe.refl _) (PLe.append _ _)
 refine(h.out I _ w us o1 (by rw[aD]; exact Nat.le_refl _) hargs).mono ?_
 rintro en w' ⟨v,r,I2,ρ2,H2,rfl,s1,s2,s3,H1,N,cs', rfl,hH1,hp,hQ⟩;have hk1:ρ2[H0.length]? = some pn:=by rw[s3.take _ (by omega)]; exact hpn'
 have hk2:ρ2[H0.length+1]? = some ⟨b,0,0,0⟩:=by rw[s3.take _ (by omega)]; exact hpd
 have hi1:(H1++O.bag (l1++l2)::O.cells cs'::N)[H0.length]? = some (.bag (l1++l2)):=by rw[<-hH1]; simp
 have hi2:(H1++O.bag (l1++l2)::O.cells cs'::N)[H0.length+1]? = some (.cells cs'):=by rw[<-hH1]; simp
 obtain⟨t1,t2⟩:=AG s1 (by omega) hk1 hk2 hi1 hi2 hp
 have e2:((H1++O.bag (l1++l2)::O.cells cs'::N).set H0.length (.bag (l1++(b,cs')::l2))).set (H0.length+1) O.dead=H1++O.bag (l1++(b,cs')::l2)::O.dead::N:=by
  rw[<-hH1,List.set_append_right _ _ (Nat.le_refl _),Nat.sub_self,List.set_append_right _ _ (by omega),Nat.add_sub_cancel_left]
  rfl
 rw[show(⟨b,0,0,0⟩:Pl).b=b from rfl,e2]at t1 t2
 refine⟨v,r,I2,ρ2,_,rfl,t1,s2,⟨s3.ile,fun i hi=>?_,s3.os,s3.tape,s3.output,s3.size,fun x hx hn=>s3.frame x hx fun ho=>hn ((own1 x).1 ho),fun x hx=>?_,fun x o y hy=>?_⟩,hQ⟩
 . rw[s3.take i (by omega),List.getElem?_append_left (by omega)]
 . rcases s3.own x ((t2 x).1 hx)with h1 | h1
   . exact .inl ((own1 x).1 h1)
   . exact .inr h1
 . rcases s3.imm x o y hy with h1 | h1 | h1
   . exact .inl h1
   . exact .inr (.inl ((own1 x).1 h1))
   . exact .inr (.inr h1)
theorem ACall.selInK {P:Program} {f:FuncId} {k:Nat} {args:List V} {H:List O} {Q:V->List O->Prop} (sel:List Nat) (hsel:gC sel H.length k=true) (hk:k<=(aJ (bI sel) H sel).length)
 (h:ACall P f k (args.map (aM (bI sel))) (aJ (bI sel) H sel) Q):ACall P f k args H Q:=by
 refine⟨fun I ρ w us hst _ ha=>?_⟩
 obtain⟨g1,g2,g3⟩:=jS hst hsel (Step.refl k I ρ H w);refine(h.out I _ w us g1 hk ⟨by rw[List.length_map]; exact ha.1,fun i a u hi hu=>?_⟩).mono ?_
 . rw[List.getElem?_map]at hi;cases hx:args[i]? with
   | none=>rw[hx]at hi; cases hi
   | some x =>
    rw[hx]at hi; cases hi;exact(ha.2 i x u hx hu).ren g2
 . rintro en w' ⟨v,r,I', ρ', H', h1,h2,h3,h4,h5⟩;exact⟨v,r,I', ρ', H', h1,h2,h3,g3.trans h4,h5⟩
end
end Go.Proofs.YteiagdlfccbpcaaGreatDoorPg
