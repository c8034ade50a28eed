/- The quiet operations, the last ones, and all together. -/
import Derived.Test.YteiagdlfccbpcaaGreatDoorPgM4
import Derived.Laws.Tables
import Derived.Laws.Runes
set_option linter.unusedSectionVars false
set_option linter.unusedSimpArgs false
set_option linter.unusedVariables false
namespace Go.Proofs.YteiagdlfccbpcaaGreatDoorPg
open Go Go.RowKit
variable [Globs]
variable {P:Program} {T:Nat->TI} {I:aU} {ρ:List Pl} {H:List O} {w:World} {e:Env}
theorem jk:∀(es:List (List V)) (l:List UInt8),cq es=some l -> ∃ns:List Int,es=ns.map (fun n=>[.int .u8 n])/\l=ns.map (fun n=>UInt8.ofNat n.toNat):=by
 intro es;induction es with
 | nil=>intro l h; simp[cq]at h; exact⟨[],rfl,by simp[h]⟩
 | cons c es ih =>
  intro l h;unfold cq at h;split at h
  . rename_i heq; cases heq
  . rename_i n es' heq;injection heq with h1 h2
    subst h1; subst h2;cases hb:cq es<;>simp only[hb]at h<;>try (cases h; done)
    rename_i l';cases h;obtain⟨ns,h1,h2⟩:=ih l' hb;exact⟨n::ns,by simp[h1],by simp[h2]⟩
  . cases h
theorem lG {src dst q:TypeId} (hs:P.underlying src=some (.slice q)) (hq:P.underlying q=some (.int .u8)) (hd:P.underlying dst=some .string) {es:List (List V)} {l:List UInt8} (h:cq es=some l)
 {b base cap:Nat} {w:World} (hc:∀(i:Nat) (x:List V),es[i]? = some x -> ∀(j:Nat) (v:V),x[j]? = some v -> ∃u,w.cell? ⟨b,base+(i*1+j),none⟩=some u/\VRel I ρ v u) :
 ∃u,(convert src dst (.slice (some ⟨b,base,none⟩) es.length cap)).run P w = .ok u w/\VRel I ρ (.str l) u:=by
 obtain⟨ns,rfl,rfl⟩:=jk es l h;refine⟨.string (strOfNums ns),?_,gh _ (strOfNums_data ns)⟩;have:=run_convert_bytes_arg (P:=P) w src q hs hq b base ns.length cap ns rfl (fun i hi=>by
  obtain⟨u,h1,h2⟩:=hc i [.int .u8 ns[i]] (by simp[hi]) 0 (.int .u8 ns[i]) (by simp)
  rw[bN h2]at h1;simpa [List.getD,hi]using h1) dst hd
 simpa using this
theorem JM (hT:bH P T) {o:Oper} {s d:TypeId} {x:Operand} (ho:o.op = .convert s d x) {K:V->Prop}
 (h:xS (T s).kind (T d).kind (match (T s).kind with | .sl q=>(T q).kind | _=>.other) H (ao e x) K):∃v,K v/\lL P o e H v:=by
 unfold xS at h;split at h
 ·
  rename_i k k' n hd hx;cases hs:(T s).kind<;>simp only[hs]at h
  refine dG h fun I ρ w a hst he=>?_
  have hr:=he x;rw[hx]at hr;exact⟨_,by simp[execOp,ho,bN hr,convert,af (eL hT hs),af (eL hT hd),Conv.intToInt],.int _ _ _⟩
 . rename_i l hd hx;cases hs:(T s).kind<;>simp only[hs]at h
   refine dG h fun I ρ w a hst he=>?_
   have hr:=he x;rw[hx]at hr;obtain⟨b,hb,e1⟩:=eM hr;exact⟨_,by simp[execOp,ho,e1,convert,af (dC hT hs),af (dC hT hd)],gh _ hb⟩
 . rename_i k n hd hx;cases hs:(T s).kind<;>simp only[hs]at h
   refine dG h fun I ρ w a hst he=>?_
   have hr:=he x;rw[hx]at hr;exact⟨_,by simp[execOp,ho,bN hr,run_convert_int_string w s d k n (by rw[eL hT hs]; rfl) (dC hT hd)],gh _ rfl⟩
 . rename_i hd hx;cases hs:(T s).kind<;>simp only[hs]at h
   rename_i q;cases hq:(T q).kind<;>simp only[hq]at h
   rename_i k;cases k<;>simp only at h
   refine dG h fun I ρ w a hst he=>?_
   have hr:=he x;rw[hx]at hr;refine⟨.string .empty,?_,gh _ rfl⟩;have:=run_convert_bytes_nil (P:=P) w s q (dv hT hs) (eL hT hq) 0 0 d (dC hT hd);simp[execOp,ho,fJ hr,this]
 . rename_i z es full hd hx;cases hs:(T s).kind<;>simp only[hs]at h
   rename_i q;cases hq:(T q).kind<;>simp only[hq]at h
   rename_i k;cases k<;>simp only at h
   obtain⟨l,hl,hK⟩:=h;refine dG hK fun I ρ w a hst he=>?_
   have hr:=he x;rw[hx]at hr;have key:∃u,(convert s d (a.eval x)).run P w = .ok u w/\VRel I ρ (.str l) u:=by
    revert hr;generalize a.eval x=u;intro hr;cases hr with
    | sl _ _ _ _ b base cap f g1 g2 g3 g4 g4' g5 =>
     refine lG (dv hT hs) (eL hT hq) (dC hT hd) hl (fun i y hy j v hv=>?_)
     have h1:z=1:=by
      obtain⟨ns,rfl,_⟩:=jk es l hl;have:=g3 i y hy;simp at hy;obtain⟨n,_,rfl⟩:=hy;exact this.symm
     subst h1;exact⟨f i j,hst.imm _ _ _ (g4 i y j v hy hv),(g5 i y j v hy hv).mono (ILe.refl _) (PLe.nil _)⟩
    | slnil _ _ _ A =>
     have e1:(convert s d (.slice A 0 0)).run P w = .ok (.string ByteArray.empty) w:=by
      cases A with
      | none=>exact run_convert_bytes_nil (P:=P) w s q (dv hT hs) (eL hT hq) 0 0 d (dC hT hd)
      | some A =>
       have h0:(loadCells A 0).run P w = .ok #[] w:=by simp[loadCells,loadCellsFrom]
       rw[run_convert_bytes_string w s d q _ 0 0 (dv hT hs) (eL hT hq) (dC hT hd),run_bytesToString w _ 0 0 [] h0];rfl
     simp[cq]at hl;exact⟨_,e1,gh _ (by rw[hl]; rfl)⟩
   obtain⟨u,h1,h2⟩:=key;exact⟨u,by simp[execOp,ho,h1],h2⟩
 . rename_i z id off len full hd hx;cases hs:(T s).kind<;>simp only[hs]at h
   rename_i q;cases hq:(T q).kind<;>simp only[hq]at h
   rename_i k;cases k<;>simp only at h
   cases hg:ar H id<;>simp only[hg]at h
   rename_i es;obtain⟨hle,l,hl,hK⟩:=h;refine dG hK fun I ρ w a hst he=>?_
   have hr:=he x;rw[hx]at hr;have hlen:((es.drop off).take len).length=len:=by simp; omega
   have key:∃u,(convert s d (a.eval x)).run P w = .ok u w/\VRel I ρ (.str l) u:=by
    revert hr;generalize a.eval x=u;intro hr;cases hr with
    | ms _ _ _ _ cap _ p hp g1 g2 g3 =>
     have get:∀(i:Nat) (y:List V),((es.drop off).take len)[i]? = some y->es[off+i]? = some y:=fun i y hy=>by
      have hlt:=(liZ.1 hy).1;rw[List.getElem?_take_of_lt (by simp at hlt; omega),List.getElem?_drop]at hy
      exact hy
     have:=lG (P:=P) (I:=I) (ρ:=ρ) (w:=w) (b:=p.b) (base:=p.base+off*p.sz) (cap:=cap) (dv hT hs) (eL hT hq) (dC hT hd) hl (fun i y hy j v hv=>by
      have hyo:=get i y hy;obtain⟨c1,c2,_,_⟩:=iD hst hp hg hyo;have h1:p.sz=1:=by
       obtain⟨ns,hns,_⟩:=jk _ l hl;rw[hns]at hy;simp at hy;obtain⟨n,_,rfl⟩:=hy;exact c1.symm
      obtain⟨u,hu,_,hv⟩:=c2 j v hv;refine⟨u,?_,hv.mono (ILe.refl _) (PLe.nil _)⟩;rw[<-hu];congr 2
      rw[h1]; omega)
     rw[hlen]at this;exact this
    | ms0 =>
     have e0:(es.drop off).take 0 = []:=by simp
     rw[e0]at hl;simp[cq]at hl;subst hl;rename_i A;cases A with
     | none=>exact⟨_,run_convert_bytes_nil (P:=P) w s q (dv hT hs) (eL hT hq) 0 0 d (dC hT hd),gh _ rfl⟩
     | some A =>
      refine⟨.string .empty,?_,gh _ rfl⟩;have h1:=run_convert_bytes_string (P:=P) w s d q (some A) 0 0 (dv hT hs) (eL hT hq) (dC hT hd);rw[h1];simp[Conv.bytesToString,loadCells,loadCellsFrom]
   obtain⟨u,h1,h2⟩:=key;exact⟨u,by simp[execOp,ho,h1],h2⟩
 . exact h.elim
theorem Bk {o:Oper} {fn:Fn} {first captured:Array Operand} (ho:o.op = .makeFunc fn first captured) {K:V->Prop}
 (h:gR (first.toList.map (am e)) fun a=>gR (captured.toList.map (am e)) fun b=>K (.fn fn a b)):∃v,K v/\lL P o e H v:=by
 simp only[aW]at h;refine Kj h fun I ρ w a hst he=>⟨_,by simp[execOp,ho,Instr.makeFunc]; rfl,?_⟩
 refine .fn _ _ _ _ _ _ (by simp) (by simp) (fun i x u hx hu=>?_) (fun i x u hx hu=>?_)
 . simp at hx hu;obtain⟨y,h1,rfl⟩:=hx;obtain⟨y', h1', rfl⟩:=hu;rw[h1]at h1'; cases h1';exact he y
 . simp at hx hu;obtain⟨y,h1,rfl⟩:=hx;obtain⟨y', h1', rfl⟩:=hu;rw[h1]at h1'; cases h1';exact he y
theorem KS (hT:bH P T) {o:Oper} {c:Call} (ho:o.op = .call c) (hc:c.callee = .builtin .len) {K:V->Prop} (h:HT T (c.args.toList.map (ao e)) c.argTypes.toList K):∃v,K v/\lL P o e H v:=by
 obtain⟨callee,args,argTypes⟩:=c;obtain⟨args⟩:=args;obtain⟨argTypes⟩:=argTypes;simp only at hc h;subst hc;unfold HT at h;split at h<;>try exact h.elim
 rename_i x t hxs;cases args with
 | nil=>simp at hxs
 | cons y ys =>
  simp at hxs;obtain⟨hx,rfl⟩:=hxs;have run:∀(a:Act) (w:World) (n:Int),(Builtin.len_ #[t] o.type #[a.eval y]).run P w = .ok (.int .i64 n) w->(execOp a.eval o).run P w = .ok (.value (.int .i64 n)) w:=by
   intro a w n hr;simp[execOp,ho,resolve,invoke,builtin,hr]
  cases hk:(T t).kind<;>simp only[hk]at h
  . have hu:=dC hT hk;cases x<;>simp only at h
    rename_i s;refine dG h fun I ρ w a hst he=>⟨_,run a w s.length ?_,.int _ _ _⟩
    have hr:=he y;rw[hx]at hr;obtain⟨b,hb,e1⟩:=eM hr;have e2:b.size=s.length:=by rw[<-hb]; rfl
    simp[Builtin.len_,e1,af hu,goInt,e2]
  . have hu:=dv hT hk;cases x<;>simp only at h
    . rename_i z es full;refine dG h fun I ρ w a hst he=>⟨_,run a w es.length ?_,.int _ _ _⟩
      have hr:=he y;rw[hx]at hr;revert hr;generalize a.eval y=u;intro hr;cases hr<;>simp[Builtin.len_,af hu,goInt]
    . rename_i z id off len full;refine dG h fun I ρ w a hst he=>⟨_,run a w len ?_,.int _ _ _⟩
      have hr:=he y;rw[hx]at hr;revert hr;generalize a.eval y=u;intro hr;cases hr<;>simp[Builtin.len_,af hu,goInt]
    . rename_i z id off len;refine dG h fun I ρ w a hst he=>⟨_,run a w len ?_,.int _ _ _⟩
      have hr:=he y;rw[hx]at hr;revert hr;generalize a.eval y=u;intro hr;cases hr<;>simp[Builtin.len_,af hu,goInt]
    . refine dG h fun I ρ w a hst he=>⟨_,run a w 0 ?_,.int _ _ _⟩
      have hr:=he y;rw[hx]at hr;simp[Builtin.len_,fJ hr,af hu,goInt]
theorem t6:∀(r:List V) (x:V) (mx:Bool) {K:V->Prop},f9 mx x r K -> ∃v,K v /\ ∀(I:aU) (ρ:List Pl) (w:World) (u:Value) (us:List Value),VRel I ρ x u->VRels I ρ r us ->
 ∃q,(us.foldlM (if mx then Builtin.max2 else Builtin.min2) u).run P w = .ok q w/\VRel I ρ v q:=by
 intro r;induction r with
 | nil =>
  intro x mx K h;unfold f9 at h;split at h
  . exact⟨_,h,fun I ρ w u us hx hr=>⟨u,by
     have:us = []:=by have:=hr.1; simpa using this.symm
     subst this; simp,hx⟩⟩
  . rename_i heq; cases heq
  . exact h.elim
 | cons y r ih =>
  intro x mx K h;unfold f9 at h;split at h
  . rename_i heq; cases heq
  . rename_i k a k' b r' heq;injection heq with h1 h2
    subst h1; subst h2;obtain⟨v,hK,hv⟩:=ih _ _ h;refine⟨v,hK,fun I ρ w u us hx hr=>?_⟩
    obtain⟨z,us', rfl,hz,hr'⟩:=hr.cons_inv;obtain⟨q,h1,h2⟩:=hv I ρ w _ us' (.int _ _ _) hr';refine⟨q,?_,h2⟩;rw[bN hx,bN hz];cases mx<;>simpa [Builtin.max2,Builtin.min2]using h1
  . exact h.elim
theorem iO {a:Act} (he:∀x,VRel I ρ (am e x) (a.eval x)) (l:List Operand):VRels I ρ (l.map (am e)) (l.map a.eval) :=
 ⟨by simp,fun i x u hx hu=>by
  simp at hx hu;obtain⟨y,h1,rfl⟩:=hx;obtain⟨y', h1', rfl⟩:=hu;rw[h1]at h1'; cases h1';exact he y⟩
theorem IL {o:Oper} {c:Call} (ho:o.op = .call c) {mx:Bool} (hc:c.callee = .builtin (if mx then .max else .min)) {K:V->Prop} (h:DL mx (c.args.toList.map (am e)) K):∃v,K v/\lL P o e H v:=by
 unfold DL at h;split at h<;>try exact h.elim
 rename_i x r hxs;obtain⟨v,hK,hv⟩:=t6 (P:=P) r x mx h;refine Kj hK fun I ρ w a hst he=>?_
 have hr:=iO he c.args.toList;rw[hxs]at hr;obtain⟨u,us,e1,e2,e3⟩:=hr.cons_inv;obtain⟨q,h1,h2⟩:=hv I ρ w u us e2 e3;refine⟨q,?_,h2⟩;obtain⟨callee,args,argTypes⟩:=c;obtain⟨args⟩:=args;simp only at hc e1;subst hc;have e1' : args.map a.eval=u::us:=e1;cases mx<;>simp at h1<;>simp[execOp,ho,resolve,invoke,builtin,Builtin.max_,Builtin.min_,e1', h1]
theorem fc {v:V} {cs:List V} (h:cellsOf v=some cs) {u:Value} (hr:VRel I ρ v u):u.cells.size=cs.length/\VRels I ρ cs u.cells.toList/\(∀vs,u ≠ .tuple vs)/\(∀(i:Nat) (x:Value),u.cells[i]? = some x->x.oneCell'=true):=by
 unfold cellsOf at h;split at h
 . cases h;obtain⟨us,rfl,h1,h1', h2⟩:=iU hr;exact⟨h1.symm,⟨by simpa [Value.cells]using h1,fun i a u ha hu=>h2 i a u ha (by simpa [Value.cells]using hu)⟩,by simp,fun i x hx=>h1' i x (by simpa [Value.cells]using hx)⟩
 . cases h
 . cases h
 . rename_i n1 n2 n3;cases h;have h1:∀vs,u ≠ .agg vs:=fun vs e=>by subst e; cases hr<;>first | exact n3 rfl | exact n1 _ rfl | (rename_i h0; cases h0; done) | (rename_i h0 _; cases h0)
   have h2:∀vs,u ≠ .tuple vs:=fun vs e=>by subst e; cases hr<;>first | exact n3 rfl | exact n2 _ rfl | (rename_i h0; cases h0; done) | (rename_i h0 _; cases h0)
   have h3:u.cells = #[u]:=by cases u<;>first | rfl | exact absurd rfl (h1 _)
   have h4:u.oneCell'=true:=by cases u<;>first | rfl | exact absurd rfl (h1 _) | exact absurd rfl (h2 _)
   refine⟨by rw[h3]; rfl,?_,h2,fun i x hx=>?_⟩
   . rw[h3]; exact .cons hr (.nil _ _)
   . rw[h3]at hx;cases i with
     | zero=>simp at hx; subst hx; exact h4
     | succ i=>simp at hx
theorem VRels.append {as bs:List V} {us vs:List Value} (h:VRels I ρ as us) (g:VRels I ρ bs vs):VRels I ρ (as++bs) (us++vs) :=
 ⟨by simp[h.1,g.1],fun i a u ha hu=>by
  by_cases hi:i<as.length
  . rw[List.getElem?_append_left hi]at ha;rw[List.getElem?_append_left (by rw[<-h.1]; exact hi)]at hu
    exact h.2 i a u ha hu
  . rw[List.getElem?_append_right (by omega)]at ha
    rw[List.getElem?_append_right (by rw[<-h.1]; omega)]at hu
    rw[<-h.1]at hu;exact g.2 _ a u ha hu⟩
theorem VRels.take {as:List V} {us:List Value} (h:VRels I ρ as us) (n:Nat):VRels I ρ (as.take n) (us.take n) :=
 ⟨by simp[h.1],fun i a u ha hu=>by
  have hlt:=(liZ.1 ha).1;simp at hlt;rw[List.getElem?_take_of_lt (by omega)]at ha hu
  exact h.2 i a u ha hu⟩
theorem VRels.drop {as:List V} {us:List Value} (h:VRels I ρ as us) (n:Nat):VRels I ρ (as.drop n) (us.drop n) :=
 ⟨by simp[h.1],fun i a u ha hu=>by
  rw[List.getElem?_drop]at ha hu;exact h.2 _ a u ha hu⟩
theorem o5 (l:List Value):∀(cs:Array Value) (off k:Nat),off+k+l.length<=cs.size -> ∀i:Nat,
 ((l.zipIdx k).foldl (fun(c:Array Value) (p:Value × Nat)=>c.setIfInBounds (off+p.2) p.1) cs)[i]? = if off+k<=i/\i<off+k+l.length then l[i-(off+k)]? else cs[i]?:=by
 induction l with
 | nil=>intro cs off k h i; rw[if_neg (by simp)]; simp
 | cons v l ih =>
  intro cs off k h i;simp only[List.length_cons]at h;simp only[List.zipIdx_cons,List.foldl_cons];rw[ih _ _ _ (by simp; omega)]
  simp only[List.length_cons];by_cases h1:i=off+k
  . subst h1;rw[if_neg (by omega),if_pos (by omega),Array.getElem?_setIfInBounds_self_of_lt (by omega)]
    simp
  . rw[Array.getElem?_setIfInBounds_ne (by omega)]
    by_cases h2:off+(k+1)<=i/\i<off+(k+1)+l.length
    . rw[if_pos h2,if_pos (by omega),show i-(off+k)=(i-(off+(k+1)))+1 by omega,List.getElem?_cons_succ]
    . rw[if_neg h2,if_neg (by omega)]
theorem ql {as bs:List V} {us:Array Value} {vs:List Value} (h:VRels I ρ as us.toList) (g:VRels I ρ bs vs) {off:Nat} (hle:off+bs.length<=as.length) :
 VRels I ρ (as.take off++bs++as.drop (off+bs.length)) ((vs.zipIdx 0).foldl (fun(c:Array Value) (p:Value × Nat)=>c.setIfInBounds (off+p.2) p.1) us).toList:=by
 have hl:us.size=as.length:=by have:=h.1; simp at this; exact this.symm
 have key:=o5 vs us off 0 (by rw[hl,<-g.1]; omega)
 have e:((vs.zipIdx 0).foldl (fun(c:Array Value) (p:Value × Nat)=>c.setIfInBounds (off+p.2) p.1) us).toList=us.toList.take off++vs++us.toList.drop (off+bs.length):=by
  apply List.ext_getElem?;intro i;have:=key i;rw[Nat.add_zero]at this;rw[Array.getElem?_toList,this];rw[List.append_assoc];by_cases h1:i<off
  . rw[if_neg (by omega),List.getElem?_append_left (by simp; omega),List.getElem?_take_of_lt h1,Array.getElem?_toList]
  . rw[List.getElem?_append_right (by simp; omega)]
    have e0:(us.toList.take off).length=off:=by simp; omega
    rw[e0];by_cases h2:i<off+vs.length
    . rw[if_pos (by omega),List.getElem?_append_left (by omega)]
    . rw[if_neg (by omega),List.getElem?_append_right (by omega),List.getElem?_drop,g.1,<-Array.getElem?_toList]
      congr 1; omega
 rw[e];exact((h.take off).append g).append (h.drop _)
theorem p9:∀(parts:List (Nat × V)) (place:Nat->Option (Nat × Nat)) (cells:List V) {K:V->Prop},mq place cells parts K -> ∃v,K v /\ ∀(I:aU) (ρ:List Pl) (us:Array Value) (ps:List (Nat × Value)),VRels I ρ cells us.toList->(∀(i:Nat) (u:Value),us[i]? = some u->u.oneCell'=true) ->
 ps.map (·.1)=parts.map (·.1)->VRels I ρ (parts.map (·.2)) (ps.map (·.2)) -> ∃r,Instr.fill place us ps=some r/\VRel I ρ v (.agg r):=by
 intro parts;induction parts with
 | nil =>
  intro place cells K h;simp only[mq,aW]at h;refine⟨_,h,fun I ρ us ps hc h1c hi hr=>⟨us,?_,?_⟩⟩
  . have:ps = []:=by simpa using hi
    subst this; rfl
  . obtain⟨h1,h2⟩:=te hc; exact .agg _ _ _ h1 h1c h2
 | cons p parts ih =>
  intro place cells K h;obtain⟨i,x⟩:=p;unfold mq at h;cases hp:place i<;>simp only[hp]at h
  rename_i os;obtain⟨off,size⟩:=os;cases hc:cellsOf x<;>simp only[hc]at h
  rename_i cs;cases hb:Nat.beq cs.length size<;>simp only[hb]at h
  have e0:=Nat.eq_of_beq_eq_true hb;subst e0;cases hb2:Nat.ble (off+cs.length) cells.length<;>simp only[hb2]at h
  have hle:=aA hb2;obtain⟨v,hK,hv⟩:=ih _ _ h;refine⟨v,hK,fun I ρ us ps hcells h1c hi hr=>?_⟩
  cases ps with
  | nil=>simp at hi
  | cons q ps =>
   obtain⟨j,u⟩:=q;simp at hi;obtain⟨rfl,hi⟩:=hi;obtain⟨u', us', e1,e2,e3⟩:=hr.cons_inv;simp at e1;obtain⟨rfl,rfl⟩:=e1;obtain⟨s1,s2,s3,s4⟩:=fc hc e2;have hus:us.size=cells.length:=by have:=hcells.1; simp at this; exact this.symm
   obtain⟨r,h1,h2⟩:=hv I ρ (u.cells.zipIdx.foldl (fun cs (c,j)=>cs.setIfInBounds (off+j) c) us) ps (by
    have:=ql hcells s2 hle;rw[<-Array.foldl_toList];simpa using this) (fun j x hx=>by
    rw[<-Array.foldl_toList]at hx;have hx' : ((u.cells.toList.zipIdx 0).foldl (fun(c:Array Value) (p:Value × Nat)=>c.setIfInBounds (off+p.2) p.1) us)[j]? = some x:=by simpa using hx
    rw[o5 _ us off 0 (by simp[s1]; omega)]at hx'
    split at hx'
    . exact s4 _ x (by simpa using hx')
    . exact h1c _ x hx') hi e3
   refine⟨r,?_,h2⟩;unfold Instr.fill;simp only[hp];rw[if_neg]
   . exact h1
   . simp[s1]; omega
theorem qh (hT:bH P T):∀(fs:List Field),(fs.map fun f=>(f.offset,f.type)).all (fun p=>(T p.2).good)=true ->
 fs.mapM (fun f=>(P.info? f.type).map fun i=>(f.offset,i.size))=some ((fs.map fun f=>(f.offset,f.type)).map fun p=>(p.1,(T p.2).size))
 | [],_=>by simp
 | f::fs,h=>by
  simp at h;obtain⟨h1,h2⟩:=h;obtain⟨i,z,d,g1,g2,g3,g4,_⟩:=bS hT h1;have ih:=qh hT fs (by simpa using h2)
  simp only[List.mapM_cons,g1,Option.map_some,Option.bind_eq_bind,Option.bind_some,ih,Option.pure_def,List.map_cons];rw[g4]
theorem HV (hT:bH P T) {o:Oper} {t:TypeId} {parts:Array (Nat × Operand)} (ho:o.op = .build t parts) {K:V->Prop} (h:wR T t (parts.toList.map fun p=>(p.1,am e p.2)) K):∃v,K v/\lL P o e H v:=by
 unfold wR at h;cases hk:(T t).kind<;>simp only[hk]at h
 case arr len q =>
  cases hg:(T q).good<;>simp only[hg]at h
  obtain⟨v,hK,hv⟩:=p9 _ _ _ h;have hu:=BA hT hk;obtain⟨i,z,d,g1,g2,g3,g4,g5⟩:=py hT (t:=t) (fun e=>by rw[e]at hk; cases hk)
  obtain⟨qi,qz,qd,q1,q2,q3,q4,_⟩:=bS hT hg;have hsz:(T q).size=qi.size:=by rw[q4]
  refine Kj hK fun I ρ w a hst he=>?_
  have hz:VRels I ρ (T t).zero z.cells.toList:=by rw[g4]; exact cA z.cells
  obtain⟨r,hr,hrel⟩:=hv I ρ z.cells (parts.toList.map fun p=>(p.1,a.eval p.2)) hz (cN g5) (by simp[List.map_map,Function.comp_def]) (by
   have:=iO he (parts.toList.map (·.2));simpa [List.map_map,Function.comp_def]using this)
  refine⟨.agg r,?_,hrel⟩;rw[hsz]at hr;have hr' : Instr.fill (fun i=>some (i*qi.size,qi.size)) z.cells (parts.map fun(i,x)=>(i,a.eval x)).toList=some r:=by
   rw[Array.toList_map]; exact hr
  have hzv:(zeroValue t).run P w = .ok z w:=by simp[zeroValue,typeInfo,g1,g2]
  simp only[execOp,ho,Instr.build,Sem.run_bind,hzv,Result.andThen_ok,af hu,bu q1,hr'];rfl
 rename_i fs;cases hg:fs.all (fun p=>(T p.2).good)<;>simp only[hg]at h
 obtain⟨v,hK,hv⟩:=p9 _ _ _ h;obtain⟨i,z,d,g1,g2,g3,g4,g5⟩:=py hT (t:=t) (fun e=>by rw[e]at hk; cases hk)
 have hd:cG d = .struct fs:=by rw[g4]at hk; exact hk
 obtain⟨fa,rfl,rfl⟩:=ls hd;refine Kj hK fun I ρ w a hst he=>?_
 have hz:VRels I ρ (T t).zero z.cells.toList:=by rw[g4]; exact cA z.cells
 obtain⟨r,hr,hrel⟩:=hv I ρ z.cells (parts.toList.map fun p=>(p.1,a.eval p.2)) hz (cN g5) (by simp[List.map_map,Function.comp_def]) (by
  have:=iO he (parts.toList.map (·.2));simpa [List.map_map,Function.comp_def]using this)
 refine⟨.agg r,?_,hrel⟩;have hpl:=qh hT fa.toList hg;have hb:P.built t (parts.map fun(i,x)=>(i,a.eval x)).toList=some r:=by
  unfold Program.built;simp only[g1,g3,g2,hpl];rw[Array.toList_map];have e1:(fun(x:Nat)=>((fa.toList.map fun f=>(f.offset,f.type)).map fun(p:Nat × TypeId)=>(p.1,(T p.2).size))[x]?)=fun x=>((fa.toList.map fun f=>(f.offset,f.type))[x]?).map fun(p:Nat × TypeId)=>(p.1,(T p.2).size):=by
   funext x; rw[List.getElem?_map]
  rw[<-e1]at hr;simpa using hr
 have:=run_build (P:=P) w t (parts.map fun(i,x)=>(i,a.eval x)) r hb
 simp[execOp,ho,this]
theorem rO (hT:bH P T) (o:Oper) {K:V->Prop} (h:aq T o.op e H K):∃v,K v/\lL P o e H v:=by
 unfold aq at h;split at h
 . rename_i ho; exact FL (.inl ho) h
 . rename_i ho; exact FL (.inr ho) h
 . rename_i ho; exact JO ho h
 . rename_i ho; exact HV hT ho h
 . rename_i ho; exact JN hT ho h
 . rename_i ho; exact Bl ho h
 . rename_i ho; exact KQ hT ho h
 . rename_i ho; exact Li ho h
 . rename_i ho; exact JM hT ho h
 . rename_i ho; exact Bk ho h
 . rename_i ho; exact Cv hT ho (HB:=[]) (fun v=>by cases v<;>simp[mM,ar]) h
 . rename_i ho; exact zk hT ho h
 . rename_i ho; exact HX hT ho h
 . rename_i ho; exact zl hT ho h
 . rename_i ho; exact HZ hT ho h
 . rename_i ho; exact DM ho h
 . rename_i ho; exact HY hT ho h
 . rename_i c ho;split at h
   . rename_i hc; exact KS hT ho hc h
   . rename_i hc; exact IL (mx:=true) ho hc h
   . rename_i hc; exact IL (mx:=false) ho hc h
   . exact h.elim
 . exact h.elim
end Go.Proofs.YteiagdlfccbpcaaGreatDoorPg
