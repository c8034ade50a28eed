/- Own texts, laid together: PgA4, PgA5. -/
import Derived.Test.YteiagdlfccbpcaaGreatDoorPgM2
import Derived.Laws.Cells
import Derived.Laws.Slices
import Derived.Laws.Strings
import Derived.Laws.BytesArg
import Derived.Laws.Pointers
import Derived.Laws.Cover3
import Derived.ChangeKeysEq
set_option linter.unusedSectionVars false
set_option linter.unusedSimpArgs false
set_option linter.unusedVariables false
namespace Go.Proofs.YteiagdlfccbpcaaGreatDoorPg
open Go Go.RowKit
section
variable [Globs]
variable {P:Program} {T:Nat->TI} {I:aU} {ρ:List Pl} {H:List O} {w:World} {e:Env}
theorem Bh (v:Value):VRel I ρ (cV v) v:=by
 unfold cV;split<;>first | exact .any _ _ | exact .bool _ _ | exact .int _ _ _ | exact .str _ _ | exact .nilp _ | exact .nils _ | exact .nilf _ | exact .nili _ | exact .nilm _
theorem cA (vs:Array Value):VRels I ρ (vs.toList.map cV) vs.toList:=by
 refine⟨by simp,fun i a u ha hu=>?_⟩
 rw[List.getElem?_map,hu]at ha;cases ha;exact Bh u
theorem te {as:List V} {us:Array Value} (h:VRels I ρ as us.toList):as.length=us.size /\ ∀(i:Nat) (a:V) (u:Value),as[i]? = some a->us[i]? = some u->VRel I ρ a u :=
 ⟨by simpa using h.1,fun i a u ha hu=>h.2 i a u ha (by simpa using hu)⟩
theorem Bg {v:Value} (h:ly (cV v)=true):v.oneCell'=true:=by
 cases v<;>simp[cV,ly]at h<;>rfl
theorem cN {vs:Array Value} (h:(vs.toList.map cV).all ly=true):∀(i:Nat) (u:Value),vs[i]? = some u->u.oneCell'=true:=fun i u hu=>by
 rw[List.all_eq_true]at h;refine Bg (h _ (List.mem_map.2 ⟨u,?_,rfl⟩));exact List.mem_of_getElem? (i:=i) (by simpa using hu)
theorem u4 (v:Value):VRel I ρ (Co v) v:=by
 unfold Co;split
 case h_9 cs =>
  obtain⟨h1,h2⟩:=te (I:=I) (ρ:=ρ) (cA cs);split
  . rename_i ha; exact .agg _ _ _ h1 (cN ha) h2
  . exact .any _ _
 case h_10 cs=>obtain⟨h1,h2⟩:=te (I:=I) (ρ:=ρ) (cA cs); exact .tup _ _ _ h1 h2
 all_goals first | exact .any _ _ | exact .bool _ _ | exact .int _ _ _ | exact .str _ _ | exact .nilp _ | exact .nils _ | exact .nilf _ | exact .nili _ | exact .nilm _
def ERel (I:aU) (ρ:List Pl) (e:Env) (tmps:Array Value):Prop:=∀t,VRel I ρ (Env.get e t) (tmps.getD t undef)
theorem ERel.mono {I' : aU} {ρ' : List Pl} {tmps:Array Value} (h:ERel I ρ e tmps) (hI:ILe I I') (hp:PLe ρ ρ'):ERel I' ρ' e tmps:=fun t=>(h t).mono hI hp
theorem aE {a:Act} (h:ERel I ρ e a.tmps) (x:Operand):VRel I ρ (am e x) (a.eval x):=by
 cases x with
 | tmp t=>exact h t
 | const v=>exact u4 v
 | global g=>exact .glob _ g
 | func f=>exact .fn _ _ _ _ _ _ rfl rfl (fun i a u h=>by simp at h) (fun i a u h=>by simp at h)
theorem Fx {v:V} {u:Value} (h:VRel I ρ v u):VRel I ρ (Fw v) u:=by
 cases h<;>simp only[Fw]
 case im v h1 h2=>exact h2.mono (ILe.refl _) (PLe.nil _)
 all_goals (constructor<;>assumption)
theorem aI {a:Act} (h:ERel I ρ e a.tmps) (x:Operand):VRel I ρ (ao e x) (a.eval x):=Fx (aE h x)
theorem py (hT:bH P T) {t:TypeId} (h:T t≠TI.bad):∃i z d,P.info? t=some i/\i.zero=some z/\P.underlying t=some d/\T t=⟨cG d,i.size,i.bytes,z.cells.toList.map cV,true,Hc P t d⟩/\(z.cells.toList.map cV).all ly=true:=by
 rcases hT t with e | e
 . unfold Im at e;cases hi:P.info? t with
   | none=>simp only[hi]at e; exact absurd e h
   | some i =>
    cases hz:i.zero with
    | none=>simp only[hi,hz]at e; exact absurd e h
    | some z =>
     cases hd:P.underlying t with
     | none=>simp only[hi,hz,hd]at e; exact absurd e h
     | some d =>
      cases ha:(z.cells.toList.map cV).all ly with
      | false=>simp only[hi,hz,hd,ha]at e; exact absurd e h
      | true=>simp only[hi,hz,hd,ha]at e; exact⟨i,z,d,rfl,hz,rfl,e,ha⟩
 . exact absurd e h
theorem bS (hT:bH P T) {t:TypeId} (h:(T t).good=true):∃i z d,P.info? t=some i/\i.zero=some z/\P.underlying t=some d/\T t=⟨cG d,i.size,i.bytes,z.cells.toList.map cV,true,Hc P t d⟩/\(z.cells.toList.map cV).all ly=true :=
 py hT fun e=>by rw[e]at h; cases h
theorem gg (hT:bH P T) {t:TypeId} {k:TK} (h:(T t).kind=k) (hk:k ≠ .other):∃d,P.underlying t=some d/\cG d=k:=by
 obtain⟨i,z,d,h1,h2,h3,h4,_⟩:=py hT (t:=t) fun e=>by rw[e]at h; exact hk h.symm
 exact⟨d,h3,by rw[h4]at h; exact h⟩
theorem E7 {d:TypeDesc} {k:IntKind} (h:cG d = .int k):d = .int k:=by cases d<;>simp[cG]at h; rw[h]
theorem DB {d:TypeDesc} (h:cG d = .bool):d = .bool:=by cases d<;>simp[cG]at h; rfl
theorem Fa {d:TypeDesc} (h:cG d = .str):d = .string:=by cases d<;>simp[cG]at h; rfl
theorem E9 {d:TypeDesc} {q:TypeId} (h:cG d = .ptr q):d = .pointer q:=by cases d<;>simp[cG]at h; rw[h]
theorem Hv {d:TypeDesc} {q:TypeId} (h:cG d = .sl q):d = .slice q:=by cases d<;>simp[cG]at h; rw[h]
theorem Hu {d:TypeDesc} (h:cG d = .fn):∃a b c,d = .func a b c:=by cases d<;>simp[cG]at h; exact⟨_,_,_,rfl⟩
theorem ls {d:TypeDesc} {fs:List (Nat × TypeId)} (h:cG d = .struct fs):∃fa,d = .struct fa/\fs=fa.toList.map fun f=>(f.offset,f.type):=by
 cases d<;>simp[cG]at h; exact⟨_,rfl,h.symm⟩
theorem E6 {d:TypeDesc} {n:Nat} {q:TypeId} (h:cG d = .arr n q):d = .array n q:=by cases d<;>simp[cG]at h; rw[h.1,h.2]
theorem E8 {d:TypeDesc} {n:TypeId} {q:TypeId} (h:cG d = .map n q):d = .map n q:=by cases d<;>simp[cG]at h; rw[h.1,h.2]
theorem eL (hT:bH P T) {t:TypeId} {k:IntKind} (h:(T t).kind = .int k):P.underlying t=some (.int k):=by
 obtain⟨d,h1,h2⟩:=gg hT h (by simp); rw[h1,E7 h2]
theorem q9 (hT:bH P T) {t:TypeId} (h:(T t).kind = .bool):P.underlying t=some .bool:=by
 obtain⟨d,h1,h2⟩:=gg hT h (by simp); rw[h1,DB h2]
theorem dC (hT:bH P T) {t:TypeId} (h:(T t).kind = .str):P.underlying t=some .string:=by
 obtain⟨d,h1,h2⟩:=gg hT h (by simp); rw[h1,Fa h2]
theorem pB (hT:bH P T) {t q:TypeId} (h:(T t).kind = .ptr q):P.underlying t=some (.pointer q):=by
 obtain⟨d,h1,h2⟩:=gg hT h (by simp); rw[h1,E9 h2]
theorem dv (hT:bH P T) {t q:TypeId} (h:(T t).kind = .sl q):P.underlying t=some (.slice q):=by
 obtain⟨d,h1,h2⟩:=gg hT h (by simp); rw[h1,Hv h2]
theorem IU (hT:bH P T) {t:TypeId} (h:(T t).kind = .fn):∃a b c,P.underlying t=some (.func a b c):=by
 obtain⟨d,h1,h2⟩:=gg hT h (by simp); obtain⟨a,b,c,rfl⟩:=Hu h2; exact⟨a,b,c,h1⟩
theorem l8 (hT:bH P T) {t:TypeId} {fs:List (Nat × TypeId)} (h:(T t).kind = .struct fs):∃fa,P.underlying t=some (.struct fa)/\fs=fa.toList.map fun f=>(f.offset,f.type):=by
 obtain⟨d,h1,h2⟩:=gg hT h (by simp); obtain⟨fa,rfl,h3⟩:=ls h2; exact⟨fa,h1,h3⟩
theorem BA (hT:bH P T) {t:TypeId} {n:Nat} {q:TypeId} (h:(T t).kind = .arr n q):P.underlying t=some (.array n q):=by
 obtain⟨d,h1,h2⟩:=gg hT h (by simp); rw[h1,E6 h2]
theorem af {t:TypeId} {d:TypeDesc} (h:P.underlying t=some d) (w:World):(underlying t).run P w = .ok d w:=by
 simp[underlying,h]
theorem bu {t:TypeId} {i:TypeInfo} (h:P.info? t=some i) (w:World):(sizeOf t).run P w = .ok i.size w:=by
 simp[sizeOf,typeInfo,h]
theorem e7 (hT:bH P T) {t:TypeId} (h:(T t).good=true) (w:World):(isAgg t).run P w = .ok (T t).kind.isAgg w:=by
 obtain⟨i,z,d,h1,h2,h3,h4,_⟩:=bS hT h;rw[h4];cases d<;>simp[cG,TK.isAgg,isAgg,af h3]
def lL (P:Program) (o:Oper) (e:Env) (H:List O) (v:V):Prop :=
 ∀(I:aU) (ρ:List Pl) (w:World) (a:Act),St I ρ H w->ERel I ρ e a.tmps -> ∃u,(execOp a.eval o).run P w = .ok (.value u) w/\VRel I ρ v u
theorem KX {o:Oper} {a:Act} {w:World} {s:Sem Value} {u:Value} (h:execOp a.eval o=(do pure (.value (<-s)))) (hs:s.run P w = .ok u w):(execOp a.eval o).run P w = .ok (.value u) w:=by
 rw[h]; simp[hs]
theorem ja (hT:bH P T) {t:TypeId} {cs:List V} {off:Nat} {K:V->Prop} (h:jL (T t) cs off K) :
 ∃v,K v /\ ∀(I:aU) (ρ:List Pl) (w:World) (b base:Nat),CellsAt I ρ w b base cs -> ∃u,(loadVar t ⟨b,base+off,none⟩).run P w = .ok u w/\VRel I ρ v u:=by
 unfold jL at h;cases hg:(T t).good with
 | false=>rw[hg]at h; exact h.elim
 | true =>
  rw[hg]at h;obtain⟨i,z,d,h1,h2,h3,h4,_⟩:=bS hT hg;cases ha:(T t).kind.isAgg with
  | true =>
   rw[ha]at h;cases hb:Nat.ble (off+(T t).size) cs.length with
   | false=>simp only[hb]at h
   | true =>
    simp only[hb,aW]at h;refine⟨_,h,fun I ρ w b base hc=>?_⟩
    have hle:off+i.size<=cs.length:=by have:=aA hb; rw[h4]at this; exact this
    have hsz:(T t).size=i.size:=by rw[h4]
    have hex:∀j,j<i.size -> ∃u,w.cell? ⟨b,base+off+j,none⟩=some u/\u.oneCell'=true/\VRel I ρ (cs.getD (off+j) .any) u:=fun j hj=>by
     have hlt:off+j<cs.length:=by omega
     obtain⟨u,hu,ho,hv⟩:=hc (off+j) cs[off+j] (aS hlt);exact⟨u,by rw[<-hu]; congr 2; omega,ho,by simpa [List.getD,aS hlt]using hv⟩
    obtain⟨f,hf⟩:∃f:Nat->Value,∀j,j<i.size->w.cell? ⟨b,base+off+j,none⟩=some (f j)/\(f j).oneCell'=true/\VRel I ρ (cs.getD (off+j) .any) (f j) :=
     ⟨fun j=>if hj:j<i.size then(hex j hj).choose else default,fun j hj=>by simp only[hj,dif_pos]; exact(hex j hj).choose_spec⟩
    refine⟨.agg ((List.range i.size).map f).toArray,?_,?_⟩
    . have:=run_loadCells (P:=P) w ⟨b,base+off,none⟩ i.size f (fun j hj=>by
       have:=(hf j hj).1;unfold Addr.add;by_cases h0:j=0
       . subst h0; simpa using this
       . rw[if_neg h0]; exact this)
      simp[loadVar,e7 hT hg,ha,bu h1,this]
    . rw[hsz];refine .agg _ _ _ (by simp; omega) (fun j u hu=>by
       have hj:j<i.size:=by have:=(Array.getElem?_eq_some_iff.1 hu).1; simpa using this
       simp[hj]at hu; subst hu; exact(hf j hj).2.1) (fun j x u hx hu=>?_)
      have hj:j<i.size:=by
       have:=(liZ.1 hx).1; simp at this; omega
      have e1:x=cs.getD (off+j) .any:=by
       rw[List.getElem?_take_of_lt hj,List.getElem?_drop]at hx;simp[List.getD,hx]
      have e2:u=f j:=by
       simp[hj]at hu; exact hu.symm
      subst e1; subst e2; exact(hf j hj).2.2
  | false =>
   rw[ha]at h;cases hv:cs[off]? with
   | none=>simp only[hv]at h
   | some v =>
    simp only[hv,cr]at h;refine⟨v,h,fun I ρ w b base hc=>?_⟩
    obtain⟨u,hu,_,hr⟩:=hc off v hv;exact⟨u,by simp[loadVar,e7 hT hg,ha,hu],hr⟩
theorem St.cells {H:List O} (hst:St I ρ H w) {id:Nat} {cs:List V} (h:ar H id = .cells cs) {p:Pl} (hp:ρ[id]? = some p):p.base=0/\Open w p.b 0 cs.length/\CellsAt I ρ w p.b 0 cs:=by
 have hlt:id<H.length:=by have:=(liZ.1 hp).1; rw[hst.len]at this; exact this
 have ho:H[id]? = some (.cells cs):=by
  rw[aS hlt];simp[ar,List.getD,aS hlt]at h;rw[h]
 have:=hst.obj id p _ hp ho;exact⟨this.1,this.2.2⟩
theorem ax {H:List O} {id:Nat} {o:O} (h:ar H id=o) (hd:o ≠ .dead):H[id]? = some o:=by
 unfold ar List.getD at h;cases hx:H[id]? with
 | none=>rw[hx]at h; exact absurd h.symm hd
 | some y=>rw[hx]at h; simp at h; rw[h]
theorem Dx {b base:Nat} {cs:List V} {u:Nat->Value} (hst:St I ρ H w) (h1:∀(i:Nat) (c:V),cs[i]? = some c->I b (base+i)=some (u i))
 (h1' : ∀(i:Nat) (c:V),cs[i]? = some c->(u i).oneCell'=true) (h2:∀(i:Nat) (c:V),cs[i]? = some c->VRel I [] c (u i)):CellsAt I ρ w b base cs :=
 fun i v hv=>⟨u i,hst.imm _ _ _ (h1 i v hv),h1' i v hv,(h2 i v hv).mono (ILe.refl _) (PLe.nil _)⟩
theorem iV {id off:Nat} {u:Value} (h:VRel I ρ (.ptr id off) u):∃p,ρ[id]? = some p/\u = .pointer (some ⟨p.b,p.base+off,none⟩):=by cases h; exact⟨_,‹_›,rfl⟩
theorem zT {id i j:Nat} {u:Value} (h:VRel I ρ (.ep id i j) u):∃p,ρ[id]? = some p/\u = .pointer (some ⟨p.b,p.base+(i*p.sz+j),none⟩):=by cases h; exact⟨_,‹_›,rfl⟩
theorem CM {cs:List V} {off:Nat} {u:Value} (h:VRel I ρ (.ip cs off) u):∃(b base:Nat) (f:Nat->Value),(∀(i:Nat) (c:V),cs[i]? = some c->I b (base+i)=some (f i))/\(∀(i:Nat) (c:V),cs[i]? = some c->(f i).oneCell'=true)/\(∀(i:Nat) (c:V),cs[i]? = some c->VRel I [] c (f i))/\u = .pointer (some ⟨b,base+off,none⟩):=by
 cases h; exact⟨_,_,_,‹_›,‹_›,‹_›,rfl⟩
theorem bN {k:IntKind} {n:Int} {u:Value} (h:VRel I ρ (.int k n) u):u = .int k n:=by cases h; rfl
theorem fH {b:Bool} {u:Value} (h:VRel I ρ (.bool b) u):u = .bool b:=by cases h; rfl
theorem eM {s:List UInt8} {u:Value} (h:VRel I ρ (.str s) u):∃b:ByteArray,b.data.toList=s/\u = .string b:=by cases h; exact⟨_,rfl,rfl⟩
theorem kJ {u:Value} (h:VRel I ρ .nilp u):u = .pointer none:=by cases h; rfl
theorem fJ {u:Value} (h:VRel I ρ .nils u):u = .slice none 0 0:=by cases h; rfl
theorem xl {u:Value} (h:VRel I ρ .nilf u):u = .nilFunc:=by cases h; rfl
theorem It {g:Nat} {u:Value} (h:VRel I ρ (.glob g) u):u = .pointer (some ⟨g,0,none⟩):=by cases h; rfl
theorem iU {cs:List V} {u:Value} (h:VRel I ρ (.agg cs) u):∃us,u = .agg us/\cs.length=us.size/\(∀(i:Nat) (u:Value),us[i]? = some u->u.oneCell'=true) /\ ∀(i:Nat) (a:V) (u:Value),cs[i]? = some a->us[i]? = some u->VRel I ρ a u:=by cases h; exact⟨_,rfl,‹_›,‹_›,‹_›⟩
theorem Gu {cs:List V} {u:Value} (h:VRel I ρ (.tup cs) u):∃us,u = .tuple us/\cs.length=us.size /\ ∀(i:Nat) (a:V) (u:Value),cs[i]? = some a->us[i]? = some u->VRel I ρ a u:=by cases h; exact⟨_,rfl,‹_›,‹_›⟩
theorem zU {f:Fn} {as bs:List V} {u:Value} (h:VRel I ρ (.fn f as bs) u):∃us ws,u = .func f us ws/\VRels I ρ as us.toList/\VRels I ρ bs ws.toList:=by
 cases h with
 | fn _ _ _ _ us ws h1 h2 h3 h4=>exact⟨us,ws,rfl,⟨by simpa using h1,fun i a u ha hu=>h3 i a u ha (by simpa using hu)⟩,⟨by simpa using h2,fun i a u ha hu=>h4 i a u ha (by simpa using hu)⟩⟩
theorem gh (s:ByteArray) {l:List UInt8} (h:s.data.toList=l):VRel I ρ (.str l) (.string s):=by subst h; exact .str _ s
theorem iD {id i:Nat} {es:List (List V)} {x:List V} {p:Pl} (hst:St I ρ H w) (hp:ρ[id]? = some p) (hb:ar H id = .buf es) (hx:es[i]? = some x) :
 x.length=p.sz/\CellsAt I [] w p.b (p.base+i*p.sz) x/\es.length<=p.tot/\Open w p.b p.base (p.base+p.tot*p.sz):=by
 have:=hst.obj id p _ hp (ax hb (by simp))
 rcases this with⟨h0,_⟩ | ⟨h1,h2,h3⟩
 . subst h0; simp at hx
 . exact⟨(h3 i x hx).1,(h3 i x hx).2,h1,h2⟩
theorem CellsAt.up {b base:Nat} {cs:List V} (h:CellsAt I [] w b base cs):CellsAt I ρ w b base cs:=fun i v hv=>by
 obtain⟨u,h1,ho,h2⟩:=h i v hv;exact⟨u,h1,ho,h2.mono (ILe.refl _) (PLe.nil _)⟩
theorem JN (hT:bH P T) {o:Oper} {t:TypeId} {x:Operand} (ho:o.op = .load t x) {K:V->Prop} (h:Ct T H t (ao e x) K):∃v,K v/\lL P o e H v:=by
 unfold Ct at h;cases hx:ao e x<;>simp only[hx]at h
 case ptr id off =>
  cases hg:ar H id<;>simp only[hg]at h
  rename_i cs;obtain⟨v,hK,hl⟩:=ja hT h;refine⟨v,hK,fun I ρ w a hst he=>?_⟩
  have hr:=aI he x;rw[hx]at hr;obtain⟨p,hp,hu⟩:=iV hr;obtain⟨hb0,_,hc⟩:=hst.cells hg hp;obtain⟨u,hrun,hv⟩:=hl I ρ w p.b 0 hc;refine⟨u,?_,hv⟩;rw[Nat.zero_add]at hrun;simp only[execOp,ho,hu,Instr.loadAt,Instr.sureAddr,hb0,Nat.zero_add];simp[hrun]
 case ep id i j =>
  cases hg:ar H id<;>simp only[hg]at h
  rename_i es;obtain⟨y,hy,h⟩:=h;obtain⟨v,hK,hl⟩:=ja hT h;refine⟨v,hK,fun I ρ w a hst he=>?_⟩
  have hr:=aI he x;rw[hx]at hr;obtain⟨p,hp,hu⟩:=zT hr;obtain⟨_,hc,_,_⟩:=iD hst hp hg hy;obtain⟨u,hrun,hv⟩:=hl I ρ w p.b _ hc.up;refine⟨u,?_,hv⟩;simp only[execOp,ho,hu,Instr.loadAt,Instr.sureAddr];rw[<-Nat.add_assoc];simp[hrun]
 case ip cs off =>
  obtain⟨v,hK,hl⟩:=ja hT h;refine⟨v,hK,fun I ρ w a hst he=>?_⟩
  have hr:=aI he x;rw[hx]at hr;obtain⟨b,base,f,h1,h1', h2,hu⟩:=CM hr;obtain⟨u,hrun,hv⟩:=hl I ρ w b base (Dx hst h1 h1' h2);refine⟨u,?_,hv⟩;simp only[execOp,ho,hu,Instr.loadAt,Instr.sureAddr];simp[hrun]
theorem FL {o:Oper} {x:Operand} (ho:o.op = .move x\/o.op = .assign x) {K:V->Prop} (h:gS (am e x) K):∃v,K v/\lL P o e H v:=by
 rw[cr]at h;refine⟨_,h,fun I ρ w a hst he=>⟨a.eval x,?_,aE he x⟩⟩
 rcases ho with ho | ho<;>simp[execOp,ho]
theorem JO {o:Oper} {c x y:Operand} (ho:o.op = .pick c x y) {K:V->Prop} (h:Cu (am e c) (am e x) (am e y) K):∃v,K v/\lL P o e H v:=by
 unfold Cu at h;cases hx:am e c<;>(try (simp only[hx]at h; done))
 case bool b =>
 cases b<;>simp only[hx,cr]at h
 . refine⟨_,h,fun I ρ w a hst he=>⟨a.eval y,?_,aE he y⟩⟩
   have hr:=aE he c;rw[hx]at hr;simp[execOp,ho,fH hr,asBool]
 . refine⟨_,h,fun I ρ w a hst he=>⟨a.eval x,?_,aE he x⟩⟩
   have hr:=aE he c;rw[hx]at hr;simp[execOp,ho,fH hr,asBool]
theorem Bl {o:Oper} {x:Operand} (ho:o.op = .nilCheck x) {K:V->Prop} (h:HU (ao e x) K):∃v,K v/\lL P o e H v:=by
 unfold HU at h;cases hx:ao e x<;>simp only[hx]at h
 case ptr id off =>
  refine⟨_,h,fun I ρ w a hst he=>?_⟩
  have hr:=aI he x;rw[hx]at hr;obtain⟨p,hp,hu⟩:=iV hr;exact⟨a.eval x,by simp[execOp,ho,hu],by rw[hu]; exact .ptr _ _ _ _ hp⟩
 case ep id i j =>
  refine⟨_,h,fun I ρ w a hst he=>?_⟩
  have hr:=aI he x;rw[hx]at hr;obtain⟨p,hp,hu⟩:=zT hr;exact⟨a.eval x,by simp[execOp,ho,hu],by rw[hu]; exact .ep _ _ _ _ _ hp⟩
 case ip cs off =>
  refine⟨_,h,fun I ρ w a hst he=>?_⟩
  have hr:=aI he x;rw[hx]at hr;have hr' := hr;obtain⟨b,base,f,h1,h1', h2,hu⟩:=CM hr;exact⟨a.eval x,by simp[execOp,ho,hu],hr'⟩
 case fn g as bs =>
  cases g<;>simp only at h
  refine⟨_,h,fun I ρ w a hst he=>?_⟩
  have hr:=aI he x;rw[hx]at hr;have hr' := hr;obtain⟨us,ws,hu,_,_⟩:=zU hr;exact⟨a.eval x,by simp[execOp,ho,hu],hr'⟩
theorem AY {op:BinOp} {t:TypeId} {x y:Operand} {a b:Value} (h1:a ≠ .nilIface) (h2:∀c,a ≠ .agg c):(eqGuard op t x y a b).run P w = .ok () w:=by
 unfold eqGuard;cases op<;>simp
 all_goals
  cases a<;>simp at h1 h2 ⊢
theorem jd {o:Oper} {op:BinOp} {t:TypeId} {x y:Operand} {yt:TypeId} (ho:o.op = .binOp op t x y yt) {a:Act} {w:World} {u v r:Value} (hx:a.eval x=u) (hy:a.eval y=v)
 (h1:u ≠ .nilIface) (h2:∀c,u ≠ .agg c) (hr:(binOp op t u v).run P w = .ok r w):(execOp a.eval o).run P w = .ok (.value r) w:=by
 subst hx; subst hy;simp[execOp,ho,AY h1 h2,hr]
theorem BW (x y:Int):(x == y)=decide (x=y):=by
 by_cases h:x=y<;>simp[h]
theorem GP (x y:Int):(x != y) = !decide (x=y):=by
 by_cases h:x=y<;>simp[h,bne]
theorem FI {o:Oper} {op:BinOp} {t:TypeId} {x y:Operand} {yt:TypeId} (ho:o.op = .binOp op t x y yt) {k:IntKind} {m n:Int}
 (hx:ao e x = .int k m) (hy:ao e y = .int k n) {K:V->Prop} (h:nt op k m n K):∃v,K v/\lL P o e H v:=by
 have key:∀r:V,K r->(∀w:World,∃u,(binOp op t (.int k m) (.int k n)).run P w = .ok u w /\ ∀(I:aU) (ρ:List Pl),VRel I ρ r u) -> ∃v,K v/\lL P o e H v:=fun r hK hr =>
  ⟨r,hK,fun I ρ w a hst he=>by
   have h1:=aI he x;have h2:=aI he y;rw[hx]at h1; rw[hy]at h2;obtain⟨u,hu,hv⟩:=hr w;exact⟨u,jd ho (bN h1) (bN h2) (by simp) (by simp) hu,hv I ρ⟩⟩
 cases op<;>simp only[nt]at h<;>try exact h.elim
 case add=>exact key _ h fun w=>⟨_,by simp[binOp,Op.intArith],fun _ _=>.int _ _ _⟩
 case sub=>exact key _ h fun w=>⟨_,by simp[binOp,Op.intArith],fun _ _=>.int _ _ _⟩
 case mul=>exact key _ h fun w=>⟨_,by simp[binOp,Op.intArith],fun _ _=>.int _ _ _⟩
 case quo=>exact key _ h.2 fun w=>⟨_,by simp[binOp,Op.intDiv,h.1],fun _ _=>.int _ _ _⟩
 case rem=>exact key _ h.2 fun w=>⟨_,by simp[binOp,Op.intDiv,h.1],fun _ _=>.int _ _ _⟩
 case and=>exact key _ h fun w=>⟨.int k (k.wrap (BitVec.ofInt k.bits m &&& BitVec.ofInt k.bits n).toNat),by simp only[binOp,Op.intBits]; rw[if_neg (by simp)]; rfl,fun _ _=>.int _ _ _⟩
 case or=>exact key _ h fun w=>⟨.int k (k.wrap (BitVec.ofInt k.bits m ||| BitVec.ofInt k.bits n).toNat),by simp only[binOp,Op.intBits]; rw[if_neg (by simp)]; rfl,fun _ _=>.int _ _ _⟩
 case xor=>exact key _ h fun w=>⟨.int k (k.wrap (BitVec.ofInt k.bits m ^^^ BitVec.ofInt k.bits n).toNat),by simp only[binOp,Op.intBits]; rw[if_neg (by simp)]; rfl,fun _ _=>.int _ _ _⟩
 case andNot=>exact key _ h fun w=>⟨.int k (k.wrap (BitVec.ofInt k.bits m &&& ~~~ BitVec.ofInt k.bits n).toNat),by simp only[binOp,Op.intBits]; rw[if_neg (by simp)]; rfl,fun _ _=>.int _ _ _⟩
 case eql=>exact key _ h fun w=>⟨.bool (m == n),by simp[binOp,Op.intCmp],fun _ _=>by rw[BW]; exact .bool _ _⟩
 case neq=>exact key _ h fun w=>⟨.bool (m != n),by simp[binOp,Op.intCmp],fun _ _=>by rw[GP]; exact .bool _ _⟩
 case lss=>exact key _ h fun w=>⟨.bool (decide (m<n)),by simp[binOp,Op.intCmp],fun _ _=>.bool _ _⟩
 case leq=>exact key _ h fun w=>⟨.bool (decide (m<=n)),by simp[binOp,Op.intCmp],fun _ _=>.bool _ _⟩
 case gtr=>exact key _ h fun w=>⟨.bool (decide (n<m)),by simp[binOp,Op.intCmp],fun _ _=>.bool _ _⟩
 case geq=>exact key _ h fun w=>⟨.bool (decide (n<=m)),by simp[binOp,Op.intCmp],fun _ _=>.bool _ _⟩
theorem Gd (a b:ByteArray):(a.toList == b.toList)=decide (a.data.toList=b.data.toList):=by
 simp only[ByteArray.toList_eq];generalize a.data.toList=x; generalize b.data.toList=y;by_cases h:x=y<;>simp[h]
end
end Go.Proofs.YteiagdlfccbpcaaGreatDoorPg
