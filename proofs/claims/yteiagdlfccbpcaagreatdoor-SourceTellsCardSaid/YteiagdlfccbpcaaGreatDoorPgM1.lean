/- Own texts, laid together: PgA1, PgA2, PgA21. -/
import Derived.CallsIn
import Derived.OrdersIn
import Derived.Below
import Derived.RangeFuncRecord
import Derived.MapKept
import Derived.Maps.RangeRun
set_option linter.unusedSectionVars false
set_option linter.unusedSimpArgs false
set_option linter.unusedVariables false
namespace Go.Proofs.YteiagdlfccbpcaaGreatDoorPg
open Go Go.RowKit
section
theorem aA {a b:Nat} (h:Nat.ble a b=true):a<=b:=Nat.le_of_ble_eq_true h
theorem aB {p:Prop} [Decidable p] (h:decide p=true):p:=of_decide_eq_true h
theorem aG {p:Prop} [Decidable p] (h:decide p=false):¬p:=of_decide_eq_false h
theorem aS {α:Type _} {l:List α} {i:Nat} (h:i<l.length):l[i]? = some l[i]:=List.getElem?_eq_getElem h
theorem liZ {α:Type _} {l:List α} {i:Nat} {a:α}:l[i]? = some a ↔ ∃h:i<l.length,l[i]=a:=List.getElem?_eq_some_iff
theorem aD {α:Type _} {a b:List α}:(a++b).length=a.length+b.length:=List.length_append
inductive V where
 | bool (b:Bool)
 | int (k:IntKind) (n:Int)
 | str (s:List UInt8)
 | ptr (id off:Nat)
 | ep (id i j:Nat)
 | ip (cs:List V) (off:Nat)
 | nilp
 | sl (sz:Nat) (es:List (List V)) (full:Bool)
 | ms (sz id off len:Nat) (full:Bool)
 | mr (sz id off len:Nat)
 | nils
 | fn (f:Fn) (first cap:List V)
 | nilf
 | map (id:Nat)
 | nilm
 | agg (cs:List V)
 | tup (vs:List V)
 | iface (t:TypeId) (v:V)
 | nili
 | glob (g:Nat)
 | yld (id:Nat)
 | im (v:V)
 | raw (u:Value)
 | any
 deriving Inhabited
abbrev Env:=List (Nat × V)
def Env.get:Env->Nat->V
 | [],_=>.any
 | (i,v)::e,t=>match Nat.beq i t with | true=>v | false=>Env.get e t
inductive AEx where
 | normal
 | exit (id:Nat)
 | ret
structure jq where
 ps:Array Tmp
 asg:Code
 body:Code
 n:Nat
inductive LSt where
 | ready
 | busy
 | exit (id:Nat)
 | ret
def LSt.state:LSt->LoopState
 | .ready=>.ready
 | .busy=>.busy
 | _=>.done
def LSt.pend:LSt->Option Code
 | .exit i=>some (.exit i)
 | .ret=>some .ret
 | _=>none
inductive O where
 | cells (cs:List V)
 | buf (es:List (List V))
 | bufc (es:List (List V))
 | iter (s:List UInt8) (pos:Nat)
 | map (kvs:List (V × V)) (clock:Nat)
 | pmap (kvs:List (V × V)) (clock:Nat)
 | loop (c:jq) (st:LSt) (e:Env)
 | res (R:(Nat->Nat->Option Value)->World->Nat->Prop) (B:List Nat)
 | miter (B:List Nat) (left:List (V × V)) (cur:Option (V × V))
 | bag (l:List (Nat × List V))
 | dead
instance:Inhabited O:=⟨.dead⟩
structure Pl where
 b:Nat
 base:Nat
 sz:Nat
 tot:Nat
abbrev aU:=Nat->Nat->Option Value
inductive VRel (I:aU):List Pl->V->Value->Prop
 | any (ρ) (v:Value):VRel I ρ .any v
 | bool (ρ) (b:Bool):VRel I ρ (.bool b) (.bool b)
 | int (ρ) (k:IntKind) (n:Int):VRel I ρ (.int k n) (.int k n)
 | str (ρ) (s:ByteArray):VRel I ρ (.str s.data.toList) (.string s)
 | ptr (ρ) (id off:Nat) (p:Pl):ρ[id]? = some p->VRel I ρ (.ptr id off) (.pointer (some ⟨p.b,p.base+off,none⟩))
 | ep (ρ) (id i j:Nat) (p:Pl):ρ[id]? = some p->VRel I ρ (.ep id i j) (.pointer (some ⟨p.b,p.base+(i*p.sz+j),none⟩))
 | ip (ρ) (cs:List V) (off b base:Nat) (u:Nat->Value):(∀(i:Nat) (c:V),cs[i]? = some c->I b (base+i)=some (u i)) ->
  (∀(i:Nat) (c:V),cs[i]? = some c->(u i).oneCell'=true)->(∀(i:Nat) (c:V),cs[i]? = some c->VRel I [] c (u i))->VRel I ρ (.ip cs off) (.pointer (some ⟨b,base+off,none⟩))
 | nilp (ρ):VRel I ρ .nilp (.pointer none)
 | sl (ρ) (sz:Nat) (es:List (List V)) (full:Bool) (b base cap:Nat) (u:Nat->Nat->Value):es.length<=cap->(full=true->cap=es.length) ->
  (∀(i:Nat) (e:List V),es[i]? = some e->e.length=sz)->(∀(i:Nat) (e:List V) (j:Nat) (c:V),es[i]? = some e->e[j]? = some c->I b (base+(i*sz+j))=some (u i j)) ->
  (∀(i:Nat) (e:List V) (j:Nat) (c:V),es[i]? = some e->e[j]? = some c->(u i j).oneCell'=true)->(∀(i:Nat) (e:List V) (j:Nat) (c:V),es[i]? = some e->e[j]? = some c->VRel I [] c (u i j))->VRel I ρ (.sl sz es full) (.slice (some ⟨b,base,none⟩) es.length cap)
 | slnil (ρ) (sz:Nat) (full:Bool) (a:Option Addr):VRel I ρ (.sl sz [] full) (.slice a 0 0)
 | ms (ρ) (id off len cap:Nat) (full:Bool) (p:Pl):ρ[id]? = some p->len<=cap->off+cap<=p.tot->(full=true->cap=len)->(full=false->off+cap=p.tot) ->
  VRel I ρ (.ms p.sz id off len full) (.slice (some ⟨p.b,p.base+off*p.sz,none⟩) len cap)
 | ms0 (ρ) (sz id off:Nat) (full:Bool) (a:Option Addr):VRel I ρ (.ms sz id off 0 full) (.slice a 0 0)
 | mr (ρ) (id off len cap:Nat) (p:Pl):ρ[id]? = some p->len<=cap->off+cap=p.tot->VRel I ρ (.mr p.sz id off len) (.slice (some ⟨p.b,p.base+off*p.sz,none⟩) len cap)
 | mr0 (ρ) (id off:Nat) (p:Pl) (a:Option Addr):ρ[id]? = some p->off=p.tot->VRel I ρ (.mr p.sz id off 0) (.slice a 0 0)
 | nils (ρ):VRel I ρ .nils (.slice none 0 0)
 | fn (ρ) (f:Fn) (as bs:List V) (us ws:Array Value):as.length=us.size->bs.length=ws.size ->
  (∀(i:Nat) (a:V) (u:Value),as[i]? = some a->us[i]? = some u->VRel I ρ a u)->(∀(i:Nat) (a:V) (u:Value),bs[i]? = some a->ws[i]? = some u->VRel I ρ a u) ->
  VRel I ρ (.fn f as bs) (.func f us ws)
 | nilf (ρ):VRel I ρ .nilf .nilFunc
 | map (ρ) (id:Nat) (p:Pl):ρ[id]? = some p->VRel I ρ (.map id) (.map (some p.b))
 | nilm (ρ):VRel I ρ .nilm (.map none)
 | agg (ρ) (cs:List V) (us:Array Value):cs.length=us.size->(∀(i:Nat) (u:Value),us[i]? = some u->u.oneCell'=true)->(∀(i:Nat) (a:V) (u:Value),cs[i]? = some a->us[i]? = some u->VRel I ρ a u)->VRel I ρ (.agg cs) (.agg us)
 | tup (ρ) (cs:List V) (us:Array Value):cs.length=us.size->(∀(i:Nat) (a:V) (u:Value),cs[i]? = some a->us[i]? = some u->VRel I ρ a u)->VRel I ρ (.tup cs) (.tuple us)
 | iface (ρ) (t:TypeId) (v:V) (u:Value):VRel I ρ v u->VRel I ρ (.iface t v) (.iface t u)
 | nili (ρ):VRel I ρ .nili .nilIface
 | glob (ρ) (g:Nat):VRel I ρ (.glob g) (.pointer (some ⟨g,0,none⟩))
 | im (ρ) (v:V) (u:Value):u.oneCell'=true->VRel I [] v u->VRel I ρ (.im v) u
 | yld (ρ) (id:Nat) (p:Pl):ρ[id]? = some p->VRel I ρ (.yld id) (.func (.yield p.b) #[] #[])
 | raw (ρ) (u:Value):u.oneCell'=true->VRel I ρ (.raw u) u
def VRels (I:aU) (ρ:List Pl) (as:List V) (us:List Value):Prop :=
 as.length=us.length /\ ∀(i:Nat) (a:V) (u:Value),as[i]? = some a->us[i]? = some u->VRel I ρ a u
def ILe (I I' : aU):Prop:=∀b o v,I b o=some v->I' b o=some v
theorem ILe.refl (I:aU):ILe I I:=fun _ _ _ h=>h
theorem ILe.trans {I J K:aU} (h:ILe I J) (k:ILe J K):ILe I K:=fun b o v x=>k b o v (h b o v x)
def PLe (ρ ρ' : List Pl):Prop:=∀(i:Nat) (p:Pl),ρ[i]? = some p->ρ'[i]? = some p
theorem PLe.refl (ρ:List Pl):PLe ρ ρ:=fun _ _ h=>h
theorem PLe.append (ρ σ:List Pl):PLe ρ (ρ++σ):=fun i p h=>by
 have:i < ρ.length:=(liZ.1 h).1;rw[List.getElem?_append_left this]; exact h
theorem PLe.nil (ρ:List Pl):PLe [] ρ:=fun i p h=>by simp at h
theorem VRel.mono {I I' : aU} (hI:ILe I I') {ρ:List Pl} {a:V} {u:Value} (h:VRel I ρ a u):∀ {ρ' : List Pl},PLe ρ ρ'->VRel I' ρ' a u:=by
 induction h with
 | any=>intros; exact .any _ _
 | bool=>intros; exact .bool _ _
 | int=>intros; exact .int _ _ _
 | str=>intros; exact .str _ _
 | ptr ρ id off p h=>intro ρ' hp; exact .ptr _ _ _ _ (hp _ _ h)
 | ep ρ id i j p h=>intro ρ' hp; exact .ep _ _ _ _ _ (hp _ _ h)
 | ip ρ cs off b base u h1 h1' h2 ih=>intro ρ' hp; exact .ip _ _ _ _ _ u (fun i c hc=>hI _ _ _ (h1 i c hc)) h1' (fun i c hc=>ih i c hc (PLe.refl _))
 | nilp=>intros; exact .nilp _
 | sl ρ sz es full b base cap u h1 h2 h3 h4 h4' h5 ih=>intro ρ' hp; exact .sl _ _ _ _ _ _ _ u h1 h2 h3 (fun i e j c he hc=>hI _ _ _ (h4 i e j c he hc)) h4' (fun i e j c he hc=>ih i e j c he hc (PLe.refl _))
 | slnil=>intros; exact .slnil _ _ _ _
 | ms ρ id off len cap full p h1 h2 h3 h4 h5=>intro ρ' hp; exact .ms _ _ _ _ _ _ _ (hp _ _ h1) h2 h3 h4 h5
 | ms0=>intros; exact .ms0 _ _ _ _ _ _
 | mr ρ id off len cap p h1 h2 h3=>intro ρ' hp; exact .mr _ _ _ _ _ _ (hp _ _ h1) h2 h3
 | mr0 ρ id off p a h1 h2=>intro ρ' hp; exact .mr0 _ _ _ _ _ (hp _ _ h1) h2
 | nils=>intros; exact .nils _
 | fn ρ f as bs us ws h1 h2 h3 h4 ih1 ih2=>intro ρ' hp; exact .fn _ _ _ _ _ _ h1 h2 (fun i a u ha hu=>ih1 i a u ha hu hp) (fun i a u ha hu=>ih2 i a u ha hu hp)
 | nilf=>intros; exact .nilf _
 | map ρ id p h=>intro ρ' hp; exact .map _ _ _ (hp _ _ h)
 | nilm=>intros; exact .nilm _
 | agg ρ cs us h1 h1' h2 ih=>intro ρ' hp; exact .agg _ _ _ h1 h1' (fun i a u ha hu=>ih i a u ha hu hp)
 | tup ρ cs us h1 h2 ih=>intro ρ' hp; exact .tup _ _ _ h1 (fun i a u ha hu=>ih i a u ha hu hp)
 | iface ρ t v u h ih=>intro ρ' hp; exact .iface _ _ _ _ (ih hp)
 | nili=>intros; exact .nili _
 | glob=>intros; exact .glob _ _
 | im ρ v u h1 h2 ih=>intro ρ' hp; exact .im _ _ _ h1 (ih (PLe.refl _))
 | yld ρ id p h=>intro ρ' hp; exact .yld _ _ _ (hp _ _ h)
 | raw ρ u h=>intros; exact .raw _ _ h
theorem VRels.mono {I I' : aU} (hI:ILe I I') {ρ ρ' : List Pl} (hp:PLe ρ ρ') {as:List V} {us:List Value} (h:VRels I ρ as us):VRels I' ρ' as us :=
 ⟨h.1,fun i a u ha hu=>(h.2 i a u ha hu).mono hI hp⟩
theorem VRels.nil (I:aU) (ρ:List Pl):VRels I ρ [] []:=⟨rfl,fun i a u h=>by simp at h⟩
theorem VRels.cons {I:aU} {ρ:List Pl} {a:V} {u:Value} {as:List V} {us:List Value} (h:VRel I ρ a u) (t:VRels I ρ as us):VRels I ρ (a::as) (u::us) :=
 ⟨by simp[t.1],fun i x y hx hy=>by
  cases i with
  | zero=>simp at hx hy; subst hx; subst hy; exact h
  | succ i=>exact t.2 i x y (by simpa using hx) (by simpa using hy)⟩
theorem VRels.cons_inv {I:aU} {ρ:List Pl} {a:V} {as:List V} {us:List Value} (h:VRels I ρ (a::as) us):∃u us', us=u::us'/\VRel I ρ a u/\VRels I ρ as us' := by
 cases us with
 | nil=>have:=h.1; simp at this
 | cons u us=>exact⟨u,us,rfl,h.2 0 a u (by simp) (by simp),by have:=h.1; simpa using this,fun i x y hx hy=>h.2 (i+1) x y (by simpa using hx) (by simpa using hy)⟩
def CellsAt (I:aU) (ρ:List Pl) (w:World) (b base:Nat) (cs:List V):Prop :=
 ∀(i:Nat) (v:V),cs[i]? = some v -> ∃u,w.cell? ⟨b,base+i,none⟩=some u/\u.oneCell'=true/\VRel I ρ v u
def Open (w:World) (b lo hi:Nat):Prop:=∃c t fr,w.heap[b]? = some (.cells c t fr)/\hi<=c.size /\ ∀o,lo<=o->w.frozen? ⟨b,o,none⟩=false
def IX (I:aU) (ρ:List Pl) (c:jq) (st:LSt) (e:Env) (r:Loop):Prop :=
 r.params=c.ps/\r.assign=c.asg/\r.body=c.body/\r.tmps.size=c.n/\r.state=st.state/\r.pending=st.pend /\ ∀t,VRel I ρ (Env.get e t) (r.tmps.getD t undef)
def Lv (B:List Nat) (left:List (V × V)) (cur:Option (V × V)):aU->World->Nat->Prop:=fun I w pb =>
 ∃(mb since:Nat) (seen:Array Nat) (es:Array MapEntry),w.heap[pb]? = some (.mapIter (some mb) since seen since)/\w.heap[mb]? = some (.map es since)/\(pb≠mb/\pb∈B/\mb∈B)/\Go.MapKept.Stamped es since /\
  (es.toList.filter fun e=>!seen.contains e.born).length=left.length /\
  (∀(i:Nat) (kv:V × V) (e:MapEntry),left[i]? = some kv->(es.toList.filter fun e=>!seen.contains e.born)[i]? = some e->VRel I [] kv.1 e.key/\VRel I [] kv.2 e.val) /\
  ∀kv,cur=some kv -> ∃(e:MapEntry) (seen' : Array Nat),e∈es.toList/\seen=seen'.push e.born/\VRel I [] kv.1 e.key/\VRel I [] kv.2 e.val
def ORel (I:aU) (ρ:List Pl) (w:World) (p:Pl):O->Prop
 | .cells cs=>p.base=0/\(∃c t fr,w.heap[p.b]? = some (.cells c t fr)/\c.size=cs.length)/\Open w p.b 0 cs.length/\CellsAt I ρ w p.b 0 cs
 | .buf es=>(es = []/\p.tot=0)\/(es.length<=p.tot/\Open w p.b p.base (p.base+p.tot*p.sz) /\ ∀(i:Nat) (e:List V),es[i]? = some e->e.length=p.sz/\CellsAt I [] w p.b (p.base+i*p.sz) e)
 | .bufc es=>es.length=p.tot/\Open w p.b p.base (p.base+p.tot*p.sz) /\ ∀(i:Nat) (e:List V),es[i]? = some e->e ≠ []->e.length=p.sz/\CellsAt I [] w p.b (p.base+i*p.sz) e
 | .iter s pos=>p.base=0 /\ ∃ba:ByteArray,ba.data.toList=s/\w.heap[p.b]? = some (.stringIter ba pos)
 | .map kvs clock=>∃es:Array MapEntry,w.heap[p.b]? = some (.map es clock)/\es.size=kvs.length /\
  ∀(i:Nat) (kv:V × V) (e:MapEntry),kvs[i]? = some kv->es[i]? = some e->VRel I ρ kv.1 e.key/\VRel I ρ kv.2 e.val
 | .pmap kvs clock=>∃es:Array MapEntry,w.heap[p.b]? = some (.map es clock)/\es.size=kvs.length/\Go.MapKept.Stamped es clock /\
  ∀(i:Nat) (kv:V × V) (e:MapEntry),kvs[i]? = some kv->es[i]? = some e->(∃s,kv.1 = .str s)/\VRel I [] kv.1 e.key/\VRel I [] kv.2 e.val
 | .loop c st e=>∃r:Loop,w.heap[p.b]? = some (.loop r)/\IX I ρ c st e r
 | .res R B=>R I w p.b/\(∀(I' : aU) (w' : World),ILe I I'->(∀b∈B,w'.heap[b]? = w.heap[b]?)->R I' w' p.b) /\ ∀b∈B,b<w.heap.size
 | .miter B left cur=>p.base=0/\Lv B left cur I w p.b /\ ∀b∈B,b<w.heap.size
 | .bag l=>(l.map (·.1)).Nodup /\ ∀x∈l,(∃c t fr,w.heap[x.1]? = some (.cells c t fr)/\c.size=x.2.length)/\Open w x.1 0 x.2.length/\CellsAt I [] w x.1 0 x.2
 | .dead=>True
def O.has (p:Pl):O->Prop
 | .dead=>False
 | .res _ _=>False
 | .miter _ _ _=>False
 | .bag _=>False
 | .buf _=>p.tot≠0
 | _=>True
def O.owns (p:Pl) (b:Nat):O->Prop
 | .res _ B=>b∈B
 | .miter B _ _=>b∈B
 | .bag l=>b∈l.map (·.1)
 | o=>o.has p/\p.b=b
theorem O.has.owns {p:Pl} {o:O} (h:o.has p):o.owns p p.b:=by cases o<;>first | exact h.elim | exact⟨h,rfl⟩
theorem O.has.one {p:Pl} {o:O} (h:o.has p) (b:Nat) (hb:o.owns p b):o.has p/\p.b=b:=by cases o<;>first | exact h.elim | exact hb
def az (ρ:List Pl) (H:List O) (b:Nat):Prop:=∃(i:Nat) (p:Pl) (o:O),ρ[i]? = some p/\H[i]? = some o/\o.owns p b
class Globs where
 K:aU->Prop
 mono:∀ {I I' : aU},ILe I I'->K I->K I'
 txt:Nat
abbrev Globs.none:Globs:=⟨fun _=>True,fun _ h=>h,9223372036854775807⟩
variable [Globs]
structure ImmOk (I:aU) (w:World):Prop where
 run:∀b o v,I b o=some v->w.cell? ⟨b,o,none⟩=some v
 glob:Globs.K I
instance (I:aU) (w:World):CoeFun (ImmOk I w) (fun _=>∀b o v,I b o=some v->w.cell? ⟨b,o,none⟩=some v):=⟨ImmOk.run⟩
structure St (I:aU) (ρ:List Pl) (H:List O) (w:World):Prop where
 len:ρ.length=H.length
 obj:∀(i:Nat) (p:Pl) (o:O),ρ[i]? = some p->H[i]? = some o->ORel I ρ w p o
 inj:∀(i j:Nat) (p q:Pl) (o r:O) (b:Nat),ρ[i]? = some p->H[i]? = some o->o.owns p b->ρ[j]? = some q->H[j]? = some r->r.owns q b->i=j
 imm:ImmOk I w
 sep:∀b,az ρ H b -> ∀o,I b o=none
structure StO (I:aU) (ρ:List Pl) (H:List O) (w:World):Prop where
 len:ρ.length=H.length
 obj:∀(i:Nat) (p:Pl) (o:O),ρ[i]? = some p->H[i]? = some o->ORel I ρ w p o
 inj:∀(i j:Nat) (p q:Pl) (o r:O) (b:Nat),ρ[i]? = some p->H[i]? = some o->o.owns p b->ρ[j]? = some q->H[j]? = some r->r.owns q b->i=j
def cu (J:List O->Prop) (ks:List Pl) (B:List Nat):aU->World->Nat->Prop:=fun I w l =>
 ∃(ρs:List Pl) (Hs:List O),J Hs/\StO I ρs Hs w/\PLe ks ρs/\(ks[0]?).map Pl.b=some l /\ ∀b,az ρs Hs b ↔ b∈B
structure Step (k:Nat) (I:aU) (ρ:List Pl) (H:List O) (w:World) (I' : aU) (ρ' : List Pl) (H' : List O) (w' : World):Prop where
 ile:ILe I I'
 take:∀i,i<k->ρ'[i]? = ρ[i]?
 os:w'.os=w.os
 tape:w'.tape=w.tape
 output:w'.output=w.output
 size:w.heap.size<=w'.heap.size
 frame:∀b,b<w.heap.size -> ¬az ρ H b->w'.heap[b]? = w.heap[b]?
 own:∀b,az ρ' H' b->az ρ H b\/w.heap.size<=b
 imm:∀b o v,I' b o=some v->I b o=some v\/az ρ H b\/w.heap.size<=b
theorem Step.refl (k:Nat) (I:aU) (ρ:List Pl) (H:List O) (w:World):Step k I ρ H w I ρ H w :=
 ⟨ILe.refl _,fun _ _=>rfl,rfl,rfl,rfl,Nat.le_refl _,fun _ _ _=>rfl,fun _ h=>.inl h,fun _ _ _ h=>.inl h⟩
theorem BY {w:World} {a:Addr} {v:Value} (h:w.cell? a=some v):a.block<w.heap.size:=by
 unfold World.cell? at h;cases e:w.heap[a.block]? with
 | none=>simp[e]at h
 | some o=>exact(Array.getElem?_eq_some_iff.1 e).1
theorem St.lt {I:aU} {ρ:List Pl} {H:List O} {w:World} (h:St I ρ H w) {b:Nat} (hb:az ρ H b):b<w.heap.size:=by
 obtain⟨i,p,o,hp,ho,hw⟩:=hb;have:=h.obj i p o hp ho;cases o with
 | cells cs=>obtain⟨hh,rfl⟩:=hw; obtain⟨_,⟨c,t,fr,hc,_⟩,_⟩:=this; exact(Array.getElem?_eq_some_iff.1 hc).1
 | buf es =>
  obtain⟨hh,rfl⟩:=hw;rcases this with⟨_,h0⟩ | ⟨_,⟨c,t,fr,hc,_⟩,_⟩
  . exact absurd h0 hh
  . exact(Array.getElem?_eq_some_iff.1 hc).1
 | bufc es=>obtain⟨hh,rfl⟩:=hw; obtain⟨_,⟨c,t,fr,hc,_⟩,_⟩:=this; exact(Array.getElem?_eq_some_iff.1 hc).1
 | iter s pos=>obtain⟨hh,rfl⟩:=hw; obtain⟨_,ba,_,hc⟩:=this; exact(Array.getElem?_eq_some_iff.1 hc).1
 | map kvs clock=>obtain⟨hh,rfl⟩:=hw; obtain⟨es,hc,_⟩:=this; exact(Array.getElem?_eq_some_iff.1 hc).1
 | pmap kvs clock=>obtain⟨hh,rfl⟩:=hw; obtain⟨es,hc,_⟩:=this; exact(Array.getElem?_eq_some_iff.1 hc).1
 | loop c st e=>obtain⟨hh,rfl⟩:=hw; obtain⟨r,hc,_⟩:=this; exact(Array.getElem?_eq_some_iff.1 hc).1
 | res R B=>exact this.2.2 b hw
 | miter B left cur=>exact this.2.2 b hw
 | bag l =>
  obtain⟨x,hx,rfl⟩:=List.mem_map.1 hw;obtain⟨⟨c,t,fr,hc,_⟩,_⟩:=this.2 x hx;exact(Array.getElem?_eq_some_iff.1 hc).1
 | dead=>exact hw.1.elim
theorem St.imm_lt {I:aU} {ρ:List Pl} {H:List O} {w:World} (h:St I ρ H w) {b o:Nat} {v:Value} (hi:I b o=some v):b<w.heap.size :=
 BY (h.imm b o v hi)
theorem Step.trans {k:Nat} {I I' I'' : aU} {ρ ρ' ρ'' : List Pl} {H H' H'' : List O} {w w' w'' : World}
 (h:Step k I ρ H w I' ρ' H' w') (g:Step k I' ρ' H' w' I'' ρ'' H'' w''):Step k I ρ H w I'' ρ'' H'' w'' where
 ile:=h.ile.trans g.ile
 take i hi:=(g.take i hi).trans (h.take i hi)
 os:=g.os.trans h.os
 tape:=g.tape.trans h.tape
 output:=g.output.trans h.output
 size:=Nat.le_trans h.size g.size
 frame b hb hn:=by
  have h1:¬az ρ' H' b:=fun ho=>by
   rcases h.own b ho with x | x
   . exact hn x
   . omega
  rw[g.frame b (Nat.lt_of_lt_of_le hb h.size) h1,h.frame b hb hn]
 own b hb:=by
  rcases g.own b hb with x | x
  . exact h.own b x
  . exact .inr (Nat.le_trans h.size x)
 imm b o v hv:=by
  rcases g.imm b o v hv with x | x | x
  . exact h.imm b o v x
  . rcases h.own b x with y | y
    . exact .inr (.inl y)
    . exact .inr (.inr y)
  . exact .inr (.inr (Nat.le_trans h.size x))
end
section
variable [Globs]
inductive TK where
 | int (k:IntKind) | bool | str | ptr (e:TypeId) | sl (e:TypeId) | struct (fs:List (Nat × TypeId)) | arr (n:Nat) (e:TypeId)
 | map (k e:TypeId) | fn | iface | other
structure TI where
 kind:TK
 size:Nat
 bytes:Nat
 zero:List V
 good:Bool
 eqok:Bool:=false
def cV:Value->V
 | .bool b=>.bool b
 | .int k n=>.int k n
 | .string s=>.str s.data.toList
 | .pointer none=>.nilp
 | .slice none 0 0=>.nils
 | .nilFunc=>.nilf
 | .nilIface=>.nili
 | .map none=>.nilm
 | _=>.any
def ly:V->Bool
 | .any=>false
 | _=>true
def Co:Value->V
 | .bool b=>.bool b
 | .int k n=>.int k n
 | .string s=>.str s.data.toList
 | .pointer none=>.nilp
 | .slice none 0 0=>.nils
 | .nilFunc=>.nilf
 | .nilIface=>.nili
 | .map none=>.nilm
 | .agg cs=>match (cs.toList.map cV).all ly with
  | true=>.agg (cs.toList.map cV)
  | false=>.any
 | .tuple cs=>.tup (cs.toList.map cV)
 | _=>.any
def cG:TypeDesc->TK
 | .int k=>.int k
 | .bool=>.bool
 | .string=>.str
 | .pointer e=>.ptr e
 | .slice e=>.sl e
 | .struct fs=>.struct (fs.toList.map fun f=>(f.offset,f.type))
 | .array n e=>.arr n e
 | .map k e=>.map k e
 | .func ..=>.fn
 | .interface _=>.iface
 | _=>.other
def KL:Option TypeDesc->Bool
 | some .bool=>true
 | some (.int _)=>true
 | some .string=>true
 | _=>false
def Hc (P:Program) (t:TypeId):TypeDesc->Bool
 | .struct fs=>fs.toList.all (fun f=>KL (P.underlying f.type)&&f.name != "_")&&(!P.stoodInHeld t && !P.eqGuardType P.depth t)
 | _=>false
def TI.bad:TI:=⟨.other,0,0,[],false,false⟩
def Im (P:Program) (t:TypeId):TI :=
 match P.info? t with
 | some i=>match i.zero with
  | some z=>match P.underlying t with
   | some d=>match (z.cells.toList.map cV).all ly with
    | true=>⟨cG d,i.size,i.bytes,z.cells.toList.map cV,true,Hc P t d⟩
    | false=>.bad
   | none=>.bad
  | none=>.bad
 | none=>.bad
def bH (P:Program) (T:Nat->TI):Prop:=∀t,T t=Im P t\/T t=TI.bad
def TK.isAgg:TK->Bool
 | .struct _ | .arr _ _=>true
 | _=>false
def am (e:Env):Operand->V
 | .tmp t=>Env.get e t
 | .const v=>Co v
 | .global g=>.glob g
 | .func f=>.fn (.func f) [] []
def Fw:V->V
 | .im v=>v
 | v=>v
def ao (e:Env) (x:Operand):V:=Fw (am e x)
def gS (v:V) (K:V->Prop):Prop :=
 match v with
 | .bool b=>K (.bool b)
 | .int k n=>K (.int k n)
 | .str s=>K (.str s)
 | .ptr i o=>K (.ptr i o)
 | .ep a b c=>K (.ep a b c)
 | .ip a b=>K (.ip a b)
 | .nilp=>K .nilp
 | .sl a b c=>K (.sl a b c)
 | .ms a b c d f=>K (.ms a b c d f)
 | .mr a b c d=>K (.mr a b c d)
 | .nils=>K .nils
 | .fn a b c=>K (.fn a b c)
 | .nilf=>K .nilf
 | .map a=>K (.map a)
 | .nilm=>K .nilm
 | .agg a=>K (.agg a)
 | .tup a=>K (.tup a)
 | .iface a b=>K (.iface a b)
 | .nili=>K .nili
 | .glob a=>K (.glob a)
 | .yld a=>K (.yld a)
 | .im a=>K (.im a)
 | .raw a=>K (.raw a)
 | .any=>K .any
theorem cr (v:V) (K:V->Prop):gS v K ↔ K v:=by cases v<;>rfl
def gR:List V->(List V->Prop)->Prop
 | [],K=>K []
 | c::cs,K=>gR cs fun r=>K (c::r)
theorem aW (l:List V) (K:List V->Prop):gR l K ↔ K l:=by
 induction l generalizing K with
 | nil=>exact Iff.rfl
 | cons c cs ih=>simp only[gR,ih]
def cellsOf:V->Option (List V)
 | .agg cs=>some cs
 | .tup _=>none
 | .any=>none
 | v=>some [v]
def ar (H:List O) (id:Nat):O:=H.getD id .dead
def bX:List O->Nat->O->List O
 | [],_,_=>[]
 | _::H,0,o=>o::H
 | x::H,n+1,o=>x::bX H n o
theorem bO (H:List O) (n:Nat) (o:O):bX H n o=H.set n o:=by
 induction H generalizing n with
 | nil=>rfl
 | cons x H ih=>cases n<;>simp[bX,ih]
def aV:List O->(List O->Prop)->Prop
 | [],K=>K []
 | c::cs,K=>aV cs fun r=>K (c::r)
theorem aj (l:List O) (K:List O->Prop):aV l K ↔ K l:=by
 induction l generalizing K with
 | nil=>exact Iff.rfl
 | cons c cs ih=>simp only[aV,ih]
def jL (ti:TI) (cs:List V) (off:Nat) (K:V->Prop):Prop :=
 match ti.good with
 | true=>match ti.kind.isAgg with
  | true=>match Nat.ble (off+ti.size) cs.length with
   | true=>gR ((cs.drop off).take ti.size) fun r=>K (.agg r)
   | false=>False
  | false=>match cs[off]? with
   | some v=>gS v K
   | none=>False
 | false=>False
def nt (op:BinOp) (k:IntKind) (x y:Int) (K:V->Prop):Prop :=
 match op with
 | .add=>K (.int k (k.wrap (x+y)))
 | .sub=>K (.int k (k.wrap (x-y)))
 | .mul=>K (.int k (k.wrap (x*y)))
 | .quo=>y≠0/\K (.int k (k.wrap (x.tdiv y)))
 | .rem=>y≠0/\K (.int k (x.tmod y))
 | .and=>K (.int k (k.wrap (BitVec.ofInt k.bits x &&& BitVec.ofInt k.bits y).toNat))
 | .or=>K (.int k (k.wrap (BitVec.ofInt k.bits x ||| BitVec.ofInt k.bits y).toNat))
 | .xor=>K (.int k (k.wrap (BitVec.ofInt k.bits x ^^^ BitVec.ofInt k.bits y).toNat))
 | .andNot=>K (.int k (k.wrap (BitVec.ofInt k.bits x &&& ~~~ BitVec.ofInt k.bits y).toNat))
 | .eql=>K (.bool (decide (x=y)))
 | .neq=>K (.bool (!decide (x=y)))
 | .lss=>K (.bool (decide (x<y)))
 | .leq=>K (.bool (decide (x<=y)))
 | .gtr=>K (.bool (decide (y<x)))
 | .geq=>K (.bool (decide (y<=x)))
 | _=>False
def nu (op:BinOp) (x y:List UInt8) (K:V->Prop):Prop :=
 match op with
 | .add=>(x.length+y.length:Int)<=9223372036854775807/\K (.str (x++y))
 | .eql=>K (.bool (decide (x=y)))
 | .neq=>K (.bool (!decide (x=y)))
 | .lss=>K (.bool (Op.bytesLess x y))
 | .leq=>K (.bool (Op.bytesLess x y||decide (x=y)))
 | .gtr=>K (.bool (!(Op.bytesLess x y||decide (x=y))))
 | .geq=>K (.bool (!Op.bytesLess x y))
 | _=>False
def j9 (op:BinOp) (b:Bool) (K:V->Prop):Prop :=
 match op with
 | .eql=>K (.bool b)
 | .neq=>K (.bool (!b))
 | _=>False
def ku (k:TK) (x y:V) (K:Bool->Prop):Prop :=
 match k with
 | .int _=>match x,y with
  | .int k1 a,.int k2 b=>match decide (k1=k2)with
   | true=>K (decide (a=b))
   | false=>False
  | _,_=>False
 | .bool=>match x,y with
  | .bool a,.bool b=>K (a == b)
  | _,_=>False
 | .str=>match x,y with
  | .str a,.str b=>K (decide (a=b))
  | _,_=>False
 | _=>False
def iE (T:Nat->TI) (xs ys:List V):List (Nat × TypeId)->(Bool->Prop)->Prop
 | [],K=>K true
 | (o,t)::r,K=>match Nat.beq (T t).size 1,xs[o]?,ys[o]? with
  | true,some x,some y=>ku (T t).kind x y fun b=>iE T xs ys r fun c=>K (b&&c)
  | _,_,_=>False
def Ed (T:Nat->TI) (op:BinOp) (t:TypeId) (x y:V) (K:V->Prop):Prop :=
 match x,y with
 | .int k a,.int k' b=>match op with
  | .shl=>0<=b/\K (.int k (k.wrap (a*2 ^ (min b.toNat k.bits))))
  | .shr=>0<=b/\K (.int k (a.fdiv (2 ^ (min b.toNat k.bits))))
  | _=>match decide (k=k')with
   | true=>nt op k a b K
   | false=>False
 | .str a,.str b=>nu op a b K
 | .bool a,.bool b=>match (T t).kind with
  | .bool=>j9 op (a == b) K
  | _=>False
 | .nilp,.nilp | .ptr _ _,.nilp | .ip _ _,.nilp | .ep _ _ _,.nilp | .glob _,.nilp=>match (T t).kind with
  | .ptr _=>j9 op (match x with | .nilp=>true | _=>false) K
  | _=>False
 | .raw (.pointer (some _)),.nilp=>match (T t).kind with
  | .ptr _=>j9 op false K
  | _=>False
 | .nils,.nils | .sl _ (_::_) _,.nils=>match (T t).kind with
  | .sl _=>j9 op (match x with | .nils=>true | _=>false) K
  | _=>False
 | .agg xs,.agg ys=>match (T t).kind,(T t).eqok with
  | .struct fs,true=>iE T xs ys fs fun b=>j9 op b K
  | _,_=>False
 | .ms _ _ _ len _,.nils=>match (T t).kind with
  | .sl _=>0<len/\j9 op false K
  | _=>False
 | .nilf,.nilf | .fn _ _ _,.nilf=>match (T t).kind with
  | .fn=>j9 op (match x with | .nilf=>true | _=>false) K
  | _=>False
 | _,_=>False
def Ku (op:UnOp) (x:V) (K:V->Prop):Prop :=
 match op,x with
 | .neg,.int k n=>K (.int k (k.wrap (0-n)))
 | .xor,.int k n=>K (.int k (k.wrap (BitVec.ofInt k.bits (if k.signed then -1 else k.max) ^^^ BitVec.ofInt k.bits n).toNat))
 | .not,.bool b=>K (.bool (!b))
 | _,_=>False
def cq:List (List V)->Option (List UInt8)
 | []=>some []
 | [.int .u8 n]::es=>match cq es with
  | some l=>some (UInt8.ofNat n.toNat::l)
  | none=>none
 | _::_=>none
def xS (s d:TK) (de:TK) (H:List O) (x:V) (K:V->Prop):Prop :=
 match d,x with
 | .int k,.int _ n=>match s with
  | .int _=>K (.int k (k.wrap n))
  | _=>False
 | .str,.str l=>match s with
  | .str=>K (.str l)
  | _=>False
 | .str,.int _ n=>match s with
  | .int _=>K (.str (Utf8.encode n).data.toList)
  | _=>False
 | .str,.nils=>match s,de with
  | .sl _,.int .u8=>K (.str [])
  | _,_=>False
 | .str,.sl _ es _=>match s,de with
  | .sl _,.int .u8=>∃l,cq es=some l/\K (.str l)
  | _,_=>False
 | .str,.ms _ id off len _=>match s,de with
  | .sl _,.int .u8=>match ar H id with
   | .buf es=>off+len<=es.length /\ ∃l,cq ((es.drop off).take len)=some l/\K (.str l)
   | _=>False
  | _,_=>False
 | _,_=>False
def mM (H:List O):V->Nat
 | .ms _ id _ _ _=>match ar H id with
  | .buf es=>es.length
  | .bufc es=>es.length
  | _=>0
 | .mr _ id _ _=>match ar H id with
  | .buf es=>es.length
  | .bufc es=>es.length
  | _=>0
 | _=>0
def Jw (H:List O):V->Bool
 | .ms _ id _ _ _=>match ar H id with
  | .bufc _=>true
  | _=>false
 | _=>false
def oR (sz bl:Nat) (bc:Bool) (x:V) (lo hi mx:Option Int) (K:V->Prop):Prop :=
 match x with
 | .str s=>match mx with
  | none=>match lo,hi with
   | none,none=>K (.str s)
   | none,some h=>(0<=h/\h<=s.length)/\K (.str (s.take h.toNat))
   | some l,none=>(0<=l/\l<=s.length)/\K (.str (s.drop l.toNat))
   | some l,some h=>(0<=l/\l<=h/\h<=s.length)/\K (.str ((s.take h.toNat).drop l.toNat))
  | some _=>False
 | .sl sz' es full=>match Nat.beq sz' sz with
  | false=>False
  | true=>match mx with
   | none=>match lo,hi with
    | none,none=>K (.sl sz es full)
    | none,some h=>(0<=h/\h<=es.length)/\K (.sl sz (es.take h.toNat) false)
    | some l,none=>(0<=l/\l<=es.length)/\K (.sl sz (es.drop l.toNat) full)
    | some l,some h=>(0<=l/\l<=h/\h<=es.length)/\K (.sl sz ((es.take h.toNat).drop l.toNat) false)
   | some m=>match lo,hi with
    | none,some h=>(0<=h/\h=m/\h<=es.length)/\K (.sl sz (es.take h.toNat) true)
    | some l,some h=>(0<=l/\l<=h/\h=m/\h<=es.length)/\K (.sl sz ((es.take h.toNat).drop l.toNat) true)
    | _,_=>False
 | .nils=>match mx with
  | none=>match lo,hi with
   | none,none=>K .nils
   | none,some h=>h=0/\K .nils
   | some l,none=>l=0/\K .nils
   | some l,some h=>(l=0/\h=0)/\K .nils
  | some m=>match lo,hi with
   | none,some h=>(h=0/\m=0)/\K .nils
   | some l,some h=>(l=0/\h=0/\m=0)/\K .nils
   | _,_=>False
 | .ms sz' id off len full=>match Nat.beq sz' sz with
  | false=>False
  | true=>match mx with
   | none=>match lo,hi with
    | none,none=>K (.ms sz id off len full)
    | none,some h=>match full with
     | false=>match bc with
      | false=>(0<=h/\h<=len)/\K (.ms sz id off h.toNat false)
      | true=>(0<=h/\(h<=len\/(0<len/\off+h.toNat<=bl)))/\K (.ms sz id off h.toNat false)
     | true=>(0<=h/\h=len)/\K (.ms sz id off h.toNat true)
    | some l,none=>(0<=l/\l<=len)/\K (.ms sz id (l.toNat+off) (len-l.toNat) full)
    | some l,some h=>match full with
     | false=>(0<=l/\l<=h/\(h<=len\/(0<len/\off+h.toNat<=bl)))/\K (.ms sz id (l.toNat+off) (h.toNat-l.toNat) false)
     | true=>(0<=l/\l<=h/\h=len)/\K (.ms sz id (l.toNat+off) (h.toNat-l.toNat) true)
   | some m=>match lo,hi with
    | none,some h=>(0<=h/\h=m/\h<=len)/\K (.ms sz id off h.toNat true)
    | some l,some h=>match decide (h=m)with
     | true=>(0<=l/\l<=h/\h=m/\h<=len)/\K (.ms sz id (l.toNat+off) (h.toNat-l.toNat) true)
     | false=>(0<=l/\l<=h/\h<=m/\m<=len)/\K .any
    | _,_=>False
 | .mr sz' id off len=>match Nat.beq sz' sz with
  | false=>False
  | true=>match mx with
   | none=>match lo,hi with
    | none,some h=>(0<=h/\h<=len)/\K (.mr sz id off h.toNat)
    | some l,none=>(0<=l/\l<=len)/\K (.ms sz id (l.toNat+off) (len-l.toNat) false)
    | some l,some h=>(0<=l/\l<=h/\(h<=len\/off+h.toNat<=bl))/\K (.ms sz id (l.toNat+off) (h.toNat-l.toNat) false)
    | _,_=>False
   | some m=>match lo,hi with
    | some l,some h=>(0<=l/\l<=h/\h<=m/\m<=len)/\K .any
    | _,_=>False
 | _=>False
def fieldAt (T:Nat->TI) (s:TypeId) (f:Nat):Option (Nat × TypeId) :=
 match (T s).kind with
 | .struct fs=>fs[f]?
 | _=>none
def f9 (mx:Bool):V->List V->(V->Prop)->Prop
 | .int k a,[],K=>K (.int k a)
 | .int k a,.int _ b::r,K=>f9 mx (.int k (match mx with | true=>if b>a then b else a | false=>if b<a then b else a)) r K
 | _,_,_=>False
def Cu (c x y:V) (K:V->Prop):Prop :=
 match c with
 | .bool true=>gS x K
 | .bool false=>gS y K
 | _=>False
def mq (place:Nat->Option (Nat × Nat)) (cells:List V):List (Nat × V)->(V->Prop)->Prop
 | [],K=>gR cells fun r=>K (.agg r)
 | (i,v)::rest,K=>match place i with
  | none=>False
  | some (off,size)=>match cellsOf v with
   | none=>False
   | some cs=>match Nat.beq cs.length size with
    | true=>match Nat.ble (off+size) cells.length with
     | true=>mq place (cells.take off++cs++cells.drop (off+size)) rest K
     | false=>False
    | false=>False
def wR (T:Nat->TI) (t:TypeId) (parts:List (Nat × V)) (K:V->Prop):Prop :=
 match (T t).kind with
 | .struct fs=>match fs.all fun p=>(T p.2).good with
  | true=>mq (fun i=>fs[i]?.map fun p=>(p.1,(T p.2).size)) (T t).zero parts K
  | false=>False
 | .arr _ q=>match (T q).good with
  | true=>mq (fun i=>some (i*(T q).size,(T q).size)) (T t).zero parts K
  | false=>False
 | _=>False
def Ct (T:Nat->TI) (H:List O) (t:TypeId) (a:V) (K:V->Prop):Prop :=
 match a with
 | .ptr id off=>match ar H id with
  | .cells cs=>jL (T t) cs off K
  | _=>False
 | .ep id i j=>match ar H id with
  | .buf es=>∃x,es[i]? = some x/\jL (T t) x j K
  | _=>False
 | .ip cs off=>jL (T t) cs off K
 | _=>False
def HU (x:V) (K:V->Prop):Prop :=
 match x with
 | .ptr a b=>K (.ptr a b)
 | .ep a b c=>K (.ep a b c)
 | .ip a b=>K (.ip a b)
 | .fn (.func f) a b=>K (.fn (.func f) a b)
 | _=>False
def kD (T:Nat->TI) (s:TypeId) (f:Nat) (x:V) (K:V->Prop):Prop :=
 match fieldAt T s f with
 | some (fo,ft)=>match (T ft).good with
  | true=>match (T ft).size with
   | 0=>False
   | _+1=>match x with
    | .ptr id off=>K (.ptr id (off+fo))
    | .ep id i j=>K (.ep id i (j+fo))
    | .ip cs off=>K (.ip cs (off+fo))
    | _=>False
  | false=>False
 | none=>False
def wS (T:Nat->TI) (s:TypeId) (f:Nat) (x:V) (K:V->Prop):Prop :=
 match fieldAt T s f with
 | some (fo,ft)=>match x with
  | .agg cs=>jL (T ft) cs fo K
  | _=>False
 | none=>False
def kE (T:Nat->TI) (t:TypeId) (x i:V) (K:V->Prop):Prop :=
 match (T t).kind with
 | .sl q=>match (T q).good with
  | true=>match i with
   | .int _ n=>match x with
    | .sl sz es _=>match Nat.beq sz (T q).size with
     | true=>∃c,(0<=n/\es[n.toNat]? = some c)/\K (.ip c 0)
     | false=>False
    | .ms sz id off len _=>match Nat.beq sz (T q).size with
     | true=>(0<=n/\n<len)/\K (.ep id (n.toNat+off) 0)
     | false=>False
    | _=>False
   | _=>False
  | false=>False
 | .arr len q=>match (T q).good with
  | true=>match i with
   | .int _ n=>match x with
    | .ptr id off=>(0<=n/\n<len)/\K (.ptr id (n.toNat*(T q).size+off))
    | _=>False
   | _=>False
  | false=>False
 | _=>False
def wU (T:Nat->TI) (t:TypeId) (x i:V) (K:V->Prop):Prop :=
 match (T t).kind with
 | .str=>match x with
  | .str s=>match i with
   | .int _ n=>∃c,(0<=n/\s[n.toNat]? = some c)/\K (.int .u8 c.toNat)
   | _=>False
  | _=>False
 | .arr len q=>match x with
  | .agg cs=>match i with
   | .int _ n=>(0<=n/\n<len)/\jL (T q) cs (n.toNat*(T q).size) K
   | _=>False
  | _=>False
 | _=>False
def ot (x:V) (i:Nat) (K:V->Prop):Prop :=
 match x with
 | .tup vs=>match vs[i]? with
  | some v=>gS v K
  | none=>False
 | _=>False
def wT (T:Nat->TI) (t:TypeId) (x:V) (K:V->Prop):Prop :=
 match (T t).kind with
 | .iface=>False
 | .other=>False
 | _=>gS x fun v=>K (.iface t v)
def HT (T:Nat->TI) (args:List V) (ts:List TypeId) (K:V->Prop):Prop :=
 match args,ts with
 | [x],[t]=>match (T t).kind with
  | .str=>match x with
   | .str s=>K (.int .i64 s.length)
   | _=>False
  | .sl _=>match x with
   | .sl _ es _=>K (.int .i64 es.length)
   | .ms _ _ _ len _=>K (.int .i64 len)
   | .mr _ _ _ len=>K (.int .i64 len)
   | .nils=>K (.int .i64 0)
   | _=>False
  | _=>False
 | _,_=>False
def DL (mx:Bool) (args:List V) (K:V->Prop):Prop :=
 match args with
 | x::r=>f9 mx x r K
 | []=>False
def kf (x:Option V):Option (Option Int) :=
 match x with
 | none=>some none
 | some (.int _ n)=>some (some n)
 | some _=>none
def s9 (T:Nat->TI) (H:List O) (t:TypeId) (x:V) (lo hi mx:Option V) (K:V->Prop):Prop :=
 match kf lo,kf hi,kf mx with
 | some l,some h,some m=>match (T t).kind with
  | .str=>match x with
   | .str s=>oR 0 0 false (.str s) l h m K
   | _=>False
  | .sl q=>match (T q).good with
   | true=>match x with
    | .str _=>False
    | x=>oR (T q).size (mM H x) (Jw H x) x l h m K
   | false=>False
  | _=>False
 | _,_,_=>False
def aq (T:Nat->TI) (o:Op) (e:Env) (H:List O) (K:V->Prop):Prop :=
 match o with
 | .move x=>gS (am e x) K
 | .assign x=>gS (am e x) K
 | .pick c a b=>Cu (am e c) (am e a) (am e b) K
 | .build t parts=>wR T t (parts.toList.map fun p=>(p.1,am e p.2)) K
 | .load t a=>Ct T H t (ao e a) K
 | .nilCheck x=>HU (ao e x) K
 | .binOp op t x y _=>Ed T op t (ao e x) (ao e y) K
 | .unOp op _ x=>Ku op (ao e x) K
 | .convert s d x=>xS (T s).kind (T d).kind (match (T s).kind with | .sl q=>(T q).kind | _=>.other) H (ao e x) K
 | .makeFunc fn first captured=>gR (first.toList.map (am e)) fun a=>gR (captured.toList.map (am e)) fun b=>K (.fn fn a b)
 | .slice t x lo hi mx=>s9 T [] t (ao e x) (lo.map (ao e)) (hi.map (ao e)) (mx.map (ao e)) K
 | .fieldAddr s x f=>kD T s f (ao e x) K
 | .field s x f=>wS T s f (ao e x) K
 | .indexAddr t x i=>kE T t (ao e x) (ao e i) K
 | .index t x i=>wU T t (ao e x) (ao e i) K
 | .extract x i=>ot (am e x) i K
 | .makeInterface t x=>wT T t (am e x) K
 | .call c=>match c.callee with
  | .builtin .len=>HT T (c.args.toList.map (ao e)) c.argTypes.toList K
  | .builtin .max=>DL true (c.args.toList.map (am e)) K
  | .builtin .min=>DL false (c.args.toList.map (am e)) K
  | _=>False
 | _=>False
end
section
variable [Globs]
variable {P:Program} {I:aU} {ρ:List Pl} {H:List O} {w:World}
theorem FU {J J' : List O->Prop} {ks:List Pl} {B:List Nat} (hJ:∀Hs,J Hs->J' Hs) {I:aU} {w:World} {ρ0:List Pl} {p:Pl} (h:ORel I ρ0 w p (.res (cu J ks B) B)):ORel I ρ0 w p (.res (cu J' ks B) B):=by
 obtain⟨h1,h2,h3⟩:=h;have key:∀I' w', cu J ks B I' w' p.b->cu J' ks B I' w' p.b:=fun I' w' ⟨ρs,Hs,g1,g2⟩=>⟨ρs,Hs,hJ _ g1,g2⟩
 exact⟨key _ _ h1,fun I' w' hi hs=>key _ _ (h2 I' w' hi hs),h3⟩
def VSub (v v' : V):Prop:=∀(I:aU) (ρ:List Pl) (u:Value),VRel I ρ v u->VRel I ρ v' u
theorem VSub.refl (v:V):VSub v v:=fun _ _ _ h=>h
def VSubs (as bs:List V):Prop:=as.length=bs.length /\ ∀(i:Nat) (a b:V),as[i]? = some a->bs[i]? = some b->VSub a b
theorem VSubs.nil:VSubs [] []:=⟨rfl,fun i a b h=>by simp at h⟩
theorem VSubs.cons {a b:V} {as bs:List V} (h:VSub a b) (k:VSubs as bs):VSubs (a::as) (b::bs) :=
 ⟨by simp[k.1],fun i x y hx hy=>by
  cases i with
  | zero=>simp at hx hy; subst hx; subst hy; exact h
  | succ i=>exact k.2 i x y (by simpa using hx) (by simpa using hy)⟩
theorem VSubs.refl:∀(as:List V),VSubs as as
 | []=>.nil
 | a::as=>.cons (.refl a) (VSubs.refl as)
theorem VSubs.get {as bs:List V} (h:VSubs as bs) {i:Nat} {b:V} (hb:bs[i]? = some b):∃a,as[i]? = some a/\VSub a b:=by
 have hlt:=(liZ.1 hb).1;have:i<as.length:=by rw[h.1]; exact hlt
 exact⟨as[i],aS this,h.2 i _ _ (aS this) hb⟩
theorem VSub.ip {cs cs' : List V} {off:Nat} (h:VSubs cs cs'):VSub (.ip cs off) (.ip cs' off):=fun I ρ u hr=>by
 cases hr with
 | ip _ _ _ b base f h1 h2 h3 =>
  refine .ip _ _ _ _ _ f (fun i c hc=>?_) (fun i c hc=>?_) (fun i c hc=>?_)<;>obtain⟨a,ha,hs⟩:=h.get hc
  . exact h1 i a ha
  . exact h2 i a ha
  . exact hs I [] _ (h3 i a ha)
theorem VSub.nils (sz:Nat) (full:Bool):VSub .nils (.sl sz [] full):=fun I ρ u hr=>by
 cases hr; exact .slnil _ _ _ _
inductive OSub:O->O->Prop
 | refl (o:O):OSub o o
 | cells {cs cs' : List V} (h:VSubs cs cs'):OSub (.cells cs) (.cells cs')
 | dead (o:O):OSub o .dead
 | bag0 (o:O):OSub o (.bag [])
 | pmap0 (c:Nat):OSub (.map [] c) (.pmap [] c)
 | bufR {es es2:List (List V)} (hl:es.length=es2.length) (h:∀(i:Nat) (a b:List V),es[i]? = some a->es2[i]? = some b->VSubs a b):OSub (.buf es) (.buf es2)
 | bufc (es:List (List V)) (n:Nat) (h:∀r∈es.take n,r ≠ []) (h0:es ≠ []):OSub (.bufc es) (.buf (es.take n))
 | pk {J J' : List O->Prop} (ks:List Pl) (B:List Nat) (h:∀Hs,J Hs->J' Hs):OSub (.res (cu J ks B) B) (.res (cu J' ks B) B)
theorem OSub.rel {o o' : O} (h:OSub o o') {p:Pl} (hr:ORel I ρ w p o):ORel I ρ w p o' := by
 cases h with
 | refl=>exact hr
 | dead=>trivial
 | bag0=>exact⟨List.nodup_nil,fun x hx=>by cases hx⟩
 | bufR hl h =>
  rename_i es es2;rcases hr with⟨h1,h2⟩ | ⟨h1,h2,h3⟩
  . subst h1; exact .inl ⟨List.eq_nil_of_length_eq_zero hl.symm,h2⟩
  . refine .inr ⟨by rw[<-hl]; exact h1,h2,fun i e he=>?_⟩
    have hi:i<es.length:=by rw[hl]; exact(liZ.1 he).1
    have hx:=aS hi;generalize es[i]=x at hx;obtain⟨g1,g2⟩:=h3 i x hx;have hv:=h i x e hx he;refine⟨by rw[<-hv.1]; exact g1,fun k v hk=>?_⟩
    obtain⟨a,ha,hs⟩:=hv.get hk;obtain⟨u,u1,u2,u3⟩:=g2 k a ha;exact⟨u,u1,u2,hs _ _ _ u3⟩
 | pmap0 c =>
  obtain⟨es,h1,h2,h3⟩:=hr;have:es = #[]:=Array.eq_empty_of_size_eq_zero h2;subst this;exact⟨#[],h1,rfl,Go.MapKept.stamped_empty c,fun i kv e hk=>by simp at hk⟩
 | pk ks B h=>exact FU h hr
 | bufc es n h h0 =>
  obtain⟨h1,h2,h3⟩:=hr;refine .inr ⟨by rw[<-h1,List.length_take]; exact Nat.min_le_right _ _,h2,fun i e he=>?_⟩
  have hlt:=(liZ.1 he).1;rw[List.length_take]at hlt;have he' := he;rw[List.getElem?_take_of_lt (by omega)]at he
  exact h3 i e he (h e (List.mem_of_getElem? he'))
 | cells h =>
  obtain⟨h1,h2,h3,h4⟩:=hr;refine⟨h1,by rw[<-h.1]; exact h2,by rw[<-h.1]; exact h3,fun i v hv=>?_⟩
  obtain⟨a,ha,hs⟩:=h.get hv;obtain⟨u,g1,g2,g3⟩:=h4 i a ha;exact⟨u,g1,g2,hs _ _ _ g3⟩
theorem OSub.own {o o' : O} (h:OSub o o') {p:Pl} {b:Nat} (hw:o'.owns p b):o.owns p b:=by
 cases h with
 | refl=>exact hw
 | dead=>exact hw.1.elim
 | bag0=>cases hw
 | pmap0=>exact hw
 | bufR=>exact hw
 | pk ks B h=>exact hw
 | bufc es n h h0=>exact⟨trivial,hw.2⟩
 | cells h=>exact hw
def HSub (H H' : List O):Prop:=H.length=H'.length /\ ∀(i:Nat) (a b:O),H[i]? = some a->H'[i]? = some b->OSub a b
theorem HSub.nil:HSub [] []:=⟨rfl,fun i a b h=>by simp at h⟩
theorem HSub.cons {a b:O} {as bs:List O} (h:OSub a b) (k:HSub as bs):HSub (a::as) (b::bs) :=
 ⟨by simp[k.1],fun i x y hx hy=>by
  cases i with
  | zero=>simp at hx hy; subst hx; subst hy; exact h
  | succ i=>exact k.2 i x y (by simpa using hx) (by simpa using hy)⟩
theorem HSub.refl:∀(as:List O),HSub as as
 | []=>.nil
 | a::as=>.cons (.refl a) (HSub.refl as)
theorem HSub.get {as bs:List O} (h:HSub as bs) {i:Nat} {b:O} (hb:bs[i]? = some b):∃a,as[i]? = some a/\OSub a b:=by
 have hlt:=(liZ.1 hb).1;have:i<as.length:=by rw[h.1]; exact hlt
 exact⟨as[i],aS this,h.2 i _ _ (aS this) hb⟩
theorem HSub.st {H' : List O} (h:HSub H H') (hst:St I ρ H w):St I ρ H' w:=by
 refine⟨by rw[hst.len,h.1],fun i p o hp ho=>?_,fun i j p q o r b hp ho hw hq hr hw' => ?_,hst.imm,fun b ⟨i,p,o,hp,ho,hw⟩=>?_⟩
 . obtain⟨a,ha,hs⟩:=h.get ho;exact hs.rel (hst.obj i p a hp ha)
 . obtain⟨a,ha,hs⟩:=h.get ho;obtain⟨c,hc,hs'⟩:=h.get hr;exact hst.inj i j p q a c b hp ha (hs.own hw) hq hc (hs'.own hw')
 . obtain⟨a,ha,hs⟩:=h.get ho;exact hst.sep b ⟨i,p,a,hp,ha,hs.own hw⟩
theorem HSub.step {H' : List O} (h:HSub H H') (k:Nat):Step k I ρ H w I ρ H' w :=
 ⟨ILe.refl _,fun _ _=>rfl,rfl,rfl,rfl,Nat.le_refl _,fun _ _ _=>rfl,fun b ⟨i,p,o,hp,ho,hw⟩=>by
  obtain⟨a,ha,hs⟩:=h.get ho;exact .inl ⟨i,p,a,hp,ha,hs.own hw⟩,fun _ _ _ hv=>.inl hv⟩
theorem VSub.agg {cs cs' : List V} (h:VSubs cs cs'):VSub (.agg cs) (.agg cs'):=fun I ρ u hr=>by
 cases hr with
 | agg _ _ us h1 h2 h3 =>
  refine .agg _ _ _ (by rw[<-h.1]; exact h1) h2 fun i a u ha hu=>?_
  obtain⟨c,hc,hs⟩:=h.get ha;exact hs I ρ u (h3 i c u hc hu)
theorem VSub.tup {cs cs' : List V} (h:VSubs cs cs'):VSub (.tup cs) (.tup cs'):=fun I ρ u hr=>by
 cases hr with
 | tup _ _ us h1 h3 =>
  refine .tup _ _ _ (by rw[<-h.1]; exact h1) fun i a u ha hu=>?_
  obtain⟨c,hc,hs⟩:=h.get ha;exact hs I ρ u (h3 i c u hc hu)
theorem VSub.ms0 (sz id off:Nat) (full:Bool):VSub .nils (.ms sz id off 0 full):=fun I ρ u hr=>by
 cases hr; exact .ms0 _ _ _ _ _ _
theorem VSub.msRoom (sz id off:Nat):VSub (.ms sz id off 0 true) (.ms sz id off 0 false):=fun I ρ u hr=>by
 cases hr with
 | ms _ _ _ _ cap _ p h1 h2 h3 h4 h5=>have:=h4 rfl; subst this; exact .ms0 _ _ _ _ _ _
 | ms0=>exact .ms0 _ _ _ _ _ _
theorem VSub.mr {sz id off len:Nat} (h:0<len):VSub (.ms sz id off len false) (.mr sz id off len):=fun I ρ u hr=>by
 cases hr with
 | ms _ _ _ _ cap _ p h1 h2 h3 h4 h5=>exact .mr _ _ _ _ _ _ h1 h2 (h5 rfl)
 | ms0=>omega
theorem VSub.mrMs (sz id off len:Nat):VSub (.mr sz id off len) (.ms sz id off len false):=fun I ρ u hr=>by
 cases hr with
 | mr _ _ _ _ cap p h1 h2 h3=>exact .ms _ _ _ _ _ _ _ h1 h2 (by omega) (fun h=>by cases h) (fun _=>h3)
 | mr0=>exact .ms0 _ _ _ _ _ _
theorem VSub.room (sz:Nat) (es:List (List V)) (full:Bool):VSub (.sl sz es full) (.sl sz es false):=fun I ρ u hr=>by
 cases hr with
 | sl _ _ _ _ b base cap u h1 h2 h3 h4 h5 h6=>exact .sl _ _ _ _ b base cap u h1 (fun h=>by cases h) h3 h4 h5 h6
 | slnil=>exact .slnil _ _ _ _
end
end Go.Proofs.YteiagdlfccbpcaaGreatDoorPg
