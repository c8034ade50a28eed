/- The abstract run of code: effects, calls, regions, loops. -/
import Derived.Test.YteiagdlfccbpcaaGreatDoorPgM1
import Derived.RangeFuncSeq
import Derived.RangeFuncNested
set_option linter.unusedSectionVars false
set_option linter.unusedVariables false
namespace Go.Proofs.YteiagdlfccbpcaaGreatDoorPg
open Go Go.RowKit
variable [Globs]
structure ACall (P:Program) (f:FuncId) (k:Nat) (args:List V) (H:List O) (Q:V->List O->Prop):Prop where
 out:∀I ρ w (us:Array Value),St I ρ H w->k<=H.length->VRels I ρ args us.toList->Calls P f us w fun en w' =>
  ∃v r I' ρ' H', en = .returned v/\St I' ρ' H' w'/\VRel I' ρ' r v/\Step k I ρ H w I' ρ' H' w'/\Q r H'
mutual
def aM (f:Nat->Option Nat):V->V
 | .ptr i o=>match f i with | some j=>.ptr j o | none=>.any
 | .ep i a b=>match f i with | some j=>.ep j a b | none=>.any
 | .ms z i a b c=>match f i with | some j=>.ms z j a b c | none=>.any
 | .mr z i a b=>match f i with | some j=>.mr z j a b | none=>.any
 | .map i=>match f i with | some j=>.map j | none=>.any
 | .yld i=>match f i with | some j=>.yld j | none=>.any
 | .fn g a b=>.fn g (iP f a) (iP f b)
 | .agg a=>.agg (iP f a)
 | .tup a=>.tup (iP f a)
 | .iface t v=>.iface t (aM f v)
 | v=>v
def iP (f:Nat->Option Nat):List V->List V
 | []=>[]
 | v::l=>aM f v::iP f l
end
def u9 (f:Nat->Option Nat):List (V × V)->List (V × V)
 | []=>[]
 | (a,b)::l=>(aM f a,aM f b)::u9 f l
def zs (f:Nat->Option Nat):Env->Env
 | []=>[]
 | (t,v)::e=>(t,aM f v)::zs f e
def gA (f:Nat->Option Nat):O->O
 | .cells cs=>.cells (iP f cs)
 | .map kvs c=>.map (u9 f kvs) c
 | .loop c st e=>.loop c st (zs f e)
 | o=>o
def bI:List Nat->Nat->Option Nat
 | [],_=>none
 | i::is,j=>match Nat.beq i j with
  | true=>some 0
  | false=>match bI is j with
   | some p=>some (p+1)
   | none=>none
def mc (is:List Nat) (n j:Nat):Option Nat :=
 match is[j]? with
 | some i=>some i
 | none=>some (n+(j-is.length))
def o6 (ids:List Nat) (i:Nat):Option Nat :=
 match bI ids i with
 | some _=>none
 | none=>some i
def kM:List Nat->Nat->Bool
 | [],_=>true
 | i::is,n=>Nat.blt i n&&kM is n
def gJ:List Nat->Bool
 | []=>true
 | i::is=>(bI is i).isNone&&gJ is
def yU (is:List Nat) (n k:Nat):Bool:=kM is n&&gJ is&&Nat.ble k is.length
def gC (sel:List Nat) (n k:Nat):Bool:=kM sel n&&gJ sel&&((sel.take k) == List.range k)
def aJ (f:Nat->Option Nat) (H:List O):List Nat->List O
 | []=>[]
 | i::is=>gA f (ar H i)::aJ f H is
def wD (f:Nat->Option Nat):List O->List O
 | []=>[]
 | o::H=>gA f o::wD f H
def dZ (is:List Nat) (n:Nat) (fo:Nat->Option Nat) (H' : List O):Nat->List O->List O
 | _,[]=>wD (mc is n) (H'.drop is.length)
 | i,o::H=>(match bI is i with
  | some j=>(match H'[j]? with | some o' => gA (mc is n) o' | none=>.dead)
  | none=>gA fo o)::dZ is n fo H' (i+1) H
def fQ (is:List Nat) (k:Nat):Nat->Option Nat :=
 match is.drop k with
 | []=>some
 | l=>o6 l
def A3 (is:List Nat) (k:Nat) (e:Env):Env :=
 match is.drop k with
 | []=>e
 | l=>zs (o6 l) e
mutual
def cL (id:Nat) (o:O):V->V
 | .ptr i off=>match Nat.beq i id with
  | true=>match o with | .cells cs=>.ip cs off | _=>.any
  | false=>.ptr i off
 | .ep i a b=>match Nat.beq i id with
  | true=>match o with | .buf es=>(match es[a]? with | some c=>.ip c b | none=>.any) | _=>.any
  | false=>.ep i a b
 | .ms z i a b c=>match Nat.beq i id with
  | true=>match o with | .buf es=>.sl z ((es.drop a).take b) c | _=>.any
  | false=>.ms z i a b c
 | .mr z i a b=>match Nat.beq i id with
  | true=>.any
  | false=>.mr z i a b
 | .map i=>match Nat.beq i id with | true=>.any | false=>.map i
 | .yld i=>match Nat.beq i id with | true=>.any | false=>.yld i
 | .fn g a b=>.fn g (fX id o a) (fX id o b)
 | .agg a=>.agg (fX id o a)
 | .tup a=>.tup (fX id o a)
 | .iface t v=>.iface t (cL id o v)
 | v=>v
def fX (id:Nat) (o:O):List V->List V
 | []=>[]
 | v::l=>cL id o v::fX id o l
end
def aY:V->Bool
 | .bool _ | .int _ _ | .str _ | .ip _ _ | .nilp | .sl _ _ _ | .nils | .nilf | .nilm | .nili | .glob _=>true
 | .fn _ [] []=>true
 | .im _=>true
 | .raw _=>true
 | _=>false
def mt:O->Bool
 | .cells cs=>cs.all aY
 | .buf _=>true
 | _=>false
def Cg (id:Nat) (o:O):List (V × V)->List (V × V)
 | []=>[]
 | (a,b)::l=>(cL id o a,cL id o b)::Cg id o l
def wp (id:Nat) (o:O):Env->Env
 | []=>[]
 | (t,v)::e=>(t,cL id o v)::wp id o e
def Hi (id:Nat) (o:O):O->O
 | .cells cs=>.cells (fX id o cs)
 | .map kvs c=>.map (Cg id o kvs) c
 | .loop c st e=>.loop c st (wp id o e)
 | x=>x
def jH (id:Nat) (o:O):Nat->List O->List O
 | _,[]=>[]
 | j,x::H=>(match Nat.beq j id with | true=>.dead | false=>Hi id o x)::jH id o (j+1) H
mutual
def ua (id:Nat):V->List (Nat × Nat)
 | .ms _ i a b _=>match Nat.beq i id with | true=>[(a,b)] | false=>[]
 | .fn _ a b=>t8 id a++t8 id b
 | .agg a=>t8 id a
 | .tup a=>t8 id a
 | .iface _ v=>ua id v
 | _=>[]
def t8 (id:Nat):List V->List (Nat × Nat)
 | []=>[]
 | v::l=>ua id v++t8 id l
end
def Hz (id:Nat):List (V × V)->List (Nat × Nat)
 | []=>[]
 | (a,b)::l=>ua id a++(ua id b++Hz id l)
def JB (id:Nat):Env->List (Nat × Nat)
 | []=>[]
 | (_,v)::e=>ua id v++JB id e
def JD (id:Nat):O->List (Nat × Nat)
 | .cells cs=>t8 id cs
 | .map kvs _=>Hz id kvs
 | .loop _ _ e=>JB id e
 | _=>[]
def JC (id:Nat):List O->List (Nat × Nat)
 | []=>[]
 | o::H=>JD id o++JC id H
def wH (n:Nat):List (Nat × Nat)->Prop
 | []=>True
 | (a,b)::l=>a+b<=n/\wH n l
def iG (id:Nat) (o:O) (vs:List V) (e:Env) (H:List O):Prop :=
 match o with
 | .buf es=>wH es.length (t8 id vs++(JB id e++JC id H))
 | _=>True
structure dI where
 P:Program
 T:Nat->TI
 fns:List Nat
 n:Nat
 k:Nat
 stab:Bool:=false
 round:Option Nat:=none
def n8:Nat->List Nat->Bool
 | _,[]=>false
 | i,j::l=>match Nat.beq i j with
  | true=>true
  | false=>n8 i l
def pS:List Nat->Nat->Bool
 | [],_=>true
 | i::is,n=>Nat.ble n i&&pS is n
structure AYield (P:Program) (k:Nat) (args:List V) (H:List O) (Q:V->List O->Prop):Prop where
 out:∀I ρ w (us:List Value),St I ρ H w->k<=H.length->VRels I ρ args us -> ∃l us', us = .func (.yield l) #[] #[]::us'/\YieldAt Fence.wide 0 P l us'.toArray w fun en w' =>
  ∃v r I' ρ' H', en = .returned v/\St I' ρ' H' w'/\VRel I' ρ' r v/\Step k I ρ H w I' ρ' H' w'/\Q r H'
def D5 (P:Program) (f:Option FuncId) (k:Nat) (args:List V) (H:List O) (Q:V->List O->Prop):Prop :=
 match f with
 | some f=>ACall P f k args H Q
 | none=>AYield P k args H Q
inductive ACalls (X:dI) (f:Option FuncId) (K:V->Env->List O->Prop):List V->Env->List O->Prop
 | call {args:List V} {e:Env} {H:List O} (is:List Nat) (k:Nat) (hok:yU is H.length k=true/\pS (is.drop k) X.k=true/\(!X.stab||Nat.beq k is.length)=true)
   (h:D5 X.P f k (iP (bI is) args) (aJ (bI is) H is) (fun r H' => K (aM (mc is H.length) r) (A3 is k e) (dZ is H.length (fQ is k) H' 0 H))):ACalls X f K args e H
 | pure {args:List V} {e:Env} {H:List O} (h:D5 X.P f 0 (iP (bI []) args) [] (fun r H' => H' = []/\K r e H)):ACalls X f K args e H
 | frz {args:List V} {e:Env} {H:List O} (id:Nat) (hs:X.stab=false) (hok:mt (ar H id)=true) (hfit:iG id (ar H id) args e H)
   (h:ACalls X f K (fX id (ar H id) args) (wp id (ar H id) e) (jH id (ar H id) 0 H)):ACalls X f K args e H
 | sub {args:List V} {e:Env} {H:List O} (args' : List V) (H' : List O) (hs:X.stab=false) (hv:VSubs args args') (hH:HSub H H') (h:ACalls X f K args' e H'):ACalls X f K args e H
 | adopt {args:List V} {e:Env} {H:List O} (hs:X.stab=false) (h:ACalls X f K args e (H ++ [.buf []])):ACalls X f K args e H
def rD (X:dI) (f:Option FuncId) (args:List V) (e:Env) (H:List O) (K:V->Env->List O->Prop):Prop:=ACalls X f K args e H
def qA (k m j:Nat):Option Nat :=
 match Nat.blt j k with
 | true=>some j
 | false=>some (j+m)
def HI (k:Nat):Nat->Option Nat
 | 0=>none
 | i+1=>some (k+i)
def gU (k:Nat) (Hs rest:List O):List O:=wD (qA k rest.length) (Hs.take k)++(wD (HI k) rest++wD (qA k rest.length) (Hs.drop k))
def cB (is js:List Nat) (k:Nat):List Nat:=is.take k++(js++is.drop k)
def FC (is js:List Nat) (n k m x:Nat):Bool :=
 yU (cB is js k) m (k+js.length)&&(yU is m k&&(yU (n::js) m (1+js.length)&&(pS (is.drop k) x&&match is,k with
  | i::_,_+1=>Nat.beq i n
  | _,_=>false)))
inductive mD (X:dI) (f:FuncId) (n:Nat) (K:Env->List O->Prop):List V->Env->List O->Prop
 | call {args:List V} {e:Env} {H:List O} (is:List Nat) (k:Nat) (hok:yU is H.length k=true/\pS (is.drop k) X.k=true/\(match bI is n with | some j=>Nat.blt j k | none=>false)=true)
  (h:ACall X.P f k (iP (bI is) args) (aJ (bI is) H is) (fun r H' => K (A3 is k e) (dZ is H.length (fQ is k) H' 0 H))):mD X f n K args e H
 | frz {args:List V} {e:Env} {H:List O} (id:Nat) (hok:mt (ar H id)=true) (hfit:iG id (ar H id) args e H)
   (h:mD X f n K (fX id (ar H id) args) (wp id (ar H id) e) (jH id (ar H id) 0 H)):mD X f n K args e H
 | pack {args:List V} {e:Env} {H:List O} (is js:List Nat) (k:Nat) (J J' : List O->Prop) (hok:FC is js n k H.length X.k=true) (hJ:J (aJ (bI is) H is))
   (h:∀(ks:List Pl) (B:List Nat),ks.length=k->ACall X.P f (1+js.length) (iP (bI (n::js)) args) (.res (cu J ks B) B::aJ (bI (n::js)) H js) fun _ H' =>
    ∃B' rest,H' = .res (cu J' ks B') B'::rest/\rest.length=js.length /\ ∀Hs,J' Hs->k<=Hs.length ->
     K (A3 (cB is js k) (k+js.length) e) (dZ (cB is js k) H.length (fQ (cB is js k) (k+js.length)) (gU k Hs rest) 0 H)):mD X f n K args e H
structure GA (P:Program) (f:FuncId) (args:List V) (H:List O) (r:V):Prop where
 out:∀I ρ w (us:Array Value),St I ρ H w->VRels I ρ args us.toList -> ∃u,(callFunc f us).run P w = .ok (.value u) w/\VRel I ρ r u
def gH (l:List UInt8):Nat × Nat :=
 let g (k:Nat):Nat:=(l.getD k 0).toNat
 let cont (k:Nat):Bool:=decide (k<l.length)&&g k / 64 == 2
 let b0:=g 0
 if b0<0x80 then(b0,1)
 else if b0 / 32 == 6&&cont 1 then
  let c:=(b0 % 32)*64+g 1 % 64
  if c≥0x80 then(c,2)else(Utf8.runeError,1)
 else if b0 / 16 == 14&&cont 1&&cont 2 then
  let c:=(b0 % 16)*4096+(g 1 % 64)*64+g 2 % 64
  if c≥0x800&&Utf8.valid c then(c,3)else(Utf8.runeError,1)
 else if b0 / 8 == 30&&cont 1&&cont 2&&cont 3 then
  let c:=(b0 % 8)*262144+(g 1 % 64)*4096+(g 2 % 64)*64+g 3 % 64
  if c≥0x10000&&Utf8.valid c then(c,4)else(Utf8.runeError,1)
 else(Utf8.runeError,1)
def ki (sz:Nat):V->List O->(List (List V)->Prop)->Prop
 | .sl z es _,_,K=>match Nat.beq z sz with
  | true=>K es
  | false=>False
 | .nils,_,K=>K []
 | .ms z id off len _,H,K=>match Nat.beq z sz with
  | true=>match ar H id with
   | .buf es=>off+len<=es.length/\K ((es.drop off).take len)
   | _=>False
  | false=>False
 | .str s,_,K=>match Nat.beq 1 sz with
  | true=>K (s.map fun b=>[.int .u8 b.toNat])
  | false=>False
 | _,_,_=>False
def jC (sz:Nat):List (List V)->List (Nat × V)->(List (List V)->Prop)->Prop
 | es,[],K=>K es
 | es,(i,v)::rest,K=>match cellsOf v with
  | none=>False
  | some cs=>match Nat.beq cs.length sz,Nat.blt i es.length,cs.all aY with
   | true,true,true=>gR cs fun cs=>jC sz (es.set i cs) rest K
   | _,_,_=>False
def eJ (ti:TI):Bool:=ti.good&&(Nat.blt 0 ti.bytes&&(Nat.ble ti.bytes 65536&&(Nat.blt 0 ti.size&&Nat.beq ti.zero.length ti.size)))
def bJ (sz bytes:Nat) (es:List (List V)) (H:List O) (K:V->List O->Prop):Prop :=
 es.length*bytes<=70368744177664/\aV (H ++ [.buf es]) fun H' => K (.ms sz H.length 0 es.length false) H'
def co (sz bytes:Nat) (s:V) (ys:List (List V)) (H:List O) (K:V->List O->Prop):Prop :=
 match s with
 | .nils=>bJ sz bytes ys H K
 | .sl z es true=>match Nat.beq z sz with
  | false=>False
  | true=>match es with
   | []=>bJ sz bytes ys H K
   | es=>(ys = []->K (.sl sz es true) H)/\(ys ≠ []->bJ sz bytes (es++ys) H K)
 | .ms z id off len full=>match Nat.beq z sz with
  | false=>False
  | true=>match ar H id with
   | .buf es=>match full with
    | false=>len+off=es.length/\bJ sz bytes (es.drop off++ys) (bX H id .dead) K
    | true=>off+len<=es.length/\(ys = []->K (.ms sz id off len true) H)/\(ys ≠ []->bJ sz bytes ((es.drop off).take len++ys) H K)
   | _=>False
 | _=>False
def db:V->V->Bool
 | .ms _ id _ _ false,.ms _ id2 _ _ _=>Nat.beq id id2
 | .mr _ id _ _,.ms _ id2 _ _ _=>Nat.beq id id2
 | _,_=>false
def gW (sz:Nat) (s:V) (ys:List (List V)) (H:List O) (K:V->List O->Prop):Prop :=
 match s with
 | .ms z id off len _=>match Nat.beq z sz with
  | true=>match ar H id with
   | .buf es=>(0<len/\off+len+ys.length<=es.length)/\aV (bX H id (.buf (es.take (off+len)++ys++es.drop (off+len+ys.length)))) fun H' => K (.ms sz id off (len+ys.length) false) H'
   | _=>False
  | false=>False
 | .mr z id off len=>match Nat.beq z sz with
  | true=>match ar H id with
   | .buf es=>(ys = []->K (.mr sz id off len) H)/\(ys ≠ []->off+len+ys.length<=es.length/\aV (bX H id (.buf (es.take (off+len)++ys++es.drop (off+len+ys.length)))) fun H' => K (.ms sz id off (len+ys.length) false) H')
   | _=>False
  | false=>False
 | _=>False
def dW (sz bytes:Nat) (s x:V) (ys:List (List V)) (H:List O) (K:V->List O->Prop):Prop :=
 match db s x with
 | true=>gW sz s ys H K
 | false=>match s with
  | .mr z id off len=>gW sz (.mr z id off len) ys H K
  | s=>co sz bytes s ys H K
def CX (T:Nat->TI) (t:TypeId) (s:V) (H:List O) (K:V->List O->Prop):Prop :=
 match (T t).kind with
 | .sl _=>match s with
  | .ms _ id off len full=>match full with
   | true=>K (.int .i64 len) H
   | false=>match ar H id with
    | .buf es=>(off+len=es.length/\0<len) /\ ∀m:Nat,aV (bX H id (.bufc (es++List.replicate m []))) fun H' => K (.int .i64 (len+m:Nat)) H'
    | _=>False
  | .sl _ es true=>K (.int .i64 es.length) H
  | .nils=>K (.int .i64 0) H
  | _=>False
 | _=>False
def JA:V->Option Nat
 | .sl _ es _=>some es.length
 | .ms _ _ _ len _=>some len
 | .str s=>some s.length
 | .nils=>some 0
 | _=>none
def pt (H:List O) (sz n:Nat) (x:V) (K:List (List V)->Prop):Prop :=
 match x with
 | .sl z es _=>match Nat.beq z sz with
  | true=>n<=es.length/\K (es.take n)
  | false=>False
 | .ms z id off len _=>match Nat.beq z sz with
  | true=>match ar H id with
   | .buf es=>(n<=len/\off+n<=es.length)/\K ((es.drop off).take n)
   | .bufc es=>(n<=len/\off+n<=es.length /\ ∀r∈(es.drop off).take n,r ≠ [])/\K ((es.drop off).take n)
   | _=>False
  | false=>False
 | _=>False
def uq (T:Nat->TI) (t:TypeId) (d x:V) (H:List O) (K:V->List O->Prop):Prop :=
 match (T t).kind with
 | .sl q=>match eJ (T q),d,JA x with
  | true,.ms z id off len _,some m=>match Nat.beq z (T q).size with
   | true=>0<min m len/\pt H (T q).size (min m len) x fun ys=>match ar H id with
    | .buf es=>off+min m len<=es.length/\aV (bX H id (.buf (es.take off++ys++es.drop (off+min m len)))) fun H' => K (.int .i64 (min m len:Nat)) H'
    | .bufc es=>off+min m len<=es.length/\aV (bX H id (.bufc (es.take off++ys++es.drop (off+min m len)))) fun H' => K (.int .i64 (min m len:Nat)) H'
    | _=>False
   | false=>False
  | _,_,_=>False
 | _=>False
def pQ (sz bytes:Nat) (zero:List V) (s:V) (n:Int) (H:List O) (K:V->List O->Prop):Prop :=
 match s with
 | .ms z id off len false=>match Nat.beq z sz with
  | true=>match ar H id with
   | .bufc es=>(0<=n/\n<=70368744177664/\off+len<=es.length/\es.length<off+len+n.toNat /\ ∀r∈(es.drop off).take len,r ≠ [])/\bJ sz bytes ((es.drop off).take len++List.replicate n.toNat zero) H K
   | _=>False
  | false=>False
 | .nils=>(0<n/\n<=70368744177664)/\(List.replicate n.toNat zero).length*bytes<=70368744177664/\aV (H ++ [.buf (List.replicate n.toNat zero)]) fun H' => K (.mr sz H.length 0 (List.replicate n.toNat zero).length) H'
 | _=>False
def eU (b:Bool) (A B:Prop):Prop:=match b with | true=>A | false=>B
def tr (x y:V):Option Bool :=
 match x,y with
 | .int k a,.int k' b=>match decide (k=k')with
  | true=>some (decide (a=b))
  | false=>none
 | .str a,.str b=>some (decide (a=b))
 | _,_=>none
def mW (k:TK) (x:V):Bool :=
 match k,x with
 | .int k,.int k' _=>decide (k'=k)
 | .str,.str _=>true
 | _,_=>false
def gQ (x:V):List (V × V)->Nat->(Option (Nat × V)->Prop)->Prop
 | [],_,K=>K none
 | (y,v)::r,i,K=>match tr x y with
  | some b=>eU b (K (some (i,v))) (gQ x r (i+1) K)
  | none=>False
def xo (P:Program) (t:TypeId) (z:V):Prop:=∃i u,P.info? t=some i/\i.zero=some u/\Co u=z
def Gx (ok:Bool) (v:V) (b:Bool):V:=match ok with | true=>.tup [v,.bool b] | false=>v
def jr (T:Nat->TI) (t:TypeId) (H:List O) (K:V->List O->Prop):Prop :=
 match (T t).kind with
 | .map _ _=>aV (H ++ [.map [] 0]) fun H' => K (.map H.length) H'
 | _=>False
def lN (P:Program) (T:Nat->TI) (t:TypeId) (m k:V) (ok:Bool) (H:List O) (K:V->List O->Prop):Prop :=
 match (T t).kind with
 | .map kt et=>match mW (T kt).kind k with
  | true=>match m with
   | .map id=>match ar H id with
    | .map kvs _=>gQ k kvs 0 fun r=>match r with
     | some (_,v)=>gS v fun v=>K (Gx ok v true) H
     | none=>∃z,xo P et z/\K (Gx ok z false) H
    | .pmap kvs _=>gQ k kvs 0 fun r=>match r with
     | some (_,v)=>gS v fun v=>K (Gx ok v true) H
     | none=>∃z,xo P et z/\K (Gx ok z false) H
    | _=>False
   | .nilm=>∃z,xo P et z/\K (Gx ok z false) H
   | _=>False
  | false=>False
 | _=>False
def j8 (T:Nat->TI) (t:TypeId) (m k x:V) (H:List O) (K:V->List O->Prop):Prop :=
 match (T t).kind with
 | .map kt _=>match mW (T kt).kind k with
  | true=>match m with
   | .map id=>match ar H id with
    | .map kvs c=>gQ k kvs 0 fun r=>match r with
     | some (i,_)=>aV (bX H id (.map (kvs.set i (k,x)) c)) fun H' => K (.tup []) H'
     | none=>aV (bX H id (.map (kvs ++ [(k,x)]) (c+1))) fun H' => K (.tup []) H'
    | .pmap kvs c=>match k,aY x with
     | .str s,true=>gQ (.str s) kvs 0 fun r=>match r with
      | some (i,_)=>aV (bX H id (.pmap (kvs.set i (.str s,x)) c)) fun H' => K (.tup []) H'
      | none=>aV (bX H id (.pmap (kvs ++ [(.str s,x)]) (c+1))) fun H' => K (.tup []) H'
     | _,_=>False
    | _=>False
   | _=>False
  | false=>False
 | _=>False
def lM (T:Nat->TI) (t:TypeId) (m k:V) (H:List O) (K:V->List O->Prop):Prop :=
 match (T t).kind with
 | .map kt _=>match mW (T kt).kind k with
  | true=>match m with
   | .map id=>match ar H id with
    | .pmap kvs c=>gQ k kvs 0 fun r=>match r with
     | some (i,_)=>aV (bX H id (.pmap (kvs.eraseIdx i) c)) fun H' => K (.tup []) H'
     | none=>K (.tup []) H
    | _=>False
   | _=>False
  | false=>False
 | _=>False
def lO (T:Nat->TI) (t:TypeId) (l c:V) (H:List O) (K:V->List O->Prop):Prop :=
 match (T t).kind with
 | .sl q=>match eJ (T q)with
  | true=>match l,c with
   | .int _ a,.int _ b=>(0<=a/\a<=b/\b.toNat*(T q).bytes<=70368744177664)/\aV (H ++ [.buf (List.replicate a.toNat (T q).zero)]) fun H' => K (.ms (T q).size H.length 0 a.toNat false) H'
   | _,_=>False
  | false=>False
 | _=>False
def Fi:List V->Option Nat
 | []=>none
 | .ms _ id _ _ _::_=>some id
 | _::l=>Fi l
def Ax (T:Nat->TI) (t:TypeId) (len:Nat) (ps:List (Nat × Operand)) (e:Env) (H:List O) (K:V->Env->List O->Prop):Prop :=
 match (T t).kind with
 | .sl q=>match eJ (T q)with
  | true=>match Nat.ble (len*(T q).size) 16777216 with
   | true=>jC (T q).size (List.replicate len (T q).zero) (ps.map fun p=>(p.1,am e p.2)) fun es=>aV (H ++ [.buf es]) fun H' => K (.ms (T q).size H.length 0 len true) e H'
   | false=>False
  | false=>False
 | _=>False
def GD (T:Nat->TI) (t:TypeId) (len:Nat) (ps:List (Nat × Operand)) (K:V->Env->List O->Prop):Nat->Env->List O->Prop
 | 0,e,H=>Ax T t len ps e H K
 | n+1,e,H=>match Fi (ps.map fun p=>am e p.2)with
  | none=>Ax T t len ps e H K
  | some id=>(mt (ar H id)=true/\iG id (ar H id) [] e H)/\GD T t len ps K n (wp id (ar H id) e) (jH id (ar H id) 0 H)
def ae (X:dI) (o:Op) (e:Env) (H:List O) (K:V->Env->List O->Prop):Prop :=
 match o with
 | .alloc t=>match (X.T t).good with
  | true=>gR (X.T t).zero fun z=>aV (H ++ [.cells z]) fun H' => K (.ptr H.length 0) e H'
  | false=>False
 | .box _ x=>match cellsOf (am e x)with
  | some cs=>gR cs fun cs=>aV (H ++ [.cells cs]) fun H' => K (.ptr H.length 0) e H'
  | none=>False
 | .buildSlice t len parts=>match X.stab with
  | true=>Ax X.T t len parts.toList e H K
  | false=>GD X.T t len parts.toList K parts.size e H
 | .store t a x=>match cellsOf (am e x),(X.T t).good with
  | some cs,true=>match Nat.beq cs.length (X.T t).size with
   | true=>match am e a with
    | .ptr id off=>match ar H id with
     | .cells old=>match Nat.ble (off+cs.length) old.length with
      | true=>gR (old.take off++cs++old.drop (off+cs.length)) fun c=>aV (bX H id (.cells c)) fun H' => K (.tup []) e H'
      | false=>False
     | _=>False
    | .ep id i j=>match ar H id,cs.all aY with
     | .buf es,true=>∃x,es[i]? = some x/\match Nat.ble (j+cs.length) x.length with
      | true=>gR (x.take j++cs++x.drop (j+cs.length)) fun c=>aV (bX H id (.buf (es.set i c))) fun H' => K (.tup []) e H'
      | false=>False
     | _,_=>False
    | _=>False
   | false=>False
  | _,_=>False
 | .range t x=>match (X.T t).kind,am e x with
  | .str,.str s=>aV (H ++ [.iter s 0]) fun H' => K (.ptr H.length 0) e H'
  | .map _ _,.map id=>match ar H id with
   | .pmap kvs _=>∀B,aV (bX H id .dead ++ [.miter B kvs none]) fun H' => K (.ptr H.length 0) e H'
   | _=>False
  | _,_=>False
 | .next x true=>match am e x with
  | .ptr id 0=>match ar H id with
   | .iter s pos=>(s.drop pos = []->K (.tup [.bool false]) e H) /\
    (∀b r,s.drop pos=b::r->aV (bX H id (.iter s (pos+(gH (b::r)).2))) fun H' => K (.tup [.bool true,.int .i64 (Int.ofNat pos),.int .i32 (Int.ofNat (gH (b::r)).1)]) e H')
   | _=>False
  | _=>False
 | .next x false=>match am e x with
  | .ptr id 0=>match ar H id with
   | .miter B left cur=>(left = []->K (.tup [.bool false]) e H) /\
    ∀j kv,left[j]? = some kv->aV (bX H id (.miter B (left.eraseIdx j) (some kv))) fun H' => K (.tup [.bool true,kv.1,kv.2]) e H'
   | _=>False
  | _=>False
 | .entry x=>match am e x with
  | .ptr id 0=>match ar H id with
   | .miter B left cur=>match cur with
    | some kv=>K (.tup [kv.1,kv.2]) e H
    | none=>False
   | _=>False
  | _=>False
 | .call c=>match c.callee with
  | .value g=>match am e g with
   | .fn (.func f) as bs=>match n8 f X.fns with
    | true=>rD X (some f) (as++(c.args.toList.map (am e)++bs)) e H K
    | false=>∃r,GA X.P f (as++(c.args.toList.map (am e)++bs)) H r/\K r e H
   | .yld id=>rD X none (.yld id::c.args.toList.map (am e)) e H K
   | _=>False
  | .builtin .append=>match c.args.toList,c.argTypes.toList with
   | [s,x],[t,t2]=>match (X.T t).kind with
    | .sl q=>match eJ (X.T q),(match (X.T t2).kind with | .sl _=>true | .str=>true | _=>false)with
     | true,true=>ki (X.T q).size (ao e x) H fun ys=>dW (X.T q).size (X.T q).bytes (ao e s) (ao e x) ys H fun v H' => K v e H'
     | true,false=>match (X.T t2).kind,ao e x with
      | .int _,.int _ n=>pQ (X.T q).size (X.T q).bytes (X.T q).zero (ao e s) n H fun v H' => K v e H'
      | _,_=>False
     | _,_=>False
    | _=>False
   | _,_=>False
  | .builtin .delete=>match c.args.toList,c.argTypes.toList with
   | [m,k],[t,_]=>lM X.T t (ao e m) (ao e k) H fun v H' => K v e H'
   | _,_=>False
  | .builtin .cap=>match c.args.toList,c.argTypes.toList with
   | [s],[t]=>CX X.T t (ao e s) H fun v H' => K v e H'
   | _,_=>False
  | .builtin .copy=>match c.args.toList,c.argTypes.toList with
   | [d,x],[t,_]=>uq X.T t (ao e d) (ao e x) H fun v H' => K v e H'
   | _,_=>False
  | .builtin .clear=>match c.args.toList,c.argTypes.toList with
   | [s],[t]=>match (X.T t).kind with
    | .sl q=>match eJ (X.T q)with
     | true=>match ao e s with
      | .ms z id off len _=>match Nat.beq z (X.T q).size,ar H id with
       | true,.buf es=>(0<len/\off+len<=es.length)/\aV (bX H id (.buf (es.take off++List.replicate len (X.T q).zero++es.drop (off+len)))) fun H' => K (.tup []) e H'
       | _,_=>False
      | _=>False
     | false=>False
    | _=>False
   | _,_=>False
  | _=>False
 | .makeMap t none=>jr X.T t H fun v H' => K v e H'
 | .mapUpdate t m k x=>j8 X.T t (ao e m) (ao e k) (am e x) H fun v H' => K v e H'
 | .insert t m k x=>j8 X.T t (ao e m) (ao e k) (am e x) H fun v H' => K v e H'
 | .lookup t m k ok=>lN X.P X.T t (ao e m) (ao e k) ok H fun v H' => K v e H'
 | .makeSlice t l c=>lO X.T t (ao e l) (ao e c) H fun v H' => K v e H'
 | _=>False
def uR:Op->Bool
 | .alloc _ | .box _ _ | .buildSlice _ _ _ | .store _ _ _ | .range _ _ | .next _ _ | .entry _ | .makeSlice _ _ _ | .makeMap _ _ | .mapUpdate _ _ _ _ | .insert _ _ _ _ | .lookup _ _ _ _=>true
 | .call c=>match c.callee with
  | .value _=>true
  | .builtin .append=>true
  | .builtin .copy=>true
  | .builtin .clear=>true
  | .builtin .cap=>true
  | .builtin .delete=>true
  | _=>false
 | _=>false
def fM (n:Nat) (dst:Option Nat) (v:V) (e:Env) (K:Env->Prop):Prop :=
 match dst with
 | none=>K e
 | some d=>match Nat.blt d n with
  | true=>K ((d,v)::e)
  | false=>False
def A7:Operand->Bool
 | .const (.slice none 0 0)=>true
 | _=>false
def wI (T:Nat->TI) (o:Op) (e:Env):Option BinOp :=
 match o with
 | .binOp op t x y _=>match A7 y with
  | true=>match ao e x with
   | .sl _ [] _=>match (T t).kind with
    | .sl _=>some op
    | _=>none
   | _=>none
  | false=>none
 | _=>none
def Iz (X:dI) (o:Oper) (e:Env) (H:List O) (K:Env->List O->Prop):Prop :=
 match uR o.op with
 | true=>ae X o.op e H fun v e' H' => fM X.n o.dst v e' fun e'' => K e'' H'
 | false=>match X.stab with
  | true=>aq X.T o.op e H fun v=>fM X.n o.dst v e fun e'' => K e'' H
  | false=>match wI X.T o.op e with
   | some op=>j9 op true (fun v=>fM X.n o.dst v e fun e'' => K e'' H)/\j9 op false (fun v=>fM X.n o.dst v e fun e'' => K e'' H)
   | none=>match o.op with
    | .slice t x lo hi mx=>s9 X.T H t (ao e x) (lo.map (ao e)) (hi.map (ao e)) (mx.map (ao e)) fun v=>fM X.n o.dst v e fun e'' => K e'' H
    | _=>aq X.T o.op e H fun v=>fM X.n o.dst v e fun e'' => K e'' H
def Az (X:dI) (ops:List Oper) (o:Oper) (e:Env) (H:List O) (K:Env->List O->Prop):Prop :=
 match o.guard with
 | none=>Iz X o e H K
 | some (j,want)=>match (ops[j]?).bind (·.dst)with
  | some d=>match Env.get e d with
   | .bool b=>eU b
    (match want with | true=>Iz X o ((d,.bool true)::e) H K | false=>fM X.n o.dst (.tup []) ((d,.bool true)::e) fun e' => K e' H)
    (match want with | false=>Iz X o ((d,.bool false)::e) H K | true=>fM X.n o.dst (.tup []) ((d,.bool false)::e) fun e' => K e' H)
   | .tup []=>fM X.n o.dst (.tup []) e fun e' => K e' H
   | _=>False
  | none=>False
def I4 (X:dI) (ops:List Oper) (K:Env->List O->Prop):List Oper->Env->List O->Prop
 | [],e,H=>K e H
 | o::rest,e,H=>Az X ops o e H (I4 X ops K rest)
def bp (o:Oper):List Nat:=o.after.toList.filterMap fun ed=>match ed.ground with
 | .textOnly _=>none
 | .gcOnly _=>none
 | _=>some ed.on
def lw:List Nat->List Nat->Nat
 | [],_=>0
 | j::r,D=>(2 ^ j ||| D.getD j 0) ||| lw r D
def cT:List Oper->List Nat->List Nat
 | [],D=>D
 | o::r,D=>cT r (D ++ [lw (bp o) D])
def loud (o:Oper):Bool :=
 match o.op with
 | .assign _=>true
 | op=>uR op
def cd (ops:List Oper) (o:Oper):List Nat :=
 (o.op.operands.toList.filterMap fun x=>match x with | .tmp t=>some t | _=>none) ++
 (match o.guard with
  | some (g,_)=>((ops[g]?).bind (·.dst)).toList
  | none=>[])
def Cz (done:Nat) (o:Oper):Bool:=(bp o).all fun j=>Nat.testBit done j
def Ei (ops:List Oper) (D:List Nat) (i:Nat) (oi:Oper) (j:Nat) (oj:Oper):Bool :=
 match oj.dst with
 | none=>true
 | some d=>match (cd ops oi).contains d||(match oi.dst with | some d' => Nat.beq d d' | none=>false)with
  | false=>true
  | true=>Nat.testBit (D.getD i 0) j||(loud oj&&Nat.testBit (D.getD j 0) i)
def xX (ops:List Oper) (D:List Nat) (L:List (Nat × Oper)):Bool :=
 L.all fun p=>L.all fun q=>Nat.beq p.1 q.1||Ei ops D p.1 p.2 q.1 q.2
def bL (o:Oper):Bool :=
 match o.op,o.guard,o.dst with
 | .alloc _,none,some _=>true
 | .box _ _,none,some _=>true
 | .buildSlice _ _ _,none,some _=>true
 | _,_,_=>false
def vU (ops:List Oper) (j:Nat):Bool :=
 match ops[j]? with
 | some o=>bL o
 | none=>false
def wB (ops:List Oper) (D:List Nat):List Nat->Bool
 | []=>true
 | i::r=>(match ops[i]? with
  | some o=>!loud o||r.all fun j=>Nat.testBit (D.getD j 0) i||vU ops j
  | none=>false)&&wB ops D r
def CD (o o' : Oper):Bool :=
 match o.dst,o'.dst with
 | some d,some d' => Nat.beq d d'
 | _,_=>false
def jM (p q:Oper):Bool :=
 match q.dst with
 | some d=>p.op.operands.toList.any fun x=>match x with | .tmp t=>Nat.beq t d | _=>false
 | none=>false
def lQ (D:List Nat) (L:List (Nat × Oper)):Bool :=
 (L.all fun p=>!(bL p.2&&jM p.2 p.2))&&L.all fun p=>L.all fun q=>Nat.beq p.1 q.1 || !(bL p.2&&(bL q.2&&(CD p.2 q.2||(jM p.2 q.2 && !Nat.testBit (D.getD p.1 0) q.1))))
def lR (T:Nat->TI) (n:Nat) (o:Oper):Bool :=
 match o.op,o.dst with
 | .alloc t,some d=>(T t).good&&Nat.blt d n
 | .box _ _,some d=>Nat.blt d n
 | .buildSlice t len _,some d=>(match (T t).kind with | .sl q=>eJ (T q)&&Nat.ble (len*(T q).size) 16777216 | _=>false)&&Nat.blt d n
 | _,_=>true
def AH (T:Nat->TI) (n:Nat) (ops:List Oper):Bool:=ops.all (lR T n)
def pV (T:Nat->TI) (ops:List Oper) (D:List Nat) (i:Nat) (L:List Nat) (e:Env) (K:Prop):List Nat->Prop
 | []=>K
 | j::r=>match ops[j]? with
  | some o=>match o.op with
   | .buildSlice t len parts=>match Nat.testBit (D.getD j 0) i with
    | true=>pV T ops D i L e K r
    | false=>match (bp o).all (fun k=>!n8 k L),(T t).kind with
     | true,.sl q=>jC (T q).size (List.replicate len (T q).zero) (parts.toList.map fun p=>(p.1,am e p.2)) fun _=>pV T ops D i L e K r
     | _,_=>False
   | _=>pV T ops D i L e K r
  | none=>pV T ops D i L e K r
def C4 (T:Nat->TI) (ops:List Oper) (D:List Nat) (i:Nat) (o:Oper) (L:List Nat) (e:Env) (K:Prop):Prop :=
 match loud o with
 | false=>K
 | true=>pV T ops D i (i::L) e K L
def xg (ops:List Oper):Nat->List Nat->Bool
 | _,[]=>true
 | done,i::r=>(match ops[i]? with
  | some o=>Cz done o
  | none=>false)&&(!Nat.testBit done i&&xg ops (done ||| 2 ^ i) r)
def gM:Op->Bool
 | .load _ _=>true
 | .convert _ _ _=>true
 | _=>false
def AV (ops:List Oper) (L:List Nat):Bool :=
 let D:=cT ops []
 let I:=(List.range ops.length).zip ops
 (List.range ops.length).all (fun i=>L.contains i)&&(xg ops 0 L&&(wB ops D L&&(xX ops D I&&((ops.all fun o=>loud o||match o.dst with | none=>!gM o.op | some d=>!(cd ops o).contains d)&&(Nat.ble L.length ops.length&&lQ D I)))))
def jc (X:dI) (ops:List Oper) (D:Nat) (e:Env) (H:List O) (K:Prop):List (Nat × Bool)->Prop
 | []=>K
 | (i,ran)::r=>match ran && !Nat.testBit D i with
  | false=>jc X ops D e H K r
  | true=>match ops[i]? with
   | some o=>match gM o.op,o.dst with
    | true,some d=>aq X.T o.op e H (fun v=>v=Env.get e d)/\jc X ops D e H K r
    | true,none=>False
    | false,_=>jc X ops D e H K r
   | none=>False
def IG (X:dI) (ops:List Oper) (D:List Nat) (i:Nat) (o:Oper) (recs:List (Nat × Bool)) (e:Env) (H:List O) (K:Env->List O->Prop):Prop :=
 match loud o with
 | false=>aq X.T o.op e H fun v=>fM X.n o.dst v e fun e' => K e' H
 | true=>Iz X o e H fun e' H' => jc X ops (D.getD i 0) e' H' (K e' H') recs
def iY (X:dI) (ops:List Oper) (D:List Nat) (K:Env->List O->Prop):List Nat->List (Nat × Bool)->Env->List O->Prop
 | [],_,e,H=>K e H
 | i::L,recs,e,H=>match ops[i]? with
  | none=>False
  | some o=>C4 X.T ops D i o L e (match o.guard with
   | none=>IG X ops D i o recs e H (iY X ops D K L ((i,true)::recs))
   | some (j,want)=>match (ops[j]?).bind (·.dst)with
    | none=>False
    | some d=>match Env.get e d with
     | .bool b=>eU b
      (match want with
       | true=>IG X ops D i o recs ((d,.bool true)::e) H (iY X ops D K L ((i,true)::recs))
       | false=>fM X.n o.dst (.tup []) ((d,.bool true)::e) fun e' => iY X ops D K L ((i,false)::recs) e' H)
      (match want with
       | false=>IG X ops D i o recs ((d,.bool false)::e) H (iY X ops D K L ((i,true)::recs))
       | true=>fM X.n o.dst (.tup []) ((d,.bool false)::e) fun e' => iY X ops D K L ((i,false)::recs) e' H)
     | .tup []=>fM X.n o.dst (.tup []) e fun e' => iY X ops D K L ((i,false)::recs) e' H
     | _=>False)
def Iy (X:dI) (ops:List Oper) (K:Env->List O->Prop) (e:Env) (H:List O):Prop :=
 ∃L,AV ops L=true/\AH X.T X.n ops=true/\iY { X with stab:=true } ops (cT ops []) K L [] e H
def AEx.seq (K:Env->List O->Prop) (Q:AEx->Env->List O->Prop):AEx->Env->List O->Prop
 | .normal,e,H=>K e H
 | x,e,H=>Q x e H
def AEx.block (id:Nat) (Q:AEx->Env->List O->Prop):AEx->Env->List O->Prop
 | .exit i,e,H=>match Nat.beq i id with
  | true=>Q .normal e H
  | false=>Q (.exit i) e H
 | x,e,H=>Q x e H
inductive jo (k n:Nat) (Inv:Nat->List V->List O->Prop):List V->List O->Prop
 | go {vs:List V} {H:List O} (sel:List Nat) (hsel:gC sel H.length k=true) (m:Nat) (hm:m<n) (h:Inv m (vs.map (aM (bI sel))) (aJ (bI sel) H sel)):jo k n Inv vs H
 | frz {vs:List V} {H:List O} (id:Nat) (hok:mt (ar H id)=true) (hfit:iG id (ar H id) vs [] H) (h:jo k n Inv (fX id (ar H id) vs) (jH id (ar H id) 0 H)):jo k n Inv vs H
 | sub {vs:List V} {H:List O} (vs' : List V) (H' : List O) (hv:VSubs vs vs') (hH:HSub H H') (h:jo k n Inv vs' H'):jo k n Inv vs H
 | adopt {vs:List V} {H:List O} (h:jo k n Inv vs (H ++ [.buf []])):jo k n Inv vs H
inductive D6 (k:Nat) (Inv:Nat->List V->List O->Prop):List V->List O->Prop
 | at {vs:List V} {H:List O} (n:Nat) (h:Inv n vs H):D6 k Inv vs H
 | frz {vs:List V} {H:List O} (n:Nat) (h:jo k n Inv vs H):D6 k Inv vs H
structure Kn (k:Nat) (body:(AEx->Env->List O->Prop)->Env->List O->Prop) (Q:AEx->Env->List O->Prop) (e:Env) (H:List O):Prop where
 out:∃(ts:List Nat) (Inv:Nat->List V->List O->Prop),D6 k Inv (ts.map (Env.get e)) H /\
  ∀n vs H,Inv n vs H->body (fun x e' H' => match x with
   | .normal=>jo k n Inv (ts.map (Env.get e')) H'
   | x=>Q x e' H') (ts.zip vs) H
def Ay (n:Nat) (Q:AEx->Env->List O->Prop) (e:Env) (H:List O):Prop :=
 match ar H n with
 | .loop _ .ready _=>aV (bX H n .dead) fun H=>Q .normal e H
 | .loop _ (.exit i) _=>aV (bX H n .dead) fun H=>Q (.exit i) e H
 | .loop _ .ret _=>aV (bX H n .dead) fun H=>Q .ret e H
 | _=>False
def qY (r:Option Nat) (H:List O):Bool :=
 match r with
 | none=>true
 | some id=>match ar H id with
  | .loop _ _ _=>true
  | _=>false
def tV (X:dI):Code->(AEx->Env->List O->Prop)->Env->List O->Prop
 | .skip,Q,e,H=>Q .normal e H
 | .region _ ops draw,Q,e,H=>match draw with
  | false=>I4 X ops.toList (Q .normal) ops.toList e H
  | true=>Iy X ops.toList (Q .normal) e H
 | .seq a b,Q,e,H=>tV X a (AEx.seq (tV X b Q) Q) e H
 | .cond c a b,Q,e,H=>match am e c with
  | .bool t=>eU t (tV X a Q e H) (tV X b Q e H)
  | _=>False
 | .block id c,Q,e,H=>tV X c (AEx.block id Q) e H
 | .loop c,Q,e,H=>Kn X.k (tV X c) Q e H
 | .exit id,Q,e,H=>Q (.exit id) e H
 | .ret,Q,e,H=>Q .ret e H
 | .label _,Q,e,H=>Q .normal e H
 | .scope c,Q,e,H=>tV X c Q e H
 | .rangeFunc g ps asg body,Q,e,H=>match am e g,qY X.round H with
  | .fn (.func f) as bs,true=>match n8 f X.fns with
   | true=>∃ts:List Nat,∀c:jq,c=⟨ps,asg,body,X.n⟩->mD X f H.length (fun e' H' => Ay H.length Q e' H') (as ++ .yld H.length::bs) e (H ++ [.loop c .ready (ts.zip (ts.map (Env.get e)))])
   | false=>False
  | _,_=>False
 | _,_,_,_=>False
inductive ARet (k:Nat) (Q:V->List O->Prop):V->List O->Prop
 | done {r:V} {H:List O} (sel:List Nat) (hsel:gC sel H.length k=true) (h:Q (aM (bI sel) r) (aJ (bI sel) H sel)):ARet k Q r H
 | frz {r:V} {H:List O} (id:Nat) (hok:mt (ar H id)=true) (hfit:iG id (ar H id) [r] [] H) (h:ARet k Q (cL id (ar H id) r) (jH id (ar H id) 0 H)):ARet k Q r H
 | sub {r:V} {H:List O} (r' : V) (H' : List O) (hv:VSub r r') (hH:HSub H H') (h:ARet k Q r' H'):ARet k Q r H
 | adopt {r:V} {H:List O} (h:ARet k Q r (H ++ [.buf []])):ARet k Q r H
def ol:List Nat->List V->Env->Env
 | p::ps,v::vs,e=>ol ps vs ((p,v)::e)
 | _,_,e=>e
def uu (k id:Nat) (Q:V->List O->Prop) (x:AEx) (H:List O):Prop :=
 match ar H id with
 | .loop c .busy e=>match x with
  | .normal=>aV (bX H id (.loop c .ready e)) fun H=>ARet k Q (.bool true) H
  | .exit i=>aV (bX H id (.loop c (.exit i) e)) fun H=>ARet k Q (.bool false) H
  | .ret=>aV (bX H id (.loop c .ret e)) fun H=>ARet k Q (.bool false) H
 | _=>False
def Em (X:dI) (k id:Nat) (vs:List V) (H:List O) (Q:V->List O->Prop):Prop :=
 match ar H id with
 | .loop c .ready e=>match Nat.beq vs.length c.ps.size&&(c.ps.toList.all (fun p=>Nat.blt p c.n)&&Nat.blt id k)with
  | true=>tV { X with n:=c.n,k:=k,stab:=false,round:=some id } c.asg (fun x e1 H1=>match x with
   | .normal=>match ar H1 id with
    | .loop c1 .ready e0=>aV (bX H1 id (.loop c1 .busy e0)) fun H2=>tV { X with n:=c.n,k:=k,stab:=false,round:=some id } c.body (fun x e2 H2=>uu k id Q x H2) e1 H2
    | _=>False
   | _=>False) (ol c.ps.toList vs e) H
  | false=>False
 | _=>False
def AC (T:Nat->TI) (e:Env) (H:List O):List ResultVar->(List V->Prop)->Prop
 | [],K=>K []
 | .tmp t::r,K=>gS (Env.get e t) fun v=>AC T e H r fun l=>K (v::l)
 | .cell a t::r,K=>match Env.get e a with
  | .ptr id off=>match ar H id with
   | .cells cs=>jL (T t) cs off fun v=>AC T e H r fun l=>K (v::l)
   | _=>False
  | _=>False
def JW:List V->V
 | [v]=>v
 | l=>.tup l
def jt:Nat->List V->Env
 | _,[]=>[]
 | i,v::l=>(i,v)::jt (i+1) l
def Ix (X:dI) (fn:Func) (c:Code) (args:List V) (H:List O) (Q:V->List O->Prop):Prop :=
 tV X c (fun x e H=>match x with
  | .exit _=>False
  | _=>AC X.T e H fn.results.toList fun l=>∃sel,gC sel H.length X.k=true/\Q (aM (bI sel) (JW l)) (aJ (bI sel) H sel)) (jt 0 args) H
end Go.Proofs.YteiagdlfccbpcaaGreatDoorPg
