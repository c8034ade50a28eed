/- The abstract run of code: effects, calls, regions, loops. -/
import Derived.Test.YteiagdlfccbpcaaGreatDoorPgM1
import Derived.RangeFuncSeq
import Derived.RangeFuncNested
set_option linter.unusedSectionVars false
set_option linter.unusedVariables false
namespace Go.Proofs.YteiagdlfccbpcaaGreatDoorPg
open Go Go.RowKit
variable [Globs]
structure ACall (P:Program) (f:FuncId) (k:Nat) (args:List V) (H:List O) (Q:V -> List O -> Prop):Prop where
 out:∀ I ρ w (us:Array Value),St I ρ H w -> k <= H.length -> VRels I ρ args us.toList -> Calls P f us w fun en w' =>
  ∃ v r I' ρ' H', en = .returned v /\ St I' ρ' H' w' /\ VRel I' ρ' r v /\ Step k I ρ H w I' ρ' H' w' /\ Q r H'
mutual
def renV (f:Nat -> Option Nat):V -> V
 | .ptr i o=>match f i with | some j=>.ptr j o | none=>.any
 | .ep i a b=>match f i with | some j=>.ep j a b | none=>.any
 | .ms z i a b c=>match f i with | some j=>.ms z j a b c | none=>.any
 | .mr z i a b=>match f i with | some j=>.mr z j a b | none=>.any
 | .map i=>match f i with | some j=>.map j | none=>.any
 | .yld i=>match f i with | some j=>.yld j | none=>.any
 | .fn g a b=>.fn g (renL f a) (renL f b)
 | .agg a=>.agg (renL f a)
 | .tup a=>.tup (renL f a)
 | .iface t v=>.iface t (renV f v)
 | v=>v
def renL (f:Nat -> Option Nat):List V -> List V
 | []=>[]
 | v :: l=>renV f v :: renL f l
end
def renKV (f:Nat -> Option Nat):List (V × V) -> List (V × V)
 | []=>[]
 | (a,b) :: l=>(renV f a,renV f b) :: renKV f l
def renE (f:Nat -> Option Nat):Env -> Env
 | []=>[]
 | (t,v) :: e=>(t,renV f v) :: renE f e
def renO (f:Nat -> Option Nat):O -> O
 | .cells cs=>.cells (renL f cs)
 | .map kvs c=>.map (renKV f kvs) c
 | .loop c st e=>.loop c st (renE f e)
 | o=>o
def idx:List Nat -> Nat -> Option Nat
 | [],_=>none
 | i :: is,j=>match Nat.beq i j with
  | true=>some 0
  | false=>match idx is j with
   | some p=>some (p + 1)
   | none=>none
def back (is:List Nat) (n j:Nat):Option Nat :=
 match is[j]? with
 | some i=>some i
 | none=>some (n + (j - is.length))
def forget (ids:List Nat) (i:Nat):Option Nat :=
 match idx ids i with
 | some _=>none
 | none=>some i
def allLt:List Nat -> Nat -> Bool
 | [],_=>true
 | i :: is,n=>Nat.blt i n && allLt is n
def nodupB:List Nat -> Bool
 | []=>true
 | i :: is=>(idx is i).isNone && nodupB is
def isOk (is:List Nat) (n k:Nat):Bool:=allLt is n && nodupB is && Nat.ble k is.length
def selOk (sel:List Nat) (n k:Nat):Bool:=allLt sel n && nodupB sel && ((sel.take k) == List.range k)
def gather (f:Nat -> Option Nat) (H:List O):List Nat -> List O
 | []=>[]
 | i :: is=>renO f (getO H i) :: gather f H is
def mapO (f:Nat -> Option Nat):List O -> List O
 | []=>[]
 | o :: H=>renO f o :: mapO f H
def mergeO (is:List Nat) (n:Nat) (fo:Nat -> Option Nat) (H' : List O):Nat -> List O -> List O
 | _,[]=>mapO (back is n) (H'.drop is.length)
 | i,o :: H=>(match idx is i with
  | some j=>(match H'[j]? with | some o' => renO (back is n) o' | none=>.dead)
  | none=>renO fo o) :: mergeO is n fo H' (i + 1) H
def fogOf (is:List Nat) (k:Nat):Nat -> Option Nat :=
 match is.drop k with
 | []=>some
 | l=>forget l
def fogE (is:List Nat) (k:Nat) (e:Env):Env :=
 match is.drop k with
 | []=>e
 | l=>renE (forget l) e
mutual
def frzV (id:Nat) (o:O):V -> V
 | .ptr i off=>match Nat.beq i id with
  | true=>match o with | .cells cs=>.ip cs off | _=>.any
  | false=>.ptr i off
 | .ep i a b=>match Nat.beq i id with
  | true=>match o with | .buf es=>(match es[a]? with | some c=>.ip c b | none=>.any) | _=>.any
  | false=>.ep i a b
 | .ms z i a b c=>match Nat.beq i id with
  | true=>match o with | .buf es=>.sl z ((es.drop a).take b) c | _=>.any
  | false=>.ms z i a b c
 | .mr z i a b=>match Nat.beq i id with
  | true=>.any
  | false=>.mr z i a b
 | .map i=>match Nat.beq i id with | true=>.any | false=>.map i
 | .yld i=>match Nat.beq i id with | true=>.any | false=>.yld i
 | .fn g a b=>.fn g (frzL id o a) (frzL id o b)
 | .agg a=>.agg (frzL id o a)
 | .tup a=>.tup (frzL id o a)
 | .iface t v=>.iface t (frzV id o v)
 | v=>v
def frzL (id:Nat) (o:O):List V -> List V
 | []=>[]
 | v :: l=>frzV id o v :: frzL id o l
end
def pureV:V -> Bool
 | .bool _ | .int _ _ | .str _ | .ip _ _ | .nilp | .sl _ _ _ | .nils | .nilf | .nilm | .nili | .glob _=>true
 | .fn _ [] []=>true
 | .im _=>true
 | .raw _=>true
 | _=>false
def frzOk:O -> Bool
 | .cells cs=>cs.all pureV
 | .buf _=>true
 | _=>false
def frzKV (id:Nat) (o:O):List (V × V) -> List (V × V)
 | []=>[]
 | (a,b) :: l=>(frzV id o a,frzV id o b) :: frzKV id o l
def frzE (id:Nat) (o:O):Env -> Env
 | []=>[]
 | (t,v) :: e=>(t,frzV id o v) :: frzE id o e
def frzO (id:Nat) (o:O):O -> O
 | .cells cs=>.cells (frzL id o cs)
 | .map kvs c=>.map (frzKV id o kvs) c
 | .loop c st e=>.loop c st (frzE id o e)
 | x=>x
def frzH (id:Nat) (o:O):Nat -> List O -> List O
 | _,[]=>[]
 | j,x :: H=>(match Nat.beq j id with | true=>.dead | false=>frzO id o x) :: frzH id o (j + 1) H
mutual
def msV (id:Nat):V -> List (Nat × Nat)
 | .ms _ i a b _=>match Nat.beq i id with | true=>[(a,b)] | false=>[]
 | .fn _ a b=>msL id a ++ msL id b
 | .agg a=>msL id a
 | .tup a=>msL id a
 | .iface _ v=>msV id v
 | _=>[]
def msL (id:Nat):List V -> List (Nat × Nat)
 | []=>[]
 | v :: l=>msV id v ++ msL id l
end
def msKV (id:Nat):List (V × V) -> List (Nat × Nat)
 | []=>[]
 | (a,b) :: l=>msV id a ++ (msV id b ++ msKV id l)
def msE (id:Nat):Env -> List (Nat × Nat)
 | []=>[]
 | (_,v) :: e=>msV id v ++ msE id e
def msO (id:Nat):O -> List (Nat × Nat)
 | .cells cs=>msL id cs
 | .map kvs _=>msKV id kvs
 | .loop _ _ e=>msE id e
 | _=>[]
def msH (id:Nat):List O -> List (Nat × Nat)
 | []=>[]
 | o :: H=>msO id o ++ msH id H
def msLe (n:Nat):List (Nat × Nat) -> Prop
 | []=>True
 | (a,b) :: l=>a + b <= n /\ msLe n l
def frzFit (id:Nat) (o:O) (vs:List V) (e:Env) (H:List O):Prop :=
 match o with
 | .buf es=>msLe es.length (msL id vs ++ (msE id e ++ msH id H))
 | _=>True
structure Ctx where
 P:Program
 T:Nat -> TI
 fns:List Nat
 n:Nat
 k:Nat
 stab:Bool:=false
 round:Option Nat:=none
def memN:Nat -> List Nat -> Bool
 | _,[]=>false
 | i,j :: l=>match Nat.beq i j with
  | true=>true
  | false=>memN i l
def allGe:List Nat -> Nat -> Bool
 | [],_=>true
 | i :: is,n=>Nat.ble n i && allGe is n
structure AYield (P:Program) (k:Nat) (args:List V) (H:List O) (Q:V -> List O -> Prop):Prop where
 out:∀ I ρ w (us:List Value),St I ρ H w -> k <= H.length -> VRels I ρ args us -> ∃ l us', us = .func (.yield l) #[] #[] :: us' /\ YieldAt Fence.wide 0 P l us'.toArray w fun en w' =>
  ∃ v r I' ρ' H', en = .returned v /\ St I' ρ' H' w' /\ VRel I' ρ' r v /\ Step k I ρ H w I' ρ' H' w' /\ Q r H'
def ACal (P:Program) (f:Option FuncId) (k:Nat) (args:List V) (H:List O) (Q:V -> List O -> Prop):Prop :=
 match f with
 | some f=>ACall P f k args H Q
 | none=>AYield P k args H Q
inductive ACalls (X:Ctx) (f:Option FuncId) (K:V -> Env -> List O -> Prop):List V -> Env -> List O -> Prop
 | call {args:List V} {e:Env} {H:List O} (is:List Nat) (k:Nat) (hok:isOk is H.length k = true /\ allGe (is.drop k) X.k = true /\ (!X.stab || Nat.beq k is.length) = true)
   (h:ACal X.P f k (renL (idx is) args) (gather (idx is) H is) (fun r H' => K (renV (back is H.length) r) (fogE is k e) (mergeO is H.length (fogOf is k) H' 0 H))):ACalls X f K args e H
 | pure {args:List V} {e:Env} {H:List O} (h:ACal X.P f 0 (renL (idx []) args) [] (fun r H' => H' = [] /\ K r e H)):ACalls X f K args e H
 | frz {args:List V} {e:Env} {H:List O} (id:Nat) (hs:X.stab = false) (hok:frzOk (getO H id) = true) (hfit:frzFit id (getO H id) args e H)
   (h:ACalls X f K (frzL id (getO H id) args) (frzE id (getO H id) e) (frzH id (getO H id) 0 H)):ACalls X f K args e H
 | sub {args:List V} {e:Env} {H:List O} (args' : List V) (H' : List O) (hs:X.stab = false) (hv:VSubs args args') (hH:HSub H H') (h:ACalls X f K args' e H'):ACalls X f K args e H
 | adopt {args:List V} {e:Env} {H:List O} (hs:X.stab = false) (h:ACalls X f K args e (H ++ [.buf []])):ACalls X f K args e H
def acall (X:Ctx) (f:Option FuncId) (args:List V) (e:Env) (H:List O) (K:V -> Env -> List O -> Prop):Prop:=ACalls X f K args e H
def outH (k m j:Nat):Option Nat :=
 match Nat.blt j k with
 | true=>some j
 | false=>some (j + m)
def outR (k:Nat):Nat -> Option Nat
 | 0=>none
 | i + 1=>some (k + i)
def weave (k:Nat) (Hs rest:List O):List O:=mapO (outH k rest.length) (Hs.take k) ++ (mapO (outR k) rest ++ mapO (outH k rest.length) (Hs.drop k))
def packIs (is js:List Nat) (k:Nat):List Nat:=is.take k ++ (js ++ is.drop k)
def packOk (is js:List Nat) (n k m x:Nat):Bool :=
 isOk (packIs is js k) m (k + js.length) && (isOk is m k && (isOk (n :: js) m (1 + js.length) && (allGe (is.drop k) x && match is,k with
  | i :: _,_ + 1=>Nat.beq i n
  | _,_=>false)))
inductive ARange (X:Ctx) (f:FuncId) (n:Nat) (K:Env -> List O -> Prop):List V -> Env -> List O -> Prop
 | call {args:List V} {e:Env} {H:List O} (is:List Nat) (k:Nat) (hok:isOk is H.length k = true /\ allGe (is.drop k) X.k = true /\ (match idx is n with | some j=>Nat.blt j k | none=>false) = true)
  (h:ACall X.P f k (renL (idx is) args) (gather (idx is) H is) (fun r H' => K (fogE is k e) (mergeO is H.length (fogOf is k) H' 0 H))):ARange X f n K args e H
 | frz {args:List V} {e:Env} {H:List O} (id:Nat) (hok:frzOk (getO H id) = true) (hfit:frzFit id (getO H id) args e H)
   (h:ARange X f n K (frzL id (getO H id) args) (frzE id (getO H id) e) (frzH id (getO H id) 0 H)):ARange X f n K args e H
 | pack {args:List V} {e:Env} {H:List O} (is js:List Nat) (k:Nat) (J J' : List O -> Prop) (hok:packOk is js n k H.length X.k = true) (hJ:J (gather (idx is) H is))
   (h:∀ (ks:List Pl) (B:List Nat),ks.length = k -> ACall X.P f (1 + js.length) (renL (idx (n :: js)) args) (.res (packR J ks B) B :: gather (idx (n :: js)) H js) fun _ H' =>
    ∃ B' rest,H' = .res (packR J' ks B') B' :: rest /\ rest.length = js.length /\ ∀ Hs,J' Hs -> k <= Hs.length ->
     K (fogE (packIs is js k) (k + js.length) e) (mergeO (packIs is js k) H.length (fogOf (packIs is js k) (k + js.length)) (weave k Hs rest) 0 H)):ARange X f n K args e H
structure AExt (P:Program) (f:FuncId) (args:List V) (H:List O) (r:V):Prop where
 out:∀ I ρ w (us:Array Value),St I ρ H w -> VRels I ρ args us.toList -> ∃ u,(callFunc f us).run P w = .ok (.value u) w /\ VRel I ρ r u
def decL (l:List UInt8):Nat × Nat :=
 let g (k:Nat):Nat:=(l.getD k 0).toNat
 let cont (k:Nat):Bool:=decide (k < l.length) && g k / 64 == 2
 let b0:=g 0
 if b0 < 0x80 then (b0,1)
 else if b0 / 32 == 6 && cont 1 then
  let c:=(b0 % 32) * 64 + g 1 % 64
  if c ≥ 0x80 then (c,2) else (Utf8.runeError,1)
 else if b0 / 16 == 14 && cont 1 && cont 2 then
  let c:=(b0 % 16) * 4096 + (g 1 % 64) * 64 + g 2 % 64
  if c ≥ 0x800 && Utf8.valid c then (c,3) else (Utf8.runeError,1)
 else if b0 / 8 == 30 && cont 1 && cont 2 && cont 3 then
  let c:=(b0 % 8) * 262144 + (g 1 % 64) * 4096 + (g 2 % 64) * 64 + g 3 % 64
  if c ≥ 0x10000 && Utf8.valid c then (c,4) else (Utf8.runeError,1)
 else (Utf8.runeError,1)
def elemsV (sz:Nat):V -> List O -> (List (List V) -> Prop) -> Prop
 | .sl z es _,_,K=>match Nat.beq z sz with
  | true=>K es
  | false=>False
 | .nils,_,K=>K []
 | .ms z id off len _,H,K=>match Nat.beq z sz with
  | true=>match getO H id with
   | .buf es=>off + len <= es.length /\ K ((es.drop off).take len)
   | _=>False
  | false=>False
 | .str s,_,K=>match Nat.beq 1 sz with
  | true=>K (s.map fun b=>[.int .u8 b.toNat])
  | false=>False
 | _,_,_=>False
def fillS (sz:Nat):List (List V) -> List (Nat × V) -> (List (List V) -> Prop) -> Prop
 | es,[],K=>K es
 | es,(i,v) :: rest,K=>match cellsOf v with
  | none=>False
  | some cs=>match Nat.beq cs.length sz,Nat.blt i es.length,cs.all pureV with
   | true,true,true=>copyL cs fun cs=>fillS sz (es.set i cs) rest K
   | _,_,_=>False
def okElem (ti:TI):Bool:=ti.good && (Nat.blt 0 ti.bytes && (Nat.ble ti.bytes 65536 && (Nat.blt 0 ti.size && Nat.beq ti.zero.length ti.size)))
def newBuf (sz bytes:Nat) (es:List (List V)) (H:List O) (K:V -> List O -> Prop):Prop :=
 es.length * bytes <= 70368744177664 /\ copyH (H ++ [.buf es]) fun H' => K (.ms sz H.length 0 es.length false) H'
def aappend (sz bytes:Nat) (s:V) (ys:List (List V)) (H:List O) (K:V -> List O -> Prop):Prop :=
 match s with
 | .nils=>newBuf sz bytes ys H K
 | .sl z es true=>match Nat.beq z sz with
  | false=>False
  | true=>match es with
   | []=>newBuf sz bytes ys H K
   | es=>(ys = [] -> K (.sl sz es true) H) /\ (ys ≠ [] -> newBuf sz bytes (es ++ ys) H K)
 | .ms z id off len full=>match Nat.beq z sz with
  | false=>False
  | true=>match getO H id with
   | .buf es=>match full with
    | false=>len + off = es.length /\ newBuf sz bytes (es.drop off ++ ys) (setO H id .dead) K
    | true=>off + len <= es.length /\ (ys = [] -> K (.ms sz id off len true) H) /\ (ys ≠ [] -> newBuf sz bytes ((es.drop off).take len ++ ys) H K)
   | _=>False
 | _=>False
def sameBuf:V -> V -> Bool
 | .ms _ id _ _ false,.ms _ id2 _ _ _=>Nat.beq id id2
 | .mr _ id _ _,.ms _ id2 _ _ _=>Nat.beq id id2
 | _,_=>false
def awithin (sz:Nat) (s:V) (ys:List (List V)) (H:List O) (K:V -> List O -> Prop):Prop :=
 match s with
 | .ms z id off len _=>match Nat.beq z sz with
  | true=>match getO H id with
   | .buf es=>(0 < len /\ off + len + ys.length <= es.length) /\ copyH (setO H id (.buf (es.take (off + len) ++ ys ++ es.drop (off + len + ys.length)))) fun H' => K (.ms sz id off (len + ys.length) false) H'
   | _=>False
  | false=>False
 | .mr z id off len=>match Nat.beq z sz with
  | true=>match getO H id with
   | .buf es=>(ys = [] -> K (.mr sz id off len) H) /\ (ys ≠ [] -> off + len + ys.length <= es.length /\ copyH (setO H id (.buf (es.take (off + len) ++ ys ++ es.drop (off + len + ys.length)))) fun H' => K (.ms sz id off (len + ys.length) false) H')
   | _=>False
  | false=>False
 | _=>False
def aapp (sz bytes:Nat) (s x:V) (ys:List (List V)) (H:List O) (K:V -> List O -> Prop):Prop :=
 match sameBuf s x with
 | true=>awithin sz s ys H K
 | false=>match s with
  | .mr z id off len=>awithin sz (.mr z id off len) ys H K
  | s=>aappend sz bytes s ys H K
def aCap (T:Nat -> TI) (t:TypeId) (s:V) (H:List O) (K:V -> List O -> Prop):Prop :=
 match (T t).kind with
 | .sl _=>match s with
  | .ms _ id off len full=>match full with
   | true=>K (.int .i64 len) H
   | false=>match getO H id with
    | .buf es=>(off + len = es.length /\ 0 < len) /\ ∀ m:Nat,copyH (setO H id (.bufc (es ++ List.replicate m []))) fun H' => K (.int .i64 (len + m:Nat)) H'
    | _=>False
  | .sl _ es true=>K (.int .i64 es.length) H
  | .nils=>K (.int .i64 0) H
  | _=>False
 | _=>False
def lenV:V -> Option Nat
 | .sl _ es _=>some es.length
 | .ms _ _ _ len _=>some len
 | .str s=>some s.length
 | .nils=>some 0
 | _=>none
def rowsOf (H:List O) (sz n:Nat) (x:V) (K:List (List V) -> Prop):Prop :=
 match x with
 | .sl z es _=>match Nat.beq z sz with
  | true=>n <= es.length /\ K (es.take n)
  | false=>False
 | .ms z id off len _=>match Nat.beq z sz with
  | true=>match getO H id with
   | .buf es=>(n <= len /\ off + n <= es.length) /\ K ((es.drop off).take n)
   | .bufc es=>(n <= len /\ off + n <= es.length /\ ∀ r ∈ (es.drop off).take n,r ≠ []) /\ K ((es.drop off).take n)
   | _=>False
  | false=>False
 | _=>False
def aCopy (T:Nat -> TI) (t:TypeId) (d x:V) (H:List O) (K:V -> List O -> Prop):Prop :=
 match (T t).kind with
 | .sl q=>match okElem (T q),d,lenV x with
  | true,.ms z id off len _,some m=>match Nat.beq z (T q).size with
   | true=>0 < min m len /\ rowsOf H (T q).size (min m len) x fun ys=>match getO H id with
    | .buf es=>off + min m len <= es.length /\ copyH (setO H id (.buf (es.take off ++ ys ++ es.drop (off + min m len)))) fun H' => K (.int .i64 (min m len:Nat)) H'
    | .bufc es=>off + min m len <= es.length /\ copyH (setO H id (.bufc (es.take off ++ ys ++ es.drop (off + min m len)))) fun H' => K (.int .i64 (min m len:Nat)) H'
    | _=>False
   | false=>False
  | _,_,_=>False
 | _=>False
def aApp0 (sz bytes:Nat) (zero:List V) (s:V) (n:Int) (H:List O) (K:V -> List O -> Prop):Prop :=
 match s with
 | .ms z id off len false=>match Nat.beq z sz with
  | true=>match getO H id with
   | .bufc es=>(0 <= n /\ n <= 70368744177664 /\ off + len <= es.length /\ es.length < off + len + n.toNat /\ ∀ r ∈ (es.drop off).take len,r ≠ []) /\ newBuf sz bytes ((es.drop off).take len ++ List.replicate n.toNat zero) H K
   | _=>False
  | false=>False
 | .nils=>(0 < n /\ n <= 70368744177664) /\ (List.replicate n.toNat zero).length * bytes <= 70368744177664 /\ copyH (H ++ [.buf (List.replicate n.toNat zero)]) fun H' => K (.mr sz H.length 0 (List.replicate n.toNat zero).length) H'
 | _=>False
def branch (b:Bool) (A B:Prop):Prop:=match b with | true=>A | false=>B
def sameK (x y:V):Option Bool :=
 match x,y with
 | .int k a,.int k' b=>match decide (k = k') with
  | true=>some (decide (a = b))
  | false=>none
 | .str a,.str b=>some (decide (a = b))
 | _,_=>none
def keyFit (k:TK) (x:V):Bool :=
 match k,x with
 | .int k,.int k' _=>decide (k' = k)
 | .str,.str _=>true
 | _,_=>false
def afind (x:V):List (V × V) -> Nat -> (Option (Nat × V) -> Prop) -> Prop
 | [],_,K=>K none
 | (y,v) :: r,i,K=>match sameK x y with
  | some b=>branch b (K (some (i,v))) (afind x r (i + 1) K)
  | none=>False
def AZero (P:Program) (t:TypeId) (z:V):Prop:=∃ i u,P.info? t = some i /\ i.zero = some u /\ ofVal u = z
def okV (ok:Bool) (v:V) (b:Bool):V:=match ok with | true=>.tup [v,.bool b] | false=>v
def aMakeMap (T:Nat -> TI) (t:TypeId) (H:List O) (K:V -> List O -> Prop):Prop :=
 match (T t).kind with
 | .map _ _=>copyH (H ++ [.map [] 0]) fun H' => K (.map H.length) H'
 | _=>False
def aLookup (P:Program) (T:Nat -> TI) (t:TypeId) (m k:V) (ok:Bool) (H:List O) (K:V -> List O -> Prop):Prop :=
 match (T t).kind with
 | .map kt et=>match keyFit (T kt).kind k with
  | true=>match m with
   | .map id=>match getO H id with
    | .map kvs _=>afind k kvs 0 fun r=>match r with
     | some (_,v)=>force v fun v=>K (okV ok v true) H
     | none=>∃ z,AZero P et z /\ K (okV ok z false) H
    | .pmap kvs _=>afind k kvs 0 fun r=>match r with
     | some (_,v)=>force v fun v=>K (okV ok v true) H
     | none=>∃ z,AZero P et z /\ K (okV ok z false) H
    | _=>False
   | .nilm=>∃ z,AZero P et z /\ K (okV ok z false) H
   | _=>False
  | false=>False
 | _=>False
def aMapUpd (T:Nat -> TI) (t:TypeId) (m k x:V) (H:List O) (K:V -> List O -> Prop):Prop :=
 match (T t).kind with
 | .map kt _=>match keyFit (T kt).kind k with
  | true=>match m with
   | .map id=>match getO H id with
    | .map kvs c=>afind k kvs 0 fun r=>match r with
     | some (i,_)=>copyH (setO H id (.map (kvs.set i (k,x)) c)) fun H' => K (.tup []) H'
     | none=>copyH (setO H id (.map (kvs ++ [(k,x)]) (c + 1))) fun H' => K (.tup []) H'
    | .pmap kvs c=>match k,pureV x with
     | .str s,true=>afind (.str s) kvs 0 fun r=>match r with
      | some (i,_)=>copyH (setO H id (.pmap (kvs.set i (.str s,x)) c)) fun H' => K (.tup []) H'
      | none=>copyH (setO H id (.pmap (kvs ++ [(.str s,x)]) (c + 1))) fun H' => K (.tup []) H'
     | _,_=>False
    | _=>False
   | _=>False
  | false=>False
 | _=>False
def aDelete (T:Nat -> TI) (t:TypeId) (m k:V) (H:List O) (K:V -> List O -> Prop):Prop :=
 match (T t).kind with
 | .map kt _=>match keyFit (T kt).kind k with
  | true=>match m with
   | .map id=>match getO H id with
    | .pmap kvs c=>afind k kvs 0 fun r=>match r with
     | some (i,_)=>copyH (setO H id (.pmap (kvs.eraseIdx i) c)) fun H' => K (.tup []) H'
     | none=>K (.tup []) H
    | _=>False
   | _=>False
  | false=>False
 | _=>False
def aMakeSl (T:Nat -> TI) (t:TypeId) (l c:V) (H:List O) (K:V -> List O -> Prop):Prop :=
 match (T t).kind with
 | .sl q=>match okElem (T q) with
  | true=>match l,c with
   | .int _ a,.int _ b=>(0 <= a /\ a <= b /\ b.toNat * (T q).bytes <= 70368744177664) /\ copyH (H ++ [.buf (List.replicate a.toNat (T q).zero)]) fun H' => K (.ms (T q).size H.length 0 a.toNat false) H'
   | _,_=>False
  | false=>False
 | _=>False
def msPart:List V -> Option Nat
 | []=>none
 | .ms _ id _ _ _ :: _=>some id
 | _ :: l=>msPart l
def abs0 (T:Nat -> TI) (t:TypeId) (len:Nat) (ps:List (Nat × Operand)) (e:Env) (H:List O) (K:V -> Env -> List O -> Prop):Prop :=
 match (T t).kind with
 | .sl q=>match okElem (T q) with
  | true=>match Nat.ble (len * (T q).size) 16777216 with
   | true=>fillS (T q).size (List.replicate len (T q).zero) (ps.map fun p=>(p.1,aeval e p.2)) fun es=>copyH (H ++ [.buf es]) fun H' => K (.ms (T q).size H.length 0 len true) e H'
   | false=>False
  | false=>False
 | _=>False
def absF (T:Nat -> TI) (t:TypeId) (len:Nat) (ps:List (Nat × Operand)) (K:V -> Env -> List O -> Prop):Nat -> Env -> List O -> Prop
 | 0,e,H=>abs0 T t len ps e H K
 | n + 1,e,H=>match msPart (ps.map fun p=>aeval e p.2) with
  | none=>abs0 T t len ps e H K
  | some id=>(frzOk (getO H id) = true /\ frzFit id (getO H id) [] e H) /\ absF T t len ps K n (frzE id (getO H id) e) (frzH id (getO H id) 0 H)
def ae (X:Ctx) (o:Op) (e:Env) (H:List O) (K:V -> Env -> List O -> Prop):Prop :=
 match o with
 | .alloc t=>match (X.T t).good with
  | true=>copyL (X.T t).zero fun z=>copyH (H ++ [.cells z]) fun H' => K (.ptr H.length 0) e H'
  | false=>False
 | .box _ x=>match cellsOf (aeval e x) with
  | some cs=>copyL cs fun cs=>copyH (H ++ [.cells cs]) fun H' => K (.ptr H.length 0) e H'
  | none=>False
 | .buildSlice t len parts=>match X.stab with
  | true=>abs0 X.T t len parts.toList e H K
  | false=>absF X.T t len parts.toList K parts.size e H
 | .store t a x=>match cellsOf (aeval e x),(X.T t).good with
  | some cs,true=>match Nat.beq cs.length (X.T t).size with
   | true=>match aeval e a with
    | .ptr id off=>match getO H id with
     | .cells old=>match Nat.ble (off + cs.length) old.length with
      | true=>copyL (old.take off ++ cs ++ old.drop (off + cs.length)) fun c=>copyH (setO H id (.cells c)) fun H' => K (.tup []) e H'
      | false=>False
     | _=>False
    | .ep id i j=>match getO H id,cs.all pureV with
     | .buf es,true=>∃ x,es[i]? = some x /\ match Nat.ble (j + cs.length) x.length with
      | true=>copyL (x.take j ++ cs ++ x.drop (j + cs.length)) fun c=>copyH (setO H id (.buf (es.set i c))) fun H' => K (.tup []) e H'
      | false=>False
     | _,_=>False
    | _=>False
   | false=>False
  | _,_=>False
 | .range t x=>match (X.T t).kind,aeval e x with
  | .str,.str s=>copyH (H ++ [.iter s 0]) fun H' => K (.ptr H.length 0) e H'
  | .map _ _,.map id=>match getO H id with
   | .pmap kvs _=>∀ B,copyH (setO H id .dead ++ [.miter B kvs none]) fun H' => K (.ptr H.length 0) e H'
   | _=>False
  | _,_=>False
 | .next x true=>match aeval e x with
  | .ptr id 0=>match getO H id with
   | .iter s pos=>(s.drop pos = [] -> K (.tup [.bool false]) e H) /\
    (∀ b r,s.drop pos = b :: r -> copyH (setO H id (.iter s (pos + (decL (b :: r)).2))) fun H' => K (.tup [.bool true,.int .i64 (Int.ofNat pos),.int .i32 (Int.ofNat (decL (b :: r)).1)]) e H')
   | _=>False
  | _=>False
 | .next x false=>match aeval e x with
  | .ptr id 0=>match getO H id with
   | .miter B left cur=>(left = [] -> K (.tup [.bool false]) e H) /\
    ∀ j kv,left[j]? = some kv -> copyH (setO H id (.miter B (left.eraseIdx j) (some kv))) fun H' => K (.tup [.bool true,kv.1,kv.2]) e H'
   | _=>False
  | _=>False
 | .entry x=>match aeval e x with
  | .ptr id 0=>match getO H id with
   | .miter B left cur=>match cur with
    | some kv=>K (.tup [kv.1,kv.2]) e H
    | none=>False
   | _=>False
  | _=>False
 | .call c=>match c.callee with
  | .value g=>match aeval e g with
   | .fn (.func f) as bs=>match memN f X.fns with
    | true=>acall X (some f) (as ++ (c.args.toList.map (aeval e) ++ bs)) e H K
    | false=>∃ r,AExt X.P f (as ++ (c.args.toList.map (aeval e) ++ bs)) H r /\ K r e H
   | .yld id=>acall X none (.yld id :: c.args.toList.map (aeval e)) e H K
   | _=>False
  | .builtin .append=>match c.args.toList,c.argTypes.toList with
   | [s,x],[t,t2]=>match (X.T t).kind with
    | .sl q=>match okElem (X.T q),(match (X.T t2).kind with | .sl _=>true | .str=>true | _=>false) with
     | true,true=>elemsV (X.T q).size (aevo e x) H fun ys=>aapp (X.T q).size (X.T q).bytes (aevo e s) (aevo e x) ys H fun v H' => K v e H'
     | true,false=>match (X.T t2).kind,aevo e x with
      | .int _,.int _ n=>aApp0 (X.T q).size (X.T q).bytes (X.T q).zero (aevo e s) n H fun v H' => K v e H'
      | _,_=>False
     | _,_=>False
    | _=>False
   | _,_=>False
  | .builtin .delete=>match c.args.toList,c.argTypes.toList with
   | [m,k],[t,_]=>aDelete X.T t (aevo e m) (aevo e k) H fun v H' => K v e H'
   | _,_=>False
  | .builtin .cap=>match c.args.toList,c.argTypes.toList with
   | [s],[t]=>aCap X.T t (aevo e s) H fun v H' => K v e H'
   | _,_=>False
  | .builtin .copy=>match c.args.toList,c.argTypes.toList with
   | [d,x],[t,_]=>aCopy X.T t (aevo e d) (aevo e x) H fun v H' => K v e H'
   | _,_=>False
  | .builtin .clear=>match c.args.toList,c.argTypes.toList with
   | [s],[t]=>match (X.T t).kind with
    | .sl q=>match okElem (X.T q) with
     | true=>match aevo e s with
      | .ms z id off len _=>match Nat.beq z (X.T q).size,getO H id with
       | true,.buf es=>(0 < len /\ off + len <= es.length) /\ copyH (setO H id (.buf (es.take off ++ List.replicate len (X.T q).zero ++ es.drop (off + len)))) fun H' => K (.tup []) e H'
       | _,_=>False
      | _=>False
     | false=>False
    | _=>False
   | _,_=>False
  | _=>False
 | .makeMap t none=>aMakeMap X.T t H fun v H' => K v e H'
 | .mapUpdate t m k x=>aMapUpd X.T t (aevo e m) (aevo e k) (aeval e x) H fun v H' => K v e H'
 | .insert t m k x=>aMapUpd X.T t (aevo e m) (aevo e k) (aeval e x) H fun v H' => K v e H'
 | .lookup t m k ok=>aLookup X.P X.T t (aevo e m) (aevo e k) ok H fun v H' => K v e H'
 | .makeSlice t l c=>aMakeSl X.T t (aevo e l) (aevo e c) H fun v H' => K v e H'
 | _=>False
def isEff:Op -> Bool
 | .alloc _ | .box _ _ | .buildSlice _ _ _ | .store _ _ _ | .range _ _ | .next _ _ | .entry _ | .makeSlice _ _ _ | .makeMap _ _ | .mapUpdate _ _ _ _ | .insert _ _ _ _ | .lookup _ _ _ _=>true
 | .call c=>match c.callee with
  | .value _=>true
  | .builtin .append=>true
  | .builtin .copy=>true
  | .builtin .clear=>true
  | .builtin .cap=>true
  | .builtin .delete=>true
  | _=>false
 | _=>false
def putE (n:Nat) (dst:Option Nat) (v:V) (e:Env) (K:Env -> Prop):Prop :=
 match dst with
 | none=>K e
 | some d=>match Nat.blt d n with
  | true=>K ((d,v) :: e)
  | false=>False
def isNilS:Operand -> Bool
 | .const (.slice none 0 0)=>true
 | _=>false
def nilEmp (T:Nat -> TI) (o:Op) (e:Env):Option BinOp :=
 match o with
 | .binOp op t x y _=>match isNilS y with
  | true=>match aevo e x with
   | .sl _ [] _=>match (T t).kind with
    | .sl _=>some op
    | _=>none
   | _=>none
  | false=>none
 | _=>none
def aop (X:Ctx) (o:Oper) (e:Env) (H:List O) (K:Env -> List O -> Prop):Prop :=
 match isEff o.op with
 | true=>ae X o.op e H fun v e' H' => putE X.n o.dst v e' fun e'' => K e'' H'
 | false=>match X.stab with
  | true=>aq X.T o.op e H fun v=>putE X.n o.dst v e fun e'' => K e'' H
  | false=>match nilEmp X.T o.op e with
   | some op=>aeqn op true (fun v=>putE X.n o.dst v e fun e'' => K e'' H) /\ aeqn op false (fun v=>putE X.n o.dst v e fun e'' => K e'' H)
   | none=>match o.op with
    | .slice t x lo hi mx=>qSlice X.T H t (aevo e x) (lo.map (aevo e)) (hi.map (aevo e)) (mx.map (aevo e)) fun v=>putE X.n o.dst v e fun e'' => K e'' H
    | _=>aq X.T o.op e H fun v=>putE X.n o.dst v e fun e'' => K e'' H
def aguard (X:Ctx) (ops:List Oper) (o:Oper) (e:Env) (H:List O) (K:Env -> List O -> Prop):Prop :=
 match o.guard with
 | none=>aop X o e H K
 | some (j,want)=>match (ops[j]?).bind (·.dst) with
  | some d=>match Env.get e d with
   | .bool b=>branch b
    (match want with | true=>aop X o ((d,.bool true) :: e) H K | false=>putE X.n o.dst (.tup []) ((d,.bool true) :: e) fun e' => K e' H)
    (match want with | false=>aop X o ((d,.bool false) :: e) H K | true=>putE X.n o.dst (.tup []) ((d,.bool false) :: e) fun e' => K e' H)
   | .tup []=>putE X.n o.dst (.tup []) e fun e' => K e' H
   | _=>False
  | none=>False
def aops (X:Ctx) (ops:List Oper) (K:Env -> List O -> Prop):List Oper -> Env -> List O -> Prop
 | [],e,H=>K e H
 | o :: rest,e,H=>aguard X ops o e H (aops X ops K rest)
def edgesOf (o:Oper):List Nat:=o.after.toList.filterMap fun ed=>match ed.ground with
 | .textOnly _=>none
 | .gcOnly _=>none
 | _=>some ed.on
def maskOf:List Nat -> List Nat -> Nat
 | [],_=>0
 | j :: r,D=>(2 ^ j ||| D.getD j 0) ||| maskOf r D
def clos:List Oper -> List Nat -> List Nat
 | [],D=>D
 | o :: r,D=>clos r (D ++ [maskOf (edgesOf o) D])
def loud (o:Oper):Bool :=
 match o.op with
 | .assign _=>true
 | op=>isEff op
def looksOf (ops:List Oper) (o:Oper):List Nat :=
 (o.op.operands.toList.filterMap fun x=>match x with | .tmp t=>some t | _=>none) ++
 (match o.guard with
  | some (g,_)=>((ops[g]?).bind (·.dst)).toList
  | none=>[])
def readyIn (done:Nat) (o:Oper):Bool:=(edgesOf o).all fun j=>Nat.testBit done j
def apart1 (ops:List Oper) (D:List Nat) (i:Nat) (oi:Oper) (j:Nat) (oj:Oper):Bool :=
 match oj.dst with
 | none=>true
 | some d=>match (looksOf ops oi).contains d || (match oi.dst with | some d' => Nat.beq d d' | none=>false) with
  | false=>true
  | true=>Nat.testBit (D.getD i 0) j || (loud oj && Nat.testBit (D.getD j 0) i)
def allApart (ops:List Oper) (D:List Nat) (L:List (Nat × Oper)):Bool :=
 L.all fun p=>L.all fun q=>Nat.beq p.1 q.1 || apart1 ops D p.1 p.2 q.1 q.2
def bankable (o:Oper):Bool :=
 match o.op,o.guard,o.dst with
 | .alloc _,none,some _=>true
 | .box _ _,none,some _=>true
 | .buildSlice _ _ _,none,some _=>true
 | _,_,_=>false
def bankAt (ops:List Oper) (j:Nat):Bool :=
 match ops[j]? with
 | some o=>bankable o
 | none=>false
def loudOk (ops:List Oper) (D:List Nat):List Nat -> Bool
 | []=>true
 | i :: r=>(match ops[i]? with
  | some o=>!loud o || r.all fun j=>Nat.testBit (D.getD j 0) i || bankAt ops j
  | none=>false) && loudOk ops D r
def sameDst (o o' : Oper):Bool :=
 match o.dst,o'.dst with
 | some d,some d' => Nat.beq d d'
 | _,_=>false
def looksDst (p q:Oper):Bool :=
 match q.dst with
 | some d=>p.op.operands.toList.any fun x=>match x with | .tmp t=>Nat.beq t d | _=>false
 | none=>false
def bankApart (D:List Nat) (L:List (Nat × Oper)):Bool :=
 (L.all fun p=>!(bankable p.2 && looksDst p.2 p.2)) && L.all fun p=>L.all fun q=>Nat.beq p.1 q.1 || !(bankable p.2 && (bankable q.2 && (sameDst p.2 q.2 || (looksDst p.2 q.2 && !Nat.testBit (D.getD p.1 0) q.1))))
def bankOk1 (T:Nat -> TI) (n:Nat) (o:Oper):Bool :=
 match o.op,o.dst with
 | .alloc t,some d=>(T t).good && Nat.blt d n
 | .box _ _,some d=>Nat.blt d n
 | .buildSlice t len _,some d=>(match (T t).kind with | .sl q=>okElem (T q) && Nat.ble (len * (T q).size) 16777216 | _=>false) && Nat.blt d n
 | _,_=>true
def bankOk (T:Nat -> TI) (n:Nat) (ops:List Oper):Bool:=ops.all (bankOk1 T n)
def bfits (T:Nat -> TI) (ops:List Oper) (D:List Nat) (i:Nat) (L:List Nat) (e:Env) (K:Prop):List Nat -> Prop
 | []=>K
 | j :: r=>match ops[j]? with
  | some o=>match o.op with
   | .buildSlice t len parts=>match Nat.testBit (D.getD j 0) i with
    | true=>bfits T ops D i L e K r
    | false=>match (edgesOf o).all (fun k=>!memN k L),(T t).kind with
     | true,.sl q=>fillS (T q).size (List.replicate len (T q).zero) (parts.toList.map fun p=>(p.1,aeval e p.2)) fun _=>bfits T ops D i L e K r
     | _,_=>False
   | _=>bfits T ops D i L e K r
  | none=>bfits T ops D i L e K r
def bfit (T:Nat -> TI) (ops:List Oper) (D:List Nat) (i:Nat) (o:Oper) (L:List Nat) (e:Env) (K:Prop):Prop :=
 match loud o with
 | false=>K
 | true=>bfits T ops D i (i :: L) e K L
def topoOk (ops:List Oper):Nat -> List Nat -> Bool
 | _,[]=>true
 | done,i :: r=>(match ops[i]? with
  | some o=>readyIn done o
  | none=>false) && (!Nat.testBit done i && topoOk ops (done ||| 2 ^ i) r)
def readsH:Op -> Bool
 | .load _ _=>true
 | .convert _ _ _=>true
 | _=>false
def drawOk (ops:List Oper) (L:List Nat):Bool :=
 let D:=clos ops []
 let I:=(List.range ops.length).zip ops
 (List.range ops.length).all (fun i=>L.contains i) && (topoOk ops 0 L && (loudOk ops D L && (allApart ops D I && ((ops.all fun o=>loud o || match o.dst with | none=>!readsH o.op | some d=>!(looksOf ops o).contains d) && (Nat.ble L.length ops.length && bankApart D I)))))
def recheck (X:Ctx) (ops:List Oper) (D:Nat) (e:Env) (H:List O) (K:Prop):List (Nat × Bool) -> Prop
 | []=>K
 | (i,ran) :: r=>match ran && !Nat.testBit D i with
  | false=>recheck X ops D e H K r
  | true=>match ops[i]? with
   | some o=>match readsH o.op,o.dst with
    | true,some d=>aq X.T o.op e H (fun v=>v = Env.get e d) /\ recheck X ops D e H K r
    | true,none=>False
    | false,_=>recheck X ops D e H K r
   | none=>False
def dop (X:Ctx) (ops:List Oper) (D:List Nat) (i:Nat) (o:Oper) (recs:List (Nat × Bool)) (e:Env) (H:List O) (K:Env -> List O -> Prop):Prop :=
 match loud o with
 | false=>aq X.T o.op e H fun v=>putE X.n o.dst v e fun e' => K e' H
 | true=>aop X o e H fun e' H' => recheck X ops (D.getD i 0) e' H' (K e' H') recs
def adgo (X:Ctx) (ops:List Oper) (D:List Nat) (K:Env -> List O -> Prop):List Nat -> List (Nat × Bool) -> Env -> List O -> Prop
 | [],_,e,H=>K e H
 | i :: L,recs,e,H=>match ops[i]? with
  | none=>False
  | some o=>bfit X.T ops D i o L e (match o.guard with
   | none=>dop X ops D i o recs e H (adgo X ops D K L ((i,true) :: recs))
   | some (j,want)=>match (ops[j]?).bind (·.dst) with
    | none=>False
    | some d=>match Env.get e d with
     | .bool b=>branch b
      (match want with
       | true=>dop X ops D i o recs ((d,.bool true) :: e) H (adgo X ops D K L ((i,true) :: recs))
       | false=>putE X.n o.dst (.tup []) ((d,.bool true) :: e) fun e' => adgo X ops D K L ((i,false) :: recs) e' H)
      (match want with
       | false=>dop X ops D i o recs ((d,.bool false) :: e) H (adgo X ops D K L ((i,true) :: recs))
       | true=>putE X.n o.dst (.tup []) ((d,.bool false) :: e) fun e' => adgo X ops D K L ((i,false) :: recs) e' H)
     | .tup []=>putE X.n o.dst (.tup []) e fun e' => adgo X ops D K L ((i,false) :: recs) e' H
     | _=>False)
def adraw (X:Ctx) (ops:List Oper) (K:Env -> List O -> Prop) (e:Env) (H:List O):Prop :=
 ∃ L,drawOk ops L = true /\ bankOk X.T X.n ops = true /\ adgo { X with stab:=true } ops (clos ops []) K L [] e H
def AEx.seq (K:Env -> List O -> Prop) (Q:AEx -> Env -> List O -> Prop):AEx -> Env -> List O -> Prop
 | .normal,e,H=>K e H
 | x,e,H=>Q x e H
def AEx.block (id:Nat) (Q:AEx -> Env -> List O -> Prop):AEx -> Env -> List O -> Prop
 | .exit i,e,H=>match Nat.beq i id with
  | true=>Q .normal e H
  | false=>Q (.exit i) e H
 | x,e,H=>Q x e H
inductive ANext (k n:Nat) (Inv:Nat -> List V -> List O -> Prop):List V -> List O -> Prop
 | go {vs:List V} {H:List O} (sel:List Nat) (hsel:selOk sel H.length k = true) (m:Nat) (hm:m < n) (h:Inv m (vs.map (renV (idx sel))) (gather (idx sel) H sel)):ANext k n Inv vs H
 | frz {vs:List V} {H:List O} (id:Nat) (hok:frzOk (getO H id) = true) (hfit:frzFit id (getO H id) vs [] H) (h:ANext k n Inv (frzL id (getO H id) vs) (frzH id (getO H id) 0 H)):ANext k n Inv vs H
 | sub {vs:List V} {H:List O} (vs' : List V) (H' : List O) (hv:VSubs vs vs') (hH:HSub H H') (h:ANext k n Inv vs' H'):ANext k n Inv vs H
 | adopt {vs:List V} {H:List O} (h:ANext k n Inv vs (H ++ [.buf []])):ANext k n Inv vs H
inductive AInto (k:Nat) (Inv:Nat -> List V -> List O -> Prop):List V -> List O -> Prop
 | at {vs:List V} {H:List O} (n:Nat) (h:Inv n vs H):AInto k Inv vs H
 | frz {vs:List V} {H:List O} (n:Nat) (h:ANext k n Inv vs H):AInto k Inv vs H
structure ALoop (k:Nat) (body:(AEx -> Env -> List O -> Prop) -> Env -> List O -> Prop) (Q:AEx -> Env -> List O -> Prop) (e:Env) (H:List O):Prop where
 out:∃ (ts:List Nat) (Inv:Nat -> List V -> List O -> Prop),AInto k Inv (ts.map (Env.get e)) H /\
  ∀ n vs H,Inv n vs H -> body (fun x e' H' => match x with
   | .normal=>ANext k n Inv (ts.map (Env.get e')) H'
   | x=>Q x e' H') (ts.zip vs) H
def afterL (n:Nat) (Q:AEx -> Env -> List O -> Prop) (e:Env) (H:List O):Prop :=
 match getO H n with
 | .loop _ .ready _=>copyH (setO H n .dead) fun H=>Q .normal e H
 | .loop _ (.exit i) _=>copyH (setO H n .dead) fun H=>Q (.exit i) e H
 | .loop _ .ret _=>copyH (setO H n .dead) fun H=>Q .ret e H
 | _=>False
def roundOk (r:Option Nat) (H:List O):Bool :=
 match r with
 | none=>true
 | some id=>match getO H id with
  | .loop _ _ _=>true
  | _=>false
def awp (X:Ctx):Code -> (AEx -> Env -> List O -> Prop) -> Env -> List O -> Prop
 | .skip,Q,e,H=>Q .normal e H
 | .region _ ops draw,Q,e,H=>match draw with
  | false=>aops X ops.toList (Q .normal) ops.toList e H
  | true=>adraw X ops.toList (Q .normal) e H
 | .seq a b,Q,e,H=>awp X a (AEx.seq (awp X b Q) Q) e H
 | .cond c a b,Q,e,H=>match aeval e c with
  | .bool t=>branch t (awp X a Q e H) (awp X b Q e H)
  | _=>False
 | .block id c,Q,e,H=>awp X c (AEx.block id Q) e H
 | .loop c,Q,e,H=>ALoop X.k (awp X c) Q e H
 | .exit id,Q,e,H=>Q (.exit id) e H
 | .ret,Q,e,H=>Q .ret e H
 | .label _,Q,e,H=>Q .normal e H
 | .scope c,Q,e,H=>awp X c Q e H
 | .rangeFunc g ps asg body,Q,e,H=>match aeval e g,roundOk X.round H with
  | .fn (.func f) as bs,true=>match memN f X.fns with
   | true=>∃ ts:List Nat,∀ c:LoopC,c = ⟨ps,asg,body,X.n⟩ -> ARange X f H.length (fun e' H' => afterL H.length Q e' H') (as ++ .yld H.length :: bs) e (H ++ [.loop c .ready (ts.zip (ts.map (Env.get e)))])
   | false=>False
  | _,_=>False
 | _,_,_,_=>False
inductive ARet (k:Nat) (Q:V -> List O -> Prop):V -> List O -> Prop
 | done {r:V} {H:List O} (sel:List Nat) (hsel:selOk sel H.length k = true) (h:Q (renV (idx sel) r) (gather (idx sel) H sel)):ARet k Q r H
 | frz {r:V} {H:List O} (id:Nat) (hok:frzOk (getO H id) = true) (hfit:frzFit id (getO H id) [r] [] H) (h:ARet k Q (frzV id (getO H id) r) (frzH id (getO H id) 0 H)):ARet k Q r H
 | sub {r:V} {H:List O} (r' : V) (H' : List O) (hv:VSub r r') (hH:HSub H H') (h:ARet k Q r' H'):ARet k Q r H
 | adopt {r:V} {H:List O} (h:ARet k Q r (H ++ [.buf []])):ARet k Q r H
def putArgs:List Nat -> List V -> Env -> Env
 | p :: ps,v :: vs,e=>putArgs ps vs ((p,v) :: e)
 | _,_,e=>e
def aroundEnd (k id:Nat) (Q:V -> List O -> Prop) (x:AEx) (H:List O):Prop :=
 match getO H id with
 | .loop c .busy e=>match x with
  | .normal=>copyH (setO H id (.loop c .ready e)) fun H=>ARet k Q (.bool true) H
  | .exit i=>copyH (setO H id (.loop c (.exit i) e)) fun H=>ARet k Q (.bool false) H
  | .ret=>copyH (setO H id (.loop c .ret e)) fun H=>ARet k Q (.bool false) H
 | _=>False
def around (X:Ctx) (k id:Nat) (vs:List V) (H:List O) (Q:V -> List O -> Prop):Prop :=
 match getO H id with
 | .loop c .ready e=>match Nat.beq vs.length c.ps.size && (c.ps.toList.all (fun p=>Nat.blt p c.n) && Nat.blt id k) with
  | true=>awp { X with n:=c.n,k:=k,stab:=false,round:=some id } c.asg (fun x e1 H1=>match x with
   | .normal=>match getO H1 id with
    | .loop c1 .ready e0=>copyH (setO H1 id (.loop c1 .busy e0)) fun H2=>awp { X with n:=c.n,k:=k,stab:=false,round:=some id } c.body (fun x e2 H2=>aroundEnd k id Q x H2) e1 H2
    | _=>False
   | _=>False) (putArgs c.ps.toList vs e) H
  | false=>False
 | _=>False
def ares (T:Nat -> TI) (e:Env) (H:List O):List ResultVar -> (List V -> Prop) -> Prop
 | [],K=>K []
 | .tmp t :: r,K=>force (Env.get e t) fun v=>ares T e H r fun l=>K (v :: l)
 | .cell a t :: r,K=>match Env.get e a with
  | .ptr id off=>match getO H id with
   | .cells cs=>loadV (T t) cs off fun v=>ares T e H r fun l=>K (v :: l)
   | _=>False
  | _=>False
def resV:List V -> V
 | [v]=>v
 | l=>.tup l
def args2env:Nat -> List V -> Env
 | _,[]=>[]
 | i,v :: l=>(i,v) :: args2env (i + 1) l
def abody (X:Ctx) (fn:Func) (c:Code) (args:List V) (H:List O) (Q:V -> List O -> Prop):Prop :=
 awp X c (fun x e H=>match x with
  | .exit _=>False
  | _=>ares X.T e H fn.results.toList fun l=>∃ sel,selOk sel H.length X.k = true /\ Q (renV (idx sel) (resV l)) (gather (idx sel) H sel)) (args2env 0 args) H
end Go.Proofs.YteiagdlfccbpcaaGreatDoorPg
