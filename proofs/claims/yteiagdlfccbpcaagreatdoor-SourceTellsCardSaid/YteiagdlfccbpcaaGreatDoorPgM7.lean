/- Own texts, laid together: PgB5, PgB6, PgB61, PgB42. -/
import Derived.Test.YteiagdlfccbpcaaGreatDoorPgM6
import Derived.RangeFuncCalls
set_option linter.unusedSectionVars false
set_option linter.unusedSimpArgs false
set_option linter.unusedVariables false
namespace Go.Proofs.YteiagdlfccbpcaaGreatDoorPg
open Go Go.RowKit
section
variable [Globs]
variable {P:Program} {T:Nat->TI} {I:aU} {ρ:List Pl} {H:List O} {w:World} {e:Env}
theorem gz (f:Nat->Option Nat):∀l,iP f l=l.map (aM f)
 | []=>by rw[iP]; rfl
 | v::l=>by rw[iP,gz f l]; rfl
theorem pl (f:Nat->Option Nat):∀l,u9 f l=l.map fun p=>(aM f p.1,aM f p.2)
 | []=>rfl
 | (a,b)::l=>by rw[u9,pl f l]; rfl
theorem lu (f:Nat->Option Nat):∀l,wD f l=l.map (gA f)
 | []=>rfl
 | v::l=>by rw[wD,lu f l]; rfl
theorem fY (f:Nat->Option Nat) (H:List O):∀is,aJ f H is=is.map fun i=>gA f (ar H i)
 | []=>rfl
 | i::is=>by rw[aJ,fY f H is]; rfl
theorem tf (f:Nat->Option Nat):∀(e:Env) (t:Nat),Env.get (zs f e) t=aM f (Env.get e t)
 | [],t=>by simp[zs,Env.get,aM]
 | (i,v)::e,t=>by
  simp only[zs,Env.get];cases Nat.beq i t
  . exact tf f e t
  . rfl
def oJ (f:Nat->Option Nat) (ρ ρ' : List Pl):Prop:=∀i j p,f i=some j->ρ[i]? = some p->ρ'[j]? = some p
theorem VRel.ren {f:Nat->Option Nat} {v:V} {u:Value} (h:VRel I ρ v u):∀ {ρ' : List Pl},oJ f ρ ρ'->VRel I ρ' (aM f v) u:=by
 induction h with
 | any=>intros; simp only[aM]; exact .any _ _
 | bool=>intros; simp only[aM]; exact .bool _ _
 | int=>intros; simp only[aM]; exact .int _ _ _
 | str=>intros; simp only[aM]; exact .str _ _
 | ptr ρ id off p h =>
  intro ρ' hf;simp only[aM];cases hi:f id with
  | none=>exact .any _ _
  | some j=>exact .ptr _ _ _ _ (hf _ _ _ hi h)
 | ep ρ id i j p h =>
  intro ρ' hf;simp only[aM];cases hi:f id with
  | none=>exact .any _ _
  | some j=>exact .ep _ _ _ _ _ (hf _ _ _ hi h)
 | ip ρ cs off b base g h1 h2 h3 ih=>intro ρ' hf; simp only[aM]; exact .ip _ _ _ _ _ g h1 h2 h3
 | nilp=>intros; simp only[aM]; exact .nilp _
 | sl ρ sz es full b base cap g h1 h2 h3 h4 h5 h6 ih=>intro ρ' hf; simp only[aM]; exact .sl _ _ _ _ _ _ _ g h1 h2 h3 h4 h5 h6
 | slnil=>intros; simp only[aM]; exact .slnil _ _ _ _
 | ms ρ id off len cap full p h1 h2 h3 h4 h5 =>
  intro ρ' hf;simp only[aM];cases hi:f id with
  | none=>exact .any _ _
  | some j=>exact .ms _ _ _ _ _ _ _ (hf _ _ _ hi h1) h2 h3 h4 h5
 | ms0 ρ sz id off full a =>
  intro ρ' hf;simp only[aM];cases hi:f id with
  | none=>exact .any _ _
  | some j=>exact .ms0 _ _ _ _ _ _
 | mr ρ id off len cap p h1 h2 h3 =>
  intro ρ' hf;simp only[aM];cases hi:f id with
  | none=>exact .any _ _
  | some j=>exact .mr _ _ _ _ _ _ (hf _ _ _ hi h1) h2 h3
 | mr0 ρ id off p a h1 h2 =>
  intro ρ' hf;simp only[aM];cases hi:f id with
  | none=>exact .any _ _
  | some j=>exact .mr0 _ _ _ _ _ (hf _ _ _ hi h1) h2
 | nils=>intros; simp only[aM]; exact .nils _
 | fn ρ g as bs us ws h1 h2 h3 h4 ih1 ih2 =>
  intro ρ' hf;simp only[aM,gz];refine .fn _ _ _ _ _ _ (by simpa using h1) (by simpa using h2) (fun i a u ha hu=>?_) (fun i a u ha hu=>?_)
  . rw[List.getElem?_map]at ha;cases hx:as[i]?<;>rw[hx]at ha<;>simp at ha
    subst ha;exact ih1 i _ u hx hu hf
  . rw[List.getElem?_map]at ha;cases hx:bs[i]?<;>rw[hx]at ha<;>simp at ha
    subst ha;exact ih2 i _ u hx hu hf
 | nilf=>intros; simp only[aM]; exact .nilf _
 | map ρ id p h =>
  intro ρ' hf;simp only[aM];cases hi:f id with
  | none=>exact .any _ _
  | some j=>exact .map _ _ _ (hf _ _ _ hi h)
 | nilm=>intros; simp only[aM]; exact .nilm _
 | agg ρ cs us h1 h2 h3 ih =>
  intro ρ' hf;simp only[aM,gz];refine .agg _ _ _ (by simpa using h1) h2 (fun i a u ha hu=>?_)
  rw[List.getElem?_map]at ha;cases hx:cs[i]?<;>rw[hx]at ha<;>simp at ha
  subst ha;exact ih i _ u hx hu hf
 | tup ρ cs us h1 h2 ih =>
  intro ρ' hf;simp only[aM,gz];refine .tup _ _ _ (by simpa using h1) (fun i a u ha hu=>?_)
  rw[List.getElem?_map]at ha;cases hx:cs[i]?<;>rw[hx]at ha<;>simp at ha
  subst ha;exact ih i _ u hx hu hf
 | iface ρ t v u h ih=>intro ρ' hf; simp only[aM]; exact .iface _ _ _ _ (ih hf)
 | nili=>intros; simp only[aM]; exact .nili _
 | glob=>intros; simp only[aM]; exact .glob _ _
 | im ρ v u h1 h2 ih=>intro ρ' hf; simp only[aM]; exact .im _ _ _ h1 h2
 | yld ρ id p h =>
  intro ρ' hf;simp only[aM];cases hi:f id with
  | none=>exact .any _ _
  | some j=>exact .yld _ _ _ (hf _ _ _ hi h)
 | raw ρ u h=>intro ρ' hf; simp only[aM]; exact .raw _ _ h
theorem VRels.ren {f:Nat->Option Nat} {ρ' : List Pl} (hf:oJ f ρ ρ') {as:List V} {us:List Value} (h:VRels I ρ as us):VRels I ρ' (iP f as) us:=by
 rw[gz];refine⟨by simpa using h.1,fun i a u ha hu=>?_⟩
 rw[List.getElem?_map]at ha;cases hx:as[i]?<;>rw[hx]at ha<;>simp at ha
 subst ha;exact(h.2 i _ u hx hu).ren hf
theorem ORel.ren {f:Nat->Option Nat} {ρ' : List Pl} (hf:oJ f ρ ρ') {p:Pl} {o:O} (h:ORel I ρ w p o):ORel I ρ' w p (gA f o):=by
 cases o with
 | cells cs =>
  obtain⟨h1,h2,h3,h4⟩:=h;have hl:(iP f cs).length=cs.length:=by rw[gz]; simp
  refine⟨h1,by rw[hl]; exact h2,by rw[hl]; exact h3,fun i v hv=>?_⟩
  rw[gz,List.getElem?_map]at hv;cases hx:cs[i]?<;>rw[hx]at hv<;>simp at hv
  subst hv;obtain⟨u,g1,g2,g3⟩:=h4 i _ hx;exact⟨u,g1,g2,g3.ren hf⟩
 | buf es=>exact h
 | bufc es=>exact h
 | iter s pos=>exact h
 | pmap kvs clock=>exact h
 | miter B left cur=>exact h
 | bag l=>exact h
 | map kvs clock =>
  obtain⟨es,h1,h2,h3⟩:=h;refine⟨es,h1,by rw[pl]; simpa using h2,fun i kv e hkv he=>?_⟩
  rw[pl,List.getElem?_map]at hkv;cases hx:kvs[i]?<;>rw[hx]at hkv<;>simp at hkv
  subst hkv;exact⟨(h3 i _ e hx he).1.ren hf,(h3 i _ e hx he).2.ren hf⟩
 | loop c st e =>
  obtain⟨r,h1,h2,h3,h4,h5,h6,h7,h8⟩:=h;exact⟨r,h1,h2,h3,h4,h5,h6,h7,fun t=>by rw[tf]; exact(h8 t).ren hf⟩
 | res R B=>exact h
 | dead=>trivial
theorem aZ (f:Nat->Option Nat) (p:Pl) (b:Nat) (o:O):(gA f o).owns p b ↔ o.owns p b:=by cases o<;>exact Iff.rfl
theorem fy:∀ {is:List Nat} {i j:Nat},bI is i=some j->is[j]? = some i
 | [],i,j,h=>by simp[bI]at h
 | x::is,i,j,h=>by
  unfold bI at h;cases hb:Nat.beq x i with
  | true=>simp only[hb]at h; cases h; simp[Nat.eq_of_beq_eq_true hb]
  | false =>
   simp only[hb]at h;cases hx:bI is i with
   | none=>simp only[hx]at h; cases h
   | some p=>simp only[hx]at h; cases h; simpa using fy hx
theorem nU:∀ {is:List Nat} {i:Nat},bI is i=none->i ∉ is
 | [],i,h=>by simp
 | x::is,i,h=>by
  unfold bI at h;cases hb:Nat.beq x i with
  | true=>simp only[hb]at h; cases h
  | false =>
   simp only[hb]at h;cases hx:bI is i with
   | some p=>simp only[hx]at h; cases h
   | none =>
    have:=nU hx;have hne:x≠i:=Nat.ne_of_beq_eq_false hb;simp[this]; exact fun h=>hne h.symm
theorem ij:∀ {is:List Nat},gJ is=true -> ∀ {i j:Nat},is[j]? = some i->bI is i=some j
 | [],_,i,j,h=>by simp at h
 | x::is,hn,i,j,h=>by
  simp only[gJ,Bool.and_eq_true,Option.isNone_iff_eq_none]at hn;unfold bI;cases j with
  | zero=>simp at h; subst h; rw[show Nat.beq x x=true from Nat.beq_refl x]
  | succ j =>
   simp at h;have hm:i∈is:=List.mem_of_getElem? h;have hne:x≠i:=fun e=>by subst e; exact nU hn.1 hm
   have hb:Nat.beq x i=false:=by
    cases hb:Nat.beq x i with
    | false=>rfl
    | true=>exact absurd (Nat.eq_of_beq_eq_true hb) hne
   rw[hb];simp only[ij hn.2 h]
theorem fv:∀ {is:List Nat} {n:Nat},kM is n=true -> ∀i∈is,i<n
 | [],n,_,i,hi=>by simp at hi
 | x::is,n,h,i,hi=>by
  simp only[kM,Bool.and_eq_true]at h;rcases List.mem_cons.1 hi with rfl | hi
  . exact aA h.1
  . exact fv h.2 i hi
theorem xY:∀ {is:List Nat} {n:Nat},pS is n=true -> ∀i∈is,n<=i
 | [],n,_,i,hi=>by simp at hi
 | x::is,n,h,i,hi=>by
  simp only[pS,Bool.and_eq_true]at h;rcases List.mem_cons.1 hi with rfl | hi
  . exact aA h.1
  . exact xY h.2 i hi
theorem sS:∀ {l:List Nat} {i:Nat},n8 i l=true->i∈l
 | [],i,h=>by simp[n8]at h
 | j::l,i,h=>by
  unfold n8 at h;cases hb:Nat.beq i j with
  | true=>simp[Nat.eq_of_beq_eq_true hb]
  | false=>simp only[hb]at h; simp[sS h]
theorem sU (is:List Nat) (n:Nat) (fo:Nat->Option Nat) (H' : List O):∀(H:List O) (i0 i:Nat),(dZ is n fo H' i0 H)[i]? =
 if i<H.length then(match bI is (i0+i)with
  | some j=>(match H'[j]? with | some o' => some (gA (mc is n) o') | none=>some .dead)
  | none=>(H[i]?).map (gA fo))else(H'[is.length+(i-H.length)]?).map (gA (mc is n))
 | [],i0,i=>by
  simp only[dZ,lu,List.length_nil,Nat.not_lt_zero,if_false,List.getElem?_map,List.getElem?_drop,Nat.sub_zero]
 | o::H,i0,0=>by
  simp only[dZ,List.getElem?_cons_zero,List.length_cons,Nat.zero_lt_succ,if_true,Nat.add_zero];cases bI is i0 with
  | none=>rfl
  | some j=>simp only; cases H'[j]?<;>rfl
 | o::H,i0,i+1=>by
  simp only[dZ,List.getElem?_cons_succ,List.length_cons];rw[sU is n fo H' H (i0+1) i];rw[show i0+1+i=i0+(i+1) by omega,show i+1-(H.length+1)=i-H.length by omega]
  by_cases h:i<H.length
  . rw[if_pos h,if_pos (by omega)]
  . rw[if_neg h,if_neg (by omega)]
theorem mw (is:List Nat) (n:Nat) (fo:Nat->Option Nat) (H' : List O):∀(H:List O) (i0:Nat),(dZ is n fo H' i0 H).length=H.length+(H'.length-is.length)
 | [],i0=>by simp[dZ,lu]
 | o::H,i0=>by simp only[dZ,List.length_cons,mw is n fo H' H (i0+1)]; omega
def eI (is:List Nat) (ρ ρ' : List Pl):List Pl :=
 (List.range (ρ.length+(ρ'.length-is.length))).map fun i =>
  if i < ρ.length then(match bI is i with
   | some j=>ρ'.getD j (ρ.getD i ⟨0,0,0,0⟩)
   | none=>ρ.getD i ⟨0,0,0,0⟩)else ρ'.getD (is.length+(i - ρ.length)) ⟨0,0,0,0⟩
theorem Bc (is:List Nat) (ρ ρ' : List Pl) (i:Nat) (hi:i < ρ.length+(ρ'.length-is.length)):(eI is ρ ρ')[i]? = some (if i < ρ.length then(match bI is i with
 | some j=>ρ'.getD j (ρ.getD i ⟨0,0,0,0⟩)
 | none=>ρ.getD i ⟨0,0,0,0⟩)else ρ'.getD (is.length+(i - ρ.length)) ⟨0,0,0,0⟩):=by
 simp[eI,hi]
def ci (is:List Nat) (ρ:List Pl):List Pl:=is.map fun i=>ρ.getD i ⟨0,0,0,0⟩
theorem fF {is:List Nat} (hl:∀i∈is,i < ρ.length) {j:Nat} {p:Pl}:(ci is ρ)[j]? = some p ↔ ∃i,is[j]? = some i/\ρ[i]? = some p:=by
 constructor
 . intro h;simp only[ci,List.getElem?_map,Option.map_eq_some_iff]at h;obtain⟨i,h1,h2⟩:=h;have:=hl i (List.mem_of_getElem? h1);refine⟨i,h1,?_⟩;rw[aS this];simpa [List.getD,aS this]using h2
 . rintro⟨i,h1,h2⟩;simp[ci,List.getElem?_map,h1,List.getD,h2]
theorem gather_get {f:Nat->Option Nat} {is:List Nat} {j:Nat} {o:O}:(aJ f H is)[j]? = some o ↔ ∃i,is[j]? = some i/\o=gA f (ar H i):=by
 rw[fY,List.getElem?_map];constructor
 . intro h;simp at h;obtain⟨i,h1,h2⟩:=h;exact⟨i,h1,h2.symm⟩
 . rintro⟨i,h1,rfl⟩; simp[h1]
theorem fx (hst:St I ρ H w) {is:List Nat} (hl:kM is H.length=true) (hn:gJ is=true) :
 St I (ci is ρ) (aJ (bI is) H is) w/\oJ (bI is) ρ (ci is ρ)/\(∀b,az (ci is ρ) (aJ (bI is) H is) b -> ∃i∈is,∃p o,ρ[i]? = some p/\H[i]? = some o/\o.owns p b):=by
 have hlt:∀i∈is,i < ρ.length:=fun i hi=>by rw[hst.len]; exact fv hl i hi
 have hfit:oJ (bI is) ρ (ci is ρ):=fun i j p hij hp=>(fF hlt).2 ⟨i,fy hij,hp⟩
 have own:∀(j:Nat) (p:Pl) (o:O),(ci is ρ)[j]? = some p->(aJ (bI is) H is)[j]? = some o -> ∃i o', is[j]? = some i/\ρ[i]? = some p/\H[i]? = some o'/\o=gA (bI is) o' := by
  intro j p o hp ho;obtain⟨i,h1,h2⟩:=(fF hlt).1 hp;obtain⟨i', h1', h3⟩:=gather_get.1 ho;rw[h1]at h1'; cases h1';have hi:i<H.length:=by rw[<-hst.len]; exact hlt i (List.mem_of_getElem? h1)
  exact⟨i,H[i],h1,h2,aS hi,by rw[h3]; simp[ar,List.getD,aS hi]⟩
 refine⟨⟨by simp[ci,fY],fun j p o hp ho=>?_,fun i j p q o r b0 hp ho hh hq hr hh' => ?_,hst.imm,fun b ⟨j,p,o,hp,ho,hh⟩=>?_⟩,hfit,fun b ⟨j,p,o,hp,ho,hh⟩=>?_⟩
 . obtain⟨i,o', h1,h2,h3,rfl⟩:=own j p o hp ho;exact(hst.obj i p o' h2 h3).ren hfit
 . obtain⟨a,o', h1,h2,h3,rfl⟩:=own i p o hp ho;obtain⟨b,r', g1,g2,g3,rfl⟩:=own j q r hq hr;have:=hst.inj a b p q o' r' b0 h2 h3 ((aZ _ _ _ _).1 hh) g2 g3 ((aZ _ _ _ _).1 hh');subst this;have e1:=ij hn h1;have e2:=ij hn g1;rw[e1]at e2;exact Option.some.inj e2
 . obtain⟨i,o', h1,h2,h3,rfl⟩:=own j p o hp ho;exact hst.sep b ⟨i,p,o', h2,h3,(aZ _ _ _ _).1 hh⟩
 . obtain⟨i,o', h1,h2,h3,rfl⟩:=own j p o hp ho;exact⟨i,List.mem_of_getElem? h1,p,o', h2,h3,(aZ _ _ _ _).1 hh⟩
theorem yG {l:List Nat} {i j:Nat} (h:o6 l i=some j):j=i/\i ∉ l:=by
 unfold o6 at h;cases hx:bI l i with
 | some p=>simp only[hx]at h; cases h
 | none=>simp only[hx]at h; cases h; exact⟨rfl,nU hx⟩
theorem A4 {is:List Nat} {k i j:Nat} (h:fQ is k i=some j):j=i/\i ∉ is.drop k:=by
 unfold fQ at h;cases hd:is.drop k with
 | nil=>rw[hd]at h; cases h; exact⟨rfl,by simp⟩
 | cons a l=>rw[hd]at h; exact yG h
theorem su (is:List Nat) (k:Nat) (e:Env) (t:Nat) {ρ' : List Pl} {I' : aU} {u:Value} (hf:oJ (fQ is k) ρ ρ') (hI:ILe I I') (h:VRel I ρ (Env.get e t) u) (hid:is.drop k = []->PLe ρ ρ'):VRel I' ρ' (Env.get (A3 is k e) t) u:=by
 unfold A3;cases hd:is.drop k with
 | nil=>exact h.mono hI (hid hd)
 | cons a l =>
  simp only;rw[tf];have:fQ is k=o6 (a::l):=by unfold fQ; rw[hd]
  rw[this]at hf;exact(h.mono hI (PLe.refl _)).ren hf
theorem oF (hst:St I ρ H w) {is:List Nat} (hl:kM is H.length=true) (hn:gJ is=true) {k k' : Nat} (hk' : k'<=is.length) (hge:pS (is.drop k') k=true) (hk:k<=ρ.length) {I' : aU} {ρ' : List Pl} {H' : List O} {w' : World}
 (hst' : St I' ρ' H' w') (hstep:Step k' I (ci is ρ) (aJ (bI is) H is) w I' ρ' H' w') :
 St I' (eI is ρ ρ') (dZ is H.length (fQ is k') H' 0 H) w'/\oJ (mc is H.length) ρ' (eI is ρ ρ')/\oJ (fQ is k') ρ (eI is ρ ρ')/\(is.drop k' = []->PLe ρ (eI is ρ ρ')) /\
 Step k I ρ H w I' (eI is ρ ρ') (dZ is H.length (fQ is k') H' 0 H) w' := by
 obtain⟨hc,hfit,hown⟩:=fx hst hl hn;have hlt:∀i∈is,i < ρ.length:=fun i hi=>by rw[hst.len]; exact fv hl i hi
 have hlen:ρ'.length=H'.length:=hst'.len;have hrl:ρ.length=H.length:=hst.len;have gP:∀i,i < ρ.length+(ρ'.length-is.length)->(eI is ρ ρ')[i]? = _:=fun i hi=>Bc is ρ ρ' i hi
 have stab:∀j i p,j<k'->is[j]? = some i->ρ[i]? = some p->ρ'[j]? = some p:=fun j i p hj hi hp=>by
  rw[hstep.take j hj]; exact(fF hlt).2 ⟨i,hi,hp⟩
 have hback:oJ (mc is H.length) ρ' (eI is ρ ρ'):=by
  intro j i p hji hp;have hjl:j < ρ'.length:=(liZ.1 hp).1;unfold mc at hji;cases hx:is[j]? with
  | some i' =>
   rw[hx]at hji; cases hji;have hi:i < ρ.length:=hlt i (List.mem_of_getElem? hx);rw[gP i (by omega),if_pos hi,ij hn hx]
   simp[List.getD,hp]
  | none =>
   rw[hx]at hji; cases hji;have:is.length<=j:=List.getElem?_eq_none_iff.1 hx;rw[<-hrl];rw[gP _ (by omega),if_neg (by omega)]
   rw[show is.length+(ρ.length+(j-is.length) - ρ.length)=j by omega]
   simp[List.getD,hp]
 have hfog:oJ (fQ is k') ρ (eI is ρ ρ'):=by
  intro i j p hij hp;obtain⟨e0,hni⟩:=A4 hij;rw[e0];have hi:i < ρ.length:=(liZ.1 hp).1;rw[gP i (by omega),if_pos hi]
  cases hx:bI is i with
  | none=>simp[List.getD,hp]
  | some j =>
   have hj:=fy hx;have hjk:j<k' := by
    rcases Nat.lt_or_ge j k' with h | h
    . exact h
    . exfalso; apply hni;have:(is.drop k')[j-k']? = some i:=by rw[List.getElem?_drop,show k'+(j-k')=j by omega]; exact hj
      exact List.mem_of_getElem? this
   simp only;have:=stab j i p hjk hj hp;simp[List.getD,this]
 have hple:is.drop k' = []->PLe ρ (eI is ρ ρ'):=fun hd i p hp=>hfog i i p (by unfold fQ; rw[hd]) hp
 have cls:∀(i:Nat) (p:Pl) (o:O),(eI is ρ ρ')[i]? = some p->(dZ is H.length (fQ is k') H' 0 H)[i]? = some o->o = .dead \/
  (i<H.length/\bI is i=none/\ρ[i]? = some p /\ ∃o', H[i]? = some o'/\o=gA (fQ is k') o') \/
  (∃j o', ρ'[j]? = some p/\H'[j]? = some o'/\o=gA (mc is H.length) o'/\(bI is i=some j/\i<H.length\/(H.length<=i/\j=is.length+(i-H.length)))):=by
  intro i p o hp ho;rw[sU]at ho;have hil:i < ρ.length+(ρ'.length-is.length):=by have:=(liZ.1 hp).1; simpa [eI]using this
  rw[gP i hil]at hp;by_cases hi:i<H.length
  . rw[if_pos hi,Nat.zero_add]at ho;rw[if_pos (by omega)]at hp
    cases hx:bI is i with
    | none =>
     simp only[hx]at ho hp;cases hp;refine .inr (.inl ⟨hi,rfl,?_,?_⟩)
     . rw[aS (by omega)]; simp[List.getD,aS (show i < ρ.length by omega)]
     . rw[aS hi]at ho ⊢;cases ho; exact⟨_,rfl,rfl⟩
    | some j =>
     simp only[hx]at ho hp;cases hj:H'[j]? with
     | none=>rw[hj]at ho; cases ho; exact .inl rfl
     | some o' =>
      rw[hj]at ho; cases ho;have hjl:j < ρ'.length:=by rw[hlen]; exact(liZ.1 hj).1
      cases hp;refine .inr (.inr ⟨j,o', ?_,hj,rfl,.inl ⟨rfl,hi⟩⟩);rw[aS hjl]; simp[List.getD,aS hjl]
  . rw[if_neg hi]at ho;rw[if_neg (by omega)]at hp
    cases hj:H'[is.length+(i-H.length)]? with
    | none=>rw[hj]at ho; cases ho
    | some o' =>
     rw[hj]at ho; cases ho;have hjl:is.length+(i-H.length) < ρ'.length:=by rw[hlen]; exact(liZ.1 hj).1
     cases hp;refine .inr (.inr ⟨_,o', ?_,hj,rfl,.inr ⟨by omega,rfl⟩⟩)
     rw[hrl];rw[aS hjl]; simp[List.getD,aS hjl]
 have notOwned:∀(i:Nat) (p:Pl) (o:O) (b:Nat),bI is i=none->ρ[i]? = some p->H[i]? = some o->o.owns p b -> ¬az (ci is ρ) (aJ (bI is) H is) b:=by
  intro i p o b hx hp ho hh hO;obtain⟨i', hi', p', o', h1,h2,h3⟩:=hown _ hO;have:=hst.inj i' i p' p o' o b h1 h2 h3 hp ho hh;subst this;exact nU hx hi'
 have notOwned' : ∀(i:Nat) (p:Pl) (o:O) (b:Nat),bI is i=none->ρ[i]? = some p->H[i]? = some o->o.owns p b -> ¬az ρ' H' b:=by
  intro i p o b hx hp ho hh hO;rcases hstep.own _ hO with h | h
  . exact notOwned i p o b hx hp ho hh h
  . have:=hst.lt ⟨i,p,o,hp,ho,hh⟩; omega
 have hSt:St I' (eI is ρ ρ') (dZ is H.length (fQ is k') H' 0 H) w' := by
  refine⟨by rw[mw]; simp[eI,hrl,hlen],fun i p o hp ho=>?_,fun i j p q o r b0 hp ho hh hq hr hh' => ?_,hst'.imm,fun b ⟨i,p,o,hp,ho,hh⟩ x=>?_⟩
  . rcases cls i p o hp ho with rfl | ⟨hi,hx,hp', o', ho', rfl⟩ | ⟨j,o', hp', ho', rfl,_⟩
    . trivial
    . refine((hst.obj i p o' hp' ho').keep (fun b hh=>?_) hstep.ile (PLe.refl _)).ren hfog
      exact hstep.frame _ (hst.lt ⟨i,p,o', hp', ho', hh⟩) (notOwned i p o' b hx hp' ho' hh)
    . exact(hst'.obj j p o' hp' ho').ren hback
  . rcases cls i p o hp ho with rfl | ⟨hi,hx,hp', o', ho', rfl⟩ | ⟨a,o', hp', ho', rfl,ha⟩
    . exact hh.1.elim
    . rcases cls j q r hq hr with rfl | ⟨hj,hy,hq', r', hr', rfl⟩ | ⟨c,r', hq', hr', rfl,hc'⟩
      . exact hh'.1.elim
      . exact hst.inj i j p q o' r' b0 hp' ho' ((aZ _ _ _ _).1 hh) hq' hr' ((aZ _ _ _ _).1 hh')
      . exact absurd ⟨c,q,r', hq', hr', (aZ _ _ _ _).1 hh'⟩ (notOwned' i p o' b0 hx hp' ho' ((aZ _ _ _ _).1 hh))
    . rcases cls j q r hq hr with rfl | ⟨hj,hy,hq', r', hr', rfl⟩ | ⟨c,r', hq', hr', rfl,hc'⟩
      . exact hh'.1.elim
      . exact absurd ⟨a,p,o', hp', ho', (aZ _ _ _ _).1 hh⟩ (notOwned' j q r' b0 hy hq' hr' ((aZ _ _ _ _).1 hh'))
      . have:=hst'.inj a c p q o' r' b0 hp' ho' ((aZ _ _ _ _).1 hh) hq' hr' ((aZ _ _ _ _).1 hh');subst this;rcases ha with⟨h1,h1'⟩ | ⟨h1,h1'⟩<;>rcases hc' with⟨h2,h2'⟩ | ⟨h2,h2'⟩
        . have e1:=fy h1;have e2:=fy h2;rw[e1]at e2; exact Option.some.inj e2
        . have e1:=(liZ.1 (fy h1)).1;omega
        . have e1:=(liZ.1 (fy h2)).1;omega
        . omega
  . rcases cls i p o hp ho with rfl | ⟨hi,hx,hp', o', ho', rfl⟩ | ⟨j,o', hp', ho', rfl,_⟩
    . exact hh.1.elim
    . have hh0:=(aZ _ _ _ _).1 hh;cases hv:I' b x with
      | none=>rfl
      | some v =>
       rcases hstep.imm _ _ _ hv with h | h | h
       . rw[hst.sep _ ⟨i,p,o', hp', ho', hh0⟩]at h; cases h
       . exact absurd h (notOwned i p o' b hx hp' ho' hh0)
       . have:=hst.lt ⟨i,p,o', hp', ho', hh0⟩; omega
    . exact hst'.sep b ⟨j,p,o', hp', ho', (aZ _ _ _ _).1 hh⟩ x
 have up:∀b,az (ci is ρ) (aJ (bI is) H is) b->az ρ H b:=fun b hO=>by
  obtain⟨i', hi', p', o', h1,h2,h3⟩:=hown _ hO;exact⟨i', p', o', h1,h2,h3⟩
 refine⟨hSt,hback,hfog,hple,hstep.ile,fun i hi=>?_,hstep.os,hstep.tape,hstep.output,hstep.size,fun b hb hn' => hstep.frame b hb (fun h=>hn' (up b h)),fun b ⟨i,p,o,hp,ho,hh⟩=>?_,fun b o v hv=>?_⟩
 . have hi' : i < ρ.length:=by omega
   rw[aS hi'];refine hfog i i _ ?_ (aS hi');unfold fQ;cases hd:is.drop k' with
   | nil=>rfl
   | cons a l =>
    simp only[o6];cases hx:bI (a::l) i with
    | none=>rfl
    | some j =>
     rw[hd]at hge;have:=xY hge i (List.mem_of_getElem? (fy hx));omega
 . rcases cls i p o hp ho with rfl | ⟨hi,hx,hp', o', ho', rfl⟩ | ⟨j,o', hp', ho', rfl,_⟩
   . exact hh.1.elim
   . exact .inl ⟨i,p,o', hp', ho', (aZ _ _ _ _).1 hh⟩
   . rcases hstep.own b ⟨j,p,o', hp', ho', (aZ _ _ _ _).1 hh⟩with h | h
     . exact .inl (up b h)
     . exact .inr h
 . rcases hstep.imm b o v hv with h | h | h
   . exact .inl h
   . exact .inr (.inl (up b h))
   . exact .inr (.inr h)
theorem l6 (hst:St I ρ H w) (k:Nat) (hk:k<=ρ.length) {id:Nat} {p:Pl} {o o' : O} (hp:ρ[id]? = some p) (ho:H[id]? = some o) (hh:o.has p) (hh' : o'.has p) {w' : World} (hoth:∀b,b≠p.b->w'.heap[b]? = w.heap[b]?)
 (m1:w'.os=w.os) (m2:w'.tape=w.tape) (m3:w'.output=w.output) (m4:w'.heap.size=w.heap.size) (horel:ORel I ρ w' p o') :
 St I ρ (H.set id o') w'/\Step k I ρ H w I ρ (H.set id o') w' := by
 have hlt:=(liZ.1 ho).1;have e2:(H.set id o')[id]? = some o' := by rw[List.getElem?_set_self hlt]
 have e3:∀(i:Nat) (x:O),i≠id->(H.set id o')[i]? = some x->x = .dead\/H[i]? = some x:=fun i x hi hx=>.inr (by rwa [List.getElem?_set_ne (by omega)]at hx)
 have hown:az ρ H p.b:=⟨id,p,o,hp,ho,hh.owns⟩;exact⟨hst.one id p o' (by simp[hst.len]) (PLe.refl _) hp e2 e3 (fun _ _ _ h=>h) (fun b _ hb=>hoth b hb) (fun hn=>absurd hh' hn) (fun _ i q x hi hq hx hhx=>by
  rcases e3 i x hi hx with rfl | hx'
  . exact hhx.1
  . exact hi (hst.inj i id q p x o p.b hq hx' hhx hp ho hh.owns)) (fun _=>hst.sep _ hown) horel (hh'.one),
  Step.one id p o' k hk (PLe.refl _) hp e2 e3 (fun _ _ _ h=>h) (fun b _ hb=>hoth b hb) (fun hn=>absurd hh' hn) (fun _=>.inl hown) m1 m2 m3 (by rw[m4]; exact Nat.le_refl _) (hh'.one)⟩
theorem GQ (s:ByteArray) (i k:Nat):s.get! (i+k)=(s.data.toList.drop i).getD k 0:=by
 unfold ByteArray.get!;rw[List.getD_eq_getElem?_getD,List.getElem?_drop,Array.getElem?_toList];show s.data.getD (i+k) default=_
 rw[Array.getD_eq_getD_getElem?];rfl
theorem EB (s:ByteArray) (i:Nat):Utf8.decode s i=gH (s.data.toList.drop i):=by
 unfold Utf8.decode gH;have h1:∀k,decide (i+k<s.size)=decide (k<(s.data.toList.drop i).length):=fun k=>by
  have:s.size=s.data.toList.length:=by rw[Array.length_toList]; rfl
  rw[List.length_drop,this];congr 1
  apply propext;omega
 simp only[GQ,h1]
theorem Jl {k:Nat} {o:Oper} {x:Operand} (ho:o.op = .next x true) {K:V->Env->List O->Prop} {id pos:Nat} {s:List UInt8} (hx:am e x = .ptr id 0) (hob:ar H id = .iter s pos)
 (h0:s.drop pos = []->K (.tup [.bool false]) e H)
 (h1:∀b r,s.drop pos=b::r->K (.tup [.bool true,.int .i64 (Int.ofNat pos),.int .i32 (Int.ofNat (gH (b::r)).1)]) e (H.set id (.iter s (pos+(gH (b::r)).2)))):ESem P k o e H K:=by
 refine aH (by simp[ho]) fun I ρ w a hst he hk=>?_
 have hrx:=aE he x;rw[hx]at hrx;obtain⟨p,hp,hu⟩:=iV hrx;have hH:=ax hob (by simp)
 obtain⟨hb0,ba,hba,hblk⟩:=hst.obj id p _ hp hH;rw[hb0]at hu;have hlen:ba.size=s.length:=by rw[<-hba,Array.length_toList]; rfl
 have hget:(getObj p.b).run P w = .ok (.stringIter ba pos) w:=by simp[getObj,Sem.run,hblk]
 cases hd:s.drop pos with
 | nil =>
  have hle:s.length<=pos:=List.drop_eq_nil_iff.1 hd;refine⟨.tuple #[.bool false],_,I,ρ,e,H,w,.inl ?_,h0 hd,hst,.tup _ _ _ rfl (fun i a u ha hu=>?_),he,Step.refl _ _ _ _ _⟩
  . have:¬pos<ba.size:=by omega
    simp[execOp,ho,Instr.next,hu,hget,this]
  . cases i with
    | zero=>simp at ha hu; subst ha; subst hu; exact .bool _ _
    | succ i=>simp at ha
 | cons b r =>
  have hlt:pos<ba.size:=by
   rcases Nat.lt_or_ge pos s.length with h | h
   . omega
   . rw[List.drop_eq_nil_iff.2 h]at hd; cases hd
  have hdec:Utf8.decode ba pos=gH (b::r):=by rw[EB,hba,hd]
  let w' : World:={ w with heap:=w.heap.setIfInBounds p.b (.stringIter ba (pos+(gH (b::r)).2)) }
  have hset:(setObj p.b (.stringIter ba (pos+(gH (b::r)).2))).run P w = .ok () w' := by simp[setObj,Sem.run,hblk,w']
  have hbl:p.b<w.heap.size:=(Array.getElem?_eq_some_iff.1 hblk).1;have hnew:w'.heap[p.b]? = some (.stringIter ba (pos+(gH (b::r)).2)):=by simp[w', hbl]
  obtain⟨s1,s2⟩:=l6 hst k hk hp hH (o' := .iter s (pos+(gH (b::r)).2)) trivial trivial (w' := w') (fun b' hb' => by simp[w', Array.getElem?_setIfInBounds_ne (Ne.symm hb')]) rfl rfl rfl (by simp[w']) ⟨hb0,ba,hba,hnew⟩
  refine⟨.tuple #[.bool true,goInt pos,.int .i32 (gH (b::r)).1],_,I,ρ,e,_,w', .inl ?_,h1 b r hd,s1,.tup _ _ _ rfl (fun i a u ha hu=>?_),he,s2⟩
  . simp[execOp,ho,Instr.next,hu,hget,hlt,hdec,hset]
  . match i,ha,hu with
    | 0,ha,hu=>simp at ha hu; subst ha; subst hu; exact .bool _ _
    | 1,ha,hu=>simp at ha hu; subst ha; subst hu; exact .int _ _ _
    | 2,ha,hu=>simp at ha hu; subst ha; subst hu; exact .int _ _ _
    | i+3,ha,hu=>simp at ha
theorem KD {k:Nat} {o:Oper} {c:Call} (ho:o.op = .call c) {g:Operand} (hc:c.callee = .value g) {f:FuncId} {as bs:List V} (hg:am e g = .fn (.func f) as bs) {K:V->Env->List O->Prop} {r:V}
 (hx:GA P f (as++(c.args.toList.map (am e)++bs)) H r) (h:K r e H):ESem P k o e H K:=by
 refine aH (by simp[ho]) fun I ρ w a hst he hk=>?_
 have hrg:=aE he g;rw[hg]at hrg;obtain⟨us,ws,eg,hus,hws⟩:=zU hrg;have hargs:VRels I ρ (as++(c.args.toList.map (am e)++bs)) (us++c.args.map a.eval++ws).toList:=by
  have:=hus.append ((iO (aE he) c.args.toList).append hws);simpa [List.append_assoc]using this
 obtain⟨u,hrun,hr⟩:=hx.out I ρ w _ hst hargs;refine⟨u,r,I,ρ,e,H,w,.inl ?_,h,hst,hr,he,Step.refl _ _ _ _ _⟩;obtain⟨callee,args,argTypes⟩:=c;simp only at hc;subst hc;simp[execOp,ho,resolve,eg,Deferred.ofValue,invoke];simpa using hrun
theorem Bs {t ty q:TypeId} {i:TypeInfo} {z:Value} (hu:P.underlying t=some (.slice q)) (hi:P.info? q=some i) (hz:i.zero=some z) {b o n c:Nat} (hn:0<n)
 (hc:∀j,j<n*z.cells.size->(w.cell? ⟨b,o+j,none⟩).isSome=true) (hf:∀j,j<n*z.cells.size->w.frozen? ⟨b,o+j,none⟩=false) (h1:∀v∈(ag z.cells (n*z.cells.size)).toList,v.oneCell'=true) :
 (Builtin.clear_ #[t] ty #[.slice (some ⟨b,o,none⟩) n c]).run P w = .ok (.tuple #[]) (w.setCells b o (ag z.cells (n*z.cells.size)).toList):=by
 have hl:(ag z.cells (n*z.cells.size)).toList.length=n*z.cells.size:=by simp[ag]
 have hst:=run_storeCells_cells (P:=P) b o (ag z.cells (n*z.cells.size)).toList 0 w (by rw[hl]; simpa using hc) (by rw[hl]; simpa using hf) h1
 simp only[Nat.add_zero]at hst;obtain⟨m,rfl⟩:∃m,n=m+1:=⟨n-1,by omega⟩
 have hzc:Builtin.zeroCells z.cells (m+1)=ag z.cells ((m+1)*z.cells.size):=rfl;have hzv:(zeroValue q).run P w = .ok z w:=by
  simp[zeroValue,typeInfo,run_program,hi,hz]
 simp[Builtin.clear_,af hu,hzv,hzc,hst]
theorem G7 (hT:bH P T) {k:Nat} {o:Oper} {c:Call} (ho:o.op = .call c) (hc:c.callee = .builtin .clear) {K:V->Env->List O->Prop} {s:Operand} (ha:c.args.toList = [s]) {t:TypeId} (hat:c.argTypes.toList = [t])
 {q:TypeId} (hk' : (T t).kind = .sl q) (hq:eJ (T q)=true) {id off len:Nat} {full:Bool} {es:List (List V)} (hs:ao e s = .ms (T q).size id off len full) (hg:ar H id = .buf es) (hpos:0<len) (hin:off+len<=es.length)
 (h:K (.tup []) e (H.set id (.buf (es.take off++List.replicate len (T q).zero++es.drop (off+len))))):ESem P k o e H K:=by
 obtain⟨i,z,g1,g2,g3,g4,g5,g6,g7,g8,hgd⟩:=dB hT hq;obtain⟨i', z', d,f1,f2,f3,f4,f5⟩:=bS hT hgd;rw[g1]at f1; cases f1;rw[g2]at f2; cases f2;have hzero:(T q).zero=z.cells.toList.map cV:=by rw[f4]
 have hlz:(T q).zero.length=(T q).size:=by rw[hzero,g3]; simp[g8]
 have hu:=dv hT hk';refine aH (by simp[ho]) fun I ρ w a hst he hkk=>?_
 have hrs:=aI he s;rw[hs]at hrs;have hH:H[id]? = some (.buf es):=ax hg (by simp)
 generalize hau:a.eval s=u at hrs;generalize hsz:(T q).size=sz at hrs;cases hrs with
 | ms0=>omega
 | ms _ _ _ _ cap _ p hp m1 m2 m3 m4 =>
 have hpsz:p.sz=i.size:=by rw[<-hsz,g3]
 rcases hst.obj id p _ hp hH with⟨h0,_⟩ | ⟨o1,o2,o3⟩
 . subst h0; simp at hin; omega
 have htot:p.tot≠0:=by omega
 have hnl:(ag z.cells (len*z.cells.size)).toList.length=len*p.sz:=by simp[ag,g8,hpsz]
 have hmul:p.base+off*p.sz+(ag z.cells (len*z.cells.size)).toList.length<=p.base+p.tot*p.sz:=by
  rw[hnl,Nat.add_assoc,<-Nat.add_mul];have:=Nat.mul_le_mul_right p.sz (show off+len<=p.tot by omega)
  omega
 have hflat:VRels I [] (List.replicate len (T q).zero).flatten (ag z.cells (len*z.cells.size)).toList:=by
  refine⟨by rw[bt (c9 hlz len),g3]; simp[ag,g8],fun j x u hx hu=>?_⟩
  have hjl:j<len*z.cells.size:=by
   have:=(liZ.1 hu).1;simpa [ag]using this
  have hz0:=ce hjl;have hu' : (ag z.cells (len*z.cells.size))[j]? = some u:=by simpa using hu
  rw[hz0.1]at hu';obtain⟨y,h1,h2,h3,h4⟩:=gu (c9 hlz len) hx;have hy:y=(T q).zero:=(List.mem_replicate.1 (List.mem_of_getElem? h1)).2;subst hy;rw[g3,<-g8]at h2;exact(cA z.cells).2 (j % z.cells.size) x u (by rw[<-hzero]; exact h2) (by simpa using hu')
 have hone:∀v∈(ag z.cells (len*z.cells.size)).toList,v.oneCell'=true:=by
  intro u hu;obtain⟨j,hj⟩:=List.getElem?_of_mem hu;have hjl:j<len*z.cells.size:=by
   have:=(liZ.1 hj).1;simpa [ag]using this
  have hz0:=ce hjl;have hu' : (ag z.cells (len*z.cells.size))[j]? = some u:=by simpa using hj
  rw[hz0.1]at hu';exact cN f5 _ u hu'
 have hrun:=Bs (ty:=o.type) (c:=cap) hu g1 g2 (b:=p.b) (o:=p.base+off*p.sz) hpos (w:=w) (fun j hj=>o2.cell (by rw[hnl]at hmul; rw[g8,<-hpsz]at hj; omega)) (fun j hj=>by
  obtain⟨c', t', fr,c1,c2,c3⟩:=o2;exact c3 _ (by omega)) hone
 have hys:(List.replicate len (T q).zero).length=len:=by simp
 have hl' : (es.take off++List.replicate len (T q).zero++es.drop (off+len)).length=es.length:=by simp; omega
 have horel:ORel I ρ (w.setCells p.b (p.base+off*p.sz) (ag z.cells (len*z.cells.size)).toList) p (.buf (es.take off++List.replicate len (T q).zero++es.drop (off+len))):=by
  refine .inr ⟨by rw[hl']; exact o1,o2.setCells _ _,fun j y hy=>?_⟩
  have hy' : (es.take off++List.replicate len (T q).zero++es.drop (off+(List.replicate len (T q).zero).length))[j]? = some y:=by rw[hys]; exact hy
  rcases m6 (by rw[hys]; exact hin) hy' with⟨h1,h2⟩ | ⟨h1,h2,h3⟩ | ⟨h1,h2⟩
  . obtain⟨c1,c2⟩:=o3 j y h2;refine⟨c1,c2.apart _ (.inl ?_)⟩;have:=Nat.mul_le_mul_right p.sz (show j+1<=off by omega)
    rw[Nat.add_mul]at this;rw[c1]; omega
  . have hyl:=c9 hlz len y (List.mem_of_getElem? h3);refine⟨by rw[hyl,g3,hpsz],?_⟩
    refine CellsAt.written o2 hmul hone (d:=(j-off)*p.sz) ?_ (fun j' v hv=>?_)
    . rw[Nat.add_assoc,<-Nat.add_mul];congr 2; omega
    . have hf:=iF (c9 hlz len) h3 hv;rw[g3,<-hpsz]at hf;have hlt:=(liZ.1 hf).1;rw[hflat.1]at hlt;exact⟨_,aS hlt,hflat.2 _ v _ hf (aS hlt)⟩
  . obtain⟨c1,c2⟩:=o3 j y h2;refine⟨c1,c2.apart _ (.inr ?_)⟩;rw[hys]at h1;rw[hnl,Nat.add_assoc,<-Nat.add_mul];have:=Nat.mul_le_mul_right p.sz h1;omega
 obtain⟨s1,s2⟩:=lH hst k hkk hp hH htot (o' := .buf (es.take off++List.replicate len (T q).zero++es.drop (off+len))) htot horel;refine⟨.tuple #[],.tup [],I,ρ,e,_,_,.inl ?_,h,s1,.tup _ _ _ rfl (fun i a u hx=>by simp at hx),he,s2⟩
 obtain⟨callee,args,argTypes⟩:=c;obtain⟨args⟩:=args;obtain⟨argTypes⟩:=argTypes;simp only at hc ha hat;subst hc; subst ha; subst hat;simp[execOp,ho,resolve,invoke,builtin,hau,hrun]
end
end Go.Proofs.YteiagdlfccbpcaaGreatDoorPg
