/- Own texts, laid together: Pg10ZDNames, Pg10ZDSch, Pg10ZDSchB, Pg10ZDSchC, Pg10ZDSchD, Pg10ZDSchE, Pg10ZDSchF, Pg10ZDSchG, Pg10ZDSchH, Pg10ZDSchI, Pg10ZDSchJ, Pg10ZDEv1, Pg10ZDEv2, Pg10ZDEv3, Pg10ZDEv4, Pg10ZDEv5, Pg10ZDEv6, Pg10ZDEvIn, Pg10ZDEv7, Pg10ZDEv8, Pg10ZDValC, Pg10ZDValD, Pg10ZDValE. -/
import Derived.Test.YteiagdlfccbpcaaGreatDoorPgM17
import Derived.Lib.Bytealg
import Derived.Laws.BitsLemmas
import Derived.Test.YteiagdlfccbpcaaGreatDoorPgM11
import Derived.Test.YteiagdlfccbpcaaGreatDoorPgM12
set_option linter.unusedSimpArgs false
set_option linter.unusedVariables false
set_option maxHeartbeats 64000000
namespace Go.Proofs.YteiagdlfccbpcaaGreatDoorPg
open Go Go.RowKit
section
variable {Q:V->List O->Prop}
theorem rg {H:List O} (s:List UInt8) (c:Int):GA Tryz.prog 202 [.str s,.int .u8 c] H (.int .i64 (Lib.indexByte s c.toNat.toUInt8)):=⟨fun I ρ w us _ h=>by
 obtain⟨u0,l0,e0,h0,h⟩:=h.cons_inv;obtain⟨u1,l1,e1,h1,h⟩:=h.cons_inv;have e2:l1 = []:=List.eq_nil_of_length_eq_zero h.1.symm;obtain⟨b,hb,rfl⟩:=eM h0;have:=bN h1;subst this;have eu:us = #[Value.string b,Value.int .u8 c]:=by
  apply Array.ext';rw[e0,e1,e2]
 subst eu;refine⟨_,?_,.int _ _ _⟩;rw[run_callFunc_extern Tryz.func202 (by kernel_rfl) (by kernel_rfl) (by kernel_rfl) (e:=Extern.BytealgIndexByte.indexByte) (by kernel_rfl),Lib.run_indexByteString,hb]
 rfl⟩
theorem kL {s:List UInt8} {c:Int} (h:Q (.int .i64 (Lib.indexByte s c.toNat.toUInt8)) []):ACall Tryz.prog 200 0 [.str s,.int .u8 c] [] Q:=by
 refine ad Tryz.func200 0 rfl (aA rfl) ?_
 conv=>whnf
 refine⟨_,rg s c,?_⟩
 conv=>whnf
 exact⟨[],rfl,h⟩
theorem kZ {s:List UInt8} {c:Int} (h:Q (.int .i64 (Lib.indexByte s c.toNat.toUInt8)) []):ACall Tryz.prog 192 0 [.str s,.int .u8 c] [] Q:=by
 refine ad Tryz.func192 0 rfl (aA rfl) ?_
 conv=>whnf
 refine .call [] 0 ⟨rfl,rfl,rfl⟩ (kL ?_)
 conv=>whnf
 exact⟨[],rfl,h⟩
theorem rz {r:Int} (h:∀b,Utf8.valid r=b->Q (.bool b) []):ACall Tryz.prog 193 0 [.int .i32 r] [] Q:=by
 refine ad Tryz.func193 0 rfl (aA rfl) ?_
 conv=>whnf
 refine ac (fun c=>?_) (fun c=>?_)<;>try rw[c]<;>conv=>whnf
 all_goals try (refine ac (fun c=>?_) (fun c=>?_)<;>try rw[c]<;>conv=>whnf)
 all_goals try (refine ac (fun c=>?_) (fun c=>?_)<;>try rw[c]<;>conv=>whnf)
 all_goals try (refine ac (fun c=>?_) (fun c=>?_)<;>try rw[c]<;>conv=>whnf)
 all_goals simp only[decide_eq_true_eq,decide_eq_false_iff_not]at *
 all_goals first
  | exact⟨[],rfl,h true (by simp[Utf8.valid]; omega)⟩
  | exact⟨[],rfl,h false (by simp[Utf8.valid]; omega)⟩
theorem vF {s:List UInt8} {b:UInt8} (hs:s.length≠1) (h:Q (.int .i64 (Lib.indexByte s b)) []):ACall Tryz.prog 196 0 [.str s,.str [b]] [] Q:=by
 refine ad Tryz.func196 0 rfl (aA rfl) ?_
 conv=>whnf
 refine ac (fun c=>?_) (fun c=>?_)<;>try rw[c]<;>conv=>whnf
 . exfalso;simp at c;rw[<-c]at hs;simp at hs
 . refine⟨b,⟨by decide,rfl⟩,?_⟩
   conv=>whnf
   refine .call [] 0 ⟨rfl,rfl,rfl⟩ (kL ?_)
   conv=>whnf
   exact⟨[],rfl,by rw[show((b.toNat:Int).toNat.toUInt8)=b by simp]; exact h⟩
theorem CO {s:List UInt8} {b:UInt8} (hs:s.length≠1) (h:Q (.int .i64 (Lib.indexByte s b)) []):ACall Tryz.prog 184 0 [.str s,.str [b]] [] Q:=by
 refine ad Tryz.func184 0 rfl (aA rfl) ?_
 conv=>whnf
 refine .call [] 0 ⟨rfl,rfl,rfl⟩ (vF hs ?_)
 conv=>whnf
 exact⟨[],rfl,h⟩
theorem vm {s:List UInt8} {b:UInt8} (hs:s.length≠1) (h:Q (.bool (decide (0<=Lib.indexByte s b))) []):ACall Tryz.prog 164 0 [.str s,.str [b]] [] Q:=by
 refine ad Tryz.func164 0 rfl (aA rfl) ?_
 conv=>whnf
 refine .call [] 0 ⟨rfl,rfl,rfl⟩ (CO hs ?_)
 conv=>whnf
 exact⟨[],rfl,h⟩
theorem iJ:∀(s:List UInt8) (c:UInt8),(∀b∈s,b≠c)->Lib.indexByte s c = -1
 | [],c,_=>rfl
 | b::l,c,h=>by
  unfold Lib.indexByte;have:(b == c)=false:=by simpa using h b (by simp)
  rw[this,iJ l c fun x hx=>h x (by simp[hx])]
  rfl
theorem mN {b:UInt8} {r:List UInt8} (h:b.toNat<128):gH (b::r)=(b.toNat,1):=by
 simp[gH,h]
theorem sh {α:Type} {s:List α} {pos:Nat} {b:α} {l:List α} (h:s.drop pos=b::l):b∈s/\pos<s.length/\s.drop (pos+1)=l/\s=s.take pos++b::l:=by
 have hb:b∈s.drop pos:=by rw[h]; simp
 refine⟨List.mem_of_mem_drop hb,?_,?_,?_⟩
 . rcases Nat.lt_or_ge pos s.length with h' | h'
   . exact h'
   . rw[List.drop_eq_nil_iff.2 h']at h; cases h
 . rw[<-List.drop_drop,h]; rfl
 . rw[<-h,List.take_append_drop]
theorem DC {r:Int} (hv:Utf8.valid r=true) (h:¬(0<=r/\r<128)):∃c,(Utf8.encode r).data.toList[(Utf8.encode r).data.toList.length-1]? = some c/\128<=c.toNat/\2<=(Utf8.encode r).data.toList.length/\(Utf8.encode r).data.toList.length<=4:=by
 have h0:0<=r:=by simp[Utf8.valid]at hv; omega
 obtain⟨g1,g2,g3⟩:=encode_facts r hv (by omega)
 generalize Utf8.encode r=ba at *;have hsz:ba.data.toList.length=ba.size:=by rw[Array.length_toList]; rfl
 have hlt:ba.size-1<ba.size:=by omega
 refine⟨ba[ba.size-1],?_,g3 hlt,by omega,by omega⟩
 rw[hsz,Array.getElem?_toList];exact Array.getElem?_eq_getElem hlt
theorem wrap_i64 {x:Int} (h0:-9223372036854775808<=x) (h1:x<9223372036854775808):IntKind.i64.wrap x=x:=by
 rw[IntKind.wrap_i64]; omega
theorem qu {s:List UInt8} (hs:∀b∈s,b.toNat<128) {r:Int} (h0:0<=r/\r<128->Q (.int .i64 (Lib.indexByte s (IntKind.u8.wrap r).toNat.toUInt8)) []) (h1:¬(0<=r/\r<128)->Q (.int .i64 (-1)) []):ACall Tryz.prog 183 0 [.str s,.int .i32 r] [] Q:=by
 refine ad Tryz.func183 0 rfl (aA rfl) ?_
 conv=>whnf
 refine ac (fun c=>?_) (fun c=>?_)<;>try rw[c]<;>conv=>whnf
 focus refine ac (fun c2=>?_) (fun c2=>?_)<;>try rw[c2]<;>conv=>whnf
 focus
  refine .call [] 0 ⟨rfl,rfl,rfl⟩ (kZ ?_)
  conv=>whnf
  exact⟨[],rfl,h0 ⟨aB c,aB c2⟩⟩
 all_goals
  have hr:¬(0<=r/\r<128):=by intro h; simp at *; omega
  replace h1:=h1 hr
  clear h0;refine ac (fun c=>?_) (fun c=>?_)<;>try rw[c]<;>conv=>whnf
  . refine⟨⟨[175],fun n vs H=>vs = [.ptr 0 0] /\ ∃pos,H = [.iter s pos]/\n=s.length-pos,.at (s.length-0) ⟨rfl,0,rfl,rfl⟩,?_⟩⟩
    rintro n vs H ⟨rfl,pos,rfl,rfl⟩
    conv=>whnf
    refine⟨fun hd=>?_,fun b l hd=>?_⟩
    . conv=>whnf
      exact⟨[],rfl,h1⟩
    . obtain⟨d1,d2,d3,d4⟩:=sh hd;rw[mN (hs b d1)]
      conv=>whnf
      refine ac (fun c=>?_) (fun c=>?_)<;>try rw[c]<;>conv=>whnf
      . have:=aB c;have:=hs b d1;simp at *;omega
      . refine .go [0] rfl (s.length-(pos+1)) (by omega) ⟨rfl,pos+1,rfl,rfl⟩
  . refine .call [] 0 ⟨rfl,rfl,rfl⟩ (rz fun v hv=>?_)
    conv=>whnf
    refine ac (fun c=>?_) (fun c=>?_)<;>try rw[c]<;>conv=>whnf
    . exact⟨[],rfl,h1⟩
    . have hv' : v=true:=by simpa using c
      subst hv';obtain⟨c,l1,l2,l3,l4⟩:=DC hv hr;generalize (Utf8.encode r).data.toList=rs at *;have hw:IntKind.i64.wrap ((rs.length:Int)-1)=(rs.length:Int)-1:=wrap_i64 (by omega) (by omega)
      refine⟨⟨[0,7,8,9],fun n vs H=>H = []/\vs = [.str s,.str rs,.int .i64 ((rs.length:Int)-1),.int .i64 ((rs.length:Int)-1)],.at 0 ⟨rfl,?_⟩,?_⟩⟩
      . show [V.str s,V.str rs,V.int .i64 (IntKind.i64.wrap ((rs.length:Int)-1)),V.int .i64 (IntKind.i64.wrap ((rs.length:Int)-1))]=_
        rw[hw]
      rintro n vs H ⟨rfl,rfl⟩
      conv=>whnf
      refine ac (fun c3=>?_) (fun c3=>?_)<;>try rw[c3]<;>conv=>whnf
      . have hlt:rs.length-1<s.length:=by simp at c3; omega
        have ht:((rs.length:Int)-1).toNat=rs.length-1:=by omega
        have hsb:s[rs.length-1]? = some (s[rs.length-1]):=aS hlt;have hb:=hs _ (List.getElem_mem hlt);generalize s[rs.length-1]=b at *;refine⟨List.range 7,by kernel_rfl,by kernel_rfl,?_⟩
        conv=>whnf
        refine⟨b,⟨by omega,by rw[ht]; exact hsb⟩,?_⟩
        conv=>whnf
        refine⟨c,⟨by omega,by rw[ht]; exact l1⟩,?_⟩
        conv=>whnf
        refine ac (fun c4=>?_) (fun c4=>?_)<;>try rw[c4]<;>conv=>whnf
        . refine⟨List.range 9,by kernel_rfl,by kernel_rfl,?_⟩
          conv=>whnf
          have hw2:IntKind.i64.wrap ((rs.length:Int)-1+1)=(rs.length:Int):=by rw[wrap_i64 (by omega) (by omega)]; omega
          refine⟨?_,?_⟩
          . simp only[hw2]; omega
          conv=>whnf
          refine⟨c,⟨by omega,by rw[ht]; exact l1⟩,?_⟩
          conv=>whnf
          refine .call [] 0 ⟨rfl,rfl,rfl⟩ (kZ ?_);rw[iJ _ _ (fun x hx=>?_)]
          . conv=>whnf
            exact⟨[],rfl,h1⟩
          . have:=hs x (List.mem_of_mem_drop hx);intro e;rw[e]at this;simp at this;omega
        . exfalso;simp at c4;omega
      . exact⟨[],rfl,h1⟩
theorem mE {s:List UInt8} (hs:∀b∈s,b.toNat<128) {r:Int} (h0:0<=r/\r<128->Q (.bool (decide (0<=Lib.indexByte s (IntKind.u8.wrap r).toNat.toUInt8))) []) (h1:¬(0<=r/\r<128)->Q (.bool false) []):ACall Tryz.prog 163 0 [.str s,.int .i32 r] [] Q:=by
 refine ad Tryz.func163 0 rfl (aA rfl) ?_
 conv=>whnf
 refine .call [] 0 ⟨rfl,rfl,rfl⟩ (qu hs (fun c=>?_) (fun c=>?_))
 . conv=>whnf
   exact⟨[],rfl,h0 c⟩
 . conv=>whnf
   exact⟨[],rfl,h1 c⟩
def set37:List UInt8:=[97,98,99,100,101,102,103,104,105,106,107,108,109,110,111,112,113,114,115,116,117,118,119,120,121,122,48,49,50,51,52,53,54,55,56,57,95]
def KY:List UInt8:=set37.take 26
def dA (b:UInt8):Bool:=decide (0<=Lib.indexByte set37 b)
def wN (b:UInt8):Bool:=decide (0<=Lib.indexByte KY b)
def ai (s:List UInt8):Bool :=
 s.all dA&&(decide (s.length<=32)&&match s with
  | []=>false
  | b::_=>wN b)
theorem qo:∀b∈set37,b.toNat<128:=by decide
theorem C9 {b:UInt8} {r:List UInt8} (h:¬b.toNat<128):¬((0:Int)<=Int.ofNat (gH (b::r)).1/\Int.ofNat (gH (b::r)).1<128):=by
 have key:128<=(gH (b::r)).1:=by
  unfold gH;simp only[List.getD_cons_zero];rw[if_neg h]
  repeat' split
  all_goals first
   | (simp[Utf8.runeError]; done)
   | (simp at *; omega)
 intro ⟨_,h2⟩;simp at h2;omega
theorem xj (b:UInt8):(IntKind.u8.wrap (Int.ofNat b.toNat)).toNat.toUInt8=b:=by
 have h:=b.toNat_lt;have:IntKind.u8.wrap (Int.ofNat b.toNat)=(b.toNat:Int):=by rw[IntKind.wrap_u8]; simp; omega
 rw[this];simp
theorem wM {b:UInt8} (h:dA b=true):b.toNat<128:=by
 refine Decidable.by_contra fun hb=>?_
 have:Lib.indexByte set37 b = -1:=iJ _ _ fun x hx e=>hb (e ▸ qo x hx)
 unfold dA at h;rw[this]at h;simp at h
theorem oa {s:List UInt8} {b:UInt8} (hb:b∈s) (h:dA b=false):ai s=false:=by
 unfold ai;have:s.all dA=false:=by
  cases hx:s.all dA with
  | false=>rfl
  | true=>rw[List.all_eq_true.1 hx b hb]at h; cases h
 rw[this]; rfl
theorem ib {s:List UInt8} (h:Q (.bool (ai s)) []):ACall Tryz.prog 134 0 [.str s] [] Q:=by
 refine ad Tryz.func134 0 rfl (aA rfl) ?_
 conv=>whnf
 refine⟨⟨[0,6],fun n vs H=>vs = [.str s,.ptr 0 0] /\ ∃pos,H = [.iter s pos]/\n=s.length-pos/\(s.take pos).all dA=true,.at (s.length-0) ⟨rfl,0,rfl,rfl,rfl⟩,?_⟩⟩
 rintro n vs H ⟨rfl,pos,rfl,rfl,hall⟩
 conv=>whnf
 refine⟨fun hd=>?_,fun b l hd=>?_⟩
 . have hle:=List.drop_eq_nil_iff.1 hd;rw[List.take_of_length_le hle]at hall;clear hd hle;cases s with
   | nil =>
    conv=>whnf
    exact⟨[],rfl,h⟩
   | cons b l =>
    have e:ai (b::l)=(decide ((b::l).length<=32)&&wN b):=by unfold ai; rw[hall]; rfl
    rw[e]at h
    conv=>whnf
    refine ac (fun c=>?_) (fun c=>?_)<;>try rw[c]<;>conv=>whnf
    . have hl:decide ((b::l).length<=32)=true:=by simp at *; omega
      rw[hl,Bool.true_and]at h;refine⟨⟨by decide,by simp; omega⟩,?_⟩
      conv=>whnf
      refine .call [] 0 ⟨rfl,rfl,rfl⟩ (vm (b:=b) (by decide) ?_)
      conv=>whnf
      exact⟨[],rfl,h⟩
    . have hl:decide ((b::l).length<=32)=false:=by simp at *; omega
      rw[hl,Bool.false_and]at h;exact⟨[],rfl,h⟩
 . obtain⟨d1,d2,d3,d4⟩:=sh hd
   conv=>whnf
   refine .call [] 0 ⟨rfl,rfl,rfl⟩ (mE qo (fun c=>?_) (fun c=>?_))
   . have hb:b.toNat<128:=Decidable.by_contra fun hb=>C9 hb c
     rw[mN hb];simp only[xj]
     conv=>whnf
     refine ac (fun c2=>?_) (fun c2=>?_)<;>try rw[c2]<;>conv=>whnf
     . rw[oa d1 (by simpa [dA]using c2)]at h
       exact⟨[],rfl,h⟩
     . refine .go [0] rfl (s.length-(pos+1)) (by omega) ⟨rfl,pos+1,rfl,rfl,?_⟩
       have:s.take (pos+1)=s.take pos ++ [b]:=by
        rw[List.take_add_one];congr 1
        have:s[pos]? = some b:=by rw[<-List.head?_drop,hd]; rfl
        rw[this]; rfl
       rw[this,List.all_append,hall];simpa [dA]using c2
   . rw[oa d1 (by
      cases hx:dA b with
      | false=>rfl
      | true =>
       have hb:=wM hx;rw[mN hb]at c;exact absurd ⟨by simp,by simp; omega⟩ c)]at h
     conv=>whnf
     exact⟨[],rfl,h⟩
theorem jV {α:Type} {P:α->Prop} {l:List α} {i:Nat} {x:α} (h:∀c∈l.take i,P c) (hx:l[i]? = some x) (hp:P x):∀c∈l.take (i+1),P c:=by
 intro c hc;rw[List.take_add_one,hx]at hc;rcases List.mem_append.1 hc with hc | hc
 . exact h c hc
 . simp at hc; subst hc; exact hp
theorem Ab {c:Col} {name:List UInt8} (h:Q (.bool (decide (c.n=name))) [.cells [.str name]]):ACall Tryz.prog 175 1 [.agg [.str c.n,fI c.k,.bool c.o],.ptr 0 0] [.cells [.str name]] Q:=by
 refine ad Tryz.func175 1 rfl (aA rfl) ?_
 conv=>whnf
 exact⟨[0],rfl,h⟩
theorem rh {l:List Col} {name:List UInt8} (hl:l.length<1000000) (h:Q (fI (dQ name l 0)) [.cells [.str name]]) :
 ACall Tryz.prog 174 1 [.sl 3 (cols l) false,.fn (.func 175) [] [.ptr 0 0]] [.cells [.str name]] Q:=by
 refine ad Tryz.func174 1 rfl (aA rfl) ?_
 conv=>whnf
 have hlk:=aw l;refine⟨⟨[0,1,7,8],fun m vs H=>∃i:Nat,vs = [.sl 3 (cols l) false,.fn (.func 175) [] [.ptr 0 0],fI (cols l).length,fI i]/\H = [.cells [.str name]]/\(∀c∈l.take i,c.n≠name)/\i<=l.length/\m=l.length-i,.at _ ⟨0,rfl,rfl,by simp,Nat.zero_le _,rfl⟩,?_⟩⟩
 rintro m vs H ⟨i,rfl,rfl,hn,hi,rfl⟩
 conv=>whnf
 refine ac (fun c=>?_) (fun c=>?_)<;>try rw[c]<;>conv=>whnf
 . have c' := aB c;have hlt:i<l.length:=by omega
   have hget:l[i]? = some l[i]:=aS hlt;refine⟨_,⟨by omega,bj hget⟩,?_⟩
   conv=>whnf
   refine .call [0] 1 ⟨rfl,rfl,rfl⟩ (Ab ?_)
   conv=>whnf
   refine ac (fun c2=>?_) (fun c2=>?_)<;>try rw[c2]<;>conv=>whnf
   . rw[jF hn hget (aB c2)]at h;exact⟨[0],rfl,h⟩
   . refine .go [0] rfl (l.length-(i+1)) (by omega) ⟨i+1,?_,rfl,jV hn hget (aG c2),by omega,rfl⟩
     show [V.sl 3 (cols l) false,V.fn (.func 175) [] [.ptr 0 0],fI (cols l).length,V.int .i64 (IntKind.i64.wrap ((i:Int)+1))]=_
     rw[show IntKind.i64.wrap ((i:Int)+1)=((i+1:Nat):Int) by rw[IntKind.wrap_i64]; omega]
 . have c' := aG c;rw[List.take_of_length_le (by omega)]at hn
   rw[sr hn]at h;exact⟨[0],rfl,h⟩
theorem jp {l:List Col} {keys:Int} {name:List UInt8} (hl:l.length<1000000) (h:Q (fI (dQ name l 0)) []) :
 ACall Tryz.prog 144 0 [sch l keys,.str name] [] Q:=by
 refine ad Tryz.func144 0 rfl (aA rfl) ?_
 conv=>whnf
 refine .call [1] 1 ⟨rfl,rfl,rfl⟩ (rh hl ?_)
 conv=>whnf
 exact⟨[],rfl,h⟩
theorem rq {l:List Col} {keys:Int} {name:List UInt8} (hl:l.length<1000000) (h:Q (fI (dQ name l 0)) []) :
 ACall Tryz.prog 88 0 [sch l keys,.str name] [] Q:=by
 refine ad Tryz.func88 0 rfl (aA rfl) ?_
 conv=>whnf
 have hlk:=aw l;refine⟨⟨[1,2,5],fun m vs H=>∃i:Nat,vs = [.str name,.ptr 0 0,fI i]/\H = [.cells [.sl 3 (cols l) false,fI keys]]/\(∀c∈l.take i,c.n≠name)/\i<=l.length/\m=l.length-i,.at _ ⟨0,rfl,rfl,by simp,Nat.zero_le _,rfl⟩,?_⟩⟩
 rintro m vs H ⟨i,rfl,rfl,hn,hi,rfl⟩
 conv=>whnf
 refine ac (fun c=>?_) (fun c=>?_)<;>try rw[c]<;>conv=>whnf
 . have c' := aB c;have hlt:i<l.length:=by omega
   have hget:l[i]? = some l[i]:=aS hlt;refine⟨_,⟨by omega,bj hget⟩,?_⟩
   conv=>whnf
   refine ac (fun c2=>?_) (fun c2=>?_)<;>try rw[c2]<;>conv=>whnf
   . rw[jF hn hget (aB c2)]at h;exact⟨[],rfl,h⟩
   . refine .go [0] rfl (l.length-(i+1)) (by omega) ⟨i+1,?_,rfl,jV hn hget (aG c2),by omega,rfl⟩
     show [V.str name,V.ptr 0 0,V.int .i64 (IntKind.i64.wrap ((i:Int)+1))]=_
     rw[show IntKind.i64.wrap ((i:Int)+1)=((i+1:Nat):Int) by rw[IntKind.wrap_i64]; omega]
 . have c' := aG c;rw[List.take_of_length_le (by omega)]at hn
   rw[sr hn]at h;exact⟨[],rfl,h⟩
def cy (k:Int):Bool:=decide (1<=k)&&decide (k<=4)
theorem pd {k:Int} (h:Q (.bool (cy k)) []):ACall Tryz.prog 165 0 [fI k] [] Q:=by
 refine ad Tryz.func165 0 rfl (aA rfl) ?_
 conv=>whnf
 unfold cy at h;refine ac (fun c=>?_) (fun c=>?_)<;>rw[c]at h<;>try rw[c]<;>conv=>whnf
 . exact⟨[],rfl,h⟩
 . exact⟨[],rfl,h⟩
theorem Ak {k:Int} (h:Q (.bool (cy k)) []):ACall Tryz.prog 131 0 [fI k] [] Q:=by
 refine ad Tryz.func131 0 rfl (aA rfl) ?_
 conv=>whnf
 unfold cy at h;refine ac (fun c=>?_) (fun c=>?_)<;>rw[c]at h<;>try rw[c]<;>conv=>whnf
 . exact⟨[],rfl,h⟩
 . exact⟨[],rfl,h⟩
def K7 (n:Int):Bool:=!(((decide (n<97)||decide (122<n))&&(decide (n<48)||decide (57<n))) && !decide (n=95))
def Lh (n:Int):Bool:=!(decide (n<97)||decide (122<n))
theorem JF:∀n:Fin 256,K7 (n.val:Int)=dA (UInt8.ofNat n.val):=by decide +kernel
theorem JG:∀n:Fin 256,Lh (n.val:Int)=wN (UInt8.ofNat n.val):=by decide +kernel
theorem Ft (b:UInt8):K7 (b.toNat:Int)=dA b:=by
 have:=JF ⟨b.toNat,b.toNat_lt⟩;simpa using this
theorem Fu (b:UInt8):Lh (b.toNat:Int)=wN b:=by
 have:=JG ⟨b.toNat,b.toNat_lt⟩;simpa using this
theorem fT {s:List UInt8} (h:Q (.bool (ai s)) []):ACall Tryz.prog 87 0 [.str s] [] Q:=by
 refine ad Tryz.func87 0 rfl (aA rfl) ?_
 conv=>whnf
 cases s with
 | nil=>exact⟨[],rfl,h⟩
 | cons b r =>
  rw[show decide (((b::r).length:Int)<1)=false by simp; omega]
  conv=>whnf
  refine ac (fun c1=>?_) (fun c1=>?_)<;>try rw[c1]<;>conv=>whnf
  focus
   have e:ai (b::r)=false:=by unfold ai; rw[show decide ((b::r).length<=32)=false by simp at c1; simp; omega]; simp
   rw[e]at h;exact⟨[],rfl,h⟩
  have hl:decide ((b::r).length<=32)=true:=by simp at c1; simp; omega
  have hho:=Fu b;unfold Lh at hho;refine⟨b,⟨by decide,rfl⟩,?_⟩
  conv=>whnf
  refine ac (fun c2=>?_) (fun c2=>?_)<;>try rw[c2]<;>conv=>whnf
  focus
   rw[c2]at hho;have e:ai (b::r)=false:=by unfold ai; simp[<-hho]
   rw[e]at h;exact⟨[],rfl,h⟩
  refine⟨b,⟨by decide,rfl⟩,?_⟩
  conv=>whnf
  refine ac (fun c3=>?_) (fun c3=>?_)<;>try rw[c3]<;>conv=>whnf
  focus
   rw[c2,c3]at hho;have e:ai (b::r)=false:=by unfold ai; simp[<-hho]
   rw[e]at h;exact⟨[],rfl,h⟩
  rw[c2,c3]at hho;have e:ai (b::r)=(b::r).all dA:=by unfold ai; rw[hl]; simp[<-hho]
  rw[e]at h;have hlen:=aB hl;clear e hl c1 c2 c3 hho;generalize b::r=s at *;refine⟨⟨[0,3],fun m vs H=>∃i:Nat,vs = [.str s,fI i]/\H = []/\(∀c∈s.take i,dA c=true)/\i<=s.length/\m=s.length-i,.at _ ⟨0,rfl,rfl,by simp,Nat.zero_le _,rfl⟩,?_⟩⟩
  rintro m vs H ⟨i,rfl,rfl,hn,hi,rfl⟩
  conv=>whnf
  refine ac (fun c=>?_) (fun c=>?_)<;>try rw[c]<;>conv=>whnf
  . have c' := aB c;have hlt:i<s.length:=by omega
    have hget:s[i]? = some s[i]:=aS hlt;refine⟨s[i],⟨by omega,hget⟩,?_⟩
    have hob:=Ft s[i];have hmem:s[i]∈s:=List.getElem_mem hlt;generalize s[i]=b at *
    conv=>whnf
    refine ac (fun c=>?_) (fun c=>?_)<;>try rw[c]<;>conv=>whnf
    all_goals try (refine ac (fun c=>?_) (fun c=>?_)<;>try rw[c]<;>conv=>whnf)
    all_goals try (refine ac (fun c=>?_) (fun c=>?_)<;>try rw[c]<;>conv=>whnf)
    all_goals try (refine ac (fun c=>?_) (fun c=>?_)<;>try rw[c]<;>conv=>whnf)
    all_goals try (refine ac (fun c=>?_) (fun c=>?_)<;>try rw[c]<;>conv=>whnf)
    all_goals simp only[decide_eq_true_eq,decide_eq_false_iff_not,Bool.not_eq_true', Bool.not_eq_false']at *
    all_goals first
     | (have hb:dA b=true:=by rw[<-hob]; simp[K7]; omega
        refine .go [] rfl (s.length-(i+1)) (by omega) ⟨i+1,?_,rfl,jV hn hget hb,by omega,rfl⟩
        show [V.str s,V.int .i64 (IntKind.i64.wrap ((i:Int)+1))]=_
        rw[show IntKind.i64.wrap ((i:Int)+1)=((i+1:Nat):Int) by rw[IntKind.wrap_i64]; omega])
     | (have hb:dA b=false:=by rw[<-hob]; simp[K7]; omega
        have e:s.all dA=false:=by
         cases hx:s.all dA with
         | false=>rfl
         | true=>rw[List.all_eq_true.1 hx b hmem]at hb; cases hb
        rw[e]at h;exact⟨[],rfl,h⟩)
  . have c' := aG c;rw[List.take_of_length_le (by omega)]at hn
    rw[show s.all dA=true by simpa using hn]at h
    exact⟨[],rfl,h⟩
def mX (l:List Col) (keys:Int) (i:Nat) (c:Col):Bool:=ai c.n&&(cy c.k&&(decide (dQ c.n l 0=(i:Int)) && !(decide ((i:Int)<keys)&&c.o)))
def kw (l:List Col) (keys:Int):Bool:=decide (1<=keys)&&(decide (keys<=4)&&(decide (keys<=(l.length:Int))&&decide (l.length<=16)))
def fC (l:List Col) (keys:Int):Bool:=kw l keys&&(List.range l.length).all fun i=>match l[i]? with
 | some c=>mX l keys i c
 | none=>true
theorem fg {l:List Col} {keys:Int} (h:kw l keys=false):fC l keys=false:=by unfold fC; rw[h]; rfl
theorem Ck {l:List Col} {keys:Int} {i:Nat} {c:Col} (hc:l[i]? = some c) (h:mX l keys i c=false):fC l keys=false:=by
 unfold fC;have:((List.range l.length).all fun i=>match l[i]? with | some c=>mX l keys i c | none=>true)=false:=by
  rw[List.all_eq_false];refine⟨i,by rw[List.mem_range]; exact(liZ.1 hc).1,?_⟩
  rw[hc]; simp[h]
 rw[this,Bool.and_false]
theorem sQ {l:List Col} {keys:Int} (h0:kw l keys=true) (h:∀i c,l[i]? = some c->mX l keys i c=true):fC l keys=true:=by
 unfold fC;rw[h0,Bool.true_and,List.all_eq_true];intro i hi;cases hc:l[i]? with
 | none=>rfl
 | some c=>exact h i c hc
theorem x4 {l:List Col} {P:Nat->Col->Prop} {i:Nat} {c:Col} (h:∀j c,j<i->l[j]? = some c->P j c) (hc:l[i]? = some c) (hp:P i c):∀j c,j<i+1->l[j]? = some c->P j c:=by
 intro j d hj hd;by_cases e:j=i
 . subst e; rw[hc]at hd; cases hd; exact hp
 . exact h j d (by omega) hd
theorem BJ {l:List Col} {keys:Int} (h:Q (.bool (fC l keys)) []):ACall Tryz.prog 135 0 [sch l keys] [] Q:=by
 refine ad Tryz.func135 0 rfl (aA rfl) ?_
 conv=>whnf
 have hlk:=aw l;refine ac (fun c1=>?_) (fun c1=>?_)<;>try rw[c1]<;>conv=>whnf
 focus
  rw[fg (by unfold kw; simp at c1 ⊢; omega)]at h
  exact⟨[],rfl,h⟩
 refine ac (fun c2=>?_) (fun c2=>?_)<;>try rw[c2]<;>conv=>whnf
 focus
  rw[fg (by unfold kw; simp at c2 ⊢; omega)]at h
  exact⟨[],rfl,h⟩
 refine ac (fun c3=>?_) (fun c3=>?_)<;>try rw[c3]<;>conv=>whnf
 focus
  have c3' := aB c3;simp only at c3';rw[fg (by unfold kw; simp at c1 c2 ⊢; split at c3' <;> omega)]at h
  exact⟨[],rfl,h⟩
 have c3' := aG c3;simp only at c3';have hh:kw l keys=true:=by unfold kw; simp at c1 c2 ⊢; split at c3' <;> omega
 have hl:l.length<1000000:=by unfold kw at hh; simp at hh; omega
 clear c1 c2 c3 c3';refine⟨⟨[1,24,25,26],fun m vs H=>∃i:Nat,vs = [.ptr 0 0,.sl 3 (cols l) false,fI (cols l).length,fI i]/\H = [.cells [.sl 3 (cols l) false,fI keys]]/\(∀j c,j<i->l[j]? = some c->mX l keys j c=true)/\i<=l.length/\m=l.length-i,.at _ ⟨0,rfl,rfl,fun j c hj=>by omega,Nat.zero_le _,rfl⟩,?_⟩⟩
 rintro m vs H ⟨i,rfl,rfl,hn,hi,rfl⟩
 conv=>whnf
 refine ac (fun c=>?_) (fun c=>?_)<;>try rw[c]<;>conv=>whnf
 . have c' := aB c;have hlt:i<l.length:=by omega
   have hget:l[i]? = some l[i]:=aS hlt;generalize l[i]=d at *;have hno:=Ck (l:=l) (keys:=keys) hget;have hyes:mX l keys i d=true->(∀j c,j<i+1->l[j]? = some c->mX l keys j c=true):=x4 hn hget;unfold mX at hno hyes;have hret:fC l keys=false->Q (.bool false) []:=fun e=>by rw[e]at h; exact h
   refine⟨_,⟨by omega,bj hget⟩,?_⟩
   conv=>whnf
   refine .call [] 0 ⟨rfl,rfl,rfl⟩ (ib ?_)
   conv=>whnf
   refine ac (fun c1=>?_) (fun c1=>?_)<;>try rw[c1]<;>conv=>whnf
   focus
    exact⟨[],rfl,hret (hno (by simp at c1; rw[c1]; rfl))⟩
   refine .call [] 0 ⟨rfl,rfl,rfl⟩ (pd ?_)
   conv=>whnf
   refine ac (fun c2=>?_) (fun c2=>?_)<;>try rw[c2]<;>conv=>whnf
   focus
    exact⟨[],rfl,hret (hno (by simp at c2; rw[c2]; simp))⟩
   refine .call [] 0 ⟨rfl,rfl,rfl⟩ (jp hl ?_)
   conv=>whnf
   refine ac (fun c3=>?_) (fun c3=>?_)<;>try rw[c3]<;>conv=>whnf
   focus
    exact⟨[],rfl,hret (hno (by simp at c3; simp[c3]))⟩
   simp at c1 c2 c3;refine ac (fun c4=>?_) (fun c4=>?_)<;>try rw[c4]<;>conv=>whnf
   focus
    refine ac (fun c5=>?_) (fun c5=>?_)<;>try rw[c5]<;>conv=>whnf
    focus
     exact⟨[],rfl,hret (hno (by rw[c4,c5]; simp))⟩
   all_goals
    refine .go [0] rfl (l.length-(i+1)) (by omega) ⟨i+1,?_,rfl,hyes (by first | (rw[c1,c2,c3,c4,c5]; simp; done) | (rw[c1,c2,c3,c4]; simp; done)),by omega,rfl⟩
    show [V.ptr 0 0,V.sl 3 (cols l) false,fI (cols l).length,V.int .i64 (IntKind.i64.wrap ((i:Int)+1))]=_
    rw[show IntKind.i64.wrap ((i:Int)+1)=((i+1:Nat):Int) by rw[IntKind.wrap_i64]; omega]
 . have c' := aG c;rw[sQ hh fun j c hc=>hn j c (by have:=(liZ.1 hc).1; omega) hc]at h
   exact⟨[],rfl,h⟩
theorem xH {l:List Col} {keys:Int} (h:Q (.bool (fC l keys)) []):ACall Tryz.prog 92 0 [sch l keys] [] Q:=by
 refine ad Tryz.func92 0 rfl (aA rfl) ?_
 conv=>whnf
 have hlk:=aw l;refine ac (fun c1=>?_) (fun c1=>?_)<;>try rw[c1]<;>conv=>whnf
 focus
  rw[fg (by unfold kw; simp at c1 ⊢; omega)]at h
  exact⟨[],rfl,h⟩
 refine ac (fun c2=>?_) (fun c2=>?_)<;>try rw[c2]<;>conv=>whnf
 focus
  rw[fg (by unfold kw; simp at c2 ⊢; omega)]at h
  exact⟨[],rfl,h⟩
 refine ac (fun c3=>?_) (fun c3=>?_)<;>try rw[c3]<;>conv=>whnf
 focus
  rw[fg (by unfold kw; simp at c3 ⊢; omega)]at h
  exact⟨[],rfl,h⟩
 refine ac (fun c4=>?_) (fun c4=>?_)<;>try rw[c4]<;>conv=>whnf
 focus
  rw[fg (by unfold kw; simp at c4 ⊢; omega)]at h
  exact⟨[],rfl,h⟩
 refine ac (fun c5=>?_) (fun c5=>?_)<;>try rw[c5]<;>conv=>whnf
 focus
  rw[fg (by unfold kw; simp at c5 ⊢; omega)]at h
  exact⟨[],rfl,h⟩
 have hh:kw l keys=true:=by unfold kw; simp at c1 c2 c3 c4 c5 ⊢; omega
 have hl:l.length<1000000:=by unfold kw at hh; simp at hh; omega
 clear c1 c2 c3 c4 c5;refine⟨⟨[1,3,4],fun m vs H=>∃i:Nat,vs = [.ptr 0 0,fI (cols l).length,fI i]/\H = [.cells [.sl 3 (cols l) false,fI keys]]/\(∀j c,j<i->l[j]? = some c->mX l keys j c=true)/\i<=l.length/\m=l.length-i,.at _ ⟨0,rfl,rfl,fun j c hj=>by omega,Nat.zero_le _,rfl⟩,?_⟩⟩
 rintro m vs H ⟨i,rfl,rfl,hn,hi,rfl⟩
 conv=>whnf
 refine ac (fun c=>?_) (fun c=>?_)<;>try rw[c]<;>conv=>whnf
 . have c' := aB c;have hlt:i<l.length:=by omega
   have hget:l[i]? = some l[i]:=aS hlt;generalize l[i]=d at *;have hno:=Ck (l:=l) (keys:=keys) hget;have hyes:mX l keys i d=true->(∀j c,j<i+1->l[j]? = some c->mX l keys j c=true):=x4 hn hget;unfold mX at hno hyes;have hret:fC l keys=false->Q (.bool false) []:=fun e=>by rw[e]at h; exact h
   refine⟨_,⟨by omega,bj hget⟩,?_⟩
   conv=>whnf
   refine .call [] 0 ⟨rfl,rfl,rfl⟩ (fT ?_)
   conv=>whnf
   refine ac (fun c1=>?_) (fun c1=>?_)<;>try rw[c1]<;>conv=>whnf
   focus
    exact⟨[],rfl,hret (hno (by simp at c1; rw[c1]; rfl))⟩
   refine ac (fun c2=>?_) (fun c2=>?_)<;>try rw[c2]<;>conv=>whnf
   focus
    exact⟨[],rfl,hret (hno (by unfold cy; simp at c2; simp; omega))⟩
   refine ac (fun c3=>?_) (fun c3=>?_)<;>try rw[c3]<;>conv=>whnf
   focus
    exact⟨[],rfl,hret (hno (by unfold cy; simp at c3; simp; omega))⟩
   have hk:cy d.k=true:=by unfold cy; simp at c2 c3 ⊢; omega
   simp at c1;clear c2 c3;refine ac (fun c4=>?_) (fun c4=>?_)<;>try rw[c4]<;>conv=>whnf
   focus
    refine ac (fun c5=>?_) (fun c5=>?_)<;>try rw[c5]<;>conv=>whnf
    focus
     exact⟨[],rfl,hret (hno (by rw[c4,c5]; simp))⟩
   all_goals
    refine⟨⟨[1,3,4,5,7],fun m vs H=>∃(k:Nat) (bo:Bool),vs = [.ptr 0 0,fI (cols l).length,fI i,.ptr 1 0,fI k]/\H = [.cells [.sl 3 (cols l) false,fI keys],.cells [.str d.n,fI d.k,.bool bo]]/\(∀c∈l.take k,c.n≠d.n)/\k<=i/\m=i-k,.at _ ⟨0,_,rfl,rfl,by simp,Nat.zero_le _,rfl⟩,?_⟩⟩
    rintro m vs H ⟨k,bo,rfl,rfl,hnk,hk2,rfl⟩
    conv=>whnf
    refine ac (fun c6=>?_) (fun c6=>?_)<;>try rw[c6]<;>conv=>whnf
    . have c6' := aB c6;have hget2:l[k]? = some l[k]:=aS (by omega)
      generalize l[k]=x at *;refine⟨List.range 9,by kernel_rfl,by kernel_rfl,?_⟩
      conv=>whnf
      refine⟨_,⟨by omega,bj hget2⟩,?_⟩
      conv=>whnf
      refine ac (fun c7=>?_) (fun c7=>?_)<;>try rw[c7]<;>conv=>whnf
      . have hf:=jF hnk hget2 (aB c7);exact⟨[],rfl,hret (hno (by rw[hf]; simp; intro _ _ e; omega))⟩
      . refine .go [0,1] rfl (i-(k+1)) (by omega) ⟨k+1,bo,?_,rfl,jV hnk hget2 (aG c7),by omega,rfl⟩
        show [V.ptr 0 0,fI (cols l).length,fI i,V.ptr 1 0,V.int .i64 (IntKind.i64.wrap ((k:Int)+1))]=_
        rw[show IntKind.i64.wrap ((k:Int)+1)=((k+1:Nat):Int) by rw[IntKind.wrap_i64]; omega]
    . have c6' := aG c6;have hki:k=i:=by omega
      subst hki;have hf:=jF hnk hget rfl;refine .go [0] rfl (l.length-(k+1)) (by omega) ⟨k+1,?_,rfl,hyes (by first | (rw[c1,hk,hf,c4,c5]; simp; done) | (rw[c1,hk,hf,c4]; simp; done)),by omega,rfl⟩
      show [V.ptr 0 0,fI (cols l).length,V.int .i64 (IntKind.i64.wrap ((k:Int)+1))]=_
      rw[show IntKind.i64.wrap ((k:Int)+1)=((k+1:Nat):Int) by rw[IntKind.wrap_i64]; omega]
 . have c' := aG c;rw[sQ hh fun j c hc=>hn j c (by have:=(liZ.1 hc).1; omega) hc]at h
   exact⟨[],rfl,h⟩
def qn (l:List Col) (k:Int) (l2:List Col) (k2:Int):Bool:=decide (k=k2)&&decide (l=l2)
theorem rY (d e:Col):(decide (d.n=e.n)&&(decide (d.k=e.k)&&(d.o == e.o&&true)))=decide (d=e):=by
 cases d; cases e;rename_i n k o n2 k2 o2;cases o<;>cases o2<;>simp[Col.mk.injEq]
theorem xL {l l2:List Col} (hl:l.length<9223372036854775808) (h:Q (.bool (decide (l=l2))) []) :
 ACall Tryz.prog 185 0 [.sl 3 (cols l) false,.sl 3 (cols l2) false] [] Q:=by
 refine ad Tryz.func185 0 rfl (aA rfl) ?_
 conv=>whnf
 have h1:=aw l;have h2:=aw l2;refine ac (fun c=>?_) (fun c=>?_)<;>try rw[c]<;>conv=>whnf
 focus
  have hne:l≠l2:=fun e=>by subst e; simp at c
  rw[show decide (l=l2)=false by simp[hne]]at h
  exact⟨[],rfl,h⟩
 have hlen:l.length=l2.length:=by simp at c; omega
 clear c;refine⟨⟨[0,1,12,13],fun m vs H=>∃i:Nat,vs = [.sl 3 (cols l) false,.sl 3 (cols l2) false,fI (cols l).length,fI i]/\H = []/\l.take i=l2.take i/\i<=l.length/\m=l.length-i,.at _ ⟨0,rfl,rfl,rfl,Nat.zero_le _,rfl⟩,?_⟩⟩
 rintro m vs H ⟨i,rfl,rfl,hn,hi,rfl⟩
 conv=>whnf
 refine ac (fun c=>?_) (fun c=>?_)<;>try rw[c]<;>conv=>whnf
 . have c' := aB c;have hlt:i<l.length:=by omega
   have g1:l[i]? = some l[i]:=aS hlt;have g2:l2[i]? = some l2[i]:=aS (by omega)
   generalize l[i]=d at *;generalize l2[i]=d2 at *;refine⟨List.range 9,by kernel_rfl,by kernel_rfl,?_⟩
   conv=>whnf
   refine⟨_,⟨by omega,bj g1⟩,?_⟩
   conv=>whnf
   refine⟨_,⟨by omega,bj g2⟩,?_⟩
   conv=>whnf
   rw[rY];by_cases e:d=d2
   . rw[show decide (d=d2)=true by simp[e]]
     conv=>whnf
     refine .go [] rfl (l.length-(i+1)) (by omega) ⟨i+1,?_,rfl,?_,by omega,rfl⟩
     . show [V.sl 3 (cols l) false,V.sl 3 (cols l2) false,fI (cols l).length,V.int .i64 (IntKind.i64.wrap ((i:Int)+1))]=_
       rw[show IntKind.i64.wrap ((i:Int)+1)=((i+1:Nat):Int) by rw[IntKind.wrap_i64]; omega]
     . rw[List.take_add_one,List.take_add_one,hn,g1,g2,e]
   . rw[show decide (d=d2)=false by simp[e]]
     conv=>whnf
     have hne:l≠l2:=fun e' => by subst e'; rw[g1]at g2; cases g2; exact e rfl
     rw[show decide (l=l2)=false by simp[hne]]at h
     exact⟨[],rfl,h⟩
 . have c' := aG c;rw[List.take_of_length_le (by omega),List.take_of_length_le (by omega)]at hn
   rw[show decide (l=l2)=true by simp[hn]]at h
   exact⟨[],rfl,h⟩
theorem Aq {l l2:List Col} {k k2:Int} (hl:l.length<9223372036854775808) (h:Q (.bool (qn l k l2 k2)) []) :
 ACall Tryz.prog 166 0 [sch l k,sch l2 k2] [] Q:=by
 refine ad Tryz.func166 0 rfl (aA rfl) ?_
 conv=>whnf
 unfold qn at h;refine ac (fun c=>?_) (fun c=>?_)<;>rw[c]at h<;>try rw[c]<;>conv=>whnf
 . refine .call [] 0 ⟨rfl,rfl,rfl⟩ (xL hl ?_)
   conv=>whnf
   exact⟨[],rfl,h⟩
 . exact⟨[],rfl,h⟩
theorem rt {l l2:List Col} {k k2:Int} (hl:l.length<9223372036854775808) (h:Q (.bool (qn l k l2 k2)) []) :
 ACall Tryz.prog 45 0 [sch l k,sch l2 k2] [] Q:=by
 refine ad Tryz.func45 0 rfl (aA rfl) ?_
 conv=>whnf
 unfold qn at h;have h1:=aw l;have h2:=aw l2;by_cases ck:k=k2
 rotate_left
 focus
  rw[show decide (k=k2)=false by simp[ck]]at h ⊢
  conv=>whnf
  exact⟨[],rfl,h⟩
 rw[show decide (k=k2)=true by simp[ck]]at h ⊢
 conv=>whnf
 refine ac (fun c=>?_) (fun c=>?_)<;>try rw[c]<;>conv=>whnf
 focus
  have hne:l≠l2:=fun e=>by subst e; simp at c
  rw[show decide (l=l2)=false by simp[hne]]at h
  exact⟨[],rfl,h⟩
 have hlen:l.length=l2.length:=by simp at c; omega
 clear c;refine⟨⟨[2,3,5],fun m vs H=>∃i:Nat,vs = [.ptr 0 0,.ptr 1 0,fI i]/\H = [.cells [.sl 3 (cols l) false,fI k],.cells [.sl 3 (cols l2) false,fI k2]]/\l.take i=l2.take i/\i<=l.length/\m=l.length-i,.at _ ⟨0,rfl,rfl,rfl,Nat.zero_le _,rfl⟩,?_⟩⟩
 rintro m vs H ⟨i,rfl,rfl,hn,hi,rfl⟩
 conv=>whnf
 refine ac (fun c=>?_) (fun c=>?_)<;>try rw[c]<;>conv=>whnf
 . have c' := aB c;have hlt:i<l.length:=by omega
   have g1:l[i]? = some l[i]:=aS hlt;have g2:l2[i]? = some l2[i]:=aS (by omega)
   generalize l[i]=d at *;generalize l2[i]=d2 at *;refine⟨List.range 11,by kernel_rfl,by kernel_rfl,?_⟩
   conv=>whnf
   refine⟨_,⟨by omega,bj g1⟩,?_⟩
   conv=>whnf
   refine⟨_,⟨by omega,bj g2⟩,?_⟩
   conv=>whnf
   rw[rY];by_cases e:d=d2
   . rw[show decide (d=d2)=true by simp[e]]
     conv=>whnf
     refine .go [0,1] rfl (l.length-(i+1)) (by omega) ⟨i+1,?_,rfl,?_,by omega,rfl⟩
     . show [V.ptr 0 0,V.ptr 1 0,V.int .i64 (IntKind.i64.wrap ((i:Int)+1))]=_
       rw[show IntKind.i64.wrap ((i:Int)+1)=((i+1:Nat):Int) by rw[IntKind.wrap_i64]; omega]
     . rw[List.take_add_one,List.take_add_one,hn,g1,g2,e]
   . rw[show decide (d=d2)=false by simp[e]]
     conv=>whnf
     have hne:l≠l2:=fun e' => by subst e'; rw[g1]at g2; cases g2; exact e rfl
     rw[show decide (l=l2)=false by simp[hne]]at h
     exact⟨[],rfl,h⟩
 . have c' := aG c;rw[List.take_of_length_le (by omega),List.take_of_length_le (by omega)]at hn
   rw[show decide (l=l2)=true by simp[hn]]at h
   exact⟨[],rfl,h⟩
theorem xK {l:List Col} (hl:l.length<1000000) (h:Q (.ms 3 0 0 l.length false) [.buf (cols l)]) :
 ACall Tryz.prog 118 0 [.sl 3 (cols l) false] [] Q:=by
 have hlk:=aw l;cases l with
 | nil =>
  refine ACall.sub (ACall.sel (ACall.adopt (ad Tryz.func118 0 rfl (aA rfl) ?_)))
  conv=>whnf
  refine⟨?_,?_⟩
  . conv=>whnf
    exact⟨[],rfl,[0],rfl,_,_,VSub.ms0 3 0 0 false,HSub.refl _,h⟩
  . conv=>whnf
    refine⟨by decide,fun _=>?_,fun e=>absurd rfl e⟩
    conv=>whnf
    exact⟨[0],rfl,[0],rfl,_,_,VSub.msRoom 3 0 0,HSub.refl _,h⟩
 | cons c r =>
  refine ad Tryz.func118 0 rfl (aA rfl) ?_
  conv=>whnf
  refine⟨by decide,fun e=>by simp[cols]at e,fun _=>?_⟩
  conv=>whnf
  refine⟨(show(cols (c::r)).length*32<=70368744177664 by rw[hlk]; omega),?_⟩
  conv=>whnf
  exact⟨[1],rfl,by rw[<-hlk]at h; exact h⟩
theorem iq {l:List Col} {keys:Int} (hl:l.length<1000000) (h:Q (.agg [.ms 3 0 0 l.length false,fI keys]) [.buf (cols l)]) :
 ACall Tryz.prog 76 0 [sch l keys] [] Q:=by
 refine ad Tryz.func76 0 rfl (aA rfl) ?_
 conv=>whnf
 refine⟨[0,1,3,4,2,5,6],by kernel_rfl,by kernel_rfl,?_⟩
 conv=>whnf
 refine .call [] 0 ⟨rfl,rfl,rfl⟩ (xK hl ?_)
 repeat (refine⟨rfl,?_⟩)
 conv=>whnf
 exact⟨[2],rfl,h⟩
theorem pM {l:List Col} {keys:Int} {name:List UInt8} (hl:l.length<1000000) (h:Q (fI (dQ name l 0)) [.buf (cols l)]) :
 ACall Tryz.prog 88 1 [.agg [.ms 3 0 0 (cols l).length false,fI keys],.str name] [.buf (cols l)] Q:=by
 refine ad Tryz.func88 1 rfl (aA rfl) ?_
 conv=>whnf
 have hlk:=aw l;refine⟨⟨[1,2,5],fun m vs H=>∃i:Nat,vs = [.str name,.ptr 1 0,fI i]/\H = [.buf (cols l),.cells [.ms 3 0 0 (cols l).length false,fI keys]]/\(∀c∈l.take i,c.n≠name)/\i<=l.length/\m=l.length-i,.at _ ⟨0,rfl,rfl,by simp,Nat.zero_le _,rfl⟩,?_⟩⟩
 rintro m vs H ⟨i,rfl,rfl,hn,hi,rfl⟩
 conv=>whnf
 refine ac (fun c=>?_) (fun c=>?_)<;>try rw[c]<;>conv=>whnf
 . have c' := aB c;have hlt:i<l.length:=by omega
   have hget:l[i]? = some l[i]:=aS hlt;refine⟨by omega,?_⟩
   conv=>whnf
   refine⟨_,bj hget,?_⟩
   conv=>whnf
   refine ac (fun c2=>?_) (fun c2=>?_)<;>try rw[c2]<;>conv=>whnf
   . rw[jF hn hget (aB c2)]at h;exact⟨[0],rfl,h⟩
   . refine .go [0,1] rfl (l.length-(i+1)) (by omega) ⟨i+1,?_,rfl,jV hn hget (aG c2),by omega,rfl⟩
     show [V.str name,V.ptr 1 0,V.int .i64 (IntKind.i64.wrap ((i:Int)+1))]=_
     rw[show IntKind.i64.wrap ((i:Int)+1)=((i+1:Nat):Int) by rw[IntKind.wrap_i64]; omega]
 . have c' := aG c;rw[List.take_of_length_le (by omega)]at hn
   rw[sr hn]at h;exact⟨[0],rfl,h⟩
theorem FE {i:Nat} (h:i<6):poolS[i]? = some (poolS.getD i []):=by
 have:i<poolS.length:=h;simp[List.getD,aS this]
def Ko (l:List Col) (keys:Int) (G:List Col) (K:Int) (m:Nat) (vs:List V) (H:List O):Prop :=
 ∃j:Nat,vs = [.ptr 0 0,.ptr 1 0,.ptr 2 0,fI j]/\H = [.cells [.sl 3 (cols l) false,fI keys],.cells [.nils,fI 0],.cells [.ms 3 3 0 (cols (bV j G)).length false,fI K],.buf (cols (bV j G))]/\j<=K.toNat/\m=K.toNat-j
theorem Ae {l:List Col} {keys:Int} (hkr:-9223372036854775808<=keys/\keys<=9223372036854775807) (h:Q (sch (i9 ai l keys) (nS ai l keys)) []):ACall Tryz.prog 52 0 [sch l keys] [] Q:=by
 refine ACall.ret (ad Tryz.func52 0 rfl (aA rfl) ?_)
 conv=>whnf
 have hlk:=aw l
 refine⟨⟨[1,2,3,4,5],fun m vs H=>∃i:Nat,vs = [.ptr 0 0,.ptr 1 0,.ptr 2 0,.sl 1 (poolS.map fun s=>[.str s]) true,fI i] /\
  H = [.cells [.sl 3 (cols l) false,fI keys],.cells [.nils,fI 0],.cells [.ms 3 3 0 (cols (gN ai l i)).length false,fI 0],.buf (cols (gN ai l i))]/\i<=l.length/\i<=6/\m=6-i,
  .frz 7 (.frz 3 rfl (by repeat (first | exact trivial | refine And.intro (Nat.le_of_eq (Nat.zero_add _)) ?_)) (.adopt (.sub _ _ (VSubs.refl _) (.cons (.refl _) (.cons (.refl _) (.cons (.cells (.cons (VSub.ms0 3 4 0 false) (VSubs.refl _))) (.cons (.refl _) (HSub.refl _))))) (.go [0,1,2,4] rfl 6 (by omega) ⟨0,rfl,rfl,by omega,by omega,rfl⟩)))),?_⟩⟩
 rintro m vs H ⟨i,rfl,rfl,hi,hi2,rfl⟩
 conv=>whnf
 refine ac (fun c=>?_) (fun c=>?_)<;>try rw[c]<;>conv=>whnf
 focus refine ac (fun c2=>?_) (fun c2=>?_)<;>try rw[c2]<;>conv=>whnf
 focus
  have c' := aB c;have c2' := aB c2;have hlt:i<l.length:=by omega
  have hget:l[i]? = some l[i]:=aS hlt;generalize l[i]=d at *;have hgN:gN ai l (i+1)=stepG ai (gN ai l i) i d:=by
   show(match l[i]? with | some c=>stepG ai (gN ai l i) i c | none=>gN ai l i)=_
   rw[hget]
  have hgl:=wt ai l i;have hwi:IntKind.i64.wrap ((i:Int)+1)=((i+1:Nat):Int):=by rw[IntKind.wrap_i64]; omega
  have hpg:(poolS.map fun s=>[V.str s])[i]? = some [.str (poolS.getD i [])]:=by rw[List.getElem?_map,FE (by omega)]; rfl
  generalize hg:gN ai l i=g at *;have hgc:=aw g;refine⟨_,⟨by omega,bj hget⟩,?_⟩
  conv=>whnf
  refine ac (fun c3=>?_) (fun c3=>?_)<;>try rw[c3]<;>conv=>whnf
  all_goals
   refine⟨by decide,?_⟩
   conv=>whnf
  focus
   rw[show IntKind.i64.wrap (1+(IntKind.i64.wrap (0-IntKind.i64.wrap (d.k+1))).tmod 4)=nQ d.k by unfold nQ kV; rw[if_pos (aB c3)]]
  rotate_left
  focus
   rw[show IntKind.i64.wrap (1+d.k.tmod 4)=nQ d.k by unfold nQ kV; rw[if_neg (aG c3)]]
  all_goals
   refine .call [] 0 ⟨rfl,rfl,rfl⟩ (fT ?_)
   conv=>whnf
   refine ac (fun c4=>?_) (fun c4=>?_)<;>try rw[c4]<;>conv=>whnf
  all_goals first
   | (have hnm:mu ai g i d=poolS.getD i []:=by unfold mu; rw[if_pos (.inl (by simpa using c4))]
      refine⟨[V.str (poolS.getD i [])],⟨by omega,hpg⟩,?_⟩
      conv=>whnf)
   | (refine .call [3] 1 ⟨rfl,rfl,rfl⟩ (pM (by omega) ?_)
      conv=>whnf
      refine ac (fun c5=>?_) (fun c5=>?_)<;>try rw[c5]<;>conv=>whnf
      focus
       have hnm:mu ai g i d=poolS.getD i []:=by unfold mu; rw[if_pos (.inr (aB c5))]
       refine⟨[V.str (poolS.getD i [])],⟨by omega,hpg⟩,?_⟩
       conv=>whnf
      rotate_left
      have hnm:mu ai g i d=d.n:=by
       unfold mu;rw[if_neg];rintro(hx | hx)
       . simp[hx]at c4
       . exact aG c5 hx)
  all_goals
   unfold stepG at hgN;rw[hnm]at hgN;refine .call [3] 1 ⟨rfl,rfl,rfl⟩ (pM (by omega) ?_)
   conv=>whnf
   refine ac (fun c6=>?_) (fun c6=>?_)<;>try rw[c6]<;>conv=>whnf
   . rw[if_pos (aB c6)]at hgN;refine⟨Nat.le_refl _,?_⟩
     conv=>whnf
     refine⟨rfl,?_⟩
     conv=>whnf
     refine⟨Nat.le_trans (Nat.mul_le_mul_right _ (by rw[aD,List.length_take,List.drop_zero]; exact Nat.add_le_add (show(cols g).length<=i by omega) (Nat.min_le_left _ _))) (show(i+1)*32<=70368744177664 by omega),?_⟩
     conv=>whnf
     refine .go [0,1,2,6] rfl (6-(i+1)) (by omega) ⟨i+1,?_,?_,by omega,by omega,rfl⟩
     . show [V.ptr 0 0,V.ptr 1 0,V.ptr 2 0,V.sl 1 (poolS.map fun s=>[V.str s]) true,V.int .i64 (IntKind.i64.wrap ((i:Int)+1))]=_
       rw[hwi]
     . rw[hgN,nG];rfl
   . rw[if_neg (aG c6)]at hgN;refine .go [0,1,2,3] rfl (6-(i+1)) (by omega) ⟨i+1,?_,?_,by omega,by omega,rfl⟩
     . show [V.ptr 0 0,V.ptr 1 0,V.ptr 2 0,V.sl 1 (poolS.map fun s=>[V.str s]) true,V.int .i64 (IntKind.i64.wrap ((i:Int)+1))]=_
       rw[hwi]
     . rw[hgN]; rfl
 all_goals
  have hgi:gN ai l i=gN ai l (min l.length 6):=by
   congr 1
   first
    | (have c' := aG c; omega)
    | (have c' := aG c2; omega)
  have hG:=o8 ai l;have hGd:dw ai l=match gN ai l i with | []=>[⟨[105,100],2,false⟩] | g=>g:=by rw[hgi]; rfl
  have hgl:=wt ai l i;clear hgi c
  try clear c2
  generalize gN ai l i=g at *;have hmin:∀n:Nat,(if(3:Int)<(n:Int)then(3:Int)else(n:Int))=((min n 3:Nat):Int):=fun n=>by split<;>omega
  have hneg:keys<0->kV keys=IntKind.i64.wrap (0-IntKind.i64.wrap (keys+1)):=fun h=>by unfold kV; rw[if_pos h]
  have hpos:¬keys<0->kV keys=keys:=fun h=>by unfold kV; rw[if_neg h]
  rcases g with _ | ⟨x,r⟩
  focus
   simp only at hGd
   conv=>whnf
   refine⟨Nat.le_refl _,?_⟩
   conv=>whnf
   refine⟨rfl,?_⟩
   conv=>whnf
   refine⟨(show(1:Nat)*32<=70368744177664 by decide),?_⟩
   conv=>whnf
   refine ac (fun c3=>?_) (fun c3=>?_)<;>try rw[c3]<;>conv=>whnf
   all_goals
    refine⟨(show(1:Int)≠0 by decide),?_⟩
    conv=>whnf
    refine⟨⟨[1,2,3,10],Ko l keys (dw ai l) (fS (dw ai l).length keys),.frz ((fS (dw ai l).length keys).toNat+1) (.go [0,1,2,5] rfl (fS (dw ai l).length keys).toNat (by omega) ⟨0,rfl,?_,Nat.zero_le _,rfl⟩),?_⟩⟩
    focus
     first
      | (have hx:=hneg (aB c3)
         show [O.cells [.sl 3 (cols l) false,fI keys],.cells [.nils,fI 0],.cells [.ms 3 3 0 1 false,V.int .i64 (IntKind.i64.wrap (1+(IntKind.i64.wrap (0-IntKind.i64.wrap (keys+1))).tmod 1))],.buf [[V.str [105,100],V.int .i64 2,V.bool false]]]=_
         rw[<-hx,hGd]; rfl)
      | (have hx:=hpos (aG c3)
         show [O.cells [.sl 3 (cols l) false,fI keys],.cells [.nils,fI 0],.cells [.ms 3 3 0 1 false,V.int .i64 (IntKind.i64.wrap (1+keys.tmod 1))],.buf [[V.str [105,100],V.int .i64 2,V.bool false]]]=_
         rw[hGd]; unfold fS; rw[hx]; rfl)
  rotate_left 2
  focus
   simp only at hGd
   conv=>whnf
   refine ac (fun c3=>?_) (fun c3=>?_)<;>try rw[c3]<;>conv=>whnf
   all_goals
    refine⟨(show(if(3:Int)<((cols (x::r)).length:Int)then(3:Int)else((cols (x::r)).length:Int))≠0 by rw[hmin,aw]; simp),?_⟩
    conv=>whnf
    refine⟨⟨[1,2,3,10],Ko l keys (dw ai l) (fS (dw ai l).length keys),.frz ((fS (dw ai l).length keys).toNat+1) (.go [0,1,2,3] rfl (fS (dw ai l).length keys).toNat (by omega) ⟨0,rfl,?_,Nat.zero_le _,rfl⟩),?_⟩⟩
    focus
     first
      | (have hx:=hneg (aB c3)
         show [O.cells [.sl 3 (cols l) false,fI keys],.cells [.nils,fI 0],.cells [.ms 3 3 0 (cols (x::r)).length false,V.int .i64 (IntKind.i64.wrap (1+(IntKind.i64.wrap (0-IntKind.i64.wrap (keys+1))).tmod (if(3:Int)<((cols (x::r)).length:Int)then(3:Int)else((cols (x::r)).length:Int))))],.buf (cols (x::r))]=_
         rw[<-hx,hmin,show min (cols (x::r)).length 3=min (x::r).length 3 by rw[aw],hGd]; rfl)
      | (have hx:=hpos (aG c3)
         show [O.cells [.sl 3 (cols l) false,fI keys],.cells [.nils,fI 0],.cells [.ms 3 3 0 (cols (x::r)).length false,V.int .i64 (IntKind.i64.wrap (1+keys.tmod (if(3:Int)<((cols (x::r)).length:Int)then(3:Int)else((cols (x::r)).length:Int))))],.buf (cols (x::r))]=_
         rw[hmin,show min (cols (x::r)).length 3=min (x::r).length 3 by rw[aw],hGd]; unfold fS; rw[hx]; rfl)
  all_goals
   have hKo:=yL hG.1 hkr;clear hGd hneg hpos c3;have hgood:i9 ai l keys=bV (fS (dw ai l).length keys).toNat (dw ai l):=rfl;have hgk:nS ai l keys=fS (dw ai l).length keys:=rfl;rw[hgood,hgk]at h;clear hgood hgk;generalize fS (dw ai l).length keys=K at *;generalize dw ai l=G at *;rintro m vs H ⟨j,rfl,rfl,hj,rfl⟩;have hcl:=iB j G;have hcc:=aw (bV j G)
   conv=>whnf
   refine ac (fun c=>?_) (fun c=>?_)<;>try rw[c]<;>conv=>whnf
   . have c' := aB c;have hlt:j<G.length:=by omega
     have hget:G[j]? = some G[j]:=aS hlt;generalize G[j]=d at *;have hget2:(bV j G)[j]? = some d:=by rw[eV,hget]; simp
     have hsn:=yd hget;refine⟨by omega,?_⟩
     conv=>whnf
     refine⟨_,bj hget2,?_⟩
     conv=>whnf
     have hset:cols (bV (j+1) G)=(cols (bV j G)).set j [V.str d.n,V.int .i64 d.k,V.bool false]:=by
      rw[<-hsn]; simp[cols,List.map_set,GV]
     have hsl:(cols (bV (j+1) G)).length=(cols (bV j G)).length:=by rw[hset,List.length_set]
     refine .go [0,1,2,3] rfl (K.toNat-(j+1)) (by omega) ⟨j+1,?_,?_,by omega,rfl⟩
     . show [V.ptr 0 0,V.ptr 1 0,V.ptr 2 0,V.int .i64 (IntKind.i64.wrap ((j:Int)+1))]=_
       rw[show IntKind.i64.wrap ((j:Int)+1)=((j+1:Nat):Int) by rw[IntKind.wrap_i64]; omega]
     . show [O.cells [.sl 3 (cols l) false,fI keys],.cells [.nils,fI 0],.cells [.ms 3 3 0 (cols (bV j G)).length false,fI K],.buf ((cols (bV j G)).set j [V.str d.n,V.int .i64 d.k,V.bool false])]=_
       rw[<-hset,<-hsl]
   . have c' := aG c;have e:j=K.toNat:=by omega
     subst e;refine⟨[3],rfl,.frz 0 rfl (by repeat (first | exact trivial | refine And.intro (Nat.le_of_eq (Nat.zero_add _)) ?_)) (.done [] rfl ?_)⟩
     show Q (.agg [.sl 3 (List.take (cols (bV K.toNat G)).length (cols (bV K.toNat G))) false,fI K]) []
     rw[List.take_length]; exact h
theorem wm {name:List UInt8}:∀ {l:List Col} {i:Nat},dQ name l i<0 -> ∀c∈l,c.n≠name
 | [],_,_,c,hc=>by simp at hc
 | d::l,i,h,c,hc=>by
  unfold dQ at h;split at h
  . omega
  . rename_i hn;rcases List.mem_cons.1 hc with rfl | hc
    . exact hn
    . exact wm h c hc
def dx (l:List Col):Prop:=(l.map Col.n).Pairwise (· ≠ ·)
def ui (c:Col):Prop:=ai c.n=true/\cy c.k=true
theorem Js {l:List Col} (h:dx l) {i:Nat} {c:Col} (hc:l[i]? = some c):dQ c.n l 0=i:=by
 refine jF (fun d hd=>?_) hc rfl
 obtain⟨j,hj,rfl⟩:=List.mem_iff_getElem.1 hd;rw[List.length_take]at hj;have hlt:=(liZ.1 hc).1;have he:=(liZ.1 hc).2;have:=List.pairwise_iff_getElem.1 h j i (by simp; omega) (by simpa using hlt) (by omega)
 simp only[List.getElem_map]at this;rw[List.getElem_take,<-he];exact this
theorem HP:∀i<6,ai (poolS.getD i [])=true:=by decide
theorem E5 {k:Int} (h:-9223372036854775808<=k/\k<=9223372036854775807):cy (nQ k)=true:=by
 have:=EZ h;unfold cy;simp; omega
def ei (k:Int):Prop:=-9223372036854775808<=k/\k<=9223372036854775807
theorem Ig {g:List Col} {i:Nat} {c:Col} (hi:i<6) (h1:dx g) (h2:∀d∈g,ui d) (hc:ei c.k):dx (stepG ai g i c) /\ ∀d∈stepG ai g i c,ui d:=by
 unfold stepG;split
 . rename_i hf;have hne:=wm hf;have hok:ai (mu ai g i c)=true:=by
    unfold mu;split
    . exact HP i hi
    . rename_i hx;cases h:ai c.n with
      | true=>rfl
      | false=>exact absurd (.inl h) hx
   refine⟨?_,fun d hd=>?_⟩
   . unfold dx;rw[List.map_append,List.pairwise_append];refine⟨h1,by simp,fun a ha b hb=>?_⟩
     obtain⟨d,hd,rfl⟩:=List.mem_map.1 ha;simp at hb;subst hb;exact hne d hd
   . rcases List.mem_append.1 hd with hd | hd
     . exact h2 d hd
     . simp at hd;subst hd;exact⟨hok,E5 hc⟩
 . exact⟨h1,h2⟩
theorem IH {l:List Col} (hl:∀c∈l,ei c.k):∀i≤6,dx (gN ai l i) /\ ∀d∈gN ai l i,ui d
 | 0,_=>by simp[gN,dx]
 | i+1,hi=>by
  have ih:=IH hl i (by omega)
  unfold gN;split
  . rename_i c hc;exact Ig (by omega) ih.1 ih.2 (hl c (List.mem_of_getElem? hc))
  . exact ih
theorem EY {l:List Col} (hl:∀c∈l,ei c.k):dx (dw ai l) /\ ∀d∈dw ai l,ui d:=by
 have:=IH hl (min l.length 6) (by omega)
 unfold dw;split
 . refine⟨by simp[dx],fun d hd=>?_⟩
   simp at hd;subst hd;exact⟨by decide,by decide⟩
 . exact this
theorem wb (k:Nat) (l:List Col):(bV k l).map Col.n=l.map Col.n:=by
 refine List.ext_getElem? fun i=>?_
 rw[List.getElem?_map,List.getElem?_map,eV];cases l[i]? with
 | none=>rfl
 | some c=>by_cases h:i<k<;>simp[h]
theorem A6 {l:List Col} (hl:∀c∈l,ei c.k) (keys:Int):dx (i9 ai l keys) /\ ∀d∈i9 ai l keys,ui d:=by
 obtain⟨h1,h2⟩:=EY hl;unfold i9;refine⟨by unfold dx; rw[wb]; exact h1,fun d hd=>?_⟩
 obtain⟨i,hi⟩:=List.mem_iff_getElem?.1 hd;rw[eV]at hi;cases hc:(dw ai l)[i]? with
 | none=>rw[hc]at hi; cases hi
 | some c =>
  rw[hc]at hi;have:=h2 c (List.mem_of_getElem? hc);simp only[Option.map_some,Option.some.injEq]at hi;subst hi;split
  . exact this
  . exact this
theorem E1 (l:List Col) (keys:Int):1<=(i9 ai l keys).length/\(i9 ai l keys).length<=6:=by
 unfold i9;rw[iB]; exact o8 _ _
theorem Dw {l:List Col} {keys:Int} (hk:ei keys):1<=nS ai l keys/\nS ai l keys<=3/\nS ai l keys<=(i9 ai l keys).length:=by
 unfold nS i9;rw[iB];exact yL (o8 _ _).1 hk
def Kw:O:=.map [(fI 3,.fn (.func 170) [] []),(fI 4,.fn (.func 171) [] []),(fI 5,.fn (.func 172) [] [])] 3
theorem v8 (h:Q (.map 0) [Kw]):ACall Tryz.prog 141 0 [] [] Q:=by
 refine ad Tryz.func141 0 rfl (aA rfl) ?_
 conv=>whnf
 exact⟨[0],rfl,h⟩
theorem r8 (l:List Col) (i:Nat):cols (l.eraseIdx i)=(cols l).take i++(cols l).drop (i+1):=by
 rw[List.eraseIdx_eq_take_drop_succ]; simp[cols]
theorem yg {α:Type} {a b:List α} {z:α} {n:Nat} (ha:a.length=n-1) (hb:(a++b).length=n) (hn:0<n) :
 (a++b).take (n-1)++List.replicate (n-(n-1)) z++(a++b).drop (n-1+(n-(n-1)))=a ++ [z]:=by
 rw[show n-(n-1)=1 by omega,show n-1+1=n by omega,List.drop_of_length_le (by omega),<-ha,List.take_left]
 simp
theorem vC {l:List Col} {i:Nat} (hl:l.length<1000000) (h0:0<i) (hi:i<l.length) (h:Q (.ms 3 0 0 (l.length-1) false) [.buf (cols (l.eraseIdx i) ++ [[.str [],fI 0,.bool false]])]) :
 ACall Tryz.prog 187 1 [.ms 3 0 0 l.length false,fI i,fI ((i+1:Nat):Int)] [.buf (cols l)] Q:=by
 have hlk:=aw l;refine ad Tryz.func187 1 rfl (aA rfl) ?_
 conv=>whnf
 by_cases c:i+1=l.length
 all_goals
  first
   | rw[show decide (((i+1:Nat):Int)=(l.length:Int))=true by simp; omega]
   | rw[show decide (((i+1:Nat):Int)=(l.length:Int))=false by simp; omega]
  conv=>whnf
  refine⟨by omega,?_⟩
  conv=>whnf
  rw[show decide ((i:Int)=((i+1:Nat):Int))=false by simp; omega]
  conv=>whnf
  refine⟨[0,1,2,3,4,5,6,7],by kernel_rfl,by kernel_rfl,?_⟩
  conv=>whnf
  refine⟨by omega,?_⟩
  conv=>whnf
  refine⟨by omega,?_⟩
  conv=>whnf
  refine⟨by rw[hlk]; simp; omega,?_⟩
  conv=>whnf
  rw[show List.take (l.length-((i+1:Nat):Int).toNat) (List.drop (((i+1:Nat):Int).toNat+0) (cols l))=(cols l).drop (i+1) by
   rw[Int.toNat_natCast,Nat.add_zero,List.take_of_length_le (by simp[hlk])]]
  rw[show 0+((i:Nat):Int).toNat=i by omega]
  have e3:((cols l).drop (i+1)).length=l.length-(i+1):=by simp[hlk]
  refine⟨⟨by omega,by rw[e3,hlk]; omega⟩,?_⟩
  rw[e3,Int.toNat_natCast,show i+(l.length-(i+1))=l.length-1 by omega]
  have e4:((cols l).take i++(cols l).drop (i+1)++(cols l).drop (l.length-1)).length=l.length:=by simp[hlk]; omega
  have e5:(cols l).take i++(cols l).drop (i+1)=cols (l.eraseIdx i):=(r8 l i).symm;rw[e5]at e4 ⊢;have e6:(cols (l.eraseIdx i)).length=l.length-1:=by rw[aw,List.length_eraseIdx,if_pos hi]
  conv=>whnf
  refine⟨⟨by omega,by omega,.inr ⟨by omega,(by omega:0+((l.length:Nat):Int).toNat<=(cols (l.eraseIdx i)++(cols l).drop (l.length-1)).length)⟩⟩,?_⟩
  conv=>whnf
  rw[Int.toNat_natCast,Int.toNat_natCast];refine⟨⟨by omega,by omega⟩,?_⟩
  conv=>whnf
  refine⟨[0],rfl,?_⟩
  show Q (.ms 3 0 0 ((i:Int).toNat+(l.length-(i+1))) false) [O.buf (List.take ((i:Int).toNat+(l.length-(i+1))+0) (cols (l.eraseIdx i)++List.drop (l.length-1) (cols l)) ++
   List.replicate (l.length-((i:Int).toNat+(l.length-(i+1)))) [.str [],fI 0,.bool false] ++
   List.drop ((i:Int).toNat+(l.length-(i+1))+0+(l.length-((i:Int).toNat+(l.length-(i+1))))) (cols (l.eraseIdx i)++List.drop (l.length-1) (cols l)))]
  rw[Int.toNat_natCast,show i+(l.length-(i+1))=l.length-1 by omega,Nat.add_zero,yg e6 e4 (by omega)]
  exact h
abbrev Kp:=List Col × Int × Int
def DP (r:Kp):V:=.tup [sch r.1 r.2.1,fI r.2.2]
def rG (l:List Col) (keys:Int) (c:Col):Kp :=
 if ai c.n&&cy c.k&&c.o then
  if 0<=dQ c.n l 0 then([],0,8)else if l.length=16 then([],0,10)else(l ++ [c],keys,0)
 else([],0,1)
def qx (l:List Col) (keys:Int) (c:Col):Kp :=
 if dQ c.n l 0<0 then([],0,7)else if dQ c.n l 0<keys then([],0,10)else(l.eraseIdx (dQ c.n l 0).toNat,keys,0)
def fE (l:List Col) (i:Nat) (k:Int):List Col:=l.modify i fun c=>{ c with k:=k }
def qB (l:List Col) (keys:Int) (c:Col):Kp :=
 if dQ c.n l 0<0 then([],0,7)
 else if dQ c.n l 0<keys then([],0,10)
 else if((l[(dQ c.n l 0).toNat]?).map Col.o).getD false=false then([],0,10)
 else if cy c.k then(fE l (dQ c.n l 0).toNat c.k,keys,0)else([],0,1)
def bx (l:List Col) (keys:Int) (k:Int) (c:Col):Kp :=
 if k=3 then rG l keys c else if k=4 then qx l keys c else if k=5 then qB l keys c else([],0,5)
theorem bM (e:Int):VSub (.tup [.agg [.nils,fI 0],fI e]) (DP ([],0,e)):=VSub.tup (.cons (VSub.agg (.cons (VSub.nils 3 false) (VSubs.refl _))) (VSubs.refl _))
theorem Ef {l:List Col} {keys:Int} {c:Col} (hl:l.length<1000000) (h:Q (DP (rG l keys c)) []) :
 ACall Tryz.prog 170 0 [sch l keys,.agg [.str c.n,fI c.k,.bool c.o]] [] Q:=by
 have hlk:=aw l;refine ACall.ret (ad Tryz.func170 0 rfl (aA rfl) ?_)
 conv=>whnf
 refine .call [] 0 ⟨rfl,rfl,rfl⟩ (ib ?_)
 conv=>whnf
 unfold rG at h;cases c1:ai c.n<;>rw[c1]at h
 focus
  conv=>whnf
  exact⟨[],rfl,.sub _ _ (bM 1) (HSub.refl _) (.done [] rfl h)⟩
 conv=>whnf
 refine .call [] 0 ⟨rfl,rfl,rfl⟩ (pd ?_)
 conv=>whnf
 cases c2:cy c.k<;>rw[c2]at h
 focus
  conv=>whnf
  exact⟨[],rfl,.sub _ _ (bM 1) (HSub.refl _) (.done [] rfl h)⟩
 conv=>whnf
 cases c3:c.o<;>rw[c3]at h
 focus
  conv=>whnf
  exact⟨[],rfl,.sub _ _ (bM 1) (HSub.refl _) (.done [] rfl h)⟩
 conv=>whnf
 refine .call [] 0 ⟨rfl,rfl,rfl⟩ (jp hl ?_)
 conv=>whnf
 simp only[Bool.and_self,if_true]at h;refine ac (fun c4=>?_) (fun c4=>?_)<;>try rw[c4]<;>conv=>whnf
 focus
  rw[if_pos (aB c4)]at h;exact⟨[],rfl,.sub _ _ (bM 8) (HSub.refl _) (.done [] rfl h)⟩
 rw[if_neg (aG c4)]at h;refine ac (fun c5=>?_) (fun c5=>?_)<;>try rw[c5]<;>conv=>whnf
 focus
  have c5' := aB c5;rw[if_pos (by omega)]at h
  exact⟨[],rfl,.sub _ _ (bM 10) (HSub.refl _) (.done [] rfl h)⟩
 have c5' := aG c5;rw[if_neg (by omega)]at h
 refine .call [] 0 ⟨rfl,rfl,rfl⟩ (iq hl ?_)
 conv=>whnf
 refine⟨Nat.le_refl _,?_⟩
 conv=>whnf
 refine⟨(by omega:l.length+0=(cols l).length),?_⟩
 conv=>whnf
 refine⟨Nat.le_trans (Nat.mul_le_mul_right _ (by rw[aD,List.length_take,List.drop_zero,hlk]; exact Nat.add_le_add (Nat.le_refl _) (Nat.min_le_left _ _))) (show(l.length+1)*32<=70368744177664 by omega),?_⟩
 conv=>whnf
 refine⟨[6],rfl,.frz 0 rfl (by repeat (first | exact trivial | refine And.intro (Nat.le_of_eq (Nat.zero_add _)) ?_)) (.done [] rfl ?_)⟩
 show Q (.tup [.agg [.sl 3 (List.take (cols l ++ [[.str c.n,fI c.k,.bool true]]).length (cols l ++ [[.str c.n,fI c.k,.bool true]])) false,fI keys],fI 0]) []
 rw[List.take_length];have e:cols (l ++ [c])=cols l ++ [[.str c.n,fI c.k,.bool true]]:=by rw[nG,<-c3]; rfl
 rw[<-e];exact h
theorem mR {name:List UInt8}:∀ {l:List Col} {i:Nat},dQ name l i<0\/((i:Int)<=dQ name l i/\dQ name l i<i+l.length)
 | [],i=>.inl (by unfold dQ; omega)
 | c::l,i=>by
  unfold dQ;split
  . right; simp only[List.length_cons]; omega
  . rcases mR (name:=name) (l:=l) (i:=i+1)with h | h
    . exact .inl h
    . right; simp only[List.length_cons]; omega
theorem AN {l:List Col} {keys:Int} {c:Col} (hl:l.length<1000000) (hk:1<=keys) (h:Q (DP (qx l keys c)) []) :
 ACall Tryz.prog 171 0 [sch l keys,.agg [.str c.n,fI c.k,.bool c.o]] [] Q:=by
 have hlk:=aw l;refine ACall.ret (ad Tryz.func171 0 rfl (aA rfl) ?_)
 conv=>whnf
 refine .call [] 0 ⟨rfl,rfl,rfl⟩ (jp hl ?_)
 conv=>whnf
 unfold qx at h;have hf:=mR (name:=c.n) (l:=l) (i:=0);refine ac (fun c1=>?_) (fun c1=>?_)<;>try rw[c1]<;>conv=>whnf
 focus
  rw[if_pos (aB c1)]at h;exact⟨[],rfl,.sub _ _ (bM 7) (HSub.refl _) (.done [] rfl h)⟩
 have c1' := aG c1;rw[if_neg c1']at h;refine ac (fun c2=>?_) (fun c2=>?_)<;>try rw[c2]<;>conv=>whnf
 focus
  rw[if_pos (aB c2)]at h;exact⟨[],rfl,.sub _ _ (bM 10) (HSub.refl _) (.done [] rfl h)⟩
 have c2' := aG c2;rw[if_neg c2']at h;obtain⟨i,hi⟩:∃i:Nat,dQ c.n l 0=i:=⟨(dQ c.n l 0).toNat,by omega⟩
 rw[hi]at h;simp only[hi]at *;rw[Int.toNat_natCast]at h;refine .call [] 0 ⟨rfl,rfl,rfl⟩ (iq hl ?_)
 conv=>whnf
 rw[show IntKind.i64.wrap ((i:Int)+1)=((i+1:Nat):Int) by rw[IntKind.wrap_i64]; omega]
 refine .call [3] 1 ⟨rfl,rfl,rfl⟩ (vC hl (by omega) (by omega) ?_)
 conv=>whnf
 have e6:(cols (l.eraseIdx i)).length=l.length-1:=by rw[aw,List.length_eraseIdx,if_pos (by omega)]
 refine⟨[3],rfl,.frz 0 rfl ⟨(by rw[aD,e6]; simp:0+(l.length-1)<=(cols (l.eraseIdx i) ++ [[V.str [],fI 0,V.bool false]]).length),trivial⟩ (.done [] rfl ?_)⟩
 show Q (.tup [.agg [.sl 3 (List.take (l.length-1) (cols (l.eraseIdx i) ++ [[.str [],fI 0,.bool false]])) false,fI keys],fI 0]) []
 rw[<-e6,List.take_left];exact h
theorem zE {l:List Col} {i:Nat} {c:Col} (h:l[i]? = some c) (k:Int):(cols l).set i [.str c.n,fI k,.bool c.o]=cols (fE l i k):=by
 have hlt:=(liZ.1 h).1;refine List.ext_getElem? fun j=>?_
 unfold fE cols;rw[List.getElem?_set,List.getElem?_map,List.getElem?_map,List.getElem?_modify];by_cases e:i=j
 . subst e; rw[h]; simp[hlt,GV]
 . simp[e]
theorem zu {l:List Col} {keys:Int} {c:Col} (hl:l.length<1000000) (hk:1<=keys) (h:Q (DP (qB l keys c)) []) :
 ACall Tryz.prog 172 0 [sch l keys,.agg [.str c.n,fI c.k,.bool c.o]] [] Q:=by
 have hlk:=aw l;refine ACall.ret (ad Tryz.func172 0 rfl (aA rfl) ?_)
 conv=>whnf
 refine .call [] 0 ⟨rfl,rfl,rfl⟩ (jp hl ?_)
 conv=>whnf
 unfold qB at h;have hf:=mR (name:=c.n) (l:=l) (i:=0);refine ac (fun c1=>?_) (fun c1=>?_)<;>try rw[c1]<;>conv=>whnf
 focus
  rw[if_pos (aB c1)]at h;exact⟨[],rfl,.sub _ _ (bM 7) (HSub.refl _) (.done [] rfl h)⟩
 have c1' := aG c1;rw[if_neg c1']at h;obtain⟨i,hi⟩:∃i:Nat,dQ c.n l 0=i:=⟨(dQ c.n l 0).toNat,by omega⟩
 rw[hi]at h;simp only[hi]at *;rw[Int.toNat_natCast]at h;have hlt:i<l.length:=by omega
 have hget:l[i]? = some l[i]:=aS hlt;generalize l[i]=d at *;rw[hget]at h;simp only[Option.map_some,Option.getD_some]at h;by_cases c2:(i:Int)<keys
 focus
  rw[show decide ((i:Int)<keys)=true by simp[c2]]
  conv=>whnf
  rw[if_pos c2]at h;exact⟨[],rfl,.sub _ _ (bM 10) (HSub.refl _) (.done [] rfl h)⟩
 rw[show decide ((i:Int)<keys)=false by simp[c2]]
 rw[if_neg c2]at h
 conv=>whnf
 refine⟨_,⟨by omega,bj hget⟩,?_⟩
 conv=>whnf
 cases c3:d.o<;>simp only[c3,Bool.true_eq_false,if_true,if_false]at h
 focus
  conv=>whnf
  exact⟨[],rfl,.sub _ _ (bM 10) (HSub.refl _) (.done [] rfl h)⟩
 conv=>whnf
 refine .call [] 0 ⟨rfl,rfl,rfl⟩ (pd ?_)
 conv=>whnf
 cases c4:cy c.k<;>rw[c4]at h
 focus
  conv=>whnf
  exact⟨[],rfl,.sub _ _ (bM 1) (HSub.refl _) (.done [] rfl h)⟩
 conv=>whnf
 refine .call [] 0 ⟨rfl,rfl,rfl⟩ (iq hl ?_)
 conv=>whnf
 refine⟨⟨by omega,by omega⟩,?_⟩
 conv=>whnf
 refine⟨_,bj hget,?_⟩
 conv=>whnf
 refine⟨[3],rfl,.frz 0 rfl ⟨(by rw[List.length_set]; omega:0+l.length<=((cols l).set i [.str d.n,fI c.k,.bool d.o]).length),trivial⟩ (.done [] rfl ?_)⟩
 show Q (.tup [.agg [.sl 3 (List.take l.length ((cols l).set i [.str d.n,fI c.k,.bool d.o])) false,fI keys],fI 0]) []
 rw[List.take_of_length_le (by rw[List.length_set]; omega),zE hget]
 exact h
def Kx (k:Int) (x1 x2 x3:V) (c:Col):V:=.agg [fI k,x1,x2,x3,.str c.n,fI c.k,.bool c.o]
set_option maxRecDepth 10000 in
theorem zZ {l:List Col} {keys k:Int} {c:Col} {x1 x2 x3:V} (hl:l.length<1000000) (hk:1<=keys) (h:Q (DP (bx l keys k c)) []) :
 ACall Tryz.prog 101 0 [sch l keys,Kx k x1 x2 x3 c] [] Q:=by
 refine ACall.ret (ad Tryz.func101 0 rfl (aA rfl) ?_)
 conv=>whnf
 refine⟨[1,2,0,3,4],by kernel_rfl,by kernel_rfl,?_⟩
 conv=>whnf
 refine .call [] 0 ⟨rfl,rfl,rfl⟩ (v8 ?_);refine⟨rfl,?_⟩
 conv=>whnf
 unfold bx at h;refine ac (fun c1=>?_) (fun c1=>?_)<;>try rw[c1]<;>conv=>whnf
 focus
  rw[if_pos (aB c1)]at h;refine .call [] 0 ⟨rfl,rfl,rfl⟩ (Ef hl ?_)
  conv=>whnf
  exact⟨[],rfl,.done [] rfl h⟩
 rw[if_neg (aG c1)]at h;refine ac (fun c2=>?_) (fun c2=>?_)<;>try rw[c2]<;>conv=>whnf
 focus
  rw[if_pos (aB c2)]at h;refine .call [] 0 ⟨rfl,rfl,rfl⟩ (AN hl hk ?_)
  conv=>whnf
  exact⟨[],rfl,.done [] rfl h⟩
 rw[if_neg (aG c2)]at h;refine ac (fun c3=>?_) (fun c3=>?_)<;>try rw[c3]<;>conv=>whnf
 focus
  rw[if_pos (aB c3)]at h;refine .call [] 0 ⟨rfl,rfl,rfl⟩ (zu hl hk ?_)
  conv=>whnf
  exact⟨[],rfl,.done [] rfl h⟩
 rw[if_neg (aG c3)]at h
 conv=>whnf
 refine⟨.nilf,⟨_,_,rfl,rfl,rfl⟩,?_⟩
 conv=>whnf
 exact⟨[],rfl,.sub _ _ (bM 5) (HSub.refl _) (.done [] rfl h)⟩
theorem CR {l:List Col} {keys k:Int} {c:Col} {x1 x2 x3:V} (hl:l.length<=16) (hk:1<=keys) (h:Q (DP (bx l keys k c)) []) :
 ACall Tryz.prog 93 0 [sch l keys,Kx k x1 x2 x3 c] [] Q:=by
 have hlk:=aw l;refine ACall.ret (ad Tryz.func93 0 rfl (aA rfl) ?_)
 conv=>whnf
 refine .call [] 0 ⟨rfl,rfl,rfl⟩ (rq (by omega) ?_)
 conv=>whnf
 refine⟨(show(cols l).length*32<=70368744177664 by omega),?_⟩
 conv=>whnf
 refine .call [] 0 ⟨rfl,rfl,rfl⟩ (fT ?_)
 conv=>whnf
 refine .call [] 0 ⟨rfl,rfl,rfl⟩ (Ak ?_)
 conv=>whnf
 unfold bx at h;refine ac (fun c1=>?_) (fun c1=>?_)<;>try rw[c1]<;>conv=>whnf
 focus
  rw[if_pos (aB c1)]at h;unfold rG at h;cases d1:ai c.n<;>rw[d1]at h
  focus
   conv=>whnf
   exact⟨[],rfl,.sub _ _ (bM 1) (HSub.refl _) (.done [] rfl h)⟩
  conv=>whnf
  cases d2:cy c.k<;>rw[d2]at h
  focus
   conv=>whnf
   exact⟨[],rfl,.sub _ _ (bM 1) (HSub.refl _) (.done [] rfl h)⟩
  conv=>whnf
  cases d3:c.o<;>rw[d3]at h
  focus
   conv=>whnf
   exact⟨[],rfl,.sub _ _ (bM 1) (HSub.refl _) (.done [] rfl h)⟩
  conv=>whnf
  simp only[Bool.and_self,if_true]at h;refine ac (fun c4=>?_) (fun c4=>?_)<;>try rw[c4]<;>conv=>whnf
  focus
   rw[if_pos (aB c4)]at h;exact⟨[],rfl,.sub _ _ (bM 8) (HSub.refl _) (.done [] rfl h)⟩
  rw[if_neg (aG c4)]at h;refine ac (fun c5=>?_) (fun c5=>?_)<;>try rw[c5]<;>conv=>whnf
  focus
   have c5' := aB c5;rw[if_pos (by omega)]at h
   exact⟨[],rfl,.sub _ _ (bM 10) (HSub.refl _) (.done [] rfl h)⟩
  have c5' := aG c5;rw[if_neg (by omega)]at h
  refine⟨[0,1,2,5,6,3,4,7,8,9],by kernel_rfl,by kernel_rfl,?_⟩
  conv=>whnf
  refine⟨rfl,?_⟩
  conv=>whnf
  refine⟨Nat.le_refl _,?_⟩
  conv=>whnf
  refine⟨rfl,?_⟩
  conv=>whnf
  refine⟨Nat.le_trans (Nat.mul_le_mul_right _ (by rw[aD,List.length_take,List.drop_zero,hlk]; exact Nat.add_le_add (Nat.le_refl _) (Nat.min_le_left _ _))) (show(l.length+1)*32<=70368744177664 by omega),?_⟩
  refine⟨rfl,?_⟩
  conv=>whnf
  refine⟨[6],rfl,.frz 0 rfl (by repeat (first | exact trivial | refine And.intro (Nat.le_of_eq (Nat.zero_add _)) ?_)) (.done [] rfl ?_)⟩
  show Q (.tup [.agg [.sl 3 (List.take (cols l ++ [[.str c.n,fI c.k,.bool true]]).length (cols l ++ [[.str c.n,fI c.k,.bool true]])) false,fI keys],fI 0]) []
  rw[List.take_length];have e:cols (l ++ [c])=cols l ++ [[.str c.n,fI c.k,.bool true]]:=by rw[nG,<-d3]; rfl
  rw[<-e];exact h
 rw[if_neg (aG c1)]at h;have hf:=mR (name:=c.n) (l:=l) (i:=0);by_cases c2:k=4
 . subst c2
   conv=>whnf
   rw[if_pos rfl]at h;unfold qx at h;refine ac (fun c4=>?_) (fun c4=>?_)<;>try rw[c4]<;>conv=>whnf
   focus
    rw[if_pos (aB c4)]at h;exact⟨[],rfl,.sub _ _ (bM 7) (HSub.refl _) (.done [] rfl h)⟩
   have c4' := aG c4;rw[if_neg c4']at h;refine ac (fun c5=>?_) (fun c5=>?_)<;>try rw[c5]<;>conv=>whnf
   focus
    rw[if_pos (aB c5)]at h;exact⟨[],rfl,.sub _ _ (bM 10) (HSub.refl _) (.done [] rfl h)⟩
   have c5' := aG c5;rw[if_neg c5']at h;obtain⟨i,hi⟩:∃i:Nat,dQ c.n l 0=i:=⟨(dQ c.n l 0).toNat,by omega⟩
   rw[hi]at h;simp only[hi]at *;rw[Int.toNat_natCast]at h;refine⟨[0,1,2,3,4,5,6,8,9,7,10,11,12],by kernel_rfl,by kernel_rfl,?_⟩
   conv=>whnf
   refine⟨⟨by omega,by omega⟩,?_⟩
   conv=>whnf
   rw[show IntKind.i64.wrap ((i:Int)+1)=((i+1:Nat):Int) by rw[IntKind.wrap_i64]; omega]
   refine⟨⟨by omega,by omega⟩,?_⟩
   conv=>whnf
   refine⟨by rw[hlk]; simp; omega,?_⟩
   conv=>whnf
   rw[show List.take ((cols l).length-((i+1:Nat):Int).toNat) (List.drop (((i+1:Nat):Int).toNat+0) (cols l))=(cols l).drop (i+1) by
    rw[Int.toNat_natCast,Nat.add_zero,List.take_of_length_le (by simp)]]
   have e3:((cols l).drop (i+1)).length=l.length-(i+1):=by simp[hlk]
   rw[Int.toNat_natCast,e3,show 0+i=i by omega]
   refine⟨⟨by omega,by omega⟩,?_⟩
   have e5:(cols l).take i++(cols l).drop (i+1)=cols (l.eraseIdx i):=(r8 l i).symm;rw[e5,show i+(l.length-(i+1))=l.length-1 by omega]
   have e6:(cols (l.eraseIdx i)).length=l.length-1:=by rw[aw,List.length_eraseIdx,if_pos (by omega)]
   conv=>whnf
   refine⟨rfl,?_⟩
   conv=>whnf
   refine⟨[4],rfl,.frz 0 rfl ⟨(by rw[aD]; omega:0+(l.length-1)<=(cols (l.eraseIdx i)++List.drop (l.length-1) (cols l)).length),trivial⟩ (.done [] rfl ?_)⟩
   show Q (.tup [.agg [.sl 3 (List.take (l.length-1) (cols (l.eraseIdx i)++List.drop (l.length-1) (cols l))) false,fI keys],fI 0]) []
   rw[show List.take (l.length-1) (cols (l.eraseIdx i)++List.drop (l.length-1) (cols l))=cols (l.eraseIdx i) by rw[<-e6,List.take_left]]
   exact h
 rw[if_neg c2]at h;by_cases c3:k=5
 . subst c3
   conv=>whnf
   rw[if_pos rfl]at h;unfold qB at h;refine ac (fun c4=>?_) (fun c4=>?_)<;>try rw[c4]<;>conv=>whnf
   focus
    rw[if_pos (aB c4)]at h;exact⟨[],rfl,.sub _ _ (bM 7) (HSub.refl _) (.done [] rfl h)⟩
   have c4' := aG c4;rw[if_neg c4']at h;refine ac (fun c5=>?_) (fun c5=>?_)<;>try rw[c5]<;>conv=>whnf
   focus
    rw[if_pos (aB c5)]at h;exact⟨[],rfl,.sub _ _ (bM 10) (HSub.refl _) (.done [] rfl h)⟩
   have c5' := aG c5;rw[if_neg c5']at h;obtain⟨i,hi⟩:∃i:Nat,dQ c.n l 0=i:=⟨(dQ c.n l 0).toNat,by omega⟩
   rw[hi]at h;simp only[hi]at *;rw[Int.toNat_natCast]at h;have hlt:i<l.length:=by omega
   have hget:l[i]? = some l[i]:=aS hlt;generalize l[i]=d at *;rw[hget]at h;simp only[Option.map_some,Option.getD_some]at h;refine⟨⟨by omega,by omega⟩,?_⟩
   conv=>whnf
   refine⟨_,bj hget,?_⟩
   conv=>whnf
   cases d3:d.o<;>simp only[d3,Bool.true_eq_false,if_true,if_false]at h
   focus
    conv=>whnf
    exact⟨[],rfl,.sub _ _ (bM 10) (HSub.refl _) (.done [] rfl h)⟩
   conv=>whnf
   cases d4:cy c.k<;>rw[d4]at h
   focus
    conv=>whnf
    exact⟨[],rfl,.sub _ _ (bM 1) (HSub.refl _) (.done [] rfl h)⟩
   conv=>whnf
   refine⟨⟨by omega,by omega⟩,?_⟩
   conv=>whnf
   refine⟨_,bj hget,?_⟩
   conv=>whnf
   refine⟨[4],rfl,.frz 0 rfl ⟨(by rw[List.length_set]; omega:0+(cols l).length<=((cols l).set i [.str d.n,fI c.k,.bool d.o]).length),trivial⟩ (.done [] rfl ?_)⟩
   show Q (.tup [.agg [.sl 3 (List.take (cols l).length ((cols l).set i [.str d.n,fI c.k,.bool d.o])) false,fI keys],fI 0]) []
   rw[List.take_of_length_le (by rw[List.length_set]; omega),zE hget]
   exact h
 rw[if_neg c3]at h;rw[show decide (k=4)=false by simp[c2]]
 conv=>whnf
 rw[show decide (k=5)=false by simp[c3]]
 conv=>whnf
 exact⟨[],rfl,.sub _ _ (bM 5) (HSub.refl _) (.done [] rfl h)⟩
theorem BZ:∀ {es:List (List V)},(∀x∈es,∃(s:List UInt8) (k:Int) (o:Bool),x = [.str s,.int .i64 k,.bool o]/\ei k) -> ∃l,es=cols l /\ ∀c∈l,ei c.k
 | [],_=>⟨[],rfl,by simp⟩
 | x::es,h=>by
  obtain⟨s,k,o,rfl,hk⟩:=h x (by simp)
  obtain⟨l,rfl,hl⟩:=BZ (es:=es) fun y hy=>h y (by simp[hy])
  exact⟨⟨s,k,o⟩::l,rfl,by simpa using ⟨hk,hl⟩⟩
theorem sF {k:Int} (h:(Lit.int .i64 k).wf=true):ei k:=by
 have h' : (decide (IntKind.i64.min<=k)&&decide (k<=IntKind.i64.max))=true:=h;rw[Bool.and_eq_true]at h';exact⟨aB h'.1,aB h'.2⟩
structure SchOk (l:List Col) (keys:Int):Prop where
 names:dx l
 cols:∀d∈l,ui d
 lo:1<=keys
 hi:keys<=4
 len:keys<=l.length
 most:l.length<=16
 keyed:∀(i:Nat) (c:Col),(i:Int)<keys->l[i]? = some c->c.o=false
theorem SchOk.may {l:List Col} {keys:Int} (h:SchOk l keys):fC l keys=true:=by
 have h1:=h.lo; have h2:=h.hi; have h3:=h.len; have h4:=h.most;refine sQ (by unfold kw; simp; omega) fun i c hc=>?_
 obtain⟨g1,g2⟩:=h.cols c (List.mem_of_getElem? hc);unfold mX;rw[g1,g2,Js h.names hc];simp;rcases Int.lt_or_le (i:Int) keys with hi | hi
 rotate_left
 . exact .inl hi
 . exact .inr (h.keyed i c hi hc)
theorem Hm {l:List Col} {keys:Int} (hl:∀c∈l,ei c.k) (hk:ei keys):SchOk (i9 ai l keys) (nS ai l keys):=by
 obtain⟨h1,h2⟩:=A6 hl keys;obtain⟨k1,k2,k3⟩:=Dw (l:=l) hk;have hlen:=E1 l keys;refine⟨h1,h2,k1,by omega,k3,by omega,fun i c hi hc=>?_⟩
 unfold i9 at hc;rw[eV]at hc;cases hd:(dw ai l)[i]? with
 | none=>rw[hd]at hc; cases hc
 | some d =>
  rw[hd]at hc;simp only[Option.map_some,Option.some.injEq]at hc;have:i<(fS (dw ai l).length keys).toNat:=by
   unfold nS at hi;omega
  rw[if_pos this]at hc;rw[<-hc]
theorem IZ {l:List Col} {keys:Int} {c:Col} (h:SchOk l keys) (he:(rG l keys c).2.2=0):SchOk (rG l keys c).1 (rG l keys c).2.1:=by
 unfold rG at he ⊢;by_cases h1:(ai c.n&&cy c.k&&c.o)=true
 rotate_left
 . rw[if_neg h1]at he; simp at he
 rw[if_pos h1]at he ⊢;by_cases h2:0<=dQ c.n l 0
 . rw[if_pos h2]at he; simp at he
 rw[if_neg h2]at he ⊢;by_cases h3:l.length=16
 . rw[if_pos h3]at he; simp at he
 rw[if_neg h3];simp only[Bool.and_eq_true]at h1;have h4:=h.most; have h5:=h.len;refine⟨?_,fun d hd=>?_,h.lo,h.hi,by simp only[aD,List.length_singleton]; omega,by simp only[aD,List.length_singleton]; omega,fun i d hi hd=>?_⟩
 . unfold dx;rw[List.map_append,List.pairwise_append];refine⟨h.names,by simp,fun a ha b hb=>?_⟩
   obtain⟨d,hd,rfl⟩:=List.mem_map.1 ha;simp at hb;subst hb;exact wm (i:=0) (by omega) d hd
 . rcases List.mem_append.1 hd with hd | hd
   . exact h.cols d hd
   . simp at hd; subst hd; exact⟨h1.1.1,h1.1.2⟩
 . have hi' : (i:Int)<keys:=hi;refine h.keyed i d hi' ?_
   rwa [List.getElem?_append_left (by omega)]at hd
theorem Jf {l:List Col} {keys:Int} {c:Col} (h:SchOk l keys) (he:(qx l keys c).2.2=0):SchOk (qx l keys c).1 (qx l keys c).2.1:=by
 unfold qx at he ⊢;by_cases h1:dQ c.n l 0<0
 . rw[if_pos h1]at he; simp at he
 rw[if_neg h1]at he ⊢;by_cases h2:dQ c.n l 0<keys
 . rw[if_pos h2]at he; simp at he
 rw[if_neg h2];have hf:=mR (name:=c.n) (l:=l) (i:=0);have h3:=h.lo; have h4:=h.most; have h5:=h.len;generalize hi:(dQ c.n l 0).toNat=i;have hlt:i<l.length:=by omega
 have hk:keys<=(i:Int):=by omega
 refine⟨?_,fun d hd=>h.cols d ((List.eraseIdx_sublist _ _).subset hd),h.lo,h.hi,by simp only[List.length_eraseIdx,if_pos hlt]; omega,by simp only[List.length_eraseIdx,if_pos hlt]; omega,fun j d hj hd=>?_⟩
 . unfold dx;exact h.names.sublist ((List.eraseIdx_sublist _ _).map _)
 . have hj' : (j:Int)<keys:=hj;simp only[List.getElem?_eraseIdx]at hd;rw[if_pos (by omega)]at hd
   exact h.keyed j d hj hd
theorem je (l:List Col) (i:Nat) (k:Int):(fE l i k).length=l.length:=by simp[fE]
theorem uh (l:List Col) (i:Nat) (k:Int):(fE l i k).map Col.n=l.map Col.n:=by
 refine List.ext_getElem? fun j=>?_
 rw[List.getElem?_map,List.getElem?_map,fE,List.getElem?_modify];cases l[j]? with
 | none=>simp
 | some d=>by_cases e:i=j<;>simp[e]
theorem JX {l:List Col} {keys:Int} {c:Col} (h:SchOk l keys) (he:(qB l keys c).2.2=0):SchOk (qB l keys c).1 (qB l keys c).2.1:=by
 unfold qB at he ⊢;by_cases h1:dQ c.n l 0<0
 . rw[if_pos h1]at he; simp at he
 rw[if_neg h1]at he ⊢;by_cases h2:dQ c.n l 0<keys
 . rw[if_pos h2]at he; simp at he
 rw[if_neg h2]at he ⊢;by_cases h3:((l[(dQ c.n l 0).toNat]?).map Col.o).getD false=false
 . rw[if_pos h3]at he; simp at he
 rw[if_neg h3]at he ⊢;by_cases h4:cy c.k=true
 rotate_left
 . rw[if_neg h4]at he; simp at he
 rw[if_pos h4];have hf:=mR (name:=c.n) (l:=l) (i:=0);have g3:=h.lo; have g4:=h.most; have g5:=h.len;generalize hi:(dQ c.n l 0).toNat=i;have hlt:i<l.length:=by omega
 have hk:keys<=(i:Int):=by omega
 refine⟨by unfold dx; rw[uh]; exact h.names,fun d hd=>?_,h.lo,h.hi,by simp only[je]; omega,by simp only[je]; omega,fun j d hj hd=>?_⟩
 . obtain⟨j,hj⟩:=List.mem_iff_getElem?.1 hd;rw[fE,List.getElem?_modify]at hj;cases hx:l[j]? with
   | none=>rw[hx]at hj; simp at hj
   | some x =>
    rw[hx]at hj;have hx' := h.cols x (List.mem_of_getElem? hx);by_cases e:i=j
    . simp[e]at hj; subst hj; exact⟨hx'.1,h4⟩
    . simp[e]at hj; subst hj; exact hx'
 . have hj' : (j:Int)<keys:=hj;have hne:i≠j:=by omega
   rw[fE,List.getElem?_modify]at hd;cases hx:l[j]? with
   | none=>rw[hx]at hd; simp at hd
   | some x =>
    rw[hx]at hd;simp[hne]at hd;subst hd;exact h.keyed j x hj' hx
theorem x7 {l:List Col} {keys k:Int} {c:Col} (h:SchOk l keys) (he:(bx l keys k c).2.2=0):SchOk (bx l keys k c).1 (bx l keys k c).2.1:=by
 unfold bx at he ⊢;by_cases h1:k=3
 . rw[if_pos h1]at he ⊢; exact IZ h he
 rw[if_neg h1]at he ⊢;by_cases h2:k=4
 . rw[if_pos h2]at he ⊢; exact Jf h he
 rw[if_neg h2]at he ⊢;by_cases h3:k=5
 . rw[if_pos h3]at he ⊢; exact JX h he
 rw[if_neg h3]at he;simp at he
theorem au (f:Bool):VSub .nils (.sl 3 [] f):=fun I ρ u h=>by cases h; exact .slnil _ _ _ _
theorem dm {n:Int} (h:-9223372036854775808<=n/\n<=9223372036854775807):IntKind.i64.wrap n=n:=by rw[IntKind.wrap_i64]; omega
theorem sk {w:Tb} {t:List UInt8} (h:Q (.int .i64 (ye w.n t)) []):ACall Tryz.prog 116 0 [LA w,.str t] [] Q:=by
 refine ad Tryz.func116 0 rfl (aA rfl) ?_
 conv=>whnf
 refine .pure (tJ ⟨rfl,?_⟩)
 conv=>whnf
 exact⟨[],rfl,h⟩
theorem vE {l:List Tb} {t:List UInt8} {f:Bool} (hl:l.length<1000000) (hs:eQ l) (h:Q (.tup [fI (kX l t),.bool (dP l t).isSome]) []) :
 ACall Tryz.prog 115 0 [.sl 3 (tbs l) f,.str t,.fn (.func 116) [] []] [] Q:=by
 refine ad Tryz.func115 0 rfl (aA rfl) ?_
 conv=>whnf
 have hlk:=bR l;have hnk:=qU l;refine⟨⟨[0,1,2,8,9,10],fun m ws H=>∃i j:Nat,ws = [.sl 3 (tbs l) f,.str t,.fn (.func 116) [] [],fI l.length,fI i,fI j]/\H = []/\i<=j/\j<=l.length/\ra (my l) t i/\D7 (my l) t j/\m=j-i,
  .at l.length ⟨0,l.length,?_,rfl,by omega,by omega,fun j w hj=>by omega,fun j w hj hw=>?_,rfl⟩,?_⟩⟩
 . show [V.sl 3 (tbs l) f,V.str t,V.fn (.func 116) [] [],fI (tbs l).length,fI 0,fI (tbs l).length]=_
   rw[hlk]; rfl
 . have:=(liZ.1 hw).1; omega
 rintro m ws H ⟨i,j,rfl,rfl,hij,hj,hb,ha,rfl⟩
 conv=>whnf
 refine ac (fun c1=>?_) (fun c1=>?_)<;>try rw[c1]<;>conv=>whnf
 focus
  have c1' := aB c1;refine⟨by decide,?_⟩
  conv=>whnf
  rw[Hn (by omega)]
  have h1:i<=(i+j) / 2:=by omega
  have h2:(i+j) / 2<j:=by omega
  generalize (i+j) / 2=k at *;have hg:l[k]? = some l[k]:=aS (by omega)
  generalize l[k]=w at *;refine⟨_,⟨by omega,ay hg⟩,?_⟩
  conv=>whnf
  refine .pure (sk (w:=w) ⟨rfl,?_⟩)
  conv=>whnf
  rw[GU];cases hlt:Op.bytesLess w.n t<;>conv=>whnf
  . refine .go [] rfl (k-i) (by omega) ⟨i,k,rfl,rfl,h1,by omega,hb,vN hs (gf hg) hlt,rfl⟩
  . refine .go [] rfl (j-(k+1)) (by omega) ⟨k+1,j,?_,rfl,by omega,by omega,vX hs (gf hg) hlt,ha,rfl⟩
    show [V.sl 3 (tbs l) f,V.str t,V.fn (.func 116) [] [],fI l.length,V.int .i64 (IntKind.i64.wrap ((k:Int)+1)),fI j]=_
    rw[dm (by omega)]; rfl
 have c1' := aG c1;have hije:i=j:=by omega
 subst hije;have hp:iZ (my l) t=i:=kB (by omega) hb fun w hw=>ha i w (Nat.le_refl _) hw
 have hat:=I9 (t:=t) hs;have hp' : kX l t=i:=hp;have hat' : (dP l t).isSome=_:=hat;rw[hp]at hat';rw[hp']at h;refine ac (fun c2=>?_) (fun c2=>?_)<;>try rw[c2]<;>conv=>whnf
 . have c2' := aB c2;have hg:l[i]? = some l[i]:=aS (by omega)
   generalize l[i]=w at *;rw[gf hg]at hat';refine⟨_,⟨by omega,ay hg⟩,?_⟩
   conv=>whnf
   refine .pure (sk (w:=w) ⟨rfl,?_⟩)
   conv=>whnf
   refine⟨[],rfl,?_⟩;show Q (.tup [fI i,.bool (decide (ye w.n t=0))]) []
   rw[GT];simp only at hat';have e:decide (w.n=t)=(dP l t).isSome:=hat'.symm;rw[e]; exact h
 . have c2' := aG c2;rw[List.getElem?_eq_none (by omega)]at hat'
   simp only at hat';rw[hat']at h;exact⟨[],rfl,h⟩
theorem lV {l:List Tb} {t:List UInt8} {f:Bool} (hl:l.length<1000000) (hs:eQ l) (h:Q (.tup [fI (kX l t),.bool (dP l t).isSome]) []):ACall Tryz.prog 75 0 [.sl 3 (tbs l) f,.str t] [] Q:=by
 refine ad Tryz.func75 0 rfl (aA rfl) ?_
 conv=>whnf
 refine .pure (vE hl hs ⟨rfl,?_⟩)
 conv=>whnf
 exact⟨[],rfl,h⟩
theorem pg {l:List Tb} {t:List UInt8} {i:Nat} (hs:eQ l) (h:dP l t=some i):kX l t=i:=uw hs h
theorem fb {l:List Tb} {t:List UInt8} {f:Bool} (hl:l.length<1000000) (hs:eQ l) (hc:∀x∈l,x.c.length<1000000) (h:Q (qa (cf l t)) []):ACall Tryz.prog 46 0 [.sl 3 (tbs l) f,.str t] [] Q:=by
 refine ACall.ret (ad Tryz.func46 0 rfl (aA rfl) ?_)
 conv=>whnf
 refine .pure (lV hl hs ⟨rfl,?_⟩);cases ha:dP l t with
 | none =>
  rw[oY ha]at h
  conv=>whnf
  exact⟨[],rfl,.sub _ _ (VSub.tup (.cons (.agg (.cons (au false) (VSubs.refl _))) (VSubs.refl _))) (HSub.refl _) (.done [] rfl h)⟩
 | some i =>
  obtain⟨x,hx,_,hlt⟩:=bY ha;rw[fV ha hx]at h;have hxl:=hc x (List.mem_of_getElem? hx);rw[pg hs ha]
  conv=>whnf
  refine⟨_,⟨by omega,ay hx⟩,?_⟩
  conv=>whnf
  refine .call [] 0 ⟨rfl,rfl,rfl⟩ (iq (l:=x.c) (keys:=x.k) hxl ?_)
  conv=>whnf
  have hlk:=aw x.c;refine⟨[1],rfl,.frz 0 rfl (by repeat (first | exact trivial | refine And.intro (by rw[hlk]; exact Nat.le_of_eq (Nat.zero_add _)) ?_)) (.done [] rfl ?_)⟩
  show Q (.tup [.agg [.sl 3 (List.take x.c.length (cols x.c)) false,fI x.k],.bool true]) []
  rw[<-hlk,List.take_length];exact h
def ji (l:List Tb) (t:List UInt8):Int:=D4 (my l) t
theorem dS {l:List Tb} {t:List UInt8} {f:Bool} (hl:l.length<4611686018427387904) (h:Q (.int .i64 (ji l t)) []):ACall Tryz.prog 55 0 [.sl 3 (tbs l) f,.str t] [] Q:=by
 refine ad Tryz.func55 0 rfl (aA rfl) ?_
 conv=>whnf
 have hlv:=bR l;have hnv:=qU l;refine⟨⟨[0,1,5],fun m ws H=>∃i:Nat,ws = [.sl 3 (tbs l) f,.str t,fI i]/\H = []/\jZ (my l) t i/\i<=l.length/\m=l.length-i,
  .at l.length ⟨0,rfl,rfl,fun j w hj=>by omega,Nat.zero_le _,rfl⟩,?_⟩⟩
 rintro m ws H ⟨i,rfl,rfl,hn,hi,rfl⟩
 conv=>whnf
 refine ac (fun c1=>?_) (fun c1=>?_)<;>try rw[c1]<;>conv=>whnf
 rotate_left
 focus
  have c1' := aG c1;have:i=l.length:=by omega
  subst this;unfold ji D4 at h;rw[GO (by rw[hnv]; exact hn)]at h
  exact⟨[],rfl,h⟩
 have c1' := aB c1;have hlt:i<l.length:=by omega
 have hg:l[i]? = some l[i]:=aS hlt;generalize l[i]=w at *;refine⟨_,⟨by omega,ay hg⟩,?_⟩
 conv=>whnf
 refine ac (fun c2=>?_) (fun c2=>?_)<;>try rw[c2]<;>conv=>whnf
 . unfold ji D4 at h;rw[BT hn (gf hg) (aB c2)]at h;exact⟨[],rfl,h⟩
 . refine .go [] rfl (l.length-(i+1)) (by omega) ⟨i+1,?_,rfl,fun j x hj hx=>?_,by omega,rfl⟩
   . show [V.sl 3 (tbs l) f,V.str t,V.int .i64 (IntKind.i64.wrap ((i:Int)+1))]=_
     rw[dm (by omega)]; rfl
   . rcases Nat.lt_or_ge j i with h1 | h1
     . exact hn j x h1 hx
     . have:j=i:=by omega
       subst this;rw[gf hg]at hx; cases hx;exact aG c2
theorem ey {l:List Tb} {t:List UInt8} (h:dP l t=none):ji l t = -1:=by unfold ji D4; rw[show qC (my l) t=none from h]
theorem oS {l:List Tb} {t:List UInt8} {i:Nat} (h:dP l t=some i):ji l t=(i:Int):=by unfold ji D4; rw[show qC (my l) t=some i from h]
theorem m9 {l:List Tb} {t:List UInt8} {f:Bool} (hl:l.length<4611686018427387904) (h:Q (qa (cf l t)) []):ACall Tryz.prog 90 0 [.sl 3 (tbs l) f,.str t] [] Q:=by
 refine ACall.ret (ad Tryz.func90 0 rfl (aA rfl) ?_)
 conv=>whnf
 refine .pure (dS hl ⟨rfl,?_⟩);cases ha:dP l t with
 | none =>
  rw[oY ha]at h;rw[ey ha]
  conv=>whnf
  exact⟨[],rfl,.sub _ _ (VSub.tup (.cons (.agg (.cons (au false) (VSubs.refl _))) (VSubs.refl _))) (HSub.refl _) (.done [] rfl h)⟩
 | some i =>
  obtain⟨x,hx,_,hlt⟩:=bY ha;rw[fV ha hx]at h;rw[oS ha]
  conv=>whnf
  rw[show decide ((i:Int)<0)=false from decide_eq_false (by omega)]
  conv=>whnf
  refine⟨_,⟨by omega,ay hx⟩,?_⟩
  conv=>whnf
  exact⟨[],rfl,.done [] rfl h⟩
def cZ (l:List Tb) (k:Int) (t:List UInt8) (cs:List Col) (ks:Int) (c:Col):List Tb × Int :=
 if k=1 then(if ai t=false then([],6)else if(dP l t).isSome then([],8)else if fC cs ks=false then([],1)else if 64<=l.length then([],13)else(kU l ⟨t,cs,ks⟩,0))
 else match dP l t with
  | none=>([],7)
  | some i=>if k=2 then(l.eraseIdx i,0)else match l[i]? with
   | some x=>if(bx x.c x.k k c).2.2≠0 then([],(bx x.c x.k k c).2.2)else(l.set i ⟨x.n,(bx x.c x.k k c).1,(bx x.c x.k k c).2.1⟩,0)
   | none=>([],7)
def yE (r:List Tb × Int):V:=.tup [.sl 3 (tbs r.1) false,fI r.2]
theorem eB (e:Int):VSub (.tup [.nils,fI e]) (yE ([],e)):=.tup (.cons (au false) (VSubs.refl _))
def Lu (k:Int) (t:List UInt8) (cs:List Col) (ks:Int) (c:Col):V:=Kx k (.str t) (.sl 3 (cols cs) false) (fI ks) c
def KF (l:List Tb) (f:Bool) (C:List V) (t:List UInt8) (m:Nat) (ws:List V) (H:List O):Prop :=
 ∃k:Nat,ws = [.sl 3 (tbs l) f,.ptr 0 0,.nils,fI k]/\H = [.cells C]/\ra (my l) t k/\k<=l.length/\m=l.length-k
theorem dt {l:List Col} {k:Int} (h:fC l k=true):1<=k/\k<=4/\k<=l.length/\l.length<=16:=by
 unfold fC at h;rw[Bool.and_eq_true]at h;have:=h.1;unfold kw at this;simp only[Bool.and_eq_true,decide_eq_true_eq]at this;exact⟨this.1,this.2.1,this.2.2.1,this.2.2.2⟩
theorem qP {j n:Nat} {H:List O} {L:List Tb} (hg:ar H j = .buf (tbs L)) (hn:n=L.length) (hj:j<H.length) (h:Q (yE (L,0)) []):∃sel,gC sel H.length 0=true/\ARet 0 Q (aM (bI sel) (.tup [.ms 3 j 0 n false,fI 0])) (aJ (bI sel) H sel):=by
 subst hn;refine⟨[j],?_,?_⟩
 . simp[gC,kM,gJ,bI,Nat.blt_eq,hj]
 . have e1:aM (bI [j]) (.tup [.ms 3 j 0 L.length false,fI 0]) = .tup [.ms 3 0 0 L.length false,fI 0]:=by simp[aM,iP,bI]
   have e2:aJ (bI [j]) H [j] = [.buf (tbs L)]:=by simp[aJ,hg,gA]
   rw[e1,e2];have hle:=bR L;refine .frz 0 rfl (by repeat (first | exact trivial | refine And.intro (by rw[hle,Nat.zero_add]; exact Nat.le_refl _) ?_)) (.done [] rfl ?_)
   show Q (.tup [.sl 3 (List.take L.length (List.drop 0 (tbs L))) false,fI 0]) []
   rw[List.drop_zero,<-hle,List.take_length];exact h
set_option maxRecDepth 8000 in
theorem nk {l:List Tb} {f:Bool} {k:Int} {t:List UInt8} {cs:List Col} {ks:Int} {c:Col} (hl:l.length<=64) (hm:∀x∈l,fC x.c x.k=true) (h:Q (yE (cZ l k t cs ks c)) []) :
 ACall Tryz.prog 54 0 [.sl 3 (tbs l) f,Lu k t cs ks c] [] Q:=by
 refine ACall.ret (ad Tryz.func54 0 rfl (aA rfl) ?_)
 conv=>whnf
 have hlk:=bR l;have hnk:=qU l;unfold cZ at h;refine .pure (dS (by omega) ⟨rfl,?_⟩)
 conv=>whnf
 refine ac (fun c1=>?_) (fun c1=>?_)<;>try rw[c1]<;>conv=>whnf
 . have c1' := aB c1;subst c1';rw[if_pos rfl]at h;refine .pure (fT ⟨rfl,?_⟩)
   conv=>whnf
   refine .pure (xH (l:=cs) (keys:=ks) ⟨rfl,?_⟩)
   conv=>whnf
   cases hn:ai t<;>rw[hn]at h<;>conv=>whnf
   focus
    rw[if_pos rfl]at h;exact⟨[],rfl,.sub _ _ (eB 6) (HSub.refl _) (.done [] rfl h)⟩
   rw[if_neg (by simp)]at h
   cases ha:dP l t with
   | some i =>
    rw[ha]at h;rw[oS ha]
    conv=>whnf
    exact⟨[],rfl,.sub _ _ (eB 8) (HSub.refl _) (.done [] rfl h)⟩
   | none =>
    rw[ha]at h;rw[if_neg (by simp)]at h
    rw[ey ha]
    conv=>whnf
    cases hy:fC cs ks<;>rw[hy]at h<;>conv=>whnf
    focus
     rw[if_pos rfl]at h;exact⟨[],rfl,.sub _ _ (eB 1) (HSub.refl _) (.done [] rfl h)⟩
    rw[if_neg (by simp)]at h
    rw[hlk];refine ac (fun c2=>?_) (fun c2=>?_)<;>try rw[c2]<;>conv=>whnf
    focus
     rw[if_pos (by have:=aB c2; omega)]at h
     exact⟨[],rfl,.sub _ _ (eB 13) (HSub.refl _) (.done [] rfl h)⟩
    rw[if_neg (by have:=aG c2; omega)]at h
    refine⟨⟨[0,3,7,10],KF l f [fI 1,.str t,.sl 3 (cols cs) false,fI ks,.str c.n,fI c.k,.bool c.o] t,.at l.length ⟨0,rfl,rfl,fun j w hj=>by omega,Nat.zero_le _,rfl⟩,?_⟩⟩
    rintro m ws H ⟨k,rfl,rfl,hb,hk,rfl⟩;have fin:∀(n:Nat) (H:List O),n=(List.take k (tbs l)).length+1+(List.drop k (tbs l)).length->kX l t=k->ar H 4 = .buf (List.take k (tbs l) ++ [Gy ⟨t,cs,ks⟩]++List.drop k (tbs l))->H.length=5->(∃sel,gC sel H.length 0=true/\ARet 0 Q (aM (bI sel) (.tup [.ms 3 4 0 n false,fI 0])) (aJ (bI sel) H sel)):=fun n H hn0 hp hg hlen=>by
     have hn1:n=l.length+1:=by rw[hn0,List.length_take,List.length_drop]; omega
     subst hn1;have hins:tbs (kU l ⟨t,cs,ks⟩)=List.take k (tbs l) ++ [Gy ⟨t,cs,ks⟩]++List.drop k (tbs l):=by
      unfold kU;rw[hp]; simp[tbs,List.map_take,List.map_drop]
     refine⟨[4],by rw[hlen]; rfl,?_⟩
     show ARet 0 Q (.tup [.ms 3 0 0 (l.length+1) false,fI 0]) [gA (bI [4]) (ar H 4)]
     rw[hg,<-hins];have hle:(tbs (kU l ⟨t,cs,ks⟩)).length=l.length+1:=by rw[bR,sH]
     refine .frz 0 rfl (by repeat (first | exact trivial | refine And.intro (by rw[hle,Nat.zero_add]; exact Nat.le_refl _) ?_)) (.done [] rfl ?_)
     show Q (.tup [.sl 3 (List.take (l.length+1) (List.drop 0 (tbs (kU l ⟨t,cs,ks⟩)))) false,fI 0]) []
     rw[List.drop_zero,<-hle,List.take_length];exact h
    conv=>whnf
    refine⟨List.range 14,by kernel_rfl,by kernel_rfl,?_⟩
    conv=>whnf
    rw[hlk];refine ac (fun c3=>?_) (fun c3=>?_)<;>try rw[c3]<;>conv=>whnf
    . have c3' := aB c3;have hlt:k<l.length:=by omega
      have hg:l[k]? = some l[k]:=aS hlt;generalize l[k]=w at *;refine⟨_,⟨by omega,ay hg⟩,?_⟩
      conv=>whnf
      cases hbl:Op.bytesLess w.n t<;>conv=>whnf
      . have hp:kX l t=k:=kB (by omega) hb fun x hx=>by rw[gf hg]at hx; cases hx; exact hbl
        have hT:(List.take k (tbs l)).length<=64:=by rw[List.length_take]; omega
        have hD:(List.drop k (tbs l)).length<=64:=by rw[List.length_drop]; omega
        refine⟨⟨by omega,by omega⟩,?_⟩
        conv=>whnf
        refine⟨(Nat.le_trans (Nat.mul_le_mul_right _ hT) (show 64*48<=70368744177664 by omega)),?_⟩
        conv=>whnf
        refine⟨Nat.le_refl 1,?_⟩;refine eo rfl rfl rfl (Nat.le_trans (Nat.mul_le_mul_right _ (Nat.add_le_add hT (show 1<=1 by omega))) (show(64+1)*48<=70368744177664 by omega)) ?_
        conv=>whnf
        refine⟨⟨by omega,by omega⟩,?_⟩
        conv=>whnf
        refine gq (by rw[aD]) (Nat.le_trans (Nat.mul_le_mul_right _ (Nat.add_le_add (by rw[aD]; exact Nat.add_le_add hT (show 1<=1 by omega)) hD)) (show(64+1+64)*48<=70368744177664 by omega)) ?_
        conv=>whnf
        exact fin _ _ (by rw[aD]; rfl) hp rfl rfl
      . refine .go [0] rfl (l.length-(k+1)) (by omega) ⟨k+1,?_,rfl,vO hb (gf hg) hbl,by omega,rfl⟩
        show [V.sl 3 (tbs l) f,V.ptr 0 0,V.nils,V.int .i64 (IntKind.i64.wrap ((k:Int)+1))]=_
        rw[dm (by omega)]; rfl
    . have c3' := aG c3;have hp:kX l t=k:=kB (by omega) hb fun x hx=>by rw[List.getElem?_eq_none (by omega)]at hx; cases hx
      have hT:(List.take k (tbs l)).length<=64:=by rw[List.length_take]; omega
      have hD:(List.drop k (tbs l)).length<=64:=by rw[List.length_drop]; omega
      refine⟨⟨by omega,by omega⟩,?_⟩
      conv=>whnf
      refine⟨(Nat.le_trans (Nat.mul_le_mul_right _ hT) (show 64*48<=70368744177664 by omega)),?_⟩
      conv=>whnf
      refine⟨Nat.le_refl 1,?_⟩;refine eo rfl rfl rfl (Nat.le_trans (Nat.mul_le_mul_right _ (Nat.add_le_add hT (show 1<=1 by omega))) (show(64+1)*48<=70368744177664 by omega)) ?_
      conv=>whnf
      refine⟨⟨by omega,by omega⟩,?_⟩
      conv=>whnf
      refine gq (by rw[aD]) (Nat.le_trans (Nat.mul_le_mul_right _ (Nat.add_le_add (by rw[aD]; exact Nat.add_le_add hT (show 1<=1 by omega)) hD)) (show(64+1+64)*48<=70368744177664 by omega)) ?_
      conv=>whnf
      exact fin _ _ (by rw[aD]; rfl) hp rfl rfl
 . have c1' := aG c1;rw[if_neg c1']at h;cases ha:dP l t with
   | none =>
    rw[ha]at h;rw[ey ha]
    conv=>whnf
    exact⟨[],rfl,.sub _ _ (eB 7) (HSub.refl _) (.done [] rfl h)⟩
   | some i =>
    obtain⟨x,hx,_,hlt⟩:=bY ha;rw[ha]at h;simp only at h;rw[oS ha];rw[show decide ((i:Int)<0)=false from decide_eq_false (by omega)]
    conv=>whnf
    have hT:(List.take i (tbs l)).length<=64:=by rw[List.length_take]; omega
    have hD:(List.drop (i+1) (tbs l)).length<=64:=by rw[List.length_drop]; omega
    refine⟨⟨by omega,by omega⟩,?_⟩
    conv=>whnf
    refine⟨(Nat.le_trans (Nat.mul_le_mul_right _ hT) (show 64*48<=70368744177664 by omega)),?_⟩
    conv=>whnf
    have hi1:IntKind.i64.wrap ((i:Int)+1)=((i+1:Nat):Int):=by rw[dm (by omega)]; omega
    refine ac (fun c2=>?_) (fun c2=>?_)<;>try rw[c2]<;>conv=>whnf
    . rw[if_neg (by simpa using c2)]at h
      rw[hx]at h;simp only at h;obtain⟨m1,m2,m3,m4⟩:=dt (hm x (List.mem_of_getElem? hx));refine⟨List.range 13,by kernel_rfl,by kernel_rfl,?_⟩
      conv=>whnf
      refine⟨_,⟨by omega,ay hx⟩,?_⟩
      conv=>whnf
      refine .pure (CR (l:=x.c) (keys:=x.k) (k:=k) (c:=c) m4 m1 ⟨rfl,?_⟩);generalize bx x.c x.k k c=r at *;obtain⟨rc,rk,re⟩:=r;simp only at h
      repeat (conv=>whnf
              first | (refine⟨rfl,?_⟩) | (refine⟨⟨_,⟨by omega,ay hx⟩,rfl⟩,?_⟩))
      conv=>whnf
      by_cases hr:re=0
      rotate_left
      focus
       rw[if_pos hr]at h;rw[show decide (re=0)=false from decide_eq_false hr]
       conv=>whnf
       exact⟨[],rfl,.sub _ _ (eB re) (HSub.refl _) (.done [] rfl h)⟩
      rw[if_neg (by simpa using hr)]at h
      rw[show decide (re=0)=true from decide_eq_true hr]
      conv=>whnf
      refine⟨List.range 11,by kernel_rfl,by kernel_rfl,?_⟩
      conv=>whnf
      refine⟨_,⟨by omega,ay hx⟩,?_⟩
      conv=>whnf
      refine⟨Nat.le_refl 1,?_⟩;refine eo rfl rfl rfl (Nat.le_trans (Nat.mul_le_mul_right _ (Nat.add_le_add hT (show 1<=1 by omega))) (show(64+1)*48<=70368744177664 by omega)) ?_
      repeat (conv=>whnf
              first | (refine⟨rfl,?_⟩) | (refine⟨⟨_,⟨by omega,ay hx⟩,rfl⟩,?_⟩))
      conv=>whnf
      rw[hi1];refine⟨⟨by omega,by omega⟩,?_⟩
      conv=>whnf
      refine gq (by rw[aD]) (Nat.le_trans (Nat.mul_le_mul_right _ (Nat.add_le_add (by rw[aD]; exact Nat.add_le_add hT (show 1<=1 by omega)) hD)) (show(64+1+64)*48<=70368744177664 by omega)) ?_
      conv=>whnf
      have hset:tbs (l.set i ⟨x.n,rc,rk⟩)=List.take i (tbs l) ++ [Gy ⟨x.n,rc,rk⟩]++List.drop (i+1) (tbs l):=by
       rw[List.set_eq_take_append_cons_drop,if_pos hlt];simp[tbs,List.map_take,List.map_drop]
      have hlen:(List.take i (tbs l)).length+1+(List.drop (i+1) (tbs l)).length=(l.set i ⟨x.n,rc,rk⟩).length:=by
       rw[<-bR (l.set i _),hset]; simp only[aD,List.length_cons,List.length_nil]
      exact qP (L:=l.set i ⟨x.n,rc,rk⟩) (by rw[hset]; rfl) (by rw[aD]; exact hlen) (Nat.le_refl _) h
    . rw[hi1];have c2' : k=2:=by simpa using c2
      rw[if_pos c2']at h;refine⟨⟨by omega,by omega⟩,?_⟩
      conv=>whnf
      refine gq rfl (Nat.le_trans (Nat.mul_le_mul_right _ (Nat.add_le_add hT hD)) (show(64+64)*48<=70368744177664 by omega)) ?_
      conv=>whnf
      have hset:tbs (l.eraseIdx i)=List.take i (tbs l)++List.drop (i+1) (tbs l):=by
       rw[List.eraseIdx_eq_take_drop_succ];simp[tbs,List.map_take,List.map_drop]
      have hlen:(List.take i (tbs l)).length+(List.drop (i+1) (tbs l)).length=(l.eraseIdx i).length:=by
       rw[<-bR (l.eraseIdx i),hset,aD]
      exact qP (L:=l.eraseIdx i) (by rw[hset]; rfl) hlen (Nat.le_refl _) h
theorem Bm {b b' : Bool} {H:List O} (h:Q (.bool b) H) (e:b=b'):Q (.bool b') H:=e ▸ h
theorem xu {l l2:List Val} {f f2:Bool} (hl:l.length<9223372036854775808) (h:Q (.bool (decide (l=l2))) []) :
 ACall Tryz.prog 139 0 [.sl 3 (ah l) f,.sl 3 (ah l2) f2] [] Q:=by
 refine ad Tryz.func139 0 rfl (aA rfl) ?_
 conv=>whnf
 have h1:=aC l;have h2:=aC l2;refine ac (fun c=>?_) (fun c=>?_)<;>try rw[c]<;>conv=>whnf
 focus
  have hne:l≠l2:=fun e=>by subst e; simp at c
  rw[show decide (l=l2)=false by simp[hne]]at h
  exact⟨[],rfl,h⟩
 have hlen:l.length=l2.length:=by simp at c; omega
 clear c;refine⟨⟨[0,1,12,13],fun m vs H=>∃i:Nat,vs = [.sl 3 (ah l) f,.sl 3 (ah l2) f2,fI (ah l).length,fI i]/\H = []/\l.take i=l2.take i/\i<=l.length/\m=l.length-i,.at _ ⟨0,rfl,rfl,rfl,Nat.zero_le _,rfl⟩,?_⟩⟩
 rintro m vs H ⟨i,rfl,rfl,hn,hi,rfl⟩
 conv=>whnf
 refine ac (fun c=>?_) (fun c=>?_)<;>try rw[c]<;>conv=>whnf
 . have c' := aB c;have hlt:i<l.length:=by omega
   have g1:l[i]? = some l[i]:=aS hlt;have g2:l2[i]? = some l2[i]:=aS (by omega)
   generalize l[i]=d at *;generalize l2[i]=d2 at *;refine⟨List.range 9,by kernel_rfl,by kernel_rfl,?_⟩
   conv=>whnf
   refine⟨_,⟨by omega,bU g1⟩,?_⟩
   conv=>whnf
   refine⟨_,⟨by omega,bU g2⟩,?_⟩
   conv=>whnf
   rw[Gs];by_cases e:d=d2
   . rw[show decide (d=d2)=true by simp[e]]
     conv=>whnf
     refine .go [] rfl (l.length-(i+1)) (by omega) ⟨i+1,?_,rfl,?_,by omega,rfl⟩
     . show [V.sl 3 (ah l) f,V.sl 3 (ah l2) f2,fI (ah l).length,V.int .i64 (IntKind.i64.wrap ((i:Int)+1))]=_
       rw[show IntKind.i64.wrap ((i:Int)+1)=((i+1:Nat):Int) by rw[IntKind.wrap_i64]; omega]
     . rw[List.take_add_one,List.take_add_one,hn,g1,g2,e]
   . rw[show decide (d=d2)=false by simp[e]]
     conv=>whnf
     have hne:l≠l2:=fun e' => by subst e'; rw[g1]at g2; cases g2; exact e rfl
     rw[show decide (l=l2)=false by simp[hne]]at h
     exact⟨[],rfl,h⟩
 . have c' := aG c;rw[List.take_of_length_le (by omega),List.take_of_length_le (by omega)]at hn
   rw[show decide (l=l2)=true by simp[hn]]at h
   exact⟨[],rfl,h⟩
theorem gr {a b:Chg} (hl:a.c.length<9223372036854775808) (h:Q (.bool (decide (a=b))) []):ACall Tryz.prog 137 0 [vZ a,vZ b] [] Q:=by
 refine ad Tryz.func137 0 rfl (aA rfl) ?_
 conv=>whnf
 rw[<-Ex]at h;refine ac (fun c1=>?_) (fun c1=>?_)<;>rw[c1]at h<;>try rw[c1]<;>conv=>whnf
 rotate_left
 focus exact⟨[],rfl,Bm h rfl⟩
 refine ac (fun c2=>?_) (fun c2=>?_)<;>rw[c2]at h<;>try rw[c2]<;>conv=>whnf
 rotate_left
 focus exact⟨[],rfl,Bm h rfl⟩
 rw[rY];cases c3:decide (a.col=b.col)<;>rw[c3]at h<;>conv=>whnf
 focus exact⟨[],rfl,Bm h rfl⟩
 refine .pure (Aq (l:=a.c) (k:=a.ks) (l2:=b.c) (k2:=b.ks) hl ⟨rfl,?_⟩)
 conv=>whnf
 exact⟨[],rfl,h⟩
theorem i7 {a b:Evt} (h1:a.b.length<9223372036854775808) (h2:a.a.length<9223372036854775808) (hl:a.ch.c.length<9223372036854775808) (h:Q (.bool (decide (a=b))) []):ACall Tryz.prog 97 0 [tZ a,tZ b] [] Q:=by
 refine ad Tryz.func97 0 rfl (aA rfl) ?_
 conv=>whnf
 rw[<-Jr]at h;refine ac (fun c1=>?_) (fun c1=>?_)<;>rw[c1]at h<;>try rw[c1]<;>conv=>whnf
 rotate_left
 focus exact⟨[],rfl,Bm h rfl⟩
 refine ac (fun c2=>?_) (fun c2=>?_)<;>rw[c2]at h<;>try rw[c2]<;>conv=>whnf
 rotate_left
 focus exact⟨[],rfl,Bm h rfl⟩
 refine ac (fun c3=>?_) (fun c3=>?_)<;>rw[c3]at h<;>try rw[c3]<;>conv=>whnf
 rotate_left
 focus exact⟨[],rfl,Bm h rfl⟩
 refine .pure (xu h1 ⟨rfl,?_⟩)
 conv=>whnf
 cases c4:decide (a.b=b.b)<;>rw[c4]at h<;>conv=>whnf
 focus exact⟨[],rfl,Bm h rfl⟩
 refine .pure (xu h2 ⟨rfl,?_⟩)
 conv=>whnf
 cases c5:decide (a.a=b.a)<;>rw[c5]at h<;>conv=>whnf
 focus exact⟨[],rfl,Bm h rfl⟩
 refine .pure (gr (a:=a.ch) (b:=b.ch) hl ⟨rfl,?_⟩)
 conv=>whnf
 exact⟨[],rfl,h⟩
theorem vB {a b:Chg} (hl:a.c.length<9223372036854775808) (h:Q (.bool (decide (a=b))) []):ACall Tryz.prog 89 0 [vZ a,vZ b] [] Q:=by
 refine ad Tryz.func89 0 rfl (aA rfl) ?_
 conv=>whnf
 rw[<-Ex]at h;refine .pure (rt (l:=a.c) (k:=a.ks) (l2:=b.c) (k2:=b.ks) hl ⟨rfl,?_⟩)
 conv=>whnf
 have hs:qn a.c a.ks b.c b.ks=(decide (a.ks=b.ks)&&decide (a.c=b.c)):=rfl;cases c0:qn a.c a.ks b.c b.ks<;>rw[c0]at hs<;>rw[<-hs]at h<;>conv=>whnf
 focus exact⟨[],rfl,Bm h (by simp)⟩
 refine ac (fun c1=>?_) (fun c1=>?_)<;>rw[c1]at h<;>try rw[c1]<;>conv=>whnf
 rotate_left
 focus exact⟨[],rfl,Bm h rfl⟩
 refine ac (fun c2=>?_) (fun c2=>?_)<;>rw[c2]at h<;>try rw[c2]<;>conv=>whnf
 rotate_left
 focus exact⟨[],rfl,Bm h rfl⟩
 rw[rY];exact⟨[],rfl,Bm h (by simp)⟩
def ints6:List Int:=[1,2,7,8,9,10]
def mg (k:Int):Bool:=decide (k=1)||(decide (k=2)||(decide (k=7)||(decide (k=8)||(decide (k=9)||decide (k=10)))))
theorem xz {k:Int} (h1:mg k=true -> ∀i:Nat,Q (fI i) []) (h0:mg k=false->Q (fI (-1)) []):ACall Tryz.prog 167 0 [.sl 1 (ints6.map fun n=>[fI n]) true,fI k] [] Q:=by
 refine ad Tryz.func167 0 rfl (aA rfl) ?_
 conv=>whnf
 refine⟨⟨[0,1,7,8],fun m ws H=>∃i:Nat,ws = [.sl 1 (ints6.map fun n=>[fI n]) true,fI k,fI 6,fI i]/\H = []/\i<=6/\(∀j n,j<i->ints6[j]? = some n->n≠k)/\m=6-i,
  .at 6 ⟨0,rfl,rfl,by omega,fun j n hj=>by omega,rfl⟩,?_⟩⟩
 rintro m ws H ⟨i,rfl,rfl,hi,hn,rfl⟩;have hmem:∀j n,ints6[j]? = some n->n=k->mg k=true:=fun j n hj e=>by
  subst e;have:n∈ints6:=List.mem_of_getElem? hj;simp only[ints6,List.mem_cons,List.not_mem_nil,or_false]at this;unfold mg;rcases this with h | h | h | h | h | h<;>subst h<;>decide
 conv=>whnf
 refine ac (fun c=>?_) (fun c=>?_)<;>try rw[c]<;>conv=>whnf
 . have c' := aB c;have hl6:ints6.length=6:=rfl;have hg:ints6[i]? = some ints6[i]:=aS (by omega)
   generalize ints6[i]=n at *;refine⟨[fI n],⟨by omega,(by
    show(ints6.map fun n=>[fI n])[i]? = _
    rw[List.getElem?_map,hg]; rfl)⟩,?_⟩
   conv=>whnf
   refine ac (fun c2=>?_) (fun c2=>?_)<;>try rw[c2]<;>conv=>whnf
   . exact⟨[],rfl,h1 (hmem i n hg (aB c2).symm) i⟩
   . refine .go [] rfl (6-(i+1)) (by omega) ⟨i+1,?_,rfl,by omega,fun j x hj hx=>?_,rfl⟩
     . show [V.sl 1 (ints6.map fun n=>[fI n]) true,fI k,fI 6,V.int .i64 (IntKind.i64.wrap ((i:Int)+1))]=_
       rw[dm (by omega)]; rfl
     . rcases Nat.lt_or_ge j i with h2 | h2
       . exact hn j x h2 hx
       . have:j=i:=by omega
         subst this;rw[hg]at hx; cases hx;exact fun e=>aG c2 e.symm
 . have c' := aG c;have:i=6:=by omega
   subst this;have hf:mg k=false:=by
    have g:∀j n,j<6->ints6[j]? = some n->decide (k=n)=false:=fun j n hj hx=>decide_eq_false fun e=>hn j n hj hx e.symm
    unfold mg;rw[g 0 1 (by omega) rfl,g 1 2 (by omega) rfl,g 2 7 (by omega) rfl,g 3 8 (by omega) rfl,g 4 9 (by omega) rfl,g 5 10 (by omega) rfl]; rfl
   exact⟨[],rfl,h0 hf⟩
theorem rb {k:Int} (h:Q (.bool (mg k)) []):ACall Tryz.prog 138 0 [.sl 1 (ints6.map fun n=>[fI n]) true,fI k] [] Q:=by
 refine ad Tryz.func138 0 rfl (aA rfl) ?_
 conv=>whnf
 refine .pure (xz (fun e i=>⟨rfl,?_⟩) (fun e=>⟨rfl,?_⟩))
 . conv=>whnf
   rw[e]at h;refine⟨[],rfl,?_⟩;show Q (.bool (decide (0<=(i:Int)))) []
   rw[decide_eq_true (by omega)]; exact h
 . conv=>whnf
   rw[e]at h;exact⟨[],rfl,h⟩
theorem ub {k:Int} (h:Q (.bool (mg k)) []):ACall Tryz.prog 96 0 [fI k] [] Q:=by
 refine ad Tryz.func96 0 rfl (aA rfl) ?_
 conv=>whnf
 refine .frz 0 rfl rfl (by repeat (first | exact trivial | refine And.intro (Nat.le_refl _) ?_)) (.pure (rb ⟨rfl,?_⟩))
 conv=>whnf
 exact⟨[],rfl,h⟩
def gB (k:Int):Bool:=decide (k=3)||(decide (k=4)||decide (k=5))
theorem tk {k:Int} (h:Q (.bool (gB k)) []):ACall Tryz.prog 80 0 [fI k] [] Q:=by
 refine ad Tryz.func80 0 rfl (aA rfl) ?_
 conv=>whnf
 unfold gB at h;refine ac (fun c1=>?_) (fun c1=>?_)<;>rw[c1]at h<;>try rw[c1]<;>conv=>whnf
 focus exact⟨[],rfl,h⟩
 refine ac (fun c2=>?_) (fun c2=>?_)<;>rw[c2]at h<;>try rw[c2]<;>conv=>whnf
 focus exact⟨[],rfl,h⟩
 exact⟨[],rfl,h⟩
end
section
structure BL (v:Val):Prop where
 k:ei v.k
 n:ei v.n
 t:v.t.length<=Globs.txt
theorem yy:∀ {es:List (List V)},(∀x∈es,∃(k n:Int) (s:List UInt8),x = [.int .i64 k,.int .i64 n,.str s]/\ei k/\ei n/\s.length<=Globs.txt) -> ∃l:List Val,es=ah l /\ ∀v∈l,BL v
 | [],_=>⟨[],rfl,by simp⟩
 | x::es,h=>by
  obtain⟨k,n,s,rfl,h1,h2,h3⟩:=h x (by simp)
  obtain⟨l,rfl,hl⟩:=yy (es:=es) fun y hy=>h y (by simp[hy])
  refine⟨⟨k,n,s⟩::l,rfl,fun v hv=>?_⟩
  rcases List.mem_cons.1 hv with rfl | hv
  . exact⟨h1,h2,h3⟩
  . exact hl v hv
end
section
variable {Q:V->List O->Prop}
def KJ (k:Int):Bool:=decide (1<=k)&&decide (k<=4)
def tW (c:Col):Bool:=ai c.n&&KJ c.k
def kW (c:Chg):Bool:=decide (c.ks=0)&&decide (c.c.length=0)
def lh (c:Chg):Bool :=
 if c.k=1 then fC c.c c.ks&&decide (c.col=gG)
 else if c.k=2 then kW c&&decide (c.col=gG)
 else if c.k=3\/c.k=5 then kW c&&tW c.col
 else kW c&&(ai c.col.n&&(decide (c.col.k=0) && !c.col.o))
def qv (c:Chg):Int :=
 if c.k=1\/c.k=2\/c.k=3\/c.k=5\/c.k=4 then(if ai c.t&&lh c then 0 else 1)else 5
theorem Ev {c:Chg} (h:¬(c.k=1\/c.k=2\/c.k=3\/c.k=5\/c.k=4)):qv c=5:=by unfold qv; rw[if_neg h]
theorem cF {c:Chg} {b:Bool} (hk:c.k=1\/c.k=2\/c.k=3\/c.k=5\/c.k=4) (h:(ai c.t&&lh c)=b):qv c=if b then 0 else 1:=by
 unfold qv; rw[if_pos hk,h]
theorem tL {c:Col} (h:Q (.bool (tW c)) []):ACall Tryz.prog 136 0 [.agg [.str c.n,.int .i64 c.k,.bool c.o]] [] Q:=by
 refine ad Tryz.func136 0 rfl (aA rfl) ?_
 conv=>whnf
 refine .pure (ib ⟨rfl,?_⟩)
 conv=>whnf
 unfold tW KJ at h;cases c1:ai c.n<;>rw[c1]at h<;>conv=>whnf
 . exact⟨[],rfl,h⟩
 refine ac (fun c2=>?_) (fun c2=>?_)<;>rw[c2]at h<;>try rw[c2]<;>conv=>whnf
 . exact⟨[],rfl,Bm h (by simp)⟩
 . exact⟨[],rfl,Bm h (by simp)⟩
theorem Al {c:Col} (h:Q (.bool (decide (c=gG))) []):ACall Tryz.prog 130 0 [.agg [.str c.n,.int .i64 c.k,.bool c.o]] [] Q:=by
 refine ad Tryz.func130 0 rfl (aA rfl) ?_
 conv=>whnf
 exact⟨[],rfl,Bm h (rY c gG).symm⟩
theorem wa (k:Int) (t n:List UInt8) (kk:Int) (o:Bool):VSub (.agg [.int .i64 k,.str t,.nils,.int .i64 0,.str n,.int .i64 kk,.bool o]) (vZ ⟨k,t,[],0,⟨n,kk,o⟩⟩) :=
 .agg (.cons (.refl _) (.cons (.refl _) (.cons (au false) (VSubs.refl _))))
theorem Lw (c:Chg):decide (c=⟨c.k,c.t,c.c,c.ks,gG⟩)=decide (c.col=gG):=by cases c; simp
theorem Lx (c:Chg):decide (c=⟨c.k,c.t,[],0,gG⟩)=(kW c&&decide (c.col=gG)):=by
 cases c; simp[kW,Bool.and_comm,Bool.and_assoc,Bool.and_left_comm]
theorem Ly (c:Chg):decide (c=⟨c.k,c.t,[],0,c.col⟩)=kW c:=by
 cases c; simp[kW,Bool.and_comm]
theorem Lz (c:Chg):decide (c=⟨c.k,c.t,[],0,⟨c.col.n,0,false⟩⟩)=(kW c&&(decide (c.col.k=0) && !c.col.o)):=by
 obtain⟨k,t,l,ks,⟨n,kk,o⟩⟩:=c;cases o<;>simp[kW,Bool.and_comm,Bool.and_assoc,Bool.and_left_comm]
theorem uf {n m:Int} {H:List O} (h:Q (fI n) H) (e:n=m):Q (fI m) H:=e ▸ h
theorem tK {c:Chg} (hl:c.c.length<9223372036854775808) (h:Q (fI (qv c)) []):ACall Tryz.prog 95 0 [vZ c] [] Q:=by
 refine ad Tryz.func95 0 rfl (aA rfl) ?_
 conv=>whnf
 refine .pure (ib ⟨rfl,?_⟩)
 conv=>whnf
 refine ac (fun k1=>?_) (fun k1=>?_)<;>try rw[k1]<;>conv=>whnf
 . have k1' : c.k=1:=aB k1;have hK:lh c=(fC c.c c.ks&&decide (c.col=gG)):=by unfold lh; rw[if_pos k1']
   cases hn:ai c.t<;>conv=>whnf
   . exact⟨[],rfl,uf h (cF (b:=false) (.inl k1') (by rw[hn]; rfl))⟩
   refine .pure (BJ (l:=c.c) (keys:=c.ks) ⟨rfl,?_⟩)
   conv=>whnf
   cases hm:fC c.c c.ks<;>conv=>whnf
   . exact⟨[],rfl,uf h (cF (b:=false) (.inl k1') (by rw[hK,hm]; simp))⟩
   refine .pure (gr (a:=c) (b:=⟨c.k,c.t,c.c,c.ks,gG⟩) hl ⟨rfl,?_⟩);rw[Lw]
   conv=>whnf
   cases hc:decide (c.col=gG)<;>conv=>whnf
   . exact⟨[],rfl,uf h (cF (b:=false) (.inl k1') (by rw[hK,hc]; simp))⟩
   . exact⟨[],rfl,uf h (cF (b:=true) (.inl k1') (by rw[hK,hc,hn,hm]; rfl))⟩
 have k1' : ¬c.k=1:=aG k1;refine ac (fun k2=>?_) (fun k2=>?_)<;>try rw[k2]<;>conv=>whnf
 . have k2' : c.k=2:=aB k2;have hK:lh c=(kW c&&decide (c.col=gG)):=by unfold lh; rw[if_neg k1', if_pos k2']
   cases hn:ai c.t<;>conv=>whnf
   . exact⟨[],rfl,uf h (cF (b:=false) (.inr (.inl k2')) (by rw[hn]; rfl))⟩
   refine .pure (ACall.args (.cons (.refl _) (.cons (wa _ _ _ _ _) (VSubs.refl _))) (gr (a:=c) (b:=⟨c.k,c.t,[],0,gG⟩) hl ⟨rfl,?_⟩));rw[Lx]
   conv=>whnf
   cases hc:(kW c&&decide (c.col=gG))<;>conv=>whnf
   . exact⟨[],rfl,uf h (cF (b:=false) (.inr (.inl k2')) (by rw[hK,hc]; simp))⟩
   . exact⟨[],rfl,uf h (cF (b:=true) (.inr (.inl k2')) (by rw[hK,hc,hn]; rfl))⟩
 have k2' : ¬c.k=2:=aG k2;refine ac (fun k3=>?_) (fun k3=>?_)<;>try rw[k3]<;>conv=>whnf
 focus
  have k35:c.k=3\/c.k=5:=.inl (aB k3)
 rotate_left
 focus
  have k3' : ¬c.k=3:=aG k3;refine ac (fun k5=>?_) (fun k5=>?_)<;>try rw[k5]<;>conv=>whnf
 focus
  have k35:c.k=3\/c.k=5:=.inr (aB k5)
 rotate_left
 focus
  have k5' : ¬c.k=5:=aG k5;refine ac (fun k4=>?_) (fun k4=>?_)<;>try rw[k4]<;>conv=>whnf
  . have k4' : c.k=4:=aB k4;have hk:c.k=1\/c.k=2\/c.k=3\/c.k=5\/c.k=4:=.inr (.inr (.inr (.inr k4')));have hK:lh c=(kW c&&(ai c.col.n&&(decide (c.col.k=0) && !c.col.o))):=by
     unfold lh; rw[if_neg k1', if_neg k2', if_neg (by omega)]
    cases hn:ai c.t<;>conv=>whnf
    . exact⟨[],rfl,uf h (cF (b:=false) hk (by rw[hn]; rfl))⟩
    refine .pure (ib ⟨rfl,?_⟩)
    conv=>whnf
    cases hm:ai c.col.n<;>conv=>whnf
    . exact⟨[],rfl,uf h (cF (b:=false) hk (by rw[hK,hm]; simp))⟩
    refine .pure (ACall.args (.cons (.refl _) (.cons (wa _ _ _ _ _) (VSubs.refl _))) (gr (a:=c) (b:=⟨c.k,c.t,[],0,⟨c.col.n,0,false⟩⟩) hl ⟨rfl,?_⟩));rw[Lz]
    conv=>whnf
    cases hc:(kW c&&(decide (c.col.k=0) && !c.col.o))<;>conv=>whnf
    . exact⟨[],rfl,uf h (cF (b:=false) hk (by rw[hK,hm,Bool.true_and,hc]; simp))⟩
    . exact⟨[],rfl,uf h (cF (b:=true) hk (by rw[hK,hm,Bool.true_and,hc,hn]; rfl))⟩
  . have k4' : ¬c.k=4:=aG k4;have k3'' : ¬c.k=3:=k3';exact⟨[],rfl,uf h (Ev (by omega))⟩
 all_goals
  have hk:c.k=1\/c.k=2\/c.k=3\/c.k=5\/c.k=4:=by omega
  have hK:lh c=(kW c&&tW c.col):=by
   unfold lh; rw[if_neg k1', if_neg k2', if_pos k35]
  cases hn:ai c.t<;>conv=>whnf
  . exact⟨[],rfl,uf h (cF (b:=false) hk (by rw[hn]; rfl))⟩
  refine .pure (tL (c:=c.col) ⟨rfl,?_⟩)
  conv=>whnf
  cases hm:tW c.col<;>conv=>whnf
  . exact⟨[],rfl,uf h (cF (b:=false) hk (by rw[hK,hm]; simp))⟩
  refine .pure (ACall.args (.cons (.refl _) (.cons (wa _ _ _ _ _) (VSubs.refl _))) (gr (a:=c) (b:=⟨c.k,c.t,[],0,c.col⟩) hl ⟨rfl,?_⟩));rw[Ly]
  conv=>whnf
  cases hc:kW c<;>conv=>whnf
  . exact⟨[],rfl,uf h (cF (b:=false) hk (by rw[hK,hc]; simp))⟩
  . exact⟨[],rfl,uf h (cF (b:=true) hk (by rw[hK,hc,hn,hm]; rfl))⟩
theorem tO {c:Chg} (h:Q (fI (qv c)) []):ACall Tryz.prog 91 0 [vZ c] [] Q:=by
 refine ad Tryz.func91 0 rfl (aA rfl) ?_
 conv=>whnf
 refine .pure (fT ⟨rfl,?_⟩)
 conv=>whnf
 refine .pure (fT ⟨rfl,?_⟩)
 conv=>whnf
 have hlk:=aw c.c;refine ac (fun e1=>?_) (fun e1=>?_)<;>try rw[e1]<;>conv=>whnf
 all_goals
  refine ac (fun e2=>?_) (fun e2=>?_)<;>try rw[e2]<;>conv=>whnf
 all_goals
  refine .pure (Al (c:=c.col) ⟨rfl,?_⟩)
  conv=>whnf
  refine .pure (xH (l:=c.c) (keys:=c.ks) ⟨rfl,?_⟩)
  conv=>whnf
  repeat' (refine ac (fun e=>?_) (fun e=>?_)<;>try rw[e]<;>conv=>whnf)
 all_goals
  refine⟨[],rfl,uf h ?_⟩;unfold qv lh kW tW KJ
  simp_all
  try omega
theorem pP {l:List Val} (hl:l.length<1000000) (h:Q (.ms 3 0 0 l.length false) [.buf (ah l)]) :
 ACall Tryz.prog 63 0 [.sl 3 (ah l) false] [] Q:=by
 have hlk:=aC l;cases l with
 | nil =>
  refine ACall.sub (ACall.sel (ACall.adopt (ad Tryz.func63 0 rfl (aA rfl) ?_)))
  conv=>whnf
  refine⟨?_,?_⟩
  . conv=>whnf
    exact⟨[],rfl,[0],rfl,_,_,VSub.ms0 3 0 0 false,HSub.refl _,h⟩
  . conv=>whnf
    refine⟨by decide,fun _=>?_,fun e=>absurd rfl e⟩
    conv=>whnf
    exact⟨[0],rfl,[0],rfl,_,_,VSub.msRoom 3 0 0,HSub.refl _,h⟩
 | cons c r =>
  refine ad Tryz.func63 0 rfl (aA rfl) ?_
  conv=>whnf
  refine⟨by decide,fun e=>by simp[ah]at e,fun _=>?_⟩
  conv=>whnf
  refine⟨(show(ah (c::r)).length*32<=70368744177664 by rw[hlk]; omega),?_⟩
  conv=>whnf
  exact⟨[1],rfl,by rw[<-hlk]at h; exact h⟩
theorem BE (l:List Val) (i:Nat):ah (l.eraseIdx i)=(ah l).take i++(ah l).drop (i+1):=by
 rw[List.eraseIdx_eq_take_drop_succ]; simp[ah]
theorem vG {l:List Val} {i:Nat} (hl:l.length<1000000) (h0:0<i) (hi:i<l.length) (h:Q (.ms 3 0 0 (l.length-1) false) [.buf (ah (l.eraseIdx i) ++ [[fI 0,fI 0,.str []]])]) :
 ACall Tryz.prog 145 1 [.ms 3 0 0 l.length false,fI i,fI ((i+1:Nat):Int)] [.buf (ah l)] Q:=by
 have hlk:=aC l;refine ad Tryz.func145 1 rfl (aA rfl) ?_
 conv=>whnf
 by_cases c:i+1=l.length
 all_goals
  first
   | rw[show decide (((i+1:Nat):Int)=(l.length:Int))=true by simp; omega]
   | rw[show decide (((i+1:Nat):Int)=(l.length:Int))=false by simp; omega]
  conv=>whnf
  refine⟨by omega,?_⟩
  conv=>whnf
  rw[show decide ((i:Int)=((i+1:Nat):Int))=false by simp; omega]
  conv=>whnf
  refine⟨[0,1,2,3,4,5,6,7],by kernel_rfl,by kernel_rfl,?_⟩
  conv=>whnf
  refine⟨by omega,?_⟩
  conv=>whnf
  refine⟨by omega,?_⟩
  conv=>whnf
  refine⟨by rw[hlk]; simp; omega,?_⟩
  conv=>whnf
  rw[show List.take (l.length-((i+1:Nat):Int).toNat) (List.drop (((i+1:Nat):Int).toNat+0) (ah l))=(ah l).drop (i+1) by
   rw[Int.toNat_natCast,Nat.add_zero,List.take_of_length_le (by simp[hlk])]]
  rw[show 0+((i:Nat):Int).toNat=i by omega]
  have e3:((ah l).drop (i+1)).length=l.length-(i+1):=by simp[hlk]
  refine⟨⟨by omega,by rw[e3,hlk]; omega⟩,?_⟩
  rw[e3,Int.toNat_natCast,show i+(l.length-(i+1))=l.length-1 by omega]
  have e4:((ah l).take i++(ah l).drop (i+1)++(ah l).drop (l.length-1)).length=l.length:=by simp[hlk]; omega
  have e5:(ah l).take i++(ah l).drop (i+1)=ah (l.eraseIdx i):=(BE l i).symm;rw[e5]at e4 ⊢;have e6:(ah (l.eraseIdx i)).length=l.length-1:=by rw[aC,List.length_eraseIdx,if_pos hi]
  conv=>whnf
  refine⟨⟨by omega,by omega,.inr ⟨by omega,(by omega:0+((l.length:Nat):Int).toNat<=(ah (l.eraseIdx i)++(ah l).drop (l.length-1)).length)⟩⟩,?_⟩
  conv=>whnf
  rw[Int.toNat_natCast,Int.toNat_natCast];refine⟨⟨by omega,by omega⟩,?_⟩
  conv=>whnf
  refine⟨[0],rfl,?_⟩
  show Q (.ms 3 0 0 ((i:Int).toNat+(l.length-(i+1))) false) [O.buf (List.take ((i:Int).toNat+(l.length-(i+1))+0) (ah (l.eraseIdx i)++List.drop (l.length-1) (ah l)) ++
   List.replicate (l.length-((i:Int).toNat+(l.length-(i+1)))) [fI 0,fI 0,.str []] ++
   List.drop ((i:Int).toNat+(l.length-(i+1))+0+(l.length-((i:Int).toNat+(l.length-(i+1))))) (ah (l.eraseIdx i)++List.drop (l.length-1) (ah l)))]
  rw[Int.toNat_natCast,show i+(l.length-(i+1))=l.length-1 by omega,Nat.add_zero,yg e6 e4 (by omega)]
  exact h
def cO (l:List Col) (k:Int) (c:Col) (r:List Val):List Val :=
 if k=3 then r ++ [val0]else if k=4 then r.eraseIdx (dQ c.n l 0).toNat else if k=5 then r.set (dQ c.n l 0).toNat val0 else r
theorem F5 (l:List Val) (i:Nat) (v:Val):(ah l).set i (cP v)=ah (l.set i v):=by
 simp[ah,List.map_set]
def lK (l:List Col) (k:Int) (c:Col) (n:Nat):Prop:=k=3\/((k=4\/k=5)/\0<dQ c.n l 0/\dQ c.n l 0<n)
theorem CU {l:List Col} {keys k:Int} {c:Col} {x1 x2 x3:V} {r:List Val} (hl:l.length<1000000) (hr:r.length<1000000) (hc:lK l k c r.length) (h:Q (.sl 3 (ah (cO l k c r)) false) []) :
 ACall Tryz.prog 104 0 [sch l keys,Kx k x1 x2 x3 c,.sl 3 (ah r) false] [] Q:=by
 have hlr:=aC r;refine ACall.ret (ad Tryz.func104 0 rfl (aA rfl) ?_)
 conv=>whnf
 refine .call [] 0 ⟨rfl,rfl,rfl⟩ (pP hr ?_)
 conv=>whnf
 refine .pure (jp hl ⟨rfl,?_⟩)
 conv=>whnf
 unfold cO at h;by_cases c1:k=3
 focus
  rw[if_pos c1]at h;rw[show decide (k=3)=true by simp[c1]]
  conv=>whnf
  refine⟨Nat.le_refl _,?_⟩
  conv=>whnf
  refine⟨(by omega:r.length+0=(ah r).length),?_⟩
  conv=>whnf
  refine⟨Nat.le_trans (Nat.mul_le_mul_right _ (by rw[aD,List.length_take,List.drop_zero,hlr]; exact Nat.add_le_add (Nat.le_refl _) (Nat.min_le_left _ _))) (show(r.length+1)*32<=70368744177664 by omega),?_⟩
  conv=>whnf
  refine⟨[4],rfl,.frz 0 rfl (by repeat (first | exact trivial | refine And.intro (Nat.le_of_eq (Nat.zero_add _)) ?_)) (.done [] rfl ?_)⟩
  show Q (.sl 3 (List.take (ah r ++ [cP val0]).length (ah r ++ [cP val0])) false) []
  rw[List.take_length,show ah r ++ [cP val0]=ah (r ++ [val0]) by rw[lJ]; rfl]
  exact h
 obtain⟨i,hi⟩:∃i:Nat,dQ c.n l 0=i:=⟨(dQ c.n l 0).toNat,by rcases hc with h1 | ⟨_,h2,_⟩; exact absurd h1 c1; omega⟩
 have hi2:0<i/\i<r.length:=by rcases hc with h1 | ⟨_,h2,h3⟩; exact absurd h1 c1; omega
 rw[hi,Int.toNat_natCast]at h;simp only[hi];rw[if_neg c1]at h;rw[show decide (k=3)=false by simp[c1]]
 conv=>whnf
 by_cases c2:k=4
 focus
  rw[if_pos c2]at h;rw[show decide (k=4)=true by simp[c2]]
  conv=>whnf
  rw[show IntKind.i64.wrap ((i:Int)+1)=((i+1:Nat):Int) by rw[aQ (by omega)]; rfl]
  refine .call [2] 1 ⟨rfl,rfl,rfl⟩ (vG hr hi2.1 hi2.2 ?_)
  conv=>whnf
  have e6:(ah (r.eraseIdx i)).length=r.length-1:=by rw[aC,List.length_eraseIdx,if_pos hi2.2]
  refine⟨[2],rfl,.frz 0 rfl ⟨(by rw[aD,e6]; simp:0+(r.length-1)<=(ah (r.eraseIdx i) ++ [[fI 0,fI 0,.str []]]).length),trivial⟩ (.done [] rfl ?_)⟩
  show Q (.sl 3 (List.take (r.length-1) (ah (r.eraseIdx i) ++ [[fI 0,fI 0,.str []]])) false) []
  rw[<-e6,List.take_left];exact h
 rw[if_neg c2]at h;rw[show decide (k=4)=false by simp[c2]]
 conv=>whnf
 have c3:k=5:=by rcases hc with h1 | ⟨h1,_⟩; exact absurd h1 c1; rcases h1 with h1 | h1; exact absurd h1 c2; exact h1
 rw[if_pos c3]at h;rw[show decide (k=5)=true by simp[c3]]
 conv=>whnf
 have hget:r[i]? = some r[i]:=aS hi2.2;refine⟨⟨by omega,by omega⟩,?_⟩
 conv=>whnf
 refine⟨_,bU hget,?_⟩
 conv=>whnf
 refine⟨[2],rfl,.frz 0 rfl ⟨(by rw[List.length_set]; omega:0+r.length<=((ah r).set i (cP val0)).length),trivial⟩ (.done [] rfl ?_)⟩
 show Q (.sl 3 (List.take r.length ((ah r).set i (cP val0))) false) []
 rw[List.take_of_length_le (by rw[List.length_set]; omega),F5]
 exact h
def i4 (i:Int) (k:Int) (r:List Val):Nat->List Val
 | 0=>[]
 | j+1=>if(j:Int)=i/\k=5 then i4 i k r j ++ [val0]else if(j:Int)=i/\k=4 then i4 i k r j else i4 i k r j ++ [r.getD j val0]
theorem m5 {r:List Val} {j:Nat} (h:j<r.length):r.take (j+1)=r.take j ++ [r.getD j val0]:=by
 rw[List.take_add_one,aS h];simp[List.getD,aS h]
theorem wZ (i k:Int) (r:List Val):∀j,(i4 i k r j).length<=j
 | 0=>by simp[i4]
 | j+1=>by
  have:=wZ i k r j;unfold i4
  repeat' split
  all_goals first | (rw[aD,List.length_singleton]; omega) | omega
theorem IO (i:Int) (r:List Val):∀j,j<=r.length->i4 i 3 r j=r.take j
 | 0,_=>by simp[i4]
 | j+1,h=>by
  rw[i4,if_neg (by omega),if_neg (by omega),IO i r j (by omega),m5 (by omega)]
theorem IP (i:Nat) (r:List Val):∀j,j<=r.length->i4 i 4 r j=(r.take j).eraseIdx i
 | 0,_=>by simp[i4]
 | j+1,h=>by
  have hl:(r.take j).length=j:=by rw[List.length_take]; omega
  rw[i4,if_neg (by omega),IP i r j (by omega),m5 (by omega)]
  by_cases e:j=i
  . subst e;rw[if_pos ⟨rfl,rfl⟩,List.eraseIdx_append_of_length_le (by omega),hl]
    simp[List.eraseIdx_of_length_le (show(r.take j).length<=j by omega)]
  . rw[if_neg (by omega)]
    rcases Nat.lt_or_ge i j with h1 | h1
    . rw[List.eraseIdx_append_of_lt_length (by omega)]
    . rw[List.eraseIdx_of_length_le (by omega),List.eraseIdx_of_length_le (by rw[aD,List.length_singleton]; omega)]
theorem IQ (i:Nat) (r:List Val):∀j,j<=r.length->i4 i 5 r j=(r.take j).set i val0
 | 0,_=>by simp[i4]
 | j+1,h=>by
  have hl:(r.take j).length=j:=by rw[List.length_take]; omega
  rw[i4,IQ i r j (by omega),m5 (by omega)]
  by_cases e:j=i
  . subst e;rw[if_pos ⟨rfl,rfl⟩,List.set_append_right _ _ (by omega),hl,List.set_eq_of_length_le (show(r.take j).length<=j by omega)]
    simp
  . rw[if_neg (by omega),if_neg (by omega)]
    rcases Nat.lt_or_ge i j with h1 | h1
    . rw[List.set_append_left _ _ (by omega)]
    . rw[List.set_eq_of_length_le (by omega),List.set_eq_of_length_le (by rw[aD,List.length_singleton]; omega)]
theorem Ir {l:List Col} {k:Int} {c:Col} {r:List Val} (hc:lK l k c r.length) :
 (if k=3 then i4 (dQ c.n l 0) k r r.length ++ [val0]else i4 (dQ c.n l 0) k r r.length)=cO l k c r:=by
 unfold cO;by_cases c1:k=3
 . subst c1; rw[if_pos rfl,if_pos rfl,IO _ _ _ (Nat.le_refl _),List.take_length]
 obtain⟨i,hi⟩:∃i:Nat,dQ c.n l 0=i:=⟨(dQ c.n l 0).toNat,by rcases hc with h1 | ⟨_,h2,_⟩; exact absurd h1 c1; omega⟩
 rw[if_neg c1,if_neg c1,hi,Int.toNat_natCast];by_cases c2:k=4
 . subst c2; rw[if_pos rfl,IP _ _ _ (Nat.le_refl _),List.take_length]
 have c3:k=5:=by rcases hc with h1 | ⟨h1,_⟩; exact absurd h1 c1; rcases h1 with h1 | h1; exact absurd h1 c2; exact h1
 subst c3;rw[if_neg (by omega),if_pos rfl,IQ _ _ _ (Nat.le_refl _),List.take_length]
theorem Ai {l:List Col} {keys k:Int} {c:Col} {x1 x2 x3:V} {r:List Val} (hl:l.length<1000000) (hr:r.length<1000000) (hc:lK l k c r.length) (h:Q (.sl 3 (ah (cO l k c r)) false) []) :
 ACall Tryz.prog 56 0 [sch l keys,Kx k x1 x2 x3 c,.sl 3 (ah r) false] [] Q:=by
 have hlr:=aC r;refine ACall.ret (ad Tryz.func56 0 rfl (aA rfl) ?_)
 conv=>whnf
 refine .pure (rq hl ⟨rfl,?_⟩)
 conv=>whnf
 rw[<-Ir hc]at h;generalize dQ c.n l 0=i0 at *
 refine⟨⟨[2,3,4,7,8,9],fun m ws H=>∃(j:Nat) (y1 y2 y3:V),ws = [.sl 3 (ah r) false,.ptr 0 0,.ptr 1 0,.ms 3 2 0 (ah (i4 i0 k r j)).length false,fI i0,fI j] /\
  H = [.cells [.sl 3 (cols l) false,fI keys],.cells [fI k,y1,y2,y3,.str c.n,fI c.k,.bool c.o],.buf (ah (i4 i0 k r j))]/\j<=r.length/\m=r.length-j,
  .frz (r.length+1) (.adopt (.sub _ _ (.cons (VSub.refl _) (.cons (VSub.refl _) (.cons (VSub.refl _) (.cons (n9 3 2) (VSubs.refl _))))) (HSub.refl _) (.go [0,1,2] rfl r.length (by omega) ⟨0,_,_,_,rfl,rfl,by omega,rfl⟩))),?_⟩⟩
 rintro m ws H ⟨j,y1,y2,y3,rfl,rfl,hj,rfl⟩
 conv=>whnf
 refine ac (fun d1=>?_) (fun d1=>?_)<;>try rw[d1]<;>conv=>whnf
 rotate_left
 focus
  have d1' := aG d1;have hj' : j=r.length:=by omega
  subst hj';by_cases c1:k=3
  . rw[if_pos c1]at h;rw[show decide (k=3)=true by simp[c1]]
    conv=>whnf
    refine⟨Nat.le_refl _,?_⟩
    conv=>whnf
    refine⟨rfl,?_⟩
    conv=>whnf
    refine⟨Nat.le_trans (Nat.mul_le_mul_right _ (by rw[aD,List.length_take,List.drop_zero,aC]; exact Nat.add_le_add (wZ _ _ _ _) (Nat.min_le_left _ _))) (show(r.length+1)*32<=70368744177664 by omega),?_⟩
    conv=>whnf
    refine⟨[4],rfl,.frz 0 rfl (by repeat (first | exact trivial | refine And.intro (Nat.le_of_eq (Nat.zero_add _)) ?_)) (.done [] rfl ?_)⟩
    show Q (.sl 3 (List.take (ah (i4 i0 k r r.length) ++ [cP val0]).length (ah (i4 i0 k r r.length) ++ [cP val0])) false) []
    rw[List.take_length,show ∀x:List Val,ah x ++ [cP val0]=ah (x ++ [val0])from fun x=>by rw[lJ]; rfl]
    exact h
  . rw[if_neg c1]at h;rw[show decide (k=3)=false by simp[c1]]
    conv=>whnf
    refine⟨[2],rfl,.frz 0 rfl (by repeat (first | exact trivial | refine And.intro (Nat.le_of_eq (Nat.zero_add _)) ?_)) (.done [] rfl ?_)⟩
    show Q (.sl 3 (List.take (ah (i4 i0 k r r.length)).length (ah (i4 i0 k r r.length))) false) []
    rw[List.take_length];exact h
 have d1' := aB d1;have hlt:j<r.length:=by omega
 have hlen:=wZ i0 k r j;have hv:r[j]? = some (r.getD j val0):=by simp[List.getD,aS hlt]
 by_cases e1:(j:Int)=i0
 rotate_left
 focus
  rw[show decide ((j:Int)=i0)=false by simp[e1]]
  conv=>whnf
  rw[show decide ((j:Int)=i0)=false by simp[e1]]
  conv=>whnf
  have hsnoc:ah (i4 i0 k r (j+1))=ah (i4 i0 k r j) ++ [cP (r.getD j val0)]:=by
   rw[i4,if_neg (by simp[e1]),if_neg (by simp[e1]),lJ]; rfl
  refine⟨_,⟨by omega,bU hv⟩,?_⟩
  conv=>whnf
  refine⟨Nat.le_refl _,?_⟩
  conv=>whnf
  refine⟨rfl,?_⟩
  conv=>whnf
  refine⟨Nat.le_trans (Nat.mul_le_mul_right _ (by rw[aD,List.length_take,List.drop_zero,aC]; exact Nat.add_le_add hlen (Nat.min_le_left _ _))) (show(j+1)*32<=70368744177664 by omega),?_⟩
  conv=>whnf
  refine .go [0,1,4] rfl (r.length-(j+1)) (by omega) ⟨j+1,aM (bI [0,1,4]) y1,aM (bI [0,1,4]) y2,aM (bI [0,1,4]) y3,?_,?_,by omega,rfl⟩
  rotate_left
  focus
   show [O.cells [.sl 3 (cols l) false,fI keys],O.cells [fI k,aM (bI [0,1,4]) y1,aM (bI [0,1,4]) y2,aM (bI [0,1,4]) y3,.str c.n,fI c.k,.bool c.o],O.buf (ah (i4 i0 k r j) ++ [cP (r.getD j val0)])]=_
   rw[hsnoc]<;>rfl
  show [V.sl 3 (ah r) false,V.ptr 0 0,V.ptr 1 0,V.ms 3 2 0 (ah (i4 i0 k r j) ++ [cP (r.getD j val0)]).length false,fI i0,V.int .i64 (IntKind.i64.wrap ((j:Int)+1))]=_
  rw[hsnoc,aQ (by omega)]<;>rfl
 rw[show decide ((j:Int)=i0)=true by simp[e1]]
 conv=>whnf
 by_cases e2:k=5
 focus
  rw[show decide (k=5)=true by simp[e2]]
  conv=>whnf
  have hsnoc:ah (i4 i0 k r (j+1))=ah (i4 i0 k r j) ++ [cP val0]:=by
   rw[i4,if_pos ⟨e1,e2⟩,lJ]; rfl
  refine⟨Nat.le_refl _,?_⟩
  conv=>whnf
  refine⟨rfl,?_⟩
  conv=>whnf
  refine⟨Nat.le_trans (Nat.mul_le_mul_right _ (by rw[aD,List.length_take,List.drop_zero,aC]; exact Nat.add_le_add hlen (Nat.min_le_left _ _))) (show(j+1)*32<=70368744177664 by omega),?_⟩
  conv=>whnf
  refine .go [0,1,4] rfl (r.length-(j+1)) (by omega) ⟨j+1,aM (bI [0,1,4]) y1,aM (bI [0,1,4]) y2,aM (bI [0,1,4]) y3,?_,?_,by omega,rfl⟩
  rotate_left
  focus
   show [O.cells [.sl 3 (cols l) false,fI keys],O.cells [fI k,aM (bI [0,1,4]) y1,aM (bI [0,1,4]) y2,aM (bI [0,1,4]) y3,.str c.n,fI c.k,.bool c.o],O.buf (ah (i4 i0 k r j) ++ [cP val0])]=_
   rw[hsnoc]<;>rfl
  show [V.sl 3 (ah r) false,V.ptr 0 0,V.ptr 1 0,V.ms 3 2 0 (ah (i4 i0 k r j) ++ [cP val0]).length false,fI i0,V.int .i64 (IntKind.i64.wrap ((j:Int)+1))]=_
  rw[hsnoc,aQ (by omega)]<;>rfl
 rw[show decide (k=5)=false by simp[e2]]
 conv=>whnf
 rw[show decide ((j:Int)=i0)=true by simp[e1]]
 conv=>whnf
 by_cases e3:k=4
 focus
  rw[show decide (k=4)=true by simp[e3]]
  conv=>whnf
  refine .go [0,1,2] rfl (r.length-(j+1)) (by omega) ⟨j+1,aM (bI [0,1,2]) y1,aM (bI [0,1,2]) y2,aM (bI [0,1,2]) y3,?_,?_,by omega,rfl⟩
  rotate_left
  focus
   have e:i4 i0 k r (j+1)=i4 i0 k r j:=by rw[i4,if_neg (by simp[e2]),if_pos ⟨e1,e3⟩]
   rw[e]<;>rfl
  have e:i4 i0 k r (j+1)=i4 i0 k r j:=by rw[i4,if_neg (by simp[e2]),if_pos ⟨e1,e3⟩]
  show [V.sl 3 (ah r) false,V.ptr 0 0,V.ptr 1 0,V.ms 3 2 0 (ah (i4 i0 k r j)).length false,fI i0,V.int .i64 (IntKind.i64.wrap ((j:Int)+1))]=_
  rw[e,aQ (by omega)]<;>rfl
 rw[show decide (k=4)=false by simp[e3]]
 conv=>whnf
 have hsnoc:ah (i4 i0 k r (j+1))=ah (i4 i0 k r j) ++ [cP (r.getD j val0)]:=by
  rw[i4,if_neg (by simp[e2]),if_neg (by simp[e3]),lJ]; rfl
 refine⟨_,⟨by omega,bU hv⟩,?_⟩
 conv=>whnf
 refine⟨Nat.le_refl _,?_⟩
 conv=>whnf
 refine⟨rfl,?_⟩
 conv=>whnf
 refine⟨Nat.le_trans (Nat.mul_le_mul_right _ (by rw[aD,List.length_take,List.drop_zero,aC]; exact Nat.add_le_add hlen (Nat.min_le_left _ _))) (show(j+1)*32<=70368744177664 by omega),?_⟩
 conv=>whnf
 refine .go [0,1,4] rfl (r.length-(j+1)) (by omega) ⟨j+1,aM (bI [0,1,4]) y1,aM (bI [0,1,4]) y2,aM (bI [0,1,4]) y3,?_,?_,by omega,rfl⟩
 rotate_left
 focus
  show [O.cells [.sl 3 (cols l) false,fI keys],O.cells [fI k,aM (bI [0,1,4]) y1,aM (bI [0,1,4]) y2,aM (bI [0,1,4]) y3,.str c.n,fI c.k,.bool c.o],O.buf (ah (i4 i0 k r j) ++ [cP (r.getD j val0)])]=_
  rw[hsnoc]<;>rfl
 show [V.sl 3 (ah r) false,V.ptr 0 0,V.ptr 1 0,V.ms 3 2 0 (ah (i4 i0 k r j) ++ [cP (r.getD j val0)]).length false,fI i0,V.int .i64 (IntKind.i64.wrap ((j:Int)+1))]=_
 rw[hsnoc,aQ (by omega)]<;>rfl
set_option maxRecDepth 10000 in
theorem CW {l:List Val} {f:Bool} (hl:l.length<=1000) (hv:∀v∈l,v.t.length<=4096) (h:Q (.str (eH l)) []):ACall Tryz.prog 65 0 [.sl 3 (ah l) f] [] Q:=by
 have hlv:=aC l;refine ad Tryz.func65 0 rfl (aA rfl) ?_
 conv=>whnf
 refine⟨⟨[0,3,4],fun m ws H=>∃i:Nat,ws = [.sl 3 (ah l) f,.ms 1 0 0 (bs (eH (l.take i))).length false,fI i]/\H = [.buf (bs (eH (l.take i)))]/\i<=l.length/\m=l.length-i,
  .frz (l.length+1) (.adopt (.sub _ _ (.cons (VSub.refl _) (.cons (n9 1 0) (VSubs.refl _))) (HSub.refl _) (.go [0] rfl l.length (by omega) ⟨0,rfl,rfl,by omega,rfl⟩))),?_⟩⟩
 rintro m ws H ⟨i,rfl,rfl,hi,rfl⟩
 conv=>whnf
 refine ac (fun c1=>?_) (fun c1=>?_)<;>try rw[c1]<;>conv=>whnf
 rotate_left
 focus
  have c1' := aG c1;rw[List.take_of_length_le (by omega)]
  refine⟨(by omega:0+(bs (eH l)).length<=(bs (eH l)).length),eH l,?_,?_⟩
  . show cq (List.take (bs (eH l)).length (List.drop 0 (bs (eH l))))=_
    rw[List.drop_zero,List.take_length]; exact bz _
  conv=>whnf
  exact⟨[],rfl,h⟩
 have c1' := aB c1;have hlt:i<l.length:=by omega
 have hg:l[i]? = some l[i]:=aS hlt;have hvt:=hv l[i] (List.getElem_mem hlt);generalize l[i]=v at *;have hsn:=uU hg;have hP:(eH (l.take i)).length<=9000000:=Nat.le_trans (sK fun w hw=>hv w (List.mem_of_mem_take hw)) (by rw[List.length_take]; omega)
 generalize hPe:eH (l.take i)=P at *;refine⟨_,⟨by omega,bU hg⟩,?_⟩
 conv=>whnf
 refine⟨Nat.le_refl _,?_⟩
 conv=>whnf
 refine⟨rfl,?_⟩
 conv=>whnf
 refine⟨Nat.le_trans (Nat.mul_le_mul_right _ (by rw[aD,List.length_take,List.drop_zero]; exact Nat.add_le_add (show _<=9000000 by simp only[al,aD,List.length_cons,List.length_nil,List.length_take,List.length_drop]; omega) (Nat.le_trans (Nat.min_le_left _ _) (by decide)))) (show(9000000+2)*1<=70368744177664 by omega),?_⟩
 conv=>whnf
 have goI:IntKind.i64.wrap ((i:Int)+1)=((i+1:Nat):Int):=by rw[aQ (by omega)]; rfl
 by_cases k1:v.k=1
 focus
  have hk:hU v = [b8 v.k,b8 v.n]:=by unfold hU t7; rw[if_pos k1]
  rw[hk]at hsn;rw[show decide (v.k=1)=true by simp[k1]]
  conv=>whnf
  refine⟨Nat.le_refl _,?_⟩
  conv=>whnf
  refine⟨rfl,?_⟩
  conv=>whnf
  refine⟨Nat.le_trans (Nat.mul_le_mul_right _ (by rw[aD,List.length_take,List.drop_zero]; exact Nat.add_le_add (show _<=9000001 by simp only[al,aD,List.length_cons,List.length_nil,List.length_take,List.length_drop]; omega) (Nat.le_trans (Nat.min_le_left _ _) (by decide)))) (show(9000001+2)*1<=70368744177664 by omega),?_⟩
  conv=>whnf
  refine .go [5] rfl (l.length-(i+1)) (by omega) ⟨i+1,?_,?_,by omega,rfl⟩
  . show [V.sl 3 (ah l) f,V.ms 1 0 0 (bs P ++ [[V.int .u8 (IntKind.u8.wrap v.k)]] ++ [[V.int .u8 (IntKind.u8.wrap v.n)]]).length false,V.int .i64 (IntKind.i64.wrap ((i:Int)+1))]=_
    rw[goI,hsn]; simp[bs]
  . show [O.buf (bs P ++ [[V.int .u8 (IntKind.u8.wrap v.k)]] ++ [[V.int .u8 (IntKind.u8.wrap v.n)]])]=_
    rw[hsn]; simp[bs,bZ]
 rw[show decide (v.k=1)=false by simp[k1]]
 conv=>whnf
 by_cases k2:v.k=2
 focus
  have hk:hU v=b8 v.k::qD (fA v.n) 8:=by unfold hU t7; rw[if_neg k1,if_pos k2]
  rw[hk]at hsn;rw[show decide (v.k=2)=true by simp[k2]]
  conv=>whnf
  refine⟨⟨[0,3,4,6,7],fun m ws H=>∃(j:Nat),ws = [.sl 3 (ah l) f,.ms 1 1 0 (bs (P++b8 v.k::qD (fA v.n) j)).length false,fI i,.int .u64 (vV (fA v.n) j),fI j] /\
   H = [.cells (cP v),.buf (bs (P++b8 v.k::qD (fA v.n) j))]/\j<=8/\m=8-j,.frz 9 (.go [1,3] rfl 8 (by omega) ⟨0,?_,?_,by omega,rfl⟩),?_⟩⟩
  . show [V.sl 3 (ah l) f,V.ms 1 1 0 (bs P ++ [[V.int .u8 (IntKind.u8.wrap v.k)]]).length false,fI i,V.int .u64 (fA v.n),fI 0]=_
    simp[bs,qD,vV]
  . show [O.cells (cP v),O.buf (bs P ++ [[V.int .u8 (IntKind.u8.wrap v.k)]])]=_
    simp[bs,qD,bZ]
  rintro m ws H ⟨j,rfl,rfl,hj,rfl⟩
  conv=>whnf
  have hbl:=qF (fA v.n) j;refine ac (fun d1=>?_) (fun d1=>?_)<;>try rw[d1]<;>conv=>whnf
  focus
   have d1' := aB d1;refine⟨by decide,?_⟩
   conv=>whnf
   refine⟨Nat.le_refl _,?_⟩
   conv=>whnf
   refine⟨rfl,?_⟩
   conv=>whnf
   refine⟨Nat.le_trans (Nat.mul_le_mul_right _ (by rw[aD,List.length_take,List.drop_zero]; exact Nat.add_le_add (show _<=9000009 by simp only[al,aD,List.length_cons,List.length_nil,List.length_take,List.length_drop]; omega) (Nat.le_trans (Nat.min_le_left _ _) (by decide)))) (show(9000009+2)*1<=70368744177664 by omega),?_⟩
   conv=>whnf
   refine .go [0,3] rfl (8-(j+1)) (by omega) ⟨j+1,?_,?_,by omega,rfl⟩
   . show [V.sl 3 (ah l) f,V.ms 1 1 0 (bs (P++b8 v.k::qD (fA v.n) j) ++ [[V.int .u8 (IntKind.u8.wrap (IntKind.u64.wrap ((vV (fA v.n) j).tdiv 72057594037927936)))]]).length false,fI i,V.int .u64 (IntKind.u64.wrap (vV (fA v.n) j*256)),V.int .i64 (IntKind.i64.wrap ((j:Int)+1))]=_
     rw[aQ (n:=(j:Int)+1) (by omega)]; simp[bs,qD,vV]
   . show [O.cells (cP v),O.buf (bs (P++b8 v.k::qD (fA v.n) j) ++ [[V.int .u8 (IntKind.u8.wrap (IntKind.u64.wrap ((vV (fA v.n) j).tdiv 72057594037927936)))]])]=_
     simp[bs,qD,bZ]
  have d1' := aG d1;have hj8:j=8:=by omega
  subst hj8;refine .go [1] rfl (l.length-(i+1)) (by omega) ⟨i+1,?_,?_,by omega,rfl⟩
  . show [V.sl 3 (ah l) f,V.ms 1 0 0 (bs (P++b8 v.k::qD (fA v.n) 8)).length false,V.int .i64 (IntKind.i64.wrap ((i:Int)+1))]=_
    rw[goI,hsn]
  . show [O.buf (bs (P++b8 v.k::qD (fA v.n) 8))]=_
    rw[hsn]
 rw[show decide (v.k=2)=false by simp[k2]]
 conv=>whnf
 by_cases k34:v.k=3\/v.k=4
 rotate_left
 focus
  have hk:hU v = [b8 v.k]:=by unfold hU t7; rw[if_neg k1,if_neg k2,if_neg k34]
  rw[hk]at hsn;rw[show decide (v.k=3)=false by simp; omega]
  conv=>whnf
  rw[show decide (v.k=4)=false by simp; omega]
  conv=>whnf
  refine .go [3] rfl (l.length-(i+1)) (by omega) ⟨i+1,?_,?_,by omega,rfl⟩
  . show [V.sl 3 (ah l) f,V.ms 1 0 0 (bs P ++ [[V.int .u8 (IntKind.u8.wrap v.k)]]).length false,V.int .i64 (IntKind.i64.wrap ((i:Int)+1))]=_
    rw[goI,hsn]; simp[bs]
  . show [O.buf (bs P ++ [[V.int .u8 (IntKind.u8.wrap v.k)]])]=_
    rw[hsn]; simp[bs,bZ]
 have hk:hU v=b8 v.k::(eW v.t ++ [0,1]):=by unfold hU t7; rw[if_neg k1,if_neg k2,if_pos k34]
 rw[hk]at hsn;by_cases k3:v.k=3
 focus
  rw[show decide (v.k=3)=true by simp[k3]]
  conv=>whnf
 rotate_left
 focus
  rw[show decide (v.k=3)=false by simp[k3]]
  conv=>whnf
  rw[show decide (v.k=4)=true by simp; omega]
  conv=>whnf
 all_goals
  refine⟨⟨[0,3,4,5,8],fun m ws H=>∃(j:Nat),ws = [.sl 3 (ah l) f,.ms 1 1 0 (bs (P++b8 v.k::eW (v.t.take j))).length false,fI i,.ptr 0 0,fI j] /\
   H = [.cells (cP v),.buf (bs (P++b8 v.k::eW (v.t.take j)))]/\j<=v.t.length/\m=v.t.length-j,.frz (v.t.length+1) (.go [1,3] rfl v.t.length (by omega) ⟨0,?_,?_,by omega,rfl⟩),?_⟩⟩
  . show [V.sl 3 (ah l) f,V.ms 1 1 0 (bs P ++ [[V.int .u8 (IntKind.u8.wrap v.k)]]).length false,fI i,V.ptr 0 0,fI 0]=_
    simp[bs,eW]
  . show [O.cells (cP v),O.buf (bs P ++ [[V.int .u8 (IntKind.u8.wrap v.k)]])]=_
    simp[bs,eW,bZ]
  rintro m ws H ⟨j,rfl,rfl,hj,rfl⟩
  conv=>whnf
  have hel:=nP (v.t.take j);rw[List.length_take]at hel;refine ac (fun d1=>?_) (fun d1=>?_)<;>try rw[d1]<;>conv=>whnf
  focus
   have d1' := aB d1;have hjl:j<v.t.length:=by omega
   have hgb:v.t[j]? = some v.t[j]:=aS hjl;generalize v.t[j]=b at *;have hes:=uJ hgb;refine⟨b,⟨by omega,hgb⟩,?_⟩
   conv=>whnf
   refine⟨Nat.le_refl _,?_⟩
   conv=>whnf
   refine⟨rfl,?_⟩
   conv=>whnf
   refine⟨Nat.le_trans (Nat.mul_le_mul_right _ (by rw[aD,List.length_take,List.drop_zero]; exact Nat.add_le_add (show _<=9010000 by simp only[al,aD,List.length_cons,List.length_nil,List.length_take,List.length_drop]; omega) (Nat.le_trans (Nat.min_le_left _ _) (by decide)))) (show(9010000+2)*1<=70368744177664 by omega),?_⟩
   conv=>whnf
   refine⟨b,⟨by omega,hgb⟩,?_⟩
   conv=>whnf
   by_cases hb:b=0
   . subst hb
     conv=>whnf
     refine⟨Nat.le_refl _,?_⟩
     conv=>whnf
     refine⟨rfl,?_⟩
     conv=>whnf
     refine⟨Nat.le_trans (Nat.mul_le_mul_right _ (by rw[aD,List.length_take,List.drop_zero]; exact Nat.add_le_add (show _<=9010001 by simp only[al,aD,List.length_cons,List.length_nil,List.length_take,List.length_drop]; omega) (Nat.le_trans (Nat.min_le_left _ _) (by decide)))) (show(9010001+2)*1<=70368744177664 by omega),?_⟩
     conv=>whnf
     have he:sj 0 = [0,255]:=rfl;rw[he]at hes;refine .go [0,5] rfl (v.t.length-(j+1)) (by omega) ⟨j+1,?_,?_,by omega,rfl⟩
     . show [V.sl 3 (ah l) f,V.ms 1 1 0 (bs (P++b8 v.k::eW (v.t.take j)) ++ [[V.int .u8 ((0:UInt8).toNat:Int)]] ++ [[V.int .u8 255]]).length false,fI i,V.ptr 0 0,V.int .i64 (IntKind.i64.wrap ((j:Int)+1))]=_
       rw[aQ (n:=(j:Int)+1) (by omega),hes]; simp[bs]
     . show [O.cells (cP v),O.buf (bs (P++b8 v.k::eW (v.t.take j)) ++ [[V.int .u8 ((0:UInt8).toNat:Int)]] ++ [[V.int .u8 255]])]=_
       rw[hes]; simp[bs]
   . have hb' : ¬(b.toNat:Int)=0:=fun e=>hb (by
      have:b.toNat=0:=by omega
      exact UInt8.toNat_inj.1 (by rw[this]; rfl))
     rw[show decide ((b.toNat:Int)=0)=false by simp only[hb', decide_false]]
     conv=>whnf
     have he:sj b = [b]:=by unfold sj; rw[if_neg hb]
     rw[he]at hes;refine .go [0,3] rfl (v.t.length-(j+1)) (by omega) ⟨j+1,?_,?_,by omega,rfl⟩
     . show [V.sl 3 (ah l) f,V.ms 1 1 0 (bs (P++b8 v.k::eW (v.t.take j)) ++ [[V.int .u8 (b.toNat:Int)]]).length false,fI i,V.ptr 0 0,V.int .i64 (IntKind.i64.wrap ((j:Int)+1))]=_
       rw[aQ (n:=(j:Int)+1) (by omega),hes]; simp[bs]
     . show [O.cells (cP v),O.buf (bs (P++b8 v.k::eW (v.t.take j)) ++ [[V.int .u8 (b.toNat:Int)]])]=_
       rw[hes]; simp[bs]
  have d1' := aG d1;have hjt:j=v.t.length:=by omega
  subst hjt;rw[List.take_length]at hel ⊢;refine⟨Nat.le_refl _,?_⟩
  conv=>whnf
  refine⟨rfl,?_⟩
  conv=>whnf
  refine⟨Nat.le_trans (Nat.mul_le_mul_right _ (by rw[aD,List.length_take,List.drop_zero]; exact Nat.add_le_add (show _<=9010000 by simp only[al,aD,List.length_cons,List.length_nil,List.length_take,List.length_drop]; omega) (Nat.le_trans (Nat.min_le_left _ _) (by decide)))) (show(9010000+2)*1<=70368744177664 by omega),?_⟩
  conv=>whnf
  refine .go [3] rfl (l.length-(i+1)) (by omega) ⟨i+1,?_,?_,by omega,rfl⟩
  . show [V.sl 3 (ah l) f,V.ms 1 0 0 (bs (P++b8 v.k::eW v.t) ++ [[V.int .u8 0],[V.int .u8 1]]).length false,V.int .i64 (IntKind.i64.wrap ((i:Int)+1))]=_
    rw[goI,hsn]; simp[bs]
  . show [O.buf (bs (P++b8 v.k::eW v.t) ++ [[V.int .u8 0],[V.int .u8 1]])]=_
    rw[hsn]; simp[bs]
def bd (vs:List Val):Prop:=∀v∈vs,v.t.length<1000000000000000000
def pv (l:List Col) (vs:List Val) (n:Nat):Prop:=∀(i:Nat) (c:Col) (v:Val),i<n->l[i]? = some c->vs[i]? = some v->bG c v=true
theorem sJ {l:List Col} {keys:Nat} {vs:List Val} {i:Nat} {c:Col} {v:Val} (hi:i<keys) (hc:l[i]? = some c) (hv:vs[i]? = some v) (h:bG c v=false):aP l keys vs=false:=by
 unfold aP;have:(List.range keys).all (Bu l vs)=false:=by
  rw[Bool.eq_false_iff];intro hx;rw[List.all_eq_true]at hx;have:=hx i (List.mem_range.2 hi);rw[io hc hv,h]at this; cases this
 rw[this,Bool.and_false]
theorem uT {l:List Col} {keys:Nat} {vs:List Val} (hk:keys<=vs.length) (h:pv l vs keys):aP l keys vs=true:=by
 unfold aP;rw[decide_eq_true hk,Bool.true_and,List.all_eq_true];intro i hi;exact zH fun c v=>h i c v (List.mem_range.1 hi)
theorem zI {l:List Col} {vs:List Val} {n:Nat} (h:pv l vs n) (hn:n<=l.length):∀v∈vs.take n,v.t.length<=4096:=by
 intro v hv;obtain⟨i,hi⟩:=List.mem_iff_getElem?.1 hv;have hlt:=(liZ.1 hi).1;rw[List.length_take]at hlt;rw[List.getElem?_take_of_lt (by omega)]at hi
 exact zJ (h i l[i] v (by omega) (aS (by omega)) hi)
def pa (l:List Col) (keys:Nat) (vs:List Val):V:=if aP l keys vs then .tup [.str (eH (vs.take keys)),fI 0]else .tup [.str [],fI 9]
theorem oK {l:List Col} {keys:Nat} {vs:List Val} {f:Bool} (hl:l.length<=1000) (hk:keys<=l.length) (ht:bd vs) (h:Q (pa l keys vs) []) :
 ACall Tryz.prog 38 0 [sch l keys,.sl 3 (ah vs) f] [] Q:=by
 have hlc:=aw l;have hlv:=aC vs;refine ad Tryz.func38 0 rfl (aA rfl) ?_
 conv=>whnf
 unfold pa at h;refine ac (fun c1=>?_) (fun c1=>?_)<;>try rw[c1]<;>conv=>whnf
 focus
  have c1' := aB c1;have e:aP l keys vs=false:=by unfold aP; rw[decide_eq_false (by omega),Bool.false_and]
  rw[e]at h;exact⟨[],rfl,h⟩
 have c1' := aG c1;refine⟨⟨[1,2,6],fun m ws H=>∃i:Nat,ws = [.sl 3 (ah vs) f,.ptr 0 0,fI i]/\H = [.cells [.sl 3 (cols l) false,fI keys]]/\pv l vs i/\i<=keys/\m=keys-i,
  .at keys ⟨0,rfl,rfl,fun i c v hi=>by omega,Nat.zero_le _,rfl⟩,?_⟩⟩
 rintro m ws H ⟨i,rfl,rfl,hs,hi,rfl⟩
 conv=>whnf
 refine ac (fun c2=>?_) (fun c2=>?_)<;>try rw[c2]<;>conv=>whnf
 focus
  have c2' := aB c2;have hi1:i<l.length:=by omega
  have hi2:i<vs.length:=by omega
  have g1:l[i]? = some l[i]:=aS hi1;have g2:vs[i]? = some vs[i]:=aS hi2;have htt:=ht vs[i] (List.getElem_mem hi2);generalize l[i]=c at *;generalize vs[i]=v at *;refine⟨List.range 11,by kernel_rfl,by kernel_rfl,?_⟩
  conv=>whnf
  refine⟨_,⟨by omega,bj g1⟩,?_⟩
  conv=>whnf
  refine⟨_,⟨by omega,bU g2⟩,?_⟩
  conv=>whnf
  refine .pure (qr (c:=c) (v:=v) htt ⟨rfl,?_⟩)
  conv=>whnf
  cases e:bG c v
  . conv=>whnf
    rw[sJ (by omega) g1 g2 e]at h
    exact⟨[],rfl,h⟩
  . conv=>whnf
    refine .go [0] rfl (keys-(i+1)) (by omega) ⟨i+1,?_,rfl,fun j c' v' hj hc' hv' => ?_,by omega,rfl⟩
    . show [V.sl 3 (ah vs) f,V.ptr 0 0,V.int .i64 (IntKind.i64.wrap ((i:Int)+1))]=_
      rw[aQ (by omega)]; rfl
    . rcases Nat.lt_or_ge j i with h1 | h1
      . exact hs j c' v' h1 hc' hv'
      . have:j=i:=by omega
        subst this;rw[g1]at hc'; rw[g2]at hv'; cases hc'; cases hv'; exact e
 have c2' := aG c2;have hie:i=keys:=by omega
 subst hie;rw[uT (by omega) hs,if_pos rfl]at h
 refine⟨⟨by omega,by omega⟩,?_⟩
 conv=>whnf
 rw[Int.toNat_natCast,show List.take i (ah vs)=ah (vs.take i) by simp[ah,List.map_take]]
 refine .pure (CW (by rw[List.length_take]; omega) (zI hs hk) ⟨rfl,?_⟩)
 conv=>whnf
 exact⟨[],rfl,h⟩
theorem iu {l:List Col} {keys:Int} {vs:List Val} {f:Bool} (hl:l.length<=1000) (ht:bd vs) (h:Q (.bool (bB l vs)) []) :
 ACall Tryz.prog 68 0 [sch l keys,.sl 3 (ah vs) f] [] Q:=by
 have hlc:=aw l;have hlv:=aC vs;refine ad Tryz.func68 0 rfl (aA rfl) ?_
 conv=>whnf
 refine ac (fun c1=>?_) (fun c1=>?_)<;>try rw[c1]<;>conv=>whnf
 focus
  have e:bB l vs=false:=by
   unfold bB;rw[decide_eq_false (by simp at c1; omega),Bool.false_and]
  rw[e]at h;exact⟨[],rfl,h⟩
 have hlen:vs.length=l.length:=by simp at c1; omega
 clear c1;refine⟨⟨[1,2,5],fun m ws H=>∃i:Nat,ws = [.sl 3 (ah vs) f,.ptr 0 0,fI i]/\H = [.cells [.sl 3 (cols l) false,fI keys]]/\pv l vs i/\i<=vs.length/\m=vs.length-i,
  .at _ ⟨0,rfl,rfl,fun i c v hi=>by omega,Nat.zero_le _,rfl⟩,?_⟩⟩
 rintro m ws H ⟨i,rfl,rfl,hs,hi,rfl⟩
 conv=>whnf
 refine ac (fun c2=>?_) (fun c2=>?_)<;>try rw[c2]<;>conv=>whnf
 focus
  have c2' := aB c2;have hi1:i<l.length:=by omega
  have hi2:i<vs.length:=by omega
  have g1:l[i]? = some l[i]:=aS hi1;have g2:vs[i]? = some vs[i]:=aS hi2;have htt:=ht vs[i] (List.getElem_mem hi2);generalize l[i]=c at *;generalize vs[i]=v at *;refine⟨List.range 11,by kernel_rfl,by kernel_rfl,?_⟩
  conv=>whnf
  refine⟨_,⟨by omega,bj g1⟩,?_⟩
  conv=>whnf
  refine⟨_,⟨by omega,bU g2⟩,?_⟩
  conv=>whnf
  refine .pure (qr (c:=c) (v:=v) htt ⟨rfl,?_⟩)
  conv=>whnf
  cases e:bG c v
  . conv=>whnf
    have e2:bB l vs=false:=by
     have:=sJ (keys:=vs.length) hi2 g1 g2 e;unfold aP at this;unfold bB;rw[decide_eq_true (Nat.le_refl _),Bool.true_and]at this;rw[this,Bool.and_false]
    rw[e2]at h;exact⟨[],rfl,h⟩
  . conv=>whnf
    refine .go [0] rfl (vs.length-(i+1)) (by omega) ⟨i+1,?_,rfl,fun j c' v' hj hc' hv' => ?_,by omega,rfl⟩
    . show [V.sl 3 (ah vs) f,V.ptr 0 0,V.int .i64 (IntKind.i64.wrap ((i:Int)+1))]=_
      rw[aQ (by omega)]; rfl
    . rcases Nat.lt_or_ge j i with h1 | h1
      . exact hs j c' v' h1 hc' hv'
      . have:j=i:=by omega
        subst this;rw[g1]at hc'; rw[g2]at hv'; cases hc'; cases hv'; exact e
 have c2' := aG c2;have hie:i=vs.length:=by omega
 subst hie;rw[sq hlen fun j c v hc hv=>hs j c v (liZ.1 hv).1 hc hv]at h
 exact⟨[],rfl,h⟩
end
end Go.Proofs.YteiagdlfccbpcaaGreatDoorPg
