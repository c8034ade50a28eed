/- Own texts, laid together: Pg10ZDNames, Pg10ZDSch, Pg10ZDSchB, Pg10ZDSchC, Pg10ZDSchD, Pg10ZDSchE, Pg10ZDSchF, Pg10ZDSchG, Pg10ZDSchH, Pg10ZDSchI, Pg10ZDSchJ, Pg10ZDEv1, Pg10ZDEv2, Pg10ZDEv3, Pg10ZDEv4, Pg10ZDEv5, Pg10ZDEv6, Pg10ZDEvIn, Pg10ZDEv7, Pg10ZDEv8, Pg10ZDValC, Pg10ZDValD, Pg10ZDValE. -/
import Derived.Test.YteiagdlfccbpcaaGreatDoorPgM17
import Derived.Lib.Bytealg
import Derived.Laws.BitsLemmas
import Derived.Test.YteiagdlfccbpcaaGreatDoorPgM11
import Derived.Test.YteiagdlfccbpcaaGreatDoorPgM12
set_option linter.unusedSimpArgs false
set_option linter.unusedVariables false
namespace Go.Proofs.YteiagdlfccbpcaaGreatDoorPg
open Go Go.RowKit
section
variable {Q:V -> List O -> Prop}
theorem IdxByteStr_ext {H:List O} (s:List UInt8) (c:Int):AExt Tryz.prog 202 [.str s,.int .u8 c] H (.int .i64 (Lib.indexByte s c.toNat.toUInt8)):=⟨fun I ρ w us _ h=>by
 obtain ⟨u0,l0,e0,h0,h⟩:=h.cons_inv;obtain ⟨u1,l1,e1,h1,h⟩:=h.cons_inv;have e2:l1 = []:=List.eq_nil_of_length_eq_zero h.1.symm;obtain ⟨b,hb,rfl⟩:=vr_str h0;have:=vr_int h1;subst this;have eu:us = #[Value.string b,Value.int .u8 c]:=by
  apply Array.ext';rw [e0,e1,e2]
 subst eu;refine ⟨_,?_,.int _ _ _⟩;rw [run_callFunc_extern Tryz.func202 (by kernel_rfl) (by kernel_rfl) (by kernel_rfl) (e:=Extern.BytealgIndexByte.indexByte) (by kernel_rfl),Lib.run_indexByteString,hb]
 rfl⟩
theorem IndexByteL_spec {s:List UInt8} {c:Int} (h:Q (.int .i64 (Lib.indexByte s c.toNat.toUInt8)) []):ACall Tryz.prog 200 0 [.str s,.int .u8 c] [] Q:=by
 refine by_body Tryz.func200 0 rfl (nbZ rfl) ?_
 conv=>whnf
 refine ⟨_,IdxByteStr_ext s c,?_⟩
 conv=>whnf
 exact ⟨[],rfl,h⟩
theorem IndexByte_spec {s:List UInt8} {c:Int} (h:Q (.int .i64 (Lib.indexByte s c.toNat.toUInt8)) []):ACall Tryz.prog 192 0 [.str s,.int .u8 c] [] Q:=by
 refine by_body Tryz.func192 0 rfl (nbZ rfl) ?_
 conv=>whnf
 refine .call [] 0 ⟨rfl,rfl,rfl⟩ (IndexByteL_spec ?_)
 conv=>whnf
 exact ⟨[],rfl,h⟩
theorem ValidRune_spec {r:Int} (h:∀ b,Utf8.valid r = b -> Q (.bool b) []):ACall Tryz.prog 193 0 [.int .i32 r] [] Q:=by
 refine by_body Tryz.func193 0 rfl (nbZ rfl) ?_
 conv=>whnf
 refine branch_i (fun c=>?_) (fun c=>?_)<;>try rw [c]<;>conv=>whnf
 all_goals try (refine branch_i (fun c=>?_) (fun c=>?_)<;>try rw [c]<;>conv=>whnf)
 all_goals try (refine branch_i (fun c=>?_) (fun c=>?_)<;>try rw [c]<;>conv=>whnf)
 all_goals try (refine branch_i (fun c=>?_) (fun c=>?_)<;>try rw [c]<;>conv=>whnf)
 all_goals simp only [decide_eq_true_eq,decide_eq_false_iff_not] at *
 all_goals first
  | exact ⟨[],rfl,h true (by simp [Utf8.valid]; omega)⟩
  | exact ⟨[],rfl,h false (by simp [Utf8.valid]; omega)⟩
theorem StrIndex_one {s:List UInt8} {b:UInt8} (hs:s.length ≠ 1) (h:Q (.int .i64 (Lib.indexByte s b)) []):ACall Tryz.prog 196 0 [.str s,.str [b]] [] Q:=by
 refine by_body Tryz.func196 0 rfl (nbZ rfl) ?_
 conv=>whnf
 refine branch_i (fun c=>?_) (fun c=>?_)<;>try rw [c]<;>conv=>whnf
 . exfalso;simp at c;rw [<- c] at hs;simp at hs
 . refine ⟨b,⟨by decide,rfl⟩,?_⟩
   conv=>whnf
   refine .call [] 0 ⟨rfl,rfl,rfl⟩ (IndexByteL_spec ?_)
   conv=>whnf
   exact ⟨[],rfl,by rw [show ((b.toNat:Int).toNat.toUInt8) = b by simp]; exact h⟩
theorem Index_one {s:List UInt8} {b:UInt8} (hs:s.length ≠ 1) (h:Q (.int .i64 (Lib.indexByte s b)) []):ACall Tryz.prog 184 0 [.str s,.str [b]] [] Q:=by
 refine by_body Tryz.func184 0 rfl (nbZ rfl) ?_
 conv=>whnf
 refine .call [] 0 ⟨rfl,rfl,rfl⟩ (StrIndex_one hs ?_)
 conv=>whnf
 exact ⟨[],rfl,h⟩
theorem Contains_one {s:List UInt8} {b:UInt8} (hs:s.length ≠ 1) (h:Q (.bool (decide (0 <= Lib.indexByte s b))) []):ACall Tryz.prog 164 0 [.str s,.str [b]] [] Q:=by
 refine by_body Tryz.func164 0 rfl (nbZ rfl) ?_
 conv=>whnf
 refine .call [] 0 ⟨rfl,rfl,rfl⟩ (Index_one hs ?_)
 conv=>whnf
 exact ⟨[],rfl,h⟩
theorem indexByte_none:∀ (s:List UInt8) (c:UInt8),(∀ b ∈ s,b ≠ c) -> Lib.indexByte s c = -1
 | [],c,_=>rfl
 | b :: l,c,h=>by
  unfold Lib.indexByte;have:(b == c) = false:=by simpa using h b (by simp)
  rw [this,indexByte_none l c fun x hx=>h x (by simp [hx])]
  rfl
theorem decL_ascii {b:UInt8} {r:List UInt8} (h:b.toNat < 128):decL (b :: r) = (b.toNat,1):=by
 simp [decL,h]
theorem drop_facts {α:Type} {s:List α} {pos:Nat} {b:α} {l:List α} (h:s.drop pos = b :: l):b ∈ s /\ pos < s.length /\ s.drop (pos + 1) = l /\ s = s.take pos ++ b :: l:=by
 have hb:b ∈ s.drop pos:=by rw [h]; simp
 refine ⟨List.mem_of_mem_drop hb,?_,?_,?_⟩
 . rcases Nat.lt_or_ge pos s.length with h' | h'
   . exact h'
   . rw [List.drop_eq_nil_iff.2 h'] at h; cases h
 . rw [<- List.drop_drop,h]; rfl
 . rw [<- h,List.take_append_drop]
theorem last_byte {r:Int} (hv:Utf8.valid r = true) (h:¬ (0 <= r /\ r < 128)):∃ c,(Utf8.encode r).data.toList[(Utf8.encode r).data.toList.length - 1]? = some c /\ 128 <= c.toNat /\ 2 <= (Utf8.encode r).data.toList.length /\ (Utf8.encode r).data.toList.length <= 4:=by
 have h0:0 <= r:=by simp [Utf8.valid] at hv; omega
 obtain ⟨g1,g2,g3⟩:=encode_facts r hv (by omega)
 generalize Utf8.encode r = ba at *;have hsz:ba.data.toList.length = ba.size:=by rw [Array.length_toList]; rfl
 have hlt:ba.size - 1 < ba.size:=by omega
 refine ⟨ba[ba.size - 1],?_,g3 hlt,by omega,by omega⟩
 rw [hsz,Array.getElem?_toList];exact Array.getElem?_eq_getElem hlt
theorem wrap_i64 {x:Int} (h0:-9223372036854775808 <= x) (h1:x < 9223372036854775808):IntKind.i64.wrap x = x:=by
 rw [IntKind.wrap_i64]; omega
theorem IndexRune_ascii {s:List UInt8} (hs:∀ b ∈ s,b.toNat < 128) {r:Int} (h0:0 <= r /\ r < 128 -> Q (.int .i64 (Lib.indexByte s (IntKind.u8.wrap r).toNat.toUInt8)) []) (h1:¬ (0 <= r /\ r < 128) -> Q (.int .i64 (-1)) []):ACall Tryz.prog 183 0 [.str s,.int .i32 r] [] Q:=by
 refine by_body Tryz.func183 0 rfl (nbZ rfl) ?_
 conv=>whnf
 refine branch_i (fun c=>?_) (fun c=>?_)<;>try rw [c]<;>conv=>whnf
 focus refine branch_i (fun c2=>?_) (fun c2=>?_)<;>try rw [c2]<;>conv=>whnf
 focus
  refine .call [] 0 ⟨rfl,rfl,rfl⟩ (IndexByte_spec ?_)
  conv=>whnf
  exact ⟨[],rfl,h0 ⟨dtZ c,dtZ c2⟩⟩
 all_goals
  have hr:¬ (0 <= r /\ r < 128):=by intro h; simp at *; omega
  replace h1:=h1 hr
  clear h0;refine branch_i (fun c=>?_) (fun c=>?_)<;>try rw [c]<;>conv=>whnf
  . refine ⟨⟨[175],fun n vs H=>vs = [.ptr 0 0] /\ ∃ pos,H = [.iter s pos] /\ n = s.length - pos,.at (s.length - 0) ⟨rfl,0,rfl,rfl⟩,?_⟩⟩
    rintro n vs H ⟨rfl,pos,rfl,rfl⟩
    conv=>whnf
    refine ⟨fun hd=>?_,fun b l hd=>?_⟩
    . conv=>whnf
      exact ⟨[],rfl,h1⟩
    . obtain ⟨d1,d2,d3,d4⟩:=drop_facts hd;rw [decL_ascii (hs b d1)]
      conv=>whnf
      refine branch_i (fun c=>?_) (fun c=>?_)<;>try rw [c]<;>conv=>whnf
      . have:=dtZ c;have:=hs b d1;simp at *;omega
      . refine .go [0] rfl (s.length - (pos + 1)) (by omega) ⟨rfl,pos + 1,rfl,rfl⟩
  . refine .call [] 0 ⟨rfl,rfl,rfl⟩ (ValidRune_spec fun v hv=>?_)
    conv=>whnf
    refine branch_i (fun c=>?_) (fun c=>?_)<;>try rw [c]<;>conv=>whnf
    . exact ⟨[],rfl,h1⟩
    . have hv' : v = true:=by simpa using c
      subst hv';obtain ⟨c,l1,l2,l3,l4⟩:=last_byte hv hr;generalize (Utf8.encode r).data.toList = rs at *;have hw:IntKind.i64.wrap ((rs.length:Int) - 1) = (rs.length:Int) - 1:=wrap_i64 (by omega) (by omega)
      refine ⟨⟨[0,7,8,9],fun n vs H=>H = [] /\ vs = [.str s,.str rs,.int .i64 ((rs.length:Int) - 1),.int .i64 ((rs.length:Int) - 1)],.at 0 ⟨rfl,?_⟩,?_⟩⟩
      . show [V.str s,V.str rs,V.int .i64 (IntKind.i64.wrap ((rs.length:Int) - 1)),V.int .i64 (IntKind.i64.wrap ((rs.length:Int) - 1))] = _
        rw [hw]
      rintro n vs H ⟨rfl,rfl⟩
      conv=>whnf
      refine branch_i (fun c3=>?_) (fun c3=>?_)<;>try rw [c3]<;>conv=>whnf
      . have hlt:rs.length - 1 < s.length:=by simp at c3; omega
        have ht:((rs.length:Int) - 1).toNat = rs.length - 1:=by omega
        have hsb:s[rs.length - 1]? = some (s[rs.length - 1]):=lgZ hlt;have hb:=hs _ (List.getElem_mem hlt);generalize s[rs.length - 1] = b at *;refine ⟨List.range 7,by kernel_rfl,by kernel_rfl,?_⟩
        conv=>whnf
        refine ⟨b,⟨by omega,by rw [ht]; exact hsb⟩,?_⟩
        conv=>whnf
        refine ⟨c,⟨by omega,by rw [ht]; exact l1⟩,?_⟩
        conv=>whnf
        refine branch_i (fun c4=>?_) (fun c4=>?_)<;>try rw [c4]<;>conv=>whnf
        . refine ⟨List.range 9,by kernel_rfl,by kernel_rfl,?_⟩
          conv=>whnf
          have hw2:IntKind.i64.wrap ((rs.length:Int) - 1 + 1) = (rs.length:Int):=by rw [wrap_i64 (by omega) (by omega)]; omega
          refine ⟨?_,?_⟩
          . simp only [hw2]; omega
          conv=>whnf
          refine ⟨c,⟨by omega,by rw [ht]; exact l1⟩,?_⟩
          conv=>whnf
          refine .call [] 0 ⟨rfl,rfl,rfl⟩ (IndexByte_spec ?_);rw [indexByte_none _ _ (fun x hx=>?_)]
          . conv=>whnf
            exact ⟨[],rfl,h1⟩
          . have:=hs x (List.mem_of_mem_drop hx);intro e;rw [e] at this;simp at this;omega
        . exfalso;simp at c4;omega
      . exact ⟨[],rfl,h1⟩
theorem ContainsRune_ascii {s:List UInt8} (hs:∀ b ∈ s,b.toNat < 128) {r:Int} (h0:0 <= r /\ r < 128 -> Q (.bool (decide (0 <= Lib.indexByte s (IntKind.u8.wrap r).toNat.toUInt8))) []) (h1:¬ (0 <= r /\ r < 128) -> Q (.bool false) []):ACall Tryz.prog 163 0 [.str s,.int .i32 r] [] Q:=by
 refine by_body Tryz.func163 0 rfl (nbZ rfl) ?_
 conv=>whnf
 refine .call [] 0 ⟨rfl,rfl,rfl⟩ (IndexRune_ascii hs (fun c=>?_) (fun c=>?_))
 . conv=>whnf
   exact ⟨[],rfl,h0 c⟩
 . conv=>whnf
   exact ⟨[],rfl,h1 c⟩
def set37:List UInt8:=[97,98,99,100,101,102,103,104,105,106,107,108,109,110,111,112,113,114,115,116,117,118,119,120,121,122,48,49,50,51,52,53,54,55,56,57,95]
def set26:List UInt8:=set37.take 26
def okByte (b:UInt8):Bool:=decide (0 <= Lib.indexByte set37 b)
def okHead (b:UInt8):Bool:=decide (0 <= Lib.indexByte set26 b)
def nameOk (s:List UInt8):Bool :=
 s.all okByte && (decide (s.length <= 32) && match s with
  | []=>false
  | b :: _=>okHead b)
theorem set37_ascii:∀ b ∈ set37,b.toNat < 128:=by decide
theorem decL_high {b:UInt8} {r:List UInt8} (h:¬ b.toNat < 128):¬ ((0:Int) <= Int.ofNat (decL (b :: r)).1 /\ Int.ofNat (decL (b :: r)).1 < 128):=by
 have key:128 <= (decL (b :: r)).1:=by
  unfold decL;simp only [List.getD_cons_zero];rw [if_neg h]
  repeat' split
  all_goals first
   | (simp [Utf8.runeError]; done)
   | (simp at *; omega)
 intro ⟨_,h2⟩;simp at h2;omega
theorem u8_wrap_byte (b:UInt8):(IntKind.u8.wrap (Int.ofNat b.toNat)).toNat.toUInt8 = b:=by
 have h:=b.toNat_lt;have:IntKind.u8.wrap (Int.ofNat b.toNat) = (b.toNat:Int):=by rw [IntKind.wrap_u8]; simp; omega
 rw [this];simp
theorem okByte_ascii {b:UInt8} (h:okByte b = true):b.toNat < 128:=by
 refine Decidable.by_contra fun hb=>?_
 have:Lib.indexByte set37 b = -1:=indexByte_none _ _ fun x hx e=>hb (e ▸ set37_ascii x hx)
 unfold okByte at h;rw [this] at h;simp at h
theorem nameOk_false {s:List UInt8} {b:UInt8} (hb:b ∈ s) (h:okByte b = false):nameOk s = false:=by
 unfold nameOk;have:s.all okByte = false:=by
  cases hx:s.all okByte with
  | false=>rfl
  | true=>rw [List.all_eq_true.1 hx b hb] at h; cases h
 rw [this]; rfl
theorem Name_spec {s:List UInt8} (h:Q (.bool (nameOk s)) []):ACall Tryz.prog 134 0 [.str s] [] Q:=by
 refine by_body Tryz.func134 0 rfl (nbZ rfl) ?_
 conv=>whnf
 refine ⟨⟨[0,6],fun n vs H=>vs = [.str s,.ptr 0 0] /\ ∃ pos,H = [.iter s pos] /\ n = s.length - pos /\ (s.take pos).all okByte = true,.at (s.length - 0) ⟨rfl,0,rfl,rfl,rfl⟩,?_⟩⟩
 rintro n vs H ⟨rfl,pos,rfl,rfl,hall⟩
 conv=>whnf
 refine ⟨fun hd=>?_,fun b l hd=>?_⟩
 . have hle:=List.drop_eq_nil_iff.1 hd;rw [List.take_of_length_le hle] at hall;clear hd hle;cases s with
   | nil =>
    conv=>whnf
    exact ⟨[],rfl,h⟩
   | cons b l =>
    have e:nameOk (b :: l) = (decide ((b :: l).length <= 32) && okHead b):=by unfold nameOk; rw [hall]; rfl
    rw [e] at h
    conv=>whnf
    refine branch_i (fun c=>?_) (fun c=>?_)<;>try rw [c]<;>conv=>whnf
    . have hl:decide ((b :: l).length <= 32) = true:=by simp at *; omega
      rw [hl,Bool.true_and] at h;refine ⟨⟨by decide,by simp; omega⟩,?_⟩
      conv=>whnf
      refine .call [] 0 ⟨rfl,rfl,rfl⟩ (Contains_one (b:=b) (by decide) ?_)
      conv=>whnf
      exact ⟨[],rfl,h⟩
    . have hl:decide ((b :: l).length <= 32) = false:=by simp at *; omega
      rw [hl,Bool.false_and] at h;exact ⟨[],rfl,h⟩
 . obtain ⟨d1,d2,d3,d4⟩:=drop_facts hd
   conv=>whnf
   refine .call [] 0 ⟨rfl,rfl,rfl⟩ (ContainsRune_ascii set37_ascii (fun c=>?_) (fun c=>?_))
   . have hb:b.toNat < 128:=Decidable.by_contra fun hb=>decL_high hb c
     rw [decL_ascii hb];simp only [u8_wrap_byte]
     conv=>whnf
     refine branch_i (fun c2=>?_) (fun c2=>?_)<;>try rw [c2]<;>conv=>whnf
     . rw [nameOk_false d1 (by simpa [okByte] using c2)] at h
       exact ⟨[],rfl,h⟩
     . refine .go [0] rfl (s.length - (pos + 1)) (by omega) ⟨rfl,pos + 1,rfl,rfl,?_⟩
       have:s.take (pos + 1) = s.take pos ++ [b]:=by
        rw [List.take_add_one];congr 1
        have:s[pos]? = some b:=by rw [<- List.head?_drop,hd]; rfl
        rw [this]; rfl
       rw [this,List.all_append,hall];simpa [okByte] using c2
   . rw [nameOk_false d1 (by
      cases hx:okByte b with
      | false=>rfl
      | true =>
       have hb:=okByte_ascii hx;rw [decL_ascii hb] at c;exact absurd ⟨by simp,by simp; omega⟩ c)] at h
     conv=>whnf
     exact ⟨[],rfl,h⟩
end
section
variable {Q:V -> List O -> Prop}
theorem take_snoc {α:Type} {P:α -> Prop} {l:List α} {i:Nat} {x:α} (h:∀ c ∈ l.take i,P c) (hx:l[i]? = some x) (hp:P x):∀ c ∈ l.take (i + 1),P c:=by
 intro c hc;rw [List.take_add_one,hx] at hc;rcases List.mem_append.1 hc with hc | hc
 . exact h c hc
 . simp at hc; subst hc; exact hp
theorem Find1_spec {c:Col} {name:List UInt8} (h:Q (.bool (decide (c.n = name))) [.cells [.str name]]):ACall Tryz.prog 175 1 [.agg [.str c.n,fI c.k,.bool c.o],.ptr 0 0] [.cells [.str name]] Q:=by
 refine by_body Tryz.func175 1 rfl (nbZ rfl) ?_
 conv=>whnf
 exact ⟨[0],rfl,h⟩
theorem IndexFunc_spec {l:List Col} {name:List UInt8} (hl:l.length < 1000000) (h:Q (fI (fnd name l 0)) [.cells [.str name]]) :
 ACall Tryz.prog 174 1 [.sl 3 (cols l) false,.fn (.func 175) [] [.ptr 0 0]] [.cells [.str name]] Q:=by
 refine by_body Tryz.func174 1 rfl (nbZ rfl) ?_
 conv=>whnf
 have hlk:=cols_len l;refine ⟨⟨[0,1,7,8],fun m vs H=>∃ i:Nat,vs = [.sl 3 (cols l) false,.fn (.func 175) [] [.ptr 0 0],fI (cols l).length,fI i] /\ H = [.cells [.str name]] /\ (∀ c ∈ l.take i,c.n ≠ name) /\ i <= l.length /\ m = l.length - i,.at _ ⟨0,rfl,rfl,by simp,Nat.zero_le _,rfl⟩,?_⟩⟩
 rintro m vs H ⟨i,rfl,rfl,hn,hi,rfl⟩
 conv=>whnf
 refine branch_i (fun c=>?_) (fun c=>?_)<;>try rw [c]<;>conv=>whnf
 . have c' := dtZ c;have hlt:i < l.length:=by omega
   have hget:l[i]? = some l[i]:=lgZ hlt;refine ⟨_,⟨by omega,cols_get hget⟩,?_⟩
   conv=>whnf
   refine .call [0] 1 ⟨rfl,rfl,rfl⟩ (Find1_spec ?_)
   conv=>whnf
   refine branch_i (fun c2=>?_) (fun c2=>?_)<;>try rw [c2]<;>conv=>whnf
   . rw [fnd_here hn hget (dtZ c2)] at h;exact ⟨[0],rfl,h⟩
   . refine .go [0] rfl (l.length - (i + 1)) (by omega) ⟨i + 1,?_,rfl,take_snoc hn hget (dfZ c2),by omega,rfl⟩
     show [V.sl 3 (cols l) false,V.fn (.func 175) [] [.ptr 0 0],fI (cols l).length,V.int .i64 (IntKind.i64.wrap ((i:Int) + 1))] = _
     rw [show IntKind.i64.wrap ((i:Int) + 1) = ((i + 1:Nat):Int) by rw [IntKind.wrap_i64]; omega]
 . have c' := dfZ c;rw [List.take_of_length_le (by omega)] at hn
   rw [fnd_none hn] at h;exact ⟨[0],rfl,h⟩
theorem Find_spec {l:List Col} {keys:Int} {name:List UInt8} (hl:l.length < 1000000) (h:Q (fI (fnd name l 0)) []) :
 ACall Tryz.prog 144 0 [sch l keys,.str name] [] Q:=by
 refine by_body Tryz.func144 0 rfl (nbZ rfl) ?_
 conv=>whnf
 refine .call [1] 1 ⟨rfl,rfl,rfl⟩ (IndexFunc_spec hl ?_)
 conv=>whnf
 exact ⟨[],rfl,h⟩
theorem RFind_spec {l:List Col} {keys:Int} {name:List UInt8} (hl:l.length < 1000000) (h:Q (fI (fnd name l 0)) []) :
 ACall Tryz.prog 88 0 [sch l keys,.str name] [] Q:=by
 refine by_body Tryz.func88 0 rfl (nbZ rfl) ?_
 conv=>whnf
 have hlk:=cols_len l;refine ⟨⟨[1,2,5],fun m vs H=>∃ i:Nat,vs = [.str name,.ptr 0 0,fI i] /\ H = [.cells [.sl 3 (cols l) false,fI keys]] /\ (∀ c ∈ l.take i,c.n ≠ name) /\ i <= l.length /\ m = l.length - i,.at _ ⟨0,rfl,rfl,by simp,Nat.zero_le _,rfl⟩,?_⟩⟩
 rintro m vs H ⟨i,rfl,rfl,hn,hi,rfl⟩
 conv=>whnf
 refine branch_i (fun c=>?_) (fun c=>?_)<;>try rw [c]<;>conv=>whnf
 . have c' := dtZ c;have hlt:i < l.length:=by omega
   have hget:l[i]? = some l[i]:=lgZ hlt;refine ⟨_,⟨by omega,cols_get hget⟩,?_⟩
   conv=>whnf
   refine branch_i (fun c2=>?_) (fun c2=>?_)<;>try rw [c2]<;>conv=>whnf
   . rw [fnd_here hn hget (dtZ c2)] at h;exact ⟨[],rfl,h⟩
   . refine .go [0] rfl (l.length - (i + 1)) (by omega) ⟨i + 1,?_,rfl,take_snoc hn hget (dfZ c2),by omega,rfl⟩
     show [V.str name,V.ptr 0 0,V.int .i64 (IntKind.i64.wrap ((i:Int) + 1))] = _
     rw [show IntKind.i64.wrap ((i:Int) + 1) = ((i + 1:Nat):Int) by rw [IntKind.wrap_i64]; omega]
 . have c' := dfZ c;rw [List.take_of_length_le (by omega)] at hn
   rw [fnd_none hn] at h;exact ⟨[],rfl,h⟩
end
section
variable {Q:V -> List O -> Prop}
def kindOk (k:Int):Bool:=decide (1 <= k) && decide (k <= 4)
theorem kind_spec {k:Int} (h:Q (.bool (kindOk k)) []):ACall Tryz.prog 165 0 [fI k] [] Q:=by
 refine by_body Tryz.func165 0 rfl (nbZ rfl) ?_
 conv=>whnf
 unfold kindOk at h;refine branch_i (fun c=>?_) (fun c=>?_)<;>rw [c] at h<;>try rw [c]<;>conv=>whnf
 . exact ⟨[],rfl,h⟩
 . exact ⟨[],rfl,h⟩
theorem Rkind_spec {k:Int} (h:Q (.bool (kindOk k)) []):ACall Tryz.prog 131 0 [fI k] [] Q:=by
 refine by_body Tryz.func131 0 rfl (nbZ rfl) ?_
 conv=>whnf
 unfold kindOk at h;refine branch_i (fun c=>?_) (fun c=>?_)<;>rw [c] at h<;>try rw [c]<;>conv=>whnf
 . exact ⟨[],rfl,h⟩
 . exact ⟨[],rfl,h⟩
def okB (n:Int):Bool:=!(((decide (n < 97) || decide (122 < n)) && (decide (n < 48) || decide (57 < n))) && !decide (n = 95))
def okH (n:Int):Bool:=!(decide (n < 97) || decide (122 < n))
theorem okB_eq:∀ n:Fin 256,okB (n.val:Int) = okByte (UInt8.ofNat n.val):=by decide +kernel
theorem okH_eq:∀ n:Fin 256,okH (n.val:Int) = okHead (UInt8.ofNat n.val):=by decide +kernel
theorem okB_byte (b:UInt8):okB (b.toNat:Int) = okByte b:=by
 have:=okB_eq ⟨b.toNat,b.toNat_lt⟩;simpa using this
theorem okH_byte (b:UInt8):okH (b.toNat:Int) = okHead b:=by
 have:=okH_eq ⟨b.toNat,b.toNat_lt⟩;simpa using this
theorem RName_spec {s:List UInt8} (h:Q (.bool (nameOk s)) []):ACall Tryz.prog 87 0 [.str s] [] Q:=by
 refine by_body Tryz.func87 0 rfl (nbZ rfl) ?_
 conv=>whnf
 cases s with
 | nil=>exact ⟨[],rfl,h⟩
 | cons b r =>
  rw [show decide (((b :: r).length:Int) < 1) = false by simp; omega]
  conv=>whnf
  refine branch_i (fun c1=>?_) (fun c1=>?_)<;>try rw [c1]<;>conv=>whnf
  focus
   have e:nameOk (b :: r) = false:=by unfold nameOk; rw [show decide ((b :: r).length <= 32) = false by simp at c1; simp; omega]; simp
   rw [e] at h;exact ⟨[],rfl,h⟩
  have hl:decide ((b :: r).length <= 32) = true:=by simp at c1; simp; omega
  have hho:=okH_byte b;unfold okH at hho;refine ⟨b,⟨by decide,rfl⟩,?_⟩
  conv=>whnf
  refine branch_i (fun c2=>?_) (fun c2=>?_)<;>try rw [c2]<;>conv=>whnf
  focus
   rw [c2] at hho;have e:nameOk (b :: r) = false:=by unfold nameOk; simp [<- hho]
   rw [e] at h;exact ⟨[],rfl,h⟩
  refine ⟨b,⟨by decide,rfl⟩,?_⟩
  conv=>whnf
  refine branch_i (fun c3=>?_) (fun c3=>?_)<;>try rw [c3]<;>conv=>whnf
  focus
   rw [c2,c3] at hho;have e:nameOk (b :: r) = false:=by unfold nameOk; simp [<- hho]
   rw [e] at h;exact ⟨[],rfl,h⟩
  rw [c2,c3] at hho;have e:nameOk (b :: r) = (b :: r).all okByte:=by unfold nameOk; rw [hl]; simp [<- hho]
  rw [e] at h;have hlen:=dtZ hl;clear e hl c1 c2 c3 hho;generalize b :: r = s at *;refine ⟨⟨[0,3],fun m vs H=>∃ i:Nat,vs = [.str s,fI i] /\ H = [] /\ (∀ c ∈ s.take i,okByte c = true) /\ i <= s.length /\ m = s.length - i,.at _ ⟨0,rfl,rfl,by simp,Nat.zero_le _,rfl⟩,?_⟩⟩
  rintro m vs H ⟨i,rfl,rfl,hn,hi,rfl⟩
  conv=>whnf
  refine branch_i (fun c=>?_) (fun c=>?_)<;>try rw [c]<;>conv=>whnf
  . have c' := dtZ c;have hlt:i < s.length:=by omega
    have hget:s[i]? = some s[i]:=lgZ hlt;refine ⟨s[i],⟨by omega,hget⟩,?_⟩
    have hob:=okB_byte s[i];have hmem:s[i] ∈ s:=List.getElem_mem hlt;generalize s[i] = b at *
    conv=>whnf
    refine branch_i (fun c=>?_) (fun c=>?_)<;>try rw [c]<;>conv=>whnf
    all_goals try (refine branch_i (fun c=>?_) (fun c=>?_)<;>try rw [c]<;>conv=>whnf)
    all_goals try (refine branch_i (fun c=>?_) (fun c=>?_)<;>try rw [c]<;>conv=>whnf)
    all_goals try (refine branch_i (fun c=>?_) (fun c=>?_)<;>try rw [c]<;>conv=>whnf)
    all_goals try (refine branch_i (fun c=>?_) (fun c=>?_)<;>try rw [c]<;>conv=>whnf)
    all_goals simp only [decide_eq_true_eq,decide_eq_false_iff_not,Bool.not_eq_true', Bool.not_eq_false'] at *
    all_goals first
     | (have hb:okByte b = true:=by rw [<- hob]; simp [okB]; omega
        refine .go [] rfl (s.length - (i + 1)) (by omega) ⟨i + 1,?_,rfl,take_snoc hn hget hb,by omega,rfl⟩
        show [V.str s,V.int .i64 (IntKind.i64.wrap ((i:Int) + 1))] = _
        rw [show IntKind.i64.wrap ((i:Int) + 1) = ((i + 1:Nat):Int) by rw [IntKind.wrap_i64]; omega])
     | (have hb:okByte b = false:=by rw [<- hob]; simp [okB]; omega
        have e:s.all okByte = false:=by
         cases hx:s.all okByte with
         | false=>rfl
         | true=>rw [List.all_eq_true.1 hx b hmem] at hb; cases hb
        rw [e] at h;exact ⟨[],rfl,h⟩)
  . have c' := dfZ c;rw [List.take_of_length_le (by omega)] at hn
    rw [show s.all okByte = true by simpa using hn] at h
    exact ⟨[],rfl,h⟩
end
section
variable {Q:V -> List O -> Prop}
def mayC (l:List Col) (keys:Int) (i:Nat) (c:Col):Bool:=nameOk c.n && (kindOk c.k && (decide (fnd c.n l 0 = (i:Int)) && !(decide ((i:Int) < keys) && c.o)))
def mayH (l:List Col) (keys:Int):Bool:=decide (1 <= keys) && (decide (keys <= 4) && (decide (keys <= (l.length:Int)) && decide (l.length <= 16)))
def mayS (l:List Col) (keys:Int):Bool:=mayH l keys && (List.range l.length).all fun i=>match l[i]? with
 | some c=>mayC l keys i c
 | none=>true
theorem mayS_head {l:List Col} {keys:Int} (h:mayH l keys = false):mayS l keys = false:=by unfold mayS; rw [h]; rfl
theorem mayS_no {l:List Col} {keys:Int} {i:Nat} {c:Col} (hc:l[i]? = some c) (h:mayC l keys i c = false):mayS l keys = false:=by
 unfold mayS;have:((List.range l.length).all fun i=>match l[i]? with | some c=>mayC l keys i c | none=>true) = false:=by
  rw [List.all_eq_false];refine ⟨i,by rw [List.mem_range]; exact (liZ.1 hc).1,?_⟩
  rw [hc]; simp [h]
 rw [this,Bool.and_false]
theorem mayS_yes {l:List Col} {keys:Int} (h0:mayH l keys = true) (h:∀ i c,l[i]? = some c -> mayC l keys i c = true):mayS l keys = true:=by
 unfold mayS;rw [h0,Bool.true_and,List.all_eq_true];intro i hi;cases hc:l[i]? with
 | none=>rfl
 | some c=>exact h i c hc
theorem all_snoc {l:List Col} {P:Nat -> Col -> Prop} {i:Nat} {c:Col} (h:∀ j c,j < i -> l[j]? = some c -> P j c) (hc:l[i]? = some c) (hp:P i c):∀ j c,j < i + 1 -> l[j]? = some c -> P j c:=by
 intro j d hj hd;by_cases e:j = i
 . subst e; rw [hc] at hd; cases hd; exact hp
 . exact h j d (by omega) hd
theorem May_any {l:List Col} {keys:Int} (h:Q (.bool (mayS l keys)) []):ACall Tryz.prog 135 0 [sch l keys] [] Q:=by
 refine by_body Tryz.func135 0 rfl (nbZ rfl) ?_
 conv=>whnf
 have hlk:=cols_len l;refine branch_i (fun c1=>?_) (fun c1=>?_)<;>try rw [c1]<;>conv=>whnf
 focus
  rw [mayS_head (by unfold mayH; simp at c1 ⊢; omega)] at h
  exact ⟨[],rfl,h⟩
 refine branch_i (fun c2=>?_) (fun c2=>?_)<;>try rw [c2]<;>conv=>whnf
 focus
  rw [mayS_head (by unfold mayH; simp at c2 ⊢; omega)] at h
  exact ⟨[],rfl,h⟩
 refine branch_i (fun c3=>?_) (fun c3=>?_)<;>try rw [c3]<;>conv=>whnf
 focus
  have c3' := dtZ c3;simp only at c3';rw [mayS_head (by unfold mayH; simp at c1 c2 ⊢; split at c3' <;> omega)] at h
  exact ⟨[],rfl,h⟩
 have c3' := dfZ c3;simp only at c3';have hh:mayH l keys = true:=by unfold mayH; simp at c1 c2 ⊢; split at c3' <;> omega
 have hl:l.length < 1000000:=by unfold mayH at hh; simp at hh; omega
 clear c1 c2 c3 c3';refine ⟨⟨[1,24,25,26],fun m vs H=>∃ i:Nat,vs = [.ptr 0 0,.sl 3 (cols l) false,fI (cols l).length,fI i] /\ H = [.cells [.sl 3 (cols l) false,fI keys]] /\ (∀ j c,j < i -> l[j]? = some c -> mayC l keys j c = true) /\ i <= l.length /\ m = l.length - i,.at _ ⟨0,rfl,rfl,fun j c hj=>by omega,Nat.zero_le _,rfl⟩,?_⟩⟩
 rintro m vs H ⟨i,rfl,rfl,hn,hi,rfl⟩
 conv=>whnf
 refine branch_i (fun c=>?_) (fun c=>?_)<;>try rw [c]<;>conv=>whnf
 . have c' := dtZ c;have hlt:i < l.length:=by omega
   have hget:l[i]? = some l[i]:=lgZ hlt;generalize l[i] = d at *;have hno:=mayS_no (l:=l) (keys:=keys) hget;have hyes:mayC l keys i d = true -> (∀ j c,j < i + 1 -> l[j]? = some c -> mayC l keys j c = true):=all_snoc hn hget;unfold mayC at hno hyes;have hret:mayS l keys = false -> Q (.bool false) []:=fun e=>by rw [e] at h; exact h
   refine ⟨_,⟨by omega,cols_get hget⟩,?_⟩
   conv=>whnf
   refine .call [] 0 ⟨rfl,rfl,rfl⟩ (Name_spec ?_)
   conv=>whnf
   refine branch_i (fun c1=>?_) (fun c1=>?_)<;>try rw [c1]<;>conv=>whnf
   focus
    exact ⟨[],rfl,hret (hno (by simp at c1; rw [c1]; rfl))⟩
   refine .call [] 0 ⟨rfl,rfl,rfl⟩ (kind_spec ?_)
   conv=>whnf
   refine branch_i (fun c2=>?_) (fun c2=>?_)<;>try rw [c2]<;>conv=>whnf
   focus
    exact ⟨[],rfl,hret (hno (by simp at c2; rw [c2]; simp))⟩
   refine .call [] 0 ⟨rfl,rfl,rfl⟩ (Find_spec hl ?_)
   conv=>whnf
   refine branch_i (fun c3=>?_) (fun c3=>?_)<;>try rw [c3]<;>conv=>whnf
   focus
    exact ⟨[],rfl,hret (hno (by simp at c3; simp [c3]))⟩
   simp at c1 c2 c3;refine branch_i (fun c4=>?_) (fun c4=>?_)<;>try rw [c4]<;>conv=>whnf
   focus
    refine branch_i (fun c5=>?_) (fun c5=>?_)<;>try rw [c5]<;>conv=>whnf
    focus
     exact ⟨[],rfl,hret (hno (by rw [c4,c5]; simp))⟩
   all_goals
    refine .go [0] rfl (l.length - (i + 1)) (by omega) ⟨i + 1,?_,rfl,hyes (by first | (rw [c1,c2,c3,c4,c5]; simp; done) | (rw [c1,c2,c3,c4]; simp; done)),by omega,rfl⟩
    show [V.ptr 0 0,V.sl 3 (cols l) false,fI (cols l).length,V.int .i64 (IntKind.i64.wrap ((i:Int) + 1))] = _
    rw [show IntKind.i64.wrap ((i:Int) + 1) = ((i + 1:Nat):Int) by rw [IntKind.wrap_i64]; omega]
 . have c' := dfZ c;rw [mayS_yes hh fun j c hc=>hn j c (by have:=(liZ.1 hc).1; omega) hc] at h
   exact ⟨[],rfl,h⟩
theorem RMay_any {l:List Col} {keys:Int} (h:Q (.bool (mayS l keys)) []):ACall Tryz.prog 92 0 [sch l keys] [] Q:=by
 refine by_body Tryz.func92 0 rfl (nbZ rfl) ?_
 conv=>whnf
 have hlk:=cols_len l;refine branch_i (fun c1=>?_) (fun c1=>?_)<;>try rw [c1]<;>conv=>whnf
 focus
  rw [mayS_head (by unfold mayH; simp at c1 ⊢; omega)] at h
  exact ⟨[],rfl,h⟩
 refine branch_i (fun c2=>?_) (fun c2=>?_)<;>try rw [c2]<;>conv=>whnf
 focus
  rw [mayS_head (by unfold mayH; simp at c2 ⊢; omega)] at h
  exact ⟨[],rfl,h⟩
 refine branch_i (fun c3=>?_) (fun c3=>?_)<;>try rw [c3]<;>conv=>whnf
 focus
  rw [mayS_head (by unfold mayH; simp at c3 ⊢; omega)] at h
  exact ⟨[],rfl,h⟩
 refine branch_i (fun c4=>?_) (fun c4=>?_)<;>try rw [c4]<;>conv=>whnf
 focus
  rw [mayS_head (by unfold mayH; simp at c4 ⊢; omega)] at h
  exact ⟨[],rfl,h⟩
 refine branch_i (fun c5=>?_) (fun c5=>?_)<;>try rw [c5]<;>conv=>whnf
 focus
  rw [mayS_head (by unfold mayH; simp at c5 ⊢; omega)] at h
  exact ⟨[],rfl,h⟩
 have hh:mayH l keys = true:=by unfold mayH; simp at c1 c2 c3 c4 c5 ⊢; omega
 have hl:l.length < 1000000:=by unfold mayH at hh; simp at hh; omega
 clear c1 c2 c3 c4 c5;refine ⟨⟨[1,3,4],fun m vs H=>∃ i:Nat,vs = [.ptr 0 0,fI (cols l).length,fI i] /\ H = [.cells [.sl 3 (cols l) false,fI keys]] /\ (∀ j c,j < i -> l[j]? = some c -> mayC l keys j c = true) /\ i <= l.length /\ m = l.length - i,.at _ ⟨0,rfl,rfl,fun j c hj=>by omega,Nat.zero_le _,rfl⟩,?_⟩⟩
 rintro m vs H ⟨i,rfl,rfl,hn,hi,rfl⟩
 conv=>whnf
 refine branch_i (fun c=>?_) (fun c=>?_)<;>try rw [c]<;>conv=>whnf
 . have c' := dtZ c;have hlt:i < l.length:=by omega
   have hget:l[i]? = some l[i]:=lgZ hlt;generalize l[i] = d at *;have hno:=mayS_no (l:=l) (keys:=keys) hget;have hyes:mayC l keys i d = true -> (∀ j c,j < i + 1 -> l[j]? = some c -> mayC l keys j c = true):=all_snoc hn hget;unfold mayC at hno hyes;have hret:mayS l keys = false -> Q (.bool false) []:=fun e=>by rw [e] at h; exact h
   refine ⟨_,⟨by omega,cols_get hget⟩,?_⟩
   conv=>whnf
   refine .call [] 0 ⟨rfl,rfl,rfl⟩ (RName_spec ?_)
   conv=>whnf
   refine branch_i (fun c1=>?_) (fun c1=>?_)<;>try rw [c1]<;>conv=>whnf
   focus
    exact ⟨[],rfl,hret (hno (by simp at c1; rw [c1]; rfl))⟩
   refine branch_i (fun c2=>?_) (fun c2=>?_)<;>try rw [c2]<;>conv=>whnf
   focus
    exact ⟨[],rfl,hret (hno (by unfold kindOk; simp at c2; simp; omega))⟩
   refine branch_i (fun c3=>?_) (fun c3=>?_)<;>try rw [c3]<;>conv=>whnf
   focus
    exact ⟨[],rfl,hret (hno (by unfold kindOk; simp at c3; simp; omega))⟩
   have hk:kindOk d.k = true:=by unfold kindOk; simp at c2 c3 ⊢; omega
   simp at c1;clear c2 c3;refine branch_i (fun c4=>?_) (fun c4=>?_)<;>try rw [c4]<;>conv=>whnf
   focus
    refine branch_i (fun c5=>?_) (fun c5=>?_)<;>try rw [c5]<;>conv=>whnf
    focus
     exact ⟨[],rfl,hret (hno (by rw [c4,c5]; simp))⟩
   all_goals
    refine ⟨⟨[1,3,4,5,7],fun m vs H=>∃ (k:Nat) (bo:Bool),vs = [.ptr 0 0,fI (cols l).length,fI i,.ptr 1 0,fI k] /\ H = [.cells [.sl 3 (cols l) false,fI keys],.cells [.str d.n,fI d.k,.bool bo]] /\ (∀ c ∈ l.take k,c.n ≠ d.n) /\ k <= i /\ m = i - k,.at _ ⟨0,_,rfl,rfl,by simp,Nat.zero_le _,rfl⟩,?_⟩⟩
    rintro m vs H ⟨k,bo,rfl,rfl,hnk,hk2,rfl⟩
    conv=>whnf
    refine branch_i (fun c6=>?_) (fun c6=>?_)<;>try rw [c6]<;>conv=>whnf
    . have c6' := dtZ c6;have hget2:l[k]? = some l[k]:=lgZ (by omega)
      generalize l[k] = x at *;refine ⟨List.range 9,by kernel_rfl,by kernel_rfl,?_⟩
      conv=>whnf
      refine ⟨_,⟨by omega,cols_get hget2⟩,?_⟩
      conv=>whnf
      refine branch_i (fun c7=>?_) (fun c7=>?_)<;>try rw [c7]<;>conv=>whnf
      . have hf:=fnd_here hnk hget2 (dtZ c7);exact ⟨[],rfl,hret (hno (by rw [hf]; simp; intro _ _ e; omega))⟩
      . refine .go [0,1] rfl (i - (k + 1)) (by omega) ⟨k + 1,bo,?_,rfl,take_snoc hnk hget2 (dfZ c7),by omega,rfl⟩
        show [V.ptr 0 0,fI (cols l).length,fI i,V.ptr 1 0,V.int .i64 (IntKind.i64.wrap ((k:Int) + 1))] = _
        rw [show IntKind.i64.wrap ((k:Int) + 1) = ((k + 1:Nat):Int) by rw [IntKind.wrap_i64]; omega]
    . have c6' := dfZ c6;have hki:k = i:=by omega
      subst hki;have hf:=fnd_here hnk hget rfl;refine .go [0] rfl (l.length - (k + 1)) (by omega) ⟨k + 1,?_,rfl,hyes (by first | (rw [c1,hk,hf,c4,c5]; simp; done) | (rw [c1,hk,hf,c4]; simp; done)),by omega,rfl⟩
      show [V.ptr 0 0,fI (cols l).length,V.int .i64 (IntKind.i64.wrap ((k:Int) + 1))] = _
      rw [show IntKind.i64.wrap ((k:Int) + 1) = ((k + 1:Nat):Int) by rw [IntKind.wrap_i64]; omega]
 . have c' := dfZ c;rw [mayS_yes hh fun j c hc=>hn j c (by have:=(liZ.1 hc).1; omega) hc] at h
   exact ⟨[],rfl,h⟩
end
section
variable {Q:V -> List O -> Prop}
def sameS (l:List Col) (k:Int) (l2:List Col) (k2:Int):Bool:=decide (k = k2) && decide (l = l2)
theorem col_eq (d e:Col):(decide (d.n = e.n) && (decide (d.k = e.k) && (d.o == e.o && true))) = decide (d = e):=by
 cases d; cases e;rename_i n k o n2 k2 o2;cases o<;>cases o2<;>simp [Col.mk.injEq]
theorem SEqual_spec {l l2:List Col} (hl:l.length < 9223372036854775808) (h:Q (.bool (decide (l = l2))) []) :
 ACall Tryz.prog 185 0 [.sl 3 (cols l) false,.sl 3 (cols l2) false] [] Q:=by
 refine by_body Tryz.func185 0 rfl (nbZ rfl) ?_
 conv=>whnf
 have h1:=cols_len l;have h2:=cols_len l2;refine branch_i (fun c=>?_) (fun c=>?_)<;>try rw [c]<;>conv=>whnf
 focus
  have hne:l ≠ l2:=fun e=>by subst e; simp at c
  rw [show decide (l = l2) = false by simp [hne]] at h
  exact ⟨[],rfl,h⟩
 have hlen:l.length = l2.length:=by simp at c; omega
 clear c;refine ⟨⟨[0,1,12,13],fun m vs H=>∃ i:Nat,vs = [.sl 3 (cols l) false,.sl 3 (cols l2) false,fI (cols l).length,fI i] /\ H = [] /\ l.take i = l2.take i /\ i <= l.length /\ m = l.length - i,.at _ ⟨0,rfl,rfl,rfl,Nat.zero_le _,rfl⟩,?_⟩⟩
 rintro m vs H ⟨i,rfl,rfl,hn,hi,rfl⟩
 conv=>whnf
 refine branch_i (fun c=>?_) (fun c=>?_)<;>try rw [c]<;>conv=>whnf
 . have c' := dtZ c;have hlt:i < l.length:=by omega
   have g1:l[i]? = some l[i]:=lgZ hlt;have g2:l2[i]? = some l2[i]:=lgZ (by omega)
   generalize l[i] = d at *;generalize l2[i] = d2 at *;refine ⟨List.range 9,by kernel_rfl,by kernel_rfl,?_⟩
   conv=>whnf
   refine ⟨_,⟨by omega,cols_get g1⟩,?_⟩
   conv=>whnf
   refine ⟨_,⟨by omega,cols_get g2⟩,?_⟩
   conv=>whnf
   rw [col_eq];by_cases e:d = d2
   . rw [show decide (d = d2) = true by simp [e]]
     conv=>whnf
     refine .go [] rfl (l.length - (i + 1)) (by omega) ⟨i + 1,?_,rfl,?_,by omega,rfl⟩
     . show [V.sl 3 (cols l) false,V.sl 3 (cols l2) false,fI (cols l).length,V.int .i64 (IntKind.i64.wrap ((i:Int) + 1))] = _
       rw [show IntKind.i64.wrap ((i:Int) + 1) = ((i + 1:Nat):Int) by rw [IntKind.wrap_i64]; omega]
     . rw [List.take_add_one,List.take_add_one,hn,g1,g2,e]
   . rw [show decide (d = d2) = false by simp [e]]
     conv=>whnf
     have hne:l ≠ l2:=fun e' => by subst e'; rw [g1] at g2; cases g2; exact e rfl
     rw [show decide (l = l2) = false by simp [hne]] at h
     exact ⟨[],rfl,h⟩
 . have c' := dfZ c;rw [List.take_of_length_le (by omega),List.take_of_length_le (by omega)] at hn
   rw [show decide (l = l2) = true by simp [hn]] at h
   exact ⟨[],rfl,h⟩
theorem Same_spec' {l l2:List Col} {k k2:Int} (hl:l.length < 9223372036854775808) (h:Q (.bool (sameS l k l2 k2)) []) :
 ACall Tryz.prog 166 0 [sch l k,sch l2 k2] [] Q:=by
 refine by_body Tryz.func166 0 rfl (nbZ rfl) ?_
 conv=>whnf
 unfold sameS at h;refine branch_i (fun c=>?_) (fun c=>?_)<;>rw [c] at h<;>try rw [c]<;>conv=>whnf
 . refine .call [] 0 ⟨rfl,rfl,rfl⟩ (SEqual_spec hl ?_)
   conv=>whnf
   exact ⟨[],rfl,h⟩
 . exact ⟨[],rfl,h⟩
theorem RSame_spec {l l2:List Col} {k k2:Int} (hl:l.length < 9223372036854775808) (h:Q (.bool (sameS l k l2 k2)) []) :
 ACall Tryz.prog 45 0 [sch l k,sch l2 k2] [] Q:=by
 refine by_body Tryz.func45 0 rfl (nbZ rfl) ?_
 conv=>whnf
 unfold sameS at h;have h1:=cols_len l;have h2:=cols_len l2;by_cases ck:k = k2
 rotate_left
 focus
  rw [show decide (k = k2) = false by simp [ck]] at h ⊢
  conv=>whnf
  exact ⟨[],rfl,h⟩
 rw [show decide (k = k2) = true by simp [ck]] at h ⊢
 conv=>whnf
 refine branch_i (fun c=>?_) (fun c=>?_)<;>try rw [c]<;>conv=>whnf
 focus
  have hne:l ≠ l2:=fun e=>by subst e; simp at c
  rw [show decide (l = l2) = false by simp [hne]] at h
  exact ⟨[],rfl,h⟩
 have hlen:l.length = l2.length:=by simp at c; omega
 clear c;refine ⟨⟨[2,3,5],fun m vs H=>∃ i:Nat,vs = [.ptr 0 0,.ptr 1 0,fI i] /\ H = [.cells [.sl 3 (cols l) false,fI k],.cells [.sl 3 (cols l2) false,fI k2]] /\ l.take i = l2.take i /\ i <= l.length /\ m = l.length - i,.at _ ⟨0,rfl,rfl,rfl,Nat.zero_le _,rfl⟩,?_⟩⟩
 rintro m vs H ⟨i,rfl,rfl,hn,hi,rfl⟩
 conv=>whnf
 refine branch_i (fun c=>?_) (fun c=>?_)<;>try rw [c]<;>conv=>whnf
 . have c' := dtZ c;have hlt:i < l.length:=by omega
   have g1:l[i]? = some l[i]:=lgZ hlt;have g2:l2[i]? = some l2[i]:=lgZ (by omega)
   generalize l[i] = d at *;generalize l2[i] = d2 at *;refine ⟨List.range 11,by kernel_rfl,by kernel_rfl,?_⟩
   conv=>whnf
   refine ⟨_,⟨by omega,cols_get g1⟩,?_⟩
   conv=>whnf
   refine ⟨_,⟨by omega,cols_get g2⟩,?_⟩
   conv=>whnf
   rw [col_eq];by_cases e:d = d2
   . rw [show decide (d = d2) = true by simp [e]]
     conv=>whnf
     refine .go [0,1] rfl (l.length - (i + 1)) (by omega) ⟨i + 1,?_,rfl,?_,by omega,rfl⟩
     . show [V.ptr 0 0,V.ptr 1 0,V.int .i64 (IntKind.i64.wrap ((i:Int) + 1))] = _
       rw [show IntKind.i64.wrap ((i:Int) + 1) = ((i + 1:Nat):Int) by rw [IntKind.wrap_i64]; omega]
     . rw [List.take_add_one,List.take_add_one,hn,g1,g2,e]
   . rw [show decide (d = d2) = false by simp [e]]
     conv=>whnf
     have hne:l ≠ l2:=fun e' => by subst e'; rw [g1] at g2; cases g2; exact e rfl
     rw [show decide (l = l2) = false by simp [hne]] at h
     exact ⟨[],rfl,h⟩
 . have c' := dfZ c;rw [List.take_of_length_le (by omega),List.take_of_length_le (by omega)] at hn
   rw [show decide (l = l2) = true by simp [hn]] at h
   exact ⟨[],rfl,h⟩
theorem SClone_spec {l:List Col} (hl:l.length < 1000000) (h:Q (.ms 3 0 0 l.length false) [.buf (cols l)]) :
 ACall Tryz.prog 118 0 [.sl 3 (cols l) false] [] Q:=by
 have hlk:=cols_len l;cases l with
 | nil =>
  refine ACall.sub (ACall.sel (ACall.adopt (by_body Tryz.func118 0 rfl (nbZ rfl) ?_)))
  conv=>whnf
  refine ⟨?_,?_⟩
  . conv=>whnf
    exact ⟨[],rfl,[0],rfl,_,_,VSub.ms0 3 0 0 false,HSub.refl _,h⟩
  . conv=>whnf
    refine ⟨by decide,fun _=>?_,fun e=>absurd rfl e⟩
    conv=>whnf
    exact ⟨[0],rfl,[0],rfl,_,_,VSub.msRoom 3 0 0,HSub.refl _,h⟩
 | cons c r =>
  refine by_body Tryz.func118 0 rfl (nbZ rfl) ?_
  conv=>whnf
  refine ⟨by decide,fun e=>by simp [cols] at e,fun _=>?_⟩
  conv=>whnf
  refine ⟨(show (cols (c :: r)).length * 32 <= 70368744177664 by rw [hlk]; omega),?_⟩
  conv=>whnf
  exact ⟨[1],rfl,by rw [<- hlk] at h; exact h⟩
theorem Clone_spec {l:List Col} {keys:Int} (hl:l.length < 1000000) (h:Q (.agg [.ms 3 0 0 l.length false,fI keys]) [.buf (cols l)]) :
 ACall Tryz.prog 76 0 [sch l keys] [] Q:=by
 refine by_body Tryz.func76 0 rfl (nbZ rfl) ?_
 conv=>whnf
 refine ⟨[0,1,3,4,2,5,6],by kernel_rfl,by kernel_rfl,?_⟩
 conv=>whnf
 refine .call [] 0 ⟨rfl,rfl,rfl⟩ (SClone_spec hl ?_)
 repeat (refine ⟨rfl,?_⟩)
 conv=>whnf
 exact ⟨[2],rfl,h⟩
end
section
variable {Q:V -> List O -> Prop}
end
section
variable {Q:V -> List O -> Prop}
theorem RFindM_spec {l:List Col} {keys:Int} {name:List UInt8} (hl:l.length < 1000000) (h:Q (fI (fnd name l 0)) [.buf (cols l)]) :
 ACall Tryz.prog 88 1 [.agg [.ms 3 0 0 (cols l).length false,fI keys],.str name] [.buf (cols l)] Q:=by
 refine by_body Tryz.func88 1 rfl (nbZ rfl) ?_
 conv=>whnf
 have hlk:=cols_len l;refine ⟨⟨[1,2,5],fun m vs H=>∃ i:Nat,vs = [.str name,.ptr 1 0,fI i] /\ H = [.buf (cols l),.cells [.ms 3 0 0 (cols l).length false,fI keys]] /\ (∀ c ∈ l.take i,c.n ≠ name) /\ i <= l.length /\ m = l.length - i,.at _ ⟨0,rfl,rfl,by simp,Nat.zero_le _,rfl⟩,?_⟩⟩
 rintro m vs H ⟨i,rfl,rfl,hn,hi,rfl⟩
 conv=>whnf
 refine branch_i (fun c=>?_) (fun c=>?_)<;>try rw [c]<;>conv=>whnf
 . have c' := dtZ c;have hlt:i < l.length:=by omega
   have hget:l[i]? = some l[i]:=lgZ hlt;refine ⟨by omega,?_⟩
   conv=>whnf
   refine ⟨_,cols_get hget,?_⟩
   conv=>whnf
   refine branch_i (fun c2=>?_) (fun c2=>?_)<;>try rw [c2]<;>conv=>whnf
   . rw [fnd_here hn hget (dtZ c2)] at h;exact ⟨[0],rfl,h⟩
   . refine .go [0,1] rfl (l.length - (i + 1)) (by omega) ⟨i + 1,?_,rfl,take_snoc hn hget (dfZ c2),by omega,rfl⟩
     show [V.str name,V.ptr 1 0,V.int .i64 (IntKind.i64.wrap ((i:Int) + 1))] = _
     rw [show IntKind.i64.wrap ((i:Int) + 1) = ((i + 1:Nat):Int) by rw [IntKind.wrap_i64]; omega]
 . have c' := dfZ c;rw [List.take_of_length_le (by omega)] at hn
   rw [fnd_none hn] at h;exact ⟨[0],rfl,h⟩
theorem pool_get {i:Nat} (h:i < 6):poolS[i]? = some (poolS.getD i []):=by
 have:i < poolS.length:=h;simp [List.getD,lgZ this]
def GInv (l:List Col) (keys:Int) (G:List Col) (K:Int) (m:Nat) (vs:List V) (H:List O):Prop :=
 ∃ j:Nat,vs = [.ptr 0 0,.ptr 1 0,.ptr 2 0,fI j] /\ H = [.cells [.sl 3 (cols l) false,fI keys],.cells [.nils,fI 0],.cells [.ms 3 3 0 (cols (clearK j G)).length false,fI K],.buf (cols (clearK j G))] /\ j <= K.toNat /\ m = K.toNat - j
set_option maxHeartbeats 4000000 in
theorem RGood_spec {l:List Col} {keys:Int} (hkr:-9223372036854775808 <= keys /\ keys <= 9223372036854775807) (h:Q (sch (goodL nameOk l keys) (goodK nameOk l keys)) []):ACall Tryz.prog 52 0 [sch l keys] [] Q:=by
 refine ACall.ret (by_body Tryz.func52 0 rfl (nbZ rfl) ?_)
 conv=>whnf
 have hlk:=cols_len l
 refine ⟨⟨[1,2,3,4,5],fun m vs H=>∃ i:Nat,vs = [.ptr 0 0,.ptr 1 0,.ptr 2 0,.sl 1 (poolS.map fun s=>[.str s]) true,fI i] /\
  H = [.cells [.sl 3 (cols l) false,fI keys],.cells [.nils,fI 0],.cells [.ms 3 3 0 (cols (gN nameOk l i)).length false,fI 0],.buf (cols (gN nameOk l i))] /\ i <= l.length /\ i <= 6 /\ m = 6 - i,
  .frz 7 (.frz 3 rfl (by repeat (first | exact trivial | refine And.intro (Nat.le_of_eq (Nat.zero_add _)) ?_)) (.adopt (.sub _ _ (VSubs.refl _) (.cons (.refl _) (.cons (.refl _) (.cons (.cells (.cons (VSub.ms0 3 4 0 false) (VSubs.refl _))) (.cons (.refl _) (HSub.refl _))))) (.go [0,1,2,4] rfl 6 (by omega) ⟨0,rfl,rfl,by omega,by omega,rfl⟩)))),?_⟩⟩
 rintro m vs H ⟨i,rfl,rfl,hi,hi2,rfl⟩
 conv=>whnf
 refine branch_i (fun c=>?_) (fun c=>?_)<;>try rw [c]<;>conv=>whnf
 focus refine branch_i (fun c2=>?_) (fun c2=>?_)<;>try rw [c2]<;>conv=>whnf
 focus
  have c' := dtZ c;have c2' := dtZ c2;have hlt:i < l.length:=by omega
  have hget:l[i]? = some l[i]:=lgZ hlt;generalize l[i] = d at *;have hgN:gN nameOk l (i + 1) = stepG nameOk (gN nameOk l i) i d:=by
   show (match l[i]? with | some c=>stepG nameOk (gN nameOk l i) i c | none=>gN nameOk l i) = _
   rw [hget]
  have hgl:=gN_len nameOk l i;have hwi:IntKind.i64.wrap ((i:Int) + 1) = ((i + 1:Nat):Int):=by rw [IntKind.wrap_i64]; omega
  have hpg:(poolS.map fun s=>[V.str s])[i]? = some [.str (poolS.getD i [])]:=by rw [List.getElem?_map,pool_get (by omega)]; rfl
  generalize hg:gN nameOk l i = g at *;have hgc:=cols_len g;refine ⟨_,⟨by omega,cols_get hget⟩,?_⟩
  conv=>whnf
  refine branch_i (fun c3=>?_) (fun c3=>?_)<;>try rw [c3]<;>conv=>whnf
  all_goals
   refine ⟨by decide,?_⟩
   conv=>whnf
  focus
   rw [show IntKind.i64.wrap (1 + (IntKind.i64.wrap (0 - IntKind.i64.wrap (d.k + 1))).tmod 4) = gKind d.k by unfold gKind natI; rw [if_pos (dtZ c3)]]
  rotate_left
  focus
   rw [show IntKind.i64.wrap (1 + d.k.tmod 4) = gKind d.k by unfold gKind natI; rw [if_neg (dfZ c3)]]
  all_goals
   refine .call [] 0 ⟨rfl,rfl,rfl⟩ (RName_spec ?_)
   conv=>whnf
   refine branch_i (fun c4=>?_) (fun c4=>?_)<;>try rw [c4]<;>conv=>whnf
  all_goals first
   | (have hnm:gName nameOk g i d = poolS.getD i []:=by unfold gName; rw [if_pos (.inl (by simpa using c4))]
      refine ⟨[V.str (poolS.getD i [])],⟨by omega,hpg⟩,?_⟩
      conv=>whnf)
   | (refine .call [3] 1 ⟨rfl,rfl,rfl⟩ (RFindM_spec (by omega) ?_)
      conv=>whnf
      refine branch_i (fun c5=>?_) (fun c5=>?_)<;>try rw [c5]<;>conv=>whnf
      focus
       have hnm:gName nameOk g i d = poolS.getD i []:=by unfold gName; rw [if_pos (.inr (dtZ c5))]
       refine ⟨[V.str (poolS.getD i [])],⟨by omega,hpg⟩,?_⟩
       conv=>whnf
      rotate_left
      have hnm:gName nameOk g i d = d.n:=by
       unfold gName;rw [if_neg];rintro (hx | hx)
       . simp [hx] at c4
       . exact dfZ c5 hx)
  all_goals
   unfold stepG at hgN;rw [hnm] at hgN;refine .call [3] 1 ⟨rfl,rfl,rfl⟩ (RFindM_spec (by omega) ?_)
   conv=>whnf
   refine branch_i (fun c6=>?_) (fun c6=>?_)<;>try rw [c6]<;>conv=>whnf
   . rw [if_pos (dtZ c6)] at hgN;refine ⟨Nat.le_refl _,?_⟩
     conv=>whnf
     refine ⟨rfl,?_⟩
     conv=>whnf
     refine ⟨Nat.le_trans (Nat.mul_le_mul_right _ (by rw [laZ,List.length_take,List.drop_zero]; exact Nat.add_le_add (show (cols g).length <= i by omega) (Nat.min_le_left _ _))) (show (i + 1) * 32 <= 70368744177664 by omega),?_⟩
     conv=>whnf
     refine .go [0,1,2,6] rfl (6 - (i + 1)) (by omega) ⟨i + 1,?_,?_,by omega,by omega,rfl⟩
     . show [V.ptr 0 0,V.ptr 1 0,V.ptr 2 0,V.sl 1 (poolS.map fun s=>[V.str s]) true,V.int .i64 (IntKind.i64.wrap ((i:Int) + 1))] = _
       rw [hwi]
     . rw [hgN,cols_app];rfl
   . rw [if_neg (dfZ c6)] at hgN;refine .go [0,1,2,3] rfl (6 - (i + 1)) (by omega) ⟨i + 1,?_,?_,by omega,by omega,rfl⟩
     . show [V.ptr 0 0,V.ptr 1 0,V.ptr 2 0,V.sl 1 (poolS.map fun s=>[V.str s]) true,V.int .i64 (IntKind.i64.wrap ((i:Int) + 1))] = _
       rw [hwi]
     . rw [hgN]; rfl
 all_goals
  have hgi:gN nameOk l i = gN nameOk l (min l.length 6):=by
   congr 1
   first
    | (have c' := dfZ c; omega)
    | (have c' := dfZ c2; omega)
  have hG:=gCols_len nameOk l;have hGd:gCols nameOk l = match gN nameOk l i with | []=>[⟨[105,100],2,false⟩] | g=>g:=by rw [hgi]; rfl
  have hgl:=gN_len nameOk l i;clear hgi c
  try clear c2
  generalize gN nameOk l i = g at *;have hmin:∀ n:Nat,(if (3:Int) < (n:Int) then (3:Int) else (n:Int)) = ((min n 3:Nat):Int):=fun n=>by split<;>omega
  have hneg:keys < 0 -> natI keys = IntKind.i64.wrap (0 - IntKind.i64.wrap (keys + 1)):=fun h=>by unfold natI; rw [if_pos h]
  have hpos:¬ keys < 0 -> natI keys = keys:=fun h=>by unfold natI; rw [if_neg h]
  rcases g with _ | ⟨x,r⟩
  focus
   simp only at hGd
   conv=>whnf
   refine ⟨Nat.le_refl _,?_⟩
   conv=>whnf
   refine ⟨rfl,?_⟩
   conv=>whnf
   refine ⟨(show (1:Nat) * 32 <= 70368744177664 by decide),?_⟩
   conv=>whnf
   refine branch_i (fun c3=>?_) (fun c3=>?_)<;>try rw [c3]<;>conv=>whnf
   all_goals
    refine ⟨(show (1:Int) ≠ 0 by decide),?_⟩
    conv=>whnf
    refine ⟨⟨[1,2,3,10],GInv l keys (gCols nameOk l) (gKeys (gCols nameOk l).length keys),.frz ((gKeys (gCols nameOk l).length keys).toNat + 1) (.go [0,1,2,5] rfl (gKeys (gCols nameOk l).length keys).toNat (by omega) ⟨0,rfl,?_,Nat.zero_le _,rfl⟩),?_⟩⟩
    focus
     first
      | (have hx:=hneg (dtZ c3)
         show [O.cells [.sl 3 (cols l) false,fI keys],.cells [.nils,fI 0],.cells [.ms 3 3 0 1 false,V.int .i64 (IntKind.i64.wrap (1 + (IntKind.i64.wrap (0 - IntKind.i64.wrap (keys + 1))).tmod 1))],.buf [[V.str [105,100],V.int .i64 2,V.bool false]]] = _
         rw [<- hx,hGd]; rfl)
      | (have hx:=hpos (dfZ c3)
         show [O.cells [.sl 3 (cols l) false,fI keys],.cells [.nils,fI 0],.cells [.ms 3 3 0 1 false,V.int .i64 (IntKind.i64.wrap (1 + keys.tmod 1))],.buf [[V.str [105,100],V.int .i64 2,V.bool false]]] = _
         rw [hGd]; unfold gKeys; rw [hx]; rfl)
  rotate_left 2
  focus
   simp only at hGd
   conv=>whnf
   refine branch_i (fun c3=>?_) (fun c3=>?_)<;>try rw [c3]<;>conv=>whnf
   all_goals
    refine ⟨(show (if (3:Int) < ((cols (x :: r)).length:Int) then (3:Int) else ((cols (x :: r)).length:Int)) ≠ 0 by rw [hmin,cols_len]; simp),?_⟩
    conv=>whnf
    refine ⟨⟨[1,2,3,10],GInv l keys (gCols nameOk l) (gKeys (gCols nameOk l).length keys),.frz ((gKeys (gCols nameOk l).length keys).toNat + 1) (.go [0,1,2,3] rfl (gKeys (gCols nameOk l).length keys).toNat (by omega) ⟨0,rfl,?_,Nat.zero_le _,rfl⟩),?_⟩⟩
    focus
     first
      | (have hx:=hneg (dtZ c3)
         show [O.cells [.sl 3 (cols l) false,fI keys],.cells [.nils,fI 0],.cells [.ms 3 3 0 (cols (x :: r)).length false,V.int .i64 (IntKind.i64.wrap (1 + (IntKind.i64.wrap (0 - IntKind.i64.wrap (keys + 1))).tmod (if (3:Int) < ((cols (x :: r)).length:Int) then (3:Int) else ((cols (x :: r)).length:Int))))],.buf (cols (x :: r))] = _
         rw [<- hx,hmin,show min (cols (x :: r)).length 3 = min (x :: r).length 3 by rw [cols_len],hGd]; rfl)
      | (have hx:=hpos (dfZ c3)
         show [O.cells [.sl 3 (cols l) false,fI keys],.cells [.nils,fI 0],.cells [.ms 3 3 0 (cols (x :: r)).length false,V.int .i64 (IntKind.i64.wrap (1 + keys.tmod (if (3:Int) < ((cols (x :: r)).length:Int) then (3:Int) else ((cols (x :: r)).length:Int))))],.buf (cols (x :: r))] = _
         rw [hmin,show min (cols (x :: r)).length 3 = min (x :: r).length 3 by rw [cols_len],hGd]; unfold gKeys; rw [hx]; rfl)
  all_goals
   have hKo:=gKeys_ok hG.1 hkr;clear hGd hneg hpos c3;have hgood:goodL nameOk l keys = clearK (gKeys (gCols nameOk l).length keys).toNat (gCols nameOk l):=rfl;have hgk:goodK nameOk l keys = gKeys (gCols nameOk l).length keys:=rfl;rw [hgood,hgk] at h;clear hgood hgk;generalize gKeys (gCols nameOk l).length keys = K at *;generalize gCols nameOk l = G at *;rintro m vs H ⟨j,rfl,rfl,hj,rfl⟩;have hcl:=clearK_len j G;have hcc:=cols_len (clearK j G)
   conv=>whnf
   refine branch_i (fun c=>?_) (fun c=>?_)<;>try rw [c]<;>conv=>whnf
   . have c' := dtZ c;have hlt:j < G.length:=by omega
     have hget:G[j]? = some G[j]:=lgZ hlt;generalize G[j] = d at *;have hget2:(clearK j G)[j]? = some d:=by rw [clearK_get,hget]; simp
     have hsn:=clearK_snoc hget;refine ⟨by omega,?_⟩
     conv=>whnf
     refine ⟨_,cols_get hget2,?_⟩
     conv=>whnf
     have hset:cols (clearK (j + 1) G) = (cols (clearK j G)).set j [V.str d.n,V.int .i64 d.k,V.bool false]:=by
      rw [<- hsn]; simp [cols,List.map_set,colC]
     have hsl:(cols (clearK (j + 1) G)).length = (cols (clearK j G)).length:=by rw [hset,List.length_set]
     refine .go [0,1,2,3] rfl (K.toNat - (j + 1)) (by omega) ⟨j + 1,?_,?_,by omega,rfl⟩
     . show [V.ptr 0 0,V.ptr 1 0,V.ptr 2 0,V.int .i64 (IntKind.i64.wrap ((j:Int) + 1))] = _
       rw [show IntKind.i64.wrap ((j:Int) + 1) = ((j + 1:Nat):Int) by rw [IntKind.wrap_i64]; omega]
     . show [O.cells [.sl 3 (cols l) false,fI keys],.cells [.nils,fI 0],.cells [.ms 3 3 0 (cols (clearK j G)).length false,fI K],.buf ((cols (clearK j G)).set j [V.str d.n,V.int .i64 d.k,V.bool false])] = _
       rw [<- hset,<- hsl]
   . have c' := dfZ c;have e:j = K.toNat:=by omega
     subst e;refine ⟨[3],rfl,.frz 0 rfl (by repeat (first | exact trivial | refine And.intro (Nat.le_of_eq (Nat.zero_add _)) ?_)) (.done [] rfl ?_)⟩
     show Q (.agg [.sl 3 (List.take (cols (clearK K.toNat G)).length (cols (clearK K.toNat G))) false,fI K]) []
     rw [List.take_length]; exact h
end
section
variable {Q:V -> List O -> Prop}
theorem fnd_neg {name:List UInt8}:∀ {l:List Col} {i:Nat},fnd name l i < 0 -> ∀ c ∈ l,c.n ≠ name
 | [],_,_,c,hc=>by simp at hc
 | d :: l,i,h,c,hc=>by
  unfold fnd at h;split at h
  . omega
  . rename_i hn;rcases List.mem_cons.1 hc with rfl | hc
    . exact hn
    . exact fnd_neg h c hc
def NamesOk (l:List Col):Prop:=(l.map Col.n).Pairwise (· ≠ ·)
def ColOk (c:Col):Prop:=nameOk c.n = true /\ kindOk c.k = true
theorem fnd_at {l:List Col} (h:NamesOk l) {i:Nat} {c:Col} (hc:l[i]? = some c):fnd c.n l 0 = i:=by
 refine fnd_here (fun d hd=>?_) hc rfl
 obtain ⟨j,hj,rfl⟩:=List.mem_iff_getElem.1 hd;rw [List.length_take] at hj;have hlt:=(liZ.1 hc).1;have he:=(liZ.1 hc).2;have:=List.pairwise_iff_getElem.1 h j i (by simp; omega) (by simpa using hlt) (by omega)
 simp only [List.getElem_map] at this;rw [List.getElem_take,<- he];exact this
theorem pool_ok:∀ i < 6,nameOk (poolS.getD i []) = true:=by decide
theorem kindOk_g {k:Int} (h:-9223372036854775808 <= k /\ k <= 9223372036854775807):kindOk (gKind k) = true:=by
 have:=gKind_ok h;unfold kindOk;simp; omega
def I64 (k:Int):Prop:=-9223372036854775808 <= k /\ k <= 9223372036854775807
theorem step_ok {g:List Col} {i:Nat} {c:Col} (hi:i < 6) (h1:NamesOk g) (h2:∀ d ∈ g,ColOk d) (hc:I64 c.k):NamesOk (stepG nameOk g i c) /\ ∀ d ∈ stepG nameOk g i c,ColOk d:=by
 unfold stepG;split
 . rename_i hf;have hne:=fnd_neg hf;have hok:nameOk (gName nameOk g i c) = true:=by
    unfold gName;split
    . exact pool_ok i hi
    . rename_i hx;cases h:nameOk c.n with
      | true=>rfl
      | false=>exact absurd (.inl h) hx
   refine ⟨?_,fun d hd=>?_⟩
   . unfold NamesOk;rw [List.map_append,List.pairwise_append];refine ⟨h1,by simp,fun a ha b hb=>?_⟩
     obtain ⟨d,hd,rfl⟩:=List.mem_map.1 ha;simp at hb;subst hb;exact hne d hd
   . rcases List.mem_append.1 hd with hd | hd
     . exact h2 d hd
     . simp at hd;subst hd;exact ⟨hok,kindOk_g hc⟩
 . exact ⟨h1,h2⟩
theorem gN_ok {l:List Col} (hl:∀ c ∈ l,I64 c.k):∀ i ≤ 6,NamesOk (gN nameOk l i) /\ ∀ d ∈ gN nameOk l i,ColOk d
 | 0,_=>by simp [gN,NamesOk]
 | i + 1,hi=>by
  have ih:=gN_ok hl i (by omega)
  unfold gN;split
  . rename_i c hc;exact step_ok (by omega) ih.1 ih.2 (hl c (List.mem_of_getElem? hc))
  . exact ih
theorem gCols_ok {l:List Col} (hl:∀ c ∈ l,I64 c.k):NamesOk (gCols nameOk l) /\ ∀ d ∈ gCols nameOk l,ColOk d:=by
 have:=gN_ok hl (min l.length 6) (by omega)
 unfold gCols;split
 . refine ⟨by simp [NamesOk],fun d hd=>?_⟩
   simp at hd;subst hd;exact ⟨by decide,by decide⟩
 . exact this
theorem clearK_names (k:Nat) (l:List Col):(clearK k l).map Col.n = l.map Col.n:=by
 refine List.ext_getElem? fun i=>?_
 rw [List.getElem?_map,List.getElem?_map,clearK_get];cases l[i]? with
 | none=>rfl
 | some c=>by_cases h:i < k<;>simp [h]
theorem good_names {l:List Col} (hl:∀ c ∈ l,I64 c.k) (keys:Int):NamesOk (goodL nameOk l keys) /\ ∀ d ∈ goodL nameOk l keys,ColOk d:=by
 obtain ⟨h1,h2⟩:=gCols_ok hl;unfold goodL;refine ⟨by unfold NamesOk; rw [clearK_names]; exact h1,fun d hd=>?_⟩
 obtain ⟨i,hi⟩:=List.mem_iff_getElem?.1 hd;rw [clearK_get] at hi;cases hc:(gCols nameOk l)[i]? with
 | none=>rw [hc] at hi; cases hi
 | some c =>
  rw [hc] at hi;have:=h2 c (List.mem_of_getElem? hc);simp only [Option.map_some,Option.some.injEq] at hi;subst hi;split
  . exact this
  . exact this
theorem good_len (l:List Col) (keys:Int):1 <= (goodL nameOk l keys).length /\ (goodL nameOk l keys).length <= 6:=by
 unfold goodL;rw [clearK_len]; exact gCols_len _ _
theorem good_keys {l:List Col} {keys:Int} (hk:I64 keys):1 <= goodK nameOk l keys /\ goodK nameOk l keys <= 3 /\ goodK nameOk l keys <= (goodL nameOk l keys).length:=by
 unfold goodK goodL;rw [clearK_len];exact gKeys_ok (gCols_len _ _).1 hk
end
section
variable {Q:V -> List O -> Prop}
def chMap:O:=.map [(fI 3,.fn (.func 170) [] []),(fI 4,.fn (.func 171) [] []),(fI 5,.fn (.func 172) [] [])] 3
theorem changes_spec (h:Q (.map 0) [chMap]):ACall Tryz.prog 141 0 [] [] Q:=by
 refine by_body Tryz.func141 0 rfl (nbZ rfl) ?_
 conv=>whnf
 exact ⟨[0],rfl,h⟩
theorem cols_erase (l:List Col) (i:Nat):cols (l.eraseIdx i) = (cols l).take i ++ (cols l).drop (i + 1):=by
 rw [List.eraseIdx_eq_take_drop_succ]; simp [cols]
theorem del_tail {α:Type} {a b:List α} {z:α} {n:Nat} (ha:a.length = n - 1) (hb:(a ++ b).length = n) (hn:0 < n) :
 (a ++ b).take (n - 1) ++ List.replicate (n - (n - 1)) z ++ (a ++ b).drop (n - 1 + (n - (n - 1))) = a ++ [z]:=by
 rw [show n - (n - 1) = 1 by omega,show n - 1 + 1 = n by omega,List.drop_of_length_le (by omega),<- ha,List.take_left]
 simp
theorem SDelete_spec {l:List Col} {i:Nat} (hl:l.length < 1000000) (h0:0 < i) (hi:i < l.length) (h:Q (.ms 3 0 0 (l.length - 1) false) [.buf (cols (l.eraseIdx i) ++ [[.str [],fI 0,.bool false]])]) :
 ACall Tryz.prog 187 1 [.ms 3 0 0 l.length false,fI i,fI ((i + 1:Nat):Int)] [.buf (cols l)] Q:=by
 have hlk:=cols_len l;refine by_body Tryz.func187 1 rfl (nbZ rfl) ?_
 conv=>whnf
 by_cases c:i + 1 = l.length
 all_goals
  first
   | rw [show decide (((i + 1:Nat):Int) = (l.length:Int)) = true by simp; omega]
   | rw [show decide (((i + 1:Nat):Int) = (l.length:Int)) = false by simp; omega]
  conv=>whnf
  refine ⟨by omega,?_⟩
  conv=>whnf
  rw [show decide ((i:Int) = ((i + 1:Nat):Int)) = false by simp; omega]
  conv=>whnf
  refine ⟨[0,1,2,3,4,5,6,7],by kernel_rfl,by kernel_rfl,?_⟩
  conv=>whnf
  refine ⟨by omega,?_⟩
  conv=>whnf
  refine ⟨by omega,?_⟩
  conv=>whnf
  refine ⟨by rw [hlk]; simp; omega,?_⟩
  conv=>whnf
  rw [show List.take (l.length - ((i + 1:Nat):Int).toNat) (List.drop (((i + 1:Nat):Int).toNat + 0) (cols l)) = (cols l).drop (i + 1) by
   rw [Int.toNat_natCast,Nat.add_zero,List.take_of_length_le (by simp [hlk])]]
  rw [show 0 + ((i:Nat):Int).toNat = i by omega]
  have e3:((cols l).drop (i + 1)).length = l.length - (i + 1):=by simp [hlk]
  refine ⟨⟨by omega,by rw [e3,hlk]; omega⟩,?_⟩
  rw [e3,Int.toNat_natCast,show i + (l.length - (i + 1)) = l.length - 1 by omega]
  have e4:((cols l).take i ++ (cols l).drop (i + 1) ++ (cols l).drop (l.length - 1)).length = l.length:=by simp [hlk]; omega
  have e5:(cols l).take i ++ (cols l).drop (i + 1) = cols (l.eraseIdx i):=(cols_erase l i).symm;rw [e5] at e4 ⊢;have e6:(cols (l.eraseIdx i)).length = l.length - 1:=by rw [cols_len,List.length_eraseIdx,if_pos hi]
  conv=>whnf
  refine ⟨⟨by omega,by omega,.inr ⟨by omega,(by omega:0 + ((l.length:Nat):Int).toNat <= (cols (l.eraseIdx i) ++ (cols l).drop (l.length - 1)).length)⟩⟩,?_⟩
  conv=>whnf
  rw [Int.toNat_natCast,Int.toNat_natCast];refine ⟨⟨by omega,by omega⟩,?_⟩
  conv=>whnf
  refine ⟨[0],rfl,?_⟩
  show Q (.ms 3 0 0 ((i:Int).toNat + (l.length - (i + 1))) false) [O.buf (List.take ((i:Int).toNat + (l.length - (i + 1)) + 0) (cols (l.eraseIdx i) ++ List.drop (l.length - 1) (cols l)) ++
   List.replicate (l.length - ((i:Int).toNat + (l.length - (i + 1)))) [.str [],fI 0,.bool false] ++
   List.drop ((i:Int).toNat + (l.length - (i + 1)) + 0 + (l.length - ((i:Int).toNat + (l.length - (i + 1))))) (cols (l.eraseIdx i) ++ List.drop (l.length - 1) (cols l)))]
  rw [Int.toNat_natCast,show i + (l.length - (i + 1)) = l.length - 1 by omega,Nat.add_zero,del_tail e6 e4 (by omega)]
  exact h
abbrev Res:=List Col × Int × Int
def resS (r:Res):V:=.tup [sch r.1 r.2.1,fI r.2.2]
def addS (l:List Col) (keys:Int) (c:Col):Res :=
 if nameOk c.n && kindOk c.k && c.o then
  if 0 <= fnd c.n l 0 then ([],0,8) else if l.length = 16 then ([],0,10) else (l ++ [c],keys,0)
 else ([],0,1)
def cutS (l:List Col) (keys:Int) (c:Col):Res :=
 if fnd c.n l 0 < 0 then ([],0,7) else if fnd c.n l 0 < keys then ([],0,10) else (l.eraseIdx (fnd c.n l 0).toNat,keys,0)
def setKind (l:List Col) (i:Nat) (k:Int):List Col:=l.modify i fun c=>{ c with k:=k }
def retS (l:List Col) (keys:Int) (c:Col):Res :=
 if fnd c.n l 0 < 0 then ([],0,7)
 else if fnd c.n l 0 < keys then ([],0,10)
 else if ((l[(fnd c.n l 0).toNat]?).map Col.o).getD false = false then ([],0,10)
 else if kindOk c.k then (setKind l (fnd c.n l 0).toNat c.k,keys,0) else ([],0,1)
def applyS (l:List Col) (keys:Int) (k:Int) (c:Col):Res :=
 if k = 3 then addS l keys c else if k = 4 then cutS l keys c else if k = 5 then retS l keys c else ([],0,5)
theorem err_sub (e:Int):VSub (.tup [.agg [.nils,fI 0],fI e]) (resS ([],0,e)):=VSub.tup (.cons (VSub.agg (.cons (VSub.nils 3 false) (VSubs.refl _))) (VSubs.refl _))
theorem add_spec {l:List Col} {keys:Int} {c:Col} (hl:l.length < 1000000) (h:Q (resS (addS l keys c)) []) :
 ACall Tryz.prog 170 0 [sch l keys,.agg [.str c.n,fI c.k,.bool c.o]] [] Q:=by
 have hlk:=cols_len l;refine ACall.ret (by_body Tryz.func170 0 rfl (nbZ rfl) ?_)
 conv=>whnf
 refine .call [] 0 ⟨rfl,rfl,rfl⟩ (Name_spec ?_)
 conv=>whnf
 unfold addS at h;cases c1:nameOk c.n<;>rw [c1] at h
 focus
  conv=>whnf
  exact ⟨[],rfl,.sub _ _ (err_sub 1) (HSub.refl _) (.done [] rfl h)⟩
 conv=>whnf
 refine .call [] 0 ⟨rfl,rfl,rfl⟩ (kind_spec ?_)
 conv=>whnf
 cases c2:kindOk c.k<;>rw [c2] at h
 focus
  conv=>whnf
  exact ⟨[],rfl,.sub _ _ (err_sub 1) (HSub.refl _) (.done [] rfl h)⟩
 conv=>whnf
 cases c3:c.o<;>rw [c3] at h
 focus
  conv=>whnf
  exact ⟨[],rfl,.sub _ _ (err_sub 1) (HSub.refl _) (.done [] rfl h)⟩
 conv=>whnf
 refine .call [] 0 ⟨rfl,rfl,rfl⟩ (Find_spec hl ?_)
 conv=>whnf
 simp only [Bool.and_self,if_true] at h;refine branch_i (fun c4=>?_) (fun c4=>?_)<;>try rw [c4]<;>conv=>whnf
 focus
  rw [if_pos (dtZ c4)] at h;exact ⟨[],rfl,.sub _ _ (err_sub 8) (HSub.refl _) (.done [] rfl h)⟩
 rw [if_neg (dfZ c4)] at h;refine branch_i (fun c5=>?_) (fun c5=>?_)<;>try rw [c5]<;>conv=>whnf
 focus
  have c5' := dtZ c5;rw [if_pos (by omega)] at h
  exact ⟨[],rfl,.sub _ _ (err_sub 10) (HSub.refl _) (.done [] rfl h)⟩
 have c5' := dfZ c5;rw [if_neg (by omega)] at h
 refine .call [] 0 ⟨rfl,rfl,rfl⟩ (Clone_spec hl ?_)
 conv=>whnf
 refine ⟨Nat.le_refl _,?_⟩
 conv=>whnf
 refine ⟨(by omega:l.length + 0 = (cols l).length),?_⟩
 conv=>whnf
 refine ⟨Nat.le_trans (Nat.mul_le_mul_right _ (by rw [laZ,List.length_take,List.drop_zero,hlk]; exact Nat.add_le_add (Nat.le_refl _) (Nat.min_le_left _ _))) (show (l.length + 1) * 32 <= 70368744177664 by omega),?_⟩
 conv=>whnf
 refine ⟨[6],rfl,.frz 0 rfl (by repeat (first | exact trivial | refine And.intro (Nat.le_of_eq (Nat.zero_add _)) ?_)) (.done [] rfl ?_)⟩
 show Q (.tup [.agg [.sl 3 (List.take (cols l ++ [[.str c.n,fI c.k,.bool true]]).length (cols l ++ [[.str c.n,fI c.k,.bool true]])) false,fI keys],fI 0]) []
 rw [List.take_length];have e:cols (l ++ [c]) = cols l ++ [[.str c.n,fI c.k,.bool true]]:=by rw [cols_app,<- c3]; rfl
 rw [<- e];exact h
theorem fnd_lt {name:List UInt8}:∀ {l:List Col} {i:Nat},fnd name l i < 0 \/ ((i:Int) <= fnd name l i /\ fnd name l i < i + l.length)
 | [],i=>.inl (by unfold fnd; omega)
 | c :: l,i=>by
  unfold fnd;split
  . right; simp only [List.length_cons]; omega
  . rcases fnd_lt (name:=name) (l:=l) (i:=i + 1) with h | h
    . exact .inl h
    . right; simp only [List.length_cons]; omega
theorem cut_S_spec {l:List Col} {keys:Int} {c:Col} (hl:l.length < 1000000) (hk:1 <= keys) (h:Q (resS (cutS l keys c)) []) :
 ACall Tryz.prog 171 0 [sch l keys,.agg [.str c.n,fI c.k,.bool c.o]] [] Q:=by
 have hlk:=cols_len l;refine ACall.ret (by_body Tryz.func171 0 rfl (nbZ rfl) ?_)
 conv=>whnf
 refine .call [] 0 ⟨rfl,rfl,rfl⟩ (Find_spec hl ?_)
 conv=>whnf
 unfold cutS at h;have hf:=fnd_lt (name:=c.n) (l:=l) (i:=0);refine branch_i (fun c1=>?_) (fun c1=>?_)<;>try rw [c1]<;>conv=>whnf
 focus
  rw [if_pos (dtZ c1)] at h;exact ⟨[],rfl,.sub _ _ (err_sub 7) (HSub.refl _) (.done [] rfl h)⟩
 have c1' := dfZ c1;rw [if_neg c1'] at h;refine branch_i (fun c2=>?_) (fun c2=>?_)<;>try rw [c2]<;>conv=>whnf
 focus
  rw [if_pos (dtZ c2)] at h;exact ⟨[],rfl,.sub _ _ (err_sub 10) (HSub.refl _) (.done [] rfl h)⟩
 have c2' := dfZ c2;rw [if_neg c2'] at h;obtain ⟨i,hi⟩:∃ i:Nat,fnd c.n l 0 = i:=⟨(fnd c.n l 0).toNat,by omega⟩
 rw [hi] at h;simp only [hi] at *;rw [Int.toNat_natCast] at h;refine .call [] 0 ⟨rfl,rfl,rfl⟩ (Clone_spec hl ?_)
 conv=>whnf
 rw [show IntKind.i64.wrap ((i:Int) + 1) = ((i + 1:Nat):Int) by rw [IntKind.wrap_i64]; omega]
 refine .call [3] 1 ⟨rfl,rfl,rfl⟩ (SDelete_spec hl (by omega) (by omega) ?_)
 conv=>whnf
 have e6:(cols (l.eraseIdx i)).length = l.length - 1:=by rw [cols_len,List.length_eraseIdx,if_pos (by omega)]
 refine ⟨[3],rfl,.frz 0 rfl ⟨(by rw [laZ,e6]; simp:0 + (l.length - 1) <= (cols (l.eraseIdx i) ++ [[V.str [],fI 0,V.bool false]]).length),trivial⟩ (.done [] rfl ?_)⟩
 show Q (.tup [.agg [.sl 3 (List.take (l.length - 1) (cols (l.eraseIdx i) ++ [[.str [],fI 0,.bool false]])) false,fI keys],fI 0]) []
 rw [<- e6,List.take_left];exact h
theorem set_kind {l:List Col} {i:Nat} {c:Col} (h:l[i]? = some c) (k:Int):(cols l).set i [.str c.n,fI k,.bool c.o] = cols (setKind l i k):=by
 have hlt:=(liZ.1 h).1;refine List.ext_getElem? fun j=>?_
 unfold setKind cols;rw [List.getElem?_set,List.getElem?_map,List.getElem?_map,List.getElem?_modify];by_cases e:i = j
 . subst e; rw [h]; simp [hlt,colC]
 . simp [e]
theorem retype_spec {l:List Col} {keys:Int} {c:Col} (hl:l.length < 1000000) (hk:1 <= keys) (h:Q (resS (retS l keys c)) []) :
 ACall Tryz.prog 172 0 [sch l keys,.agg [.str c.n,fI c.k,.bool c.o]] [] Q:=by
 have hlk:=cols_len l;refine ACall.ret (by_body Tryz.func172 0 rfl (nbZ rfl) ?_)
 conv=>whnf
 refine .call [] 0 ⟨rfl,rfl,rfl⟩ (Find_spec hl ?_)
 conv=>whnf
 unfold retS at h;have hf:=fnd_lt (name:=c.n) (l:=l) (i:=0);refine branch_i (fun c1=>?_) (fun c1=>?_)<;>try rw [c1]<;>conv=>whnf
 focus
  rw [if_pos (dtZ c1)] at h;exact ⟨[],rfl,.sub _ _ (err_sub 7) (HSub.refl _) (.done [] rfl h)⟩
 have c1' := dfZ c1;rw [if_neg c1'] at h;obtain ⟨i,hi⟩:∃ i:Nat,fnd c.n l 0 = i:=⟨(fnd c.n l 0).toNat,by omega⟩
 rw [hi] at h;simp only [hi] at *;rw [Int.toNat_natCast] at h;have hlt:i < l.length:=by omega
 have hget:l[i]? = some l[i]:=lgZ hlt;generalize l[i] = d at *;rw [hget] at h;simp only [Option.map_some,Option.getD_some] at h;by_cases c2:(i:Int) < keys
 focus
  rw [show decide ((i:Int) < keys) = true by simp [c2]]
  conv=>whnf
  rw [if_pos c2] at h;exact ⟨[],rfl,.sub _ _ (err_sub 10) (HSub.refl _) (.done [] rfl h)⟩
 rw [show decide ((i:Int) < keys) = false by simp [c2]]
 rw [if_neg c2] at h
 conv=>whnf
 refine ⟨_,⟨by omega,cols_get hget⟩,?_⟩
 conv=>whnf
 cases c3:d.o<;>simp only [c3,Bool.true_eq_false,if_true,if_false] at h
 focus
  conv=>whnf
  exact ⟨[],rfl,.sub _ _ (err_sub 10) (HSub.refl _) (.done [] rfl h)⟩
 conv=>whnf
 refine .call [] 0 ⟨rfl,rfl,rfl⟩ (kind_spec ?_)
 conv=>whnf
 cases c4:kindOk c.k<;>rw [c4] at h
 focus
  conv=>whnf
  exact ⟨[],rfl,.sub _ _ (err_sub 1) (HSub.refl _) (.done [] rfl h)⟩
 conv=>whnf
 refine .call [] 0 ⟨rfl,rfl,rfl⟩ (Clone_spec hl ?_)
 conv=>whnf
 refine ⟨⟨by omega,by omega⟩,?_⟩
 conv=>whnf
 refine ⟨_,cols_get hget,?_⟩
 conv=>whnf
 refine ⟨[3],rfl,.frz 0 rfl ⟨(by rw [List.length_set]; omega:0 + l.length <= ((cols l).set i [.str d.n,fI c.k,.bool d.o]).length),trivial⟩ (.done [] rfl ?_)⟩
 show Q (.tup [.agg [.sl 3 (List.take l.length ((cols l).set i [.str d.n,fI c.k,.bool d.o])) false,fI keys],fI 0]) []
 rw [List.take_of_length_le (by rw [List.length_set]; omega),set_kind hget]
 exact h
def chg (k:Int) (x1 x2 x3:V) (c:Col):V:=.agg [fI k,x1,x2,x3,.str c.n,fI c.k,.bool c.o]
set_option maxRecDepth 10000 in
theorem Apply_spec {l:List Col} {keys k:Int} {c:Col} {x1 x2 x3:V} (hl:l.length < 1000000) (hk:1 <= keys) (h:Q (resS (applyS l keys k c)) []) :
 ACall Tryz.prog 101 0 [sch l keys,chg k x1 x2 x3 c] [] Q:=by
 refine ACall.ret (by_body Tryz.func101 0 rfl (nbZ rfl) ?_)
 conv=>whnf
 refine ⟨[1,2,0,3,4],by kernel_rfl,by kernel_rfl,?_⟩
 conv=>whnf
 refine .call [] 0 ⟨rfl,rfl,rfl⟩ (changes_spec ?_);refine ⟨rfl,?_⟩
 conv=>whnf
 unfold applyS at h;refine branch_i (fun c1=>?_) (fun c1=>?_)<;>try rw [c1]<;>conv=>whnf
 focus
  rw [if_pos (dtZ c1)] at h;refine .call [] 0 ⟨rfl,rfl,rfl⟩ (add_spec hl ?_)
  conv=>whnf
  exact ⟨[],rfl,.done [] rfl h⟩
 rw [if_neg (dfZ c1)] at h;refine branch_i (fun c2=>?_) (fun c2=>?_)<;>try rw [c2]<;>conv=>whnf
 focus
  rw [if_pos (dtZ c2)] at h;refine .call [] 0 ⟨rfl,rfl,rfl⟩ (cut_S_spec hl hk ?_)
  conv=>whnf
  exact ⟨[],rfl,.done [] rfl h⟩
 rw [if_neg (dfZ c2)] at h;refine branch_i (fun c3=>?_) (fun c3=>?_)<;>try rw [c3]<;>conv=>whnf
 focus
  rw [if_pos (dtZ c3)] at h;refine .call [] 0 ⟨rfl,rfl,rfl⟩ (retype_spec hl hk ?_)
  conv=>whnf
  exact ⟨[],rfl,.done [] rfl h⟩
 rw [if_neg (dfZ c3)] at h
 conv=>whnf
 refine ⟨.nilf,⟨_,_,rfl,rfl,rfl⟩,?_⟩
 conv=>whnf
 exact ⟨[],rfl,.sub _ _ (err_sub 5) (HSub.refl _) (.done [] rfl h)⟩
theorem Rapp_spec {l:List Col} {keys k:Int} {c:Col} {x1 x2 x3:V} (hl:l.length <= 16) (hk:1 <= keys) (h:Q (resS (applyS l keys k c)) []) :
 ACall Tryz.prog 93 0 [sch l keys,chg k x1 x2 x3 c] [] Q:=by
 have hlk:=cols_len l;refine ACall.ret (by_body Tryz.func93 0 rfl (nbZ rfl) ?_)
 conv=>whnf
 refine .call [] 0 ⟨rfl,rfl,rfl⟩ (RFind_spec (by omega) ?_)
 conv=>whnf
 refine ⟨(show (cols l).length * 32 <= 70368744177664 by omega),?_⟩
 conv=>whnf
 refine .call [] 0 ⟨rfl,rfl,rfl⟩ (RName_spec ?_)
 conv=>whnf
 refine .call [] 0 ⟨rfl,rfl,rfl⟩ (Rkind_spec ?_)
 conv=>whnf
 unfold applyS at h;refine branch_i (fun c1=>?_) (fun c1=>?_)<;>try rw [c1]<;>conv=>whnf
 focus
  rw [if_pos (dtZ c1)] at h;unfold addS at h;cases d1:nameOk c.n<;>rw [d1] at h
  focus
   conv=>whnf
   exact ⟨[],rfl,.sub _ _ (err_sub 1) (HSub.refl _) (.done [] rfl h)⟩
  conv=>whnf
  cases d2:kindOk c.k<;>rw [d2] at h
  focus
   conv=>whnf
   exact ⟨[],rfl,.sub _ _ (err_sub 1) (HSub.refl _) (.done [] rfl h)⟩
  conv=>whnf
  cases d3:c.o<;>rw [d3] at h
  focus
   conv=>whnf
   exact ⟨[],rfl,.sub _ _ (err_sub 1) (HSub.refl _) (.done [] rfl h)⟩
  conv=>whnf
  simp only [Bool.and_self,if_true] at h;refine branch_i (fun c4=>?_) (fun c4=>?_)<;>try rw [c4]<;>conv=>whnf
  focus
   rw [if_pos (dtZ c4)] at h;exact ⟨[],rfl,.sub _ _ (err_sub 8) (HSub.refl _) (.done [] rfl h)⟩
  rw [if_neg (dfZ c4)] at h;refine branch_i (fun c5=>?_) (fun c5=>?_)<;>try rw [c5]<;>conv=>whnf
  focus
   have c5' := dtZ c5;rw [if_pos (by omega)] at h
   exact ⟨[],rfl,.sub _ _ (err_sub 10) (HSub.refl _) (.done [] rfl h)⟩
  have c5' := dfZ c5;rw [if_neg (by omega)] at h
  refine ⟨[0,1,2,5,6,3,4,7,8,9],by kernel_rfl,by kernel_rfl,?_⟩
  conv=>whnf
  refine ⟨rfl,?_⟩
  conv=>whnf
  refine ⟨Nat.le_refl _,?_⟩
  conv=>whnf
  refine ⟨rfl,?_⟩
  conv=>whnf
  refine ⟨Nat.le_trans (Nat.mul_le_mul_right _ (by rw [laZ,List.length_take,List.drop_zero,hlk]; exact Nat.add_le_add (Nat.le_refl _) (Nat.min_le_left _ _))) (show (l.length + 1) * 32 <= 70368744177664 by omega),?_⟩
  refine ⟨rfl,?_⟩
  conv=>whnf
  refine ⟨[6],rfl,.frz 0 rfl (by repeat (first | exact trivial | refine And.intro (Nat.le_of_eq (Nat.zero_add _)) ?_)) (.done [] rfl ?_)⟩
  show Q (.tup [.agg [.sl 3 (List.take (cols l ++ [[.str c.n,fI c.k,.bool true]]).length (cols l ++ [[.str c.n,fI c.k,.bool true]])) false,fI keys],fI 0]) []
  rw [List.take_length];have e:cols (l ++ [c]) = cols l ++ [[.str c.n,fI c.k,.bool true]]:=by rw [cols_app,<- d3]; rfl
  rw [<- e];exact h
 rw [if_neg (dfZ c1)] at h;have hf:=fnd_lt (name:=c.n) (l:=l) (i:=0);by_cases c2:k = 4
 . subst c2
   conv=>whnf
   rw [if_pos rfl] at h;unfold cutS at h;refine branch_i (fun c4=>?_) (fun c4=>?_)<;>try rw [c4]<;>conv=>whnf
   focus
    rw [if_pos (dtZ c4)] at h;exact ⟨[],rfl,.sub _ _ (err_sub 7) (HSub.refl _) (.done [] rfl h)⟩
   have c4' := dfZ c4;rw [if_neg c4'] at h;refine branch_i (fun c5=>?_) (fun c5=>?_)<;>try rw [c5]<;>conv=>whnf
   focus
    rw [if_pos (dtZ c5)] at h;exact ⟨[],rfl,.sub _ _ (err_sub 10) (HSub.refl _) (.done [] rfl h)⟩
   have c5' := dfZ c5;rw [if_neg c5'] at h;obtain ⟨i,hi⟩:∃ i:Nat,fnd c.n l 0 = i:=⟨(fnd c.n l 0).toNat,by omega⟩
   rw [hi] at h;simp only [hi] at *;rw [Int.toNat_natCast] at h;refine ⟨[0,1,2,3,4,5,6,8,9,7,10,11,12],by kernel_rfl,by kernel_rfl,?_⟩
   conv=>whnf
   refine ⟨⟨by omega,by omega⟩,?_⟩
   conv=>whnf
   rw [show IntKind.i64.wrap ((i:Int) + 1) = ((i + 1:Nat):Int) by rw [IntKind.wrap_i64]; omega]
   refine ⟨⟨by omega,by omega⟩,?_⟩
   conv=>whnf
   refine ⟨by rw [hlk]; simp; omega,?_⟩
   conv=>whnf
   rw [show List.take ((cols l).length - ((i + 1:Nat):Int).toNat) (List.drop (((i + 1:Nat):Int).toNat + 0) (cols l)) = (cols l).drop (i + 1) by
    rw [Int.toNat_natCast,Nat.add_zero,List.take_of_length_le (by simp)]]
   have e3:((cols l).drop (i + 1)).length = l.length - (i + 1):=by simp [hlk]
   rw [Int.toNat_natCast,e3,show 0 + i = i by omega]
   refine ⟨⟨by omega,by omega⟩,?_⟩
   have e5:(cols l).take i ++ (cols l).drop (i + 1) = cols (l.eraseIdx i):=(cols_erase l i).symm;rw [e5,show i + (l.length - (i + 1)) = l.length - 1 by omega]
   have e6:(cols (l.eraseIdx i)).length = l.length - 1:=by rw [cols_len,List.length_eraseIdx,if_pos (by omega)]
   conv=>whnf
   refine ⟨rfl,?_⟩
   conv=>whnf
   refine ⟨[4],rfl,.frz 0 rfl ⟨(by rw [laZ]; omega:0 + (l.length - 1) <= (cols (l.eraseIdx i) ++ List.drop (l.length - 1) (cols l)).length),trivial⟩ (.done [] rfl ?_)⟩
   show Q (.tup [.agg [.sl 3 (List.take (l.length - 1) (cols (l.eraseIdx i) ++ List.drop (l.length - 1) (cols l))) false,fI keys],fI 0]) []
   rw [show List.take (l.length - 1) (cols (l.eraseIdx i) ++ List.drop (l.length - 1) (cols l)) = cols (l.eraseIdx i) by rw [<- e6,List.take_left]]
   exact h
 rw [if_neg c2] at h;by_cases c3:k = 5
 . subst c3
   conv=>whnf
   rw [if_pos rfl] at h;unfold retS at h;refine branch_i (fun c4=>?_) (fun c4=>?_)<;>try rw [c4]<;>conv=>whnf
   focus
    rw [if_pos (dtZ c4)] at h;exact ⟨[],rfl,.sub _ _ (err_sub 7) (HSub.refl _) (.done [] rfl h)⟩
   have c4' := dfZ c4;rw [if_neg c4'] at h;refine branch_i (fun c5=>?_) (fun c5=>?_)<;>try rw [c5]<;>conv=>whnf
   focus
    rw [if_pos (dtZ c5)] at h;exact ⟨[],rfl,.sub _ _ (err_sub 10) (HSub.refl _) (.done [] rfl h)⟩
   have c5' := dfZ c5;rw [if_neg c5'] at h;obtain ⟨i,hi⟩:∃ i:Nat,fnd c.n l 0 = i:=⟨(fnd c.n l 0).toNat,by omega⟩
   rw [hi] at h;simp only [hi] at *;rw [Int.toNat_natCast] at h;have hlt:i < l.length:=by omega
   have hget:l[i]? = some l[i]:=lgZ hlt;generalize l[i] = d at *;rw [hget] at h;simp only [Option.map_some,Option.getD_some] at h;refine ⟨⟨by omega,by omega⟩,?_⟩
   conv=>whnf
   refine ⟨_,cols_get hget,?_⟩
   conv=>whnf
   cases d3:d.o<;>simp only [d3,Bool.true_eq_false,if_true,if_false] at h
   focus
    conv=>whnf
    exact ⟨[],rfl,.sub _ _ (err_sub 10) (HSub.refl _) (.done [] rfl h)⟩
   conv=>whnf
   cases d4:kindOk c.k<;>rw [d4] at h
   focus
    conv=>whnf
    exact ⟨[],rfl,.sub _ _ (err_sub 1) (HSub.refl _) (.done [] rfl h)⟩
   conv=>whnf
   refine ⟨⟨by omega,by omega⟩,?_⟩
   conv=>whnf
   refine ⟨_,cols_get hget,?_⟩
   conv=>whnf
   refine ⟨[4],rfl,.frz 0 rfl ⟨(by rw [List.length_set]; omega:0 + (cols l).length <= ((cols l).set i [.str d.n,fI c.k,.bool d.o]).length),trivial⟩ (.done [] rfl ?_)⟩
   show Q (.tup [.agg [.sl 3 (List.take (cols l).length ((cols l).set i [.str d.n,fI c.k,.bool d.o])) false,fI keys],fI 0]) []
   rw [List.take_of_length_le (by rw [List.length_set]; omega),set_kind hget]
   exact h
 rw [if_neg c3] at h;rw [show decide (k = 4) = false by simp [c2]]
 conv=>whnf
 rw [show decide (k = 5) = false by simp [c3]]
 conv=>whnf
 exact ⟨[],rfl,.sub _ _ (err_sub 5) (HSub.refl _) (.done [] rfl h)⟩
end
section
variable {Q:V -> List O -> Prop}
theorem cols_of:∀ {es:List (List V)},(∀ x ∈ es,∃ (s:List UInt8) (k:Int) (o:Bool),x = [.str s,.int .i64 k,.bool o] /\ I64 k) -> ∃ l,es = cols l /\ ∀ c ∈ l,I64 c.k
 | [],_=>⟨[],rfl,by simp⟩
 | x :: es,h=>by
  obtain ⟨s,k,o,rfl,hk⟩:=h x (by simp)
  obtain ⟨l,rfl,hl⟩:=cols_of (es:=es) fun y hy=>h y (by simp [hy])
  exact ⟨⟨s,k,o⟩ :: l,rfl,by simpa using ⟨hk,hl⟩⟩
theorem i64_wf {k:Int} (h:(Lit.int .i64 k).wf = true):I64 k:=by
 have h' : (decide (IntKind.i64.min <= k) && decide (k <= IntKind.i64.max)) = true:=h;rw [Bool.and_eq_true] at h';exact ⟨dtZ h'.1,dtZ h'.2⟩
end
section
variable {Q:V -> List O -> Prop}
structure SchOk (l:List Col) (keys:Int):Prop where
 names:NamesOk l
 cols:∀ d ∈ l,ColOk d
 lo:1 <= keys
 hi:keys <= 4
 len:keys <= l.length
 most:l.length <= 16
 keyed:∀ (i:Nat) (c:Col),(i:Int) < keys -> l[i]? = some c -> c.o = false
theorem SchOk.may {l:List Col} {keys:Int} (h:SchOk l keys):mayS l keys = true:=by
 have h1:=h.lo; have h2:=h.hi; have h3:=h.len; have h4:=h.most;refine mayS_yes (by unfold mayH; simp; omega) fun i c hc=>?_
 obtain ⟨g1,g2⟩:=h.cols c (List.mem_of_getElem? hc);unfold mayC;rw [g1,g2,fnd_at h.names hc];simp;rcases Int.lt_or_le (i:Int) keys with hi | hi
 rotate_left
 . exact .inl hi
 . exact .inr (h.keyed i c hi hc)
theorem good_ok {l:List Col} {keys:Int} (hl:∀ c ∈ l,I64 c.k) (hk:I64 keys):SchOk (goodL nameOk l keys) (goodK nameOk l keys):=by
 obtain ⟨h1,h2⟩:=good_names hl keys;obtain ⟨k1,k2,k3⟩:=good_keys (l:=l) hk;have hlen:=good_len l keys;refine ⟨h1,h2,k1,by omega,k3,by omega,fun i c hi hc=>?_⟩
 unfold goodL at hc;rw [clearK_get] at hc;cases hd:(gCols nameOk l)[i]? with
 | none=>rw [hd] at hc; cases hc
 | some d =>
  rw [hd] at hc;simp only [Option.map_some,Option.some.injEq] at hc;have:i < (gKeys (gCols nameOk l).length keys).toNat:=by
   unfold goodK at hi;omega
  rw [if_pos this] at hc;rw [<- hc]
theorem add_ok {l:List Col} {keys:Int} {c:Col} (h:SchOk l keys) (he:(addS l keys c).2.2 = 0):SchOk (addS l keys c).1 (addS l keys c).2.1:=by
 unfold addS at he ⊢;by_cases h1:(nameOk c.n && kindOk c.k && c.o) = true
 rotate_left
 . rw [if_neg h1] at he; simp at he
 rw [if_pos h1] at he ⊢;by_cases h2:0 <= fnd c.n l 0
 . rw [if_pos h2] at he; simp at he
 rw [if_neg h2] at he ⊢;by_cases h3:l.length = 16
 . rw [if_pos h3] at he; simp at he
 rw [if_neg h3];simp only [Bool.and_eq_true] at h1;have h4:=h.most; have h5:=h.len;refine ⟨?_,fun d hd=>?_,h.lo,h.hi,by simp only [laZ,List.length_singleton]; omega,by simp only [laZ,List.length_singleton]; omega,fun i d hi hd=>?_⟩
 . unfold NamesOk;rw [List.map_append,List.pairwise_append];refine ⟨h.names,by simp,fun a ha b hb=>?_⟩
   obtain ⟨d,hd,rfl⟩:=List.mem_map.1 ha;simp at hb;subst hb;exact fnd_neg (i:=0) (by omega) d hd
 . rcases List.mem_append.1 hd with hd | hd
   . exact h.cols d hd
   . simp at hd; subst hd; exact ⟨h1.1.1,h1.1.2⟩
 . have hi' : (i:Int) < keys:=hi;refine h.keyed i d hi' ?_
   rwa [List.getElem?_append_left (by omega)] at hd
theorem cut_ok {l:List Col} {keys:Int} {c:Col} (h:SchOk l keys) (he:(cutS l keys c).2.2 = 0):SchOk (cutS l keys c).1 (cutS l keys c).2.1:=by
 unfold cutS at he ⊢;by_cases h1:fnd c.n l 0 < 0
 . rw [if_pos h1] at he; simp at he
 rw [if_neg h1] at he ⊢;by_cases h2:fnd c.n l 0 < keys
 . rw [if_pos h2] at he; simp at he
 rw [if_neg h2];have hf:=fnd_lt (name:=c.n) (l:=l) (i:=0);have h3:=h.lo; have h4:=h.most; have h5:=h.len;generalize hi:(fnd c.n l 0).toNat = i;have hlt:i < l.length:=by omega
 have hk:keys <= (i:Int):=by omega
 refine ⟨?_,fun d hd=>h.cols d ((List.eraseIdx_sublist _ _).subset hd),h.lo,h.hi,by simp only [List.length_eraseIdx,if_pos hlt]; omega,by simp only [List.length_eraseIdx,if_pos hlt]; omega,fun j d hj hd=>?_⟩
 . unfold NamesOk;exact h.names.sublist ((List.eraseIdx_sublist _ _).map _)
 . have hj' : (j:Int) < keys:=hj;simp only [List.getElem?_eraseIdx] at hd;rw [if_pos (by omega)] at hd
   exact h.keyed j d hj hd
theorem setKind_len (l:List Col) (i:Nat) (k:Int):(setKind l i k).length = l.length:=by simp [setKind]
theorem setKind_names (l:List Col) (i:Nat) (k:Int):(setKind l i k).map Col.n = l.map Col.n:=by
 refine List.ext_getElem? fun j=>?_
 rw [List.getElem?_map,List.getElem?_map,setKind,List.getElem?_modify];cases l[j]? with
 | none=>simp
 | some d=>by_cases e:i = j<;>simp [e]
theorem ret_ok {l:List Col} {keys:Int} {c:Col} (h:SchOk l keys) (he:(retS l keys c).2.2 = 0):SchOk (retS l keys c).1 (retS l keys c).2.1:=by
 unfold retS at he ⊢;by_cases h1:fnd c.n l 0 < 0
 . rw [if_pos h1] at he; simp at he
 rw [if_neg h1] at he ⊢;by_cases h2:fnd c.n l 0 < keys
 . rw [if_pos h2] at he; simp at he
 rw [if_neg h2] at he ⊢;by_cases h3:((l[(fnd c.n l 0).toNat]?).map Col.o).getD false = false
 . rw [if_pos h3] at he; simp at he
 rw [if_neg h3] at he ⊢;by_cases h4:kindOk c.k = true
 rotate_left
 . rw [if_neg h4] at he; simp at he
 rw [if_pos h4];have hf:=fnd_lt (name:=c.n) (l:=l) (i:=0);have g3:=h.lo; have g4:=h.most; have g5:=h.len;generalize hi:(fnd c.n l 0).toNat = i;have hlt:i < l.length:=by omega
 have hk:keys <= (i:Int):=by omega
 refine ⟨by unfold NamesOk; rw [setKind_names]; exact h.names,fun d hd=>?_,h.lo,h.hi,by simp only [setKind_len]; omega,by simp only [setKind_len]; omega,fun j d hj hd=>?_⟩
 . obtain ⟨j,hj⟩:=List.mem_iff_getElem?.1 hd;rw [setKind,List.getElem?_modify] at hj;cases hx:l[j]? with
   | none=>rw [hx] at hj; simp at hj
   | some x =>
    rw [hx] at hj;have hx' := h.cols x (List.mem_of_getElem? hx);by_cases e:i = j
    . simp [e] at hj; subst hj; exact ⟨hx'.1,h4⟩
    . simp [e] at hj; subst hj; exact hx'
 . have hj' : (j:Int) < keys:=hj;have hne:i ≠ j:=by omega
   rw [setKind,List.getElem?_modify] at hd;cases hx:l[j]? with
   | none=>rw [hx] at hd; simp at hd
   | some x =>
    rw [hx] at hd;simp [hne] at hd;subst hd;exact h.keyed j x hj' hx
theorem apply_ok {l:List Col} {keys k:Int} {c:Col} (h:SchOk l keys) (he:(applyS l keys k c).2.2 = 0):SchOk (applyS l keys k c).1 (applyS l keys k c).2.1:=by
 unfold applyS at he ⊢;by_cases h1:k = 3
 . rw [if_pos h1] at he ⊢; exact add_ok h he
 rw [if_neg h1] at he ⊢;by_cases h2:k = 4
 . rw [if_pos h2] at he ⊢; exact cut_ok h he
 rw [if_neg h2] at he ⊢;by_cases h3:k = 5
 . rw [if_pos h3] at he ⊢; exact ret_ok h he
 rw [if_neg h3] at he;simp at he
end
section
variable {Q:V -> List O -> Prop}
theorem nils_sl3 (f:Bool):VSub .nils (.sl 3 [] f):=fun I ρ u h=>by cases h; exact .slnil _ _ _ _
theorem wrapE {n:Int} (h:-9223372036854775808 <= n /\ n <= 9223372036854775807):IntKind.i64.wrap n = n:=by rw [IntKind.wrap_i64]; omega
theorem evat1_spec {w:Tb} {t:List UInt8} (h:Q (.int .i64 (cmpS w.n t)) []):ACall Tryz.prog 116 0 [tbA w,.str t] [] Q:=by
 refine by_body Tryz.func116 0 rfl (nbZ rfl) ?_
 conv=>whnf
 refine .pure (CompareS_spec ⟨rfl,?_⟩)
 conv=>whnf
 exact ⟨[],rfl,h⟩
set_option maxHeartbeats 4000000 in
theorem SearchT_spec {l:List Tb} {t:List UInt8} {f:Bool} (hl:l.length < 1000000) (hs:SortedT l) (h:Q (.tup [fI (posT l t),.bool (atT l t).isSome]) []) :
 ACall Tryz.prog 115 0 [.sl 3 (tbs l) f,.str t,.fn (.func 116) [] []] [] Q:=by
 refine by_body Tryz.func115 0 rfl (nbZ rfl) ?_
 conv=>whnf
 have hlk:=tbs_len l;have hnk:=nws_len l;refine ⟨⟨[0,1,2,8,9,10],fun m ws H=>∃ i j:Nat,ws = [.sl 3 (tbs l) f,.str t,.fn (.func 116) [] [],fI l.length,fI i,fI j] /\ H = [] /\ i <= j /\ j <= l.length /\ BelowT (nws l) t i /\ AboveT (nws l) t j /\ m = j - i,
  .at l.length ⟨0,l.length,?_,rfl,by omega,by omega,fun j w hj=>by omega,fun j w hj hw=>?_,rfl⟩,?_⟩⟩
 . show [V.sl 3 (tbs l) f,V.str t,V.fn (.func 116) [] [],fI (tbs l).length,fI 0,fI (tbs l).length] = _
   rw [hlk]; rfl
 . have:=(liZ.1 hw).1; omega
 rintro m ws H ⟨i,j,rfl,rfl,hij,hj,hb,ha,rfl⟩
 conv=>whnf
 refine branch_i (fun c1=>?_) (fun c1=>?_)<;>try rw [c1]<;>conv=>whnf
 focus
  have c1' := dtZ c1;refine ⟨by decide,?_⟩
  conv=>whnf
  rw [half_eq (by omega)]
  have h1:i <= (i + j) / 2:=by omega
  have h2:(i + j) / 2 < j:=by omega
  generalize (i + j) / 2 = k at *;have hg:l[k]? = some l[k]:=lgZ (by omega)
  generalize l[k] = w at *;refine ⟨_,⟨by omega,tbs_get hg⟩,?_⟩
  conv=>whnf
  refine .pure (evat1_spec (w:=w) ⟨rfl,?_⟩)
  conv=>whnf
  rw [cmpS_lt];cases hlt:Op.bytesLess w.n t<;>conv=>whnf
  . refine .go [] rfl (k - i) (by omega) ⟨i,k,rfl,rfl,h1,by omega,hb,above_sorted hs (nws_get hg) hlt,rfl⟩
  . refine .go [] rfl (j - (k + 1)) (by omega) ⟨k + 1,j,?_,rfl,by omega,by omega,below_sorted hs (nws_get hg) hlt,ha,rfl⟩
    show [V.sl 3 (tbs l) f,V.str t,V.fn (.func 116) [] [],fI l.length,V.int .i64 (IntKind.i64.wrap ((k:Int) + 1)),fI j] = _
    rw [wrapE (by omega)]; rfl
 have c1' := dfZ c1;have hije:i = j:=by omega
 subst hije;have hp:posL (nws l) t = i:=pos_unique (by omega) hb fun w hw=>ha i w (Nat.le_refl _) hw
 have hat:=at_pos (t:=t) hs;have hp' : posT l t = i:=hp;have hat' : (atT l t).isSome = _:=hat;rw [hp] at hat';rw [hp'] at h;refine branch_i (fun c2=>?_) (fun c2=>?_)<;>try rw [c2]<;>conv=>whnf
 . have c2' := dtZ c2;have hg:l[i]? = some l[i]:=lgZ (by omega)
   generalize l[i] = w at *;rw [nws_get hg] at hat';refine ⟨_,⟨by omega,tbs_get hg⟩,?_⟩
   conv=>whnf
   refine .pure (evat1_spec (w:=w) ⟨rfl,?_⟩)
   conv=>whnf
   refine ⟨[],rfl,?_⟩;show Q (.tup [fI i,.bool (decide (cmpS w.n t = 0))]) []
   rw [cmpS_eq];simp only at hat';have e:decide (w.n = t) = (atT l t).isSome:=hat'.symm;rw [e]; exact h
 . have c2' := dfZ c2;rw [List.getElem?_eq_none (by omega)] at hat'
   simp only at hat';rw [hat'] at h;exact ⟨[],rfl,h⟩
theorem evat_spec {l:List Tb} {t:List UInt8} {f:Bool} (hl:l.length < 1000000) (hs:SortedT l) (h:Q (.tup [fI (posT l t),.bool (atT l t).isSome]) []):ACall Tryz.prog 75 0 [.sl 3 (tbs l) f,.str t] [] Q:=by
 refine by_body Tryz.func75 0 rfl (nbZ rfl) ?_
 conv=>whnf
 refine .pure (SearchT_spec hl hs ⟨rfl,?_⟩)
 conv=>whnf
 exact ⟨[],rfl,h⟩
theorem pos_of_at {l:List Tb} {t:List UInt8} {i:Nat} (hs:SortedT l) (h:atT l t = some i):posT l t = i:=at_sorted hs h
theorem EvFind_spec {l:List Tb} {t:List UInt8} {f:Bool} (hl:l.length < 1000000) (hs:SortedT l) (hc:∀ x ∈ l,x.c.length < 1000000) (h:Q (findR (findT l t)) []):ACall Tryz.prog 46 0 [.sl 3 (tbs l) f,.str t] [] Q:=by
 refine ACall.ret (by_body Tryz.func46 0 rfl (nbZ rfl) ?_)
 conv=>whnf
 refine .pure (evat_spec hl hs ⟨rfl,?_⟩);cases ha:atT l t with
 | none =>
  rw [find_none ha] at h
  conv=>whnf
  exact ⟨[],rfl,.sub _ _ (VSub.tup (.cons (.agg (.cons (nils_sl3 false) (VSubs.refl _))) (VSubs.refl _))) (HSub.refl _) (.done [] rfl h)⟩
 | some i =>
  obtain ⟨x,hx,_,hlt⟩:=atT_get ha;rw [find_some ha hx] at h;have hxl:=hc x (List.mem_of_getElem? hx);rw [pos_of_at hs ha]
  conv=>whnf
  refine ⟨_,⟨by omega,tbs_get hx⟩,?_⟩
  conv=>whnf
  refine .call [] 0 ⟨rfl,rfl,rfl⟩ (Clone_spec (l:=x.c) (keys:=x.k) hxl ?_)
  conv=>whnf
  have hlk:=cols_len x.c;refine ⟨[1],rfl,.frz 0 rfl (by repeat (first | exact trivial | refine And.intro (by rw [hlk]; exact Nat.le_of_eq (Nat.zero_add _)) ?_)) (.done [] rfl ?_)⟩
  show Q (.tup [.agg [.sl 3 (List.take x.c.length (cols x.c)) false,fI x.k],.bool true]) []
  rw [<- hlk,List.take_length];exact h
def atTI (l:List Tb) (t:List UInt8):Int:=atI (nws l) t
theorem EvRAt_spec {l:List Tb} {t:List UInt8} {f:Bool} (hl:l.length < 4611686018427387904) (h:Q (.int .i64 (atTI l t)) []):ACall Tryz.prog 55 0 [.sl 3 (tbs l) f,.str t] [] Q:=by
 refine by_body Tryz.func55 0 rfl (nbZ rfl) ?_
 conv=>whnf
 have hlv:=tbs_len l;have hnv:=nws_len l;refine ⟨⟨[0,1,5],fun m ws H=>∃ i:Nat,ws = [.sl 3 (tbs l) f,.str t,fI i] /\ H = [] /\ NoneBefore (nws l) t i /\ i <= l.length /\ m = l.length - i,
  .at l.length ⟨0,rfl,rfl,fun j w hj=>by omega,Nat.zero_le _,rfl⟩,?_⟩⟩
 rintro m ws H ⟨i,rfl,rfl,hn,hi,rfl⟩
 conv=>whnf
 refine branch_i (fun c1=>?_) (fun c1=>?_)<;>try rw [c1]<;>conv=>whnf
 rotate_left
 focus
  have c1' := dfZ c1;have:i = l.length:=by omega
  subst this;unfold atTI atI at h;rw [at_none (by rw [hnv]; exact hn)] at h
  exact ⟨[],rfl,h⟩
 have c1' := dtZ c1;have hlt:i < l.length:=by omega
 have hg:l[i]? = some l[i]:=lgZ hlt;generalize l[i] = w at *;refine ⟨_,⟨by omega,tbs_get hg⟩,?_⟩
 conv=>whnf
 refine branch_i (fun c2=>?_) (fun c2=>?_)<;>try rw [c2]<;>conv=>whnf
 . unfold atTI atI at h;rw [at_some hn (nws_get hg) (dtZ c2)] at h;exact ⟨[],rfl,h⟩
 . refine .go [] rfl (l.length - (i + 1)) (by omega) ⟨i + 1,?_,rfl,fun j x hj hx=>?_,by omega,rfl⟩
   . show [V.sl 3 (tbs l) f,V.str t,V.int .i64 (IntKind.i64.wrap ((i:Int) + 1))] = _
     rw [wrapE (by omega)]; rfl
   . rcases Nat.lt_or_ge j i with h1 | h1
     . exact hn j x h1 hx
     . have:j = i:=by omega
       subst this;rw [nws_get hg] at hx; cases hx;exact dfZ c2
theorem atTI_none {l:List Tb} {t:List UInt8} (h:atT l t = none):atTI l t = -1:=by unfold atTI atI; rw [show atL (nws l) t = none from h]
theorem atTI_some {l:List Tb} {t:List UInt8} {i:Nat} (h:atT l t = some i):atTI l t = (i:Int):=by unfold atTI atI; rw [show atL (nws l) t = some i from h]
theorem EvRFind_spec {l:List Tb} {t:List UInt8} {f:Bool} (hl:l.length < 4611686018427387904) (h:Q (findR (findT l t)) []):ACall Tryz.prog 90 0 [.sl 3 (tbs l) f,.str t] [] Q:=by
 refine ACall.ret (by_body Tryz.func90 0 rfl (nbZ rfl) ?_)
 conv=>whnf
 refine .pure (EvRAt_spec hl ⟨rfl,?_⟩);cases ha:atT l t with
 | none =>
  rw [find_none ha] at h;rw [atTI_none ha]
  conv=>whnf
  exact ⟨[],rfl,.sub _ _ (VSub.tup (.cons (.agg (.cons (nils_sl3 false) (VSubs.refl _))) (VSubs.refl _))) (HSub.refl _) (.done [] rfl h)⟩
 | some i =>
  obtain ⟨x,hx,_,hlt⟩:=atT_get ha;rw [find_some ha hx] at h;rw [atTI_some ha]
  conv=>whnf
  rw [show decide ((i:Int) < 0) = false from decide_eq_false (by omega)]
  conv=>whnf
  refine ⟨_,⟨by omega,tbs_get hx⟩,?_⟩
  conv=>whnf
  exact ⟨[],rfl,.done [] rfl h⟩
end
section
variable {Q:V -> List O -> Prop}
end
section
variable {Q:V -> List O -> Prop}
def folT (l:List Tb) (k:Int) (t:List UInt8) (cs:List Col) (ks:Int) (c:Col):List Tb × Int :=
 if k = 1 then (if nameOk t = false then ([],6) else if (atT l t).isSome then ([],8) else if mayS cs ks = false then ([],1) else if 64 <= l.length then ([],13) else (insT l ⟨t,cs,ks⟩,0))
 else match atT l t with
  | none=>([],7)
  | some i=>if k = 2 then (l.eraseIdx i,0) else match l[i]? with
   | some x=>if (applyS x.c x.k k c).2.2 ≠ 0 then ([],(applyS x.c x.k k c).2.2) else (l.set i ⟨x.n,(applyS x.c x.k k c).1,(applyS x.c x.k k c).2.1⟩,0)
   | none=>([],7)
def folR (r:List Tb × Int):V:=.tup [.sl 3 (tbs r.1) false,fI r.2]
theorem err_fol (e:Int):VSub (.tup [.nils,fI e]) (folR ([],e)):=.tup (.cons (nils_sl3 false) (VSubs.refl _))
def chT (k:Int) (t:List UInt8) (cs:List Col) (ks:Int) (c:Col):V:=chg k (.str t) (.sl 3 (cols cs) false) (fI ks) c
def fkInv (l:List Tb) (f:Bool) (C:List V) (t:List UInt8) (m:Nat) (ws:List V) (H:List O):Prop :=
 ∃ k:Nat,ws = [.sl 3 (tbs l) f,.ptr 0 0,.nils,fI k] /\ H = [.cells C] /\ BelowT (nws l) t k /\ k <= l.length /\ m = l.length - k
theorem may_bd {l:List Col} {k:Int} (h:mayS l k = true):1 <= k /\ k <= 4 /\ k <= l.length /\ l.length <= 16:=by
 unfold mayS at h;rw [Bool.and_eq_true] at h;have:=h.1;unfold mayH at this;simp only [Bool.and_eq_true,decide_eq_true_eq] at this;exact ⟨this.1,this.2.1,this.2.2.1,this.2.2.2⟩
theorem fol_ret {j n:Nat} {H:List O} {L:List Tb} (hg:getO H j = .buf (tbs L)) (hn:n = L.length) (hj:j < H.length) (h:Q (folR (L,0)) []):∃ sel,selOk sel H.length 0 = true /\ ARet 0 Q (renV (idx sel) (.tup [.ms 3 j 0 n false,fI 0])) (gather (idx sel) H sel):=by
 subst hn;refine ⟨[j],?_,?_⟩
 . simp [selOk,allLt,nodupB,idx,Nat.blt_eq,hj]
 . have e1:renV (idx [j]) (.tup [.ms 3 j 0 L.length false,fI 0]) = .tup [.ms 3 0 0 L.length false,fI 0]:=by simp [renV,renL,idx]
   have e2:gather (idx [j]) H [j] = [.buf (tbs L)]:=by simp [gather,hg,renO]
   rw [e1,e2];have hle:=tbs_len L;refine .frz 0 rfl (by repeat (first | exact trivial | refine And.intro (by rw [hle,Nat.zero_add]; exact Nat.le_refl _) ?_)) (.done [] rfl ?_)
   show Q (.tup [.sl 3 (List.take L.length (List.drop 0 (tbs L))) false,fI 0]) []
   rw [List.drop_zero,<- hle,List.take_length];exact h
set_option maxRecDepth 8000 in
set_option maxHeartbeats 16000000 in
theorem RFollow_spec {l:List Tb} {f:Bool} {k:Int} {t:List UInt8} {cs:List Col} {ks:Int} {c:Col} (hl:l.length <= 64) (hm:∀ x ∈ l,mayS x.c x.k = true) (h:Q (folR (folT l k t cs ks c)) []) :
 ACall Tryz.prog 54 0 [.sl 3 (tbs l) f,chT k t cs ks c] [] Q:=by
 refine ACall.ret (by_body Tryz.func54 0 rfl (nbZ rfl) ?_)
 conv=>whnf
 have hlk:=tbs_len l;have hnk:=nws_len l;unfold folT at h;refine .pure (EvRAt_spec (by omega) ⟨rfl,?_⟩)
 conv=>whnf
 refine branch_i (fun c1=>?_) (fun c1=>?_)<;>try rw [c1]<;>conv=>whnf
 . have c1' := dtZ c1;subst c1';rw [if_pos rfl] at h;refine .pure (RName_spec ⟨rfl,?_⟩)
   conv=>whnf
   refine .pure (RMay_any (l:=cs) (keys:=ks) ⟨rfl,?_⟩)
   conv=>whnf
   cases hn:nameOk t<;>rw [hn] at h<;>conv=>whnf
   focus
    rw [if_pos rfl] at h;exact ⟨[],rfl,.sub _ _ (err_fol 6) (HSub.refl _) (.done [] rfl h)⟩
   rw [if_neg (by simp)] at h
   cases ha:atT l t with
   | some i =>
    rw [ha] at h;rw [atTI_some ha]
    conv=>whnf
    exact ⟨[],rfl,.sub _ _ (err_fol 8) (HSub.refl _) (.done [] rfl h)⟩
   | none =>
    rw [ha] at h;rw [if_neg (by simp)] at h
    rw [atTI_none ha]
    conv=>whnf
    cases hy:mayS cs ks<;>rw [hy] at h<;>conv=>whnf
    focus
     rw [if_pos rfl] at h;exact ⟨[],rfl,.sub _ _ (err_fol 1) (HSub.refl _) (.done [] rfl h)⟩
    rw [if_neg (by simp)] at h
    rw [hlk];refine branch_i (fun c2=>?_) (fun c2=>?_)<;>try rw [c2]<;>conv=>whnf
    focus
     rw [if_pos (by have:=dtZ c2; omega)] at h
     exact ⟨[],rfl,.sub _ _ (err_fol 13) (HSub.refl _) (.done [] rfl h)⟩
    rw [if_neg (by have:=dfZ c2; omega)] at h
    refine ⟨⟨[0,3,7,10],fkInv l f [fI 1,.str t,.sl 3 (cols cs) false,fI ks,.str c.n,fI c.k,.bool c.o] t,.at l.length ⟨0,rfl,rfl,fun j w hj=>by omega,Nat.zero_le _,rfl⟩,?_⟩⟩
    rintro m ws H ⟨k,rfl,rfl,hb,hk,rfl⟩;have fin:∀ (n:Nat) (H:List O),n = (List.take k (tbs l)).length + 1 + (List.drop k (tbs l)).length -> posT l t = k -> getO H 4 = .buf (List.take k (tbs l) ++ [tbC ⟨t,cs,ks⟩] ++ List.drop k (tbs l)) -> H.length = 5 -> (∃ sel,selOk sel H.length 0 = true /\ ARet 0 Q (renV (idx sel) (.tup [.ms 3 4 0 n false,fI 0])) (gather (idx sel) H sel)):=fun n H hn0 hp hg hlen=>by
     have hn1:n = l.length + 1:=by rw [hn0,List.length_take,List.length_drop]; omega
     subst hn1;have hins:tbs (insT l ⟨t,cs,ks⟩) = List.take k (tbs l) ++ [tbC ⟨t,cs,ks⟩] ++ List.drop k (tbs l):=by
      unfold insT;rw [hp]; simp [tbs,List.map_take,List.map_drop]
     refine ⟨[4],by rw [hlen]; rfl,?_⟩
     show ARet 0 Q (.tup [.ms 3 0 0 (l.length + 1) false,fI 0]) [renO (idx [4]) (getO H 4)]
     rw [hg,<- hins];have hle:(tbs (insT l ⟨t,cs,ks⟩)).length = l.length + 1:=by rw [tbs_len,insT_len]
     refine .frz 0 rfl (by repeat (first | exact trivial | refine And.intro (by rw [hle,Nat.zero_add]; exact Nat.le_refl _) ?_)) (.done [] rfl ?_)
     show Q (.tup [.sl 3 (List.take (l.length + 1) (List.drop 0 (tbs (insT l ⟨t,cs,ks⟩)))) false,fI 0]) []
     rw [List.drop_zero,<- hle,List.take_length];exact h
    conv=>whnf
    refine ⟨List.range 14,by kernel_rfl,by kernel_rfl,?_⟩
    conv=>whnf
    rw [hlk];refine branch_i (fun c3=>?_) (fun c3=>?_)<;>try rw [c3]<;>conv=>whnf
    . have c3' := dtZ c3;have hlt:k < l.length:=by omega
      have hg:l[k]? = some l[k]:=lgZ hlt;generalize l[k] = w at *;refine ⟨_,⟨by omega,tbs_get hg⟩,?_⟩
      conv=>whnf
      cases hbl:Op.bytesLess w.n t<;>conv=>whnf
      . have hp:posT l t = k:=pos_unique (by omega) hb fun x hx=>by rw [nws_get hg] at hx; cases hx; exact hbl
        have hT:(List.take k (tbs l)).length <= 64:=by rw [List.length_take]; omega
        have hD:(List.drop k (tbs l)).length <= 64:=by rw [List.length_drop]; omega
        refine ⟨⟨by omega,by omega⟩,?_⟩
        conv=>whnf
        refine ⟨(Nat.le_trans (Nat.mul_le_mul_right _ hT) (show 64 * 48 <= 70368744177664 by omega)),?_⟩
        conv=>whnf
        refine ⟨Nat.le_refl 1,?_⟩;refine app_gen rfl rfl rfl (Nat.le_trans (Nat.mul_le_mul_right _ (Nat.add_le_add hT (show 1 <= 1 by omega))) (show (64 + 1) * 48 <= 70368744177664 by omega)) ?_
        conv=>whnf
        refine ⟨⟨by omega,by omega⟩,?_⟩
        conv=>whnf
        refine app_gen2 (by rw [laZ]) (Nat.le_trans (Nat.mul_le_mul_right _ (Nat.add_le_add (by rw [laZ]; exact Nat.add_le_add hT (show 1 <= 1 by omega)) hD)) (show (64 + 1 + 64) * 48 <= 70368744177664 by omega)) ?_
        conv=>whnf
        exact fin _ _ (by rw [laZ]; rfl) hp rfl rfl
      . refine .go [0] rfl (l.length - (k + 1)) (by omega) ⟨k + 1,?_,rfl,add_pos_step hb (nws_get hg) hbl,by omega,rfl⟩
        show [V.sl 3 (tbs l) f,V.ptr 0 0,V.nils,V.int .i64 (IntKind.i64.wrap ((k:Int) + 1))] = _
        rw [wrapE (by omega)]; rfl
    . have c3' := dfZ c3;have hp:posT l t = k:=pos_unique (by omega) hb fun x hx=>by rw [List.getElem?_eq_none (by omega)] at hx; cases hx
      have hT:(List.take k (tbs l)).length <= 64:=by rw [List.length_take]; omega
      have hD:(List.drop k (tbs l)).length <= 64:=by rw [List.length_drop]; omega
      refine ⟨⟨by omega,by omega⟩,?_⟩
      conv=>whnf
      refine ⟨(Nat.le_trans (Nat.mul_le_mul_right _ hT) (show 64 * 48 <= 70368744177664 by omega)),?_⟩
      conv=>whnf
      refine ⟨Nat.le_refl 1,?_⟩;refine app_gen rfl rfl rfl (Nat.le_trans (Nat.mul_le_mul_right _ (Nat.add_le_add hT (show 1 <= 1 by omega))) (show (64 + 1) * 48 <= 70368744177664 by omega)) ?_
      conv=>whnf
      refine ⟨⟨by omega,by omega⟩,?_⟩
      conv=>whnf
      refine app_gen2 (by rw [laZ]) (Nat.le_trans (Nat.mul_le_mul_right _ (Nat.add_le_add (by rw [laZ]; exact Nat.add_le_add hT (show 1 <= 1 by omega)) hD)) (show (64 + 1 + 64) * 48 <= 70368744177664 by omega)) ?_
      conv=>whnf
      exact fin _ _ (by rw [laZ]; rfl) hp rfl rfl
 . have c1' := dfZ c1;rw [if_neg c1'] at h;cases ha:atT l t with
   | none =>
    rw [ha] at h;rw [atTI_none ha]
    conv=>whnf
    exact ⟨[],rfl,.sub _ _ (err_fol 7) (HSub.refl _) (.done [] rfl h)⟩
   | some i =>
    obtain ⟨x,hx,_,hlt⟩:=atT_get ha;rw [ha] at h;simp only at h;rw [atTI_some ha];rw [show decide ((i:Int) < 0) = false from decide_eq_false (by omega)]
    conv=>whnf
    have hT:(List.take i (tbs l)).length <= 64:=by rw [List.length_take]; omega
    have hD:(List.drop (i + 1) (tbs l)).length <= 64:=by rw [List.length_drop]; omega
    refine ⟨⟨by omega,by omega⟩,?_⟩
    conv=>whnf
    refine ⟨(Nat.le_trans (Nat.mul_le_mul_right _ hT) (show 64 * 48 <= 70368744177664 by omega)),?_⟩
    conv=>whnf
    have hi1:IntKind.i64.wrap ((i:Int) + 1) = ((i + 1:Nat):Int):=by rw [wrapE (by omega)]; omega
    refine branch_i (fun c2=>?_) (fun c2=>?_)<;>try rw [c2]<;>conv=>whnf
    . rw [if_neg (by simpa using c2)] at h
      rw [hx] at h;simp only at h;obtain ⟨m1,m2,m3,m4⟩:=may_bd (hm x (List.mem_of_getElem? hx));refine ⟨List.range 13,by kernel_rfl,by kernel_rfl,?_⟩
      conv=>whnf
      refine ⟨_,⟨by omega,tbs_get hx⟩,?_⟩
      conv=>whnf
      refine .pure (Rapp_spec (l:=x.c) (keys:=x.k) (k:=k) (c:=c) m4 m1 ⟨rfl,?_⟩);generalize applyS x.c x.k k c = r at *;obtain ⟨rc,rk,re⟩:=r;simp only at h
      repeat (conv=>whnf
              first | (refine ⟨rfl,?_⟩) | (refine ⟨⟨_,⟨by omega,tbs_get hx⟩,rfl⟩,?_⟩))
      conv=>whnf
      by_cases hr:re = 0
      rotate_left
      focus
       rw [if_pos hr] at h;rw [show decide (re = 0) = false from decide_eq_false hr]
       conv=>whnf
       exact ⟨[],rfl,.sub _ _ (err_fol re) (HSub.refl _) (.done [] rfl h)⟩
      rw [if_neg (by simpa using hr)] at h
      rw [show decide (re = 0) = true from decide_eq_true hr]
      conv=>whnf
      refine ⟨List.range 11,by kernel_rfl,by kernel_rfl,?_⟩
      conv=>whnf
      refine ⟨_,⟨by omega,tbs_get hx⟩,?_⟩
      conv=>whnf
      refine ⟨Nat.le_refl 1,?_⟩;refine app_gen rfl rfl rfl (Nat.le_trans (Nat.mul_le_mul_right _ (Nat.add_le_add hT (show 1 <= 1 by omega))) (show (64 + 1) * 48 <= 70368744177664 by omega)) ?_
      repeat (conv=>whnf
              first | (refine ⟨rfl,?_⟩) | (refine ⟨⟨_,⟨by omega,tbs_get hx⟩,rfl⟩,?_⟩))
      conv=>whnf
      rw [hi1];refine ⟨⟨by omega,by omega⟩,?_⟩
      conv=>whnf
      refine app_gen2 (by rw [laZ]) (Nat.le_trans (Nat.mul_le_mul_right _ (Nat.add_le_add (by rw [laZ]; exact Nat.add_le_add hT (show 1 <= 1 by omega)) hD)) (show (64 + 1 + 64) * 48 <= 70368744177664 by omega)) ?_
      conv=>whnf
      have hset:tbs (l.set i ⟨x.n,rc,rk⟩) = List.take i (tbs l) ++ [tbC ⟨x.n,rc,rk⟩] ++ List.drop (i + 1) (tbs l):=by
       rw [List.set_eq_take_append_cons_drop,if_pos hlt];simp [tbs,List.map_take,List.map_drop]
      have hlen:(List.take i (tbs l)).length + 1 + (List.drop (i + 1) (tbs l)).length = (l.set i ⟨x.n,rc,rk⟩).length:=by
       rw [<- tbs_len (l.set i _),hset]; simp only [laZ,List.length_cons,List.length_nil]
      exact fol_ret (L:=l.set i ⟨x.n,rc,rk⟩) (by rw [hset]; rfl) (by rw [laZ]; exact hlen) (Nat.le_refl _) h
    . rw [hi1];have c2' : k = 2:=by simpa using c2
      rw [if_pos c2'] at h;refine ⟨⟨by omega,by omega⟩,?_⟩
      conv=>whnf
      refine app_gen2 rfl (Nat.le_trans (Nat.mul_le_mul_right _ (Nat.add_le_add hT hD)) (show (64 + 64) * 48 <= 70368744177664 by omega)) ?_
      conv=>whnf
      have hset:tbs (l.eraseIdx i) = List.take i (tbs l) ++ List.drop (i + 1) (tbs l):=by
       rw [List.eraseIdx_eq_take_drop_succ];simp [tbs,List.map_take,List.map_drop]
      have hlen:(List.take i (tbs l)).length + (List.drop (i + 1) (tbs l)).length = (l.eraseIdx i).length:=by
       rw [<- tbs_len (l.eraseIdx i),hset,laZ]
      exact fol_ret (L:=l.eraseIdx i) (by rw [hset]; rfl) hlen (Nat.le_refl _) h
end
section
variable {Q:V -> List O -> Prop}
theorem qbE {b b' : Bool} {H:List O} (h:Q (.bool b) H) (e:b = b'):Q (.bool b') H:=e ▸ h
set_option maxHeartbeats 4000000 in
theorem EqV_spec {l l2:List Val} {f f2:Bool} (hl:l.length < 9223372036854775808) (h:Q (.bool (decide (l = l2))) []) :
 ACall Tryz.prog 139 0 [.sl 3 (vals l) f,.sl 3 (vals l2) f2] [] Q:=by
 refine by_body Tryz.func139 0 rfl (nbZ rfl) ?_
 conv=>whnf
 have h1:=vals_len l;have h2:=vals_len l2;refine branch_i (fun c=>?_) (fun c=>?_)<;>try rw [c]<;>conv=>whnf
 focus
  have hne:l ≠ l2:=fun e=>by subst e; simp at c
  rw [show decide (l = l2) = false by simp [hne]] at h
  exact ⟨[],rfl,h⟩
 have hlen:l.length = l2.length:=by simp at c; omega
 clear c;refine ⟨⟨[0,1,12,13],fun m vs H=>∃ i:Nat,vs = [.sl 3 (vals l) f,.sl 3 (vals l2) f2,fI (vals l).length,fI i] /\ H = [] /\ l.take i = l2.take i /\ i <= l.length /\ m = l.length - i,.at _ ⟨0,rfl,rfl,rfl,Nat.zero_le _,rfl⟩,?_⟩⟩
 rintro m vs H ⟨i,rfl,rfl,hn,hi,rfl⟩
 conv=>whnf
 refine branch_i (fun c=>?_) (fun c=>?_)<;>try rw [c]<;>conv=>whnf
 . have c' := dtZ c;have hlt:i < l.length:=by omega
   have g1:l[i]? = some l[i]:=lgZ hlt;have g2:l2[i]? = some l2[i]:=lgZ (by omega)
   generalize l[i] = d at *;generalize l2[i] = d2 at *;refine ⟨List.range 9,by kernel_rfl,by kernel_rfl,?_⟩
   conv=>whnf
   refine ⟨_,⟨by omega,vals_get g1⟩,?_⟩
   conv=>whnf
   refine ⟨_,⟨by omega,vals_get g2⟩,?_⟩
   conv=>whnf
   rw [val_eq];by_cases e:d = d2
   . rw [show decide (d = d2) = true by simp [e]]
     conv=>whnf
     refine .go [] rfl (l.length - (i + 1)) (by omega) ⟨i + 1,?_,rfl,?_,by omega,rfl⟩
     . show [V.sl 3 (vals l) f,V.sl 3 (vals l2) f2,fI (vals l).length,V.int .i64 (IntKind.i64.wrap ((i:Int) + 1))] = _
       rw [show IntKind.i64.wrap ((i:Int) + 1) = ((i + 1:Nat):Int) by rw [IntKind.wrap_i64]; omega]
     . rw [List.take_add_one,List.take_add_one,hn,g1,g2,e]
   . rw [show decide (d = d2) = false by simp [e]]
     conv=>whnf
     have hne:l ≠ l2:=fun e' => by subst e'; rw [g1] at g2; cases g2; exact e rfl
     rw [show decide (l = l2) = false by simp [hne]] at h
     exact ⟨[],rfl,h⟩
 . have c' := dfZ c;rw [List.take_of_length_le (by omega),List.take_of_length_le (by omega)] at hn
   rw [show decide (l = l2) = true by simp [hn]] at h
   exact ⟨[],rfl,h⟩
set_option maxHeartbeats 4000000 in
theorem evsame_spec {a b:Chg} (hl:a.c.length < 9223372036854775808) (h:Q (.bool (decide (a = b))) []):ACall Tryz.prog 137 0 [chA a,chA b] [] Q:=by
 refine by_body Tryz.func137 0 rfl (nbZ rfl) ?_
 conv=>whnf
 rw [<- chg_eq] at h;refine branch_i (fun c1=>?_) (fun c1=>?_)<;>rw [c1] at h<;>try rw [c1]<;>conv=>whnf
 rotate_left
 focus exact ⟨[],rfl,qbE h rfl⟩
 refine branch_i (fun c2=>?_) (fun c2=>?_)<;>rw [c2] at h<;>try rw [c2]<;>conv=>whnf
 rotate_left
 focus exact ⟨[],rfl,qbE h rfl⟩
 rw [col_eq];cases c3:decide (a.col = b.col)<;>rw [c3] at h<;>conv=>whnf
 focus exact ⟨[],rfl,qbE h rfl⟩
 refine .pure (Same_spec' (l:=a.c) (k:=a.ks) (l2:=b.c) (k2:=b.ks) hl ⟨rfl,?_⟩)
 conv=>whnf
 exact ⟨[],rfl,h⟩
set_option maxHeartbeats 4000000 in
theorem EvSame_spec {a b:Evt} (h1:a.b.length < 9223372036854775808) (h2:a.a.length < 9223372036854775808) (hl:a.ch.c.length < 9223372036854775808) (h:Q (.bool (decide (a = b))) []):ACall Tryz.prog 97 0 [evA a,evA b] [] Q:=by
 refine by_body Tryz.func97 0 rfl (nbZ rfl) ?_
 conv=>whnf
 rw [<- evt_eq] at h;refine branch_i (fun c1=>?_) (fun c1=>?_)<;>rw [c1] at h<;>try rw [c1]<;>conv=>whnf
 rotate_left
 focus exact ⟨[],rfl,qbE h rfl⟩
 refine branch_i (fun c2=>?_) (fun c2=>?_)<;>rw [c2] at h<;>try rw [c2]<;>conv=>whnf
 rotate_left
 focus exact ⟨[],rfl,qbE h rfl⟩
 refine branch_i (fun c3=>?_) (fun c3=>?_)<;>rw [c3] at h<;>try rw [c3]<;>conv=>whnf
 rotate_left
 focus exact ⟨[],rfl,qbE h rfl⟩
 refine .pure (EqV_spec h1 ⟨rfl,?_⟩)
 conv=>whnf
 cases c4:decide (a.b = b.b)<;>rw [c4] at h<;>conv=>whnf
 focus exact ⟨[],rfl,qbE h rfl⟩
 refine .pure (EqV_spec h2 ⟨rfl,?_⟩)
 conv=>whnf
 cases c5:decide (a.a = b.a)<;>rw [c5] at h<;>conv=>whnf
 focus exact ⟨[],rfl,qbE h rfl⟩
 refine .pure (evsame_spec (a:=a.ch) (b:=b.ch) hl ⟨rfl,?_⟩)
 conv=>whnf
 exact ⟨[],rfl,h⟩
set_option maxHeartbeats 4000000 in
theorem Rchange_spec {a b:Chg} (hl:a.c.length < 9223372036854775808) (h:Q (.bool (decide (a = b))) []):ACall Tryz.prog 89 0 [chA a,chA b] [] Q:=by
 refine by_body Tryz.func89 0 rfl (nbZ rfl) ?_
 conv=>whnf
 rw [<- chg_eq] at h;refine .pure (RSame_spec (l:=a.c) (k:=a.ks) (l2:=b.c) (k2:=b.ks) hl ⟨rfl,?_⟩)
 conv=>whnf
 have hs:sameS a.c a.ks b.c b.ks = (decide (a.ks = b.ks) && decide (a.c = b.c)):=rfl;cases c0:sameS a.c a.ks b.c b.ks<;>rw [c0] at hs<;>rw [<- hs] at h<;>conv=>whnf
 focus exact ⟨[],rfl,qbE h (by simp)⟩
 refine branch_i (fun c1=>?_) (fun c1=>?_)<;>rw [c1] at h<;>try rw [c1]<;>conv=>whnf
 rotate_left
 focus exact ⟨[],rfl,qbE h rfl⟩
 refine branch_i (fun c2=>?_) (fun c2=>?_)<;>rw [c2] at h<;>try rw [c2]<;>conv=>whnf
 rotate_left
 focus exact ⟨[],rfl,qbE h rfl⟩
 rw [col_eq];exact ⟨[],rfl,qbE h (by simp)⟩
end
section
variable {Q:V -> List O -> Prop}
def ints6:List Int:=[1,2,7,8,9,10]
def numK (k:Int):Bool:=decide (k = 1) || (decide (k = 2) || (decide (k = 7) || (decide (k = 8) || (decide (k = 9) || decide (k = 10)))))
set_option maxHeartbeats 8000000 in
theorem Index6_spec {k:Int} (h1:numK k = true -> ∀ i:Nat,Q (fI i) []) (h0:numK k = false -> Q (fI (-1)) []):ACall Tryz.prog 167 0 [.sl 1 (ints6.map fun n=>[fI n]) true,fI k] [] Q:=by
 refine by_body Tryz.func167 0 rfl (nbZ rfl) ?_
 conv=>whnf
 refine ⟨⟨[0,1,7,8],fun m ws H=>∃ i:Nat,ws = [.sl 1 (ints6.map fun n=>[fI n]) true,fI k,fI 6,fI i] /\ H = [] /\ i <= 6 /\ (∀ j n,j < i -> ints6[j]? = some n -> n ≠ k) /\ m = 6 - i,
  .at 6 ⟨0,rfl,rfl,by omega,fun j n hj=>by omega,rfl⟩,?_⟩⟩
 rintro m ws H ⟨i,rfl,rfl,hi,hn,rfl⟩;have hmem:∀ j n,ints6[j]? = some n -> n = k -> numK k = true:=fun j n hj e=>by
  subst e;have:n ∈ ints6:=List.mem_of_getElem? hj;simp only [ints6,List.mem_cons,List.not_mem_nil,or_false] at this;unfold numK;rcases this with h | h | h | h | h | h<;>subst h<;>decide
 conv=>whnf
 refine branch_i (fun c=>?_) (fun c=>?_)<;>try rw [c]<;>conv=>whnf
 . have c' := dtZ c;have hl6:ints6.length = 6:=rfl;have hg:ints6[i]? = some ints6[i]:=lgZ (by omega)
   generalize ints6[i] = n at *;refine ⟨[fI n],⟨by omega,(by
    show (ints6.map fun n=>[fI n])[i]? = _
    rw [List.getElem?_map,hg]; rfl)⟩,?_⟩
   conv=>whnf
   refine branch_i (fun c2=>?_) (fun c2=>?_)<;>try rw [c2]<;>conv=>whnf
   . exact ⟨[],rfl,h1 (hmem i n hg (dtZ c2).symm) i⟩
   . refine .go [] rfl (6 - (i + 1)) (by omega) ⟨i + 1,?_,rfl,by omega,fun j x hj hx=>?_,rfl⟩
     . show [V.sl 1 (ints6.map fun n=>[fI n]) true,fI k,fI 6,V.int .i64 (IntKind.i64.wrap ((i:Int) + 1))] = _
       rw [wrapE (by omega)]; rfl
     . rcases Nat.lt_or_ge j i with h2 | h2
       . exact hn j x h2 hx
       . have:j = i:=by omega
         subst this;rw [hg] at hx; cases hx;exact fun e=>dfZ c2 e.symm
 . have c' := dfZ c;have:i = 6:=by omega
   subst this;have hf:numK k = false:=by
    have g:∀ j n,j < 6 -> ints6[j]? = some n -> decide (k = n) = false:=fun j n hj hx=>decide_eq_false fun e=>hn j n hj hx e.symm
    unfold numK;rw [g 0 1 (by omega) rfl,g 1 2 (by omega) rfl,g 2 7 (by omega) rfl,g 3 8 (by omega) rfl,g 4 9 (by omega) rfl,g 5 10 (by omega) rfl]; rfl
   exact ⟨[],rfl,h0 hf⟩
theorem Contains6_spec {k:Int} (h:Q (.bool (numK k)) []):ACall Tryz.prog 138 0 [.sl 1 (ints6.map fun n=>[fI n]) true,fI k] [] Q:=by
 refine by_body Tryz.func138 0 rfl (nbZ rfl) ?_
 conv=>whnf
 refine .pure (Index6_spec (fun e i=>⟨rfl,?_⟩) (fun e=>⟨rfl,?_⟩))
 . conv=>whnf
   rw [e] at h;refine ⟨[],rfl,?_⟩;show Q (.bool (decide (0 <= (i:Int)))) []
   rw [decide_eq_true (by omega)]; exact h
 . conv=>whnf
   rw [e] at h;exact ⟨[],rfl,h⟩
theorem numbered_spec {k:Int} (h:Q (.bool (numK k)) []):ACall Tryz.prog 96 0 [fI k] [] Q:=by
 refine by_body Tryz.func96 0 rfl (nbZ rfl) ?_
 conv=>whnf
 refine .frz 0 rfl rfl (by repeat (first | exact trivial | refine And.intro (Nat.le_refl _) ?_)) (.pure (Contains6_spec ⟨rfl,?_⟩))
 conv=>whnf
 exact ⟨[],rfl,h⟩
def rowK (k:Int):Bool:=decide (k = 3) || (decide (k = 4) || decide (k = 5))
theorem rowed_spec {k:Int} (h:Q (.bool (rowK k)) []):ACall Tryz.prog 80 0 [fI k] [] Q:=by
 refine by_body Tryz.func80 0 rfl (nbZ rfl) ?_
 conv=>whnf
 unfold rowK at h;refine branch_i (fun c1=>?_) (fun c1=>?_)<;>rw [c1] at h<;>try rw [c1]<;>conv=>whnf
 focus exact ⟨[],rfl,h⟩
 refine branch_i (fun c2=>?_) (fun c2=>?_)<;>rw [c2] at h<;>try rw [c2]<;>conv=>whnf
 focus exact ⟨[],rfl,h⟩
 exact ⟨[],rfl,h⟩
end
section
variable {Q:V -> List O -> Prop}
end
section
structure ValIn (v:Val):Prop where
 k:I64 v.k
 n:I64 v.n
 t:v.t.length <= Globs.txt
theorem evals_of:∀ {es:List (List V)},(∀ x ∈ es,∃ (k n:Int) (s:List UInt8),x = [.int .i64 k,.int .i64 n,.str s] /\ I64 k /\ I64 n /\ s.length <= Globs.txt) -> ∃ l:List Val,es = vals l /\ ∀ v ∈ l,ValIn v
 | [],_=>⟨[],rfl,by simp⟩
 | x :: es,h=>by
  obtain ⟨k,n,s,rfl,h1,h2,h3⟩:=h x (by simp)
  obtain ⟨l,rfl,hl⟩:=evals_of (es:=es) fun y hy=>h y (by simp [hy])
  refine ⟨⟨k,n,s⟩ :: l,rfl,fun v hv=>?_⟩
  rcases List.mem_cons.1 hv with rfl | hv
  . exact ⟨h1,h2,h3⟩
  . exact hl v hv
end
section
variable {Q:V -> List O -> Prop}
end
section
variable {Q:V -> List O -> Prop}
def kOk (k:Int):Bool:=decide (1 <= k) && decide (k <= 4)
def colE (c:Col):Bool:=nameOk c.n && kOk c.k
def nilS (c:Chg):Bool:=decide (c.ks = 0) && decide (c.c.length = 0)
def chgK (c:Chg):Bool :=
 if c.k = 1 then mayS c.c c.ks && decide (c.col = col0)
 else if c.k = 2 then nilS c && decide (c.col = col0)
 else if c.k = 3 \/ c.k = 5 then nilS c && colE c.col
 else nilS c && (nameOk c.col.n && (decide (c.col.k = 0) && !c.col.o))
def chgE (c:Chg):Int :=
 if c.k = 1 \/ c.k = 2 \/ c.k = 3 \/ c.k = 5 \/ c.k = 4 then (if nameOk c.t && chgK c then 0 else 1) else 5
theorem chgE_bad {c:Chg} (h:¬ (c.k = 1 \/ c.k = 2 \/ c.k = 3 \/ c.k = 5 \/ c.k = 4)):chgE c = 5:=by unfold chgE; rw [if_neg h]
theorem chgE_is {c:Chg} {b:Bool} (hk:c.k = 1 \/ c.k = 2 \/ c.k = 3 \/ c.k = 5 \/ c.k = 4) (h:(nameOk c.t && chgK c) = b):chgE c = if b then 0 else 1:=by
 unfold chgE; rw [if_pos hk,h]
theorem EvColumn_spec {c:Col} (h:Q (.bool (colE c)) []):ACall Tryz.prog 136 0 [.agg [.str c.n,.int .i64 c.k,.bool c.o]] [] Q:=by
 refine by_body Tryz.func136 0 rfl (nbZ rfl) ?_
 conv=>whnf
 refine .pure (Name_spec ⟨rfl,?_⟩)
 conv=>whnf
 unfold colE kOk at h;cases c1:nameOk c.n<;>rw [c1] at h<;>conv=>whnf
 . exact ⟨[],rfl,h⟩
 refine branch_i (fun c2=>?_) (fun c2=>?_)<;>rw [c2] at h<;>try rw [c2]<;>conv=>whnf
 . exact ⟨[],rfl,qbE h (by simp)⟩
 . exact ⟨[],rfl,qbE h (by simp)⟩
theorem Rzero_spec {c:Col} (h:Q (.bool (decide (c = col0))) []):ACall Tryz.prog 130 0 [.agg [.str c.n,.int .i64 c.k,.bool c.o]] [] Q:=by
 refine by_body Tryz.func130 0 rfl (nbZ rfl) ?_
 conv=>whnf
 exact ⟨[],rfl,qbE h (col_eq c col0).symm⟩
theorem chg_sub (k:Int) (t n:List UInt8) (kk:Int) (o:Bool):VSub (.agg [.int .i64 k,.str t,.nils,.int .i64 0,.str n,.int .i64 kk,.bool o]) (chA ⟨k,t,[],0,⟨n,kk,o⟩⟩) :=
 .agg (.cons (.refl _) (.cons (.refl _) (.cons (nils_sl3 false) (VSubs.refl _))))
theorem sm1 (c:Chg):decide (c = ⟨c.k,c.t,c.c,c.ks,col0⟩) = decide (c.col = col0):=by cases c; simp
theorem sm2 (c:Chg):decide (c = ⟨c.k,c.t,[],0,col0⟩) = (nilS c && decide (c.col = col0)):=by
 cases c; simp [nilS,Bool.and_comm,Bool.and_assoc,Bool.and_left_comm]
theorem sm3 (c:Chg):decide (c = ⟨c.k,c.t,[],0,c.col⟩) = nilS c:=by
 cases c; simp [nilS,Bool.and_comm]
theorem sm4 (c:Chg):decide (c = ⟨c.k,c.t,[],0,⟨c.col.n,0,false⟩⟩) = (nilS c && (decide (c.col.k = 0) && !c.col.o)):=by
 obtain ⟨k,t,l,ks,⟨n,kk,o⟩⟩:=c;cases o<;>simp [nilS,Bool.and_comm,Bool.and_assoc,Bool.and_left_comm]
theorem qiE {n m:Int} {H:List O} (h:Q (fI n) H) (e:n = m):Q (fI m) H:=e ▸ h
set_option maxHeartbeats 16000000 in
theorem EvChange_spec {c:Chg} (hl:c.c.length < 9223372036854775808) (h:Q (fI (chgE c)) []):ACall Tryz.prog 95 0 [chA c] [] Q:=by
 refine by_body Tryz.func95 0 rfl (nbZ rfl) ?_
 conv=>whnf
 refine .pure (Name_spec ⟨rfl,?_⟩)
 conv=>whnf
 refine branch_i (fun k1=>?_) (fun k1=>?_)<;>try rw [k1]<;>conv=>whnf
 . have k1' : c.k = 1:=dtZ k1;have hK:chgK c = (mayS c.c c.ks && decide (c.col = col0)):=by unfold chgK; rw [if_pos k1']
   cases hn:nameOk c.t<;>conv=>whnf
   . exact ⟨[],rfl,qiE h (chgE_is (b:=false) (.inl k1') (by rw [hn]; rfl))⟩
   refine .pure (May_any (l:=c.c) (keys:=c.ks) ⟨rfl,?_⟩)
   conv=>whnf
   cases hm:mayS c.c c.ks<;>conv=>whnf
   . exact ⟨[],rfl,qiE h (chgE_is (b:=false) (.inl k1') (by rw [hK,hm]; simp))⟩
   refine .pure (evsame_spec (a:=c) (b:=⟨c.k,c.t,c.c,c.ks,col0⟩) hl ⟨rfl,?_⟩);rw [sm1]
   conv=>whnf
   cases hc:decide (c.col = col0)<;>conv=>whnf
   . exact ⟨[],rfl,qiE h (chgE_is (b:=false) (.inl k1') (by rw [hK,hc]; simp))⟩
   . exact ⟨[],rfl,qiE h (chgE_is (b:=true) (.inl k1') (by rw [hK,hc,hn,hm]; rfl))⟩
 have k1' : ¬ c.k = 1:=dfZ k1;refine branch_i (fun k2=>?_) (fun k2=>?_)<;>try rw [k2]<;>conv=>whnf
 . have k2' : c.k = 2:=dtZ k2;have hK:chgK c = (nilS c && decide (c.col = col0)):=by unfold chgK; rw [if_neg k1', if_pos k2']
   cases hn:nameOk c.t<;>conv=>whnf
   . exact ⟨[],rfl,qiE h (chgE_is (b:=false) (.inr (.inl k2')) (by rw [hn]; rfl))⟩
   refine .pure (ACall.args (.cons (.refl _) (.cons (chg_sub _ _ _ _ _) (VSubs.refl _))) (evsame_spec (a:=c) (b:=⟨c.k,c.t,[],0,col0⟩) hl ⟨rfl,?_⟩));rw [sm2]
   conv=>whnf
   cases hc:(nilS c && decide (c.col = col0))<;>conv=>whnf
   . exact ⟨[],rfl,qiE h (chgE_is (b:=false) (.inr (.inl k2')) (by rw [hK,hc]; simp))⟩
   . exact ⟨[],rfl,qiE h (chgE_is (b:=true) (.inr (.inl k2')) (by rw [hK,hc,hn]; rfl))⟩
 have k2' : ¬ c.k = 2:=dfZ k2;refine branch_i (fun k3=>?_) (fun k3=>?_)<;>try rw [k3]<;>conv=>whnf
 focus
  have k35:c.k = 3 \/ c.k = 5:=.inl (dtZ k3)
 rotate_left
 focus
  have k3' : ¬ c.k = 3:=dfZ k3;refine branch_i (fun k5=>?_) (fun k5=>?_)<;>try rw [k5]<;>conv=>whnf
 focus
  have k35:c.k = 3 \/ c.k = 5:=.inr (dtZ k5)
 rotate_left
 focus
  have k5' : ¬ c.k = 5:=dfZ k5;refine branch_i (fun k4=>?_) (fun k4=>?_)<;>try rw [k4]<;>conv=>whnf
  . have k4' : c.k = 4:=dtZ k4;have hk:c.k = 1 \/ c.k = 2 \/ c.k = 3 \/ c.k = 5 \/ c.k = 4:=.inr (.inr (.inr (.inr k4')));have hK:chgK c = (nilS c && (nameOk c.col.n && (decide (c.col.k = 0) && !c.col.o))):=by
     unfold chgK; rw [if_neg k1', if_neg k2', if_neg (by omega)]
    cases hn:nameOk c.t<;>conv=>whnf
    . exact ⟨[],rfl,qiE h (chgE_is (b:=false) hk (by rw [hn]; rfl))⟩
    refine .pure (Name_spec ⟨rfl,?_⟩)
    conv=>whnf
    cases hm:nameOk c.col.n<;>conv=>whnf
    . exact ⟨[],rfl,qiE h (chgE_is (b:=false) hk (by rw [hK,hm]; simp))⟩
    refine .pure (ACall.args (.cons (.refl _) (.cons (chg_sub _ _ _ _ _) (VSubs.refl _))) (evsame_spec (a:=c) (b:=⟨c.k,c.t,[],0,⟨c.col.n,0,false⟩⟩) hl ⟨rfl,?_⟩));rw [sm4]
    conv=>whnf
    cases hc:(nilS c && (decide (c.col.k = 0) && !c.col.o))<;>conv=>whnf
    . exact ⟨[],rfl,qiE h (chgE_is (b:=false) hk (by rw [hK,hm,Bool.true_and,hc]; simp))⟩
    . exact ⟨[],rfl,qiE h (chgE_is (b:=true) hk (by rw [hK,hm,Bool.true_and,hc,hn]; rfl))⟩
  . have k4' : ¬ c.k = 4:=dfZ k4;have k3'' : ¬ c.k = 3:=k3';exact ⟨[],rfl,qiE h (chgE_bad (by omega))⟩
 all_goals
  have hk:c.k = 1 \/ c.k = 2 \/ c.k = 3 \/ c.k = 5 \/ c.k = 4:=by omega
  have hK:chgK c = (nilS c && colE c.col):=by
   unfold chgK; rw [if_neg k1', if_neg k2', if_pos k35]
  cases hn:nameOk c.t<;>conv=>whnf
  . exact ⟨[],rfl,qiE h (chgE_is (b:=false) hk (by rw [hn]; rfl))⟩
  refine .pure (EvColumn_spec (c:=c.col) ⟨rfl,?_⟩)
  conv=>whnf
  cases hm:colE c.col<;>conv=>whnf
  . exact ⟨[],rfl,qiE h (chgE_is (b:=false) hk (by rw [hK,hm]; simp))⟩
  refine .pure (ACall.args (.cons (.refl _) (.cons (chg_sub _ _ _ _ _) (VSubs.refl _))) (evsame_spec (a:=c) (b:=⟨c.k,c.t,[],0,c.col⟩) hl ⟨rfl,?_⟩));rw [sm3]
  conv=>whnf
  cases hc:nilS c<;>conv=>whnf
  . exact ⟨[],rfl,qiE h (chgE_is (b:=false) hk (by rw [hK,hc]; simp))⟩
  . exact ⟨[],rfl,qiE h (chgE_is (b:=true) hk (by rw [hK,hc,hn,hm]; rfl))⟩
set_option maxHeartbeats 16000000 in
theorem Raltered_spec {c:Chg} (h:Q (fI (chgE c)) []):ACall Tryz.prog 91 0 [chA c] [] Q:=by
 refine by_body Tryz.func91 0 rfl (nbZ rfl) ?_
 conv=>whnf
 refine .pure (RName_spec ⟨rfl,?_⟩)
 conv=>whnf
 refine .pure (RName_spec ⟨rfl,?_⟩)
 conv=>whnf
 have hlk:=cols_len c.c;refine branch_i (fun e1=>?_) (fun e1=>?_)<;>try rw [e1]<;>conv=>whnf
 all_goals
  refine branch_i (fun e2=>?_) (fun e2=>?_)<;>try rw [e2]<;>conv=>whnf
 all_goals
  refine .pure (Rzero_spec (c:=c.col) ⟨rfl,?_⟩)
  conv=>whnf
  refine .pure (RMay_any (l:=c.c) (keys:=c.ks) ⟨rfl,?_⟩)
  conv=>whnf
  repeat' (refine branch_i (fun e=>?_) (fun e=>?_)<;>try rw [e]<;>conv=>whnf)
 all_goals
  refine ⟨[],rfl,qiE h ?_⟩;unfold chgE chgK nilS colE kOk
  simp_all
  try omega
end
section
variable {Q:V -> List O -> Prop}
theorem VClone_spec {l:List Val} (hl:l.length < 1000000) (h:Q (.ms 3 0 0 l.length false) [.buf (vals l)]) :
 ACall Tryz.prog 63 0 [.sl 3 (vals l) false] [] Q:=by
 have hlk:=vals_len l;cases l with
 | nil =>
  refine ACall.sub (ACall.sel (ACall.adopt (by_body Tryz.func63 0 rfl (nbZ rfl) ?_)))
  conv=>whnf
  refine ⟨?_,?_⟩
  . conv=>whnf
    exact ⟨[],rfl,[0],rfl,_,_,VSub.ms0 3 0 0 false,HSub.refl _,h⟩
  . conv=>whnf
    refine ⟨by decide,fun _=>?_,fun e=>absurd rfl e⟩
    conv=>whnf
    exact ⟨[0],rfl,[0],rfl,_,_,VSub.msRoom 3 0 0,HSub.refl _,h⟩
 | cons c r =>
  refine by_body Tryz.func63 0 rfl (nbZ rfl) ?_
  conv=>whnf
  refine ⟨by decide,fun e=>by simp [vals] at e,fun _=>?_⟩
  conv=>whnf
  refine ⟨(show (vals (c :: r)).length * 32 <= 70368744177664 by rw [hlk]; omega),?_⟩
  conv=>whnf
  exact ⟨[1],rfl,by rw [<- hlk] at h; exact h⟩
theorem vals_erase (l:List Val) (i:Nat):vals (l.eraseIdx i) = (vals l).take i ++ (vals l).drop (i + 1):=by
 rw [List.eraseIdx_eq_take_drop_succ]; simp [vals]
theorem VDelete_spec {l:List Val} {i:Nat} (hl:l.length < 1000000) (h0:0 < i) (hi:i < l.length) (h:Q (.ms 3 0 0 (l.length - 1) false) [.buf (vals (l.eraseIdx i) ++ [[fI 0,fI 0,.str []]])]) :
 ACall Tryz.prog 145 1 [.ms 3 0 0 l.length false,fI i,fI ((i + 1:Nat):Int)] [.buf (vals l)] Q:=by
 have hlk:=vals_len l;refine by_body Tryz.func145 1 rfl (nbZ rfl) ?_
 conv=>whnf
 by_cases c:i + 1 = l.length
 all_goals
  first
   | rw [show decide (((i + 1:Nat):Int) = (l.length:Int)) = true by simp; omega]
   | rw [show decide (((i + 1:Nat):Int) = (l.length:Int)) = false by simp; omega]
  conv=>whnf
  refine ⟨by omega,?_⟩
  conv=>whnf
  rw [show decide ((i:Int) = ((i + 1:Nat):Int)) = false by simp; omega]
  conv=>whnf
  refine ⟨[0,1,2,3,4,5,6,7],by kernel_rfl,by kernel_rfl,?_⟩
  conv=>whnf
  refine ⟨by omega,?_⟩
  conv=>whnf
  refine ⟨by omega,?_⟩
  conv=>whnf
  refine ⟨by rw [hlk]; simp; omega,?_⟩
  conv=>whnf
  rw [show List.take (l.length - ((i + 1:Nat):Int).toNat) (List.drop (((i + 1:Nat):Int).toNat + 0) (vals l)) = (vals l).drop (i + 1) by
   rw [Int.toNat_natCast,Nat.add_zero,List.take_of_length_le (by simp [hlk])]]
  rw [show 0 + ((i:Nat):Int).toNat = i by omega]
  have e3:((vals l).drop (i + 1)).length = l.length - (i + 1):=by simp [hlk]
  refine ⟨⟨by omega,by rw [e3,hlk]; omega⟩,?_⟩
  rw [e3,Int.toNat_natCast,show i + (l.length - (i + 1)) = l.length - 1 by omega]
  have e4:((vals l).take i ++ (vals l).drop (i + 1) ++ (vals l).drop (l.length - 1)).length = l.length:=by simp [hlk]; omega
  have e5:(vals l).take i ++ (vals l).drop (i + 1) = vals (l.eraseIdx i):=(vals_erase l i).symm;rw [e5] at e4 ⊢;have e6:(vals (l.eraseIdx i)).length = l.length - 1:=by rw [vals_len,List.length_eraseIdx,if_pos hi]
  conv=>whnf
  refine ⟨⟨by omega,by omega,.inr ⟨by omega,(by omega:0 + ((l.length:Nat):Int).toNat <= (vals (l.eraseIdx i) ++ (vals l).drop (l.length - 1)).length)⟩⟩,?_⟩
  conv=>whnf
  rw [Int.toNat_natCast,Int.toNat_natCast];refine ⟨⟨by omega,by omega⟩,?_⟩
  conv=>whnf
  refine ⟨[0],rfl,?_⟩
  show Q (.ms 3 0 0 ((i:Int).toNat + (l.length - (i + 1))) false) [O.buf (List.take ((i:Int).toNat + (l.length - (i + 1)) + 0) (vals (l.eraseIdx i) ++ List.drop (l.length - 1) (vals l)) ++
   List.replicate (l.length - ((i:Int).toNat + (l.length - (i + 1)))) [fI 0,fI 0,.str []] ++
   List.drop ((i:Int).toNat + (l.length - (i + 1)) + 0 + (l.length - ((i:Int).toNat + (l.length - (i + 1))))) (vals (l.eraseIdx i) ++ List.drop (l.length - 1) (vals l)))]
  rw [Int.toNat_natCast,show i + (l.length - (i + 1)) = l.length - 1 by omega,Nat.add_zero,del_tail e6 e4 (by omega)]
  exact h
def turnS (l:List Col) (k:Int) (c:Col) (r:List Val):List Val :=
 if k = 3 then r ++ [val0] else if k = 4 then r.eraseIdx (fnd c.n l 0).toNat else if k = 5 then r.set (fnd c.n l 0).toNat val0 else r
theorem set_vals (l:List Val) (i:Nat) (v:Val):(vals l).set i (valC v) = vals (l.set i v):=by
 simp [vals,List.map_set]
def CanTurn (l:List Col) (k:Int) (c:Col) (n:Nat):Prop:=k = 3 \/ ((k = 4 \/ k = 5) /\ 0 < fnd c.n l 0 /\ fnd c.n l 0 < n)
theorem Turn_spec {l:List Col} {keys k:Int} {c:Col} {x1 x2 x3:V} {r:List Val} (hl:l.length < 1000000) (hr:r.length < 1000000) (hc:CanTurn l k c r.length) (h:Q (.sl 3 (vals (turnS l k c r)) false) []) :
 ACall Tryz.prog 104 0 [sch l keys,chg k x1 x2 x3 c,.sl 3 (vals r) false] [] Q:=by
 have hlr:=vals_len r;refine ACall.ret (by_body Tryz.func104 0 rfl (nbZ rfl) ?_)
 conv=>whnf
 refine .call [] 0 ⟨rfl,rfl,rfl⟩ (VClone_spec hr ?_)
 conv=>whnf
 refine .pure (Find_spec hl ⟨rfl,?_⟩)
 conv=>whnf
 unfold turnS at h;by_cases c1:k = 3
 focus
  rw [if_pos c1] at h;rw [show decide (k = 3) = true by simp [c1]]
  conv=>whnf
  refine ⟨Nat.le_refl _,?_⟩
  conv=>whnf
  refine ⟨(by omega:r.length + 0 = (vals r).length),?_⟩
  conv=>whnf
  refine ⟨Nat.le_trans (Nat.mul_le_mul_right _ (by rw [laZ,List.length_take,List.drop_zero,hlr]; exact Nat.add_le_add (Nat.le_refl _) (Nat.min_le_left _ _))) (show (r.length + 1) * 32 <= 70368744177664 by omega),?_⟩
  conv=>whnf
  refine ⟨[4],rfl,.frz 0 rfl (by repeat (first | exact trivial | refine And.intro (Nat.le_of_eq (Nat.zero_add _)) ?_)) (.done [] rfl ?_)⟩
  show Q (.sl 3 (List.take (vals r ++ [valC val0]).length (vals r ++ [valC val0])) false) []
  rw [List.take_length,show vals r ++ [valC val0] = vals (r ++ [val0]) by rw [vals_app]; rfl]
  exact h
 obtain ⟨i,hi⟩:∃ i:Nat,fnd c.n l 0 = i:=⟨(fnd c.n l 0).toNat,by rcases hc with h1 | ⟨_,h2,_⟩; exact absurd h1 c1; omega⟩
 have hi2:0 < i /\ i < r.length:=by rcases hc with h1 | ⟨_,h2,h3⟩; exact absurd h1 c1; omega
 rw [hi,Int.toNat_natCast] at h;simp only [hi];rw [if_neg c1] at h;rw [show decide (k = 3) = false by simp [c1]]
 conv=>whnf
 by_cases c2:k = 4
 focus
  rw [if_pos c2] at h;rw [show decide (k = 4) = true by simp [c2]]
  conv=>whnf
  rw [show IntKind.i64.wrap ((i:Int) + 1) = ((i + 1:Nat):Int) by rw [wrapI (by omega)]; rfl]
  refine .call [2] 1 ⟨rfl,rfl,rfl⟩ (VDelete_spec hr hi2.1 hi2.2 ?_)
  conv=>whnf
  have e6:(vals (r.eraseIdx i)).length = r.length - 1:=by rw [vals_len,List.length_eraseIdx,if_pos hi2.2]
  refine ⟨[2],rfl,.frz 0 rfl ⟨(by rw [laZ,e6]; simp:0 + (r.length - 1) <= (vals (r.eraseIdx i) ++ [[fI 0,fI 0,.str []]]).length),trivial⟩ (.done [] rfl ?_)⟩
  show Q (.sl 3 (List.take (r.length - 1) (vals (r.eraseIdx i) ++ [[fI 0,fI 0,.str []]])) false) []
  rw [<- e6,List.take_left];exact h
 rw [if_neg c2] at h;rw [show decide (k = 4) = false by simp [c2]]
 conv=>whnf
 have c3:k = 5:=by rcases hc with h1 | ⟨h1,_⟩; exact absurd h1 c1; rcases h1 with h1 | h1; exact absurd h1 c2; exact h1
 rw [if_pos c3] at h;rw [show decide (k = 5) = true by simp [c3]]
 conv=>whnf
 have hget:r[i]? = some r[i]:=lgZ hi2.2;refine ⟨⟨by omega,by omega⟩,?_⟩
 conv=>whnf
 refine ⟨_,vals_get hget,?_⟩
 conv=>whnf
 refine ⟨[2],rfl,.frz 0 rfl ⟨(by rw [List.length_set]; omega:0 + r.length <= ((vals r).set i (valC val0)).length),trivial⟩ (.done [] rfl ?_)⟩
 show Q (.sl 3 (List.take r.length ((vals r).set i (valC val0))) false) []
 rw [List.take_of_length_le (by rw [List.length_set]; omega),set_vals]
 exact h
def rtN (i:Int) (k:Int) (r:List Val):Nat -> List Val
 | 0=>[]
 | j + 1=>if (j:Int) = i /\ k = 5 then rtN i k r j ++ [val0] else if (j:Int) = i /\ k = 4 then rtN i k r j else rtN i k r j ++ [r.getD j val0]
theorem take_snoc' {r:List Val} {j:Nat} (h:j < r.length):r.take (j + 1) = r.take j ++ [r.getD j val0]:=by
 rw [List.take_add_one,lgZ h];simp [List.getD,lgZ h]
theorem rtN_len (i k:Int) (r:List Val):∀ j,(rtN i k r j).length <= j
 | 0=>by simp [rtN]
 | j + 1=>by
  have:=rtN_len i k r j;unfold rtN
  repeat' split
  all_goals first | (rw [laZ,List.length_singleton]; omega) | omega
theorem rtN_3 (i:Int) (r:List Val):∀ j,j <= r.length -> rtN i 3 r j = r.take j
 | 0,_=>by simp [rtN]
 | j + 1,h=>by
  rw [rtN,if_neg (by omega),if_neg (by omega),rtN_3 i r j (by omega),take_snoc' (by omega)]
theorem rtN_4 (i:Nat) (r:List Val):∀ j,j <= r.length -> rtN i 4 r j = (r.take j).eraseIdx i
 | 0,_=>by simp [rtN]
 | j + 1,h=>by
  have hl:(r.take j).length = j:=by rw [List.length_take]; omega
  rw [rtN,if_neg (by omega),rtN_4 i r j (by omega),take_snoc' (by omega)]
  by_cases e:j = i
  . subst e;rw [if_pos ⟨rfl,rfl⟩,List.eraseIdx_append_of_length_le (by omega),hl]
    simp [List.eraseIdx_of_length_le (show (r.take j).length <= j by omega)]
  . rw [if_neg (by omega)]
    rcases Nat.lt_or_ge i j with h1 | h1
    . rw [List.eraseIdx_append_of_lt_length (by omega)]
    . rw [List.eraseIdx_of_length_le (by omega),List.eraseIdx_of_length_le (by rw [laZ,List.length_singleton]; omega)]
theorem rtN_5 (i:Nat) (r:List Val):∀ j,j <= r.length -> rtN i 5 r j = (r.take j).set i val0
 | 0,_=>by simp [rtN]
 | j + 1,h=>by
  have hl:(r.take j).length = j:=by rw [List.length_take]; omega
  rw [rtN,rtN_5 i r j (by omega),take_snoc' (by omega)]
  by_cases e:j = i
  . subst e;rw [if_pos ⟨rfl,rfl⟩,List.set_append_right _ _ (by omega),hl,List.set_eq_of_length_le (show (r.take j).length <= j by omega)]
    simp
  . rw [if_neg (by omega),if_neg (by omega)]
    rcases Nat.lt_or_ge i j with h1 | h1
    . rw [List.set_append_left _ _ (by omega)]
    . rw [List.set_eq_of_length_le (by omega),List.set_eq_of_length_le (by rw [laZ,List.length_singleton]; omega)]
theorem turn_eq {l:List Col} {k:Int} {c:Col} {r:List Val} (hc:CanTurn l k c r.length) :
 (if k = 3 then rtN (fnd c.n l 0) k r r.length ++ [val0] else rtN (fnd c.n l 0) k r r.length) = turnS l k c r:=by
 unfold turnS;by_cases c1:k = 3
 . subst c1; rw [if_pos rfl,if_pos rfl,rtN_3 _ _ _ (Nat.le_refl _),List.take_length]
 obtain ⟨i,hi⟩:∃ i:Nat,fnd c.n l 0 = i:=⟨(fnd c.n l 0).toNat,by rcases hc with h1 | ⟨_,h2,_⟩; exact absurd h1 c1; omega⟩
 rw [if_neg c1,if_neg c1,hi,Int.toNat_natCast];by_cases c2:k = 4
 . subst c2; rw [if_pos rfl,rtN_4 _ _ _ (Nat.le_refl _),List.take_length]
 have c3:k = 5:=by rcases hc with h1 | ⟨h1,_⟩; exact absurd h1 c1; rcases h1 with h1 | h1; exact absurd h1 c2; exact h1
 subst c3;rw [if_neg (by omega),if_pos rfl,rtN_5 _ _ _ (Nat.le_refl _),List.take_length]
set_option maxHeartbeats 4000000 in
theorem RTurn_spec {l:List Col} {keys k:Int} {c:Col} {x1 x2 x3:V} {r:List Val} (hl:l.length < 1000000) (hr:r.length < 1000000) (hc:CanTurn l k c r.length) (h:Q (.sl 3 (vals (turnS l k c r)) false) []) :
 ACall Tryz.prog 56 0 [sch l keys,chg k x1 x2 x3 c,.sl 3 (vals r) false] [] Q:=by
 have hlr:=vals_len r;refine ACall.ret (by_body Tryz.func56 0 rfl (nbZ rfl) ?_)
 conv=>whnf
 refine .pure (RFind_spec hl ⟨rfl,?_⟩)
 conv=>whnf
 rw [<- turn_eq hc] at h;generalize fnd c.n l 0 = i0 at *
 refine ⟨⟨[2,3,4,7,8,9],fun m ws H=>∃ (j:Nat) (y1 y2 y3:V),ws = [.sl 3 (vals r) false,.ptr 0 0,.ptr 1 0,.ms 3 2 0 (vals (rtN i0 k r j)).length false,fI i0,fI j] /\
  H = [.cells [.sl 3 (cols l) false,fI keys],.cells [fI k,y1,y2,y3,.str c.n,fI c.k,.bool c.o],.buf (vals (rtN i0 k r j))] /\ j <= r.length /\ m = r.length - j,
  .frz (r.length + 1) (.adopt (.sub _ _ (.cons (VSub.refl _) (.cons (VSub.refl _) (.cons (VSub.refl _) (.cons (ms0_row 3 2) (VSubs.refl _))))) (HSub.refl _) (.go [0,1,2] rfl r.length (by omega) ⟨0,_,_,_,rfl,rfl,by omega,rfl⟩))),?_⟩⟩
 rintro m ws H ⟨j,y1,y2,y3,rfl,rfl,hj,rfl⟩
 conv=>whnf
 refine branch_i (fun d1=>?_) (fun d1=>?_)<;>try rw [d1]<;>conv=>whnf
 rotate_left
 focus
  have d1' := dfZ d1;have hj' : j = r.length:=by omega
  subst hj';by_cases c1:k = 3
  . rw [if_pos c1] at h;rw [show decide (k = 3) = true by simp [c1]]
    conv=>whnf
    refine ⟨Nat.le_refl _,?_⟩
    conv=>whnf
    refine ⟨rfl,?_⟩
    conv=>whnf
    refine ⟨Nat.le_trans (Nat.mul_le_mul_right _ (by rw [laZ,List.length_take,List.drop_zero,vals_len]; exact Nat.add_le_add (rtN_len _ _ _ _) (Nat.min_le_left _ _))) (show (r.length + 1) * 32 <= 70368744177664 by omega),?_⟩
    conv=>whnf
    refine ⟨[4],rfl,.frz 0 rfl (by repeat (first | exact trivial | refine And.intro (Nat.le_of_eq (Nat.zero_add _)) ?_)) (.done [] rfl ?_)⟩
    show Q (.sl 3 (List.take (vals (rtN i0 k r r.length) ++ [valC val0]).length (vals (rtN i0 k r r.length) ++ [valC val0])) false) []
    rw [List.take_length,show ∀ x:List Val,vals x ++ [valC val0] = vals (x ++ [val0]) from fun x=>by rw [vals_app]; rfl]
    exact h
  . rw [if_neg c1] at h;rw [show decide (k = 3) = false by simp [c1]]
    conv=>whnf
    refine ⟨[2],rfl,.frz 0 rfl (by repeat (first | exact trivial | refine And.intro (Nat.le_of_eq (Nat.zero_add _)) ?_)) (.done [] rfl ?_)⟩
    show Q (.sl 3 (List.take (vals (rtN i0 k r r.length)).length (vals (rtN i0 k r r.length))) false) []
    rw [List.take_length];exact h
 have d1' := dtZ d1;have hlt:j < r.length:=by omega
 have hlen:=rtN_len i0 k r j;have hv:r[j]? = some (r.getD j val0):=by simp [List.getD,lgZ hlt]
 by_cases e1:(j:Int) = i0
 rotate_left
 focus
  rw [show decide ((j:Int) = i0) = false by simp [e1]]
  conv=>whnf
  rw [show decide ((j:Int) = i0) = false by simp [e1]]
  conv=>whnf
  have hsnoc:vals (rtN i0 k r (j + 1)) = vals (rtN i0 k r j) ++ [valC (r.getD j val0)]:=by
   rw [rtN,if_neg (by simp [e1]),if_neg (by simp [e1]),vals_app]; rfl
  refine ⟨_,⟨by omega,vals_get hv⟩,?_⟩
  conv=>whnf
  refine ⟨Nat.le_refl _,?_⟩
  conv=>whnf
  refine ⟨rfl,?_⟩
  conv=>whnf
  refine ⟨Nat.le_trans (Nat.mul_le_mul_right _ (by rw [laZ,List.length_take,List.drop_zero,vals_len]; exact Nat.add_le_add hlen (Nat.min_le_left _ _))) (show (j + 1) * 32 <= 70368744177664 by omega),?_⟩
  conv=>whnf
  refine .go [0,1,4] rfl (r.length - (j + 1)) (by omega) ⟨j + 1,renV (idx [0,1,4]) y1,renV (idx [0,1,4]) y2,renV (idx [0,1,4]) y3,?_,?_,by omega,rfl⟩
  rotate_left
  focus
   show [O.cells [.sl 3 (cols l) false,fI keys],O.cells [fI k,renV (idx [0,1,4]) y1,renV (idx [0,1,4]) y2,renV (idx [0,1,4]) y3,.str c.n,fI c.k,.bool c.o],O.buf (vals (rtN i0 k r j) ++ [valC (r.getD j val0)])] = _
   rw [hsnoc]<;>rfl
  show [V.sl 3 (vals r) false,V.ptr 0 0,V.ptr 1 0,V.ms 3 2 0 (vals (rtN i0 k r j) ++ [valC (r.getD j val0)]).length false,fI i0,V.int .i64 (IntKind.i64.wrap ((j:Int) + 1))] = _
  rw [hsnoc,wrapI (by omega)]<;>rfl
 rw [show decide ((j:Int) = i0) = true by simp [e1]]
 conv=>whnf
 by_cases e2:k = 5
 focus
  rw [show decide (k = 5) = true by simp [e2]]
  conv=>whnf
  have hsnoc:vals (rtN i0 k r (j + 1)) = vals (rtN i0 k r j) ++ [valC val0]:=by
   rw [rtN,if_pos ⟨e1,e2⟩,vals_app]; rfl
  refine ⟨Nat.le_refl _,?_⟩
  conv=>whnf
  refine ⟨rfl,?_⟩
  conv=>whnf
  refine ⟨Nat.le_trans (Nat.mul_le_mul_right _ (by rw [laZ,List.length_take,List.drop_zero,vals_len]; exact Nat.add_le_add hlen (Nat.min_le_left _ _))) (show (j + 1) * 32 <= 70368744177664 by omega),?_⟩
  conv=>whnf
  refine .go [0,1,4] rfl (r.length - (j + 1)) (by omega) ⟨j + 1,renV (idx [0,1,4]) y1,renV (idx [0,1,4]) y2,renV (idx [0,1,4]) y3,?_,?_,by omega,rfl⟩
  rotate_left
  focus
   show [O.cells [.sl 3 (cols l) false,fI keys],O.cells [fI k,renV (idx [0,1,4]) y1,renV (idx [0,1,4]) y2,renV (idx [0,1,4]) y3,.str c.n,fI c.k,.bool c.o],O.buf (vals (rtN i0 k r j) ++ [valC val0])] = _
   rw [hsnoc]<;>rfl
  show [V.sl 3 (vals r) false,V.ptr 0 0,V.ptr 1 0,V.ms 3 2 0 (vals (rtN i0 k r j) ++ [valC val0]).length false,fI i0,V.int .i64 (IntKind.i64.wrap ((j:Int) + 1))] = _
  rw [hsnoc,wrapI (by omega)]<;>rfl
 rw [show decide (k = 5) = false by simp [e2]]
 conv=>whnf
 rw [show decide ((j:Int) = i0) = true by simp [e1]]
 conv=>whnf
 by_cases e3:k = 4
 focus
  rw [show decide (k = 4) = true by simp [e3]]
  conv=>whnf
  refine .go [0,1,2] rfl (r.length - (j + 1)) (by omega) ⟨j + 1,renV (idx [0,1,2]) y1,renV (idx [0,1,2]) y2,renV (idx [0,1,2]) y3,?_,?_,by omega,rfl⟩
  rotate_left
  focus
   have e:rtN i0 k r (j + 1) = rtN i0 k r j:=by rw [rtN,if_neg (by simp [e2]),if_pos ⟨e1,e3⟩]
   rw [e]<;>rfl
  have e:rtN i0 k r (j + 1) = rtN i0 k r j:=by rw [rtN,if_neg (by simp [e2]),if_pos ⟨e1,e3⟩]
  show [V.sl 3 (vals r) false,V.ptr 0 0,V.ptr 1 0,V.ms 3 2 0 (vals (rtN i0 k r j)).length false,fI i0,V.int .i64 (IntKind.i64.wrap ((j:Int) + 1))] = _
  rw [e,wrapI (by omega)]<;>rfl
 rw [show decide (k = 4) = false by simp [e3]]
 conv=>whnf
 have hsnoc:vals (rtN i0 k r (j + 1)) = vals (rtN i0 k r j) ++ [valC (r.getD j val0)]:=by
  rw [rtN,if_neg (by simp [e2]),if_neg (by simp [e3]),vals_app]; rfl
 refine ⟨_,⟨by omega,vals_get hv⟩,?_⟩
 conv=>whnf
 refine ⟨Nat.le_refl _,?_⟩
 conv=>whnf
 refine ⟨rfl,?_⟩
 conv=>whnf
 refine ⟨Nat.le_trans (Nat.mul_le_mul_right _ (by rw [laZ,List.length_take,List.drop_zero,vals_len]; exact Nat.add_le_add hlen (Nat.min_le_left _ _))) (show (j + 1) * 32 <= 70368744177664 by omega),?_⟩
 conv=>whnf
 refine .go [0,1,4] rfl (r.length - (j + 1)) (by omega) ⟨j + 1,renV (idx [0,1,4]) y1,renV (idx [0,1,4]) y2,renV (idx [0,1,4]) y3,?_,?_,by omega,rfl⟩
 rotate_left
 focus
  show [O.cells [.sl 3 (cols l) false,fI keys],O.cells [fI k,renV (idx [0,1,4]) y1,renV (idx [0,1,4]) y2,renV (idx [0,1,4]) y3,.str c.n,fI c.k,.bool c.o],O.buf (vals (rtN i0 k r j) ++ [valC (r.getD j val0)])] = _
  rw [hsnoc]<;>rfl
 show [V.sl 3 (vals r) false,V.ptr 0 0,V.ptr 1 0,V.ms 3 2 0 (vals (rtN i0 k r j) ++ [valC (r.getD j val0)]).length false,fI i0,V.int .i64 (IntKind.i64.wrap ((j:Int) + 1))] = _
 rw [hsnoc,wrapI (by omega)]<;>rfl
end
section
variable {Q:V -> List O -> Prop}
set_option maxHeartbeats 8000000 in
set_option maxRecDepth 10000 in
theorem VKey_spec {l:List Val} {f:Bool} (hl:l.length <= 1000) (hv:∀ v ∈ l,v.t.length <= 4096) (h:Q (.str (keyS l)) []):ACall Tryz.prog 65 0 [.sl 3 (vals l) f] [] Q:=by
 have hlv:=vals_len l;refine by_body Tryz.func65 0 rfl (nbZ rfl) ?_
 conv=>whnf
 refine ⟨⟨[0,3,4],fun m ws H=>∃ i:Nat,ws = [.sl 3 (vals l) f,.ms 1 0 0 (bs (keyS (l.take i))).length false,fI i] /\ H = [.buf (bs (keyS (l.take i)))] /\ i <= l.length /\ m = l.length - i,
  .frz (l.length + 1) (.adopt (.sub _ _ (.cons (VSub.refl _) (.cons (ms0_row 1 0) (VSubs.refl _))) (HSub.refl _) (.go [0] rfl l.length (by omega) ⟨0,rfl,rfl,by omega,rfl⟩))),?_⟩⟩
 rintro m ws H ⟨i,rfl,rfl,hi,rfl⟩
 conv=>whnf
 refine branch_i (fun c1=>?_) (fun c1=>?_)<;>try rw [c1]<;>conv=>whnf
 rotate_left
 focus
  have c1' := dfZ c1;rw [List.take_of_length_le (by omega)]
  refine ⟨(by omega:0 + (bs (keyS l)).length <= (bs (keyS l)).length),keyS l,?_,?_⟩
  . show bytesOfEs (List.take (bs (keyS l)).length (List.drop 0 (bs (keyS l)))) = _
    rw [List.drop_zero,List.take_length]; exact bytesOfEs_bs _
  conv=>whnf
  exact ⟨[],rfl,h⟩
 have c1' := dtZ c1;have hlt:i < l.length:=by omega
 have hg:l[i]? = some l[i]:=lgZ hlt;have hvt:=hv l[i] (List.getElem_mem hlt);generalize l[i] = v at *;have hsn:=keyS_snoc hg;have hP:(keyS (l.take i)).length <= 9000000:=Nat.le_trans (keyS_len fun w hw=>hv w (List.mem_of_mem_take hw)) (by rw [List.length_take]; omega)
 generalize hPe:keyS (l.take i) = P at *;refine ⟨_,⟨by omega,vals_get hg⟩,?_⟩
 conv=>whnf
 refine ⟨Nat.le_refl _,?_⟩
 conv=>whnf
 refine ⟨rfl,?_⟩
 conv=>whnf
 refine ⟨Nat.le_trans (Nat.mul_le_mul_right _ (by rw [laZ,List.length_take,List.drop_zero]; exact Nat.add_le_add (show _ <= 9000000 by simp only [bs_len,laZ,List.length_cons,List.length_nil,List.length_take,List.length_drop]; omega) (Nat.le_trans (Nat.min_le_left _ _) (by decide)))) (show (9000000 + 2) * 1 <= 70368744177664 by omega),?_⟩
 conv=>whnf
 have goI:IntKind.i64.wrap ((i:Int) + 1) = ((i + 1:Nat):Int):=by rw [wrapI (by omega)]; rfl
 by_cases k1:v.k = 1
 focus
  have hk:keyV v = [b8 v.k,b8 v.n]:=by unfold keyV keyT; rw [if_pos k1]
  rw [hk] at hsn;rw [show decide (v.k = 1) = true by simp [k1]]
  conv=>whnf
  refine ⟨Nat.le_refl _,?_⟩
  conv=>whnf
  refine ⟨rfl,?_⟩
  conv=>whnf
  refine ⟨Nat.le_trans (Nat.mul_le_mul_right _ (by rw [laZ,List.length_take,List.drop_zero]; exact Nat.add_le_add (show _ <= 9000001 by simp only [bs_len,laZ,List.length_cons,List.length_nil,List.length_take,List.length_drop]; omega) (Nat.le_trans (Nat.min_le_left _ _) (by decide)))) (show (9000001 + 2) * 1 <= 70368744177664 by omega),?_⟩
  conv=>whnf
  refine .go [5] rfl (l.length - (i + 1)) (by omega) ⟨i + 1,?_,?_,by omega,rfl⟩
  . show [V.sl 3 (vals l) f,V.ms 1 0 0 (bs P ++ [[V.int .u8 (IntKind.u8.wrap v.k)]] ++ [[V.int .u8 (IntKind.u8.wrap v.n)]]).length false,V.int .i64 (IntKind.i64.wrap ((i:Int) + 1))] = _
    rw [goI,hsn]; simp [bs]
  . show [O.buf (bs P ++ [[V.int .u8 (IntKind.u8.wrap v.k)]] ++ [[V.int .u8 (IntKind.u8.wrap v.n)]])] = _
    rw [hsn]; simp [bs,b8_wrap]
 rw [show decide (v.k = 1) = false by simp [k1]]
 conv=>whnf
 by_cases k2:v.k = 2
 focus
  have hk:keyV v = b8 v.k :: beB (keyM v.n) 8:=by unfold keyV keyT; rw [if_neg k1,if_pos k2]
  rw [hk] at hsn;rw [show decide (v.k = 2) = true by simp [k2]]
  conv=>whnf
  refine ⟨⟨[0,3,4,6,7],fun m ws H=>∃ (j:Nat),ws = [.sl 3 (vals l) f,.ms 1 1 0 (bs (P ++ b8 v.k :: beB (keyM v.n) j)).length false,fI i,.int .u64 (beS (keyM v.n) j),fI j] /\
   H = [.cells (valC v),.buf (bs (P ++ b8 v.k :: beB (keyM v.n) j))] /\ j <= 8 /\ m = 8 - j,.frz 9 (.go [1,3] rfl 8 (by omega) ⟨0,?_,?_,by omega,rfl⟩),?_⟩⟩
  . show [V.sl 3 (vals l) f,V.ms 1 1 0 (bs P ++ [[V.int .u8 (IntKind.u8.wrap v.k)]]).length false,fI i,V.int .u64 (keyM v.n),fI 0] = _
    simp [bs,beB,beS]
  . show [O.cells (valC v),O.buf (bs P ++ [[V.int .u8 (IntKind.u8.wrap v.k)]])] = _
    simp [bs,beB,b8_wrap]
  rintro m ws H ⟨j,rfl,rfl,hj,rfl⟩
  conv=>whnf
  have hbl:=beB_len (keyM v.n) j;refine branch_i (fun d1=>?_) (fun d1=>?_)<;>try rw [d1]<;>conv=>whnf
  focus
   have d1' := dtZ d1;refine ⟨by decide,?_⟩
   conv=>whnf
   refine ⟨Nat.le_refl _,?_⟩
   conv=>whnf
   refine ⟨rfl,?_⟩
   conv=>whnf
   refine ⟨Nat.le_trans (Nat.mul_le_mul_right _ (by rw [laZ,List.length_take,List.drop_zero]; exact Nat.add_le_add (show _ <= 9000009 by simp only [bs_len,laZ,List.length_cons,List.length_nil,List.length_take,List.length_drop]; omega) (Nat.le_trans (Nat.min_le_left _ _) (by decide)))) (show (9000009 + 2) * 1 <= 70368744177664 by omega),?_⟩
   conv=>whnf
   refine .go [0,3] rfl (8 - (j + 1)) (by omega) ⟨j + 1,?_,?_,by omega,rfl⟩
   . show [V.sl 3 (vals l) f,V.ms 1 1 0 (bs (P ++ b8 v.k :: beB (keyM v.n) j) ++ [[V.int .u8 (IntKind.u8.wrap (IntKind.u64.wrap ((beS (keyM v.n) j).tdiv 72057594037927936)))]]).length false,fI i,V.int .u64 (IntKind.u64.wrap (beS (keyM v.n) j * 256)),V.int .i64 (IntKind.i64.wrap ((j:Int) + 1))] = _
     rw [wrapI (n:=(j:Int) + 1) (by omega)]; simp [bs,beB,beS]
   . show [O.cells (valC v),O.buf (bs (P ++ b8 v.k :: beB (keyM v.n) j) ++ [[V.int .u8 (IntKind.u8.wrap (IntKind.u64.wrap ((beS (keyM v.n) j).tdiv 72057594037927936)))]])] = _
     simp [bs,beB,b8_wrap]
  have d1' := dfZ d1;have hj8:j = 8:=by omega
  subst hj8;refine .go [1] rfl (l.length - (i + 1)) (by omega) ⟨i + 1,?_,?_,by omega,rfl⟩
  . show [V.sl 3 (vals l) f,V.ms 1 0 0 (bs (P ++ b8 v.k :: beB (keyM v.n) 8)).length false,V.int .i64 (IntKind.i64.wrap ((i:Int) + 1))] = _
    rw [goI,hsn]
  . show [O.buf (bs (P ++ b8 v.k :: beB (keyM v.n) 8))] = _
    rw [hsn]
 rw [show decide (v.k = 2) = false by simp [k2]]
 conv=>whnf
 by_cases k34:v.k = 3 \/ v.k = 4
 rotate_left
 focus
  have hk:keyV v = [b8 v.k]:=by unfold keyV keyT; rw [if_neg k1,if_neg k2,if_neg k34]
  rw [hk] at hsn;rw [show decide (v.k = 3) = false by simp; omega]
  conv=>whnf
  rw [show decide (v.k = 4) = false by simp; omega]
  conv=>whnf
  refine .go [3] rfl (l.length - (i + 1)) (by omega) ⟨i + 1,?_,?_,by omega,rfl⟩
  . show [V.sl 3 (vals l) f,V.ms 1 0 0 (bs P ++ [[V.int .u8 (IntKind.u8.wrap v.k)]]).length false,V.int .i64 (IntKind.i64.wrap ((i:Int) + 1))] = _
    rw [goI,hsn]; simp [bs]
  . show [O.buf (bs P ++ [[V.int .u8 (IntKind.u8.wrap v.k)]])] = _
    rw [hsn]; simp [bs,b8_wrap]
 have hk:keyV v = b8 v.k :: (escL v.t ++ [0,1]):=by unfold keyV keyT; rw [if_neg k1,if_neg k2,if_pos k34]
 rw [hk] at hsn;by_cases k3:v.k = 3
 focus
  rw [show decide (v.k = 3) = true by simp [k3]]
  conv=>whnf
 rotate_left
 focus
  rw [show decide (v.k = 3) = false by simp [k3]]
  conv=>whnf
  rw [show decide (v.k = 4) = true by simp; omega]
  conv=>whnf
 all_goals
  refine ⟨⟨[0,3,4,5,8],fun m ws H=>∃ (j:Nat),ws = [.sl 3 (vals l) f,.ms 1 1 0 (bs (P ++ b8 v.k :: escL (v.t.take j))).length false,fI i,.ptr 0 0,fI j] /\
   H = [.cells (valC v),.buf (bs (P ++ b8 v.k :: escL (v.t.take j)))] /\ j <= v.t.length /\ m = v.t.length - j,.frz (v.t.length + 1) (.go [1,3] rfl v.t.length (by omega) ⟨0,?_,?_,by omega,rfl⟩),?_⟩⟩
  . show [V.sl 3 (vals l) f,V.ms 1 1 0 (bs P ++ [[V.int .u8 (IntKind.u8.wrap v.k)]]).length false,fI i,V.ptr 0 0,fI 0] = _
    simp [bs,escL]
  . show [O.cells (valC v),O.buf (bs P ++ [[V.int .u8 (IntKind.u8.wrap v.k)]])] = _
    simp [bs,escL,b8_wrap]
  rintro m ws H ⟨j,rfl,rfl,hj,rfl⟩
  conv=>whnf
  have hel:=escL_len (v.t.take j);rw [List.length_take] at hel;refine branch_i (fun d1=>?_) (fun d1=>?_)<;>try rw [d1]<;>conv=>whnf
  focus
   have d1' := dtZ d1;have hjl:j < v.t.length:=by omega
   have hgb:v.t[j]? = some v.t[j]:=lgZ hjl;generalize v.t[j] = b at *;have hes:=escL_snoc hgb;refine ⟨b,⟨by omega,hgb⟩,?_⟩
   conv=>whnf
   refine ⟨Nat.le_refl _,?_⟩
   conv=>whnf
   refine ⟨rfl,?_⟩
   conv=>whnf
   refine ⟨Nat.le_trans (Nat.mul_le_mul_right _ (by rw [laZ,List.length_take,List.drop_zero]; exact Nat.add_le_add (show _ <= 9010000 by simp only [bs_len,laZ,List.length_cons,List.length_nil,List.length_take,List.length_drop]; omega) (Nat.le_trans (Nat.min_le_left _ _) (by decide)))) (show (9010000 + 2) * 1 <= 70368744177664 by omega),?_⟩
   conv=>whnf
   refine ⟨b,⟨by omega,hgb⟩,?_⟩
   conv=>whnf
   by_cases hb:b = 0
   . subst hb
     conv=>whnf
     refine ⟨Nat.le_refl _,?_⟩
     conv=>whnf
     refine ⟨rfl,?_⟩
     conv=>whnf
     refine ⟨Nat.le_trans (Nat.mul_le_mul_right _ (by rw [laZ,List.length_take,List.drop_zero]; exact Nat.add_le_add (show _ <= 9010001 by simp only [bs_len,laZ,List.length_cons,List.length_nil,List.length_take,List.length_drop]; omega) (Nat.le_trans (Nat.min_le_left _ _) (by decide)))) (show (9010001 + 2) * 1 <= 70368744177664 by omega),?_⟩
     conv=>whnf
     have he:escB 0 = [0,255]:=rfl;rw [he] at hes;refine .go [0,5] rfl (v.t.length - (j + 1)) (by omega) ⟨j + 1,?_,?_,by omega,rfl⟩
     . show [V.sl 3 (vals l) f,V.ms 1 1 0 (bs (P ++ b8 v.k :: escL (v.t.take j)) ++ [[V.int .u8 ((0:UInt8).toNat:Int)]] ++ [[V.int .u8 255]]).length false,fI i,V.ptr 0 0,V.int .i64 (IntKind.i64.wrap ((j:Int) + 1))] = _
       rw [wrapI (n:=(j:Int) + 1) (by omega),hes]; simp [bs]
     . show [O.cells (valC v),O.buf (bs (P ++ b8 v.k :: escL (v.t.take j)) ++ [[V.int .u8 ((0:UInt8).toNat:Int)]] ++ [[V.int .u8 255]])] = _
       rw [hes]; simp [bs]
   . have hb' : ¬ (b.toNat:Int) = 0:=fun e=>hb (by
      have:b.toNat = 0:=by omega
      exact UInt8.toNat_inj.1 (by rw [this]; rfl))
     rw [show decide ((b.toNat:Int) = 0) = false by simp only [hb', decide_false]]
     conv=>whnf
     have he:escB b = [b]:=by unfold escB; rw [if_neg hb]
     rw [he] at hes;refine .go [0,3] rfl (v.t.length - (j + 1)) (by omega) ⟨j + 1,?_,?_,by omega,rfl⟩
     . show [V.sl 3 (vals l) f,V.ms 1 1 0 (bs (P ++ b8 v.k :: escL (v.t.take j)) ++ [[V.int .u8 (b.toNat:Int)]]).length false,fI i,V.ptr 0 0,V.int .i64 (IntKind.i64.wrap ((j:Int) + 1))] = _
       rw [wrapI (n:=(j:Int) + 1) (by omega),hes]; simp [bs]
     . show [O.cells (valC v),O.buf (bs (P ++ b8 v.k :: escL (v.t.take j)) ++ [[V.int .u8 (b.toNat:Int)]])] = _
       rw [hes]; simp [bs]
  have d1' := dfZ d1;have hjt:j = v.t.length:=by omega
  subst hjt;rw [List.take_length] at hel ⊢;refine ⟨Nat.le_refl _,?_⟩
  conv=>whnf
  refine ⟨rfl,?_⟩
  conv=>whnf
  refine ⟨Nat.le_trans (Nat.mul_le_mul_right _ (by rw [laZ,List.length_take,List.drop_zero]; exact Nat.add_le_add (show _ <= 9010000 by simp only [bs_len,laZ,List.length_cons,List.length_nil,List.length_take,List.length_drop]; omega) (Nat.le_trans (Nat.min_le_left _ _) (by decide)))) (show (9010000 + 2) * 1 <= 70368744177664 by omega),?_⟩
  conv=>whnf
  refine .go [3] rfl (l.length - (i + 1)) (by omega) ⟨i + 1,?_,?_,by omega,rfl⟩
  . show [V.sl 3 (vals l) f,V.ms 1 0 0 (bs (P ++ b8 v.k :: escL v.t) ++ [[V.int .u8 0],[V.int .u8 1]]).length false,V.int .i64 (IntKind.i64.wrap ((i:Int) + 1))] = _
    rw [goI,hsn]; simp [bs]
  . show [O.buf (bs (P ++ b8 v.k :: escL v.t) ++ [[V.int .u8 0],[V.int .u8 1]])] = _
    rw [hsn]; simp [bs]
end
section
variable {Q:V -> List O -> Prop}
def TextsOk (vs:List Val):Prop:=∀ v ∈ vs,v.t.length < 1000000000000000000
def standN (l:List Col) (vs:List Val) (n:Nat):Prop:=∀ (i:Nat) (c:Col) (v:Val),i < n -> l[i]? = some c -> vs[i]? = some v -> standsV c v = true
theorem keyOk_no {l:List Col} {keys:Nat} {vs:List Val} {i:Nat} {c:Col} {v:Val} (hi:i < keys) (hc:l[i]? = some c) (hv:vs[i]? = some v) (h:standsV c v = false):keyOkL l keys vs = false:=by
 unfold keyOkL;have:(List.range keys).all (stAt l vs) = false:=by
  rw [Bool.eq_false_iff];intro hx;rw [List.all_eq_true] at hx;have:=hx i (List.mem_range.2 hi);rw [stAt_some hc hv,h] at this; cases this
 rw [this,Bool.and_false]
theorem keyOk_yes {l:List Col} {keys:Nat} {vs:List Val} (hk:keys <= vs.length) (h:standN l vs keys):keyOkL l keys vs = true:=by
 unfold keyOkL;rw [decide_eq_true hk,Bool.true_and,List.all_eq_true];intro i hi;exact stAt_yes fun c v=>h i c v (List.mem_range.1 hi)
theorem standN_text {l:List Col} {vs:List Val} {n:Nat} (h:standN l vs n) (hn:n <= l.length):∀ v ∈ vs.take n,v.t.length <= 4096:=by
 intro v hv;obtain ⟨i,hi⟩:=List.mem_iff_getElem?.1 hv;have hlt:=(liZ.1 hi).1;rw [List.length_take] at hlt;rw [List.getElem?_take_of_lt (by omega)] at hi
 exact stands_text (h i l[i] v (by omega) (lgZ (by omega)) hi)
def keyR (l:List Col) (keys:Nat) (vs:List Val):V:=if keyOkL l keys vs then .tup [.str (keyS (vs.take keys)),fI 0] else .tup [.str [],fI 9]
theorem RKey_spec {l:List Col} {keys:Nat} {vs:List Val} {f:Bool} (hl:l.length <= 1000) (hk:keys <= l.length) (ht:TextsOk vs) (h:Q (keyR l keys vs) []) :
 ACall Tryz.prog 38 0 [sch l keys,.sl 3 (vals vs) f] [] Q:=by
 have hlc:=cols_len l;have hlv:=vals_len vs;refine by_body Tryz.func38 0 rfl (nbZ rfl) ?_
 conv=>whnf
 unfold keyR at h;refine branch_i (fun c1=>?_) (fun c1=>?_)<;>try rw [c1]<;>conv=>whnf
 focus
  have c1' := dtZ c1;have e:keyOkL l keys vs = false:=by unfold keyOkL; rw [decide_eq_false (by omega),Bool.false_and]
  rw [e] at h;exact ⟨[],rfl,h⟩
 have c1' := dfZ c1;refine ⟨⟨[1,2,6],fun m ws H=>∃ i:Nat,ws = [.sl 3 (vals vs) f,.ptr 0 0,fI i] /\ H = [.cells [.sl 3 (cols l) false,fI keys]] /\ standN l vs i /\ i <= keys /\ m = keys - i,
  .at keys ⟨0,rfl,rfl,fun i c v hi=>by omega,Nat.zero_le _,rfl⟩,?_⟩⟩
 rintro m ws H ⟨i,rfl,rfl,hs,hi,rfl⟩
 conv=>whnf
 refine branch_i (fun c2=>?_) (fun c2=>?_)<;>try rw [c2]<;>conv=>whnf
 focus
  have c2' := dtZ c2;have hi1:i < l.length:=by omega
  have hi2:i < vs.length:=by omega
  have g1:l[i]? = some l[i]:=lgZ hi1;have g2:vs[i]? = some vs[i]:=lgZ hi2;have htt:=ht vs[i] (List.getElem_mem hi2);generalize l[i] = c at *;generalize vs[i] = v at *;refine ⟨List.range 11,by kernel_rfl,by kernel_rfl,?_⟩
  conv=>whnf
  refine ⟨_,⟨by omega,cols_get g1⟩,?_⟩
  conv=>whnf
  refine ⟨_,⟨by omega,vals_get g2⟩,?_⟩
  conv=>whnf
  refine .pure (stands_spec (c:=c) (v:=v) htt ⟨rfl,?_⟩)
  conv=>whnf
  cases e:standsV c v
  . conv=>whnf
    rw [keyOk_no (by omega) g1 g2 e] at h
    exact ⟨[],rfl,h⟩
  . conv=>whnf
    refine .go [0] rfl (keys - (i + 1)) (by omega) ⟨i + 1,?_,rfl,fun j c' v' hj hc' hv' => ?_,by omega,rfl⟩
    . show [V.sl 3 (vals vs) f,V.ptr 0 0,V.int .i64 (IntKind.i64.wrap ((i:Int) + 1))] = _
      rw [wrapI (by omega)]; rfl
    . rcases Nat.lt_or_ge j i with h1 | h1
      . exact hs j c' v' h1 hc' hv'
      . have:j = i:=by omega
        subst this;rw [g1] at hc'; rw [g2] at hv'; cases hc'; cases hv'; exact e
 have c2' := dfZ c2;have hie:i = keys:=by omega
 subst hie;rw [keyOk_yes (by omega) hs,if_pos rfl] at h
 refine ⟨⟨by omega,by omega⟩,?_⟩
 conv=>whnf
 rw [Int.toNat_natCast,show List.take i (vals vs) = vals (vs.take i) by simp [vals,List.map_take]]
 refine .pure (VKey_spec (by rw [List.length_take]; omega) (standN_text hs hk) ⟨rfl,?_⟩)
 conv=>whnf
 exact ⟨[],rfl,h⟩
theorem RFits_spec {l:List Col} {keys:Int} {vs:List Val} {f:Bool} (hl:l.length <= 1000) (ht:TextsOk vs) (h:Q (.bool (fitsL l vs)) []) :
 ACall Tryz.prog 68 0 [sch l keys,.sl 3 (vals vs) f] [] Q:=by
 have hlc:=cols_len l;have hlv:=vals_len vs;refine by_body Tryz.func68 0 rfl (nbZ rfl) ?_
 conv=>whnf
 refine branch_i (fun c1=>?_) (fun c1=>?_)<;>try rw [c1]<;>conv=>whnf
 focus
  have e:fitsL l vs = false:=by
   unfold fitsL;rw [decide_eq_false (by simp at c1; omega),Bool.false_and]
  rw [e] at h;exact ⟨[],rfl,h⟩
 have hlen:vs.length = l.length:=by simp at c1; omega
 clear c1;refine ⟨⟨[1,2,5],fun m ws H=>∃ i:Nat,ws = [.sl 3 (vals vs) f,.ptr 0 0,fI i] /\ H = [.cells [.sl 3 (cols l) false,fI keys]] /\ standN l vs i /\ i <= vs.length /\ m = vs.length - i,
  .at _ ⟨0,rfl,rfl,fun i c v hi=>by omega,Nat.zero_le _,rfl⟩,?_⟩⟩
 rintro m ws H ⟨i,rfl,rfl,hs,hi,rfl⟩
 conv=>whnf
 refine branch_i (fun c2=>?_) (fun c2=>?_)<;>try rw [c2]<;>conv=>whnf
 focus
  have c2' := dtZ c2;have hi1:i < l.length:=by omega
  have hi2:i < vs.length:=by omega
  have g1:l[i]? = some l[i]:=lgZ hi1;have g2:vs[i]? = some vs[i]:=lgZ hi2;have htt:=ht vs[i] (List.getElem_mem hi2);generalize l[i] = c at *;generalize vs[i] = v at *;refine ⟨List.range 11,by kernel_rfl,by kernel_rfl,?_⟩
  conv=>whnf
  refine ⟨_,⟨by omega,cols_get g1⟩,?_⟩
  conv=>whnf
  refine ⟨_,⟨by omega,vals_get g2⟩,?_⟩
  conv=>whnf
  refine .pure (stands_spec (c:=c) (v:=v) htt ⟨rfl,?_⟩)
  conv=>whnf
  cases e:standsV c v
  . conv=>whnf
    have e2:fitsL l vs = false:=by
     have:=keyOk_no (keys:=vs.length) hi2 g1 g2 e;unfold keyOkL at this;unfold fitsL;rw [decide_eq_true (Nat.le_refl _),Bool.true_and] at this;rw [this,Bool.and_false]
    rw [e2] at h;exact ⟨[],rfl,h⟩
  . conv=>whnf
    refine .go [0] rfl (vs.length - (i + 1)) (by omega) ⟨i + 1,?_,rfl,fun j c' v' hj hc' hv' => ?_,by omega,rfl⟩
    . show [V.sl 3 (vals vs) f,V.ptr 0 0,V.int .i64 (IntKind.i64.wrap ((i:Int) + 1))] = _
      rw [wrapI (by omega)]; rfl
    . rcases Nat.lt_or_ge j i with h1 | h1
      . exact hs j c' v' h1 hc' hv'
      . have:j = i:=by omega
        subst this;rw [g1] at hc'; rw [g2] at hv'; cases hc'; cases hv'; exact e
 have c2' := dfZ c2;have hie:i = vs.length:=by omega
 subst hie;rw [fits_yes hlen fun j c v hc hv=>hs j c v (liZ.1 hv).1 hc hv] at h
 exact ⟨[],rfl,h⟩
end
end Go.Proofs.YteiagdlfccbpcaaGreatDoorPg
