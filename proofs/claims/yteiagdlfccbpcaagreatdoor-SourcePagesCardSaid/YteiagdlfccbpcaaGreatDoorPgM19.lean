/- Own texts, laid together: Pg10ZDValid, Pg10ZDValG, Pg10ZDKeyP, Pg10ZDEv9, Pg10ZDEv10, Pg10ZDValF, Pg10ZDEv11, Pg10ZDIm3, Pg10ZDCrB, Pg10ZDCrC, Pg10ZDIm4, Pg10ZDIm5, Pg10ZDIm6, Pg10ZDIm7, Pg10ZDIm8, Pg10ZDIm9, Pg10ZDIm10, Pg10ZDIm11, Pg10ZDIm12, Pg10ZDIm13, Pg10ZDIm14, Pg10ZDInsT, Pg10ZDEv12, Pg10ZDEv14, Pg10ZDEv16, Pg10ZDBlP, Pg10ZDBlQ, Pg10ZDBlA, Pg10ZDEvL, Pg10ZDSoA, Pg10ZDIm15, Pg10ZDSoB, Pg10ZDSoC, Pg10ZDSoD, Pg10ZDRwC, Pg10ZDSoE. -/
import Derived.Test.YteiagdlfccbpcaaGreatDoorPgM17
import Derived.Test.YteiagdlfccbpcaaGreatDoorPgM13
import Derived.Shelf.Unicode.ValidAny
import Derived.Test.YteiagdlfccbpcaaGreatDoorPgM18
import Derived.Test.YteiagdlfccbpcaaGreatDoorPgM12
import Derived.Test.YteiagdlfccbpcaaGreatDoorPgM14
import Derived.Test.YteiagdlfccbpcaaGreatDoorPgM1
set_option linter.unusedSectionVars false
set_option linter.unusedSimpArgs false
set_option linter.unusedVariables false
namespace Go.Proofs.YteiagdlfccbpcaaGreatDoorPg
open Go Go.RowKit
section
variable {Q:V -> List O -> Prop}
theorem ValidString_spec {s:List UInt8} (hs:s.length <= 9223372036854775807) (h:Q (.bool (u8 s)) []):ACall Tryz.prog 191 0 [.str s] [] Q:=by
 refine acall_below (r:=.bool (u8 s)) (fun I ρ w us hst ha=>?_) h
 obtain ⟨u,us', e1,hu,ht⟩:=ha.cons_inv;have e2:us' = []:=List.eq_nil_of_length_eq_zero ht.1.symm;obtain ⟨b,hb,rfl⟩:=vr_str hu;subst e2;have eu:us = #[.string b]:=by
  apply Array.ext';simpa using e1
 subst eu;refine ⟨.bool (u8 s),fun _ _=>.bool _ _,?_⟩
 have hsz:b.size <= 9223372036854775807:=by
  have:b.size = s.length:=by rw [<- hb]; rfl
  omega
 have:=Any.utf8_ValidString Tryz.laysValid b w hsz (tabs_of hst);rw [hb,valid_u8] at this;exact this
end
section
variable {Q:V -> List O -> Prop}
theorem vals_take (vs:List Val) (n:Nat):List.take n (vals vs) = vals (vs.take n):=by simp [vals,List.map_take]
theorem qb {b b' : Bool} {H:List O} (h:Q (.bool b) H) (e:b = b'):Q (.bool b') H:=e ▸ h
set_option maxHeartbeats 4000000 in
theorem VMay_spec {v:Val} (ht:v.t.length < 1000000000000000000) (h:Q (.bool (mayV v)) []):ACall Tryz.prog 181 0 [valA v] [] Q:=by
 refine by_body Tryz.func181 0 rfl (nbZ rfl) ?_
 conv=>whnf
 refine branch_i (fun c1=>?_) (fun c1=>?_)<;>try rw [c1]<;>conv=>whnf
 all_goals
  have hc:=c1;refine branch_i (fun k0=>?_) (fun k0=>?_)<;>try rw [k0]<;>conv=>whnf
  focus
   refine ⟨[],rfl,qb h ?_⟩;unfold mayV;rw [if_pos (dtZ k0),k0];simp
  have k0' := dfZ k0;refine branch_i (fun k1=>?_) (fun k1=>?_)<;>try rw [k1]<;>conv=>whnf
  focus
   have e:mayV v = (decide (v.t = []) && (decide (v.n = 0) || decide (v.n = 1))):=by unfold mayV; rw [if_neg k0', if_pos (dtZ k1)]
   rw [e] at h;refine branch_i (fun d1=>?_) (fun d1=>?_)<;>rw [d1] at h<;>try rw [d1]<;>conv=>whnf
   focus exact ⟨[],rfl,qb h (by simp)⟩
   refine branch_i (fun d2=>?_) (fun d2=>?_)<;>rw [d2] at h<;>try rw [d2]<;>conv=>whnf
   . exact ⟨[],rfl,qb h (by simp)⟩
   . exact ⟨[],rfl,qb h (by simp)⟩
  have k1' := dfZ k1;refine branch_i (fun k2=>?_) (fun k2=>?_)<;>try rw [k2]<;>conv=>whnf
  focus
   have e:mayV v = decide (v.t = []):=by unfold mayV; rw [if_neg k0', if_neg k1', if_pos (dtZ k2)]
   rw [e] at h;exact ⟨[],rfl,h⟩
  have k2' := dfZ k2;refine branch_i (fun k3=>?_) (fun k3=>?_)<;>try rw [k3]<;>conv=>whnf
  focus
   have e:mayV v = (u8 v.t && decide (v.n = 0) && decide ((v.t.length:Int) <= 4096)):=by unfold mayV; rw [if_neg k0', if_neg k1', if_neg k2', if_pos (dtZ k3)]
   rw [e,hc] at h
   first
    | exact ⟨[],rfl,qb h (by simp)⟩
    | (refine branch_i (fun d1=>?_) (fun d1=>?_)<;>rw [d1] at h<;>try rw [d1]<;>conv=>whnf
       . refine .pure (ValidString_spec (by omega) ⟨rfl,?_⟩)
         conv=>whnf
         exact ⟨[],rfl,qb h (by simp)⟩
       . exact ⟨[],rfl,qb h (by simp)⟩)
  have k3' := dfZ k3;refine branch_i (fun k4=>?_) (fun k4=>?_)<;>try rw [k4]<;>conv=>whnf
  . have e:mayV v = (decide (v.n = 0) && decide ((v.t.length:Int) <= 4096)):=by unfold mayV; rw [if_neg k0', if_neg k1', if_neg k2', if_neg k3', if_pos (dtZ k4)]
    rw [e,hc] at h;exact ⟨[],rfl,qb h (by simp)⟩
  . have e:mayV v = false:=by unfold mayV; rw [if_neg k0', if_neg k1', if_neg k2', if_neg k3', if_neg (dfZ k4)]
    rw [e] at h;exact ⟨[],rfl,h⟩
theorem fits_spec {c:Col} {v:Val} (ht:v.t.length < 1000000000000000000) (h:Q (.bool (standsV c v)) []):ACall Tryz.prog 180 0 [colA c,valA v] [] Q:=by
 refine by_body Tryz.func180 0 rfl (nbZ rfl) ?_
 conv=>whnf
 unfold standsV at h;refine .pure (VMay_spec ht ⟨rfl,?_⟩)
 conv=>whnf
 cases c1:mayV v<;>rw [c1] at h<;>conv=>whnf
 focus exact ⟨[],rfl,h⟩
 refine branch_i (fun c2=>?_) (fun c2=>?_)<;>rw [c2] at h<;>try rw [c2]<;>conv=>whnf
 focus exact ⟨[],rfl,h⟩
 refine branch_i (fun c3=>?_) (fun c3=>?_)<;>rw [c3] at h<;>try rw [c3]<;>conv=>whnf
 all_goals exact ⟨[],rfl,h⟩
theorem begins_spec {l:List Col} {keys:Int} {vs:List Val} {f:Bool} {n:Nat} (hl:l.length <= 1000) (hn:n <= l.length) (ht:TextsOk vs) (h:Q (.bool (keyOkL l n vs)) []) :
 ACall Tryz.prog 161 0 [sch l keys,.sl 3 (vals vs) f,fI n] [] Q:=by
 have hlc:=cols_len l;have hlv:=vals_len vs;refine by_body Tryz.func161 0 rfl (nbZ rfl) ?_
 conv=>whnf
 refine branch_i (fun c1=>?_) (fun c1=>?_)<;>try rw [c1]<;>conv=>whnf
 focus
  have c1' := dtZ c1;have e:keyOkL l n vs = false:=by unfold keyOkL; rw [decide_eq_false (by omega),Bool.false_and]
  rw [e] at h;exact ⟨[],rfl,h⟩
 have c1' := dfZ c1;refine ⟨⟨[1,3,12,13],fun m ws H=>∃ i:Nat,ws = [.sl 3 (vals vs) f,.ptr 0 0,fI n,fI i] /\ H = [.cells [.sl 3 (cols l) false,fI keys]] /\ standN l vs i /\ i <= n /\ m = n - i,
  .at n ⟨0,rfl,rfl,fun i c v hi=>by omega,Nat.zero_le _,rfl⟩,?_⟩⟩
 rintro m ws H ⟨i,rfl,rfl,hs,hi,rfl⟩
 conv=>whnf
 refine branch_i (fun c2=>?_) (fun c2=>?_)<;>try rw [c2]<;>conv=>whnf
 focus
  have c2' := dtZ c2;have hi1:i < l.length:=by omega
  have hi2:i < vs.length:=by omega
  have g1:l[i]? = some l[i]:=lgZ hi1;have g2:vs[i]? = some vs[i]:=lgZ hi2;have htt:=ht vs[i] (List.getElem_mem hi2);generalize l[i] = c at *;generalize vs[i] = v at *;refine ⟨List.range 11,by kernel_rfl,by kernel_rfl,?_⟩
  conv=>whnf
  refine ⟨_,⟨by omega,cols_get g1⟩,?_⟩
  conv=>whnf
  refine ⟨_,⟨by omega,vals_get g2⟩,?_⟩
  conv=>whnf
  refine .pure (fits_spec (c:=c) (v:=v) htt ⟨rfl,?_⟩)
  conv=>whnf
  cases e:standsV c v
  . conv=>whnf
    rw [keyOk_no (by omega) g1 g2 e] at h
    exact ⟨[],rfl,h⟩
  . conv=>whnf
    refine .go [0] rfl (n - (i + 1)) (by omega) ⟨i + 1,?_,rfl,fun j c' v' hj hc' hv' => ?_,by omega,rfl⟩
    . show [V.sl 3 (vals vs) f,V.ptr 0 0,fI n,V.int .i64 (IntKind.i64.wrap ((i:Int) + 1))] = _
      rw [wrapI (by omega)]; rfl
    . rcases Nat.lt_or_ge j i with h1 | h1
      . exact hs j c' v' h1 hc' hv'
      . have:j = i:=by omega
        subst this;rw [g1] at hc'; rw [g2] at hv'; cases hc'; cases hv'; exact e
 have c2' := dfZ c2;have hie:i = n:=by omega
 subst hie;rw [keyOk_yes (by omega) hs] at h
 exact ⟨[],rfl,h⟩
theorem Fits_spec {l:List Col} {keys:Int} {vs:List Val} {f:Bool} (hl:l.length <= 1000) (ht:TextsOk vs) (h:Q (.bool (fitsL l vs)) []) :
 ACall Tryz.prog 132 0 [sch l keys,.sl 3 (vals vs) f] [] Q:=by
 have hlc:=cols_len l;have hlv:=vals_len vs;refine by_body Tryz.func132 0 rfl (nbZ rfl) ?_
 conv=>whnf
 by_cases e:vs.length = l.length
 rotate_left
 focus
  rw [show decide (((vals vs).length:Int) = ((cols l).length:Int)) = false by simp only [hlv,hlc,decide_eq_false_iff_not]; omega]
  conv=>whnf
  have e2:fitsL l vs = false:=by unfold fitsL; rw [decide_eq_false e,Bool.false_and]
  rw [e2] at h;exact ⟨[],rfl,h⟩
 rw [show decide (((vals vs).length:Int) = ((cols l).length:Int)) = true by simp only [hlv,hlc,decide_eq_true_eq]; omega]
 conv=>whnf
 rw [hlv];refine .pure (begins_spec hl (by omega) ht ⟨rfl,?_⟩)
 conv=>whnf
 refine ⟨[],rfl,qb h ?_⟩;unfold fitsL keyOkL;rw [decide_eq_true e,decide_eq_true (Nat.le_refl _)]
end
section
variable {Q:V -> List O -> Prop}
set_option maxHeartbeats 8000000 in
set_option maxRecDepth 10000 in
theorem key_spec {v:Val} {P:List UInt8} (hP:P.length <= 9000000) (hvt:v.t.length <= 4096) (h:Q (.ms 1 0 0 (bs (P ++ keyV v)).length false) [.buf (bs (P ++ keyV v))]) :
 ACall Tryz.prog 182 0 [.ms 1 0 0 (bs P).length false,valA v] [.buf (bs P)] Q:=by
 refine by_body Tryz.func182 0 rfl (nbZ rfl) ?_
 conv=>whnf
 refine ⟨Nat.le_refl _,?_⟩
 conv=>whnf
 refine ⟨rfl,?_⟩
 conv=>whnf
 refine ⟨Nat.le_trans (Nat.mul_le_mul_right _ (by rw [laZ,List.length_take,List.drop_zero]; exact Nat.add_le_add (show _ <= 9000000 by simp only [bs_len,laZ,List.length_cons,List.length_nil,List.length_take,List.length_drop]; omega) (Nat.le_trans (Nat.min_le_left _ _) (by decide)))) (show (9000000 + 2) * 1 <= 70368744177664 by omega),?_⟩
 conv=>whnf
 by_cases k1:v.k = 1
 focus
  have hk:keyV v = [b8 v.k,b8 v.n]:=by unfold keyV keyT; rw [if_pos k1]
  rw [hk] at h;rw [show decide (v.k = 1) = true by simp [k1]]
  conv=>whnf
  refine ⟨Nat.le_refl _,?_⟩
  conv=>whnf
  refine ⟨rfl,?_⟩
  conv=>whnf
  refine ⟨Nat.le_trans (Nat.mul_le_mul_right _ (by rw [laZ,List.length_take,List.drop_zero]; exact Nat.add_le_add (show _ <= 9000001 by simp only [bs_len,laZ,List.length_cons,List.length_nil,List.length_take,List.length_drop]; omega) (Nat.le_trans (Nat.min_le_left _ _) (by decide)))) (show (9000001 + 2) * 1 <= 70368744177664 by omega),?_⟩
  conv=>whnf
  refine ⟨[5],rfl,?_⟩;have e:bs (P ++ [b8 v.k,b8 v.n]) = bs P ++ [[V.int .u8 (IntKind.u8.wrap v.k)]] ++ [[V.int .u8 (IntKind.u8.wrap v.n)]]:=by simp [bs,b8_wrap]
  rw [e] at h;exact h
 rw [show decide (v.k = 1) = false by simp [k1]]
 conv=>whnf
 by_cases k2:v.k = 2
 focus
  have hk:keyV v = b8 v.k :: beB (keyM v.n) 8:=by unfold keyV keyT; rw [if_neg k1,if_pos k2]
  rw [hk] at h;rw [show decide (v.k = 2) = true by simp [k2]]
  conv=>whnf
  refine ⟨⟨[0,3,25],fun m ws H=>∃ (j:Nat),ws = [.ms 1 1 0 (bs (P ++ b8 v.k :: beB (keyM v.n) j)).length false,.ptr 0 0,fI j] /\
   H = [.cells (valC v),.buf (bs (P ++ b8 v.k :: beB (keyM v.n) j))] /\ j <= 8 /\ m = 8 - j,.frz 9 (.go [1,3] rfl 8 (by omega) ⟨0,?_,?_,by omega,rfl⟩),?_⟩⟩
  . show [V.ms 1 1 0 (bs P ++ [[V.int .u8 (IntKind.u8.wrap v.k)]]).length false,V.ptr 0 0,fI 0] = _
    simp [bs,beB]
  . show [O.cells (valC v),O.buf (bs P ++ [[V.int .u8 (IntKind.u8.wrap v.k)]])] = _
    simp [bs,beB,b8_wrap]
  rintro m ws H ⟨j,rfl,rfl,hj,rfl⟩
  conv=>whnf
  have hbl:=beB_len (keyM v.n) j;refine branch_i (fun d1=>?_) (fun d1=>?_)<;>try rw [d1]<;>conv=>whnf
  rotate_left
  focus
   have d1' := dfZ d1;have hj8:j = 8:=by omega
   subst hj8;exact ⟨[1],rfl,h⟩
  have d1' := dtZ d1;refine ⟨(by rw [IntKind.wrap_i64,IntKind.wrap_i64]; omega),?_⟩
  conv=>whnf
  refine ⟨Nat.le_refl _,?_⟩
  conv=>whnf
  refine ⟨rfl,?_⟩
  conv=>whnf
  refine ⟨Nat.le_trans (Nat.mul_le_mul_right _ (by rw [laZ,List.length_take,List.drop_zero]; exact Nat.add_le_add (show _ <= 9000009 by simp only [bs_len,laZ,List.length_cons,List.length_nil,List.length_take,List.length_drop]; omega) (Nat.le_trans (Nat.min_le_left _ _) (by decide)))) (show (9000009 + 2) * 1 <= 70368744177664 by omega),?_⟩
  conv=>whnf
  have hby:=byte_eq v.n j (by omega)
  refine .go [0,3] rfl (8 - (j + 1)) (by omega) ⟨j + 1,?_,?_,by omega,rfl⟩
  . show [V.ms 1 1 0 (bs (P ++ b8 v.k :: beB (keyM v.n) j) ++ [[V.int .u8 (IntKind.u8.wrap _)]]).length false,V.ptr 0 0,V.int .i64 (IntKind.i64.wrap ((j:Int) + 1))] = _
    rw [wrapI (n:=(j:Int) + 1) (by omega)]; simp [bs,beB]
  . show [O.cells (valC v),O.buf (bs (P ++ b8 v.k :: beB (keyM v.n) j) ++ [[V.int .u8 (IntKind.u8.wrap _)]])] = _
    rw [b8_wrap,xor_keyB,hby];simp [bs,beB]
 rw [show decide (v.k = 2) = false by simp [k2]]
 conv=>whnf
 by_cases k34:v.k = 3 \/ v.k = 4
 rotate_left
 focus
  have hk:keyV v = [b8 v.k]:=by unfold keyV keyT; rw [if_neg k1,if_neg k2,if_neg k34]
  rw [hk] at h;rw [show decide (v.k = 3) = false by simp; omega]
  conv=>whnf
  rw [show decide (v.k = 4) = false by simp; omega]
  conv=>whnf
  refine ⟨[3],rfl,?_⟩;have e:bs (P ++ [b8 v.k]) = bs P ++ [[V.int .u8 (IntKind.u8.wrap v.k)]]:=by simp [bs,b8_wrap]
  rw [e] at h;exact h
 have hk:keyV v = b8 v.k :: (escL v.t ++ [0,1]):=by unfold keyV keyT; rw [if_neg k1,if_neg k2,if_pos k34]
 rw [hk] at h;by_cases k3:v.k = 3
 focus
  rw [show decide (v.k = 3) = true by simp [k3]]
  conv=>whnf
 rotate_left
 focus
  rw [show decide (v.k = 3) = false by simp [k3]]
  conv=>whnf
  rw [show decide (v.k = 4) = true by simp; omega]
  conv=>whnf
 all_goals
  refine ⟨⟨[0,3,46,47],fun m ws H=>∃ (j:Nat),ws = [.ms 1 1 0 (bs (P ++ b8 v.k :: escL (v.t.take j))).length false,.ptr 0 0,fI v.t.length,fI j] /\
   H = [.cells (valC v),.buf (bs (P ++ b8 v.k :: escL (v.t.take j)))] /\ j <= v.t.length /\ m = v.t.length - j,.frz (v.t.length + 1) (.go [1,3] rfl v.t.length (by omega) ⟨0,?_,?_,by omega,rfl⟩),?_⟩⟩
  . show [V.ms 1 1 0 (bs P ++ [[V.int .u8 (IntKind.u8.wrap v.k)]]).length false,V.ptr 0 0,fI v.t.length,fI 0] = _
    simp [bs,escL]
  . show [O.cells (valC v),O.buf (bs P ++ [[V.int .u8 (IntKind.u8.wrap v.k)]])] = _
    simp [bs,escL,b8_wrap]
  rintro m ws H ⟨j,rfl,rfl,hj,rfl⟩
  conv=>whnf
  have hel:=escL_len (v.t.take j);rw [List.length_take] at hel;refine branch_i (fun d1=>?_) (fun d1=>?_)<;>try rw [d1]<;>conv=>whnf
  focus
   have d1' := dtZ d1;have hjl:j < v.t.length:=by omega
   have hgb:v.t[j]? = some v.t[j]:=lgZ hjl;generalize v.t[j] = b at *;have hes:=escL_snoc hgb;refine ⟨b,⟨by omega,hgb⟩,?_⟩
   conv=>whnf
   refine ⟨Nat.le_refl _,?_⟩
   conv=>whnf
   refine ⟨rfl,?_⟩
   conv=>whnf
   refine ⟨Nat.le_trans (Nat.mul_le_mul_right _ (by rw [laZ,List.length_take,List.drop_zero]; exact Nat.add_le_add (show _ <= 9010000 by simp only [bs_len,laZ,List.length_cons,List.length_nil,List.length_take,List.length_drop]; omega) (Nat.le_trans (Nat.min_le_left _ _) (by decide)))) (show (9010000 + 2) * 1 <= 70368744177664 by omega),?_⟩
   conv=>whnf
   refine ⟨b,⟨by omega,hgb⟩,?_⟩
   conv=>whnf
   by_cases hb:b = 0
   . subst hb
     conv=>whnf
     refine ⟨Nat.le_refl _,?_⟩
     conv=>whnf
     refine ⟨rfl,?_⟩
     conv=>whnf
     refine ⟨Nat.le_trans (Nat.mul_le_mul_right _ (by rw [laZ,List.length_take,List.drop_zero]; exact Nat.add_le_add (show _ <= 9010001 by simp only [bs_len,laZ,List.length_cons,List.length_nil,List.length_take,List.length_drop]; omega) (Nat.le_trans (Nat.min_le_left _ _) (by decide)))) (show (9010001 + 2) * 1 <= 70368744177664 by omega),?_⟩
     conv=>whnf
     have he:escB 0 = [0,255]:=rfl;rw [he] at hes;refine .go [0,5] rfl (v.t.length - (j + 1)) (by omega) ⟨j + 1,?_,?_,by omega,rfl⟩
     . show [V.ms 1 1 0 (bs (P ++ b8 v.k :: escL (v.t.take j)) ++ [[V.int .u8 ((0:UInt8).toNat:Int)]] ++ [[V.int .u8 255]]).length false,V.ptr 0 0,fI v.t.length,V.int .i64 (IntKind.i64.wrap ((j:Int) + 1))] = _
       rw [wrapI (n:=(j:Int) + 1) (by omega),hes]; simp [bs]
     . show [O.cells (valC v),O.buf (bs (P ++ b8 v.k :: escL (v.t.take j)) ++ [[V.int .u8 ((0:UInt8).toNat:Int)]] ++ [[V.int .u8 255]])] = _
       rw [hes]; simp [bs]
   . have hb' : ¬ (b.toNat:Int) = 0:=fun e=>hb (by
      have:b.toNat = 0:=by omega
      exact UInt8.toNat_inj.1 (by rw [this]; rfl))
     rw [show decide ((b.toNat:Int) = 0) = false by simp only [hb', decide_false]]
     conv=>whnf
     have he:escB b = [b]:=by unfold escB; rw [if_neg hb]
     rw [he] at hes;refine .go [0,3] rfl (v.t.length - (j + 1)) (by omega) ⟨j + 1,?_,?_,by omega,rfl⟩
     . show [V.ms 1 1 0 (bs (P ++ b8 v.k :: escL (v.t.take j)) ++ [[V.int .u8 (b.toNat:Int)]]).length false,V.ptr 0 0,fI v.t.length,V.int .i64 (IntKind.i64.wrap ((j:Int) + 1))] = _
       rw [wrapI (n:=(j:Int) + 1) (by omega),hes]; simp [bs]
     . show [O.cells (valC v),O.buf (bs (P ++ b8 v.k :: escL (v.t.take j)) ++ [[V.int .u8 (b.toNat:Int)]])] = _
       rw [hes]; simp [bs]
  have d1' := dfZ d1;have hjt:j = v.t.length:=by omega
  subst hjt;rw [List.take_length] at hel ⊢;refine ⟨Nat.le_refl _,?_⟩
  conv=>whnf
  refine ⟨rfl,?_⟩
  conv=>whnf
  refine ⟨Nat.le_trans (Nat.mul_le_mul_right _ (by rw [laZ,List.length_take,List.drop_zero]; exact Nat.add_le_add (show _ <= 9010000 by simp only [bs_len,laZ,List.length_cons,List.length_nil,List.length_take,List.length_drop]; omega) (Nat.le_trans (Nat.min_le_left _ _) (by decide)))) (show (9010000 + 2) * 1 <= 70368744177664 by omega),?_⟩
  conv=>whnf
  refine ⟨[3],rfl,?_⟩;have e:bs (P ++ b8 v.k :: (escL v.t ++ [0,1])) = bs (P ++ b8 v.k :: escL v.t) ++ [[V.int .u8 0],[V.int .u8 1]]:=by simp [bs]
  rw [e] at h;exact h
set_option maxHeartbeats 8000000 in
set_option maxRecDepth 10000 in
theorem Key_spec {l:List Val} {f:Bool} (hl:l.length <= 1000) (ht:TextsOk l) (h:Q (if l.all mayV then .tup [.str (keyS l),fI 0] else .tup [.str [],fI 1]) []):ACall Tryz.prog 162 0 [.sl 3 (vals l) f] [] Q:=by
 have hlv:=vals_len l;refine by_body Tryz.func162 0 rfl (nbZ rfl) ?_
 conv=>whnf
 refine ⟨⟨[4,7,8,9],fun m ws H=>∃ i:Nat,ws = [.ms 1 0 0 (bs (keyS (l.take i))).length false,.sl 3 (vals l) f,fI l.length,fI i] /\ H = [.buf (bs (keyS (l.take i)))] /\ i <= l.length /\ (∀ v ∈ l.take i,mayV v = true) /\ m = l.length - i,
  .frz (l.length + 1) (.adopt (.sub _ _ (.cons (ms0_row 1 0) (VSubs.refl _)) (HSub.refl _) (.go [0] rfl l.length (by omega) ⟨0,?_,rfl,by omega,by simp,rfl⟩))),?_⟩⟩
 . show [V.ms 1 0 0 0 false,V.sl 3 (vals l) f,fI (vals l).length,fI 0] = _
   rw [hlv]; simp [keyS,bs]
 rintro m ws H ⟨i,rfl,rfl,hi,hm,rfl⟩
 conv=>whnf
 refine branch_i (fun c1=>?_) (fun c1=>?_)<;>try rw [c1]<;>conv=>whnf
 rotate_left
 focus
  have c1' := dfZ c1;have hie:l.take i = l:=List.take_of_length_le (by omega)
  rw [hie] at hm ⊢;rw [if_pos (List.all_eq_true.2 hm)] at h;refine ⟨(by omega:0 + (bs (keyS l)).length <= (bs (keyS l)).length),keyS l,?_,?_⟩
  . show bytesOfEs (List.take (bs (keyS l)).length (List.drop 0 (bs (keyS l)))) = _
    rw [List.drop_zero,List.take_length]; exact bytesOfEs_bs _
  conv=>whnf
  exact ⟨[],rfl,h⟩
 have c1' := dtZ c1;have hlt:i < l.length:=by omega
 have hg:l[i]? = some l[i]:=lgZ hlt;have hvt:=ht l[i] (List.getElem_mem hlt);have hmem:l[i] ∈ l:=List.getElem_mem hlt;generalize l[i] = v at *;have hsn:=keyS_snoc hg;have hP:(keyS (l.take i)).length <= 9000000:=Nat.le_trans (keyS_len fun w hw=>may_text (hm w hw)) (by rw [List.length_take]; omega)
 have htk:l.take (i + 1) = l.take i ++ [v]:=by rw [List.take_add_one,hg]; rfl
 refine ⟨_,⟨by omega,vals_get hg⟩,?_⟩
 conv=>whnf
 refine .pure (VMay_spec hvt ⟨rfl,?_⟩)
 conv=>whnf
 cases hmv:mayV v
 . conv=>whnf
   rw [if_neg (by rw [List.all_eq_true]; intro hx; have:=hx v hmem; rw [hmv] at this; cases this)] at h
   exact ⟨[],rfl,h⟩
 conv=>whnf
 refine .call [0] 0 ⟨rfl,rfl,rfl⟩ (key_spec hP (may_text hmv) ?_);rw [<- hsn]
 conv=>whnf
 refine .go [0] rfl (l.length - (i + 1)) (by omega) ⟨i + 1,?_,rfl,by omega,?_,rfl⟩
 . show [V.ms 1 0 0 (bs (keyS (l.take (i + 1)))).length false,V.sl 3 (vals l) f,fI l.length,V.int .i64 (IntKind.i64.wrap ((i:Int) + 1))] = _
   rw [wrapI (by omega)]; rfl
 . rw [htk];intro w hw;rcases List.mem_append.1 hw with h1 | h1
   . exact hm w h1
   . simp at h1; subst h1; exact hmv
theorem keyOk_may {l:List Col} {keys:Nat} {vs:List Val} (hk:keys <= l.length) (h:keyOkL l keys vs = true):keys <= vs.length /\ (vs.take keys).all mayV = true:=by
 unfold keyOkL at h;rw [Bool.and_eq_true,decide_eq_true_eq,List.all_eq_true] at h;refine ⟨h.1,List.all_eq_true.2 fun v hv=>?_⟩
 obtain ⟨i,hi⟩:=List.mem_iff_getElem?.1 hv;have hlt:=(liZ.1 hi).1;rw [List.length_take] at hlt;rw [List.getElem?_take_of_lt (by omega)] at hi
 have:=h.2 i (List.mem_range.2 (by omega))
 rw [stAt_some (lgZ (show i < l.length by omega)) hi] at this
 unfold standsV at this;rw [Bool.and_eq_true] at this;exact this.1
set_option maxHeartbeats 4000000 in
theorem SKey_spec {l:List Col} {keys:Nat} {vs:List Val} {f:Bool} (hl:l.length <= 1000) (hk:keys <= l.length) (ht:TextsOk vs) (h:Q (keyR l keys vs) []) :
 ACall Tryz.prog 133 0 [sch l keys,.sl 3 (vals vs) f] [] Q:=by
 have hlv:=vals_len vs;refine by_body Tryz.func133 0 rfl (nbZ rfl) ?_
 conv=>whnf
 unfold keyR at h;refine .pure (begins_spec hl hk ht ⟨rfl,?_⟩)
 conv=>whnf
 cases e:keyOkL l keys vs<;>rw [e] at h<;>conv=>whnf
 focus exact ⟨[],rfl,h⟩
 obtain ⟨e1,e2⟩:=keyOk_may hk e;refine ⟨⟨by omega,by omega⟩,?_⟩
 conv=>whnf
 rw [show List.take (keys:Int).toNat (vals vs) = vals (vs.take keys) from vals_take vs keys]
 refine .pure (Key_spec (by rw [List.length_take]; omega) (fun v hv=>ht v (List.mem_of_mem_take hv)) ⟨rfl,?_⟩)
 rw [e2]
 conv=>whnf
 exact ⟨[],rfl,h⟩
end
section
variable {Q:V -> List O -> Prop}
structure TbsB (l:List Tb):Prop where
 ok:TbsOk nameOk mayS l
 few:l.length <= 64
theorem TbsB.cols {l:List Tb} (h:TbsB l):∀ x ∈ l,x.c.length <= 16:=fun x hx=>(may_bd (h.ok.each x hx).sch).2.2.2
theorem findT_in {l:List Tb} {n:List UInt8} {C:List Col} {K:Int} (h:findT l n = some (C,K)):∃ x ∈ l,x.c = C /\ x.k = K:=by
 unfold findT at h;cases ha:atT l n with
 | none=>rw [ha] at h; cases h
 | some j =>
  rw [ha] at h;cases hj:l[j]? with
  | none=>simp only [Option.bind,hj] at h; cases h
  | some x=>simp only [Option.bind,hj] at h; cases h; exact ⟨x,List.mem_of_getElem? hj,rfl,rfl⟩
theorem TbsB.found {l:List Tb} (h:TbsB l) {n:List UInt8} {C:List Col} {K:Int} (hf:findT l n = some (C,K)):mayS C K = true /\ C.length <= 16 /\ ∃ k:Nat,K = k /\ k <= C.length:=by
 obtain ⟨x,hx,rfl,rfl⟩:=findT_in hf;have hm:=(h.ok.each x hx).sch;have:=may_bd hm;exact ⟨hm,this.2.2.2,x.k.toNat,by omega,by omega⟩
structure EvtT (e:Evt):Prop where
 b:TextsOk e.b
 a:TextsOk e.a
 lb:e.b.length < 9223372036854775808
 la:e.a.length < 9223372036854775808
 lc:e.ch.c.length < 9223372036854775808
def rowFit (e:Evt) (C:List Col) (K:Int):Bool:=if e.k = 5 then keyOkL C K.toNat e.b && decide ((e.b.length:Int) = K) else fitsL C e.a
def rowBare (e:Evt):Bool:=if e.k = 5 then decide (e = ⟨e.k,0,e.t,e.b,[],chg0⟩) else decide (e = ⟨e.k,0,e.t,[],e.a,chg0⟩)
def rowE (e:Evt) (l:List Tb):Int:=match findT l e.t with
 | none=>7
 | some (C,K)=>if rowFit e C K = false then 9 else if rowBare e = false then 1 else 0
theorem row_sub5 (k:Int) (t:List UInt8) (b:List Val):VSub (.agg [.int .i64 k,.int .i64 0,.str t,.sl 3 (vals b) false,.nils,.int .i64 0,.str [],.nils,.int .i64 0,.str [],.int .i64 0,.bool false]) (evA ⟨k,0,t,b,[],chg0⟩) :=
 .agg (.cons (.refl _) (.cons (.refl _) (.cons (.refl _) (.cons (.refl _) (.cons (nils_sl3 false) (.cons (.refl _) (.cons (.refl _) (.cons (nils_sl3 false) (VSubs.refl _)))))))))
theorem row_sub (k:Int) (t:List UInt8) (a:List Val):VSub (.agg [.int .i64 k,.int .i64 0,.str t,.nils,.sl 3 (vals a) false,.int .i64 0,.str [],.nils,.int .i64 0,.str [],.int .i64 0,.bool false]) (evA ⟨k,0,t,[],a,chg0⟩) :=
 .agg (.cons (.refl _) (.cons (.refl _) (.cons (.refl _) (.cons (nils_sl3 false) (.cons (.refl _) (.cons (.refl _) (.cons (.refl _) (.cons (nils_sl3 false) (VSubs.refl _)))))))))
set_option maxHeartbeats 16000000 in
theorem EvRow_spec {e:Evt} {l:List Tb} (hl:TbsB l) (he:EvtT e) (h:Q (fI (rowE e l)) []):ACall Tryz.prog 94 0 [evA e,.sl 3 (tbs l) false] [] Q:=by
 refine by_body Tryz.func94 0 rfl (nbZ rfl) ?_
 conv=>whnf
 have hc:=hl.cols;refine .pure (EvFind_spec (by have:=hl.few; omega) hl.ok.sorted (fun x hx=>by have:=hc x hx; omega) ⟨rfl,?_⟩)
 unfold rowE at h;unfold findR;cases hf:findT l e.t with
 | none =>
  rw [hf] at h
  conv=>whnf
  change Q (fI 7) [] at h
  refine branch_i (fun k5=>?_) (fun k5=>?_)<;>try rw [k5]<;>conv=>whnf
  . refine .pure (SKey_spec (l:=[]) (keys:=0) (vs:=e.b) (by decide) (by decide) he.b ⟨rfl,?_⟩)
    unfold keyR;rw [show keyOkL [] 0 e.b = true by unfold keyOkL; simp]
    conv=>whnf
    exact ⟨[],rfl,h⟩
  . exact ⟨[],rfl,h⟩
 | some o =>
  obtain ⟨C,K⟩:=o;rw [hf] at h;obtain ⟨hm,hC,k,rfl,hk⟩:=hl.found hf
  change Q (fI (if rowFit e C k = false then 9 else if rowBare e = false then 1 else 0)) [] at h
  conv=>whnf
  refine .pure (Fits_spec (l:=C) (keys:=(k:Int)) (vs:=e.a) (by omega) he.a ⟨rfl,?_⟩)
  conv=>whnf
  refine branch_i (fun k5=>?_) (fun k5=>?_)<;>try rw [k5]<;>conv=>whnf
  . have k5' : e.k = 5:=dtZ k5;have hF:rowFit e C k = (keyOkL C k e.b && decide ((e.b.length:Int) = (k:Int))):=by unfold rowFit; rw [if_pos k5']; rfl
    have hB:rowBare e = decide (e = ⟨e.k,0,e.t,e.b,[],chg0⟩):=by unfold rowBare; rw [if_pos k5']
    refine .pure (SKey_spec (l:=C) (keys:=k) (vs:=e.b) (by omega) hk he.b ⟨rfl,?_⟩)
    unfold keyR;cases hko:keyOkL C k e.b<;>rw [hko] at hF<;>conv=>whnf
    . rw [hF] at h;exact ⟨[],rfl,h⟩
    rw [show (((vals e.b).length:Nat):Int) = (e.b.length:Int) by rw [vals_len]]
    cases k6:decide ((e.b.length:Int) = (k:Int))<;>rw [k6] at hF<;>conv=>whnf
    . rw [hF] at h;exact ⟨[],rfl,h⟩
    rw [hF,if_neg (by simp)] at h
    refine .pure (ACall.args (.cons (.refl _) (.cons (row_sub5 _ _ _) (VSubs.refl _))) (EvSame_spec (a:=e) (b:=⟨e.k,0,e.t,e.b,[],chg0⟩) he.lb he.la he.lc ⟨rfl,?_⟩));rw [<- hB];cases hb:rowBare e<;>rw [hb] at h<;>conv=>whnf
    . exact ⟨[],rfl,h⟩
    . exact ⟨[],rfl,h⟩
  . have k5' : ¬ e.k = 5:=dfZ k5;have hF:rowFit e C k = fitsL C e.a:=by unfold rowFit; rw [if_neg k5']
    have hB:rowBare e = decide (e = ⟨e.k,0,e.t,[],e.a,chg0⟩):=by unfold rowBare; rw [if_neg k5']
    rw [hF] at h;cases hfi:fitsL C e.a<;>rw [hfi] at h<;>conv=>whnf
    . exact ⟨[],rfl,h⟩
    rw [if_neg (by simp)] at h
    refine .pure (ACall.args (.cons (.refl _) (.cons (row_sub _ _ _) (VSubs.refl _))) (EvSame_spec (a:=e) (b:=⟨e.k,0,e.t,[],e.a,chg0⟩) he.lb he.la he.lc ⟨rfl,?_⟩));rw [<- hB];cases hb:rowBare e<;>rw [hb] at h<;>conv=>whnf
    . exact ⟨[],rfl,h⟩
    . exact ⟨[],rfl,h⟩
def bare6 (e:Evt):Bool:=decide (e = ⟨e.k,0,[],[],[],e.ch⟩)
def bareN (e:Evt):Bool:=decide (e = ⟨e.k,e.n,[],[],[],chg0⟩)
def mayE (e:Evt) (l:List Tb):Int :=
 if rowK e.k then rowE e l
 else if e.k = 6 then (if chgE e.ch ≠ 0 then chgE e.ch else if decide (e.n < 0) || !bare6 e then 1 else 0)
 else if numK e.k then (if decide (e.n < 0) || !bareN e then 1 else 0) else 5
theorem may_sub6 (k n:Int) (c:Chg):VSub (.agg [.int .i64 k,.int .i64 n,.str [],.nils,.nils,.int .i64 c.k,.str c.t,.sl 3 (cols c.c) false,.int .i64 c.ks,.str c.col.n,.int .i64 c.col.k,.bool c.col.o]) (evA ⟨k,n,[],[],[],c⟩) :=
 .agg (.cons (.refl _) (.cons (.refl _) (.cons (.refl _) (.cons (nils_sl3 false) (.cons (nils_sl3 false) (VSubs.refl _))))))
theorem may_subN (k n:Int):VSub (.agg [.int .i64 k,.int .i64 n,.str [],.nils,.nils,.int .i64 0,.str [],.nils,.int .i64 0,.str [],.int .i64 0,.bool false]) (evA ⟨k,n,[],[],[],chg0⟩) :=
 .agg (.cons (.refl _) (.cons (.refl _) (.cons (.refl _) (.cons (nils_sl3 false) (.cons (nils_sl3 false) (.cons (.refl _) (.cons (.refl _) (.cons (nils_sl3 false) (VSubs.refl _)))))))))
set_option maxHeartbeats 16000000 in
theorem EvMay_spec {e:Evt} {l:List Tb} (hl:TbsB l) (he:EvtT e) (h:Q (fI (mayE e l)) []):ACall Tryz.prog 57 0 [evA e,.sl 3 (tbs l) false] [] Q:=by
 refine by_body Tryz.func57 0 rfl (nbZ rfl) ?_
 conv=>whnf
 unfold mayE at h;refine .pure (rowed_spec ⟨rfl,?_⟩)
 conv=>whnf
 cases hr:rowK e.k<;>rw [hr] at h<;>conv=>whnf
 rotate_left
 . refine .pure (EvRow_spec hl he ⟨rfl,?_⟩)
   conv=>whnf
   exact ⟨[],rfl,h⟩
 rw [if_neg (by simp)] at h
 refine branch_i (fun k6=>?_) (fun k6=>?_)<;>try rw [k6]<;>conv=>whnf
 . rw [if_pos (dtZ k6)] at h;refine .pure (EvChange_spec (c:=e.ch) he.lc ⟨rfl,?_⟩)
   conv=>whnf
   refine branch_i (fun k0=>?_) (fun k0=>?_)<;>try rw [k0]<;>conv=>whnf
   . rw [if_pos (by simpa using k0)] at h
     exact ⟨[],rfl,h⟩
   . rw [if_neg (by simpa using k0)] at h
     refine ⟨List.range 6,by kernel_rfl,by kernel_rfl,?_⟩
     repeat (conv=>whnf
             refine ⟨rfl,?_⟩)
     conv=>whnf
     refine branch_i (fun kn=>?_) (fun kn=>?_)<;>rw [kn] at h<;>try rw [kn]<;>conv=>whnf
     . exact ⟨[],rfl,h⟩
     refine .pure (ACall.args (.cons (.refl _) (.cons (may_sub6 _ _ _) (VSubs.refl _))) (EvSame_spec (a:=e) (b:=⟨e.k,0,[],[],[],e.ch⟩) he.lb he.la he.lc ⟨rfl,?_⟩))
     change Q (fI (if (false || !decide (e = ⟨e.k,0,[],[],[],e.ch⟩)) = true then 1 else 0)) [] at h
     cases hb:decide (e = ⟨e.k,0,[],[],[],e.ch⟩)<;>rw [hb] at h<;>conv=>whnf
     . exact ⟨[],rfl,h⟩
     . exact ⟨[],rfl,h⟩
 . rw [if_neg (dfZ k6)] at h;refine .pure (numbered_spec ⟨rfl,?_⟩)
   conv=>whnf
   cases hn:numK e.k<;>rw [hn] at h<;>conv=>whnf
   . exact ⟨[],rfl,h⟩
   rw [if_pos rfl] at h;refine branch_i (fun kn=>?_) (fun kn=>?_)<;>rw [kn] at h<;>try rw [kn]<;>conv=>whnf
   . exact ⟨[],rfl,h⟩
   refine .pure (ACall.args (.cons (.refl _) (.cons (may_subN _ _) (VSubs.refl _))) (EvSame_spec (a:=e) (b:=⟨e.k,e.n,[],[],[],chg0⟩) he.lb he.la he.lc ⟨rfl,?_⟩))
   change Q (fI (if (false || !decide (e = ⟨e.k,e.n,[],[],[],chg0⟩)) = true then 1 else 0)) [] at h
   cases hb:decide (e = ⟨e.k,e.n,[],[],[],chg0⟩)<;>rw [hb] at h<;>conv=>whnf
   . exact ⟨[],rfl,h⟩
   . exact ⟨[],rfl,h⟩
end
section
variable {Q:V -> List O -> Prop}
theorem rowBare5 {e:Evt} (hk:e.k = 5):rowBare e = (decide (e.ch = chg0) && (decide (e.a.length = 0) && decide (e.n = 0))):=by
 unfold rowBare; rw [if_pos hk];obtain ⟨k,n,t,b,a,ch⟩:=e;simp [Bool.and_comm,Bool.and_assoc,Bool.and_left_comm]
theorem rowBare3 {e:Evt} (hk:¬ e.k = 5):rowBare e = (decide (e.ch = chg0) && (decide (e.b.length = 0) && decide (e.n = 0))):=by
 unfold rowBare; rw [if_neg hk];obtain ⟨k,n,t,b,a,ch⟩:=e;simp [Bool.and_comm,Bool.and_assoc,Bool.and_left_comm]
theorem bare6_eq (e:Evt):bare6 e = (decide (e.n = 0) && (decide (e.t = []) && (decide (e.b.length = 0) && decide (e.a.length = 0)))):=by
 unfold bare6;obtain ⟨k,n,t,b,a,ch⟩:=e;simp
theorem bareN_eq (e:Evt):bareN e = (decide (e.t = []) && (decide (e.b.length = 0) && (decide (e.a.length = 0) && decide (e.ch = chg0)))):=by
 unfold bareN;obtain ⟨k,n,t,b,a,ch⟩:=e;simp
theorem chg0_sub:VSub (.agg [.int .i64 0,.str [],.nils,.int .i64 0,.str [],.int .i64 0,.bool false]) (chA chg0) :=
 .agg (.cons (.refl _) (.cons (.refl _) (.cons (nils_sl3 false) (VSubs.refl _))))
set_option maxHeartbeats 32000000 in
theorem EvRMay_spec {e:Evt} {l:List Tb} (hl:TbsB l) (he:EvtT e) (h:Q (fI (mayE e l)) []):ACall Tryz.prog 53 0 [evA e,.sl 3 (tbs l) false] [] Q:=by
 refine by_body Tryz.func53 0 rfl (nbZ rfl) ?_
 conv=>whnf
 refine .pure (ACall.args (.cons (.refl _) (.cons chg0_sub (VSubs.refl _))) (Rchange_spec (a:=e.ch) (b:=chg0) he.lc ⟨rfl,?_⟩))
 conv=>whnf
 have hlb:=vals_len e.b;have hla:=vals_len e.a;refine branch_i (fun k3=>?_) (fun k3=>?_)<;>try rw [k3]<;>conv=>whnf
 rotate_left
 focus
  refine branch_i (fun k4=>?_) (fun k4=>?_)<;>try rw [k4]<;>conv=>whnf
 rotate_left
 focus
  refine branch_i (fun k5=>?_) (fun k5=>?_)<;>try rw [k5]<;>conv=>whnf
 rotate_left
 . have kr:rowK e.k = false:=by unfold rowK; rw [k3,k4,k5]; rfl
   unfold mayE at h;rw [kr,if_neg (by simp)] at h
   refine branch_i (fun k6=>?_) (fun k6=>?_)<;>try rw [k6]<;>conv=>whnf
   . rw [if_pos (dtZ k6),bare6_eq] at h;refine .pure (Raltered_spec (c:=e.ch) ⟨rfl,?_⟩)
     conv=>whnf
     refine branch_i (fun k0=>?_) (fun k0=>?_)<;>try rw [k0]<;>conv=>whnf
     . rw [if_pos (by simpa using k0)] at h
       exact ⟨[],rfl,h⟩
     . rw [if_neg (by simpa using k0)] at h
       rw [<- hlb,<- hla] at h
       repeat' (refine branch_i (fun e=>?_) (fun e=>?_)<;>try rw [e]<;>conv=>whnf)
       all_goals
        refine ⟨[],rfl,qiE h ?_⟩
        simp_all [List.length_pos_iff]
   . rw [if_neg (dfZ k6),bareN_eq] at h;unfold numK at h;rw [<- hlb,<- hla] at h
     repeat' (refine branch_i (fun e=>?_) (fun e=>?_)<;>try rw [e]<;>conv=>whnf)
     all_goals
      refine ⟨[],rfl,qiE h ?_⟩
      simp_all [List.length_pos_iff]
 all_goals
  have kr:rowK e.k = true:=by unfold rowK; simp_all
  unfold mayE rowE at h;rw [if_pos kr] at h;refine .pure (EvRFind_spec (by have:=hl.few; omega) ⟨rfl,?_⟩)
  unfold findR;cases hf:findT l e.t with
  | none =>
   rw [hf] at h
   change Q (fI 7) [] at h
   conv=>whnf
   exact ⟨[],rfl,h⟩
  | some o =>
   obtain ⟨C,K⟩:=o;rw [hf] at h;obtain ⟨hm,hC,k,rfl,hk⟩:=hl.found hf
   change Q (fI (if rowFit e C k = false then 9 else if rowBare e = false then 1 else 0)) [] at h
   conv=>whnf
   refine .pure (RFits_spec (l:=C) (keys:=(k:Int)) (vs:=e.a) (by omega) he.a ⟨rfl,?_⟩)
   conv=>whnf
   refine branch_i (fun j5=>?_) (fun j5=>?_)<;>try rw [j5]<;>conv=>whnf
   . have k5' : e.k = 5:=dtZ j5;have hF:rowFit e C k = (keyOkL C k e.b && decide ((e.b.length:Int) = (k:Int))):=by unfold rowFit; rw [if_pos k5']; rfl
     rw [hF,rowBare5 k5', <- hla,<- hlb] at h;refine .pure (RKey_spec (l:=C) (keys:=k) (vs:=e.b) (by omega) hk he.b ⟨rfl,?_⟩)
     unfold keyR;cases hko:keyOkL C k e.b<;>rw [hko] at h<;>conv=>whnf
     . exact ⟨[],rfl,h⟩
     repeat' (refine branch_i (fun e=>?_) (fun e=>?_)<;>try rw [e]<;>conv=>whnf)
     all_goals
      refine ⟨[],rfl,qiE h ?_⟩
      simp_all [List.length_pos_iff]
   . have k5' : ¬ e.k = 5:=dfZ j5;have hF:rowFit e C k = fitsL C e.a:=by unfold rowFit; rw [if_neg k5']
     rw [hF,rowBare3 k5', <- hlb] at h;cases hfi:fitsL C e.a<;>rw [hfi] at h<;>conv=>whnf
     . exact ⟨[],rfl,h⟩
     repeat' (refine branch_i (fun e=>?_) (fun e=>?_)<;>try rw [e]<;>conv=>whnf)
     all_goals
      refine ⟨[],rfl,qiE h ?_⟩
      simp_all [List.length_pos_iff]
end
section
variable {Q:V -> List O -> Prop}
theorem goodV_text (v:Val):(goodV v).t.length <= 40:=by
 have:=text40_len v.t;unfold goodV
 repeat' split
 all_goals simp only
 all_goals first | (simp only [List.length_nil]; omega) | omega
theorem rowV_text (c:Col) (v:Val):(rowV c v).t.length <= 40:=by
 unfold rowV;split
 . simp [val0]
 . exact goodV_text _
theorem row_mem {l:List Col} {vs:List Val} {v:Val} (h:v ∈ rowL l vs):∃ (i:Nat) (c:Col),l[i]? = some c /\ v = rowV c (vs.getD i val0):=by
 obtain ⟨i,hi⟩:=List.mem_iff_getElem?.1 h;have hlt:=(liZ.1 hi).1;rw [rowL_len] at hlt;have hc:l[i]? = some l[i]:=lgZ hlt;rw [rowL_get l vs hc] at hi;cases hi;exact ⟨i,l[i],hc,rfl⟩
theorem row_texts (l:List Col) (vs:List Val):∀ v ∈ rowL l vs,v.t.length <= 40:=fun v hv=>by
 obtain ⟨i,c,_,rfl⟩:=row_mem hv;exact rowV_text _ _
theorem take_erase {α:Type} {l:List α} {n i:Nat} (h:n <= i):(l.eraseIdx i).take n = l.take n:=by
 refine List.ext_getElem? fun j=>?_
 rw [List.getElem?_take,List.getElem?_take];by_cases hj:j < n
 . rw [if_pos hj,if_pos hj,List.getElem?_eraseIdx,if_pos (by omega)]
 . rw [if_neg hj,if_neg hj]
structure Turned (l:List Col) (keys:Int) (k:Int) (c:Col) (r:List Val):Prop where
 can:CanTurn l k c r.length
 keyed:(applyS l keys k c).2.1 = keys
 fits:fitsL (applyS l keys k c).1 (turnS l k c r) = true
 same:(turnS l k c r).take keys.toNat = r.take keys.toNat
 len:keys.toNat <= (turnS l k c r).length
 stand:standN (applyS l keys k c).1 (turnS l k c r) keys.toNat
theorem stands_null {c:Col} (h:c.o = true):standsV c val0 = true:=by
 unfold standsV mayV val0; simp [h]
theorem turned {l:List Col} {keys k:Int} {c:Col} {r:List Val} (hs:SchOk l keys) (hr:r.length = l.length) (hf:∀ (i:Nat) (c:Col) (v:Val),l[i]? = some c -> r[i]? = some v -> standsV c v = true)
 (he:(applyS l keys k c).2.2 = 0):Turned l keys k c r:=by
 have h1:=hs.lo; have h2:=hs.len;have hfl:=fnd_lt (name:=c.n) (l:=l) (i:=0)
 have mk:∀ (l' : List Col),(applyS l keys k c) = (l', keys,0) -> CanTurn l k c r.length -> (turnS l k c r).length = l'.length -> keys <= l'.length -> (turnS l k c r).take keys.toNat = r.take keys.toNat ->
  (∀ (i:Nat) (c' : Col) (v:Val),l'[i]? = some c' -> (turnS l k c r)[i]? = some v -> standsV c' v = true) -> Turned l keys k c r:=by
  intro l' e hc hl hk hsame hst;refine ⟨hc,by rw [e],by rw [e]; exact fits_yes hl hst,hsame,by omega,fun i c' v _ hc' hv=>?_⟩
  rw [e] at hc';exact hst i c' v hc' hv
 unfold applyS at he;by_cases k3:k = 3
 . subst k3;rw [if_pos rfl] at he;have e:applyS l keys 3 c = addS l keys c:=by unfold applyS; rw [if_pos rfl]
   have et:turnS l 3 c r = r ++ [val0]:=by unfold turnS; rw [if_pos rfl]
   have ea:addS l keys c = (l ++ [c],keys,0) /\ c.o = true:=by
    unfold addS at he ⊢;by_cases g1:(nameOk c.n && kindOk c.k && c.o) = true
    rotate_left
    . rw [if_neg g1] at he; simp at he
    rw [if_pos g1] at he ⊢;by_cases g2:0 <= fnd c.n l 0
    . rw [if_pos g2] at he; simp at he
    rw [if_neg g2] at he ⊢;by_cases g3:l.length = 16
    . rw [if_pos g3] at he; simp at he
    rw [if_neg g3];simp only [Bool.and_eq_true] at g1;exact ⟨rfl,g1.2⟩
   refine mk (l ++ [c]) (by rw [e,ea.1]) (.inl rfl) (by rw [et]; simp [hr]) (by simp; omega) (by rw [et,List.take_append_of_le_length (by omega)]) fun i c' v hc' hv=>?_
   rw [et] at hv;rcases Nat.lt_or_ge i l.length with hi | hi
   . rw [List.getElem?_append_left hi] at hc';rw [List.getElem?_append_left (by omega)] at hv
     exact hf i c' v hc' hv
   . rw [List.getElem?_append_right hi] at hc';rw [List.getElem?_append_right (by omega)] at hv
     have:i - l.length = 0:=by
      have:=(liZ.1 hc').1;simp at this; omega
     rw [this] at hc';rw [show i - r.length = 0 by omega] at hv
     simp at hc' hv;subst hc'; subst hv;exact stands_null ea.2
 rw [if_neg k3] at he;by_cases k4:k = 4
 . subst k4;rw [if_pos rfl] at he;have e:applyS l keys 4 c = cutS l keys c:=by unfold applyS; rw [if_neg (by decide),if_pos rfl]
   have et:turnS l 4 c r = r.eraseIdx (fnd c.n l 0).toNat:=by unfold turnS; rw [if_neg (by decide),if_pos rfl]
   unfold cutS at he;by_cases g1:fnd c.n l 0 < 0
   . rw [if_pos g1] at he; simp at he
   rw [if_neg g1] at he;by_cases g2:fnd c.n l 0 < keys
   . rw [if_pos g2] at he; simp at he
   have ea:cutS l keys c = (l.eraseIdx (fnd c.n l 0).toNat,keys,0):=by unfold cutS; rw [if_neg g1,if_neg g2]
   have hlt:(fnd c.n l 0).toNat < l.length:=by omega
   refine mk _ (by rw [e,ea]) (.inr ⟨.inl rfl,by omega,by omega⟩) (by rw [et,List.length_eraseIdx,List.length_eraseIdx,if_pos hlt,if_pos (by omega),hr]) (by rw [List.length_eraseIdx,if_pos hlt]; omega) (by rw [et,take_erase (by omega)]) fun i c' v hc' hv=>?_
   rw [et] at hv;rw [List.getElem?_eraseIdx] at hc' hv;by_cases hi:i < (fnd c.n l 0).toNat
   . rw [if_pos hi] at hc' hv; exact hf i c' v hc' hv
   . rw [if_neg hi] at hc' hv; exact hf (i + 1) c' v hc' hv
 rw [if_neg k4] at he;by_cases k5:k = 5
 rotate_left
 . rw [if_neg k5] at he; simp at he
 subst k5;rw [if_pos rfl] at he;have e:applyS l keys 5 c = retS l keys c:=by unfold applyS; rw [if_neg (by decide),if_neg (by decide),if_pos rfl]
 have et:turnS l 5 c r = r.set (fnd c.n l 0).toNat val0:=by unfold turnS; rw [if_neg (by decide),if_neg (by decide),if_pos rfl]
 unfold retS at he;by_cases g1:fnd c.n l 0 < 0
 . rw [if_pos g1] at he; simp at he
 rw [if_neg g1] at he;by_cases g2:fnd c.n l 0 < keys
 . rw [if_pos g2] at he; simp at he
 rw [if_neg g2] at he;by_cases g3:((l[(fnd c.n l 0).toNat]?).map Col.o).getD false = false
 . rw [if_pos g3] at he; simp at he
 rw [if_neg g3] at he;by_cases g4:kindOk c.k = true
 rotate_left
 . rw [if_neg g4] at he; simp at he
 have ea:retS l keys c = (setKind l (fnd c.n l 0).toNat c.k,keys,0):=by unfold retS; rw [if_neg g1,if_neg g2,if_neg g3,if_pos g4]
 have hlt:(fnd c.n l 0).toNat < l.length:=by omega
 refine mk _ (by rw [e,ea]) (.inr ⟨.inr rfl,by omega,by omega⟩) (by rw [et,List.length_set,setKind_len,hr]) (by rw [setKind_len]; omega) (by rw [et,List.take_set_of_le (by omega)]) fun i c' v hc' hv=>?_
 rw [et,List.getElem?_set] at hv;rw [setKind,List.getElem?_modify] at hc';generalize (fnd c.n l 0).toNat = p at *;cases hx:l[i]? with
 | none=>rw [hx] at hc'; simp at hc'
 | some d =>
  rw [hx] at hc';by_cases hi:p = i
  . subst hi;rw [if_pos rfl,if_pos (by omega)] at hv
    simp at hc' hv;subst hc'; subst hv;rw [hx] at g3;refine stands_null ?_;simp at g3;exact g3
  . rw [if_neg hi] at hv;simp [hi] at hc';subst hc';exact hf i d v hx hv
theorem kinds_ok {l:List Col} {keys:Int} (h:SchOk l keys):∀ c ∈ l,1 <= c.k /\ c.k <= 4:=fun c hc=>by
 have:=(h.cols c hc).2;unfold kindOk at this;simp at this;exact this
theorem kinds_i64 {l:List Col} {keys:Int} (h:SchOk l keys):∀ c ∈ l,-9223372036854775808 <= c.k /\ c.k <= 9223372036854775807:=fun c hc=>by
 have:=kinds_ok h c hc; omega
end
section
variable {Q:V -> List O -> Prop}
theorem textsOk_row (l:List Col) (vs:List Val):TextsOk (rowL l vs):=fun v hv=>by have:=row_texts l vs v hv; omega
theorem textsOk_nil:TextsOk []:=fun v hv=>by cases hv
theorem evt0 (k n:Int) (t:List UInt8):EvtT ⟨k,n,t,[],[],chg0⟩:=⟨textsOk_nil,textsOk_nil,by show 0 < 9223372036854775808; decide,by show 0 < 9223372036854775808; decide,by show 0 < 9223372036854775808; decide⟩
theorem evt6 (k n:Int) {c:Chg} (hc:c.c.length < 9223372036854775808):EvtT ⟨k,n,[],[],[],c⟩:=⟨textsOk_nil,textsOk_nil,by show 0 < 9223372036854775808; decide,by show 0 < 9223372036854775808; decide,hc⟩
end
section
variable {Q:V -> List O -> Prop}
theorem WriteI_spec {l:List UInt8} {f:Bool} {C:List Col} {K:Int} {r:List Val} (hl0:l ≠ []) (hr0:r ≠ []) (hr:RwB r) (hl:l.length <= 1000000) (h:Q (.ms 1 0 0 (l ++ rowW r).length false) [.buf (bs (l ++ rowW r))]) :
 ACall Tryz.prog 81 0 [.sl 1 (bs l) f,sch C K,.sl 3 (vals r) false] [] Q:=by
 refine by_body Tryz.func81 0 rfl (nbZ rfl) ?_
 conv=>whnf
 refine .call [] 0 ⟨rfl,rfl,rfl⟩ (put_img hl0 hr0 hr hl ?_)
 conv=>whnf
 exact ⟨[1],rfl,h⟩
theorem WriteKeyI_spec {l:List UInt8} {f:Bool} {C:List Col} {k:Nat} {r:List Val} (hk:r.length = k) (hl0:l ≠ []) (hr0:r ≠ []) (hr:RwB r) (hl:l.length <= 1000000) (h:Q (.ms 1 0 0 (l ++ rowW r).length false) [.buf (bs (l ++ rowW r))]) :
 ACall Tryz.prog 78 0 [.sl 1 (bs l) f,sch C k,.sl 3 (vals r) false] [] Q:=by
 refine by_body Tryz.func78 0 rfl (nbZ rfl) ?_;have hlv:=vals_len r
 conv=>whnf
 refine ⟨⟨by omega,by omega⟩,?_⟩
 rw [show List.take (k:Int).toNat (vals r) = vals r by rw [Int.toNat_natCast,List.take_of_length_le (by omega)]]
 conv=>whnf
 refine .call [] 0 ⟨rfl,rfl,rfl⟩ (put_img hl0 hr0 hr hl ?_)
 conv=>whnf
 exact ⟨[1],rfl,h⟩
theorem app_b2 {i j n:Nat} {k:Int} {x:UInt8} {c:Int} {f:Bool} {X:List UInt8} {H:List O} {K:V -> List O -> Prop} (hij:Nat.beq i j = false) (hX:getO H i = .buf (bs X)) (hn:n = X.length) (hc:c = (x.toNat:Int)) (hs:X.length <= 1000000000)
 (hK:copyH (setO H i .dead ++ [.buf (bs (X ++ [b8 k,x]))]) fun H' => K (.ms 1 (setO H i .dead).length 0 (X ++ [b8 k,x]).length false) H') :
 0 + 2 <= 2 /\ aapp 1 1 (.ms 1 i 0 n false) (.ms 1 j 0 2 f) [[.int .u8 (IntKind.u8.wrap k)],[.int .u8 c]] H K:=by
 subst hn;subst hc;refine ⟨Nat.le_refl 2,?_⟩;unfold aapp sameBuf;simp only [hij];unfold aappend;simp only [show Nat.beq 1 1 = true from rfl,hX,List.drop_zero]
 refine ⟨by rw [bs_len]; rfl,?_⟩
 rw [show bs X ++ [[V.int .u8 (IntKind.u8.wrap k)],[V.int .u8 (x.toNat:Int)]] = bs (X ++ [b8 k,x]) by rw [bs_app,b8_wrap]; rfl]
 unfold newBuf;rw [bs_len];exact ⟨by rw [laZ]; simp only [List.length_cons,List.length_nil]; omega,hK⟩
set_option maxHeartbeats 4000000 in
theorem putColumn_spec {l:List UInt8} {f:Bool} {c:Col} (hc:c.n.length <= 4096) (hl:l.length <= 100000000) (h:Q (.ms 1 0 0 (l ++ colW c).length false) [.buf (bs (l ++ colW c))]) :
 ACall Tryz.prog 119 0 [.sl 1 (bs l) f,.agg [.str c.n,.int .i64 c.k,.bool c.o]] [] Q:=by
 refine by_body Tryz.func119 0 rfl (nbZ rfl) ?_;have htl:=txtW_len c.n
 conv=>whnf
 cases ho:c.o<;>conv=>whnf
 focus
  have e:l ++ colW c = l ++ txtW c.n ++ [b8 c.k,0]:=by unfold colW; rw [ho,List.append_assoc]; rfl
  rw [e] at h;refine ⟨[0,1,2,4,5,6,7,3,8,9,10],by kernel_rfl,by kernel_rfl,?_⟩
  conv=>whnf
  refine .call [] 0 ⟨rfl,rfl,rfl⟩ (WText_spec (l:=l) (f:=f) (s:=c.n) (by omega) (by omega) ?_)
  repeat (conv=>whnf
          refine ⟨rfl,?_⟩)
  conv=>whnf
  refine app_b2 (X:=l ++ txtW c.n) (k:=c.k) (x:=0) rfl rfl rfl rfl (by rw [laZ]; omega) ?_
  repeat (conv=>whnf
          refine ⟨rfl,?_⟩)
  conv=>whnf
  exact ⟨[3],rfl,h⟩
 focus
  have e:l ++ colW c = l ++ txtW c.n ++ [b8 c.k,1]:=by unfold colW; rw [ho,List.append_assoc]; rfl
  rw [e] at h;refine ⟨[0,1,2,4,5,6,7,3,8,9,10],by kernel_rfl,by kernel_rfl,?_⟩
  conv=>whnf
  refine .call [] 0 ⟨rfl,rfl,rfl⟩ (WText_spec (l:=l) (f:=f) (s:=c.n) (by omega) (by omega) ?_)
  repeat (conv=>whnf
          refine ⟨rfl,?_⟩)
  conv=>whnf
  refine app_b2 (X:=l ++ txtW c.n) (k:=c.k) (x:=1) rfl rfl rfl rfl (by rw [laZ]; omega) ?_
  repeat (conv=>whnf
          refine ⟨rfl,?_⟩)
  conv=>whnf
  exact ⟨[3],rfl,h⟩
theorem app_sl1 {X:List UInt8} (hX:X ≠ []) {j:Nat} {k:Int} {f:Bool} {H:List O} {K:V -> List O -> Prop} (hs:X.length <= 1000000000)
 (hK:copyH (H ++ [.buf (bs (X ++ [b8 k]))]) fun H' => K (.ms 1 H.length 0 (X ++ [b8 k]).length false) H') :
 0 + 1 <= 1 /\ aapp 1 1 (.sl 1 (bs X) true) (.ms 1 j 0 1 f) [[.int .u8 (IntKind.u8.wrap k)]] H K:=by
 refine ⟨Nat.le_refl 1,?_⟩;cases X with
 | nil=>exact absurd rfl hX
 | cons x r =>
  have e:bs (x :: r) ++ [[V.int .u8 (IntKind.u8.wrap k)]] = bs (x :: r ++ [b8 k]):=by rw [b8_wrap,bs_app]; rfl
  have ne:bs (x :: r) ≠ []:=fun e=>nomatch e
  unfold aapp sameBuf aappend;simp only [show Nat.beq 1 1 = true from rfl]
  rw [e];unfold newBuf;rw [bs_len];exact ⟨(fun e=>nomatch e),fun _=>⟨by rw [laZ,List.length_singleton]; omega,hK⟩⟩
theorem ACall.eatA {P:Program} {f:FuncId} {z:Nat} {es:List (List V)} {full:Bool} {vs:List V} {len:Nat} {Q:V -> List O -> Prop} (hlen:len = es.length) (hm:msL 0 vs = []) (hf:(frzL 0 (.buf es) vs).map (renV (idx [])) = vs)
 (h:ACall P f 0 (.sl z es full :: vs) [] fun r H' => Q (renV (outH 0 1) r) (weave 0 H' [.dead])):ACall P f 1 (.ms z 0 0 len full :: vs) [.buf es] Q:=by
 subst hlen;refine ACall.stay 1 rfl (ACall.frzIn 0 rfl ?_ (ACall.selIn [] rfl ?_))
 . show msLe es.length (msL 0 (.ms z 0 0 es.length full :: vs) ++ ([] ++ ([] ++ [])))
   simp only [msL,msV,Nat.beq_refl,hm,List.append_nil,msLe];exact ⟨by omega,trivial⟩
 . have e:(frzL 0 (getO [O.buf es] 0) (.ms z 0 0 es.length full :: vs)).map (renV (idx [])) = .sl z es full :: vs:=by
    show (frzV 0 (.buf es) (.ms z 0 0 es.length full) :: frzL 0 (.buf es) vs).map (renV (idx [])) = _
    rw [frz_ms_eq,List.map_cons,hf]; rfl
   rw [e]; exact h
set_option maxHeartbeats 8000000 in
theorem putChange_spec {l:List UInt8} {c:Chg} (hl0:l ≠ []) (hc:ChB c) (hl:l.length <= 1000) (h:Q (.ms 1 0 0 (l ++ chgW c).length false) [.buf (bs (l ++ chgW c))]) :
 ACall Tryz.prog 77 0 [.sl 1 (bs l) true,chA c] [] Q:=by
 refine by_body Tryz.func77 0 rfl (nbZ rfl) ?_;have hll:=bs_len l;have htl:=txtW_len c.t;have hct:=hc.t
 conv=>whnf
 refine ⟨[0,1,2,3,6,7,4,5,8,9],by kernel_rfl,by kernel_rfl,?_⟩
 conv=>whnf
 repeat (refine ⟨rfl,?_⟩
         conv=>whnf)
 refine app_sl1 (X:=l) (k:=c.k) hl0 (by omega) ?_
 repeat (conv=>whnf
         refine ⟨rfl,?_⟩)
 conv=>whnf
 refine .call [2] 1 ⟨rfl,rfl,rfl⟩ (ACall.eat (bs_len _).symm rfl (WText_spec (l:=l ++ [b8 c.k]) (f:=false) (s:=c.t) (by omega) (by rw [laZ,List.length_singleton]; omega) ?_))
 repeat (conv=>whnf
         refine ⟨rfl,?_⟩)
 conv=>whnf
 have hX1:(l ++ [b8 c.k] ++ txtW c.t).length <= 10000:=by rw [laZ,laZ,List.length_singleton]; omega
 obtain ⟨X1,eX1⟩:∃ X1,X1 = l ++ [b8 c.k] ++ txtW c.t:=⟨_,rfl⟩;rw [<- eX1] at hX1 ⊢;have hR:∀ w,chgW c = b8 c.k :: (txtW c.t ++ w) -> X1 ++ w = l ++ chgW c:=fun w e=>by rw [e,eX1]; simp
 refine branch_i (fun k1=>?_) (fun k1=>?_)<;>try rw [k1]<;>conv=>whnf
 focus
  have k1' := dtZ k1;have hcl:=cols_len c.c;have hfew:=hc.few;refine app_b2 (X:=X1) (k:=c.ks) (x:=b8 c.c.length) rfl rfl rfl (by rw [<- b8_wrap,<- hcl]) (by omega) ?_
  conv=>whnf
  rw [hcl];obtain ⟨X2,eX2⟩:∃ X2,X2 = X1 ++ [b8 c.ks,b8 c.c.length]:=⟨_,rfl⟩;have hX2:X2.length <= 10002:=by rw [eX2,laZ]; simp only [List.length_cons,List.length_nil]; omega
  rw [<- eX2];refine ⟨⟨[0,34,35,36],fun mm ws H=>∃ (i:Nat) (X:List UInt8),ws = [.ms 1 0 0 X.length false,.sl 3 (cols c.c) false,fI c.c.length,fI i] /\ H = [.buf (bs X)] /\ X = X2 ++ (c.c.take i).flatMap colW /\ i <= c.c.length /\ mm = c.c.length - i,
   .frz (c.c.length + 1) (.go [5] rfl c.c.length (by omega) ⟨0,X2,rfl,rfl,by simp,by omega,rfl⟩),?_⟩⟩
  rintro mm ws H ⟨i,X,rfl,rfl,hX,hi,rfl⟩
  conv=>whnf
  refine branch_i (fun c1=>?_) (fun c1=>?_)<;>try rw [c1]<;>conv=>whnf
  rotate_left
  focus
   have c1' := dfZ c1;have hie:i = c.c.length:=by omega
   subst hie;rw [List.take_length] at hX;have e:X = l ++ chgW c:=by
    rw [hX,eX2,List.append_assoc];exact hR _ (by unfold chgW; rw [if_pos k1']; rfl)
   subst e;exact ⟨[0],rfl,h⟩
  have c1' := dtZ c1;have hlt:i < c.c.length:=by omega
  have hg:c.c[i]? = some c.c[i]:=lgZ hlt;have hxm:=List.getElem_mem hlt;have hsn:=colsW_snoc hg;have hvw:=cols_w (l:=c.c.take i) (fun v hv=>hc.names v (List.mem_of_mem_take hv))
  rw [List.length_take] at hvw;have hXl:X.length <= 1000000:=by
   rw [hX,laZ];have:min i c.c.length <= 64:=by omega
   omega
  have hxn:=hc.names _ hxm;generalize c.c[i] = x at *;refine ⟨_,⟨by omega,cols_get hg⟩,?_⟩
  conv=>whnf
  refine .call [0] 1 ⟨rfl,rfl,rfl⟩ (ACall.eatA (bs_len X).symm rfl rfl (putColumn_spec (l:=X) (f:=false) (c:=x) hxn (by omega) ?_))
  conv=>whnf
  refine .go [2] rfl (c.c.length - (i + 1)) (by omega) ⟨i + 1,X ++ colW x,?_,rfl,by rw [hsn,hX,List.append_assoc],by omega,rfl⟩
  show [V.ms 1 0 0 (X ++ colW x).length false,.sl 3 (cols c.c) false,fI c.c.length,V.int .i64 (IntKind.i64.wrap ((i:Int) + 1))] = _
  rw [wrapL (by omega)]; rfl
 have k1' := dfZ k1;refine branch_i (fun k3=>?_) (fun k3=>?_)<;>try rw [k3]<;>conv=>whnf
 focus
  have k3' := dtZ k3;refine .call [3] 1 ⟨rfl,rfl,rfl⟩ (ACall.eatA (bs_len X1).symm rfl rfl (putColumn_spec (l:=X1) (f:=false) (c:=c.col) hc.col (by omega) ?_))
  conv=>whnf
  rw [hR (colW c.col) (by unfold chgW; rw [if_neg k1', if_pos (.inl k3')])]
  exact ⟨[4],rfl,h⟩
 have k3' := dfZ k3;refine branch_i (fun k5=>?_) (fun k5=>?_)<;>try rw [k5]<;>conv=>whnf
 focus
  have k5' := dtZ k5;refine .call [3] 1 ⟨rfl,rfl,rfl⟩ (ACall.eatA (bs_len X1).symm rfl rfl (putColumn_spec (l:=X1) (f:=false) (c:=c.col) hc.col (by omega) ?_))
  conv=>whnf
  rw [hR (colW c.col) (by unfold chgW; rw [if_neg k1', if_pos (.inr k5')])]
  exact ⟨[4],rfl,h⟩
 have k5' := dfZ k5;refine branch_i (fun k4=>?_) (fun k4=>?_)<;>try rw [k4]<;>conv=>whnf
 focus
  have k4' := dtZ k4;refine .call [3] 1 ⟨rfl,rfl,rfl⟩ (ACall.eat (bs_len X1).symm rfl (WText_spec (l:=X1) (f:=false) (s:=c.col.n) (by have:=hc.col; omega) (by omega) ?_))
  conv=>whnf
  rw [hR (txtW c.col.n) (by unfold chgW; rw [if_neg k1', if_neg (by omega),if_pos k4'])]
  exact ⟨[4],rfl,h⟩
 have k4' := dfZ k4;have e:=hR [] (by unfold chgW; rw [if_neg k1', if_neg (by omega),if_neg k4'])
 rw [List.append_nil] at e;rw [e];exact ⟨[3],rfl,h⟩
end
section
variable {Q:V -> List O -> Prop}
def tabL (i:Nat):List V:=(List.range i).map (fun j=>V.int .u32 (stpN 8 j:Nat)) ++ List.replicate (256 - i) (.int .u32 0)
theorem tabL_len {i:Nat} (h:i <= 256):(tabL i).length = 256:=by unfold tabL; rw [laZ,List.length_map,List.length_range,List.length_replicate]; omega
theorem tabL_set {i:Nat} (h:i < 256):(tabL i).take i ++ [V.int .u32 (stpN 8 i:Nat)] ++ (tabL i).drop (i + 1) = tabL (i + 1):=by
 unfold tabL;have hl:((List.range i).map (fun j=>V.int .u32 (stpN 8 j:Nat))).length = i:=by rw [List.length_map,List.length_range]
 rw [List.take_append_of_le_length (by omega),List.take_of_length_le (by omega),List.drop_append,List.drop_of_length_le (by omega),hl,List.nil_append,List.drop_replicate,List.range_succ,List.map_append,show 256 - i - (i + 1 - i) = 256 - (i + 1) by omega]
 rfl
theorem tabL_get {j:Nat} (h:j < 256):(tabL 256)[j]? = some (V.int .u32 (stpN 8 j:Nat)):=by
 unfold tabL;rw [show List.replicate (256 - 256) (V.int .u32 0) = [] from rfl,List.append_nil,List.getElem?_map,List.getElem?_range h]; rfl
theorem tabL_pure (i:Nat):(tabL i).all pureV = true:=by
 unfold tabL;simp [List.all_eq_true,pureV]
theorem renL_pure {f:Nat -> Option Nat} {l:List V} (h:l.all pureV = true):renL f l = l:=by rw [renL_map,map_pure h]
theorem copyL_of {l l' : List V} {K:List V -> Prop} (e:l = l') (h:K l'):copyL l K:=by subst e; exact (copyL_iff _ _).2 h
theorem tab_gather {A B:List V} (hA:A.all pureV = true) (hB:B.all pureV = true):gather (idx [0,1]) [.cells A,.cells B] [0,1] = [.cells A,.cells B]:=by
 show [O.cells (renL (idx [0,1]) A),O.cells (renL (idx [0,1]) B)] = _
 rw [renL_pure hA,renL_pure hB]
set_option maxRecDepth 20000 in
set_option maxHeartbeats 4000000 in
theorem table_spec (h:Q (.agg (tabL 256)) []):ACall Tryz.prog 179 0 [] [] Q:=by
 refine by_body Tryz.func179 0 rfl (nbZ rfl) ?_
 conv=>whnf
 refine ⟨⟨[0,1,4],fun mm ws H=>∃ i:Nat,ws = [.ptr 0 0,.ptr 1 0,fI i] /\ H = [.cells (tabL 0),.cells (tabL i)] /\ i <= 256 /\ mm = 256 - i,.at 256 ⟨0,rfl,rfl,by omega,rfl⟩,?_⟩⟩
 rintro mm ws H ⟨i,rfl,rfl,hi,rfl⟩;generalize hZ:tabL 0 = Z at *;have hZp:Z.all pureV = true:=by rw [<- hZ]; exact tabL_pure 0
 have hZl:Z.length = 256:=by rw [<- hZ]; exact tabL_len (by omega)
 have hTl:=tabL_len hi
 conv=>whnf
 refine branch_i (fun c1=>?_) (fun c1=>?_)<;>try rw [c1]<;>conv=>whnf
 focus
  have c1' := dtZ c1;have hlt:i < 256:=by omega
  refine ⟨⟨[0,1,4,2,3,9],fun mm ws H=>∃ k:Nat,ws = [.ptr 0 0,.ptr 1 0,fI i,fI i,.int .u32 (stpN k i:Nat),fI k] /\ H = [.cells Z,.cells (tabL i)] /\ k <= 8 /\ mm = 8 - k,.at 8 ⟨0,?_,rfl,by omega,rfl⟩,?_⟩⟩
  . show [V.ptr 0 0,V.ptr 1 0,fI i,fI i,V.int .u32 (IntKind.u32.wrap (i:Int)),fI 0] = _
    rw [wrap_u32,show (i:Int) % 4294967296 = (i:Int) by omega]; rfl
  rintro mm ws H ⟨k,rfl,rfl,hk,rfl⟩;have hs:=stpN_lt k (show i < 2 ^ 32 by omega)
  conv=>whnf
  refine branch_i (fun c2=>?_) (fun c2=>?_)<;>try rw [c2]<;>conv=>whnf
  focus
   have c2' := dtZ c2;refine ⟨by decide,?_⟩
   conv=>whnf
   refine .go [0,1] rfl (8 - (k + 1)) (by omega) ⟨k + 1,?_,tab_gather hZp (tabL_pure i),by omega,rfl⟩
   rw [stpN_s,<- stp_code hs];show [V.ptr 0 0,V.ptr 1 0,fI i,fI i,_,V.int .i64 (IntKind.i64.wrap ((k:Int) + 1))] = _
   rw [wrapL (by omega)]; rfl
  have c2' := dfZ c2;have:k = 8:=by omega
  subst this;refine ⟨⟨by omega,by omega⟩,?_⟩
  conv=>whnf
  split
  rotate_left
  focus
   rename_i hf;have hf' : Nat.ble (i * 1 + 0 + 1) (tabL i).length = false:=hf;rw [Nat.ble_eq_true_of_le (by omega)] at hf'; cases hf'
  refine copyL_of (l' := tabL (i + 1)) (show List.take (i * 1 + 0) (tabL i) ++ [V.int .u32 (stpN 8 i:Nat)] ++ List.drop (i * 1 + 0 + 1) (tabL i) = _ by rw [Nat.mul_one,Nat.add_zero]; exact tabL_set hlt) ?_
  conv=>whnf
  refine .go [0,1] rfl (256 - (i + 1)) (by omega) ⟨i + 1,?_,?_,by omega,rfl⟩
  . show [V.ptr 0 0,V.ptr 1 0,V.int .i64 (IntKind.i64.wrap ((i:Int) + 1))] = _
    rw [wrapL (by omega)]; rfl
  . exact tab_gather hZp (tabL_pure _)
 have c1' := dfZ c1;have:i = 256:=by omega
 subst this;have hTp:=tabL_pure 256;generalize tabL 256 = T at *;have e1:∀ l:List V,l.length = 256 -> List.take 256 (List.drop 0 l) = l:=fun l h=>by rw [List.drop_zero,<- h,List.take_length]
 split
 rotate_left
 focus
  rename_i hf;have hf' : Nat.ble (0 + 256) T.length = false:=hf;rw [Nat.ble_eq_true_of_le (by omega)] at hf'; cases hf'
 refine copyL_of (l' := T) (show List.take 256 (List.drop 0 T) = T by rw [List.drop_zero,<- hTl,List.take_length]) ?_
 conv=>whnf
 split
 rotate_left
 focus
  rename_i hf;have hf' : Nat.beq T.length 256 = false:=hf;rw [hTl] at hf'; exact absurd hf' (by decide)
 conv=>whnf
 split
 rotate_left
 focus
  rename_i hf;have hf' : Nat.ble (0 + T.length) Z.length = false:=hf;rw [Nat.ble_eq_true_of_le (by omega)] at hf'; cases hf'
 refine copyL_of (l' := T) (show List.take 0 Z ++ T ++ List.drop (0 + T.length) Z = T by rw [List.take_zero,List.nil_append,List.drop_of_length_le (by omega),List.append_nil]) ?_
 conv=>whnf
 split
 rotate_left
 focus
  rename_i hf;have hf' : Nat.ble (0 + 256) T.length = false:=hf;rw [Nat.ble_eq_true_of_le (by omega)] at hf'; cases hf'
 refine copyL_of (l' := T) (show List.take 256 (List.drop 0 T) = T by rw [List.drop_zero,<- hTl,List.take_length]) ?_
 conv=>whnf
 refine ⟨[],rfl,?_⟩;show Q (.agg (renL _ T)) []
 rw [renL_pure hTp];exact h
theorem bs_at {l:List UInt8} {i:Nat} {x:UInt8} (h:l[i]? = some x):(bs l)[i]? = some [.int .u8 x.toNat]:=by simp [bs,h]
theorem byte_of (c:Nat):IntKind.u8.wrap (c:Int) = ((c % 256:Nat):Int):=by rw [wrap_u8]; omega
set_option maxRecDepth 20000 in
set_option maxHeartbeats 4000000 in
theorem More_spec {l:List UInt8} {f:Bool} (hl:l.length <= 1000000000) (h:Q (fI (crcS l:Nat)) []):ACall Tryz.prog 158 0 [fI 0,.sl 1 (bs l) f] [] Q:=by
 refine by_body Tryz.func158 0 rfl (nbZ rfl) ?_
 conv=>whnf
 refine .pure (table_spec ⟨rfl,?_⟩);have hTl:=tabL_len (Nat.le_refl 256);have hTp:=tabL_pure 256;have hTg:∀ j,j < 256 -> (tabL 256)[j]? = some (V.int .u32 (stpN 8 j:Nat)):=fun j h=>tabL_get h
 generalize tabL 256 = T at *
 conv=>whnf
 split
 rotate_left
 focus
  rename_i hf;have hf' : Nat.beq T.length 256 = false:=hf;rw [hTl] at hf'; exact absurd hf' (by decide)
 conv=>whnf
 split
 rotate_left
 focus
  rename_i hf;have hf' : Nat.ble (0 + T.length) (List.replicate 256 (V.int .u32 0)).length = false:=hf;rw [List.length_replicate,Nat.ble_eq_true_of_le (by omega)] at hf'; cases hf'
 refine copyL_of (l' := T) (show List.take 0 (List.replicate 256 (V.int .u32 0)) ++ T ++ List.drop (0 + T.length) (List.replicate 256 (V.int .u32 0)) = T by rw [List.take_zero,List.nil_append,List.drop_of_length_le (by rw [List.length_replicate]; omega),List.append_nil]) ?_
 rename_i hq1 _ hq2;clear hq1 hq2;have hlb:=bs_len l
 conv=>whnf
 refine ⟨⟨[5,6,13,14,15],fun mm ws H=>∃ i:Nat,ws = [.int .u32 (run 4294967295 (l.take i):Nat),.ptr 0 0,.sl 1 (bs l) f,fI (bs l).length,fI i] /\ H = [.cells T] /\ i <= l.length /\ mm = l.length - i,.at l.length ⟨0,rfl,rfl,by omega,rfl⟩,?_⟩⟩
 rintro mm ws H ⟨i,rfl,rfl,hi,rfl⟩;have hrl:run 4294967295 (l.take i) < 2 ^ 32:=run_lt _ (by decide)
 conv=>whnf
 refine branch_i (fun c1=>?_) (fun c1=>?_)<;>try rw [c1]<;>conv=>whnf
 focus
  have c1' := dtZ c1;have hlt:i < l.length:=by omega
  have hg:l[i]? = some l[i]:=lgZ hlt;have hsn:l.take (i + 1) = l.take i ++ [l[i]]:=by rw [List.take_add_one,hg]; rfl
  generalize l[i] = x at *;refine ⟨_,⟨by omega,bs_at hg⟩,?_⟩
  conv=>whnf
  refine ⟨by decide,?_⟩
  conv=>whnf
  generalize hc:run 4294967295 (l.take i) = c at *;have e8:IntKind.u8.wrap ↑(BitVec.ofInt IntKind.u8.bits (IntKind.u8.wrap (c:Int)) ^^^ BitVec.ofInt IntKind.u8.bits (x.toNat:Int)).toNat = ((c % 256 ^^^ x.toNat:Nat):Int):=by
   rw [byte_of c,xor8 (Nat.mod_lt _ (by decide)) x.toNat_lt]
  have hm:c % 256 ^^^ x.toNat < 256:=Nat.xor_lt_two_pow (n:=8) (Nat.mod_lt _ (by decide)) x.toNat_lt
  have hstep:=tab_step c x;rw [e8];have hTm:=hTg _ hm;have hslt:=stpN_lt 8 (show c % 256 ^^^ x.toNat < 2 ^ 32 by omega)
  generalize c % 256 ^^^ x.toNat = m at *;refine ⟨⟨by omega,by omega⟩,?_⟩
  conv=>whnf
  split
  rotate_left
  focus
   rename_i hf;have hf' : T[m * 1]? = none:=hf;rw [Nat.mul_one,hTm] at hf'; cases hf'
  rename_i v hv;have hv' : T[m * 1]? = some v:=hv;rw [Nat.mul_one,hTm] at hv';cases hv'
  conv=>whnf
  refine .go [0] rfl (l.length - (i + 1)) (by omega) ⟨i + 1,?_,?_,by omega,rfl⟩
  . show [V.int .u32 _,V.ptr 0 0,.sl 1 (bs l) f,fI (bs l).length,V.int .i64 (IntKind.i64.wrap ((i:Int) + 1))] = _
    have e1:IntKind.i64.wrap ((i:Int) + 1) = ((i + 1:Nat):Int):=by rw [wrapL (by omega)]; rfl
    have e2:Int.fdiv (c:Int) (2 ^ min (8:Int).toNat IntKind.u32.bits) = ((c / 256:Nat):Int):=shr_u32 c (k:=8) (by decide)
    rw [e1,e2,xor32 (by omega) hslt,<- hstep,hsn,run_snoc,hc]
  . show [O.cells (renL _ T)] = _
    rw [renL_pure hTp]
 have c1' := dfZ c1;have:i = l.length:=by omega
 subst this;rw [List.take_length] at *;have e:IntKind.i64.wrap (IntKind.u32.wrap ↑(BitVec.ofInt IntKind.u32.bits (if IntKind.u32.signed then -1 else IntKind.u32.max) ^^^ BitVec.ofInt IntKind.u32.bits (run 4294967295 l:Nat)).toNat) = ((crcS l:Nat):Int):=by
  rw [show (if IntKind.u32.signed then -1 else IntKind.u32.max:Int) = ((4294967295:Nat):Int) from rfl,xor32 (by decide) hrl,Nat.xor_comm]
  have:=crcS_lt l;exact wrapN (by unfold crcS at this; omega)
 refine ⟨[],rfl,?_⟩;show Q (.int .i64 _) []
 rw [e];exact h
theorem CrSum_spec {l:List UInt8} {f:Bool} (hl:l.length <= 1000000000) (h:Q (fI (crcS l:Nat)) []):ACall Tryz.prog 124 0 [.sl 1 (bs l) f] [] Q:=by
 refine by_body Tryz.func124 0 rfl (nbZ rfl) ?_
 conv=>whnf
 refine .pure (More_spec hl ⟨rfl,?_⟩)
 conv=>whnf
 exact ⟨[],rfl,h⟩
theorem b8_le4 {s i:Nat} (hs:s < 2 ^ 32) (hi:i < 4):b8 (Int.fdiv (s:Int) (2 ^ min (IntKind.i64.wrap (8 * (i:Int))).toNat IntKind.i64.bits)) = (le4 s).getD i 0:=by
 have h1:=le4_code hs hi;rw [b8_wrap] at h1;exact UInt8.toNat_inj.1 (by omega)
set_option maxHeartbeats 4000000 in
theorem CrPut_spec {b own:List UInt8} {f g:Bool} (hb:b.length <= 900000000) (ho:own.length <= 900000000) (hs:b.length + own.length <= 999999990) (h:Q (.ms 1 0 0 (b ++ crcP own).length false) [.buf (bs (b ++ crcP own))]) :
 ACall Tryz.prog 83 0 [.sl 1 (bs b) f,.sl 1 (bs own) g] [] Q:=by
 refine by_body Tryz.func83 0 rfl (nbZ rfl) ?_
 conv=>whnf
 refine .call [0] 1 ⟨rfl,rfl,rfl⟩ (ACall.eat rfl rfl (Concat2_spec (a:=b) (c:=own) (f:=f) (g:=g) hb ho (by omega) ?_))
 conv=>whnf
 refine .pure (CrSum_spec (l:=own) (by omega) ⟨rfl,?_⟩)
 have hcs:=crcS_lt own;unfold crcP at h;generalize crcS own = s at *;have hcl:=le4_len s
 conv=>whnf
 refine ⟨⟨[5,6,14],fun mm ws H=>∃ (i:Nat) (X:List UInt8),ws = [.ms 1 0 0 X.length false,fI s,fI i] /\ H = [.buf (bs X)] /\ X = b ++ own ++ (le4 s).take i /\ i <= 4 /\ mm = 4 - i,
  .frz 5 (.go [1] rfl 4 (by omega) ⟨0,b ++ own,rfl,rfl,by simp,by omega,rfl⟩),?_⟩⟩
 rintro mm ws H ⟨i,X,rfl,rfl,hX,hi,rfl⟩;have hXl:X.length = b.length + own.length + i:=by rw [hX,laZ,laZ,List.length_take,hcl]; omega
 conv=>whnf
 refine branch_i (fun c1=>?_) (fun c1=>?_)<;>try rw [c1]<;>conv=>whnf
 rotate_left
 focus
  have c1' := dfZ c1;have hie:i = 4:=by omega
  subst hie;rw [List.take_of_length_le (by omega),List.append_assoc] at hX
  subst hX;exact ⟨[0],rfl,h⟩
 have c1' := dtZ c1;have hlt:i < 4:=by omega
 refine ⟨by rw [wrapL (by omega)]; omega,?_⟩
 conv=>whnf
 refine app_b1 (X:=X) rfl rfl rfl (by omega) ?_
 have hb8:=b8_le4 (i:=i) hcs hlt;rw [hb8];have hsn:X ++ [(le4 s).getD i 0] = b ++ own ++ (le4 s).take (i + 1):=by
  rw [hX,List.take_add_one,List.getD,lgZ (by omega),List.append_assoc (b ++ own)]; rfl
 generalize X ++ [(le4 s).getD i 0] = Y at *
 conv=>whnf
 refine .go [2] rfl (4 - (i + 1)) (by omega) ⟨i + 1,Y,?_,rfl,hsn,by omega,rfl⟩
 show [V.ms 1 0 0 Y.length false,fI s,V.int .i64 (IntKind.i64.wrap ((i:Int) + 1))] = _
 rw [wrapL (by omega)]; rfl
end
section
variable {Q:V -> List O -> Prop}
theorem RMore_spec {l:List UInt8} {f:Bool} (hl:l.length <= 1000000000) (h:Q (fI (crcS l:Nat)) []):ACall Tryz.prog 159 0 [fI 0,.sl 1 (bs l) f] [] Q:=by
 refine by_body Tryz.func159 0 rfl (nbZ rfl) ?_;have hlb:=bs_len l
 conv=>whnf
 refine ⟨⟨[1,5,6],fun mm ws H=>∃ i:Nat,ws = [.sl 1 (bs l) f,.int .u32 (run 4294967295 (l.take i):Nat),fI i] /\ H = [] /\ i <= l.length /\ mm = l.length - i,.at l.length ⟨0,rfl,rfl,by omega,rfl⟩,?_⟩⟩
 rintro mm ws H ⟨i,rfl,rfl,hi,rfl⟩;have hrl:run 4294967295 (l.take i) < 2 ^ 32:=run_lt _ (by decide)
 conv=>whnf
 refine branch_i (fun c1=>?_) (fun c1=>?_)<;>try rw [c1]<;>conv=>whnf
 focus
  have c1' := dtZ c1;have hlt:i < l.length:=by omega
  have hg:l[i]? = some l[i]:=lgZ hlt;have hsn:l.take (i + 1) = l.take i ++ [l[i]]:=by rw [List.take_add_one,hg]; rfl
  generalize l[i] = x at *;refine ⟨_,⟨by omega,bs_at hg⟩,?_⟩
  conv=>whnf
  generalize hc:run 4294967295 (l.take i) = c at *;have hx8:=x.toNat_lt;have hcx:c ^^^ x.toNat < 2 ^ 32:=Nat.xor_lt_two_pow hrl (by omega)
  refine ⟨⟨[1,5,6,7],fun mm ws H=>∃ k:Nat,ws = [.sl 1 (bs l) f,.int .u32 (stpN k (c ^^^ x.toNat):Nat),fI i,fI k] /\ H = [] /\ k <= 8 /\ mm = 8 - k,.at 8 ⟨0,?_,rfl,by omega,rfl⟩,?_⟩⟩
  . show [V.sl 1 (bs l) f,V.int .u32 (IntKind.u32.wrap ↑(BitVec.ofInt IntKind.u32.bits (c:Int) ^^^ BitVec.ofInt IntKind.u32.bits (IntKind.u32.wrap (x.toNat:Int))).toNat),fI i,fI 0] = _
    rw [wrap_u32 (x.toNat:Int),show (x.toNat:Int) % 4294967296 = (x.toNat:Int) by omega,xor32 hrl (by omega)]; rfl
  rintro mm ws H ⟨k,rfl,rfl,hk,rfl⟩;have hs:=stpN_lt k hcx
  conv=>whnf
  refine branch_i (fun c2=>?_) (fun c2=>?_)<;>try rw [c2]<;>conv=>whnf
  rotate_left
  focus
   have c2' := dfZ c2;have:k = 8:=by omega
   subst this;refine .go [] rfl (l.length - (i + 1)) (by omega) ⟨i + 1,?_,rfl,by omega,rfl⟩
   show [V.sl 1 (bs l) f,.int .u32 (stpN 8 (c ^^^ x.toNat):Nat),V.int .i64 (IntKind.i64.wrap ((i:Int) + 1))] = _
   rw [wrapL (by omega),hsn,run_snoc,hc]; rfl
  have c2' := dtZ c2;have hst:stpN (k + 1) (c ^^^ x.toNat) = stp (stpN k (c ^^^ x.toNat)):=stpN_s _ _;generalize stpN k (c ^^^ x.toNat) = d at *;refine ⟨by decide,?_⟩
  conv=>whnf
  refine ⟨by decide,?_⟩
  conv=>whnf
  have e1:IntKind.u32.wrap (Int.tdiv (d:Int) 2) = ((d / 2:Nat):Int):=by rw [show Int.tdiv (d:Int) 2 = ((d / 2:Nat):Int) from rfl,wrap_u32]; omega
  have e2:Int.tmod (d:Int) 2 = ((d % 2:Nat):Int):=rfl;have e3:IntKind.i64.wrap ((k:Int) + 1) = ((k + 1:Nat):Int):=by rw [wrapL (by omega)]; rfl
  rw [e1,e2];refine branch_i (fun c3=>?_) (fun c3=>?_)<;>try rw [c3]<;>conv=>whnf
  . have c3' := dtZ c3;refine .go [] rfl (8 - (k + 1)) (by omega) ⟨k + 1,?_,rfl,by omega,rfl⟩
    show [V.sl 1 (bs l) f,.int .u32 (IntKind.u32.wrap ↑(BitVec.ofInt IntKind.u32.bits ((d / 2:Nat):Int) ^^^ BitVec.ofInt IntKind.u32.bits ((3988292384:Nat):Int)).toNat),fI i,V.int .i64 (IntKind.i64.wrap ((k:Int) + 1))] = _
    rw [xor32 (by omega) (by decide),e3,hst]
    unfold stp;rw [if_pos (by omega)]
  . have c3' := dfZ c3;refine .go [] rfl (8 - (k + 1)) (by omega) ⟨k + 1,?_,rfl,by omega,rfl⟩
    show [V.sl 1 (bs l) f,.int .u32 ((d / 2:Nat):Int),fI i,V.int .i64 (IntKind.i64.wrap ((k:Int) + 1))] = _
    rw [e3,hst];unfold stp;rw [if_neg (by omega),Nat.xor_zero]
 have c1' := dfZ c1;have:i = l.length:=by omega
 subst this;rw [List.take_length] at *;have e:IntKind.i64.wrap (IntKind.u32.wrap ↑(BitVec.ofInt IntKind.u32.bits (run 4294967295 l:Nat) ^^^ BitVec.ofInt IntKind.u32.bits ((4294967295:Nat):Int)).toNat) = ((crcS l:Nat):Int):=by
  rw [xor32 hrl (by decide)]
  have:=crcS_lt l;exact wrapN (by unfold crcS at this; omega)
 refine ⟨[],rfl,?_⟩;show Q (.int .i64 (IntKind.i64.wrap (IntKind.u32.wrap ↑(BitVec.ofInt IntKind.u32.bits (run 4294967295 l:Nat) ^^^ BitVec.ofInt IntKind.u32.bits ((4294967295:Nat):Int)).toNat))) []
 rw [e];exact h
theorem RCrSum_spec {l:List UInt8} {f:Bool} (hl:l.length <= 1000000000) (h:Q (fI (crcS l:Nat)) []):ACall Tryz.prog 125 0 [.sl 1 (bs l) f] [] Q:=by
 refine by_body Tryz.func125 0 rfl (nbZ rfl) ?_
 conv=>whnf
 refine .pure (RMore_spec hl ⟨rfl,?_⟩)
 conv=>whnf
 exact ⟨[],rfl,h⟩
set_option maxHeartbeats 4000000 in
theorem RCrPut_spec {b own:List UInt8} {f g:Bool} (hb:b.length <= 900000000) (ho:own.length <= 900000000) (hs:b.length + own.length <= 999999990) (h:Q (.ms 1 0 0 (b ++ crcP own).length false) [.buf (bs (b ++ crcP own))]) :
 ACall Tryz.prog 84 0 [.sl 1 (bs b) f,.sl 1 (bs own) g] [] Q:=by
 refine by_body Tryz.func84 0 rfl (nbZ rfl) ?_;have hlb:=bs_len b;have hlo:=bs_len own
 conv=>whnf
 refine ⟨(show (bs b).length * 1 <= 70368744177664 by omega),?_⟩
 conv=>whnf
 refine ⟨by rw [Nat.add_zero],?_⟩
 refine ⟨(show (bs b ++ bs own).length * 1 <= 70368744177664 by rw [laZ]; omega),?_⟩
 conv=>whnf
 refine .pure (RCrSum_spec (l:=own) (by omega) ⟨rfl,?_⟩)
 have hcs:=crcS_lt own;unfold crcP at h;generalize crcS own = s at *;have e0:IntKind.u8.wrap (Int.tmod (s:Int) 256) = (((UInt8.ofNat s).toNat:Nat):Int):=by rw [show Int.tmod (s:Int) 256 = ((s % 256:Nat):Int) from rfl,wrap_u8,UInt8.toNat_ofNat']; omega
 have e1:IntKind.u8.wrap (Int.tmod (IntKind.i64.wrap (Int.tdiv (s:Int) 256)) 256) = (((UInt8.ofNat (s / 256)).toNat:Nat):Int):=by
  rw [show Int.tdiv (s:Int) 256 = ((s / 256:Nat):Int) from rfl,wrapN (by omega),show Int.tmod ((s / 256:Nat):Int) 256 = ((s / 256 % 256:Nat):Int) from rfl,wrap_u8,UInt8.toNat_ofNat']; omega
 have e2:IntKind.u8.wrap (Int.tmod (IntKind.i64.wrap (Int.tdiv (s:Int) 65536)) 256) = (((UInt8.ofNat (s / 65536)).toNat:Nat):Int):=by
  rw [show Int.tdiv (s:Int) 65536 = ((s / 65536:Nat):Int) from rfl,wrapN (by omega),show Int.tmod ((s / 65536:Nat):Int) 256 = ((s / 65536 % 256:Nat):Int) from rfl,wrap_u8,UInt8.toNat_ofNat']; omega
 have e3:IntKind.u8.wrap (IntKind.i64.wrap (Int.tdiv (s:Int) 16777216)) = (((UInt8.ofNat (s / 16777216)).toNat:Nat):Int):=by
  rw [show Int.tdiv (s:Int) 16777216 = ((s / 16777216:Nat):Int) from rfl,wrapN (by omega),wrap_u8,UInt8.toNat_ofNat']; omega
 conv=>whnf
 repeat (refine ⟨by decide,?_⟩
         conv=>whnf)
 rw [e0,e1,e2,e3];refine app_bs (i:=1) (j:=2) (X:=b ++ own) (Y:=le4 s) rfl (congrArg O.buf (bs_app b own).symm) rfl (by rw [laZ,laZ,List.drop_zero]; omega) rfl (by rw [laZ,le4_len]; omega) ?_
 rw [<- List.append_assoc] at h;generalize b ++ own ++ le4 s = Y at *
 conv=>whnf
 exact ⟨[3],rfl,h⟩
end
section
variable {Q:V -> List O -> Prop}
inductive ChgI:Chg -> Prop
 | cre (t:List UInt8) (c:List Col) (ks:Int):nameOk t = true -> mayS c ks = true -> ChgI ⟨1,t,c,ks,col0⟩
 | drop (t:List UInt8):nameOk t = true -> ChgI ⟨2,t,[],0,col0⟩
 | add (k:Int) (t:List UInt8) (col:Col):nameOk t = true -> (k = 3 \/ k = 5) -> colE col = true -> ChgI ⟨k,t,[],0,col⟩
 | cut (t n:List UInt8):nameOk t = true -> nameOk n = true -> ChgI ⟨4,t,[],0,⟨n,0,false⟩⟩
inductive MayI (l:List Tb):Evt -> Prop
 | ins (k:Int) (t:List UInt8) (a:List Val) (C:List Col) (K:Int):(k = 3 \/ k = 4) -> findT l t = some (C,K) -> fitsL C a = true -> MayI l ⟨k,0,t,[],a,chg0⟩
 | del (t:List UInt8) (b:List Val) (C:List Col) (K:Int):findT l t = some (C,K) -> keyOkL C K.toNat b = true -> (b.length:Int) = K -> MayI l ⟨5,0,t,b,[],chg0⟩
 | alt (c:Chg):ChgI c -> MayI l ⟨6,0,[],[],[],c⟩
 | num (k n:Int):numK k = true -> 0 <= n -> MayI l ⟨k,n,[],[],[],chg0⟩
theorem nilS_is {c:Chg} (h:nilS c = true):c.ks = 0 /\ c.c = []:=by
 unfold nilS at h;simp only [Bool.and_eq_true,decide_eq_true_eq] at h;exact ⟨h.1,List.length_eq_zero_iff.1 h.2⟩
theorem chgE_inv {c:Chg} (h:chgE c = 0):ChgI c:=by
 unfold chgE at h;split at h
 rotate_left
 . omega
 rename_i hk;split at h
 rotate_left
 . omega
 rename_i hb;rw [Bool.and_eq_true] at hb;obtain ⟨hn,hb⟩:=hb;unfold chgK at hb;obtain ⟨k,t,cc,ks,col⟩:=c;simp only at *;split at hb
 . rename_i h1; subst h1;rw [Bool.and_eq_true,decide_eq_true_eq] at hb;obtain ⟨h1,rfl⟩:=hb;exact .cre _ _ _ hn h1
 split at hb
 . rename_i h1; subst h1;rw [Bool.and_eq_true,decide_eq_true_eq] at hb;obtain ⟨h1,rfl⟩:=hb;obtain ⟨h2,h3⟩:=nilS_is h1;simp only at h2 h3;subst h2 h3;exact .drop _ hn
 split at hb
 . rename_i h1;rw [Bool.and_eq_true] at hb;obtain ⟨h2,h3⟩:=nilS_is hb.1;simp only at h2 h3;subst h2 h3;exact .add _ _ _ hn h1 hb.2
 . rw [Bool.and_eq_true] at hb;obtain ⟨h2,h3⟩:=nilS_is hb.1;simp only at h2 h3;subst h2 h3;have h4:k = 4:=by omega
   subst h4;obtain ⟨n,kk,o⟩:=col;simp only [Bool.and_eq_true,decide_eq_true_eq,Bool.not_eq_true'] at hb;obtain ⟨_,hb1,rfl,rfl⟩:=hb;exact .cut _ _ hn hb1
theorem ChgI.e {c:Chg} (h:ChgI c):chgE c = 0:=by
 cases h with
 | cre t cc ks h1 h2 =>
  rw [chgE_is (b:=true) (.inl rfl) (by rw [h1]; unfold chgK; simp [h2])]; rfl
 | drop t h1 =>
  rw [chgE_is (b:=true) (.inr (.inl rfl)) (by rw [h1]; rfl)]; rfl
 | add k t col h1 hk h2 =>
  have h3:chgK ⟨k,t,[],0,col⟩ = true:=by
   unfold chgK;simp only;rw [if_neg (by omega),if_neg (by omega),if_pos hk,h2]; rfl
  rw [chgE_is (b:=true) (by rcases hk with rfl | rfl<;>simp) (by rw [h1,h3]; rfl)]; rfl
 | cut t n h1 h2 =>
  have h3:chgK ⟨4,t,[],0,⟨n,0,false⟩⟩ = true:=by
   unfold chgK;simp only;rw [if_neg (by omega),if_neg (by omega),if_neg (by omega),h2]; rfl
  rw [chgE_is (b:=true) (by simp) (by rw [h1,h3]; rfl)]; rfl
theorem rowK_is {k:Int} (h:rowK k = true):k = 3 \/ k = 4 \/ k = 5:=by
 unfold rowK at h; simpa using h
theorem rowK_not {k:Int} (h:rowK k = false):¬ (k = 3 \/ k = 4 \/ k = 5):=by
 unfold rowK at h; simpa using h
theorem numK_is {k:Int} (h:numK k = true):k = 1 \/ k = 2 \/ k = 7 \/ k = 8 \/ k = 9 \/ k = 10:=by
 unfold numK at h; simpa using h
theorem mayE_inv {e:Evt} {l:List Tb} (h:mayE e l = 0):MayI l e:=by
 unfold mayE at h;split at h
 . rename_i hr;have hk:=rowK_is hr;unfold rowE at h;split at h
   . omega
   . rename_i C K hf;split at h
     . omega
     rename_i h1;split at h
     . omega
     rename_i h2;rw [Bool.not_eq_false] at h1 h2;unfold rowFit at h1;unfold rowBare at h2;split at h1
     . rename_i h5;rw [if_pos h5] at h2;rw [Bool.and_eq_true,decide_eq_true_eq] at h1;rw [decide_eq_true_eq] at h2;rw [h5] at h2;rw [h2];exact .del _ _ C K hf h1.1 h1.2
     . rename_i h5;rw [if_neg h5] at h2;rw [decide_eq_true_eq] at h2;rw [h2];exact .ins _ _ _ C K (by omega) hf h1
 split at h
 . rename_i h6;split at h
   . omega
   rename_i h0;split at h
   . omega
   rename_i hb;rw [Bool.or_eq_true,not_or] at hb;have hb2:=hb.2;unfold bare6 at hb2;rw [Bool.not_eq_true', decide_eq_false_iff_not,Decidable.not_not] at hb2;rw [h6] at hb2;rw [hb2];exact .alt _ (chgE_inv (by omega))
 split at h
 . rename_i hn;split at h
   . omega
   rename_i hb;rw [Bool.or_eq_true,not_or,decide_eq_true_eq] at hb;have hb2:=hb.2;unfold bareN at hb2;rw [Bool.not_eq_true', decide_eq_false_iff_not,Decidable.not_not] at hb2;rw [hb2];exact .num _ _ hn (by omega)
 . omega
theorem MayI.e {e:Evt} {l:List Tb} (h:MayI l e):mayE e l = 0:=by
 cases h with
 | ins k t a C K hk hf hfit =>
  unfold mayE;have hr:rowK k = true:=by rcases hk with rfl | rfl<;>rfl
  simp only [hr,if_true];unfold rowE;simp only [hf];have h1:rowFit ⟨k,0,t,[],a,chg0⟩ C K = true:=by unfold rowFit; simp only; rw [if_neg (by omega)]; exact hfit
  have h2:rowBare ⟨k,0,t,[],a,chg0⟩ = true:=by unfold rowBare; rw [if_neg (by show ¬ k = 5; omega)]; exact decide_eq_true rfl
  rw [h1,h2]; rfl
 | del t b C K hf hfit hl =>
  unfold mayE;simp only [show rowK 5 = true from rfl,if_true]
  unfold rowE;simp only [hf];have h1:rowFit ⟨5,0,t,b,[],chg0⟩ C K = true:=by unfold rowFit; simp only [if_true]; rw [hfit,decide_eq_true hl]; rfl
  have h2:rowBare ⟨5,0,t,b,[],chg0⟩ = true:=by unfold rowBare; rw [if_pos rfl]; exact decide_eq_true rfl
  rw [h1,h2]; rfl
 | alt c hc =>
  unfold mayE;simp only [show rowK 6 = false from rfl,if_true]
  rw [hc.e];have h2:bare6 ⟨6,0,[],[],[],c⟩ = true:=by unfold bare6; exact decide_eq_true rfl
  rw [h2]; rfl
 | num k n hk hn =>
  have hk' := numK_is hk;unfold mayE;have hr:rowK k = false:=by rcases hk' with rfl | rfl | rfl | rfl | rfl | rfl<;>rfl
  have h2:bareN ⟨k,n,[],[],[],chg0⟩ = true:=by unfold bareN; exact decide_eq_true rfl
  have h3:decide (n < 0) = false:=decide_eq_false (by omega)
  simp only [hr,hk,h2,h3];rw [if_neg (by decide),if_neg (by omega)]; rfl
theorem name_short {n:List UInt8} (h:nameOk n = true):n.length <= 32:=by
 unfold nameOk at h;simp only [Bool.and_eq_true,decide_eq_true_eq] at h;exact h.2.1
theorem may_each {l:List Col} {k:Int} (h:mayS l k = true):∀ c ∈ l,nameOk c.n = true /\ 1 <= c.k /\ c.k <= 4:=fun c hc=>by
 obtain ⟨i,hi⟩:=List.mem_iff_getElem?.1 hc;unfold mayS at h;rw [Bool.and_eq_true,List.all_eq_true] at h;have:=h.2 i (List.mem_range.2 (liZ.1 hi).1);rw [hi] at this;simp only [mayC,kindOk,Bool.and_eq_true,decide_eq_true_eq] at this;exact ⟨this.1,by omega,by omega⟩
theorem ChgI.b {c:Chg} (h:ChgI c):ChB c:=by
 cases h with
 | cre t cc ks h1 h2 =>
  have:=name_short h1;have hb:=may_bd h2;exact ⟨by simp only; omega,by simp only; omega,fun x hx=>by have:=name_short (may_each h2 x hx).1; omega,by simp [col0]⟩
 | drop t h1 =>
  have:=name_short h1;exact ⟨by simp only; omega,by simp,fun x hx=>absurd hx List.not_mem_nil,by simp [col0]⟩
 | add k t col h1 hk h2 =>
  have:=name_short h1;unfold colE at h2;rw [Bool.and_eq_true] at h2;have:=name_short h2.1;exact ⟨by simp only; omega,by simp,fun x hx=>absurd hx List.not_mem_nil,by simp only; omega⟩
 | cut t n h1 h2 =>
  have:=name_short h1;have:=name_short h2;exact ⟨by simp only; omega,by simp,fun x hx=>absurd hx List.not_mem_nil,by simp only; omega⟩
theorem mayV_short {v:Val} (h:mayV v = true):v.t.length <= 4096:=by
 unfold mayV at h;split at h
 . simp only [Bool.and_eq_true,decide_eq_true_eq] at h; rw [h.2]; simp
 split at h
 . simp only [Bool.and_eq_true,decide_eq_true_eq] at h; rw [h.1]; simp
 split at h
 . simp only [decide_eq_true_eq] at h; rw [h]; simp
 split at h
 . simp only [Bool.and_eq_true,decide_eq_true_eq] at h; omega
 split at h
 . simp only [Bool.and_eq_true,decide_eq_true_eq] at h; omega
 . cases h
theorem fits_may {l:List Col} {vs:List Val} (h:fitsL l vs = true):∀ v ∈ vs,mayV v = true:=fun v hv=>by
 unfold fitsL at h;rw [Bool.and_eq_true,decide_eq_true_eq,List.all_eq_true] at h;obtain ⟨i,hi⟩:=List.mem_iff_getElem?.1 hv;have hlt:=(liZ.1 hi).1;have:=h.2 i (List.mem_range.2 hlt);rw [stAt_some (lgZ (show i < l.length by omega)) hi] at this
 unfold standsV at this;rw [Bool.and_eq_true] at this;exact this.1
theorem fits_len' {l:List Col} {vs:List Val} (h:fitsL l vs = true):vs.length = l.length:=by
 unfold fitsL at h;rw [Bool.and_eq_true,decide_eq_true_eq] at h;exact h.1
structure EvtN (e:Evt):Prop where
 n:I64 e.n
 b:∀ v ∈ e.b,I64 v.n
 a:∀ v ∈ e.a,I64 v.n
theorem findT_name {l:List Tb} {n:List UInt8} {C:List Col} {K:Int} (hl:TbsB l) (h:findT l n = some (C,K)):nameOk n = true:=by
 unfold findT at h;cases ha:atT l n with
 | none=>rw [ha] at h; cases h
 | some j =>
  obtain ⟨t,ht,rfl,_⟩:=atT_get ha;exact (hl.ok.each t (List.mem_of_getElem? ht)).name
theorem RwB.of_fits {l:List Col} {vs:List Val} (hl:l.length <= 16) (h:fitsL l vs = true) (hn:∀ v ∈ vs,I64 v.n):RwB vs :=
 ⟨by have:=fits_len' h; omega,hn,fun v hv=>mayV_short (fits_may h v hv)⟩
theorem RwB.of_key {l:List Col} {k:Nat} {vs:List Val} (hl:l.length <= 16) (hk:k <= l.length) (hv:vs.length = k) (h:keyOkL l k vs = true) (hn:∀ v ∈ vs,I64 v.n):RwB vs:=by
 have:=(keyOk_may hk h).2;rw [<- hv,List.take_length,List.all_eq_true] at this;exact ⟨by omega,hn,fun v hv=>mayV_short (this v hv)⟩
theorem ev_row {e:Evt} {l:List Tb} (hl:TbsB l) (hn:EvtN e) (h:mayE e l = 0) (hr:rowK e.k = true) :
 e.t.length <= 32 /\ ∃ (C:List Col) (k:Nat),findT l e.t = some (C,(k:Int)) /\ (e.k = 5 -> e.b.length = k /\ e.b ≠ [] /\ RwB e.b) /\ (¬ e.k = 5 -> e.a ≠ [] /\ RwB e.a):=by
 have hi:=mayE_inv h;obtain ⟨en,eb,ea⟩:=hn;cases hi with
 | ins k t a C K hk hf hfit =>
  obtain ⟨hm,hC,kk,rfl,hkk⟩:=hl.found hf;have:=may_bd hm;have hlen:=fits_len' hfit;refine ⟨name_short (findT_name hl hf),C,kk,hf,fun e=>?_,fun _=>⟨fun e=>?_,.of_fits hC hfit ea⟩⟩
  . simp only at e; omega
  . simp only at e; rw [e] at hlen; simp at hlen; omega
 | del t b C K hf hfit hlen =>
  obtain ⟨hm,hC,kk,rfl,hkk⟩:=hl.found hf;have:=may_bd hm;refine ⟨name_short (findT_name hl hf),C,kk,hf,fun e=>⟨Int.ofNat_inj.1 hlen,fun e=>?_,.of_key hC hkk (Int.ofNat_inj.1 hlen) hfit eb⟩,fun e=>absurd rfl e⟩
  simp only at e; rw [e] at hlen; simp at hlen; omega
 | alt c hc=>exact absurd hr (by simp only [show rowK 6 = false from rfl]; decide)
 | num k n hk hn =>
  have:=numK_is hk;have:=rowK_is hr;simp only at this;omega
theorem wr_err (e:Int):VSub (.tup [.nils,fI e]) (.tup [.sl 1 (bs []) false,fI e]):=.tup (.cons (fun I ρ u h=>by cases h; exact .slnil _ _ _ _) (VSubs.refl _))
theorem eat_one {P:Program} {f:FuncId} {k:Int} {full:Bool} {vs:List V} (hm:msL 0 vs = []) (hf:(frzL 0 (.buf (bs [b8 k])) vs).map (renV (idx [])) = vs)
 (h:ACall P f 0 (.sl 1 (bs [b8 k]) full :: vs) [] fun r H' => Q (renV (outH 0 1) r) (weave 0 H' [.dead])):ACall P f 1 (.ms 1 0 0 1 full :: vs) [.buf [[.int .u8 (IntKind.u8.wrap k)]]] Q:=by
 rw [b8_wrap];exact ACall.eatA (es:=bs [b8 k]) rfl hm hf h
theorem wr_ret {n:Nat} {X W:List UInt8} {E:Int} (hx:X = W) (hn:n = X.length) (h:Q (.tup [.sl 1 (bs W) false,fI E]) []):ARet 0 Q (.tup [.ms 1 0 0 n false,fI E]) [.buf (bs X)]:=by
 subst hx hn;have hle:=bs_len X;refine .frz 0 rfl (by repeat (first | exact trivial | refine And.intro (by rw [hle,Nat.zero_add]; exact Nat.le_refl _) ?_)) (.done [] rfl ?_)
 show Q (.tup [.sl 1 (List.take X.length (List.drop 0 (bs X))) false,fI E]) []
 rw [List.drop_zero,<- hle,List.take_length];exact h
set_option maxHeartbeats 16000000 in
theorem EvWrite_spec {e:Evt} {l:List Tb} (hl:TbsB l) (he:EvtT e) (hn:EvtN e)
 (h:Q (.tup [.sl 1 (bs (if mayE e l = 0 then evW e else [])) false,fI (mayE e l)]) []):ACall Tryz.prog 47 0 [evA e,.sl 3 (tbs l) false] [] Q:=by
 refine ACall.ret (by_body Tryz.func47 0 rfl (nbZ rfl) ?_)
 conv=>whnf
 refine .pure (EvMay_spec hl he ⟨rfl,?_⟩)
 conv=>whnf
 refine branch_i (fun c1=>?_) (fun c1=>?_)<;>try rw [c1]<;>conv=>whnf
 focus
  have c1' : ¬ mayE e l = 0:=by simpa using c1
  rw [if_neg c1'] at h;exact ⟨[],rfl,.sub _ _ (wr_err _) (HSub.refl _) (.done [] rfl h)⟩
 have c1' : mayE e l = 0:=by simpa using c1
 rw [if_pos c1', c1'] at h;have hi:=mayE_inv c1';have hc:=hl.cols;refine .pure (EvFind_spec (by have:=hl.few; omega) hl.ok.sorted (fun x hx=>by have:=hc x hx; omega) ⟨rfl,?_⟩)
 unfold findR;have hrow:=ev_row hl hn c1';rcases hf:findT l e.t with _ | ⟨C,K⟩<;>conv=>whnf
 all_goals
  refine branch_i (fun k6=>?_) (fun k6=>?_)<;>try rw [k6]<;>conv=>whnf
  focus
   have k6' := dtZ k6;have hcb:ChB e.ch:=by
    cases hi with
    | ins k t a C K hk hf hfit=>simp only at k6'; omega
    | del t b C K hf hfit hlen=>simp only at k6'; omega
    | alt c hc=>exact hc.b
    | num k n hk hn=>have:=numK_is hk; simp only at k6'; omega
   refine .call [1] 1 ⟨rfl,rfl,rfl⟩ (eat_one rfl rfl (putChange_spec (l:=[b8 e.k]) (c:=e.ch) (by simp) hcb (by simp) ?_))
   conv=>whnf
   exact ⟨[3],rfl,wr_ret (X:=b8 e.k :: chgW e.ch) (by unfold evW; rw [if_pos k6']) rfl h⟩
  have k6' := dfZ k6;refine branch_i (fun k5=>?_) (fun k5=>?_)<;>try rw [k5]<;>conv=>whnf
  focus
   have k5' := dtZ k5;obtain ⟨ht,C', k,hf', h5,_⟩:=hrow (by rw [k5']; rfl)
   rw [hf] at hf';first
   | cases hf'; done
   | cases hf'
     obtain ⟨hlb,hb0,hbb⟩:=h5 k5';refine ⟨[0,1,2,4,5,6,3,7,8,9],by kernel_rfl,by kernel_rfl,?_⟩
     conv=>whnf
     repeat (refine ⟨rfl,?_⟩
             conv=>whnf)
     refine .call [1] 1 ⟨rfl,rfl,rfl⟩ (eat_one rfl rfl (WText_spec (l:=[b8 e.k]) (f:=true) (s:=e.t) (by omega) (by simp) ?_))
     repeat (conv=>whnf
             refine ⟨rfl,?_⟩)
     conv=>whnf
     have htl:=txtW_len e.t;refine .call [3] 1 ⟨rfl,rfl,rfl⟩ (ACall.eatA (bs_len _).symm rfl rfl (WriteKeyI_spec (l:=[b8 e.k] ++ txtW e.t) (f:=false) (C:=C) (k:=k) (r:=e.b) hlb (by simp) hb0 hbb (by rw [laZ,List.length_singleton]; omega) ?_))
     repeat (conv=>whnf
             refine ⟨rfl,?_⟩)
     conv=>whnf
     exact ⟨[4],rfl,wr_ret (X:=[b8 e.k] ++ txtW e.t ++ rowW e.b) (by unfold evW; rw [if_neg k6', if_pos k5', List.append_assoc]; rfl) rfl h⟩
  have k5' := dfZ k5;refine .pure (rowed_spec ⟨rfl,?_⟩)
  conv=>whnf
  cases hr:rowK e.k<;>conv=>whnf
  focus
   have hr' := rowK_not hr;have hnn:0 <= e.n:=by
    cases hi with
    | ins k t a C K hk hf hfit=>exact Int.le_refl 0
    | del t b C K hf hfit hlen=>exact Int.le_refl 0
    | alt c hc=>exact Int.le_refl 0
    | num k n hk hn' => exact hn'
   refine .call [1] 1 ⟨rfl,rfl,rfl⟩ (eat_one rfl rfl (WNumber_spec (l:=[b8 e.k]) (f:=true) (n:=e.n) hnn hn.n.2 (by simp) ?_))
   conv=>whnf
   exact ⟨[3],rfl,wr_ret (X:=[b8 e.k] ++ numW e.n) (by unfold evW; rw [if_neg k6', if_neg k5', if_neg (by omega)]; rfl) rfl h⟩
  focus
   obtain ⟨ht,C', k,hf', _,h3⟩:=hrow hr;rw [hf] at hf';first
   | cases hf'; done
   | cases hf'
     obtain ⟨hb0,hbb⟩:=h3 k5';have hr' := rowK_is hr;refine ⟨[0,1,2,4,5,6,3,7,8,9],by kernel_rfl,by kernel_rfl,?_⟩
     conv=>whnf
     repeat (refine ⟨rfl,?_⟩
             conv=>whnf)
     refine .call [1] 1 ⟨rfl,rfl,rfl⟩ (eat_one rfl rfl (WText_spec (l:=[b8 e.k]) (f:=true) (s:=e.t) (by omega) (by simp) ?_))
     repeat (conv=>whnf
             refine ⟨rfl,?_⟩)
     conv=>whnf
     have htl:=txtW_len e.t;refine .call [3] 1 ⟨rfl,rfl,rfl⟩ (ACall.eatA (bs_len _).symm rfl rfl (WriteI_spec (l:=[b8 e.k] ++ txtW e.t) (f:=false) (C:=C) (K:=k) (r:=e.a) (by simp) hb0 hbb (by rw [laZ,List.length_singleton]; omega) ?_))
     repeat (conv=>whnf
             refine ⟨rfl,?_⟩)
     conv=>whnf
     exact ⟨[4],rfl,wr_ret (X:=[b8 e.k] ++ txtW e.t ++ rowW e.a) (by unfold evW; rw [if_neg k6', if_neg k5', if_pos (by omega),List.append_assoc]; rfl) rfl h⟩
end
section
variable {Q:V -> List O -> Prop}
theorem nulW_snoc {r:List Val} {j:Nat} (h:j < (r.length + 7) / 8):(nulW r).take (j + 1) = (nulW r).take j ++ [UInt8.ofNat (nulS r j 8)]:=by
 rw [List.take_add_one];congr 1
 unfold nulW;rw [List.getElem?_map,List.getElem?_range h]; rfl
theorem pow_t {t:Nat} (h:t <= 8):2 ^ t <= 256:=Nat.pow_le_pow_right (by decide) h
set_option maxHeartbeats 16000000 in
theorem R5Write_spec {r:List Val} (hr0:r ≠ []) (hr:RwB r) (h:Q (.ms 1 0 0 (rowW r).length false) [.buf (bs (rowW r))]) :
 ACall Tryz.prog 128 0 [.sl 3 (vals r) false] [] Q:=by
 refine by_body Tryz.func128 0 rfl (nbZ rfl) ?_;have hlv:=vals_len r;have hfew:=hr.few;have hrp:0 < r.length:=List.length_pos_iff.2 hr0
 conv=>whnf
 rw [hlv];obtain ⟨nb,hnb⟩:∃ nb,nb = (r.length + 7) / 8:=⟨_,rfl⟩;refine ⟨⟨[0,3,4,5],fun mm ws H=>∃ j:Nat,ws = [.sl 3 (vals r) false,.ms 1 0 0 j false,fI r.length,fI (8 * j:Nat)] /\ H = [.buf (bs ((nulW r).take j))] /\ j <= nb /\ mm = nb - j,
  .frz (nb + 1) (.adopt (.sub _ _ (.cons (VSub.refl _) (.cons (VSub.ms0 1 0 0 false) (VSubs.refl _))) (HSub.refl _) (.go [0] rfl nb (by omega) ⟨0,rfl,rfl,by omega,rfl⟩))),?_⟩⟩
 rintro mm ws H ⟨j,rfl,rfl,hj,rfl⟩
 conv=>whnf
 refine branch_i (fun c1=>?_) (fun c1=>?_)<;>try rw [c1]<;>conv=>whnf
 focus
  have c1' := dtZ c1;have hjn:j < nb:=by omega
  refine ⟨⟨[0,3,4,5,6,7,8],fun mm ws H=>∃ t:Nat,ws = [.sl 3 (vals r) false,.ms 1 0 0 j false,fI r.length,fI (8 * j:Nat),fI (nulS r j t),fI (2 ^ t:Nat),fI (8 * j + t:Nat)] /\ H = [.buf (bs ((nulW r).take j))] /\ t <= 8 /\ 8 * j + t <= r.length /\ mm = 8 - t,
   .at 8 ⟨0,rfl,rfl,by omega,by omega,rfl⟩,?_⟩⟩
  rintro mm ws H ⟨t,rfl,rfl,ht,htn,rfl⟩;have hlt:=nulS_lt r j t;have hpt:=pow_t ht
  conv=>whnf
  have e8:IntKind.i64.wrap (((8 * j:Nat):Int) + 8) = ((8 * (j + 1):Nat):Int):=by rw [wrapL (by omega)]; omega
  have fin:8 * j + t = r.length \/ t = 8 -> b8 ((nulS r j t:Nat):Int) = UInt8.ofNat (nulS r j 8):=fun hx=>by
   have:nulS r j 8 = nulS r j t:=by
    rcases hx with hx | hx
    . exact nulS_end r j t 8 (by omega) ht
    . rw [hx]
   rw [this];unfold b8;congr 1
   omega
  have hsn:=nulW_snoc (r:=r) (j:=j) (by omega)
  have htl:((nulW r).take j).length = j:=by rw [List.length_take,nulW_len]; omega
  have htl2:((nulW r).take (j + 1)).length = j + 1:=by rw [List.length_take,nulW_len]; omega
  refine branch_i (fun c2=>?_) (fun c2=>?_)<;>try rw [c2]<;>conv=>whnf
  rotate_left
  focus
   have c2' := dfZ c2;refine app_b1 (X:=(nulW r).take j) (k:=((nulS r j t:Nat):Int)) rfl rfl htl.symm (by omega) ?_
   rw [fin (by omega),<- hsn,htl2]
   conv=>whnf
   refine .go [2] rfl (nb - (j + 1)) (by omega) ⟨j + 1,?_,rfl,by omega,rfl⟩
   show [V.sl 3 (vals r) false,.ms 1 0 0 (j + 1) false,fI r.length,.int .i64 (IntKind.i64.wrap (((8 * j:Nat):Int) + 8))] = _
   rw [e8]
  have c2' := dtZ c2;refine branch_i (fun c3=>?_) (fun c3=>?_)<;>try rw [c3]<;>conv=>whnf
  rotate_left
  focus
   have c3' := dfZ c3;rw [e8] at c3';refine app_b1 (X:=(nulW r).take j) (k:=((nulS r j t:Nat):Int)) rfl rfl htl.symm (by omega) ?_
   rw [fin (by omega),<- hsn,htl2]
   conv=>whnf
   refine .go [2] rfl (nb - (j + 1)) (by omega) ⟨j + 1,?_,rfl,by omega,rfl⟩
   show [V.sl 3 (vals r) false,.ms 1 0 0 (j + 1) false,fI r.length,.int .i64 (IntKind.i64.wrap (((8 * j:Nat):Int) + 8))] = _
   rw [e8]
  have c3' := dtZ c3;rw [e8] at c3';have htt:t < 8:=by omega
  have hg:r[8 * j + t]? = some r[8 * j + t]:=lgZ (by omega)
  have hst:nulS r j (t + 1) = nulS r j t + (if r[8 * j + t].k = 0 then 2 ^ t else 0):=by
   show nulS r j t + (if ((r[8 * j + t]?).map Val.k) = some 0 then 2 ^ t else 0) = _
   rw [hg]; simp
  have hp2:2 ^ (t + 1) = 2 * 2 ^ t:=by rw [Nat.pow_succ,Nat.mul_comm]
  have hp7:2 ^ t <= 128:=Nat.pow_le_pow_right (n:=2) (by decide) (show t <= 7 by omega)
  generalize r[8 * j + t] = v at *
  have nx:∀ x:Int,x = (nulS r j (t + 1):Nat) -> [V.sl 3 (vals r) false,.ms 1 0 0 j false,fI r.length,fI (8 * j:Nat),.int .i64 x,.int .i64 (IntKind.i64.wrap (2 * ((2 ^ t:Nat):Int))),.int .i64 (IntKind.i64.wrap (((8 * j + t:Nat):Int) + 1))] =
   [V.sl 3 (vals r) false,.ms 1 0 0 j false,fI r.length,fI (8 * j:Nat),fI (nulS r j (t + 1)),fI (2 ^ (t + 1):Nat),fI (8 * j + (t + 1):Nat)]:=fun x hx=>by
   rw [wrapL (by omega),wrapL (by omega),hx,hp2,<- Nat.add_assoc]; rfl
  refine ⟨_,⟨by omega,vals_get hg⟩,?_⟩
  conv=>whnf
  refine branch_i (fun c4=>?_) (fun c4=>?_)<;>try rw [c4]<;>conv=>whnf
  focus
   have c4' := dtZ c4;refine .go [0] rfl (8 - (t + 1)) (by omega) ⟨t + 1,nx _ ?_,rfl,by omega,by omega,rfl⟩
   show IntKind.i64.wrap (((nulS r j t:Nat):Int) + ((2 ^ t:Nat):Int)) = _
   rw [hst,if_pos c4', wrapL (by omega)]; omega
  focus
   have c4' := dfZ c4;refine .go [0] rfl (8 - (t + 1)) (by omega) ⟨t + 1,nx _ ?_,rfl,by omega,by omega,rfl⟩
   rw [hst,if_neg c4']; rfl
 have c1' := dfZ c1;have hje:j = nb:=by omega
 subst hje;rw [List.take_of_length_le (by rw [nulW_len]; omega)]
 have hwl:j = (nulW r).length:=by rw [nulW_len]; exact hnb
 rw [hwl];refine ⟨⟨[0,3,4,9],fun mm ws H=>∃ (i:Nat) (X:List UInt8),ws = [.sl 3 (vals r) false,.ms 1 0 0 X.length false,fI r.length,fI i] /\ H = [.buf (bs X)] /\ X = nulW r ++ (r.take i).flatMap valW /\ i <= r.length /\ mm = r.length - i,
  .at r.length ⟨0,nulW r,rfl,rfl,by simp,by omega,rfl⟩,?_⟩⟩
 rintro mm ws H ⟨i,X,rfl,rfl,hX,hi,rfl⟩
 conv=>whnf
 refine branch_i (fun c1=>?_) (fun c1=>?_)<;>try rw [c1]<;>conv=>whnf
 rotate_left
 focus
  have c1' := dfZ c1;have hie:i = r.length:=by omega
  subst hie;rw [List.take_length] at hX;have hXr:X = rowW r:=hX;subst hXr;exact ⟨[0],rfl,h⟩
 have c1' := dtZ c1;have hlt:i < r.length:=by omega
 have hg:r[i]? = some r[i]:=lgZ hlt;have hvm:=List.getElem_mem hlt;have hsn:=valsW_snoc hg;have hvw:=vals_w (r:=r.take i) (fun v hv=>hr.t v (List.mem_of_mem_take hv))
 rw [List.length_take] at hvw;have hXl:X.length <= 2000000:=by
  rw [hX,laZ];have:min i r.length <= 64:=by omega
  omega
 have hn:=hr.n _ hvm;have htx:=hr.t _ hvm;generalize r[i] = v at *;have nx:∀ Y:List UInt8,[V.sl 3 (vals r) false,.ms 1 0 0 Y.length false,fI r.length,V.int .i64 (IntKind.i64.wrap ((i:Int) + 1))] = [V.sl 3 (vals r) false,.ms 1 0 0 Y.length false,fI r.length,fI ((i + 1:Nat):Int)]:=fun Y=>by
  rw [wrapL (by omega)]; rfl
 have hXn:∀ w,valW v = w -> X ++ w = nulW r ++ (r.take (i + 1)).flatMap valW:=fun w hw=>by rw [hsn,hX,hw,List.append_assoc]
 refine ⟨_,⟨by omega,vals_get hg⟩,?_⟩
 conv=>whnf
 refine branch_i (fun k1=>?_) (fun k1=>?_)<;>try rw [k1]<;>conv=>whnf
 focus
  have k1' := dtZ k1;refine app_b1 (X:=X) (k:=v.n) rfl rfl rfl (by omega) ?_
  conv=>whnf
  exact .go [3] rfl (r.length - (i + 1)) (by omega) ⟨i + 1,X ++ [b8 v.n],nx _,rfl,hXn _ (by unfold valW; rw [if_pos k1']),by omega,rfl⟩
 have k1' := dfZ k1;refine branch_i (fun k2=>?_) (fun k2=>?_)<;>try rw [k2]<;>conv=>whnf
 focus
  have k2' := dtZ k2;have hsl:=sgW_len v.n;refine .call [] 0 ⟨rfl,rfl,rfl⟩ (RWSigned_spec (n:=v.n) hn ?_)
  conv=>whnf
  refine app_bs (X:=X) (Y:=sgW v.n) rfl rfl rfl rfl rfl (by omega) ?_
  conv=>whnf
  exact .go [3] rfl (r.length - (i + 1)) (by omega) ⟨i + 1,X ++ sgW v.n,nx _,rfl,hXn _ (by unfold valW; rw [if_neg k1', if_pos k2']),by omega,rfl⟩
 have k2' := dfZ k2;have tail:v.k = 3 \/ v.k = 4 -> valW v = txtW v.t:=fun hk=>by unfold valW; rw [if_neg k1', if_neg k2', if_pos hk]
 have htl:=txtW_len v.t;refine branch_i (fun k3=>?_) (fun k3=>?_)<;>try rw [k3]<;>conv=>whnf
 focus
  have k3' := dtZ k3;refine .call [] 0 ⟨rfl,rfl,rfl⟩ (RWText_spec (s:=v.t) (by omega) ?_)
  conv=>whnf
  refine app_bs (X:=X) (Y:=txtW v.t) rfl rfl rfl rfl rfl (by omega) ?_
  conv=>whnf
  exact .go [3] rfl (r.length - (i + 1)) (by omega) ⟨i + 1,X ++ txtW v.t,nx _,rfl,hXn _ (tail (.inl k3')),by omega,rfl⟩
 have k3' := dfZ k3;refine branch_i (fun k4=>?_) (fun k4=>?_)<;>try rw [k4]<;>conv=>whnf
 focus
  have k4' := dtZ k4;refine .call [] 0 ⟨rfl,rfl,rfl⟩ (RWText_spec (s:=v.t) (by omega) ?_)
  conv=>whnf
  refine app_bs (X:=X) (Y:=txtW v.t) rfl rfl rfl rfl rfl (by omega) ?_
  conv=>whnf
  exact .go [3] rfl (r.length - (i + 1)) (by omega) ⟨i + 1,X ++ txtW v.t,nx _,rfl,hXn _ (tail (.inr k4')),by omega,rfl⟩
 have k4' := dfZ k4;refine .go [0] rfl (r.length - (i + 1)) (by omega) ⟨i + 1,X,nx _,rfl,?_,by omega,rfl⟩
 have:=hXn [] (by unfold valW; rw [if_neg k1', if_neg k2', if_neg (by omega)])
 rw [List.append_nil] at this;exact this
set_option maxHeartbeats 4000000 in
theorem Rcolumn_spec {c:Col} (hc:c.n.length <= 4096) (h:Q (.ms 1 0 0 (colW c).length false) [.buf (bs (colW c))]) :
 ACall Tryz.prog 129 0 [.agg [.str c.n,.int .i64 c.k,.bool c.o]] [] Q:=by
 refine by_body Tryz.func129 0 rfl (nbZ rfl) ?_;have htl:=txtW_len c.n
 conv=>whnf
 cases ho:c.o<;>conv=>whnf
 focus
  have e:colW c = txtW c.n ++ [b8 c.k,0]:=by unfold colW; rw [ho]; rfl
  rw [e] at h;refine ⟨[0,1,3,4,5,6,2,7,8,9],by kernel_rfl,by kernel_rfl,?_⟩
  repeat (conv=>whnf
          refine ⟨rfl,?_⟩)
  conv=>whnf
  refine .call [] 0 ⟨rfl,rfl,rfl⟩ (RWText_spec (s:=c.n) (by omega) ?_)
  repeat (conv=>whnf
          refine ⟨rfl,?_⟩)
  conv=>whnf
  refine app_b2 (X:=txtW c.n) (k:=c.k) (x:=0) rfl rfl rfl rfl (by omega) ?_
  repeat (conv=>whnf
          refine ⟨rfl,?_⟩)
  conv=>whnf
  exact ⟨[3],rfl,h⟩
 focus
  have e:colW c = txtW c.n ++ [b8 c.k,1]:=by unfold colW; rw [ho]; rfl
  rw [e] at h;refine ⟨[0,1,3,4,5,6,2,7,8,9],by kernel_rfl,by kernel_rfl,?_⟩
  repeat (conv=>whnf
          refine ⟨rfl,?_⟩)
  conv=>whnf
  refine .call [] 0 ⟨rfl,rfl,rfl⟩ (RWText_spec (s:=c.n) (by omega) ?_)
  repeat (conv=>whnf
          refine ⟨rfl,?_⟩)
  conv=>whnf
  refine app_b2 (X:=txtW c.n) (k:=c.k) (x:=1) rfl rfl rfl rfl (by omega) ?_
  repeat (conv=>whnf
          refine ⟨rfl,?_⟩)
  conv=>whnf
  exact ⟨[3],rfl,h⟩
theorem bs_take_all (Y:List UInt8):List.take Y.length (List.drop 0 (bs Y)) = bs Y:=by rw [List.drop_zero,<- bs_len Y,List.take_length]
theorem app_1bs {i j m:Nat} {k:Int} {f:Bool} {Y:List UInt8} {H:List O} {K:V -> List O -> Prop} (hij:Nat.beq i j = false) (hX:getO H i = .buf [[.int .u8 (IntKind.u8.wrap k)]]) (hY:getO H j = .buf (bs Y)) (hm:m = Y.length) (hY0:Y ≠ []) (hs:Y.length <= 70368744177)
 (hK:copyH (H ++ [.buf (bs (b8 k :: Y))]) fun H' => K (.ms 1 H.length 0 (b8 k :: Y).length false) H') :
 0 + m <= (bs Y).length /\ aapp 1 1 (.ms 1 i 0 1 true) (.ms 1 j 0 m f) (List.take m (List.drop 0 (bs Y))) H K:=by
 subst hm;refine ⟨by rw [bs_len]; omega,?_⟩
 rw [bs_take_all];unfold aapp sameBuf;unfold aappend;simp only [show Nat.beq 1 1 = true from rfl,hX]
 have e:List.take 1 (List.drop 0 [[V.int .u8 (IntKind.u8.wrap k)]]) ++ bs Y = bs (b8 k :: Y):=by
  rw [b8_wrap]; rfl
 have hne:bs Y ≠ []:=fun e=>hY0 (List.length_eq_zero_iff.1 (by rw [<- bs_len,e]; rfl))
 rw [e];refine ⟨Nat.le_refl _,fun e=>absurd e hne,fun _=>?_⟩
 unfold newBuf;rw [bs_len];exact ⟨by rw [List.length_cons]; omega,hK⟩
theorem app_11 {i j:Nat} {k c:Int} {f:Bool} {H:List O} {K:V -> List O -> Prop} (hX:getO H i = .buf [[.int .u8 (IntKind.u8.wrap k)]])
 (hK:copyH (H ++ [.buf (bs [b8 k,b8 c])]) fun H' => K (.ms 1 H.length 0 2 false) H') :
 0 + 1 <= 1 /\ aapp 1 1 (.ms 1 i 0 1 true) (.ms 1 j 0 1 f) [[.int .u8 (IntKind.u8.wrap c)]] H K:=by
 refine ⟨Nat.le_refl 1,?_⟩;unfold aapp sameBuf;unfold aappend;simp only [show Nat.beq 1 1 = true from rfl,hX]
 have e:List.take 1 (List.drop 0 [[V.int .u8 (IntKind.u8.wrap k)]]) ++ [[V.int .u8 (IntKind.u8.wrap c)]] = bs [b8 k,b8 c]:=by
  rw [b8_wrap,b8_wrap]; rfl
 rw [e];refine ⟨Nat.le_refl _,(fun e=>nomatch e),fun _=>?_⟩
 unfold newBuf;exact ⟨by simp [bs],hK⟩
theorem txtW_ne (s:List UInt8):txtW s ≠ []:=fun e=>by
 have h1:0 < (digW s.length).length:=digWF_pos 9 s.length;have:=congrArg List.length e;unfold txtW at this;rw [laZ,List.length_nil] at this;omega
theorem numW_ne (n:Int):numW n ≠ []:=fun e=>by
 have h1:0 < (numW n).length:=digWF_pos 9 n.toNat;rw [e] at h1; simp at h1
theorem rowW_len {r:List Val} (h:RwB r):(rowW r).length <= 300000:=by
 have:=vals_w (r:=r) h.t;have:=nulW_len r;have:=h.few;unfold rowW;rw [laZ]; omega
theorem wr_ret1 {n:Nat} {X W:List UInt8} (hx:X = W) (hn:n = X.length) (h:Q (.sl 1 (bs W) false) []):ARet 0 Q (.ms 1 0 0 n false) [.buf (bs X)]:=by
 subst hx hn;have hle:=bs_len X;refine .frz 0 rfl (by repeat (first | exact trivial | refine And.intro (by rw [hle,Nat.zero_add]; exact Nat.le_refl _) ?_)) (.done [] rfl ?_)
 show Q (.sl 1 (List.take X.length (List.drop 0 (bs X))) false) []
 rw [List.drop_zero,<- hle,List.take_length];exact h
set_option maxHeartbeats 16000000 in
theorem R6Write_spec {e:Evt} {l:List Tb} (hl:TbsB l) (hn:EvtN e) (hm:mayE e l = 0) (h:Q (.sl 1 (bs (evW e)) false) []) :
 ACall Tryz.prog 86 0 [evA e,.sl 3 (tbs l) false] [] Q:=by
 refine ACall.ret (by_body Tryz.func86 0 rfl (nbZ rfl) ?_);have hi:=mayE_inv hm;have hrow:=ev_row hl hn hm
 conv=>whnf
 refine branch_i (fun c1=>?_) (fun c1=>?_)<;>try rw [c1]<;>conv=>whnf
 focus
  have c1' := dtZ c1;refine branch_i (fun c2=>?_) (fun c2=>?_)<;>try rw [c2]<;>conv=>whnf
  focus
   have c2' := dtZ c2;obtain ⟨ht,C,k,hf,h5,h3⟩:=hrow (by unfold rowK; simp; omega)
   have htl:=txtW_len e.t;have htp:=txtW_ne e.t;refine .call [] 0 ⟨rfl,rfl,rfl⟩ (RWText_spec (s:=e.t) (by omega) ?_)
   conv=>whnf
   refine app_1bs (k:=e.k) (Y:=txtW e.t) rfl rfl rfl rfl htp (by omega) ?_
   conv=>whnf
   refine branch_i (fun c3=>?_) (fun c3=>?_)<;>try rw [c3]<;>conv=>whnf
   focus
    have k5:=dtZ c3;obtain ⟨_,hb0,hbb⟩:=h5 k5;refine .call [] 0 ⟨rfl,rfl,rfl⟩ (R5Write_spec (r:=e.b) hb0 hbb ?_)
    conv=>whnf
    have hrl:=rowW_len hbb;refine app_bs (X:=b8 e.k :: txtW e.t) (Y:=rowW e.b) rfl rfl rfl rfl rfl (by rw [List.length_cons]; omega) ?_
    conv=>whnf
    exact ⟨[5],rfl,wr_ret1 (X:=b8 e.k :: txtW e.t ++ rowW e.b) (by unfold evW; rw [if_neg (by omega),if_pos k5]; rfl) rfl h⟩
   focus
    have k5:=dfZ c3;obtain ⟨hb0,hbb⟩:=h3 k5;refine .call [] 0 ⟨rfl,rfl,rfl⟩ (R5Write_spec (r:=e.a) hb0 hbb ?_)
    conv=>whnf
    have hrl:=rowW_len hbb;refine app_bs (X:=b8 e.k :: txtW e.t) (Y:=rowW e.a) rfl rfl rfl rfl rfl (by rw [List.length_cons]; omega) ?_
    conv=>whnf
    exact ⟨[5],rfl,wr_ret1 (X:=b8 e.k :: txtW e.t ++ rowW e.a) (by unfold evW; rw [if_neg (by omega),if_neg k5,if_pos (by omega)]; rfl) rfl h⟩
 all_goals
  have hnr:¬ (3 <= e.k /\ e.k <= 5):=by
   first
   | (have:=dfZ c1; omega)
   | (have:=dfZ c2; omega)
  refine branch_i (fun c6=>?_) (fun c6=>?_)<;>try rw [c6]<;>conv=>whnf
  focus
   have k6:¬ e.k = 6:=by simpa using c6
   have hnn:0 <= e.n:=by
    cases hi with
    | ins k t a C K hk hf hfit=>exact Int.le_refl 0
    | del t b C K hf hfit hlen=>exact Int.le_refl 0
    | alt c hc=>exact Int.le_refl 0
    | num k n hk hn' => exact hn'
   have hnl:=numW_len e.n;refine .call [] 0 ⟨rfl,rfl,rfl⟩ (RWNumber_spec (n:=e.n) hnn hn.n.2 ?_)
   conv=>whnf
   refine app_1bs (k:=e.k) (Y:=numW e.n) rfl rfl rfl rfl (numW_ne _) (by omega) ?_
   conv=>whnf
   exact ⟨[3],rfl,wr_ret1 (X:=b8 e.k :: numW e.n) (by unfold evW; rw [if_neg k6,if_neg (by omega),if_neg (by omega)]) rfl h⟩
  have k6:e.k = 6:=by simpa using c6
  have hcb:ChB e.ch:=by
   cases hi with
   | ins k t a C K hk hf hfit=>simp only at k6; omega
   | del t b C K hf hfit hlen=>simp only at k6; omega
   | alt c hc=>exact hc.b
   | num k n hk hn=>have:=numK_is hk; simp only at k6; omega
  have he:evW e = b8 e.k :: chgW e.ch:=by unfold evW; rw [if_pos k6]
  rw [he] at h;generalize e.ch = c at *;refine app_11 (k:=e.k) (c:=c.k) rfl ?_
  conv=>whnf
  have htl:=txtW_len c.t;have hct:=hcb.t;refine .call [] 0 ⟨rfl,rfl,rfl⟩ (RWText_spec (s:=c.t) (by omega) ?_)
  conv=>whnf
  refine app_bs (X:=[b8 e.k,b8 c.k]) (Y:=txtW c.t) rfl rfl rfl rfl rfl (by simp only [List.length_cons,List.length_nil]; omega) ?_
  obtain ⟨X1,eX1⟩:∃ X1,X1 = [b8 e.k,b8 c.k] ++ txtW c.t:=⟨_,rfl⟩;have hX1:X1.length <= 10000:=by rw [eX1,laZ]; simp only [List.length_cons,List.length_nil]; omega
  rw [<- eX1]
  conv=>whnf
  have hR:∀ w,chgW c = b8 c.k :: (txtW c.t ++ w) -> X1 ++ w = b8 e.k :: chgW c:=fun w e' => by rw [e', eX1]; rfl
  refine branch_i (fun k1=>?_) (fun k1=>?_)<;>try rw [k1]<;>conv=>whnf
  focus
   have k1' := dtZ k1;have hcl:=cols_len c.c;have hfew:=hcb.few;refine app_b2 (X:=X1) (k:=c.ks) (x:=b8 c.c.length) rfl rfl rfl (by rw [<- b8_wrap,<- hcl]) (by omega) ?_
   conv=>whnf
   obtain ⟨X2,eX2⟩:∃ X2,X2 = X1 ++ [b8 c.ks,b8 c.c.length]:=⟨_,rfl⟩;have hX2:X2.length <= 10002:=by rw [eX2,laZ]; simp only [List.length_cons,List.length_nil]; omega
   rw [<- eX2];refine ⟨⟨[5,7,8],fun mm ws H=>∃ (i:Nat) (X:List UInt8),ws = [.ms 1 0 0 X.length false,.ptr 1 0,fI i] /\ H = [.buf (bs X),.cells (chC c)] /\ X = X2 ++ (c.c.take i).flatMap colW /\ i <= c.c.length /\ mm = c.c.length - i,
    .frz (c.c.length + 1) (.go [8,2] rfl c.c.length (by omega) ⟨0,X2,rfl,rfl,by simp,by omega,rfl⟩),?_⟩⟩
   rintro mm ws H ⟨i,X,rfl,rfl,hX,hi,rfl⟩
   conv=>whnf
   rw [hcl];refine branch_i (fun c1=>?_) (fun c1=>?_)<;>try rw [c1]<;>conv=>whnf
   rotate_left
   focus
    have c1' := dfZ c1;have hie:i = c.c.length:=by omega
    subst hie;rw [List.take_length] at hX;have e' : X = b8 e.k :: chgW c:=by
     rw [hX,eX2,List.append_assoc];exact hR _ (by unfold chgW; rw [if_pos k1']; rfl)
    exact ⟨[0],rfl,wr_ret1 (X:=X) e' rfl h⟩
   have c1' := dtZ c1;have hlt:i < c.c.length:=by omega
   have hg:c.c[i]? = some c.c[i]:=lgZ hlt;have hxm:=List.getElem_mem hlt;have hsn:=colsW_snoc hg;have hvw:=cols_w (l:=c.c.take i) (fun v hv=>hcb.names v (List.mem_of_mem_take hv))
   rw [List.length_take] at hvw;have hXl:X.length <= 1000000:=by
    rw [hX,laZ];have:min i c.c.length <= 64:=by omega
    omega
   have hxn:=hcb.names _ hxm;generalize c.c[i] = x at *;refine ⟨_,⟨by omega,cols_get hg⟩,?_⟩
   conv=>whnf
   refine .call [] 0 ⟨rfl,rfl,rfl⟩ (Rcolumn_spec (c:=x) hxn ?_)
   conv=>whnf
   have hcw:=colW_len hxn;refine app_bs (X:=X) (Y:=colW x) rfl rfl rfl rfl rfl (by omega) ?_
   conv=>whnf
   refine .go [3,1] rfl (c.c.length - (i + 1)) (by omega) ⟨i + 1,X ++ colW x,?_,rfl,by rw [hsn,hX,List.append_assoc],by omega,rfl⟩
   show [V.ms 1 0 0 (X ++ colW x).length false,.ptr 1 0,V.int .i64 (IntKind.i64.wrap ((i:Int) + 1))] = _
   rw [wrapL (by omega)]; rfl
  have k1' := dfZ k1;have hcw:=colW_len hcb.col;refine branch_i (fun k3=>?_) (fun k3=>?_)<;>try rw [k3]<;>conv=>whnf
  focus
   have k3' := dtZ k3;refine .call [] 0 ⟨rfl,rfl,rfl⟩ (Rcolumn_spec (c:=c.col) hcb.col ?_)
   conv=>whnf
   refine app_bs (X:=X1) (Y:=colW c.col) rfl rfl rfl rfl rfl (by omega) ?_
   conv=>whnf
   exact ⟨[8],rfl,wr_ret1 (X:=X1 ++ colW c.col) (hR _ (by unfold chgW; rw [if_neg k1', if_pos (.inl k3')])) rfl h⟩
  have k3' := dfZ k3;refine branch_i (fun k5=>?_) (fun k5=>?_)<;>try rw [k5]<;>conv=>whnf
  focus
   have k5' := dtZ k5;refine .call [] 0 ⟨rfl,rfl,rfl⟩ (Rcolumn_spec (c:=c.col) hcb.col ?_)
   conv=>whnf
   refine app_bs (X:=X1) (Y:=colW c.col) rfl rfl rfl rfl rfl (by omega) ?_
   conv=>whnf
   exact ⟨[8],rfl,wr_ret1 (X:=X1 ++ colW c.col) (hR _ (by unfold chgW; rw [if_neg k1', if_pos (.inr k5')])) rfl h⟩
  have k5' := dfZ k5;refine branch_i (fun k4=>?_) (fun k4=>?_)<;>try rw [k4]<;>conv=>whnf
  focus
   have k4' := dtZ k4;have hcc:=hcb.col;have htl2:=txtW_len c.col.n;refine .call [] 0 ⟨rfl,rfl,rfl⟩ (RWText_spec (s:=c.col.n) (by omega) ?_)
   conv=>whnf
   refine app_bs (X:=X1) (Y:=txtW c.col.n) rfl rfl rfl rfl rfl (by omega) ?_
   conv=>whnf
   exact ⟨[8],rfl,wr_ret1 (X:=X1 ++ txtW c.col.n) (hR _ (by unfold chgW; rw [if_neg k1', if_neg (by omega),if_pos k4'])) rfl h⟩
  have k4' := dfZ k4;have e' := hR [] (by unfold chgW; rw [if_neg k1', if_neg (by omega),if_neg k4'])
  rw [List.append_nil] at e';exact ⟨[6],rfl,wr_ret1 (X:=X1) e' rfl h⟩
end
section
variable {Q:V -> List O -> Prop}
end
section
variable {Q:V -> List O -> Prop}
end
section
end
section
end
section
variable {Q:V -> List O -> Prop}
end
section
variable {Q:V -> List O -> Prop}
def evtZ:Evt:=⟨0,0,[],[],[],chg0⟩
end
section
variable {Q:V -> List O -> Prop}
end
section
variable {Q:V -> List O -> Prop}
end
section
variable {Q:V -> List O -> Prop}
theorem i64_0:I64 0:=⟨by decide,by decide⟩
end
section
variable {Q:V -> List O -> Prop}
theorem insT_wrap {n:Int} (h:-9223372036854775808 <= n /\ n <= 9223372036854775807):IntKind.i64.wrap n = n:=by rw [IntKind.wrap_i64]; omega
theorem overlapsT_ext {H:List O} {i a n j b m:Nat} {f g:Bool} (hij:i ≠ j) (hi:IsBuf (getO H i)) (hj:IsBuf (getO H j)):AExt Tryz.prog 168 [.ms 3 i a n f,.ms 3 j b m g] H (.bool false):=⟨fun I ρ w us hst h=>by
 obtain ⟨u0,l0,e0,h0,h⟩:=h.cons_inv;obtain ⟨u1,l1,e1,h1,h⟩:=h.cons_inv;have e2:l1 = []:=List.eq_nil_of_length_eq_zero h.1.symm;have eu:us = #[u0,u1]:=by
  apply Array.ext';rw [e0,e1,e2]
 subst eu;refine ⟨_,?_,.bool _ _⟩;rw [run_callFunc_extern Tryz.func168 (by kernel_rfl) (by kernel_rfl) (by kernel_rfl) (e:=Extern.SlicesOverlaps.overlaps #[25,25] #[4]) (by kernel_rfl)]
 rw [overlaps_run Tryz.underlying25 (size:=3) Tryz.sizeOf48 hst (by decide) hij hi hj h0 h1]
 rfl⟩
theorem new_as {z b n B:Nat} {X Y:List (List V)} {H:List O} {K:V -> List O -> Prop} (hX:X = Y) (hn:Y.length = n) (hB:b <= B) (hs:n * B <= 70368744177664) (hK:copyH (H ++ [.buf Y]) fun H' => K (.ms z H.length 0 n false) H'):newBuf z b X H K:=by
 subst hX;subst hn;exact ⟨Nat.le_trans (Nat.mul_le_mul_left _ hB) hs,hK⟩
theorem take_app1 {α:Type} (A B:List α):List.take A.length (A ++ B) = A:=by simp
theorem ins_rows {es Y Y1 Y2:List (List V)} {x:List V} {i k m:Nat} (hlt:i <= es.length) (hk:k = 1) (hm:m = es.length - i) (hYl:Y.length = es.length + 1) (hYt:Y.take i = es.take i)
 (h1:Y1 = List.take (i + 0) Y ++ List.take k (List.drop 0 [x]) ++ List.drop (i + 0 + k) Y) (h2:Y2 = List.take (i + 1 + 0) Y1 ++ List.take m (List.drop (i + 0) es) ++ List.drop (i + 1 + 0 + m) Y1) :
 Y2 = es.take i ++ [x] ++ es.drop i:=by
 subst hk;simp only [Nat.add_zero,List.drop_zero,hYt] at h1 h2;have e1:List.take 1 [x] = [x]:=rfl;rw [e1] at h1;have hl:(es.take i ++ [x]).length = i + 1:=by rw [laZ,List.length_take,List.length_singleton]; omega
 have e2:List.take (i + 1) Y1 = es.take i ++ [x]:=by rw [h1,<- hl]; exact take_app1 _ _
 have e3:List.drop (i + 1 + m) Y1 = []:=by
  apply List.drop_eq_nil_of_le;rw [h1,laZ,hl,List.length_drop]; omega
 have e4:List.take m (List.drop i es) = List.drop i es:=List.take_of_length_le (by rw [List.length_drop]; omega)
 rw [h2,e2,e3,e4,List.append_nil]
theorem ins_rows2 {es E Y1 Y2:List (List V)} {x:List V} {i k n m:Nat} (hlt:i < es.length) (hm:0 < m) (hn:n = es.length - i) (hk:k = 1) (hE:E = es ++ List.replicate m [])
 (h1:Y1 = List.take (i + 1 + 0) E ++ List.take n (List.drop (i + 0) E) ++ List.drop (i + 1 + 0 + n) E) (h2:Y2 = List.take (i + 0) Y1 ++ List.take k (List.drop 0 [x]) ++ List.drop (i + 0 + k) Y1) :
 Y2 = es.take i ++ [x] ++ es.drop i ++ List.replicate (m - 1) []:=by
 subst hk;simp only [Nat.add_zero,List.drop_zero] at h1 h2;have e1:List.take 1 [x] = [x]:=rfl;rw [e1] at h2;have d1:List.drop i E = es.drop i ++ List.replicate m []:=by rw [hE,List.drop_append_of_le_length (by omega)]
 have t1:List.take n (List.drop i E) = es.drop i:=by
  rw [d1,show n = (es.drop i).length by rw [List.length_drop]; exact hn]; exact take_app1 _ _
 have d2:List.drop (i + 1 + n) E = List.replicate (m - 1) []:=by
  rw [hE,List.drop_append,List.drop_eq_nil_of_le (by omega),List.nil_append,List.drop_replicate]
  congr 1; omega
 rw [t1,d2] at h1;have l1:(List.take (i + 1) E).length = i + 1:=by rw [List.length_take,hE,laZ,List.length_replicate]; omega
 have t2:List.take i Y1 = es.take i:=by
  rw [h1,List.append_assoc,List.take_append_of_le_length (by omega),List.take_take,show min i (i + 1) = i by omega,hE,List.take_append_of_le_length (by omega)]
 have d3:List.drop (i + 1) Y1 = es.drop i ++ List.replicate (m - 1) []:=by
  rw [h1,List.append_assoc,List.drop_append_of_le_length (by omega),List.drop_eq_nil_of_le (by omega),List.nil_append]
 rw [h2,t2,d3,<- List.append_assoc]
set_option maxRecDepth 8000 in
set_option maxHeartbeats 16000000 in
theorem InsertT_spec {es:List (List V)} {x:List V} {i:Nat} (hl:es.length <= 1000) (hi:i <= es.length) (hne:∀ r ∈ es,r ≠ []) (hx:x ≠ []) (h:Q (.ms 3 0 0 (es.length + 1) false) [.buf (es.take i ++ [x] ++ es.drop i)]) :
 ACall Tryz.prog 140 0 [.ms 3 0 0 es.length false,fI i,.ms 3 1 0 1 true] [.buf es,.buf [x]] Q:=by
 refine ACall.ret (by_body Tryz.func140 0 rfl (nbZ rfl) ?_)
 conv=>whnf
 refine ⟨⟨by omega,by omega⟩,?_⟩
 conv=>whnf
 refine branch_i (fun c1=>?_) (fun c1=>?_)<;>try rw [c1]<;>conv=>whnf
 . have c1' := dtZ c1;have hin:i = es.length:=by omega
   subst hin;refine ⟨Nat.le_refl 1,?_⟩;refine app_gen rfl rfl rfl (Nat.le_trans (Nat.mul_le_mul_right _ (Nat.add_le_add hl (show 1 <= 1 by omega))) (show (1000 + 1) * 48 <= 70368744177664 by omega)) ?_
   conv=>whnf
   refine ⟨[2],rfl,.done [0] rfl ?_⟩;rw [List.take_length,List.drop_length,List.append_nil] at h;exact h
 have c1' := dfZ c1;have hlt:i < es.length:=by omega
 refine ⟨⟨by omega,by omega⟩,fun m=>?_⟩
 conv=>whnf
 have hw1:IntKind.i64.wrap ((es.length:Int) + ((1:Nat):Int)) = ((es.length + 1:Nat):Int):=by rw [insT_wrap (by omega)]; omega
 have hi1:IntKind.i64.wrap ((i:Int) + 1) = ((i + 1:Nat):Int):=by rw [insT_wrap (by omega)]; omega
 have hi2:IntKind.i64.wrap ((i:Int) + ((1:Nat):Int)) = ((i + 1:Nat):Int):=hi1;rw [hw1];refine branch_i (fun c2=>?_) (fun c2=>?_)<;>try rw [c2]<;>conv=>whnf
 . have c2' := dtZ c2;have hm0:m = 0:=by omega
   subst hm0;refine ⟨by omega,?_⟩
   conv=>whnf
   have hw3:IntKind.i64.wrap (IntKind.i64.wrap ((es.length:Int) + ((1:Nat):Int)) - (i:Int)) = ((es.length + 1 - i:Nat):Int):=by rw [hw1,insT_wrap (by omega)]; omega
   rw [hw3];refine ⟨⟨by omega,by omega,?_,?_,?_⟩,?_⟩
   all_goals try rw [show (es ++ List.replicate 0 []) = es from List.append_nil es]
   . omega
   . omega
   . intro r hr;exact hne r (List.mem_of_mem_take hr)
   obtain ⟨Y,hY⟩:∃ Y,Y = List.take i (List.drop 0 es) ++ List.replicate (es.length + 1 - i) ((cx Tryz.f140.ntmps 0).T 48).zero:=⟨_,rfl⟩;have hYl:Y.length = es.length + 1:=by rw [hY,laZ,List.length_take,List.length_replicate,List.drop_zero]; omega
   refine new_as (B:=48) (n:=es.length + 1) (Y:=Y) hY.symm hYl (by decide) (by omega) ?_
   conv=>whnf
   refine ⟨by omega,?_⟩
   conv=>whnf
   have hm1:min 1 (es.length + 1 - (i:Int).toNat) = 1:=by omega
   refine ⟨by omega,⟨by omega,?_⟩,?_,?_⟩
   . rw [hm1];exact Nat.le_refl 1
   . omega
   obtain ⟨Y1,hY1⟩:∃ Y1,Y1 = (List.take ((i:Int).toNat + 0) Y ++ List.take (min 1 (es.length + 1 - (i:Int).toNat)) (List.drop 0 [x]) ++ List.drop ((i:Int).toNat + 0 + min 1 (es.length + 1 - (i:Int).toNat)) Y):=⟨_,rfl⟩;rw [<- hY1]
   conv=>whnf
   refine ⟨[0,1,2,3,4,5,6,7,8],by kernel_rfl,by kernel_rfl,?_⟩
   conv=>whnf
   rw [hi2];refine ⟨by omega,?_⟩
   conv=>whnf
   refine ⟨by omega,?_⟩
   conv=>whnf
   have hY1l:Y1.length = es.length + 1:=by
    rw [hY1,hm1,laZ,laZ,List.length_take,List.length_drop,hYl,show (List.take 1 (List.drop 0 [x])).length = 1 from rfl]; omega
   have hm2:min (es.length - (i:Int).toNat) (es.length + 1 - ((i + 1:Nat):Int).toNat) = es.length - i:=by omega
   refine ⟨by omega,⟨by omega,by omega,?_⟩,by omega,?_⟩
   . intro r hr;exact hne r (List.mem_of_mem_drop (List.mem_of_mem_take hr))
   obtain ⟨Y2,hY2⟩:∃ Y2,Y2 = (List.take (((i + 1:Nat):Int).toNat + 0) Y1 ++ List.take (min (es.length - (i:Int).toNat) (es.length + 1 - ((i + 1:Nat):Int).toNat)) (List.drop ((i:Int).toNat + 0) es) ++
    List.drop (((i + 1:Nat):Int).toNat + 0 + min (es.length - (i:Int).toNat) (es.length + 1 - ((i + 1:Nat):Int).toNat)) Y1):=⟨_,rfl⟩
   rw [<- hY2]
   conv=>whnf
   refine ⟨[2],rfl,.done [0] rfl ?_⟩;show Q (.ms 3 0 0 (es.length + 1) false) [.buf Y2]
   rw [ins_rows hi hm1 hm2 hYl ?_ hY1 hY2]
   . exact h
   rw [hY,List.drop_zero];have:i = (List.take i es).length:=by rw [List.length_take]; omega
   conv=>lhs; arg 1; rw [this]
   exact take_app1 _ _
 . have c2' := dfZ c2;rw [hw1];refine ⟨⟨by omega,.inr ⟨by omega,?_⟩⟩,?_⟩
   . show 0 + (es.length + 1) <= (es ++ List.replicate m []).length
     rw [laZ,List.length_replicate];omega
   conv=>whnf
   rw [hi2];refine ⟨by omega,?_⟩
   conv=>whnf
   refine ⟨_,overlapsT_ext (by decide) (by simp [getO,IsBuf]) (by simp [getO,IsBuf]),?_⟩
   conv=>whnf
   refine ⟨[0,1,2,3,4,5,6,7,8],by kernel_rfl,by kernel_rfl,?_⟩
   conv=>whnf
   rw [hi2];refine ⟨by omega,?_⟩
   conv=>whnf
   refine ⟨by omega,?_⟩
   conv=>whnf
   have hm0:0 < m:=by omega
   have hm2:min (((es.length + 1:Nat):Int).toNat - (i:Int).toNat) (((es.length + 1:Nat):Int).toNat - ((i + 1:Nat):Int).toNat) = es.length - i:=by omega
   have hEl:(es ++ List.replicate m ([]:List V)).length = es.length + m:=by rw [laZ,List.length_replicate]
   refine ⟨by omega,⟨by omega,by rw [hEl]; omega,?_⟩,by rw [hEl]; omega,?_⟩
   . intro r hr;rw [hm2,show ((i:Int).toNat + 0) = i from rfl,List.drop_append_of_le_length (by omega),show es.length - i = (es.drop i).length by rw [List.length_drop],take_app1] at hr
     exact hne r (List.mem_of_mem_drop hr)
   obtain ⟨Y1,hY1⟩:∃ Y1,Y1 = (List.take (((i + 1:Nat):Int).toNat + 0) (es ++ List.replicate m ([]:List V)) ++ List.take (min (((es.length + 1:Nat):Int).toNat - (i:Int).toNat) (((es.length + 1:Nat):Int).toNat - ((i + 1:Nat):Int).toNat)) (List.drop ((i:Int).toNat + 0) (es ++ List.replicate m ([]:List V))) ++
    List.drop (((i + 1:Nat):Int).toNat + 0 + min (((es.length + 1:Nat):Int).toNat - (i:Int).toNat) (((es.length + 1:Nat):Int).toNat - ((i + 1:Nat):Int).toNat)) (es ++ List.replicate m ([]:List V))):=⟨_,rfl⟩
   rw [<- hY1]
   conv=>whnf
   refine ⟨by omega,?_⟩
   conv=>whnf
   have hm3:min 1 (((es.length + 1:Nat):Int).toNat - (i:Int).toNat) = 1:=by omega
   have hY1l:Y1.length = es.length + m:=by
    rw [hY1,hm2,laZ,laZ,List.length_take,List.length_drop,List.length_take,List.length_drop,hEl]; omega
   refine ⟨by omega,⟨by omega,by rw [hm3]; exact Nat.le_refl 1⟩,by rw [hY1l]; omega,?_⟩
   obtain ⟨Y2,hY2⟩:∃ Y2,Y2 = (List.take ((i:Int).toNat + 0) Y1 ++ List.take (min 1 (((es.length + 1:Nat):Int).toNat - (i:Int).toNat)) (List.drop 0 [x]) ++ List.drop ((i:Int).toNat + 0 + min 1 (((es.length + 1:Nat):Int).toNat - (i:Int).toNat)) Y1):=⟨_,rfl⟩;rw [<- hY2];have hr:=ins_rows2 hlt hm0 hm2 hm3 rfl hY1 hY2
   conv=>whnf
   refine ⟨[0],rfl,?_⟩
   conv=>whnf
   show ARet 0 Q (.ms 3 0 0 (es.length + 1) false) [.bufc Y2]
   have hzl:(es.take i ++ [x] ++ es.drop i).length = es.length + 1:=by
    rw [laZ,laZ,List.length_take,List.length_drop,List.length_singleton]; omega
   have hYt:Y2.take (es.length + 1) = es.take i ++ [x] ++ es.drop i:=by
    rw [hr,<- hzl]; exact take_app1 _ _
   refine .sub _ _ (.refl _) (.cons (.bufc Y2 (es.length + 1) ?_ ?_) (HSub.refl _)) (.done [0] rfl ?_)
   . intro r hr;rw [hYt] at hr;simp only [List.mem_append,List.mem_singleton] at hr;rcases hr with (hr | hr) | hr
     . exact hne r (List.mem_of_mem_take hr)
     . rw [hr]; exact hx
     . exact hne r (List.mem_of_mem_drop hr)
   . intro h0;rw [h0] at hYt;have:=congrArg List.length hYt;rw [hzl] at this;simp at this
   . show Q (.ms 3 0 0 (es.length + 1) false) [.buf (Y2.take (es.length + 1))]
     rw [hYt];exact h
end
section
variable {Q:V -> List O -> Prop}
theorem CloneF_spec {l:List Col} {keys:Int} (hl:l.length < 1000000) (h:Q (sch l keys) []):ACall Tryz.prog 76 0 [sch l keys] [] Q:=by
 refine ACall.ret (Clone_spec hl (.frz 0 rfl (by repeat (first | exact trivial | refine And.intro (Nat.le_of_eq (by rw [cols_len,Nat.zero_add])) ?_)) (.done [] rfl ?_)))
 show Q (.agg [.sl 3 (List.take l.length (cols l)) false,fI keys]) []
 rw [List.take_of_length_le (by rw [cols_len]; exact Nat.le_refl _)]
 exact h
theorem app_tb {i j n:Nat} {f:Bool} {X:List Tb} {w:Tb} {H:List O} {K:V -> List O -> Prop} (hij:Nat.beq i j = false) (hX:getO H i = .buf (tbs X)) (hn:n = X.length) (hs:X.length <= 1000000)
 (hK:copyH (setO H i .dead ++ [.buf (tbs (X ++ [w]))]) fun H' => K (.ms 3 (setO H i .dead).length 0 (X ++ [w]).length false) H') :
 0 + 1 <= 1 /\ aapp 3 48 (.ms 3 i 0 n false) (.ms 3 j 0 1 f) [tbC w] H K:=by
 subst hn;refine ⟨Nat.le_refl 1,?_⟩;unfold aapp sameBuf;simp only [hij];unfold aappend;simp only [show Nat.beq 3 3 = true from rfl,hX,List.drop_zero]
 refine ⟨by rw [tbs_len]; rfl,?_⟩
 rw [show tbs X ++ [tbC w] = tbs (X ++ [w]) by rw [tbs_app]; rfl]
 unfold newBuf;rw [tbs_len];exact ⟨by rw [laZ,List.length_singleton]; omega,hK⟩
set_option maxHeartbeats 4000000 in
theorem TClone_spec {l:List Tb} (hl:l.length <= 64) (hc:∀ x ∈ l,x.c.length < 1000000) (h:Q (.ms 3 0 0 l.length false) [.buf (tbs l)]):ACall Tryz.prog 100 0 [.sl 3 (tbs l) false] [] Q:=by
 refine ACall.ret (by_body Tryz.func100 0 rfl (nbZ rfl) ?_)
 conv=>whnf
 have hlv:=tbs_len l;refine ⟨⟨[3,6,7,8],fun m ws H=>∃ i:Nat,ws = [.ms 3 0 0 i false,.sl 3 (tbs l) false,fI (tbs l).length,fI i] /\ H = [.buf (tbs (l.take i))] /\ i <= l.length /\ m = l.length - i,?_,?_⟩⟩
 . refine .frz (l.length + 1) (.adopt (.sub _ _ (.cons (VSub.ms0 3 0 0 false) (VSubs.refl _)) (HSub.refl _) (.go [0] rfl l.length (by omega) ⟨0,rfl,rfl,by omega,rfl⟩)))
 rintro m ws H ⟨i,rfl,rfl,hi,rfl⟩
 conv=>whnf
 refine branch_i (fun c1=>?_) (fun c1=>?_)<;>try rw [c1]<;>conv=>whnf
 rotate_left
 focus
  have c1' := dfZ c1;have:i = l.length:=by omega
  subst this;rw [List.take_length];exact ⟨[0],rfl,.done [0] rfl h⟩
 have c1' := dtZ c1;have hlt:i < l.length:=by omega
 have hg:l[i]? = some l[i]:=lgZ hlt;have hcw:=hc l[i] (List.getElem_mem hlt);generalize l[i] = w at *;refine ⟨_,⟨by omega,tbs_get hg⟩,?_⟩
 conv=>whnf
 refine ⟨List.range 10,by kernel_rfl,by kernel_rfl,?_⟩
 conv=>whnf
 refine .pure (CloneF_spec (l:=w.c) (keys:=w.k) hcw ⟨rfl,?_⟩)
 repeat (conv=>whnf
         refine ⟨rfl,?_⟩)
 conv=>whnf
 have hsn:l.take (i + 1) = l.take i ++ [w]:=by rw [List.take_add_one,hg]; rfl
 refine app_tb (X:=l.take i) (w:=w) rfl rfl (by rw [List.length_take]; omega) (by rw [List.length_take]; omega) ?_
 rw [<- hsn];have hln:(l.take (i + 1)).length = i + 1:=by rw [List.length_take]; omega
 rw [hln]
 conv=>whnf
 refine .go [3] rfl (l.length - (i + 1)) (by omega) ⟨i + 1,?_,rfl,by omega,rfl⟩
 show [V.ms 3 0 0 (i + 1) false,.sl 3 (tbs l) false,fI (tbs l).length,V.int .i64 (IntKind.i64.wrap ((i:Int) + 1))] = _
 rw [wrapE (by omega)]; rfl
theorem tbs_ins (l:List Tb) (t:Tb):(tbs l).take (posT l t.n) ++ [tbC t] ++ (tbs l).drop (posT l t.n) = tbs (insT l t):=by
 unfold insT tbs;simp [List.map_take,List.map_drop]
theorem tbs_ne {l:List Tb}:∀ r ∈ tbs l,r ≠ []:=by
 intro r hr;unfold tbs at hr;obtain ⟨w,_,rfl⟩:=List.mem_map.1 hr;exact List.cons_ne_nil _ _
def creE (l:List Tb) (t:List UInt8) (cs:List Col) (ks:Int):List Tb × Int :=
 if nameOk t = false then ([],6) else if (atT l t).isSome then ([],8) else if mayS cs ks = false then ([],1) else if 64 <= l.length then ([],13) else (insT l ⟨t,cs,ks⟩,0)
set_option maxHeartbeats 16000000 in
theorem Create_spec {l:List Tb} {c:Chg} (hl:l.length <= 64) (hc:∀ x ∈ l,x.c.length < 1000000) (h:Q (folR (creE l c.t c.c c.ks)) []) :
 ACall Tryz.prog 98 0 [.sl 3 (tbs l) false,fI (posT l c.t),.bool (atT l c.t).isSome,chA c] [] Q:=by
 refine ACall.ret (by_body Tryz.func98 0 rfl (nbZ rfl) ?_)
 conv=>whnf
 have hlv:=tbs_len l;have hp:=posT_le l c.t;unfold creE at h;refine .pure (Name_spec ⟨rfl,?_⟩)
 conv=>whnf
 cases hn:nameOk c.t<;>rw [hn] at h<;>conv=>whnf
 . exact ⟨[],rfl,.sub _ _ (err_fol _) (HSub.refl _) (.done [] rfl h)⟩
 rw [if_neg (by simp)] at h
 cases ha:(atT l c.t).isSome<;>rw [ha] at h<;>conv=>whnf
 rotate_left
 . exact ⟨[],rfl,.sub _ _ (err_fol _) (HSub.refl _) (.done [] rfl h)⟩
 rw [if_neg (by simp)] at h
 refine .pure (May_any (l:=c.c) (keys:=c.ks) ⟨rfl,?_⟩)
 conv=>whnf
 cases hm:mayS c.c c.ks<;>rw [hm] at h<;>conv=>whnf
 . exact ⟨[],rfl,.sub _ _ (err_fol _) (HSub.refl _) (.done [] rfl h)⟩
 rw [if_neg (by simp)] at h
 refine branch_i (fun c1=>?_) (fun c1=>?_)<;>try rw [c1]<;>conv=>whnf
 . have c1' := dtZ c1;rw [if_pos (by omega)] at h
   exact ⟨[],rfl,.sub _ _ (err_fol _) (HSub.refl _) (.done [] rfl h)⟩
 have c1' := dfZ c1;rw [if_neg (by omega)] at h
 have hb:=may_bd hm;refine ⟨[0,2,3,4,5,6,1,7,8,9,10,11,12],by kernel_rfl,by kernel_rfl,?_⟩
 conv=>whnf
 refine .call [] 0 ⟨rfl,rfl,rfl⟩ (TClone_spec hl hc ?_)
 repeat (conv=>whnf
         refine ⟨rfl,?_⟩)
 conv=>whnf
 refine .pure (CloneF_spec (l:=c.c) (keys:=c.ks) (by omega) ⟨rfl,?_⟩)
 repeat (conv=>whnf
         refine ⟨rfl,?_⟩)
 conv=>whnf
 refine .call [1,2] 2 ⟨rfl,rfl,rfl⟩ (ACall.stay 2 rfl ?_);show ACall Tryz.prog 140 0 [.ms 3 0 0 l.length false,fI (posT l c.t),.ms 3 1 0 1 true] [.buf (tbs l),.buf [tbC ⟨c.t,c.c,c.ks⟩]] _
 rw [<- hlv];refine InsertT_spec (by omega) (by omega) tbs_ne (List.cons_ne_nil _ _) ?_
 have hti:=tbs_ins l ⟨c.t,c.c,c.ks⟩;rw [show List.take (posT l c.t) (tbs l) ++ [tbC ⟨c.t,c.c,c.ks⟩] ++ List.drop (posT l c.t) (tbs l) = _ from hti]
 repeat (conv=>whnf
         refine ⟨rfl,?_⟩)
 conv=>whnf
 refine fol_ret (j:=3) (L:=insT l ⟨c.t,c.c,c.ks⟩) rfl (by rw [insT_len,tbs_len]) (show 3 < 4 by decide) h
theorem Follow1_spec {l:List Tb} {c:Chg} (hl:l.length <= 64) (hs:SortedT l) (hk:c.k = 1) (hc:∀ x ∈ l,x.c.length < 1000000) (h:Q (folR (creE l c.t c.c c.ks)) []) :
 ACall Tryz.prog 58 0 [.sl 3 (tbs l) false,chA c] [] Q:=by
 refine by_body Tryz.func58 0 rfl (nbZ rfl) ?_
 conv=>whnf
 refine .pure (evat_spec (by omega) hs ⟨rfl,?_⟩)
 conv=>whnf
 rw [decide_eq_true hk]
 conv=>whnf
 refine .pure (Create_spec hl hc ⟨rfl,?_⟩);unfold folR
 conv=>whnf
 exact ⟨[],rfl,h⟩
end
section
variable {Q:V -> List O -> Prop}
theorem tbs_erase (l:List Tb) (i:Nat):tbs (l.eraseIdx i) = (tbs l).take i ++ (tbs l).drop (i + 1):=by
 rw [List.eraseIdx_eq_take_drop_succ]; simp [tbs]
theorem del_ret {n:Nat} {C B:List (List V)} (hC:C.take n = B) (hn:n <= C.length) (h:Q (.sl 3 B false) []):ARet 0 Q (.ms 3 0 0 n false) [.buf C]:=by
 refine .frz 0 rfl (by repeat (first | exact trivial | refine And.intro (Nat.le_trans (Nat.le_of_eq (Nat.zero_add _)) hn) ?_)) (.done [] rfl ?_)
 show Q (.sl 3 (C.take n) false) []
 rw [hC]; exact h
set_option maxHeartbeats 4000000 in
theorem DeleteT_spec {l:List Tb} {i:Nat} (hl:l.length <= 64) (hi:i < l.length) (h:Q (.sl 3 (tbs (l.eraseIdx i)) false) []) :
 ACall Tryz.prog 99 0 [.mr 3 0 0 l.length,fI i,fI ((i + 1:Nat):Int)] [.buf (tbs l)] Q:=by
 have hlk:=tbs_len l;refine ACall.ret (by_body Tryz.func99 0 rfl (nbZ rfl) ?_)
 conv=>whnf
 refine ⟨by omega,?_⟩
 conv=>whnf
 rw [show decide ((i:Int) = ((i + 1:Nat):Int)) = false by simp; omega]
 conv=>whnf
 refine ⟨[0,1,2,3,4,5,6,7],by kernel_rfl,by kernel_rfl,?_⟩
 conv=>whnf
 refine ⟨by omega,?_⟩
 conv=>whnf
 refine ⟨by omega,?_⟩
 conv=>whnf
 refine ⟨by omega,?_⟩
 have hY:List.take (l.length - ((i + 1:Nat):Int).toNat) (List.drop (((i + 1:Nat):Int).toNat + 0) (tbs l)) = (tbs l).drop (i + 1):=by
  rw [Int.toNat_natCast,Nat.add_zero,List.take_of_length_le (by simp [hlk])]
 have hYl:((tbs l).drop (i + 1)).length = l.length - (i + 1):=by rw [List.length_drop,hlk]
 have hE:=tbs_erase l i;rw [hY];generalize hYY:(tbs l).drop (i + 1) = Y at *;refine ⟨fun hy=>?_,fun hy=>⟨?_,?_⟩⟩
 . subst hy;rw [List.length_nil] at hYl;rw [List.append_nil] at hE
   conv=>whnf
   refine ⟨⟨by omega,by omega,.inr (show 0 + l.length <= (tbs l).length by omega)⟩,?_⟩
   conv=>whnf
   refine ⟨by omega,?_⟩
   conv=>whnf
   have hti:(List.take i (tbs l)).length = i:=by rw [List.length_take]; omega
   refine ⟨[0],rfl,.sub _ _ (VSub.mrMs _ _ _ _) (HSub.refl _) (del_ret (B:=tbs (l.eraseIdx i)) ?_ ?_ h)⟩
   . rw [hE];show List.take i (List.take i (tbs l) ++ List.replicate (l.length - i) (tt 48).zero ++ List.drop (i + (l.length - i)) (tbs l)) = _
     rw [List.append_assoc]
     conv=>lhs; arg 1; rw [<- hti]
     exact take_app1 _ _
   . show i <= (List.take i (tbs l) ++ List.replicate (l.length - i) (tt 48).zero ++ List.drop (i + (l.length - i)) (tbs l)).length
     rw [laZ,laZ,hti]; omega
 . omega
 . have hyp:0 < Y.length:=List.length_pos_iff.2 hy;have hti:(List.take (0 + i) (tbs l)).length = i:=by rw [List.length_take]; omega
   obtain ⟨D,hD⟩:∃ D,D = (List.take (0 + (i:Int).toNat) (tbs l) ++ Y ++ List.drop (0 + (i:Int).toNat + Y.length) (tbs l)):=⟨_,rfl⟩;have hDl:D.length = l.length:=by rw [hD,Int.toNat_natCast,laZ,laZ,hti,List.length_drop]; omega
   have hDt:D.take (i + Y.length) = tbs (l.eraseIdx i):=by
    rw [hD,hE,Int.toNat_natCast,Nat.zero_add];have:(List.take i (tbs l) ++ Y).length = i + Y.length:=by rw [laZ]; rw [Nat.zero_add] at hti; omega
    conv=>lhs; arg 1; rw [<- this]
    exact take_app1 _ _
   conv=>whnf
   refine ⟨⟨by omega,by omega,.inr ⟨by omega,?_⟩⟩,?_⟩
   . show 0 + l.length <= (List.take (0 + (i:Int).toNat) (tbs l) ++ Y ++ List.drop (0 + (i:Int).toNat + Y.length) (tbs l)).length
     rw [<- hD]; omega
   conv=>whnf
   have hz:((((i:Int).toNat + Y.length:Nat):Int)).toNat = i + Y.length:=by omega
   rw [<- hD,hz];refine ⟨⟨by omega,by omega⟩,?_⟩
   conv=>whnf
   have hDt' : (D.take (i + Y.length)).length = i + Y.length:=by rw [List.length_take]; omega
   refine ⟨[0],rfl,del_ret (B:=tbs (l.eraseIdx i)) ?_ ?_ h⟩
   . rw [<- hDt];show List.take (i + Y.length) (List.take (i + Y.length) D ++ List.replicate (l.length - (i + Y.length)) (tt 48).zero ++ List.drop (i + Y.length + (l.length - (i + Y.length))) D) = _
     rw [List.append_assoc]
     conv=>lhs; arg 1; rw [<- hDt']
     exact take_app1 _ _
   . show i + Y.length <= (List.take (i + Y.length) D ++ List.replicate (l.length - (i + Y.length)) (tt 48).zero ++ List.drop (i + Y.length + (l.length - (i + Y.length))) D).length
     rw [laZ,laZ,hDt']; omega
theorem Follow2_spec {l:List Tb} {c:Chg} (hl:l.length <= 64) (hs:SortedT l) (hk:c.k = 2) (hc:∀ x ∈ l,x.c.length < 1000000)
 (h:Q (folR (match atT l c.t with | none=>([],7) | some i=>(l.eraseIdx i,0))) []) :
 ACall Tryz.prog 58 0 [.sl 3 (tbs l) false,chA c] [] Q:=by
 refine ACall.ret (by_body Tryz.func58 0 rfl (nbZ rfl) ?_)
 conv=>whnf
 refine .pure (evat_spec (by omega) hs ⟨rfl,?_⟩)
 conv=>whnf
 rw [decide_eq_false (show ¬ c.k = 1 by omega)]
 cases ha:atT l c.t with
 | none =>
  rw [ha] at h
  conv=>whnf
  exact ⟨[],rfl,.sub _ _ (err_fol _) (HSub.refl _) (.done [] rfl h)⟩
 | some i =>
  rw [ha] at h
  conv=>whnf
  rw [decide_eq_true hk]
  conv=>whnf
  have hp:=pos_of_at hs ha;obtain ⟨t,ht,_,hi⟩:=atT_get ha;rw [hp];refine .call [] 0 ⟨rfl,rfl,rfl⟩ (TClone_spec hl hc ?_)
  conv=>whnf
  rw [wrapE (n:=(i:Int) + 1) (by omega)]
  refine .call [1] 0 ⟨rfl,rfl,rfl⟩ (ACall.args (.cons (VSub.mr (by omega)) (VSubs.refl _)) (DeleteT_spec (i:=i) hl hi ?_))
  conv=>whnf
  exact ⟨[],rfl,.done [] rfl h⟩
end
section
variable {Q:V -> List O -> Prop}
set_option maxHeartbeats 8000000 in
theorem Follow_spec {l:List Tb} {c:Chg} (hl:TbsB l) (h:Q (folR (folT l c.k c.t c.c c.ks c.col)) []) :
 ACall Tryz.prog 58 0 [.sl 3 (tbs l) false,chA c] [] Q:=by
 have hs:=hl.ok.sorted;have hf:=hl.few;have hc:∀ x ∈ l,x.c.length < 1000000:=fun x hx=>by have:=hl.cols x hx; omega
 unfold folT at h;by_cases h1:c.k = 1
 . rw [if_pos h1] at h;exact Follow1_spec hf hs h1 hc h
 rw [if_neg h1] at h;by_cases h2:c.k = 2
 . refine Follow2_spec hf hs h2 hc ?_;cases ha:atT l c.t with
   | none=>rw [ha] at h; exact h
   | some i=>rw [ha] at h; simp only [if_pos h2] at h; exact h
 refine ACall.ret (by_body Tryz.func58 0 rfl (nbZ rfl) ?_)
 conv=>whnf
 refine .pure (evat_spec (by omega) hs ⟨rfl,?_⟩)
 conv=>whnf
 rw [decide_eq_false h1];cases ha:atT l c.t with
 | none =>
  rw [ha] at h
  conv=>whnf
  exact ⟨[],rfl,.sub _ _ (err_fol _) (HSub.refl _) (.done [] rfl h)⟩
 | some i =>
  rw [ha] at h
  conv=>whnf
  rw [decide_eq_false h2]
  conv=>whnf
  have hp:=pos_of_at hs ha;obtain ⟨t,ht,_,hi⟩:=atT_get ha;rw [hp];simp only [ht,if_neg h2] at h;have hm:=may_bd (hl.ok.each t (List.mem_of_getElem? ht)).sch;refine ⟨List.range 13,by kernel_rfl,by kernel_rfl,?_⟩
  conv=>whnf
  refine ⟨_,⟨by omega,tbs_get ht⟩,?_⟩
  conv=>whnf
  refine .pure (Apply_spec (l:=t.c) (keys:=t.k) (k:=c.k) (c:=c.col) (by omega) (by omega) ⟨rfl,?_⟩)
  generalize hap:applyS t.c t.k c.k c.col = ap at *
  repeat (conv=>whnf
          refine ⟨rfl,?_⟩)
  conv=>whnf
  refine branch_i (fun c1=>?_) (fun c1=>?_)<;>try rw [c1]<;>conv=>whnf
  . have c1' : ap.2.2 ≠ 0:=by simpa using c1
    rw [if_pos c1'] at h;exact ⟨[],rfl,.sub _ _ (err_fol _) (HSub.refl _) (.done [] rfl h)⟩
  have c1' : ¬ ap.2.2 ≠ 0:=by simpa using c1
  rw [if_neg c1'] at h;refine .call [] 0 ⟨rfl,rfl,rfl⟩ (TClone_spec hf hc ?_)
  conv=>whnf
  refine ⟨⟨by omega,by omega⟩,?_⟩
  conv=>whnf
  refine ⟨_,tbs_get ht,?_⟩
  conv=>whnf
  have e:(tbs l).set i [.str t.n,.sl 3 (cols ap.1) false,fI ap.2.1] = tbs (l.set i ⟨t.n,ap.1,ap.2.1⟩):=by
   unfold tbs; rw [List.map_set]; rfl
  exact fol_ret (j:=2) (L:=l.set i ⟨t.n,ap.1,ap.2.1⟩) (congrArg O.buf e) (by rw [List.length_set]) (show 2 < 3 by decide) h
end
section
def frm (b:List UInt8):List UInt8:=numW (b.length:Int) ++ crcP b
def start:List UInt8:=frm [1,1]
theorem numW_len' (n:Int):(numW n).length <= 10:=digW_len _
theorem frm_len (b:List UInt8):(frm b).length = (numW (b.length:Int)).length + b.length + 4:=by unfold frm; rw [laZ,crcP_len]; omega
end
section
theorem may_ok {l:List Col} {keys:Int} (h:mayS l keys = true):SchOk l keys:=by
 have hb:=may_bd h;unfold mayS at h;rw [Bool.and_eq_true,List.all_eq_true] at h;have hf:∀ (i:Nat) c,l[i]? = some c -> nameOk c.n = true /\ kindOk c.k = true /\ fnd c.n l 0 = (i:Int) /\ (keys <= (i:Int) \/ c.o = false):=fun i c hc=>by
  have:=h.2 i (List.mem_range.2 (liZ.1 hc).1);rw [hc] at this;simp only [mayC,Bool.and_eq_true,decide_eq_true_eq,Bool.not_eq_true', Bool.and_eq_false_iff,decide_eq_false_iff_not,Int.not_lt] at this;exact ⟨this.1,this.2.1,this.2.2.1,this.2.2.2⟩
 refine ⟨?_,fun d hd=>?_,hb.1,hb.2.1,hb.2.2.1,hb.2.2.2,fun i c hi hc=>?_⟩
 . unfold NamesOk;rw [List.pairwise_map];refine List.pairwise_iff_getElem.2 fun i j hi hj hij e=>?_
   have h1:=(hf i _ (lgZ hi)).2.2.1;have h2:=(hf j _ (lgZ hj)).2.2.1;rw [e,h2] at h1;omega
 . obtain ⟨i,hi⟩:=List.mem_iff_getElem?.1 hd;have:=hf i d hi;exact ⟨this.1,this.2.1⟩
 . rcases (hf i c hc).2.2.2 with h1 | h1
   . omega
   . exact h1
theorem nws_set {l:List Tb} {i:Nat} {x:Tb} {C:List Col} {K:Int} (h:l[i]? = some x):nws (l.set i ⟨x.n,C,K⟩) = nws l:=by
 unfold nws;rw [List.map_set];refine List.ext_getElem? fun j=>?_
 rw [List.getElem?_set];split
 . rename_i e; subst e;rw [List.getElem?_map,h,List.length_map];rw [if_pos (liZ.1 h).1];rfl
 . rfl
theorem folT_ok {l:List Tb} {k:Int} {t:List UInt8} {cs:List Col} {ks:Int} {c:Col} (hl:TbsB l) (h:(folT l k t cs ks c).2 = 0):TbsB (folT l k t cs ks c).1:=by
 unfold folT at h ⊢;by_cases h1:k = 1
 . rw [if_pos h1] at h ⊢;split at h
   . simp at h
   rename_i c1;split at h
   . simp at h
   rename_i c2;split at h
   . simp at h
   rename_i c3;split at h
   . simp at h
   rename_i c4;rw [if_neg c1,if_neg c2,if_neg c3,if_neg c4];have hn:atT l t = none:=by
    cases ha:atT l t with
    | none=>rfl
    | some j=>rw [ha] at c2; simp at c2
   exact ⟨insT_ok hl.ok ⟨by simpa using c1,by simpa using c3⟩ hn,by show (insT l _).length <= 64; rw [insT_len]; omega⟩
 rw [if_neg h1] at h ⊢;cases ha:atT l t with
 | none=>rw [ha] at h; simp at h
 | some i =>
  rw [ha] at h;simp only at h ⊢;by_cases h2:k = 2
  . rw [if_pos h2] at h ⊢;refine ⟨⟨?_,fun x hx=>hl.ok.each x (List.mem_of_mem_eraseIdx hx)⟩,?_⟩
    . have hs:=hl.ok.sorted;unfold SortedT SortedW at hs ⊢;refine List.Pairwise.sublist ?_ hs;unfold nws;exact (List.eraseIdx_sublist l i).map _
    . have:=hl.few;have h3:=List.length_eraseIdx_le (l:=l) (i:=i);simp only; omega
  rw [if_neg h2] at h ⊢;obtain ⟨x,hx,hxn,hi⟩:=atT_get ha;rw [hx] at h;simp only [hx] at h ⊢;split at h
  . rename_i c1; exact absurd h c1
  rename_i c1;rw [if_neg c1];rw [Decidable.not_not] at c1;have hox:=hl.ok.each x (List.mem_of_getElem? hx);have hap:=(apply_ok (may_ok hox.sch) c1).may;refine ⟨⟨?_,fun y hy=>?_⟩,by have:=hl.few; simp only [List.length_set]; omega⟩
  . unfold SortedT;rw [nws_set hx];exact hl.ok.sorted
  . rcases List.mem_or_eq_of_mem_set hy with h3 | h3
    . exact hl.ok.each y h3
    . subst h3; exact ⟨hox.name,hap⟩
def evS:Evt:=⟨1,1,[],[],[],chg0⟩
theorem tbsB_nil:TbsB []:=⟨⟨List.Pairwise.nil,fun t h=>(by cases h)⟩,by decide⟩
end
section
variable {Q:V -> List O -> Prop}
theorem BlFrame_spec {b body:List UInt8} {f g:Bool} (hb:b.length <= 899999980) (ho:body.length <= 900000000) (hs:b.length + body.length <= 999999970) (h:Q (.ms 1 0 0 (b ++ frm body).length false) [.buf (bs (b ++ frm body))]) :
 ACall Tryz.prog 48 0 [.sl 1 (bs b) f,.sl 1 (bs body) g] [] Q:=by
 refine by_body Tryz.func48 0 rfl (nbZ rfl) ?_;have hlo:=bs_len body
 conv=>whnf
 rw [hlo];refine .call [] 0 ⟨rfl,rfl,rfl⟩ (WNumber_spec (n:=(body.length:Int)) (by omega) (by omega) (by omega) ?_)
 have hnl:=numW_len' (body.length:Int);have hbl:(b ++ numW (body.length:Int)).length <= b.length + 10:=by rw [laZ]; omega
 unfold frm at h;rw [<- List.append_assoc] at h;generalize b ++ numW (body.length:Int) = B at *;have hlB:=bs_len B
 conv=>whnf
 refine .call [0] 1 ⟨rfl,rfl,rfl⟩ (ACall.eat hlB.symm rfl (CrPut_spec (b:=B) (own:=body) (by omega) (by omega) (by omega) ?_))
 generalize B ++ crcP body = C at *
 conv=>whnf
 exact ⟨[1],rfl,h⟩
theorem evSt_sub:VSub (.agg [fI 1,fI 1,.str [],.nils,.nils,fI 0,.str [],.nils,fI 0,.str [],fI 0,.bool false]) (evA evS) :=
 .agg (.cons (.refl _) (.cons (.refl _) (.cons (.refl _) (.cons (nils_sl3 false) (.cons (nils_sl3 false) (.cons (.refl _) (.cons (.refl _) (.cons (nils_sl3 false) (VSubs.refl _)))))))))
theorem evS_may (l:List Tb):MayI l evS:=.num 1 1 rfl (by decide)
theorem BlNew_spec (h:Q (.ms 1 0 0 start.length false) [.buf (bs start)]):ACall Tryz.prog 28 0 [] [] Q:=by
 refine by_body Tryz.func28 0 rfl (nbZ rfl) ?_
 conv=>whnf
 refine .call [] 0 ⟨rfl,rfl,rfl⟩ (ACall.args (.cons evSt_sub (.cons (nils_sl3 false) (VSubs.refl _))) (EvWrite_spec (e:=evS) (l:=[]) tbsB_nil (evt0 _ _ _) ⟨⟨by decide,by decide⟩,fun v hv=>by simp [evS] at hv,fun v hv=>by simp [evS] at hv⟩ ?_))
 rw [(evS_may []).e,if_pos rfl,show evW evS = [1,1] by decide +kernel]
 conv=>whnf
 refine .call [] 0 ⟨rfl,rfl,rfl⟩ (ACall.args (.cons (VSub.nils 1 false) (VSubs.refl _)) (BlFrame_spec (b:=[]) (body:=[1,1]) (by simp) (by simp) (by simp) ?_))
 rw [List.nil_append,show frm [1,1] = start from rfl]
 generalize start = st at *
 conv=>whnf
 exact ⟨[0],rfl,h⟩
theorem R7Frame_spec {body:List UInt8} {g:Bool} (ho:body.length <= 899999970) (h:Q (.ms 1 0 0 (frm body).length false) [.buf (bs (frm body))]) :
 ACall Tryz.prog 49 0 [.sl 1 (bs body) g] [] Q:=by
 refine by_body Tryz.func49 0 rfl (nbZ rfl) ?_;have hlo:=bs_len body
 conv=>whnf
 rw [hlo];refine .call [] 0 ⟨rfl,rfl,rfl⟩ (RWNumber_spec (n:=(body.length:Int)) (by omega) (by omega) ?_)
 have hnl:=numW_len' (body.length:Int);unfold frm at h;generalize numW (body.length:Int) = B at *;have hlB:=bs_len B
 conv=>whnf
 refine .call [0] 1 ⟨rfl,rfl,rfl⟩ (ACall.eat hlB.symm rfl (RCrPut_spec (b:=B) (own:=body) (by omega) (by omega) (by omega) ?_))
 generalize B ++ crcP body = C at *
 conv=>whnf
 exact ⟨[1],rfl,h⟩
theorem R7New_spec (h:Q (.ms 1 0 0 start.length false) [.buf (bs start)]):ACall Tryz.prog 29 0 [] [] Q:=by
 refine by_body Tryz.func29 0 rfl (nbZ rfl) ?_
 conv=>whnf
 refine .call [0] 1 ⟨rfl,rfl,rfl⟩ (ACall.eat (es:=bs [1,1]) (full:=true) rfl rfl (R7Frame_spec (body:=[1,1]) (by simp) ?_))
 rw [show frm [1,1] = start from rfl]
 generalize start = st at *
 conv=>whnf
 exact ⟨[1],rfl,h⟩
end
section
variable [Globs]
def evs (l:List Evt):List (List V):=l.map evC
theorem evs_len (l:List Evt):(evs l).length = l.length:=by simp [evs]
theorem evs_get {l:List Evt} {i:Nat} {e:Evt} (h:l[i]? = some e):(evs l)[i]? = some (evC e):=by simp [evs,h]
theorem evs_app (a b:List Evt):evs (a ++ b) = evs a ++ evs b:=by simp [evs]
theorem VSub.eq {a b:V} (e:a = b):VSub a b:=by subst e; exact .refl _
theorem VSub.slRows {z:Nat} {es es' : List (List V)} {f:Bool} (hl:es.length = es'.length) (h:∀ (i:Nat) e e', es[i]? = some e -> es'[i]? = some e' -> VSubs e e'):VSub (.sl z es f) (.sl z es' f):=fun I ρ u hr=>by
 have hex:∀ i e', es'[i]? = some e' -> ∃ e,es[i]? = some e /\ VSubs e e' := fun i e' he' => by
  have hi:=(liZ.1 he').1;exact ⟨es[i],lgZ (by omega),h i _ _ (lgZ (by omega)) he'⟩
 have hc:∀ (i:Nat) e' (j:Nat) c', es'[i]? = some e' -> e'[j]? = some c' -> ∃ e c,es[i]? = some e /\ e[j]? = some c /\ VSub c c' := fun i e' j c' he' hc' => by
  obtain ⟨e,he,hv⟩:=hex i e' he';have hj:=(liZ.1 hc').1;have hj' : j < e.length:=by rw [hv.1]; exact hj
  exact ⟨e,e[j],he,lgZ hj', hv.2 j _ _ (lgZ hj') hc'⟩
 cases hr with
 | sl _ _ _ _ b base cap u h1 h2 h3 h4 h5 h6 =>
  rw [hl] at h1 h2 ⊢;refine .sl _ _ _ _ _ _ _ u h1 h2 (fun i e' he' => ?_) (fun i e' j c' he' hc' => ?_) (fun i e' j c' he' hc' => ?_) (fun i e' j c' he' hc' => ?_)
  . obtain ⟨e,he,hv⟩:=hex i e' he';rw [<- hv.1]; exact h3 i e he
  . obtain ⟨e,c,he,hc1,_⟩:=hc i e' j c' he' hc';exact h4 i e j c he hc1
  . obtain ⟨e,c,he,hc1,_⟩:=hc i e' j c' he' hc';exact h5 i e j c he hc1
  . obtain ⟨e,c,he,hc1,hv⟩:=hc i e' j c' he' hc';exact hv _ _ _ (h6 i e j c he hc1)
 | slnil =>
  have:es' = []:=List.length_eq_zero_iff.1 (by rw [<- hl]; rfl)
  subst this;exact .slnil _ _ _ _
end
section
variable {Q:V -> List O -> Prop}
abbrev treeI (t:Tr Rw) (n:Int):V:=.ip [.im (encT fR t),.int .i64 n] 0
theorem FromI_spec {t:Tr Rw} {n:Int} {key:List UInt8} (h:Q (.fn (.func 105) [] [.ptr 0 0,.ptr 1 0]) [.cells [treeI t n],.cells [.str key]]) :
 ACall Tryz.prog 62 0 [treeI t n,.str key] [] Q:=by
 refine by_body Tryz.func62 0 rfl (nbZ rfl) ?_
 conv=>whnf
 exact ⟨[0,1],rfl,h⟩
theorem FromI1_spec {t:Tr Rw} {n:Int} {key:List UInt8} {J:List (List V) -> List O -> Prop} {S J' : List O -> Prop} {ks:List Pl} (hy:YieldS Tryz.prog ks J S (encKV fR (fromL key t))) {B:List Nat} (hJ:∀ Hs,J (encKV fR (fromL key t)) Hs -> J' Hs) (hS:∀ Hs,S Hs -> J' Hs)
 (h:∀ B', Q (.tup []) [.res (packR J' ks B') B', .cells [treeI t n],.cells [.str key]]) :
 ACall Tryz.prog 105 3 [.yld 0,.ptr 1 0,.ptr 2 0] [.res (packR (J []) ks B) B,.cells [treeI t n],.cells [.str key]] Q:=by
 refine ACall.sub (by_body Tryz.func105 3 rfl (nbZ rfl) ?_)
 conv=>whnf
 refine ⟨[0,1,2,3,4,5,6],by kernel_rfl,by kernel_rfl,?_⟩
 conv=>whnf
 refine .call [0] 1 ⟨rfl,rfl,rfl⟩ (from_spec hy t [] [] B (by simp) (fun B' => ?_) (fun B' => ?_))
 . repeat (refine ⟨rfl,?_⟩)
   conv=>whnf
   exact ⟨[0,1,2],rfl,_,_,.refl _,.cons (.pk ks B' hJ) (HSub.refl _),h B'⟩
 . repeat (refine ⟨rfl,?_⟩)
   conv=>whnf
   exact ⟨[0,1,2],rfl,_,_,.refl _,.cons (.pk ks B' hS) (HSub.refl _),h B'⟩
abbrev Trw:=List UInt8 × (Tr Rw × Int)
abbrev trF (a:Tr Rw × Int):V:=treeI a.1 a.2
def trKV (L:List Trw):List (V × V):=kvOf trF L
def srcH (l:List Tb) (L:List Trw) (c:Nat) (log:List UInt8) (n m:Int):List O :=
 [.cells [.sl 3 (tbs l) false,.map 1,.sl 1 (bs log) false,fI n,fI m],.pmap (trKV L) c]
theorem SNew_spec (h:Q (.ptr 0 0) (srcH [] [] 0 start 0 0)):ACall Tryz.prog 9 0 [] [] Q:=by
 refine ACall.ret (by_body Tryz.func9 0 rfl (nbZ rfl) ?_)
 conv=>whnf
 refine .call [] 0 ⟨rfl,rfl,rfl⟩ (BlNew_spec ?_);generalize start = st at *
 conv=>whnf
 have hls:=bs_len st;have hT:List.take st.length (List.drop 0 (bs st)) = bs st:=by rw [List.drop_zero,<- hls,List.take_length]
 refine ⟨[2,0,1],rfl,.frz 2 rfl (by repeat (first | exact trivial | refine And.intro (by omega) ?_)) (.sub (.ptr 0 0) [.cells [.sl 3 (tbs []) false,.map 1,.sl 1 (bs st) false,fI 0,fI 0],.pmap [] 0,.dead] (.refl _) ?_ (.done [0,1] rfl h))⟩
 show HSub [.cells [.nils,.map 1,.sl 1 (List.take st.length (List.drop 0 (bs st))) false,fI 0,fI 0],.map [] 0,.dead] [.cells [.sl 3 (tbs []) false,.map 1,.sl 1 (bs st) false,fI 0,fI 0],.pmap [] 0,.dead]
 exact .cons (.cells (.cons (nils_sl3 false) (.cons (.refl _) (.cons (VSub.eq (congrArg (fun z=>V.sl 1 z false) hT)) (VSubs.refl _))))) (.cons (.pmap0 0) (HSub.refl _))
end
section
variable {Q:V -> List O -> Prop}
theorem rowV_n (c:Col) (v:Val) (h:I64 v.n):I64 (rowV c v).n:=by
 unfold rowV;split
 . exact i64_0
 unfold goodV;split
 . show I64 (if _ then 0 else 1)
   split
   . exact i64_0
   . exact ⟨by decide,by decide⟩
 split
 . exact h
 split
 . exact i64_0
 split
 . exact i64_0
 . exact i64_0
theorem rowL_n {C:List Col} {vs:List Val} (h:∀ v ∈ vs,I64 v.n):∀ v ∈ rowL C vs,I64 v.n:=fun v hv=>by
 obtain ⟨i,hi⟩:=List.mem_iff_getElem?.1 hv;have hlt:=(liZ.1 hi).1;rw [rowL_len] at hlt;rw [rowL_get C vs (lgZ hlt)] at hi;cases hi;refine rowV_n _ _ ?_;rw [List.getD_eq_getElem?_getD];cases hq:vs[i]? with
 | none=>exact i64_0
 | some x=>exact h x (List.mem_of_getElem? hq)
theorem evn0 (k n:Int) (t:List UInt8) (h:I64 n):EvtN ⟨k,n,t,[],[],chg0⟩:=⟨h,fun v hv=>by simp at hv,fun v hv=>by simp at hv⟩
theorem evn6 (k n:Int) (c:Chg) (h:I64 n):EvtN ⟨k,n,[],[],[],c⟩:=⟨h,fun v hv=>by simp at hv,fun v hv=>by simp at hv⟩
theorem chgW_len {c:Chg} (h:ChgI c):(chgW c).length <= 100000:=by
 have hb:=h.b;have ht:=txtW_len c.t;have h1:=hb.t;have h2:=hb.few;have h3:=cols_w hb.names;have h4:=colW_len hb.col;have h5:=txtW_len c.col.n;have h6:=hb.col;have hc16:c.c.length <= 16:=by
  cases h with
  | cre t cc ks g1 g2=>exact (may_bd g2).2.2.2
  | drop t g1=>simp
  | add k t col g1 gk g2=>simp
  | cut t n g1 g2=>simp
 unfold chgW;rw [List.length_cons,laZ];split
 . simp only [List.length_cons]; omega
 split
 . omega
 split
 . omega
 . simp only [List.length_nil]; omega
theorem evW_len {e:Evt} {l:List Tb} (hl:TbsB l) (h:MayI l e) (hn:EvtN e):(evW e).length <= 1000000:=by
 have hm:=h.e;by_cases hr:rowK e.k = true
 . obtain ⟨ht,C,k,hf,h5,h3⟩:=ev_row hl hn hm hr;have hrk:=rowK_is hr;have htl:=txtW_len e.t;unfold evW;rw [if_neg (by omega)]
   by_cases k5:e.k = 5
   . obtain ⟨_,_,hb⟩:=h5 k5;have:=rowW_len hb;rw [if_pos k5,List.length_cons,laZ]; omega
   . obtain ⟨_,hb⟩:=h3 k5;have:=rowW_len hb;rw [if_neg k5,if_pos (by omega),List.length_cons,laZ]; omega
 . have hr' := rowK_not (by simpa using hr)
   unfold evW;by_cases k6:e.k = 6
   . rw [if_pos k6,List.length_cons];cases h with
     | ins k t a C K hk hf hfit=>simp only at k6; omega
     | del t b C K hf hfit hlen=>simp only at k6; omega
     | alt c hc=>have:=chgW_len hc; simp only; omega
     | num k n hk hn=>have:=numK_is hk; simp only at k6; omega
   . rw [if_neg k6,if_neg (by omega),if_neg (by omega),List.length_cons]
     have:=numW_len e.n;omega
end
section
variable {Q:V -> List O -> Prop}
def tellL (b:List UInt8) (l:List Evt):List UInt8:=l.foldl (fun b e=>b ++ frm (evW e)) b
theorem tellL_snoc (b:List UInt8) (l:List Evt) (e:Evt):tellL b (l ++ [e]) = tellL b l ++ frm (evW e):=by unfold tellL; rw [List.foldl_append]; rfl
theorem tellL_app (b:List UInt8) (l m:List Evt):tellL b (l ++ m) = tellL (tellL b l) m:=by unfold tellL; rw [List.foldl_append]
theorem tellL_len {l:List Tb} (hl:TbsB l):∀ (es:List Evt) (b:List UInt8),(∀ e ∈ es,mayE e l = 0 /\ EvtN e) -> (tellL b es).length <= b.length + 1000020 * es.length
 | [],b,_=>by simp [tellL]
 | e :: es,b,h=>by
  have h1:=h e (by simp)
  have hw:=evW_len hl (mayE_inv h1.1) h1.2;have hf:=frm_len (evW e);have hn:=numW_len' ((evW e).length:Int);have ih:=tellL_len hl es (b ++ frm (evW e)) fun x hx=>h x (by simp [hx])
  rw [laZ] at ih;show (tellL (b ++ frm (evW e)) es).length <= _
  simp only [List.length_cons];omega
set_option maxHeartbeats 4000000 in
theorem STell_spec {l:List Tb} {L:List Trw} {c:Nat} {log:List UInt8} {n m:Int} {es:List Evt} {f:Bool} (hl:TbsB l) (he:∀ e ∈ es,mayE e l = 0 /\ EvtN e /\ EvtT e) (hs:log.length + 1000020 * es.length <= 800000000)
 (h:Q (.tup []) (srcH l L c (tellL log es) n m)):ACall Tryz.prog 59 2 [.ptr 0 0,.sl 12 (evs es) f] (srcH l L c log n m) Q:=by
 refine by_body Tryz.func59 2 rfl (nbZ rfl) ?_;have hel:=evs_len es
 conv=>whnf
 refine ⟨⟨[0,8,9,10],fun mm ws H=>∃ i:Nat,ws = [.ptr 0 0,.sl 12 (evs es) f,fI (evs es).length,fI i] /\ H = srcH l L c (tellL log (es.take i)) n m /\ i <= es.length /\ mm = es.length - i,.at es.length ⟨0,rfl,rfl,by omega,rfl⟩,?_⟩⟩
 rintro mm ws H ⟨i,rfl,rfl,hi,rfl⟩
 conv=>whnf
 refine branch_i (fun c1=>?_) (fun c1=>?_)<;>try rw [c1]<;>conv=>whnf
 rotate_left
 . have c1' := dfZ c1;rw [List.take_of_length_le (by omega)]
   exact ⟨[0,1],rfl,h⟩
 have c1' := dtZ c1;have hil:i < es.length:=by omega
 have hg:es[i]? = some es[i]:=lgZ hil;have hme:=he es[i] (List.getElem_mem hil);have htl:=tellL_len hl (es.take i) log fun e h=>⟨(he e (List.mem_of_mem_take h)).1,(he e (List.mem_of_mem_take h)).2.1⟩
 rw [List.length_take] at htl;have hsn:tellL log (es.take (i + 1)) = tellL log (es.take i) ++ frm (evW es[i]):=by rw [List.take_add_one,hg]; exact tellL_snoc _ _ _
 generalize es[i] = e at *;generalize tellL log (es.take i) = b at *;have hlb:=bs_len b;refine ⟨_,⟨by omega,evs_get hg⟩,?_⟩
 conv=>whnf
 refine ⟨List.range 11,by kernel_rfl,by kernel_rfl,?_⟩
 conv=>whnf
 have hwl:=evW_len hl (mayE_inv hme.1) hme.2.1;refine .pure (EvWrite_spec hl hme.2.2 hme.2.1 ⟨rfl,?_⟩);rw [if_pos hme.1];generalize evW e = W at *
 repeat (conv=>whnf
         refine ⟨rfl,?_⟩)
 conv=>whnf
 refine .call [] 0 ⟨rfl,rfl,rfl⟩ (BlFrame_spec (b:=b) (body:=W) (by omega) (by omega) (by omega) ?_)
 have hB:(bs (b ++ frm W)).length = (b ++ frm W).length:=bs_len _;have hT:List.take (b ++ frm W).length (List.drop 0 (bs (b ++ frm W))) = bs (b ++ frm W):=by rw [List.drop_zero,<- hB,List.take_length]
 conv=>whnf
 refine .frz 3 rfl (by repeat (first | exact trivial | refine And.intro (by omega) ?_)) (.sub [.ptr 0 0,.sl 12 (evs es) f,fI (evs es).length,.int .i64 (IntKind.i64.wrap ((i:Int) + 1))] [.cells [.sl 3 (tbs l) false,.map 1,.sl 1 (bs (b ++ frm W)) false,fI n,fI m],.pmap (trKV L) c,.dead,.dead] (VSubs.refl _) ?_ (.go [0,1] rfl (es.length - (i + 1)) (by omega) ⟨i + 1,?_,?_,by omega,rfl⟩))
 . exact .cons (.cells (.cons (.refl _) (.cons (.refl _) (.cons (VSub.eq (congrArg (fun z=>V.sl 1 z false) hT)) (VSubs.refl _))))) (.cons (.refl _) (.cons (.dead _) (HSub.refl _)))
 . show [V.ptr 0 0,.sl 12 (evs es) f,fI (evs es).length,.int .i64 (IntKind.i64.wrap ((i:Int) + 1))] = _
   rw [wrapL (by omega)]; rfl
 . rw [hsn]; rfl
end
section
variable {Q:V -> List O -> Prop}
theorem SMany_spec {l:List Tb} {L:List Trw} {c:Nat} {log:List UInt8} {n m:Int} (h:Q (fI m) (srcH l L c log n m)):ACall Tryz.prog 17 2 [.ptr 0 0] (srcH l L c log n m) Q:=by
 refine by_body Tryz.func17 2 rfl (nbZ rfl) ?_
 conv=>whnf
 exact ⟨[0,1],rfl,h⟩
def mkE (k n:Int):Evt:=⟨k,n,[],[],[],chg0⟩
theorem mkE_may {k n:Int} {l:List Tb} (hk:numK k = true) (hn:0 <= n):mayE (mkE k n) l = 0:=(MayI.num k n hk hn).e
theorem mkE_n {k n:Int} (h:I64 n):EvtN (mkE k n):=evn0 _ _ _ h
def mr (k n:Int):List V:=[fI k,fI n,.str [],.nils,.nils,fI 0,.str [],.nils,fI 0,.str [],fI 0,.bool false]
theorem mr_sub (k n:Int):VSubs (mr k n) (evC (mkE k n)):=.cons (.refl _) (.cons (.refl _) (.cons (.refl _) (.cons (nils_sl3 false) (.cons (nils_sl3 false) (.cons (.refl _) (.cons (.refl _) (.cons (nils_sl3 false) (VSubs.refl _))))))))
theorem mr_row (k n:Int) (f:Bool):VSub (.sl 12 [mr k n] f) (.sl 12 (evs [mkE k n]) f):=VSub.slRows rfl fun i e e' h1 h2=>by
 match i with
 | 0=>cases h1; cases h2; exact mr_sub k n
 | i + 1=>simp at h1
theorem SMark_spec {l:List Tb} {L:List Trw} {c:Nat} {log:List UInt8} {n m k:Int} {hi:Bool} (hl:TbsB l) (hk:I64 k) (hs:log.length + 1000020 <= 800000000)
 (h:Q (fI (if k < 0 then 1 else 0)) (srcH l L c (if k < 0 then log else log ++ frm (evW (mkE (if hi then 10 else 9) k))) n m)):ACall Tryz.prog 35 2 [.ptr 0 0,.bool hi,fI k] (srcH l L c log n m) Q:=by
 refine by_body Tryz.func35 2 rfl (nbZ rfl) ?_;cases hi
 all_goals
  conv=>whnf
  refine branch_i (fun c1=>?_) (fun c1=>?_)<;>try rw [c1]<;>conv=>whnf
  . have c1' := dtZ c1;rw [if_pos c1', if_pos c1'] at h;exact ⟨[0,1],rfl,h⟩
  have c1' := dfZ c1;rw [if_neg c1', if_neg c1'] at h;refine ACalls.frz 2 rfl rfl (by repeat (first | exact trivial | refine And.intro (by first | omega | exact Nat.le_refl 1) ?_)) ?_
  first
   | refine ACalls.sub [.ptr 0 0,.sl 12 (evs [mkE 9 k]) true] _ rfl (.cons (.refl _) (.cons (mr_row 9 k true) (VSubs.refl _))) (HSub.refl _) ?_
   | refine ACalls.sub [.ptr 0 0,.sl 12 (evs [mkE 10 k]) true] _ rfl (.cons (.refl _) (.cons (mr_row 10 k true) (VSubs.refl _))) (HSub.refl _) ?_
  refine .call [0,1] 2 ⟨rfl,rfl,rfl⟩ (STell_spec (l:=l) (L:=L) (c:=c) (log:=log) (n:=n) (m:=m) hl (fun e he=>by
   rw [List.mem_singleton.1 he];exact ⟨mkE_may rfl (by omega),mkE_n hk,evt0 _ _ _⟩) (by simp; omega) ?_)
  conv=>whnf
  exact ⟨[0,1],rfl,h⟩
end
section
structure SS where
 l:List Tb
 R:List (List Rw)
 log:List UInt8
 n:Int
 m:Int
structure Dd where
 k:Int
 t:List UInt8
 r:Rw
def ddE (d:Dd):Evt:=if d.k = 3 then ⟨5,0,d.t,d.r,[],chg0⟩ else ⟨2 + d.k,0,d.t,[],d.r,chg0⟩
def ddFit (t:Tb) (d:Dd):Bool:=if d.k = 3 then keyOkL t.c t.k.toNat d.r && decide ((d.r.length:Int) = t.k) else fitsL t.c d.r
def ddHas (t:Tb) (rows:List Rw) (d:Dd):Bool:=hasL (kyT t d.r) (kvT t rows)
def ddTb (t:Tb) (rows:List Rw) (d:Dd):Int:=if ddFit t d = false then 9 else if d.k = 1 then (if ddHas t rows d then 8 else 0) else if ddHas t rows d then 0 else 14
def ddErr (l:List Tb) (R:List (List Rw)) (d:Dd):Int :=
 if d.k < 1 \/ 3 < d.k then 5 else match atT l d.t with
  | none=>7
  | some i=>match l[i]? with
   | none=>7
   | some t=>ddTb t (R.getD i []) d
def ddR (l:List Tb) (R:List (List Rw)) (d:Dd):List (List Rw):=match atT l d.t with
 | none=>R
 | some i=>match l[i]? with
  | none=>R
  | some t=>R.set i (turnE t.c t.k.toNat (R.getD i []) (ddE d))
def doR (l:List Tb) (R:List (List Rw)):List Dd -> List (List Rw) × Int
 | []=>(R,0)
 | d :: ds=>if ddErr l R d = 0 then doR l (ddR l R d) ds else (R,ddErr l R d)
def doS (s:SS) (ds:List Dd) (undo:Bool):SS × Int :=
 if (doR s.l s.R ds).2 = 0 then
  ({ s with R:=if undo then s.R else (doR s.l s.R ds).1,log:=tellL s.log (mkE 2 s.n :: (ds.map ddE ++ [mkE (if undo then 8 else 7) s.n])),n:=s.n + 1,m:=if undo then s.m else s.m + 1 },0)
 else (s,(doR s.l s.R ds).2)
structure TrOk (t:Tb) (rows:List Rw) (T:Tr Rw) (m:Int) (b:Nat):Prop where
 ok:TOk T m b
 eq:inL T = kvT t rows
abbrev Vw:=List UInt8 -> Option (Tr Rw × Int)
structure RsOk (l:List Tb) (R:List (List Rw)) (vw:Vw) (b:Nat):Prop where
 tbs:TbsB l
 len:R.length = l.length
 rows:∀ (i:Nat) t rs,l[i]? = some t -> R[i]? = some rs -> RowsOk t rs
 tree:∀ (i:Nat) t rs,l[i]? = some t -> R[i]? = some rs -> ∃ T m,vw t.n = some (T,m) /\ TrOk t rs T m b
theorem TrOk.mono {t:Tb} {rows:List Rw} {T:Tr Rw} {m:Int} {b b' : Nat} (h:TrOk t rows T m b) (hb:b <= b'):TrOk t rows T m b' := ⟨h.ok.mono hb,h.eq⟩
theorem RsOk.mono {l:List Tb} {R:List (List Rw)} {vw:Vw} {b b' : Nat} (h:RsOk l R vw b) (hb:b <= b'):RsOk l R vw b' :=
 ⟨h.tbs,h.len,h.rows,fun i t rs h1 h2=>let ⟨T,m,h3,h4⟩:=h.tree i t rs h1 h2; ⟨T,m,h3,h4.mono hb⟩⟩
theorem TbsB.tbk {l:List Tb} (h:TbsB l) {t:Tb} (ht:t ∈ l):TbK t:=by
 have:=may_bd (h.ok.each t ht).sch;exact ⟨this.1,this.2.2.1,this.2.2.2⟩
theorem at_self {l:List Tb} (hs:SortedT l) {i:Nat} {t:Tb} (h:l[i]? = some t):atT l t.n = some i:=by
 obtain ⟨j,h1,h2⟩:=at_mem (x:=nw t) hs (List.mem_of_getElem? (nws_get h));obtain ⟨t', h3,h4,_⟩:=atT_get h1;have e:j = i:=by
  have g1:=nws_get h3;have g2:=nws_get h;rcases Nat.lt_trichotomy i j with hij | hij | hij
  . have:=sorted_get hs hij g2 g1;rw [show (nw t').t = (nw t).t from h4] at this
    exact absurd this (by rw [less_irrefl]; decide)
  . exact hij.symm
  . have:=sorted_get hs hij g1 g2;rw [show (nw t').t = (nw t).t from h4] at this
    exact absurd this (by rw [less_irrefl]; decide)
 rw [<- e]; exact h1
theorem ddErr_at {l:List Tb} {R:List (List Rw)} {d:Dd} {i:Nat} {t:Tb} (hk:1 <= d.k /\ d.k <= 3) (ha:atT l d.t = some i) (ht:l[i]? = some t):ddErr l R d = ddTb t (R.getD i []) d:=by
 unfold ddErr;rw [if_neg (by omega),ha]
 simp only [ht]
theorem ddR_at {l:List Tb} {R:List (List Rw)} {d:Dd} {i:Nat} {t:Tb} (ha:atT l d.t = some i) (ht:l[i]? = some t):ddR l R d = R.set i (turnE t.c t.k.toNat (R.getD i []) (ddE d)):=by
 unfold ddR;rw [ha];simp only [ht]
theorem ddE_evF {t:Tb} {d:Dd} (hk:1 <= d.k /\ d.k <= 3) (hn:d.t = t.n) (hf:ddFit t d = true):EvF t (ddE d):=by
 unfold ddFit at hf;unfold ddE;split at hf
 . rename_i h3;rw [if_pos h3];rw [Bool.and_eq_true,decide_eq_true_eq] at hf;exact ⟨by simp,by simp,hn,fun h=>absurd rfl h,fun _=>hf⟩
 . rename_i h3;rw [if_neg h3];exact ⟨by simp only; omega,by simp only; omega,hn,fun _=>hf,fun h=>by simp only at h; omega⟩
theorem RsOk.turn {l:List Tb} {R:List (List Rw)} {vw vw' : Vw} {b b' : Nat} (h:RsOk l R vw b) (hb:b <= b') {i:Nat} {t:Tb} (ht:l[i]? = some t) {rs:List Rw} {T:Tr Rw} {m:Int} (hr:RowsOk t rs) (hT:TrOk t rs T m b')
 (hv:∀ k,vw' k = if k = t.n then some (T,m) else vw k):RsOk l (R.set i rs) vw' b' := by
 have hs:=h.tbs.ok.sorted;refine ⟨h.tbs,by rw [List.length_set]; exact h.len,fun j t' rs' h1 h2=>?_,fun j t' rs' h1 h2=>?_⟩
 all_goals by_cases hij:i = j
 . subst hij;rw [ht] at h1; cases h1;rw [List.getElem?_set_self' ] at h2;cases hR:R[i]? with
   | none=>rw [hR] at h2; cases h2
   | some x=>rw [hR] at h2; cases h2; exact hr
 . rw [List.getElem?_set_ne hij] at h2;exact h.rows j t' rs' h1 h2
 . subst hij;rw [ht] at h1; cases h1;rw [List.getElem?_set_self' ] at h2;cases hR:R[i]? with
   | none=>rw [hR] at h2; cases h2
   | some x=>rw [hR] at h2; cases h2; exact ⟨T,m,by rw [hv,if_pos rfl],hT⟩
 . rw [List.getElem?_set_ne hij] at h2;obtain ⟨T', m', h3,h4⟩:=h.tree j t' rs' h1 h2;refine ⟨T', m', ?_,h4.mono hb⟩;rw [hv,if_neg,h3];intro e;have g1:=at_self hs h1;have g2:=at_self hs ht;rw [e,g2] at g1;exact hij (Option.some.inj g1)
theorem TrOk.putd {t:Tb} {rows:List Rw} {T:Tr Rw} {m:Int} {b:Nat} (h:TrOk t rows T m b) (hb:b < 1000000000) (r:Rw) :
 TrOk t (putR t.c t.k.toNat rows r) (putT (kyT t r) r T) (if (fndT (kyT t r) T).isNil then IntKind.i64.wrap (m + 1) else m) (b + 1):=by
 refine ⟨h.ok.put (by omega) _ _,?_⟩
 rw [inL_put _ _ _ h.ok.srt,h.eq];exact kv_put _ _ _ _
theorem TrOk.cutd {t:Tb} {rows:List Rw} {T:Tr Rw} {m:Int} {b:Nat} (h:TrOk t rows T m b) (hb:b < 1000000000) (key:List UInt8) :
 TrOk t (cutR t.c t.k.toNat rows key) (if (fndT key T).isNil then T else cutT key T) (if (fndT key T).isNil then m else IntKind.i64.wrap (m - 1)) b:=by
 refine ⟨h.ok.cut (by omega) _,?_⟩
 rw [cut_inL h.ok.srt,h.eq];have hs:SortedL (kvT t rows):=by rw [<- h.eq]; exact h.ok.srt
 exact kv_cut _ hs
theorem TrOk.has {t:Tb} {rows:List Rw} {T:Tr Rw} {m:Int} {b:Nat} (h:TrOk t rows T m b) (key:List UInt8):(fndT key T).isNil = !hasL key (kvT t rows):=by
 rw [find_has key T h.ok.srt,h.eq]
theorem TrOk.fewr {t:Tb} {rows:List Rw} {T:Tr Rw} {m:Int} {b:Nat} (h:TrOk t rows T m b):rows.length <= b:=by
 have:=h.ok.le;rw [h.eq] at this;unfold kvT at this;rw [kvR_len] at this;exact this
end
section
variable {Q:V -> List O -> Prop}
theorem VCloneF_spec {r:Rw} (hl:r.length < 1000000) (h:Q (fR r) []):ACall Tryz.prog 63 0 [.sl 3 (vals r) false] [] Q:=by
 refine ACall.ret (VClone_spec hl (.frz 0 rfl (by repeat (first | exact trivial | refine And.intro (Nat.le_of_eq (by rw [vals_len,Nat.zero_add])) ?_)) (.done [] rfl ?_)))
 show Q (.sl 3 (List.take r.length (vals r)) false) []
 rw [List.take_of_length_le (by rw [vals_len]; exact Nat.le_refl _)]
 exact h
theorem keyR_no {C:List Col} {k:Nat} {r:Rw} (h:keyOkL C k r = false):keyR C k r = .tup [.str [],fI 9]:=by unfold keyR; rw [h]; rfl
theorem keyR_yes {C:List Col} {k:Nat} {r:Rw} (h:keyOkL C k r = true):keyR C k r = .tup [.str (kyR C k r),fI 0]:=by unfold keyR kyR; rw [h]; rfl
theorem from_all {t:Tr Rw} (hs:SortedL (inL t)):fromL [] t = inL t:=by
 rw [from_filter [] t hs];exact List.filter_eq_self.2 fun x _=>leS_nil _
end
section
variable {Q:V -> List O -> Prop}
def ddA (d:Dd):V:=.agg [fI d.k,.str d.t,.sl 3 (vals d.r) false]
def ddC (d:Dd):List V:=[fI d.k,.str d.t,.sl 3 (vals d.r) false]
def dds (l:List Dd):List (List V):=l.map ddC
theorem dds_len (l:List Dd):(dds l).length = l.length:=by simp [dds]
theorem dds_get {l:List Dd} {i:Nat} {d:Dd} (h:l[i]? = some d):(dds l)[i]? = some (ddC d):=by simp [dds,h]
abbrev Tok:=List UInt8 × (Nat × (Tr Rw × Int))
abbrev tkF (a:Nat × (Tr Rw × Int)):V:=.raw (.pointer (some ⟨a.1,0,none⟩))
def tkB (X:List Tok):List (Nat × List V):=X.map fun x=>(x.2.1,[.im (encT fR x.2.2.1),.int .i64 x.2.2.2])
def tryO (i:Nat) (es:List Evt):O:=.cells [.ptr 0 0,.map 3,.ms 12 i 0 es.length false]
theorem app_raw {i j n:Nat} {f:Bool} {X:List (List V)} {w:List V} {H:List O} {K:V -> List O -> Prop} (hij:Nat.beq i j = false) (hX:getO H i = .buf X) (hn:n = X.length) (hs:X.length <= 1000000000)
 (hK:copyH (setO H i .dead ++ [.buf (X ++ [w])]) fun H' => K (.ms 12 (setO H i .dead).length 0 (X ++ [w]).length false) H') :
 0 + 1 <= 1 /\ aapp 12 (tt 93).bytes (.ms 12 i 0 n false) (.ms 12 j 0 1 f) [w] H K:=by
 subst hn;refine ⟨Nat.le_refl 1,?_⟩;unfold aapp sameBuf;simp only [hij];unfold aappend;simp only [show Nat.beq 12 12 = true from rfl,hX,List.drop_zero]
 refine ⟨rfl,?_⟩;unfold newBuf;exact ⟨by rw [laZ,List.length_singleton,show (tt 93).bytes = 168 from rfl]; omega,hK⟩
def evA0 (k:Int) (t:List UInt8) (r:Rw):List V:=[fI k,fI 0,.str t,.nils,.sl 3 (vals r) false,fI 0,.str [],.nils,fI 0,.str [],fI 0,.bool false]
def evB0 (t:List UInt8) (r:Rw):List V:=[fI 5,fI 0,.str t,.sl 3 (vals r) false,.nils,fI 0,.str [],.nils,fI 0,.str [],fI 0,.bool false]
theorem evA0_sub (k:Int) (t:List UInt8) (r:Rw):VSubs (evA0 k t r) (evC ⟨k,0,t,[],r,chg0⟩) :=
 .cons (.refl _) (.cons (.refl _) (.cons (.refl _) (.cons (nils_sl3 false) (.cons (.refl _) (.cons (.refl _) (.cons (.refl _) (.cons (nils_sl3 false) (VSubs.refl _))))))))
theorem evB0_sub (t:List UInt8) (r:Rw):VSubs (evB0 t r) (evC ⟨5,0,t,r,[],chg0⟩) :=
 .cons (.refl _) (.cons (.refl _) (.cons (.refl _) (.cons (.refl _) (.cons (nils_sl3 false) (.cons (.refl _) (.cons (.refl _) (.cons (nils_sl3 false) (VSubs.refl _))))))))
theorem buf_snoc {es:List Evt} {w:List V} {e:Evt} (h:VSubs w (evC e)):OSub (.buf (evs es ++ [w])) (.buf (evs (es ++ [e]))):=by
 rw [evs_app];refine .bufR (by simp [evs]) fun i a b ha hb=>?_
 rcases Nat.lt_or_ge i (evs es).length with hi | hi
 . rw [List.getElem?_append_left hi] at ha hb;rw [ha] at hb; cases hb;exact VSubs.refl _
 . rw [List.getElem?_append_right hi] at ha hb;obtain h0:i - (evs es).length = 0:=by
    have:=(liZ.1 ha).1;simp at this; omega
   rw [h0] at ha hb;cases ha; cases hb;exact h
theorem try_sub (i:Nat) {n:Nat} {es:List Evt} (h:n = es.length):OSub (.cells [.ptr 0 0,.map 3,.ms 12 i 0 n false]) (tryO i es):=by subst h; exact .refl _
theorem deeds_spec (h:Q (.map 0) [.map [(fI 1,.fn (.func 147) [] []),(fI 2,.fn (.func 148) [] []),(fI 3,.fn (.func 149) [] [])] 3]):ACall Tryz.prog 109 0 [] [] Q:=by
 refine by_body Tryz.func109 0 rfl (nbZ rfl) ?_
 conv=>whnf
 exact ⟨[0],rfl,h⟩
theorem fits_s_spec {t:Tb} {d:Dd} (hC:t.c.length <= 16) (hK:1 <= t.k /\ t.k <= t.c.length) (ht:TextsOk d.r) (h:Q (.bool (ddFit t d)) []):ACall Tryz.prog 110 0 [ddA d,sch t.c t.k] [] Q:=by
 refine by_body Tryz.func110 0 rfl (nbZ rfl) ?_;obtain ⟨nm,C,K⟩:=t;obtain ⟨k,rfl⟩:∃ k:Nat,K = k:=⟨K.toNat,by simp only at hK; omega⟩
 simp only at hC hK;unfold ddFit at h
 conv=>whnf
 refine branch_i (fun c=>?_) (fun c=>?_)<;>try rw [c]<;>conv=>whnf
 . rw [if_pos (dtZ c)] at h;refine .pure (SKey_spec (l:=C) (keys:=k) (vs:=d.r) (f:=false) (by omega) (by omega) ht ⟨rfl,?_⟩)
   simp only [Int.toNat_natCast] at h;cases hkb:keyOkL C k d.r<;>rw [hkb] at h
   . rw [keyR_no hkb]
     conv=>whnf
     exact ⟨[],rfl,h⟩
   . rw [keyR_yes hkb]
     conv=>whnf
     rw [vals_len];exact ⟨[],rfl,h⟩
 . rw [if_neg (dfZ c)] at h;refine .pure (Fits_spec (l:=C) (keys:=(k:Int)) (vs:=d.r) (f:=false) (by omega) ht ⟨rfl,?_⟩)
   conv=>whnf
   exact ⟨[],rfl,h⟩
set_option maxHeartbeats 4000000 in
theorem insert_spec {l:List Tb} {L:List Trw} {c:Nat} {log:List UInt8} {n m:Int} {kx:List (V × V)} {cx:Nat} {es:List Evt} {B:List (Nat × List V)} {t:Tb} {rs:List Rw} {T:Tr Rw} {tm:Int} {b:Nat} {d:Dd}
 (hC:t.c.length <= 16) (hK:1 <= t.k /\ t.k <= t.c.length) (ht:TextsOk d.r) (hT:TrOk t rs T tm b) (hb:b < 1000000) (hes:es.length <= 1000000) (hf:fitsL t.c d.r = true)
 (hE:ddHas t rs d = true -> Q (fI 8) (srcH l L c log n m ++ [tryO 4 es,.pmap kx cx,.buf (evs es),.bag B,treeO T tm]))
 (hO:ddHas t rs d = false -> ∀ T' tm', TrOk t (putR t.c t.k.toNat rs d.r) T' tm' (b + 1) -> Q (fI 0) (srcH l L c log n m ++ [tryO 7 (es ++ [⟨3,0,d.t,[],d.r,chg0⟩]),.pmap kx cx,.dead,.bag B,treeO T' tm', .buf (evs (es ++ [⟨3,0,d.t,[],d.r,chg0⟩]))])) :
 ACall Tryz.prog 147 7 [.ptr 2 0,ddA d,sch t.c t.k,.ptr 6 0] (srcH l L c log n m ++ [tryO 4 es,.pmap kx cx,.buf (evs es),.bag B,treeO T tm]) Q:=by
 refine ACall.sub (by_body Tryz.func147 7 rfl (nbZ rfl) ?_);obtain ⟨nm,C,K⟩:=t;obtain ⟨k,rfl⟩:∃ k:Nat,K = k:=⟨K.toNat,by simp only at hK; omega⟩
 simp only at hC hK hf;have hO:=fun h1=>hO h1 _ _ (hT.putd (by omega) d.r)
 have hhas:=hT.has (kyT ⟨nm,C,k⟩ d.r);unfold ddHas at hE hO;have hky:kyT ⟨nm,C,k⟩ d.r = kyR C k d.r:=rfl;rw [hky] at hE hO hhas;have hel:=evs_len es;have hrl:d.r.length < 1000000:=by have:=fits_len hf; omega
 have hht:=hT.ok.ht;have hkb:keyOkL C k d.r = true:=keyOk_of_fits (by omega) hf
 conv=>whnf
 refine .pure (SKey_spec (l:=C) (keys:=k) (vs:=d.r) (f:=false) (by omega) (by omega) ht ⟨rfl,?_⟩)
 rw [keyR_yes hkb]
 conv=>whnf
 generalize kyR C k d.r = key at *;cases hfd:fndT key T with
 | node k' v' a' b' =>
  rw [hfd] at hhas;have hh:hasL key (kvT ⟨nm,C,k⟩ rs) = true:=by cases hx:hasL key (kvT ⟨nm,C,k⟩ rs) with | true=>rfl | false=>rw [hx] at hhas; cases hhas
  refine .call [6] 1 ⟨rfl,rfl,rfl⟩ (Get_some hfd ?_)
  conv=>whnf
  exact ⟨[0,1,2,3,4,5,6],rfl,_,_,.refl _,HSub.refl _,hE hh⟩
 | nil =>
  rw [hfd] at hhas;have hh:hasL key (kvT ⟨nm,C,k⟩ rs) = false:=by cases hx:hasL key (kvT ⟨nm,C,k⟩ rs) with | false=>rfl | true=>rw [hx] at hhas; cases hhas
  have hO:=hO hh;refine .call [6] 1 ⟨rfl,rfl,rfl⟩ (Get_none hfd ?_)
  conv=>whnf
  refine .pure (VCloneF_spec hrl ⟨rfl,?_⟩)
  conv=>whnf
  refine .call [6] 1 ⟨rfl,rfl,rfl⟩ (Put_spec (v:=d.r) (by omega) ?_)
  generalize putT key d.r T = T' at *;generalize (if (fndT key T).isNil = true then IntKind.i64.wrap (tm + 1) else tm) = tm' at *
  conv=>whnf
  refine ⟨List.range 15,by kernel_rfl,by kernel_rfl,?_⟩
  conv=>whnf
  repeat (refine ⟨rfl,?_⟩
          conv=>whnf)
  refine app_raw (i:=4) (j:=9) (X:=evs es) (w:=evA0 3 d.t d.r) rfl rfl hel.symm (by omega) ?_
  conv=>whnf
  repeat (refine ⟨rfl,?_⟩
          conv=>whnf)
  refine ⟨[0,1,2,3,4,5,6,10],rfl,_,_,.refl _,.cons (.refl _) (.cons (.refl _) (.cons (try_sub 7 (by simp [hel])) (.cons (.refl _) (.cons (.refl _) (.cons (.refl _) (.cons (.refl _) (.cons (buf_snoc (evA0_sub 3 d.t d.r)) HSub.nil))))))),hO⟩
set_option maxHeartbeats 4000000 in
theorem update_spec {l:List Tb} {L:List Trw} {c:Nat} {log:List UInt8} {n m:Int} {kx:List (V × V)} {cx:Nat} {es:List Evt} {B:List (Nat × List V)} {t:Tb} {rs:List Rw} {T:Tr Rw} {tm:Int} {b:Nat} {d:Dd}
 (hC:t.c.length <= 16) (hK:1 <= t.k /\ t.k <= t.c.length) (ht:TextsOk d.r) (hT:TrOk t rs T tm b) (hb:b < 1000000) (hes:es.length <= 1000000) (hf:fitsL t.c d.r = true)
 (hE:ddHas t rs d = false -> Q (fI 14) (srcH l L c log n m ++ [tryO 4 es,.pmap kx cx,.buf (evs es),.bag B,treeO T tm]))
 (hO:ddHas t rs d = true -> ∀ T' tm', TrOk t (putR t.c t.k.toNat rs d.r) T' tm' (b + 1) -> Q (fI 0) (srcH l L c log n m ++ [tryO 7 (es ++ [⟨4,0,d.t,[],d.r,chg0⟩]),.pmap kx cx,.dead,.bag B,treeO T' tm', .buf (evs (es ++ [⟨4,0,d.t,[],d.r,chg0⟩]))])) :
 ACall Tryz.prog 148 7 [.ptr 2 0,ddA d,sch t.c t.k,.ptr 6 0] (srcH l L c log n m ++ [tryO 4 es,.pmap kx cx,.buf (evs es),.bag B,treeO T tm]) Q:=by
 refine ACall.sub (by_body Tryz.func148 7 rfl (nbZ rfl) ?_);obtain ⟨nm,C,K⟩:=t;obtain ⟨k,rfl⟩:∃ k:Nat,K = k:=⟨K.toNat,by simp only at hK; omega⟩
 simp only at hC hK hf;have hO:=fun h1=>hO h1 _ _ (hT.putd (by omega) d.r)
 have hhas:=hT.has (kyT ⟨nm,C,k⟩ d.r);unfold ddHas at hE hO;have hky:kyT ⟨nm,C,k⟩ d.r = kyR C k d.r:=rfl;rw [hky] at hE hO hhas;have hel:=evs_len es;have hrl:d.r.length < 1000000:=by have:=fits_len hf; omega
 have hht:=hT.ok.ht;have hkb:keyOkL C k d.r = true:=keyOk_of_fits (by omega) hf
 conv=>whnf
 refine .pure (SKey_spec (l:=C) (keys:=k) (vs:=d.r) (f:=false) (by omega) (by omega) ht ⟨rfl,?_⟩)
 rw [keyR_yes hkb]
 conv=>whnf
 generalize kyR C k d.r = key at *;cases hfd:fndT key T with
 | nil =>
  rw [hfd] at hhas;have hh:hasL key (kvT ⟨nm,C,k⟩ rs) = false:=by cases hx:hasL key (kvT ⟨nm,C,k⟩ rs) with | false=>rfl | true=>rw [hx] at hhas; cases hhas
  refine .call [6] 1 ⟨rfl,rfl,rfl⟩ (Get_none hfd ?_)
  conv=>whnf
  exact ⟨[0,1,2,3,4,5,6],rfl,_,_,.refl _,HSub.refl _,hE hh⟩
 | node k' v' a' b' =>
  rw [hfd] at hhas;have hh:hasL key (kvT ⟨nm,C,k⟩ rs) = true:=by cases hx:hasL key (kvT ⟨nm,C,k⟩ rs) with | true=>rfl | false=>rw [hx] at hhas; cases hhas
  have hO:=hO hh;refine .call [6] 1 ⟨rfl,rfl,rfl⟩ (Get_some hfd ?_)
  conv=>whnf
  refine .pure (VCloneF_spec hrl ⟨rfl,?_⟩)
  conv=>whnf
  refine .call [6] 1 ⟨rfl,rfl,rfl⟩ (Put_spec (v:=d.r) (by omega) ?_)
  generalize putT key d.r T = T' at *;generalize (if (fndT key T).isNil = true then IntKind.i64.wrap (tm + 1) else tm) = tm' at *
  conv=>whnf
  refine ⟨List.range 15,by kernel_rfl,by kernel_rfl,?_⟩
  conv=>whnf
  repeat (refine ⟨rfl,?_⟩
          conv=>whnf)
  refine app_raw (i:=4) (j:=9) (X:=evs es) (w:=evA0 4 d.t d.r) rfl rfl hel.symm (by omega) ?_
  conv=>whnf
  repeat (refine ⟨rfl,?_⟩
          conv=>whnf)
  refine ⟨[0,1,2,3,4,5,6,10],rfl,_,_,.refl _,.cons (.refl _) (.cons (.refl _) (.cons (try_sub 7 (by simp [hel])) (.cons (.refl _) (.cons (.refl _) (.cons (.refl _) (.cons (.refl _) (.cons (buf_snoc (evA0_sub 4 d.t d.r)) HSub.nil))))))),hO⟩
set_option maxHeartbeats 4000000 in
theorem remove_spec {l:List Tb} {L:List Trw} {c:Nat} {log:List UInt8} {n m:Int} {kx:List (V × V)} {cx:Nat} {es:List Evt} {B:List (Nat × List V)} {t:Tb} {rs:List Rw} {T:Tr Rw} {tm:Int} {b:Nat} {d:Dd}
 (hC:t.c.length <= 16) (hK:1 <= t.k /\ t.k <= t.c.length) (ht:TextsOk d.r) (hT:TrOk t rs T tm b) (hb:b < 1000000) (hes:es.length <= 1000000) (hf:keyOkL t.c t.k.toNat d.r = true)
 (hE:ddHas t rs d = false -> Q (fI 14) (srcH l L c log n m ++ [tryO 4 es,.pmap kx cx,.buf (evs es),.bag B,treeO T tm]))
 (hO:ddHas t rs d = true -> ∀ T' tm', TrOk t (cutR t.c t.k.toNat rs (kyT t d.r)) T' tm' (b + 1) -> Q (fI 0) (srcH l L c log n m ++ [tryO 7 (es ++ [⟨5,0,d.t,d.r,[],chg0⟩]),.pmap kx cx,.dead,.bag B,treeO T' tm', .buf (evs (es ++ [⟨5,0,d.t,d.r,[],chg0⟩]))])) :
 ACall Tryz.prog 149 7 [.ptr 2 0,ddA d,sch t.c t.k,.ptr 6 0] (srcH l L c log n m ++ [tryO 4 es,.pmap kx cx,.buf (evs es),.bag B,treeO T tm]) Q:=by
 refine ACall.sub (by_body Tryz.func149 7 rfl (nbZ rfl) ?_);obtain ⟨nm,C,K⟩:=t;obtain ⟨k,rfl⟩:∃ k:Nat,K = k:=⟨K.toNat,by simp only at hK; omega⟩
 simp only at hC hK hf;have hO:=fun h1=>hO h1 _ _ ((hT.cutd (by omega) (kyT ⟨nm,C,k⟩ d.r)).mono (Nat.le_succ b))
 have hhas:=hT.has (kyT ⟨nm,C,k⟩ d.r);unfold ddHas at hE hO;have hky:kyT ⟨nm,C,k⟩ d.r = kyR C k d.r:=rfl;rw [hky] at hE hO hhas;have hel:=evs_len es;have hht:=hT.ok.ht;have hkb:keyOkL C k d.r = true:=hf
 conv=>whnf
 refine .pure (SKey_spec (l:=C) (keys:=k) (vs:=d.r) (f:=false) (by omega) (by omega) ht ⟨rfl,?_⟩)
 rw [keyR_yes hkb]
 conv=>whnf
 generalize kyR C k d.r = key at *;refine .call [6] 1 ⟨rfl,rfl,rfl⟩ (Cut_spec (by omega) ?_)
 cases hh:hasL key (kvT ⟨nm,C,k⟩ rs)<;>rw [hh] at hhas
 . rw [if_pos (by rw [hhas]; rfl),if_pos (by rw [hhas]; rfl),hhas]
   conv=>whnf
   exact ⟨[0,1,2,3,4,5,6],rfl,_,_,.refl _,HSub.refl _,hE hh⟩
 . have hO:=hO hh;generalize (if (fndT key T).isNil = true then T else cutT key T) = T' at *
   generalize (if (fndT key T).isNil = true then tm else IntKind.i64.wrap (tm - 1)) = tm' at *
   rw [hhas]
   conv=>whnf
   refine ⟨List.range 15,by kernel_rfl,by kernel_rfl,?_⟩
   conv=>whnf
   repeat (refine ⟨rfl,?_⟩
           conv=>whnf)
   refine app_raw (i:=4) (j:=9) (X:=evs es) (w:=evB0 d.t d.r) rfl rfl hel.symm (by omega) ?_
   conv=>whnf
   repeat (refine ⟨rfl,?_⟩
           conv=>whnf)
   refine ⟨[0,1,2,3,4,5,6,10],rfl,_,_,.refl _,.cons (.refl _) (.cons (.refl _) (.cons (try_sub 7 (by simp [hel])) (.cons (.refl _) (.cons (.refl _) (.cons (.refl _) (.cons (.refl _) (.cons (buf_snoc (evB0_sub d.t d.r)) HSub.nil))))))),hO⟩
theorem does_spec {l:List Tb} {L:List Trw} {c:Nat} {log:List UInt8} {n m:Int} {kx:List (V × V)} {cx:Nat} {es:List Evt} {B:List (Nat × List V)} {t:Tb} {rs:List Rw} {T:Tr Rw} {tm:Int} {b:Nat} {d:Dd} {f:Nat}
 (hk:(d.k = 1 /\ f = 147) \/ (d.k = 2 /\ f = 148) \/ (d.k = 3 /\ f = 149))
 (hC:t.c.length <= 16) (hK:1 <= t.k /\ t.k <= t.c.length) (ht:TextsOk d.r) (hT:TrOk t rs T tm b) (hb:b < 1000000) (hes:es.length <= 1000000) (hf:ddFit t d = true)
 (hE:ddTb t rs d ≠ 0 -> Q (fI (ddTb t rs d)) (srcH l L c log n m ++ [tryO 4 es,.pmap kx cx,.buf (evs es),.bag B,treeO T tm]))
 (hO:ddTb t rs d = 0 -> ∀ T' tm', TrOk t (turnE t.c t.k.toNat rs (ddE d)) T' tm' (b + 1) -> Q (fI 0) (srcH l L c log n m ++ [tryO 7 (es ++ [ddE d]),.pmap kx cx,.dead,.bag B,treeO T' tm', .buf (evs (es ++ [ddE d]))])) :
 ACall Tryz.prog f 7 [.ptr 2 0,ddA d,sch t.c t.k,.ptr 6 0] (srcH l L c log n m ++ [tryO 4 es,.pmap kx cx,.buf (evs es),.bag B,treeO T tm]) Q:=by
 unfold ddTb at hE hO;rw [hf] at hE hO;simp only [Bool.true_eq_false,if_false] at hE hO;unfold ddFit at hf;unfold turnE ddE at hO;rcases hk with ⟨hk,rfl⟩ | ⟨hk,rfl⟩ | ⟨hk,rfl⟩
 . rw [if_neg (by omega)] at hf
   rw [hk] at hE hO;simp only [if_true,show ¬ ((1:Int) = 3) by decide,if_false,show ¬ ((2:Int) + 1 = 5) by decide] at hE hO
   refine insert_spec hC hK ht hT hb hes hf (fun h=>?_) fun h=>?_
   . rw [h] at hE; exact hE (by decide)
   . rw [h] at hO; exact hO rfl
 . rw [if_neg (by omega)] at hf
   rw [hk] at hE hO;simp only [show ¬ ((2:Int) = 1) by decide,show ¬ ((2:Int) = 3) by decide,if_false,show ¬ ((2:Int) + 2 = 5) by decide] at hE hO
   refine update_spec hC hK ht hT hb hes hf (fun h=>?_) fun h=>?_
   . rw [h] at hE; exact hE (by decide)
   . rw [h] at hO; exact hO rfl
 . rw [if_pos hk,Bool.and_eq_true] at hf;rw [hk] at hE hO;simp only [show ¬ ((3:Int) = 1) by decide,if_false,if_true] at hE hO
   refine remove_spec hC hK ht hT hb hes hf.1 (fun h=>?_) fun h=>?_
   . rw [h] at hE; exact hE (by decide)
   . rw [h] at hO; exact hO rfl
end
end Go.Proofs.YteiagdlfccbpcaaGreatDoorPg
