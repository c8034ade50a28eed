/- Own texts, laid together: Pg10ZDSoF, Pg10ZDSoG, Pg10ZDSoH, Pg10ZDSoI, Pg10ZDSoJ, Pg10ZDSoK, Pg10ZDSoL, Pg10ZDSoM, Pg10ZDWin6, Pg10ZDSameRw, Pg10ZDSoN, Pg10ZDSoO, Pg10ZDSoP, Pg10ZDSoQ, Pg10ZDSoR, Pg10ZDSoS, Pg10ZDSoT, Pg10ZDSoU, Pg10ZDSoV, Pg10ZDEv15, Pg10ZDSoW, Pg10ZDSoX. -/
import Derived.Test.YteiagdlfccbpcaaGreatDoorPgM19
import Derived.Test.YteiagdlfccbpcaaGreatDoorPgM14
import Derived.Test.YteiagdlfccbpcaaGreatDoorPgM18
import Derived.Test.YteiagdlfccbpcaaGreatDoorPgM17
set_option linter.unusedSimpArgs false
set_option linter.unusedVariables false
namespace Go.Proofs.YteiagdlfccbpcaaGreatDoorPg
open Go Go.RowKit
section
variable {Q:V -> List O -> Prop}
def vwX (L:List Trw) (X:List Tok):Vw:=fun n=>match alk n X with
 | some a=>some a.2
 | none=>alk n L
structure TryOk (l:List Tb) (L:List Trw) (X:List Tok) (R:List (List Rw)) (b:Nat):Prop where
 rs:RsOk l R (vwX L X) b
 nd:NodupN X
 dom:∀ n,alk n X ≠ none -> atT l n ≠ none
theorem TrCloneB_spec {t:Tr Rw} {n:Int} {B:List (Nat × List V)} (h:∀ b,Q (.raw (.pointer (some ⟨b,0,none⟩))) [.bag (B ++ [(b,[.im (encT fR t),.int .i64 n])]),.dead]):ACall Tryz.prog 111 1 [treeI t n] [.bag B] Q:=by
 refine ACall.stash (by_body Tryz.func111 1 rfl (nbZ rfl) ?_)
 conv=>whnf
 refine ⟨[0,1,2,3,4,5,6,7,8,9,10],by kernel_rfl,by kernel_rfl,?_⟩
 conv=>whnf
 exact ⟨[0,1],rfl,0,1,B,[.im (encT fR t),.int .i64 n],rfl,by decide,rfl,rfl,by simp [pureV],h⟩
theorem lent_spec {l:List Tb} {L:List Trw} {c:Nat} {log:List UInt8} {n m:Int} {kx:List (V × V)} {cx:Nat} {es:List Evt} {B l1 l2:List (Nat × List V)} {bb:Nat} {t:Tb} {rs:List Rw} {T:Tr Rw} {tm:Int} {b:Nat} {d:Dd} {f:Nat}
 (hB:B = l1 ++ (bb,[.im (encT fR T),.int .i64 tm]) :: l2) (hk:(d.k = 1 /\ f = 147) \/ (d.k = 2 /\ f = 148) \/ (d.k = 3 /\ f = 149))
 (hC:t.c.length <= 16) (hK:1 <= t.k /\ t.k <= t.c.length) (ht:TextsOk d.r) (hT:TrOk t rs T tm b) (hb:b < 1000000) (hes:es.length <= 1000000) (hf:ddFit t d = true)
 (hE:ddTb t rs d ≠ 0 -> Q (fI (ddTb t rs d)) (srcH l L c log n m ++ [tryO 4 es,.pmap kx cx,.buf (evs es),.bag (l1 ++ (bb,[.im (encT fR T),.int .i64 tm]) :: l2),.dead]))
 (hO:ddTb t rs d = 0 -> ∀ T' tm', TrOk t (turnE t.c t.k.toNat rs (ddE d)) T' tm' (b + 1) -> Q (fI 0) (srcH l L c log n m ++ [tryO 7 (es ++ [ddE d]),.pmap kx cx,.dead,.bag (l1 ++ (bb,[.im (encT fR T'),.int .i64 tm']) :: l2),.dead,.buf (evs (es ++ [ddE d]))])) :
 ACall Tryz.prog f 6 [.ptr 2 0,ddA d,sch t.c t.k,.raw (.pointer (some ⟨bb,0,none⟩))] (srcH l L c log n m ++ [tryO 4 es,.pmap kx cx,.buf (evs es),.bag B]) Q:=by
 subst hB
 exact ACall.lend («as»:=[.ptr 2 0,ddA d,sch t.c t.k]) (H0:=srcH l L c log n m ++ [tryO 4 es,.pmap kx cx,.buf (evs es)]) (does_spec (B:=l1 ++ l2) hk hC hK ht hT hb hes hf
  (fun h=>⟨srcH l L c log n m ++ [tryO 4 es,.pmap kx cx,.buf (evs es)],[],[.im (encT fR T),.int .i64 tm],rfl,rfl,by simp [pureV],hE h⟩)
  fun h T' tm' h' => ⟨srcH l L c log n m ++ [tryO 7 (es ++ [ddE d]),.pmap kx cx,.dead],[.buf (evs (es ++ [ddE d]))],[.im (encT fR T'),.int .i64 tm'],rfl,rfl,by simp [pureV],hO h T' tm' h'⟩)
theorem TryOk.turn {l:List Tb} {L:List Trw} {X X' : List Tok} {R:List (List Rw)} {b:Nat} (h:TryOk l L X R b) {i:Nat} {t:Tb} (ht:l[i]? = some t) {rs:List Rw} {bb:Nat} {T:Tr Rw} {m:Int} (hr:RowsOk t rs) (hT:TrOk t rs T m (b + 1))
 (nd:NodupN X') (lk:∀ k,alk k X' = if k = t.n then some (bb,(T,m)) else alk k X):TryOk l L X' (R.set i rs) (b + 1):=by
 refine ⟨h.rs.turn (Nat.le_succ b) ht hr hT fun k=>?_,nd,fun k hk=>?_⟩
 . unfold vwX;rw [lk];by_cases hk:k = t.n
   . rw [if_pos hk,if_pos hk]
   . rw [if_neg hk,if_neg hk]
 . by_cases hkt:k = t.n
   . rw [hkt,at_self h.rs.tbs.ok.sorted ht]; simp
   . rw [lk,if_neg hkt] at hk; exact h.dom k hk
theorem tkB_app (X Y:List Tok):tkB (X ++ Y) = tkB X ++ tkB Y:=by simp [tkB]
set_option maxRecDepth 8000 in
set_option maxHeartbeats 16000000 in
theorem do_spec {l:List Tb} {L:List Trw} {c:Nat} {log:List UInt8} {n m:Int} {X:List Tok} {cx:Nat} {es:List Evt} {R:List (List Rw)} {b:Nat} {d:Dd}
 (hX:TryOk l L X R b) (ht:TextsOk d.r) (hb:b < 1000000) (hes:es.length <= 1000000)
 (hE:ddErr l R d ≠ 0 -> ∀ o2 o3,Q (fI (ddErr l R d)) (srcH l L c log n m ++ [o2,o3]))
 (hO:ddErr l R d = 0 -> ∀ X' cx', TryOk l L X' (ddR l R d) (b + 1) -> Q (fI 0) (srcH l L c log n m ++ [tryO 4 (es ++ [ddE d]),.pmap (kvOf tkF X') cx', .buf (evs (es ++ [ddE d])),.bag (tkB X')])) :
 ACall Tryz.prog 72 4 [.ptr 2 0,ddA d] (srcH l L c log n m ++ [tryO 4 es,.pmap (kvOf tkF X) cx,.buf (evs es),.bag (tkB X)]) Q:=by
 refine by_body Tryz.func72 4 rfl (nbZ rfl) ?_;have hl:=hX.rs.tbs;have hcl:=hl.cols
 conv=>whnf
 refine ⟨[1,2,0,3,4],by kernel_rfl,by kernel_rfl,?_⟩
 conv=>whnf
 refine .call [] 0 ⟨rfl,rfl,rfl⟩ (deeds_spec ?_)
 conv=>whnf
 repeat (refine ⟨rfl,?_⟩
         conv=>whnf)
 have hkk:(d.k = 1 \/ d.k = 2 \/ d.k = 3) \/ (d.k < 1 \/ 3 < d.k):=by omega
 rcases hkk with hkk | hkk
 rotate_left
 . rw [show decide (d.k = 1) = false from decide_eq_false (by omega)]
   conv=>whnf
   rw [show decide (d.k = 2) = false from decide_eq_false (by omega)]
   conv=>whnf
   rw [show decide (d.k = 3) = false from decide_eq_false (by omega)]
   conv=>whnf
   refine ⟨.nilf,⟨_,_,rfl,rfl,rfl⟩,?_⟩
   conv=>whnf
   repeat (refine ⟨rfl,?_⟩
           conv=>whnf)
   refine ⟨List.range 16,by kernel_rfl,by kernel_rfl,?_⟩
   conv=>whnf
   refine .pure (EvFind_spec (by have:=hl.few; omega) hl.ok.sorted (fun x hx=>by have:=hcl x hx; omega) ⟨rfl,?_⟩)
   have herr:ddErr l R d = 5:=by unfold ddErr; rw [if_pos hkk]
   rw [herr] at hE;obtain ⟨C,K,is,hfr⟩:∃ C K is,findR (findT l d.t) = .tup [sch C K,.bool is]:=by
    cases findT l d.t with
    | none=>exact ⟨_,_,_,rfl⟩
    | some x=>exact ⟨_,_,_,rfl⟩
   rw [hfr]
   conv=>whnf
   repeat (refine ⟨rfl,?_⟩
           conv=>whnf)
   exact ⟨[0,1,2,3],rfl,hE (by decide) _ _⟩
 have hkd:1 <= d.k /\ d.k <= 3:=by omega
 rcases hkk with h | h | h
 focus
  rw [show decide (d.k = 1) = true from decide_eq_true h]
  conv=>whnf
 rotate_left
 focus
  rw [show decide (d.k = 1) = false from decide_eq_false (by omega)]
  conv=>whnf
  rw [show decide (d.k = 2) = true from decide_eq_true h]
  conv=>whnf
 rotate_left
 focus
  rw [show decide (d.k = 1) = false from decide_eq_false (by omega)]
  conv=>whnf
  rw [show decide (d.k = 2) = false from decide_eq_false (by omega)]
  conv=>whnf
  rw [show decide (d.k = 3) = true from decide_eq_true h]
  conv=>whnf
 all_goals
  refine ⟨List.range 16,by kernel_rfl,by kernel_rfl,?_⟩
  conv=>whnf
  refine .pure (EvFind_spec (by have:=hl.few; omega) hl.ok.sorted (fun x hx=>by have:=hcl x hx; omega) ⟨rfl,?_⟩)
  conv=>whnf
  repeat (refine ⟨rfl,?_⟩
          conv=>whnf)
 all_goals cases hat:atT l d.t with
 | none =>
  have herr:ddErr l R d = 7:=by unfold ddErr; rw [if_neg (by omega),hat]
  rw [herr] at hE;rw [find_none hat]
  conv=>whnf
  repeat (refine ⟨rfl,?_⟩
          conv=>whnf)
  exact ⟨[0,1,2,3],rfl,hE (by decide) _ _⟩
 | some i =>
  obtain ⟨t,hti,htn,hil⟩:=atT_get hat;rw [find_some hat hti];have herr:=ddErr_at (R:=R) hkd hat hti;have hdr:=ddR_at (R:=R) hat hti;rw [herr] at hE hO;rw [hdr] at hO;have hRi:R[i]? = some (R[i]'(by rw [hX.rs.len]; exact hil)):=lgZ _
  generalize (R[i]'(by rw [hX.rs.len]; exact hil)) = rs at hRi
  have hgd:R.getD i [] = rs:=by rw [List.getD_eq_getElem?_getD,hRi]; rfl
  rw [hgd] at hE hO;have htk:=hl.tbk (List.mem_of_getElem? hti)
  conv=>whnf
  repeat (refine ⟨rfl,?_⟩
          conv=>whnf)
  refine .pure (fits_s_spec (t:=t) (d:=d) htk.few ⟨htk.lo,htk.hi⟩ ht ⟨rfl,?_⟩);have hft:ddFit t d = false -> ddTb t rs d = 9:=fun h=>by unfold ddTb; rw [if_pos h]
  cases hfit:ddFit t d
  focus
   rw [hft hfit] at hE
   conv=>whnf
   exact ⟨[0,1,2,3],rfl,hE (by decide) _ _⟩
  have hfit' : ddFit t d = true:=hfit;obtain ⟨T,tm,hvw,hT⟩:=hX.rs.tree i t rs hti hRi;have hrs:=hX.rs.rows i t rs hti hRi;rw [htn] at hvw
  conv=>whnf
  refine ⟨List.range 8,by kernel_rfl,by kernel_rfl,?_⟩
  conv=>whnf
  refine find_kv (fun hn=>?_) (fun j a hn hj=>?_)
  focus
   have hL:alk d.t L = some (T,tm):=by unfold vwX at hvw; rw [hn] at hvw; exact hvw
   refine ⟨.nilp,⟨_,_,rfl,rfl,rfl⟩,?_⟩
   conv=>whnf
   repeat (refine ⟨rfl,?_⟩
           conv=>whnf)
   refine ⟨List.range 18,by kernel_rfl,by kernel_rfl,?_⟩
   conv=>whnf
   refine find_kv (fun hn=>by rw [hL] at hn; cases hn) (fun j a ha _=>?_)
   rw [hL] at ha;cases ha
   conv=>whnf
   repeat (refine ⟨rfl,?_⟩
           conv=>whnf)
   refine .call [5] 1 ⟨rfl,rfl,rfl⟩ (TrCloneB_spec (t:=T) (n:=tm) (B:=tkB X) fun bb=>?_)
   conv=>whnf
   repeat (refine ⟨rfl,?_⟩
           conv=>whnf)
   refine find_kv (fun _=>?_) (fun j a ha _=>by rw [hn] at ha; cases ha)
   conv=>whnf
   repeat (refine ⟨rfl,?_⟩
           conv=>whnf)
   refine ⟨List.range 13,by kernel_rfl,by kernel_rfl,?_⟩
   conv=>whnf
   obtain ⟨nd1,lk1⟩:=alk_app (b:=(bb,(T,tm))) hX.nd hn;show afind (.str d.t) (kvOf tkF X ++ [(V.str d.t,tkF (bb,(T,tm)))]) 0 _
   rw [kvOf_app];refine find_kv (fun hh=>by rw [lk1,if_pos rfl] at hh; cases hh) (fun j a ha _=>?_)
   rw [lk1,if_pos rfl] at ha;cases ha
   conv=>whnf
   repeat (refine ⟨rfl,?_⟩
           conv=>whnf)
   refine .call [0,1,2,3,4,5] 6 ⟨rfl,rfl,rfl⟩ (lent_spec (l:=l) (L:=L) (c:=c) (log:=log) (n:=n) (m:=m) (kx:=kvOf tkF X ++ [(V.str d.t,tkF (bb,(T,tm)))]) (cx:=cx + 1) (l1:=tkB X) (l2:=[]) (bb:=bb) (t:=t) (rs:=rs) (T:=T) (tm:=tm) (d:=d) rfl (by first | exact .inl ⟨h,rfl⟩ | exact .inr (.inl ⟨h,rfl⟩) | exact .inr (.inr ⟨h,rfl⟩)) htk.few ⟨htk.lo,htk.hi⟩ ht hT hb hes hfit' (fun he=>?_) fun he T' tm' hT' => ?_)
   . have hE:=hE he;generalize ddTb t rs d = er at *
     conv=>whnf
     exact ⟨[0,1,2,3],rfl,hE _ _⟩
   . have hrs' := hrs.turn (ddE_evF hkd htn.symm hfit');obtain ⟨nd2,lk2⟩:=alk_app (b:=(bb,(T', tm'))) hX.nd hn;have hO:=hO he (X ++ [(d.t,(bb,(T', tm')))]) (cx + 1) (hX.turn hti hrs' hT' nd2 (by rw [htn]; exact lk2))
     rw [<- kvOf_app,tkB_app] at hO
     repeat (conv=>whnf
             refine ⟨rfl,?_⟩)
     conv=>whnf
     exact ⟨[0,1,2,3,11,5],rfl,hO⟩
  focus
   obtain ⟨bb,T0,tm0⟩:=a;have he0:(T0,tm0) = (T,tm):=by unfold vwX at hvw; rw [hn] at hvw; exact Option.some.inj hvw
   cases he0
   conv=>whnf
   repeat (refine ⟨rfl,?_⟩
           conv=>whnf)
   refine ⟨List.range 13,by kernel_rfl,by kernel_rfl,?_⟩
   conv=>whnf
   refine find_kv (fun hh=>by rw [hn] at hh; cases hh) (fun j2 a ha hj2=>?_)
   rw [hn] at ha;cases ha;have hsp:X = X.take j2 ++ (d.t,(bb,(T,tm))) :: X.drop (j2 + 1):=split_get hj2;generalize X.take j2 = X1 at *;generalize X.drop (j2 + 1) = X2 at *;subst hsp
   conv=>whnf
   repeat (refine ⟨rfl,?_⟩
           conv=>whnf)
   refine .call [0,1,2,3,4,5] 6 ⟨rfl,rfl,rfl⟩ (lent_spec (l:=l) (L:=L) (c:=c) (log:=log) (n:=n) (m:=m) (kx:=kvOf tkF (X1 ++ (d.t,(bb,(T,tm))) :: X2)) (cx:=cx) (B:=tkB (X1 ++ (d.t,(bb,(T,tm))) :: X2)) (l1:=tkB X1) (l2:=tkB X2) (bb:=bb) (t:=t) (rs:=rs) (T:=T) (tm:=tm) (d:=d) (by simp [tkB]) (by first | exact .inl ⟨h,rfl⟩ | exact .inr (.inl ⟨h,rfl⟩) | exact .inr (.inr ⟨h,rfl⟩)) htk.few ⟨htk.lo,htk.hi⟩ ht hT hb hes hfit' (fun he=>?_) fun he T' tm' hT' => ?_)
   . have hE:=hE he;generalize ddTb t rs d = er at *
     conv=>whnf
     exact ⟨[0,1,2,3],rfl,hE _ _⟩
   . have hrs' := hrs.turn (ddE_evF hkd htn.symm hfit');obtain ⟨nd2,lk2⟩:=alk_mid (b:=(bb,(T', tm'))) hX.nd;have hO:=hO he (X1 ++ (d.t,(bb,(T', tm'))) :: X2) cx (hX.turn hti hrs' hT' nd2 (by rw [htn]; exact lk2))
     rw [show kvOf tkF (X1 ++ (d.t,(bb,(T', tm'))) :: X2) = kvOf tkF (X1 ++ (d.t,(bb,(T,tm))) :: X2) by simp [kvOf,tkF],show tkB (X1 ++ (d.t,(bb,(T', tm'))) :: X2) = tkB X1 ++ (bb,[.im (encT fR T'),.int .i64 tm']) :: tkB X2 by simp [tkB]] at hO
     repeat (conv=>whnf
             refine ⟨rfl,?_⟩)
     conv=>whnf
     exact ⟨[0,1,2,3,10,5],rfl,hO⟩
end
section
variable {Q:V -> List O -> Prop}
theorem dd_may {l:List Tb} {R:List (List Rw)} {d:Dd} (hl:TbsB l) (h:ddErr l R d = 0) (ht:TextsOk d.r) (hn:∀ v ∈ d.r,I64 v.n):mayE (ddE d) l = 0 /\ EvtN (ddE d) /\ EvtT (ddE d):=by
 unfold ddErr at h;split at h
 . exact absurd h (by decide)
 rename_i hk;have hk' : 1 <= d.k /\ d.k <= 3:=by omega
 cases ha:atT l d.t with
 | none=>rw [ha] at h; simp at h
 | some i =>
  obtain ⟨t,hti,htn,hil⟩:=atT_get ha;rw [ha] at h;simp only [hti] at h;have hf:ddFit t d = true:=by
   cases hx:ddFit t d with
   | true=>rfl
   | false=>unfold ddTb at h; rw [if_pos hx] at h; exact absurd h (by decide)
  have hft:=find_some ha hti;have hfew:=(hl.tbk (List.mem_of_getElem? hti)).few;have hKc:=(hl.tbk (List.mem_of_getElem? hti)).hi;unfold ddFit at hf;have nl:∀ v ∈ ([]:List Val),I64 v.n:=fun v hv=>by simp at hv
  have tl:TextsOk []:=fun v hv=>by simp at hv
  have i0:I64 0:=⟨by decide,by decide⟩
  unfold ddE;split at hf
  . rename_i h3;rw [if_pos h3];rw [Bool.and_eq_true,decide_eq_true_eq] at hf;exact ⟨(MayI.del d.t d.r t.c t.k hft hf.1 hf.2).e,⟨i0,hn,nl⟩,⟨ht,tl,by simp only; omega,by simp,by simp [chg0]⟩⟩
  . rename_i h3;rw [if_neg h3];have:=fits_len' hf;exact ⟨(MayI.ins (2 + d.k) d.t d.r t.c t.k (by omega) hft hf).e,⟨i0,nl,hn⟩,⟨tl,ht,by simp,by simp only; omega,by simp [chg0]⟩⟩
theorem doR_ok {l:List Tb} {R:List (List Rw)} {d:Dd} (ds:List Dd) (h:ddErr l R d = 0):doR l R (d :: ds) = doR l (ddR l R d) ds:=by
 show (if ddErr l R d = 0 then doR l (ddR l R d) ds else _) = _
 rw [if_pos h]
theorem doR_may {l:List Tb} (hl:TbsB l):∀ {ds:List Dd} {R:List (List Rw)},(doR l R ds).2 = 0 -> (∀ d ∈ ds,TextsOk d.r) -> (∀ d ∈ ds,∀ v ∈ d.r,I64 v.n) -> ∀ e ∈ ds.map ddE,mayE e l = 0 /\ EvtN e /\ EvtT e
 | [],R,_,_,_,e,he=>by simp at he
 | d :: ds,R,h,ht,hn,e,he=>by
  unfold doR at h;split at h
  . rename_i h0;rw [List.map_cons] at he;rcases List.mem_cons.1 he with rfl | he
    . exact dd_may hl h0 (ht d (by simp)) (hn d (by simp))
    . exact doR_may hl h (fun x hx=>ht x (by simp [hx])) (fun x hx=>hn x (by simp [hx])) e he
  . rename_i h0; exact absurd h h0
def tryH (es:List Evt) (X:List Tok) (cx:Nat):List O:=[tryO 4 es,.pmap (kvOf tkF X) cx,.buf (evs es),.bag (tkB X)]
def runInv (l:List Tb) (L:List Trw) (c:Nat) (log:List UInt8) (n m:Int) (ends:Int) (ds:List Dd) (f:Bool) (R:List (List Rw)) (b:Nat) (k:Nat) (ws:List V) (H:List O):Prop :=
 ∃ (i:Nat) (X:List Tok) (R' : List (List Rw)) (cx:Nat),ws = [.ptr 0 0,fI ends,.ptr 2 0,.sl 3 (dds ds) f,fI (dds ds).length,fI i] /\ H = srcH l L c log n m ++ tryH ((ds.take i).map ddE) X cx /\
  TryOk l L X R' (b + i) /\ doR l R ds = doR l R' (ds.drop i) /\ i <= ds.length /\ k = ds.length - i
def unX (X:List Tok):List Trw:=X.map fun x=>(x.1,x.2.2)
theorem alk_unX (k:List UInt8):∀ X:List Tok,alk k (unX X) = (alk k X).map (·.2)
 | []=>rfl
 | x :: X=>by
  show (if x.1 = k then some x.2.2 else alk k (unX X)) = (if x.1 = k then some x.2 else alk k X).map (·.2)
  by_cases h:x.1 = k
  . rw [if_pos h,if_pos h]; rfl
  . rw [if_neg h,if_neg h]; exact alk_unX k X
theorem unX_nodup {X:List Tok} (h:NodupN X):NodupN (unX X):=by
 unfold NodupN unX at *;rw [List.map_map];exact h
theorem vw_unX (L:List Trw) (X:List Tok):(fun k=>(alk k (unX X)).or (alk k L)) = vwX L X:=by
 funext k
 rw [alk_unX];unfold vwX;cases alk k X<;>rfl
theorem unX_kv {X:List Tok} {i:Nat} {x y:V × V} (hx:(kvOf tkF X)[i]? = some x) (hy:(kvOf trF (unX X))[i]? = some y):∃ b cs,(b,cs) ∈ tkB X /\ x.2 = .raw (.pointer (some ⟨b,0,none⟩)) /\ y = (x.1,.ip cs 0):=by
 obtain ⟨a,h1,rfl⟩:=kvOf_get hx;obtain ⟨a', h2,rfl⟩:=kvOf_get hy;unfold unX at h2;rw [List.getElem?_map,h1] at h2;cases h2;exact ⟨a.2.1,_,List.mem_map.2 ⟨a,List.mem_of_getElem? h1,rfl⟩,rfl,rfl⟩
set_option maxRecDepth 8000 in
set_option maxHeartbeats 16000000 in
theorem run_spec {l:List Tb} {L:List Trw} {c:Nat} {log:List UInt8} {n m ends:Int} {R:List (List Rw)} {b:Nat} {ds:List Dd} {f:Bool}
 (hR:RsOk l R (fun k=>alk k L) b) (ht:∀ d ∈ ds,TextsOk d.r) (hn:∀ d ∈ ds,∀ v ∈ d.r,I64 v.n) (hds:ds.length <= 1000) (hb:b < 900000) (hnn:0 <= n /\ n < 1000000000) (he:ends = 7 \/ ends = 8) (hs:log.length + 1000020 * (ds.length + 2) <= 800000000)
 (hE:(doR l R ds).2 ≠ 0 -> Q (.tup [.nilm,fI (doR l R ds).2]) (srcH l L c log n m ++ [.dead]))
 (hO:(doR l R ds).2 = 0 -> ∀ (X:List Trw) cx,RsOk l (doR l R ds).1 (fun k=>(alk k X).or (alk k L)) (b + ds.length) -> NodupN X -> (∀ k,alk k X ≠ none -> atT l k ≠ none) ->
  Q (.tup [.map 2,fI 0]) (srcH l L c (tellL log (mkE 2 n :: (ds.map ddE ++ [mkE ends n]))) (n + 1) m ++ [.pmap (kvOf trF X) cx,.dead])) :
 ACall Tryz.prog 41 2 [.ptr 0 0,.sl 3 (dds ds) f,fI ends] (srcH l L c log n m) Q:=by
 refine ACall.unbag (ACall.ret (by_body Tryz.func41 2 rfl (nbZ rfl) ?_));have hl:=hR.tbs;have hdl:=dds_len ds
 conv=>whnf
 refine ⟨⟨[0,2,8,16,17,18],runInv l L c log n m ends ds f R b,?_,?_⟩⟩
 . refine .frz (ds.length + 1) (.adopt (.adopt (.sub [.ptr 0 0,fI ends,.ptr 3 0,.sl 3 (dds ds) f,fI (dds ds).length,fI 0] (srcH l L c log n m ++ [.pmap [] 0,.cells [.ptr 0 0,.map 2,.ms 12 4 0 0 false],.buf [],.bag []]) (VSubs.refl _) ?_ (.go [0,1,3,2,4,5] rfl ds.length (by omega) ⟨0,[],R,0,rfl,rfl,?_,rfl,by omega,rfl⟩))))
   . refine .cons (.refl _) (.cons (.refl _) (.cons (.pmap0 0) (.cons (.cells (.cons (.refl _) (.cons (.refl _) (.cons (VSub.ms0 12 4 0 false) .nil)))) (.cons (.refl _) (.cons (.bag0 _) HSub.nil)))))
   . exact ⟨hR,NodupN.nil,fun k hk=>absurd rfl hk⟩
 rintro k ws H ⟨i,X,R', cx,rfl,rfl,hX,hdr,hi,rfl⟩
 conv=>whnf
 refine branch_i (fun c1=>?_) (fun c1=>?_)<;>try rw [c1]<;>conv=>whnf
 . have c1' := dtZ c1;have hil:i < ds.length:=by omega
   have hg:ds[i]? = some ds[i]:=lgZ hil;have hdr' : ds.drop i = ds[i] :: ds.drop (i + 1):=List.drop_eq_getElem_cons hil;have hti:(ds.take (i + 1)).map ddE = (ds.take i).map ddE ++ [ddE ds[i]]:=by rw [List.take_add_one,hg,List.map_append]; rfl
   have htd:=ht ds[i] (List.getElem_mem hil);rw [hdr'] at hdr;generalize ds[i] = d at *;refine ⟨_,⟨by omega,dds_get hg⟩,?_⟩
   conv=>whnf
   refine .call [0,1,2,3,4,5] 4 ⟨rfl,rfl,rfl⟩ (do_spec hX htd (by omega) (by simp; omega) (fun he o2 o3=>?_) fun he X' cx' hX' => ?_)
   . have:doR l R ds = (R', ddErr l R' d):=by rw [hdr]; unfold doR; rw [if_neg he]
     rw [this] at hE;have hE:Q (.tup [.nilm,fI (ddErr l R' d)]) (srcH l L c log n m ++ [.dead]):=hE he;generalize ddErr l R' d = er at *
     conv=>whnf
     rw [show (!decide (er = 0)) = true by simp [he]]
     conv=>whnf
     refine ⟨[0,1],rfl,.adopt (.sub _ (srcH l L c log n m ++ [O.bag []]) (.refl _) (.cons (.refl _) (.cons (.refl _) (.cons (.bag0 _) HSub.nil))) (.done [0,1,2] rfl ⟨2,1,c,[],trKV L,trKV L,by decide,rfl,rfl,rfl,fun _ x y hx hy=>.inl ?_,hE⟩))⟩
     rw [hx] at hy; exact (Option.some.inj hy).symm
   . conv=>whnf
     refine .go [0,1,2,3,4,5] rfl (ds.length - (i + 1)) (by omega) ⟨i + 1,X', ddR l R' d,cx', ?_,?_,hX', ?_,by omega,rfl⟩
     . show [V.ptr 0 0,fI ends,.ptr 2 0,.sl 3 (dds ds) f,fI (dds ds).length,.int .i64 (IntKind.i64.wrap ((i:Int) + 1))] = _
       rw [wrapL (by omega)]; rfl
     . rw [hti]; rfl
     . rw [hdr]; exact doR_ok _ he
 . have c1' := dfZ c1;have hie:i = ds.length:=by omega
   subst hie;have hdo:doR l R ds = (R', 0):=by rw [hdr,List.drop_length]; rfl
   have hev:=doR_may hl (ds:=ds) (R:=R) (by rw [hdo]) ht hn
   rw [List.take_length];rw [hdo] at hO;have hml:(ds.map ddE).length = ds.length:=by simp
   generalize ds.map ddE = es at *;have hel:=evs_len es;refine ACalls.frz 6 rfl rfl (by repeat (first | exact trivial | refine And.intro (by first | omega | exact Nat.le_refl 1) ?_)) ?_
   refine ACalls.sub [.ptr 0 0,.sl 12 (evs [mkE 2 n]) true] _ rfl (.cons (.refl _) (.cons (mr_row 2 n true) (VSubs.refl _))) (HSub.refl _) ?_;refine .call [0,1] 2 ⟨rfl,rfl,rfl⟩ (STell_spec (l:=l) (L:=L) (c:=c) (log:=log) (n:=n) (m:=m) hl (fun e he=>by
    rw [List.mem_singleton.1 he];exact ⟨mkE_may rfl (by omega),mkE_n (by unfold I64; omega),evt0 _ _ _⟩) (by simp; omega) ?_)
   have htl1:=tellL_len hl [mkE 2 n] log (fun e he=>by rw [List.mem_singleton.1 he]; exact ⟨mkE_may rfl (by omega),mkE_n (by unfold I64; omega)⟩)
   generalize hl1:tellL log [mkE 2 n] = log1 at *
   conv=>whnf
   refine ACalls.frz 4 rfl rfl (by repeat (first | exact trivial | refine And.intro (by omega) ?_)) ?_
   refine ACalls.sub [.ptr 0 0,.sl 12 (evs es) false] _ rfl (.cons (.refl _) (.cons (VSub.eq (congrArg (fun z=>V.sl 12 z false) (by rw [List.drop_zero,<- hel,List.take_length]))) (VSubs.refl _))) (HSub.refl _) ?_
   refine .call [0,1] 2 ⟨rfl,rfl,rfl⟩ (STell_spec (l:=l) (L:=L) (c:=c) (log:=log1) (n:=n) (m:=m) (f:=false) (es:=es) hl hev (by simp at htl1; omega) ?_)
   have htl2:=tellL_len hl es log1 (fun e he=>⟨(hev e he).1,(hev e he).2.1⟩)
   have hlog:tellL (tellL log1 es) [mkE ends n] = tellL log (mkE 2 n :: (es ++ [mkE ends n])):=by
    rw [<- hl1,<- tellL_app,<- tellL_app]; rfl
   generalize tellL log1 es = log2 at *
   conv=>whnf
   refine ACalls.frz 7 rfl rfl (by repeat (first | exact trivial | refine And.intro (by first | omega | exact Nat.le_refl 1) ?_)) ?_
   refine ACalls.sub [.ptr 0 0,.sl 12 (evs [mkE ends n]) true] _ rfl (.cons (.refl _) (.cons (mr_row ends n true) (VSubs.refl _))) (HSub.refl _) ?_;refine .call [0,1] 2 ⟨rfl,rfl,rfl⟩ (STell_spec (l:=l) (L:=L) (c:=c) (log:=log2) (n:=n) (m:=m) hl (fun e he' => by
    rw [List.mem_singleton.1 he'];exact ⟨mkE_may (by rcases he with rfl | rfl<;>rfl) (by omega),mkE_n (by unfold I64; omega),evt0 _ _ _⟩) (by simp at htl1 ⊢; omega) ?_)
   rw [hlog]
   conv=>whnf
   rw [wrapI (by omega)]
   refine ⟨[0,1,3,5],rfl,.done [0,1,2,3] rfl ⟨3,2,cx,tkB X,kvOf tkF X,kvOf trF (unX X),by decide,rfl,rfl,by simp [kvOf,unX],fun i x y hx hy=>.inr (unX_kv hx hy),?_⟩⟩
   exact hO rfl (unX X) cx (by rw [vw_unX]; exact hX.rs) (unX_nodup hX.nd) fun k hk=>hX.dom k fun hk2=>hk (by rw [alk_unX,hk2]; rfl)
end
section
variable {Q:V -> List O -> Prop}
structure SrcOk (s:SS) (L:List Trw) (b:Nat):Prop where
 rs:RsOk s.l s.R (fun k=>alk k L) b
 nd:NodupN L
 dom:∀ k,alk k L ≠ none -> atT s.l k ≠ none
theorem SrcOk.mono {s:SS} {L:List Trw} {b b' : Nat} (h:SrcOk s L b) (hb:b <= b'):SrcOk s L b' := ⟨h.rs.mono hb,h.nd,h.dom⟩
def srcS (s:SS) (L:List Trw) (c:Nat):List O:=srcH s.l L c s.log s.n s.m
structure SrcB (s:SS) (N:Nat):Prop where
 n0:0 <= s.n
 n1:s.n <= N
 m0:0 <= s.m
 m1:s.m <= N
structure DdIn (d:Dd):Prop where
 t:TextsOk d.r
 n:∀ v ∈ d.r,I64 v.n
theorem doS_no {s:SS} {ds:List Dd} {u:Bool} (h:(doR s.l s.R ds).2 ≠ 0):doS s ds u = (s,(doR s.l s.R ds).2):=by unfold doS; rw [if_neg h]
theorem doS_ok {s:SS} {ds:List Dd} {u:Bool} (h:(doR s.l s.R ds).2 = 0):doS s ds u = ({ s with R:=if u then s.R else (doR s.l s.R ds).1,log:=tellL s.log (mkE 2 s.n :: (ds.map ddE ++ [mkE (if u then 8 else 7) s.n])),n:=s.n + 1,m:=if u then s.m else s.m + 1 },0):=by unfold doS; rw [if_pos h]
theorem Undo_spec {s:SS} {L:List Trw} {c:Nat} {b:Nat} {ds:List Dd} {f:Bool} (hS:SrcOk s L b) (hB:SrcB s 1000000) (hd:∀ d ∈ ds,DdIn d) (hds:ds.length <= 1000) (hb:b < 900000) (hs:s.log.length + 1000020 * (ds.length + 2) <= 800000000)
 (h:SrcOk (doS s ds true).1 L b -> Q (fI (doS s ds true).2) (srcS (doS s ds true).1 L c)) :
 ACall Tryz.prog 20 2 [.ptr 0 0,.sl 3 (dds ds) f] (srcS s L c) Q:=by
 refine by_body Tryz.func20 2 rfl (nbZ rfl) ?_;have h1:=hB.n0; have h2:=hB.n1
 conv=>whnf
 refine .call [0,1] 2 ⟨rfl,rfl,rfl⟩ (run_spec (ends:=8) hS.rs (fun d hd' => (hd d hd').t) (fun d hd' => (hd d hd').n) hds hb ⟨h1,by omega⟩ (.inr rfl) hs (fun he=>?_) fun he X cx _ _ _=>?_)
 . rw [doS_no he] at h;have h:=h hS;generalize (doR s.l s.R ds).2 = er at *
   conv=>whnf
   exact ⟨[0,1],rfl,h⟩
 . rw [doS_ok he] at h;have h:=h ⟨hS.rs,hS.nd,hS.dom⟩
   conv=>whnf
   exact ⟨[0,1],rfl,h⟩
theorem srcH_app (l:List Tb) (L:List Trw) (c:Nat) (log:List UInt8) (n m:Int) (x:List UInt8) (a:Tr Rw × Int):srcH l (L ++ [(x,a)]) c log n m = [.cells [.sl 3 (tbs l) false,.map 1,.sl 1 (bs log) false,fI n,fI m],.pmap (trKV L ++ [(.str x,trF a)]) c]:=by
 unfold srcH trKV; rw [<- kvOf_app]
theorem srcH_set (l:List Tb) (L:List Trw) (j:Nat) (c:Nat) (log:List UInt8) (n m:Int) (x:List UInt8) (a:Tr Rw × Int):srcH l (L.set j (x,a)) c log n m = [.cells [.sl 3 (tbs l) false,.map 1,.sl 1 (bs log) false,fI n,fI m],.pmap ((trKV L).set j (.str x,trF a)) c]:=by
 unfold srcH trKV; rw [<- kvOf_set]
def doInv (l:List Tb) (L X:List Trw) (log:List UInt8) (n m:Int) (k:Nat) (ws:List V) (H:List O):Prop :=
 ∃ (Lf L' : List Trw) (c' : Nat) (B:List Nat) (cur:Option (V × V)),ws = [.ptr 0 0,.ptr 2 0] /\ H = srcH l L' c' log n m ++ [.miter B (kvOf trF Lf) cur] /\ NodupN Lf /\ NodupN L' /\
  (∀ k,alk k Lf = none -> alk k L' = (alk k X).or (alk k L)) /\ (∀ k a,alk k Lf = some a -> alk k X = some a /\ alk k L' = alk k L) /\ k = Lf.length
theorem Do_spec {s:SS} {L:List Trw} {c:Nat} {b:Nat} {ds:List Dd} {f:Bool} (hS:SrcOk s L b) (hB:SrcB s 1000000) (hd:∀ d ∈ ds,DdIn d) (hds:ds.length <= 1000) (hb:b < 900000) (hs:s.log.length + 1000020 * (ds.length + 2) <= 800000000)
 (h:∀ L' c', SrcOk (doS s ds false).1 L' (b + ds.length) -> Q (fI (doS s ds false).2) (srcS (doS s ds false).1 L' c')) :
 ACall Tryz.prog 21 2 [.ptr 0 0,.sl 3 (dds ds) f] (srcS s L c) Q:=by
 refine by_body Tryz.func21 2 rfl (nbZ rfl) ?_;have h1:=hB.n0; have h2:=hB.n1; have h3:=hB.m0; have h4:=hB.m1
 conv=>whnf
 refine .call [0,1] 2 ⟨rfl,rfl,rfl⟩ (run_spec (ends:=7) hS.rs (fun d hd' => (hd d hd').t) (fun d hd' => (hd d hd').n) hds hb ⟨h1,by omega⟩ (.inl rfl) hs (fun he=>?_) fun he X cx hX hXn hXd=>?_)
 . rw [doS_no he] at h;have h:=h L c (hS.mono (Nat.le_add_right _ _));generalize (doR s.l s.R ds).2 = er at *
   conv=>whnf
   rw [show (!decide (er = 0)) = true by simp [he]]
   conv=>whnf
   exact ⟨[0,1],rfl,h⟩
 rw [doS_ok he] at h;simp only [Bool.false_eq_true,if_false] at h;generalize tellL s.log (mkE 2 s.n :: (ds.map ddE ++ [mkE 7 s.n])) = log' at *;generalize (doR s.l s.R ds).1 = R' at *
 conv=>whnf
 intro B
 conv=>whnf
 refine ⟨⟨[0,19],doInv s.l L X log' (s.n + 1) s.m,?_,?_⟩⟩
 . exact .frz (X.length + 1) (.go [0,1,4] rfl X.length (by omega) ⟨X,L,c,B,none,rfl,rfl,hXn,hS.nd,fun k hk=>by rw [hk]; rfl,fun k a hk=>⟨hk,rfl⟩,rfl⟩)
 rintro k ws H ⟨Lf,L', c', B', cur,rfl,rfl,n1,n2,a1,a2,rfl⟩
 conv=>whnf
 refine ⟨fun hnil=>?_,fun j kv hj=>?_⟩
 . have hLf:Lf = []:=List.map_eq_nil_iff.1 hnil;subst hLf;have hlk:(fun k=>alk k L') = fun k=>(alk k X).or (alk k L):=funext fun k=>a1 k rfl
   have h:=h L' c' ⟨by rw [hlk]; exact hX,n2,fun k hk=>by
    rw [a1 k rfl] at hk;cases hx:alk k X with
    | some a=>exact hXd k (by rw [hx]; simp)
    | none=>rw [hx] at hk; exact hS.dom k hk⟩
   conv=>whnf
   rw [wrapI (by omega)]
   exact ⟨[0,1],rfl,h⟩
 . obtain ⟨⟨nm,T,tm⟩,hx,rfl⟩:=kvOf_get hj;have hin:=alk_in n1 (List.mem_of_getElem? hx);obtain ⟨e1,e2⟩:=alk_erase n1 hx;have hjl:=(liZ.1 hx).1;have hlen:(Lf.eraseIdx j).length = Lf.length - 1:=by rw [List.length_eraseIdx,if_pos hjl]
   have next:∀ (L2:List Trw),NodupN L2 -> (∀ k,alk k L2 = if k = nm then some (T,tm) else alk k L') ->
    (∀ k,alk k (Lf.eraseIdx j) = none -> alk k L2 = (alk k X).or (alk k L)) /\ (∀ k a,alk k (Lf.eraseIdx j) = some a -> alk k X = some a /\ alk k L2 = alk k L):=fun L2 hn2 hl2=>by
    refine ⟨fun k hk=>?_,fun k a hk=>?_⟩
    . rw [e2] at hk;rw [hl2];by_cases hkn:k = nm
      . subst hkn; rw [if_pos rfl,(a2 _ _ hin).1]; rfl
      . rw [if_neg hkn] at hk ⊢; exact a1 k hk
    . rw [e2] at hk;by_cases hkn:k = nm
      . rw [if_pos hkn] at hk; cases hk
      . rw [if_neg hkn] at hk; rw [hl2,if_neg hkn]; exact a2 k a hk
   conv=>whnf
   refine find_kv (fun hn=>?_) (fun j2 a ha hj2=>?_)
   . obtain ⟨q1,q2⟩:=alk_app (b:=(T,tm)) n2 hn;obtain ⟨q3,q4⟩:=next _ q1 q2
     conv=>whnf
     refine .go [0,1,2] rfl (Lf.length - 1) (by omega) ⟨Lf.eraseIdx j,L' ++ [(nm,T,tm)],c' + 1,B', some (.str nm,trF (T,tm)),rfl,?_,e1,q1,q3,q4,hlen.symm⟩
     rw [<- kvOf_erase,srcH_app];rfl
   . obtain ⟨q1,q2⟩:=alk_set (b:=(T,tm)) n2 hj2;obtain ⟨q3,q4⟩:=next _ q1 q2
     conv=>whnf
     refine .go [0,1,2] rfl (Lf.length - 1) (by omega) ⟨Lf.eraseIdx j,L'.set j2 (nm,T,tm),c', B', some (.str nm,trF (T,tm)),rfl,?_,e1,q1,q3,q4,hlen.symm⟩
     rw [<- kvOf_erase,srcH_set];rfl
end
section
def turnRs (t:Tb) (c:Chg) (rs:List Rw):List Rw:=rs.map (turnS t.c c.k c.col)
def turnTb (t:Tb) (c:Chg):Tb:=⟨t.n,(applyS t.c t.k c.k c.col).1,(applyS t.c t.k c.k c.col).2.1⟩
def alterR (l:List Tb) (R:List (List Rw)) (c:Chg) (l' : List Tb):List (List Rw):=l'.map fun x=>match atT l x.n with
 | none=>[]
 | some i=>if x.n = c.t then (match l[i]? with
  | some t=>turnRs t c (R.getD i [])
  | none=>[]) else R.getD i []
structure TurnOk (t:Tb) (c:Chg) (rs:List Rw):Prop where
 rows:RowsOk (turnTb t c) (turnRs t c rs)
 can:∀ r ∈ rs,CanTurn t.c c.k c.col r.length
 key:∀ r ∈ rs,kyT (turnTb t c) (turnS t.c c.k c.col r) = kyT t r
theorem turn_ok {t:Tb} {c:Chg} {rs:List Rw} (hm:mayS t.c t.k = true) (hr:RowsOk t rs) (he:(applyS t.c t.k c.k c.col).2.2 = 0):TurnOk t c rs:=by
 have hs:=may_ok hm;have hT:∀ r ∈ rs,Turned t.c t.k c.k c.col r:=fun r h=>by
  have hf:=hr.fit r h;refine turned hs (fits_len' hf) (fun i c v hc hv=>?_) he
  unfold fitsL at hf;rw [Bool.and_eq_true,decide_eq_true_eq,List.all_eq_true] at hf;have:=hf.2 i (List.mem_range.2 (liZ.1 hv).1);rw [stAt_some hc hv] at this;exact this
 have hap:=apply_ok hs he;have key:∀ r ∈ rs,kyT (turnTb t c) (turnS t.c c.k c.col r) = kyT t r:=fun r h=>by
  have h1:=hT r h;have hk:(applyS t.c t.k c.k c.col).2.1 = t.k:=h1.keyed;have o1:keyOkL (applyS t.c t.k c.k c.col).1 (applyS t.c t.k c.k c.col).2.1.toNat (turnS t.c c.k c.col r) = true:=keyOk_of_fits (by have:=hap.len; have:=hap.lo; omega) h1.fits
  have o2:keyOkL t.c t.k.toNat r = true:=keyOk_of_fits (by have:=hs.len; have:=hs.lo; omega) (hr.fit r h)
  unfold kyT kyR turnTb;rw [if_pos o1,if_pos o2,hk,h1.same]
 refine ⟨⟨?_,fun r h=>?_⟩,fun r h=>(hT r h).can,key⟩
 . have e:kvT (turnTb t c) (turnRs t c rs) = rs.map fun r=>(kyT t r,turnS t.c c.k c.col r):=by
    unfold kvT kvR turnRs;rw [List.map_map];exact List.map_congr_left fun r h=>by
     show (kyR _ _ _,_) = _
     rw [show kyR (turnTb t c).c (turnTb t c).k.toNat (turnS t.c c.k c.col r) = kyT t r from key r h]
   rw [e];have:=hr.srt;unfold SortedL kvT kvR at *;rw [List.pairwise_map] at this ⊢;exact this
 . obtain ⟨r0,h0,rfl⟩:=List.mem_map.1 h;exact (hT r0 h0).fits
theorem TrOk.snoc {t:Tb} {p q:List Rw} {r:Rw} {T:Tr Rw} {m:Int} {b:Nat} (h:TrOk t p T m b) (hs:SortedL (kvT t (p ++ r :: q))) (hb:b < 1000000000) :
 TrOk t (p ++ [r]) (putT (kyT t r) r T) (if (fndT (kyT t r) T).isNil then IntKind.i64.wrap (m + 1) else m) (b + 1):=by
 have h1:=h.putd hb r;have hlt:∀ x ∈ kvT t p,Op.bytesLess x.1 (kyT t r) = true:=by
  unfold kvT at hs;rw [kvR_app] at hs;have:=(sorted_mid (show SortedL (kvR t.c t.k.toNat p ++ (kyT t r,r) :: kvR t.c t.k.toNat q) from hs)).2.2.1
  exact this
 have e:putR t.c t.k.toNat p r = p ++ [r]:=by
  refine kvR_inj (C:=t.c) (K:=t.k.toNat) ?_;rw [<- kv_put,kvR_app];exact ins_last hlt
 rw [e] at h1;exact h1
theorem fol_mem {l l' : List Tb} {c:Chg} (hl:TbsB l) (h:folT l c.k c.t c.c c.ks c.col = (l', 0)) {x:Tb} (hx:x ∈ l') :
 (x ∈ l /\ x.n ≠ c.t) \/ (x.n = c.t /\ c.k = 1 /\ atT l c.t = none) \/ (x.n = c.t /\ c.k ≠ 1 /\ c.k ≠ 2 /\ ∃ i t,atT l c.t = some i /\ l[i]? = some t /\ x = turnTb t c /\ (applyS t.c t.k c.k c.col).2.2 = 0):=by
 have hs:=hl.ok.sorted;have other:∀ y ∈ l,∀ i,atT l c.t = some i -> (∀ t,l[i]? = some t -> y ≠ t) -> y.n ≠ c.t:=fun y hy i hi hne e=>by
  obtain ⟨j,hj⟩:=List.mem_iff_getElem?.1 hy;have:=at_self hs hj;rw [e,hi] at this;cases this;exact hne y hj rfl
 unfold folT at h;by_cases h1:c.k = 1
 . rw [if_pos h1] at h;split at h
   . cases h
   split at h
   . cases h
   rename_i c2;split at h
   . cases h
   split at h
   . cases h
   cases h;have hn:atT l c.t = none:=by
    cases ha:atT l c.t with
    | none=>rfl
    | some j=>rw [ha] at c2; simp at c2
   unfold insT at hx;have hno:∀ y ∈ l,y.n ≠ c.t:=fun y hy=>by
    have:=at_no hn (nw y) (List.mem_map.2 ⟨y,hy,rfl⟩);exact this
   rcases List.mem_append.1 hx with hx | hx
   . exact .inl ⟨List.mem_of_mem_take hx,hno x (List.mem_of_mem_take hx)⟩
   . rcases List.mem_cons.1 hx with rfl | hx
     . exact .inr (.inl ⟨rfl,h1,hn⟩)
     . exact .inl ⟨List.mem_of_mem_drop hx,hno x (List.mem_of_mem_drop hx)⟩
 rw [if_neg h1] at h;cases ha:atT l c.t with
 | none=>rw [ha] at h; cases h
 | some i =>
  rw [ha] at h;obtain ⟨t,hti,htn,hil⟩:=atT_get ha;simp only [hti] at h;by_cases h2:c.k = 2
  . rw [if_pos h2] at h;cases h;refine .inl ⟨List.mem_of_mem_eraseIdx hx,?_⟩;obtain ⟨j,hj⟩:=List.mem_iff_getElem?.1 hx;rw [List.getElem?_eraseIdx] at hj;intro e;split at hj
    . have:=at_self hs hj;rw [e,ha] at this;cases this; omega
    . have:=at_self hs hj;rw [e,ha] at this;cases this; omega
  . rw [if_neg h2] at h;split at h
    . rename_i hne;exact absurd (Prod.mk.inj h).2 hne
    . rename_i he;cases h;obtain ⟨j,hj⟩:=List.mem_iff_getElem?.1 hx;rw [List.getElem?_set] at hj;split at hj
      . cases hj;exact .inr (.inr ⟨htn,h1,h2,i,t,rfl,hti,rfl,Decidable.not_not.1 he⟩)
      . rename_i hij;refine .inl ⟨List.mem_of_getElem? hj,fun e=>?_⟩
        have:=at_self hs hj;rw [e,ha] at this;cases this; exact hij rfl
theorem alter_rs {l l' : List Tb} {R:List (List Rw)} {vw vw' : Vw} {b:Nat} {c:Chg} (h:RsOk l R vw b) (hf:folT l c.k c.t c.c c.ks c.col = (l', 0))
 (ho:∀ k,k ≠ c.t -> vw' k = vw k) (h1:c.k = 1 -> vw' c.t = some (.nil,0))
 (h3:c.k ≠ 1 -> c.k ≠ 2 -> ∀ (i:Nat) t,atT l c.t = some i -> l[i]? = some t -> ∃ T m,vw' c.t = some (T,m) /\ TrOk (turnTb t c) (turnRs t c (R.getD i [])) T m b) :
 RsOk l' (alterR l R c l') vw' b:=by
 have hl:=h.tbs;have hs:=hl.ok.sorted;have hl' : TbsB l' := by
  have:=folT_ok (c:=c.col) (k:=c.k) (t:=c.t) (cs:=c.c) (ks:=c.ks) hl (by rw [hf])
  rw [hf] at this; exact this
 have key:∀ x ∈ l', ∀ rs,(match atT l x.n with
  | none=>[]
  | some i=>if x.n = c.t then (match l[i]? with
   | some t=>turnRs t c (R.getD i [])
   | none=>[]) else R.getD i []) = rs -> RowsOk x rs /\ ∃ T m,vw' x.n = some (T,m) /\ TrOk x rs T m b:=fun x hx rs hrs=>by
  rcases fol_mem hl hf hx with ⟨hxl,hne⟩ | ⟨hn,hk,hno⟩ | ⟨hn,hk1,hk2,i,t,ha,hti,rfl,he⟩
  . obtain ⟨i,hi⟩:=List.mem_iff_getElem?.1 hxl;rw [at_self hs hi] at hrs;simp only [if_neg hne] at hrs;have hil:=(liZ.1 hi).1;have hR:R[i]? = some rs:=by
     have:R[i]? = some (R[i]'(by rw [h.len]; exact hil)):=lgZ _
     rw [this,<- hrs,List.getD_eq_getElem?_getD,this]; rfl
    rw [ho _ hne];exact ⟨h.rows i x rs hi hR,h.tree i x rs hi hR⟩
  . rw [hn,hno] at hrs;subst hrs;refine ⟨RowsOk.nil x,.nil,0,by rw [hn]; exact h1 hk,TOk.nil.mono (Nat.zero_le _),rfl⟩
  . rw [hn,ha] at hrs;simp only [if_true,hti] at hrs;subst hrs;have hil:=(liZ.1 hti).1;have hR:R[i]? = some (R.getD i []):=by
     have:R[i]? = some (R[i]'(by rw [h.len]; exact hil)):=lgZ _
     rw [List.getD_eq_getElem?_getD,this]; rfl
    refine ⟨(turn_ok (hl.ok.each t (List.mem_of_getElem? hti)).sch (h.rows i t _ hti hR) he).rows,?_⟩;rw [hn];exact h3 hk1 hk2 i t ha hti
 refine ⟨hl', by simp [alterR],fun j x rs hj hr=>?_,fun j x rs hj hr=>?_⟩
 all_goals
  unfold alterR at hr;rw [List.getElem?_map,hj] at hr;have:=key x (List.mem_of_getElem? hj) rs (Option.some.inj hr)
 . exact this.1
 . exact this.2
def alterS (s:SS) (c:Chg):SS × Int :=
 if mayE ⟨6,0,[],[],[],c⟩ s.l = 0 then
  (if (folT s.l c.k c.t c.c c.ks c.col).2 = 0 then
   (⟨(folT s.l c.k c.t c.c c.ks c.col).1,alterR s.l s.R c (folT s.l c.k c.t c.c c.ks c.col).1,tellL s.log [mkE 2 s.n,⟨6,0,[],[],[],c⟩,mkE 7 s.n],s.n + 1,s.m + 1⟩,0)
  else (s,(folT s.l c.k c.t c.c c.ks c.col).2))
 else (s,1)
end
section
variable {Q:V -> List O -> Prop}
theorem at_in {l:List Tb} {n:List UInt8} (h:atT l n ≠ none):∃ x ∈ l,x.n = n:=by
 cases ha:atT l n with
 | none=>exact absurd ha h
 | some i=>obtain ⟨t,h1,h2,_⟩:=atT_get ha; exact ⟨t,List.mem_of_getElem? h1,h2⟩
theorem at_of {l:List Tb} (hs:SortedT l) {x:Tb} (h:x ∈ l):atT l x.n ≠ none:=by
 obtain ⟨i,hi⟩:=List.mem_iff_getElem?.1 h;rw [at_self hs hi]; simp
theorem fol_keep {l l' : List Tb} {c:Chg} (hl:TbsB l) (h:folT l c.k c.t c.c c.ks c.col = (l', 0)):(∀ y ∈ l,y.n ≠ c.t -> y ∈ l') /\ (c.k ≠ 2 -> ∃ x ∈ l', x.n = c.t):=by
 unfold folT at h;by_cases h1:c.k = 1
 . rw [if_pos h1] at h;split at h
   . cases h
   split at h
   . cases h
   split at h
   . cases h
   split at h
   . cases h
   cases h;unfold insT;refine ⟨fun y hy _=>?_,fun _=>⟨_,List.mem_append.2 (.inr (List.mem_cons_self ..)),rfl⟩⟩
   rw [<- List.take_append_drop (posT l c.t) l] at hy;rcases List.mem_append.1 hy with hy | hy
   . exact List.mem_append.2 (.inl hy)
   . exact List.mem_append.2 (.inr (List.mem_cons_of_mem _ hy))
 rw [if_neg h1] at h;cases ha:atT l c.t with
 | none=>rw [ha] at h; cases h
 | some i =>
  rw [ha] at h;obtain ⟨t,hti,htn,hil⟩:=atT_get ha;simp only [hti] at h;have hne:∀ (j:Nat) y,l[j]? = some y -> y.n ≠ c.t -> j ≠ i:=fun j y hj hy e=>by
   subst e; rw [hti] at hj; cases hj; exact hy htn
  by_cases h2:c.k = 2
  . rw [if_pos h2] at h;cases h;refine ⟨fun y hy hn=>?_,fun h=>absurd h2 h⟩
    obtain ⟨j,hj⟩:=List.mem_iff_getElem?.1 hy;exact List.mem_eraseIdx_iff_getElem?.2 ⟨j,hne j y hj hn,hj⟩
  . rw [if_neg h2] at h;split at h
    . rename_i hne;exact absurd (Prod.mk.inj h).2 hne
    . cases h;refine ⟨fun y hy hn=>?_,fun _=>⟨⟨t.n,_,_⟩,List.mem_set hil _,htn⟩⟩
      obtain ⟨j,hj⟩:=List.mem_iff_getElem?.1 hy;refine List.mem_iff_getElem?.2 ⟨j,?_⟩;rw [List.getElem?_set_ne (Ne.symm (hne j y hj hn))];exact hj
structure FolOk (l:List Tb) (R:List (List Rw)) (L:List Trw) (c:Chg) (l' : List Tb) (L' : List Trw) (b:Nat):Prop where
 rs:RsOk l' (alterR l R c l') (fun k=>alk k L') b
 nd:NodupN L'
 dom:∀ k,alk k L' ≠ none -> atT l' k ≠ none
theorem fol_dom {l l' : List Tb} {L L' : List Trw} {c:Chg} (hl:TbsB l) (h:folT l c.k c.t c.c c.ks c.col = (l', 0)) (hd:∀ k,alk k L ≠ none -> atT l k ≠ none) (ho:∀ k,k ≠ c.t -> alk k L' = alk k L) (h2:c.k = 2 -> alk c.t L' = none) :
 ∀ k,alk k L' ≠ none -> atT l' k ≠ none:=fun k hk=>by
 obtain ⟨k1,k2⟩:=fol_keep hl h;have hl' : TbsB l' := by
  have:=folT_ok (c:=c.col) (k:=c.k) (t:=c.t) (cs:=c.c) (ks:=c.ks) hl (by rw [h])
  rw [h] at this; exact this
 by_cases hkt:k = c.t
 . subst hkt;obtain ⟨x,hx,hxn⟩:=k2 fun h=>hk (h2 h)
   rw [<- hxn];exact at_of hl'.ok.sorted hx
 . rw [ho k hkt] at hk;obtain ⟨y,hy,hyn⟩:=at_in (hd k hk);rw [<- hyn];exact at_of hl'.ok.sorted (k1 y hy (by rw [hyn]; exact hkt))
theorem TNewB_spec {B:List (Nat × List V)} (h:∀ b,Q (.raw (.pointer (some ⟨b,0,none⟩))) [.bag (B ++ [(b,[.im (encT fR .nil),.int .i64 0])]),.dead]):ACall Tryz.prog 102 1 [] [.bag B] Q:=by
 refine ACall.stash (ACall.sub (by_body Tryz.func102 1 rfl (nbZ rfl) ?_))
 conv=>whnf
 exact ⟨[0,1],rfl,_,_,.refl _,.cons (.refl _) (.cons (.cells (cs' := [.im .nilp,.int .i64 0]) (.cons (.im rfl) (.cons (.refl _) .nil))) HSub.nil),0,1,B,[.im (encT fR .nil),.int .i64 0],rfl,by decide,rfl,rfl,by simp [pureV],h⟩
theorem PutB_spec {t:Tr Rw} {n:Int} {key:List UInt8} {v:Rw} {bb:Nat} (ht:t.ht < 1152921504606846976)
 (h:Q (.bool (!(fndT key t).isNil)) [.bag [(bb,[.im (encT fR (putT key v t)),.int .i64 (if (fndT key t).isNil then IntKind.i64.wrap (n + 1) else n)])],.dead]) :
 ACall Tryz.prog 103 1 [.raw (.pointer (some ⟨bb,0,none⟩)),.str key,fR v] [.bag [(bb,[.im (encT fR t),.int .i64 n])]] Q:=by
 refine ACall.lendAt («as»:=[]) (as2:=[.str key,fR v]) (H0:=[]) (l1:=[]) (l2:=[]) (b:=bb) (cs:=[.im (encT fR t),.int .i64 n]) ?_;refine by_body Tryz.func103 2 rfl (nbZ rfl) ?_
 conv=>whnf
 refine .call [1] 1 ⟨rfl,rfl,rfl⟩ (find_spec ?_)
 conv=>whnf
 cases hf:fndT key t with
 | nil =>
  rw [hf] at h
  conv=>whnf
  refine .call [] 0 ⟨rfl,rfl,rfl⟩ (put_spec t ht ?_)
  conv=>whnf
  exact ⟨[0,1],rfl,[],[],[.im (encT fR (putT key v t)),.int .i64 (IntKind.i64.wrap (n + 1))],rfl,rfl,by simp [pureV],h⟩
 | node k w a b =>
  rw [hf] at h
  conv=>whnf
  refine .call [] 0 ⟨rfl,rfl,rfl⟩ (put_spec t ht ?_)
  conv=>whnf
  exact ⟨[0,1],rfl,[],[],[.im (encT fR (putT key v t)),.int .i64 n],rfl,rfl,by simp [pureV],h⟩
def FJ (c:LoopC) (t:Tb) (ch:Chg) (rs:List Rw) (bb:Nat) (pre:List (List V)) (Hs:List O):Prop :=
 ∃ (p q:List Rw) (T:Tr Rw) (m:Int),rs = p ++ q /\ pre = encKV fR (kvT t p) /\ TrOk (turnTb t ch) (turnRs t ch p) T m p.length /\
  Hs = [.loop c .ready [(3,.ptr 1 0),(4,.ptr 2 0),(6,.ptr 4 0)],.cells [fI ch.k,.str ch.t,.sl 3 (cols ch.c) false,fI ch.ks,.str ch.col.n,fI ch.col.k,.bool ch.col.o],.cells [.sl 3 (cols t.c) false,.int .i64 t.k],
   .bag [(bb,[.im (encT fR T),.int .i64 m])],.cells [.raw (.pointer (some ⟨bb,0,none⟩))]]
theorem rawapp {L:List Trw} {t:List UInt8} {T:Tr Rw} {m:Int} {bb:Nat}:∀ (n:Nat) (x y:V × V),(trKV L ++ [(V.str t,V.raw (.pointer (some ⟨bb,0,none⟩)))])[n]? = some x -> (trKV (L ++ [(t,(T,m))]))[n]? = some y ->
 y = x \/ ∃ b cs,(b,cs) ∈ [(bb,[V.im (encT fR T),V.int .i64 m])] /\ x.2 = .raw (.pointer (some ⟨b,0,none⟩)) /\ y = (x.1,.ip cs 0):=fun n x y hx hy=>by
 unfold trKV at hx hy;rw [<- kvOf_app] at hy;rcases Nat.lt_or_ge n (kvOf trF L).length with hl | hl
 . rw [List.getElem?_append_left hl] at hx hy;rw [hx] at hy; cases hy; exact .inl rfl
 . rw [List.getElem?_append_right hl] at hx hy;have h0:n - (kvOf trF L).length = 0:=by
    have:=(liZ.1 hx).1;simp at this; omega
   rw [h0] at hx hy;cases hx; cases hy;exact .inr ⟨bb,_,List.mem_singleton.2 rfl,rfl,rfl⟩
theorem rawset {L:List Trw} {t:List UInt8} {T:Tr Rw} {m:Int} {bb j:Nat}:∀ (n:Nat) (x y:V × V),((trKV L).set j (V.str t,V.raw (.pointer (some ⟨bb,0,none⟩))))[n]? = some x -> (trKV (L.set j (t,(T,m))))[n]? = some y ->
 y = x \/ ∃ b cs,(b,cs) ∈ [(bb,[V.im (encT fR T),V.int .i64 m])] /\ x.2 = .raw (.pointer (some ⟨b,0,none⟩)) /\ y = (x.1,.ip cs 0):=fun n x y hx hy=>by
 unfold trKV at hx hy;rw [<- kvOf_set] at hy;rw [List.getElem?_set] at hx hy;split at hx
 . rename_i h1;rw [if_pos h1] at hy;split at hx
   . rename_i h2;rw [if_pos h2] at hy;cases hx; cases hy;exact .inr ⟨bb,_,List.mem_singleton.2 rfl,rfl,rfl⟩
   . cases hx
 . rename_i h1;rw [if_neg h1] at hy;rw [hx] at hy; cases hy; exact .inl rfl
set_option maxHeartbeats 8000000 in
theorem sfollow_spec {l l' : List Tb} {R:List (List Rw)} {L:List Trw} {c:Nat} {log:List UInt8} {n m:Int} {b:Nat} {ch:Chg}
 (hR:RsOk l R (fun k=>alk k L) b) (hn:NodupN L) (hd:∀ k,alk k L ≠ none -> atT l k ≠ none) (hb:b < 900000) (hf:folT l ch.k ch.t ch.c ch.ks ch.col = (l', 0)) (hk:1 <= ch.k /\ ch.k <= 5)
 (h:∀ L' c', FolOk l R L ch l' L' b -> Q (.tup []) (srcH l L' c' log n m)):ACall Tryz.prog 60 2 [.ptr 0 0,chA ch] (srcH l L c log n m) Q:=by
 refine ACall.sel (ACall.unbag (by_body Tryz.func60 2 rfl (nbZ rfl) ?_));have hl:=hR.tbs;have hcl:=hl.cols
 conv=>whnf
 refine ⟨List.range 13,by kernel_rfl,by kernel_rfl,?_⟩
 conv=>whnf
 refine .pure (EvFind_spec (by have:=hl.few; omega) hl.ok.sorted (fun x hx=>by have:=hcl x hx; omega) ⟨rfl,?_⟩)
 obtain ⟨C,K,is,hfr,hfs⟩:∃ C K is,findR (findT l ch.t) = .tup [sch C K,.bool is] /\ ∀ i x,atT l ch.t = some i -> l[i]? = some x -> C = x.c /\ K = x.k:=by
  cases hft:findT l ch.t with
  | none=>exact ⟨_,_,_,rfl,fun i x h1 h2=>by rw [find_some h1 h2] at hft; cases hft⟩
  | some x=>exact ⟨x.1,x.2,_,rfl,fun i y h1 h2=>by rw [find_some h1 h2] at hft; cases hft; exact ⟨rfl,rfl⟩⟩
 rw [hfr]
 repeat (conv=>whnf
         refine ⟨rfl,?_⟩)
 conv=>whnf
 refine .adopt rfl (.sub [] (srcH l L c log n m ++ [O.cells [fI ch.k,.str ch.t,.sl 3 (cols ch.c) false,fI ch.ks,.str ch.col.n,fI ch.col.k,.bool ch.col.o],O.cells [.sl 3 (cols C) false,.int .i64 K],O.bag []]) rfl .nil (.cons (.refl _) (.cons (.refl _) (.cons (.refl _) (.cons (.refl _) (.cons (.bag0 _) HSub.nil))))) (.call [4] 1 ⟨rfl,rfl,rfl⟩ (TNewB_spec (B:=[]) fun bb=>?_)))
 conv=>whnf
 by_cases h2:ch.k = 2
 . rw [show decide (ch.k = 2) = true from decide_eq_true h2]
   conv=>whnf
   refine ⟨List.range 7,by kernel_rfl,by kernel_rfl,?_⟩
   conv=>whnf
   have fin:∀ L', NodupN L' -> (∀ k,alk k L' = if k = ch.t then none else alk k L) -> FolOk l R L ch l' L' b:=fun L' hn' hl2 =>
    ⟨alter_rs hR hf (fun k hk=>by rw [hl2,if_neg hk]) (fun h1=>absurd (h1.symm.trans h2) (by decide)) (fun _ h3=>absurd h2 h3),hn', fol_dom hl hf hd (fun k hk=>by rw [hl2,if_neg hk]) fun _=>by rw [hl2,if_pos rfl]⟩
   refine find_kv (fun hno=>?_) (fun j a ha hj=>?_)
   . conv=>whnf
     have h:=h L c (fin L hn fun k=>by
      by_cases hk:k = ch.t
      . rw [if_pos hk,hk,hno]
      . rw [if_neg hk])
     exact ⟨[0,1,4],rfl,2,1,c,_,trKV L,trKV L,by decide,rfl,rfl,rfl,fun _ x y hx hy=>.inl (by rw [hx] at hy; exact (Option.some.inj hy).symm),[0,1],rfl,h⟩
   . obtain ⟨q1,q2⟩:=alk_erase hn hj;have h:=h (L.eraseIdx j) c (fin _ q1 q2)
     conv=>whnf
     refine ⟨[0,1,4],rfl,2,1,c,_,(trKV L).eraseIdx j,trKV (L.eraseIdx j),by decide,rfl,rfl,by unfold trKV; rw [kvOf_erase],fun _ x y hx hy=>.inl ?_,[0,1],rfl,h⟩
     unfold trKV at hx hy;rw [kvOf_erase,hy] at hx;exact Option.some.inj hx
 rw [show decide (ch.k = 2) = false from decide_eq_false h2]
 conv=>whnf
 by_cases h1:ch.k = 1
 . rw [show decide (ch.k = 3) = false from decide_eq_false (by omega)]
   conv=>whnf
   rw [show decide (ch.k = 4) = false from decide_eq_false (by omega)]
   conv=>whnf
   rw [show decide (ch.k = 5) = false from decide_eq_false (by omega)]
   conv=>whnf
   refine ⟨List.range 8,by kernel_rfl,by kernel_rfl,?_⟩
   conv=>whnf
   have fin:∀ L', NodupN L' -> (∀ k,alk k L' = if k = ch.t then some (.nil,0) else alk k L) -> FolOk l R L ch l' L' b:=fun L' hn' hl2 =>
    ⟨alter_rs hR hf (fun k hk=>by rw [hl2,if_neg hk]) (fun _=>by rw [hl2,if_pos rfl]) (fun h3 _=>absurd h1 h3),hn', fol_dom hl hf hd (fun k hk=>by rw [hl2,if_neg hk]) fun h3=>absurd h3 h2⟩
   refine find_kv (fun hno=>?_) (fun j a ha hj=>?_)
   . obtain ⟨q1,q2⟩:=alk_app (b:=((.nil:Tr Rw),(0:Int))) hn hno;have h:=h _ (c + 1) (fin _ q1 q2)
     conv=>whnf
     exact ⟨[0,1,4],rfl,2,1,c + 1,_,_,trKV (L ++ [((ch.t,((Tr.nil:Tr Rw),(0:Int))):Trw)]),by decide,rfl,rfl,by simp [trKV,kvOf],rawapp,[0,1],rfl,h⟩
   . obtain ⟨q1,q2⟩:=alk_set (b:=((.nil:Tr Rw),(0:Int))) hn hj;have h:=h _ c (fin _ q1 q2)
     conv=>whnf
     exact ⟨[0,1,4],rfl,2,1,c,_,_,trKV (L.set j (ch.t,(.nil,0))),by decide,rfl,rfl,by simp [trKV,kvOf],rawset,[0,1],rfl,h⟩
 have hk35:ch.k = 3 \/ ch.k = 4 \/ ch.k = 5:=by omega
 obtain ⟨i,t,hat,hti,hap⟩:∃ i t,atT l ch.t = some i /\ l[i]? = some t /\ (applyS t.c t.k ch.k ch.col).2.2 = 0:=by
  obtain ⟨x,hx,hxn⟩:=(fol_keep hl hf).2 h2;rcases fol_mem hl hf hx with ⟨_,hne⟩ | ⟨_,hk1,_⟩ | ⟨_,_,_,i,t,a1,a2,_,a3⟩
  . exact absurd hxn hne
  . exact absurd hk1 h1
  . exact ⟨i,t,a1,a2,a3⟩
 obtain ⟨t', hti', htn,hil⟩:=atT_get hat;rw [hti] at hti'; cases hti';have hRi:R[i]? = some (R[i]'(by rw [hR.len]; exact hil)):=lgZ _
 generalize (R[i]'(by rw [hR.len]; exact hil)) = rs at hRi
 have hgd:R.getD i [] = rs:=by rw [List.getD_eq_getElem?_getD,hRi]; rfl
 obtain ⟨hC,hK⟩:=hfs i t hat hti;obtain ⟨T,tm,hvw,hT⟩:=hR.tree i t rs hti hRi;have hrs:=hR.rows i t rs hti hRi;have htu:=turn_ok (c:=ch) (hl.ok.each t (List.mem_of_getElem? hti)).sch hrs hap;rw [htn] at hvw;subst hC hK;rcases hk35 with h3 | h3 | h3
 focus
  rw [show decide (ch.k = 3) = true from decide_eq_true h3]
  conv=>whnf
 rotate_left
 focus
  rw [show decide (ch.k = 3) = false from decide_eq_false (by omega)]
  conv=>whnf
  rw [show decide (ch.k = 4) = true from decide_eq_true h3]
  conv=>whnf
 rotate_left
 focus
  rw [show decide (ch.k = 3) = false from decide_eq_false (by omega)]
  conv=>whnf
  rw [show decide (ch.k = 4) = false from decide_eq_false (by omega)]
  conv=>whnf
  rw [show decide (ch.k = 5) = true from decide_eq_true h3]
  conv=>whnf
 all_goals
  refine ⟨List.range 8,by kernel_rfl,by kernel_rfl,?_⟩
  conv=>whnf
  refine find_kv (fun hno=>by simp only [hno] at hvw; cases hvw) (fun j a ha hj=>?_)
  simp only [ha] at hvw;cases hvw
  repeat (conv=>whnf
          refine ⟨rfl,?_⟩)
  conv=>whnf
  refine .call [] 0 ⟨rfl,rfl,rfl⟩ (FromI_spec ?_)
  repeat (conv=>whnf
          refine ⟨rfl,?_⟩)
  conv=>whnf
  have hL:encKV fR (fromL [] T) = encKV fR (kvT t rs):=by rw [from_all hT.ok.srt,hT.eq]
  have hcl16:=hcl t (List.mem_of_getElem? hti);have hpl:rs.length <= b:=hT.fewr;have hplp:∀ p q:List Rw,rs = p ++ q -> p.length <= b:=fun p q h=>by rw [h,laZ] at hpl; omega
  refine ⟨[3,4,6],fun cl hcl2=>.pack [9,2,3,4,6] [7,8] 5 (FJ cl t ch rs bb []) (FJ cl t ch rs bb (encKV fR (fromL [] T))) rfl ⟨[],rs,.nil,0,rfl,rfl,⟨TOk.nil,rfl⟩,rfl⟩ fun ks B hks=>?_⟩
  refine FromI1_spec (J:=FJ cl t ch rs bb) (S:=fun _=>False) (J' := FJ cl t ch rs bb (encKV fR (fromL [] T))) (yieldS_intro ?_ ?_) (fun _ hx=>hx) (fun _ hx=>hx.elim) ?_
  . intro x hx;simp only [encKV,List.mem_map] at hx;obtain ⟨kv,_,rfl⟩:=hx;rfl
  . rintro pre x post Hs hp ⟨p,q,T', m', hpq,hpre,hT', rfl⟩;have hpb:=hplp p q hpq;rw [hks];subst hcl2;rw [hL,hpre,hpq] at hp;obtain ⟨r,q', rfl,rfl⟩:∃ r q', q = r :: q' /\ x = [.str (kyT t r),fR r]:=by
     unfold encKV kvT at hp;rw [kvR_app,List.map_append,List.append_cancel_left_eq] at hp;cases q with
     | nil=>cases hp
     | cons r q' => exact ⟨r,q', rfl,(List.cons.inj hp).1⟩
    have hrm:r ∈ rs:=by rw [hpq]; simp
    have hrl:=fits_len' (hrs.fit r hrm);have hca:=htu.can r hrm;have hTn:=hT'.snoc (r:=turnS t.c ch.k ch.col r) (q:=turnRs t ch q') (by
     have:=htu.rows.srt;rw [hpq,show turnRs t ch (p ++ r :: q') = turnRs t ch p ++ turnS t.c ch.k ch.col r :: turnRs t ch q' by unfold turnRs; rw [List.map_append]; rfl] at this
     exact this) (by omega)
    rw [htu.key r hrm] at hTn;have hTn2:TrOk (turnTb t ch) (turnRs t ch (p ++ [r])) (putT (kyT t r) (turnS t.c ch.k ch.col r) T') (if (fndT (kyT t r) T').isNil then IntKind.i64.wrap (m' + 1) else m') (p ++ [r]).length:=by
     have e:turnRs t ch (p ++ [r]) = turnRs t ch p ++ [turnS t.c ch.k ch.col r]:=by unfold turnRs; rw [List.map_append]; rfl
     rw [e,laZ];exact hTn
    have hht:=hT'.ok.ht;refine ayield_intro (cx_ok 0 0) ?_
    conv=>whnf
    refine ⟨List.range 7,by kernel_rfl,by kernel_rfl,?_⟩
    conv=>whnf
    refine .pure (Turn_spec (l:=t.c) (keys:=t.k) (k:=ch.k) (c:=ch.col) (r:=r) (by omega) (by omega) hca ⟨rfl,?_⟩)
    repeat (conv=>whnf
            refine ⟨rfl,?_⟩)
    conv=>whnf
    generalize turnS t.c ch.k ch.col r = r' at *;refine .call [3] 1 ⟨rfl,rfl,rfl⟩ (PutB_spec (t:=T') (n:=m') (key:=kyT t r) (v:=r') (by omega) ?_)
    generalize putT (kyT t r) r' T' = T2 at *;generalize (if (fndT (kyT t r) T').isNil = true then IntKind.i64.wrap (m' + 1) else m') = m2 at *
    repeat (conv=>whnf
            refine ⟨rfl,?_⟩)
    conv=>whnf
    exact .done [0,1,2,3,4] rfl (.inl ⟨rfl,p ++ [r],q', T2,m2,by rw [hpq]; simp,by rw [hpre]; unfold encKV kvT; rw [kvR_app,List.map_append]; rfl,hTn2,rfl⟩)
  . intro B';refine ⟨B', _,rfl,rfl,?_⟩;rintro Hs ⟨p,q,T', m', hpq,hpre,hT', rfl⟩ _;have hpe:p = rs:=by
     rw [hL] at hpre;have:=congrArg List.length hpre;unfold encKV kvT at this;rw [List.length_map,List.length_map,kvR_len,kvR_len,hpq,laZ] at this;rw [hpq,List.eq_nil_of_length_eq_zero (show q.length = 0 by omega),List.append_nil]
    subst hpe;have fin:∀ L', NodupN L' -> (∀ k,alk k L' = if k = ch.t then some (T', m') else alk k L) -> FolOk l R L ch l' L' b:=fun L' hn' hl2 =>
     ⟨alter_rs hR hf (fun k hk=>by rw [hl2,if_neg hk]) (fun h=>absurd h h1) (fun _ _ i' t' hi' ht' => by
      rw [hat] at hi';cases hi';rw [hti] at ht';cases ht';rw [hgd];exact ⟨T', m', by rw [hl2,if_pos rfl],hT'.mono hpl⟩),hn', fol_dom hl hf hd (fun k hk=>by rw [hl2,if_neg hk]) fun h3=>absurd h3 h2⟩
    conv=>whnf
    refine ⟨List.range 8,by kernel_rfl,by kernel_rfl,?_⟩
    conv=>whnf
    refine find_kv (fun hno=>by rw [ha] at hno; cases hno) (fun j2 a2 ha2 hj2=>?_)
    obtain ⟨q1,q2⟩:=alk_set (b:=(T', m')) hn hj2;have h:=h _ c (fin _ q1 q2)
    conv=>whnf
    exact ⟨[0,1,4],rfl,2,1,c,_,_,trKV (L.set j2 ((ch.t,((T' : Tr Rw),(m' : Int))):Trw)),by decide,rfl,rfl,by simp [trKV,kvOf],rawset,[0,1],rfl,h⟩
end
section
variable {Q:V -> List O -> Prop}
def evF6 (c:Chg):List V:=[fI 6,fI 0,.str [],.nils,.nils,fI c.k,.str c.t,.sl 3 (cols c.c) false,fI c.ks,.str c.col.n,fI c.col.k,.bool c.col.o]
theorem evF6_sub (c:Chg):VSubs (evF6 c) (evC ⟨6,0,[],[],[],c⟩):=.cons (.refl _) (.cons (.refl _) (.cons (.refl _) (.cons (nils_sl3 false) (.cons (nils_sl3 false) (VSubs.refl _)))))
theorem three_row (a b:Int) (c:Chg) (n:Int) (f:Bool):VSub (.sl 12 [mr a n,evF6 c,mr b n] f) (.sl 12 (evs [mkE a n,⟨6,0,[],[],[],c⟩,mkE b n]) f):=VSub.slRows rfl fun i e e' h1 h2=>by
 match i with
 | 0=>cases h1; cases h2; exact mr_sub a n
 | 1=>cases h1; cases h2; exact evF6_sub c
 | 2=>cases h1; cases h2; exact mr_sub b n
 | i + 3=>simp at h1
theorem STell3_spec {l:List Tb} {L:List Trw} {c:Nat} {log:List UInt8} {n m k:Int} {ch:Chg} (hl:TbsB l) (he:∀ e ∈ [mkE 2 k,⟨6,0,[],[],[],ch⟩,mkE 7 k],mayE e l = 0 /\ EvtN e /\ EvtT e) (hs:log.length + 1000020 * 3 <= 800000000)
 (h:Q (.tup []) (srcH l L c (tellL log [mkE 2 k,⟨6,0,[],[],[],ch⟩,mkE 7 k]) n m ++ [.dead])):ACall Tryz.prog 59 3 [.ptr 0 0,.ms 12 2 0 3 true] (srcH l L c log n m ++ [.buf [mr 2 k,evF6 ch,mr 7 k]]) Q:=by
 refine ACall.stay (k:=2) 1 rfl (ACall.frzIn 2 rfl ?_ (ACall.selInK [0,1] rfl (Nat.le_refl 2) (ACall.args (bs:=[.ptr 0 0,.sl 12 (evs [mkE 2 k,⟨6,0,[],[],[],ch⟩,mkE 7 k]) true]) (.cons (.refl _) (.cons (three_row 2 7 ch k true) .nil)) (STell_spec (l:=l) (L:=L) (c:=c) (log:=log) (n:=n) (m:=m) hl he (by simp; omega) h))))
 exact ⟨Nat.le_refl 3,trivial⟩
set_option maxRecDepth 8000 in
set_option maxHeartbeats 8000000 in
theorem SAlter_spec {s:SS} {L:List Trw} {c:Nat} {b:Nat} {ch:Chg} (hS:SrcOk s L b) (hB:SrcB s 1000000) (hc:ch.c.length < 9223372036854775808) (hb:b < 900000) (hs:s.log.length + 1000020 * 3 <= 800000000)
 (h:∀ L' c', SrcOk (alterS s ch).1 L' b -> Q (fI (alterS s ch).2) (srcS (alterS s ch).1 L' c')) :
 ACall Tryz.prog 33 2 [.ptr 0 0,chA ch] (srcS s L c) Q:=by
 refine by_body Tryz.func33 2 rfl (nbZ rfl) ?_;have h1:=hB.n0; have h2:=hB.n1; have h3:=hB.m0; have h4:=hB.m1;have hl:=hS.rs.tbs
 conv=>whnf
 refine ⟨List.range 7,by kernel_rfl,by kernel_rfl,?_⟩
 conv=>whnf
 refine .pure (ACall.args (.cons (may_sub6 6 0 ch) (VSubs.refl _)) (EvMay_spec (e:=⟨6,0,[],[],[],ch⟩) hl (evt6 6 0 hc) ⟨rfl,?_⟩));have hcs:mayE ⟨6,0,[],[],[],ch⟩ s.l ≠ 0 -> alterS s ch = (s,1):=fun hx=>by unfold alterS; rw [if_neg hx]
 have hm0:mayE ⟨6,0,[],[],[],ch⟩ s.l = 0 -> ChgI ch:=fun hx=>by
  have:=mayE_inv hx;cases this with
  | ins k t a C K hk _ _=>exact absurd hk (by omega)
  | alt _ h=>exact h
  | num k n hk _=>exact absurd hk (by decide)
 have hal:mayE ⟨6,0,[],[],[],ch⟩ s.l = 0 -> alterS s ch = (if (folT s.l ch.k ch.t ch.c ch.ks ch.col).2 = 0 then
  (⟨(folT s.l ch.k ch.t ch.c ch.ks ch.col).1,alterR s.l s.R ch (folT s.l ch.k ch.t ch.c ch.ks ch.col).1,tellL s.log [mkE 2 s.n,⟨6,0,[],[],[],ch⟩,mkE 7 s.n],s.n + 1,s.m + 1⟩,0)
  else (s,(folT s.l ch.k ch.t ch.c ch.ks ch.col).2)):=fun hx=>by unfold alterS; rw [if_pos hx]
 generalize hme:mayE ⟨6,0,[],[],[],ch⟩ s.l = me at *
 repeat (conv=>whnf
         refine ⟨rfl,?_⟩)
 conv=>whnf
 refine branch_i (fun c1=>?_) (fun c1=>?_)<;>try rw [c1]<;>conv=>whnf
 . rw [hcs (by simpa using c1)] at h
   exact ⟨[0,1],rfl,h L c hS⟩
 have c1' : me = 0:=by simpa using c1
 have hci:=hm0 c1';rw [hal c1'] at h;refine ⟨List.range 11,by kernel_rfl,by kernel_rfl,?_⟩
 conv=>whnf
 refine .pure (Follow_spec hl ⟨rfl,?_⟩);generalize hfo:folT s.l ch.k ch.t ch.c ch.ks ch.col = fo at *
 repeat (conv=>whnf
         refine ⟨rfl,?_⟩)
 conv=>whnf
 refine branch_i (fun c2=>?_) (fun c2=>?_)<;>try rw [c2]<;>conv=>whnf
 . rw [if_neg (by simpa using c2)] at h
   exact ⟨[0,1],rfl,h L c hS⟩
 have c2' : fo.2 = 0:=by simpa using c2
 rw [if_pos c2'] at h;refine ⟨List.range 14,by kernel_rfl,by kernel_rfl,?_⟩
 conv=>whnf
 have hk15:1 <= ch.k /\ ch.k <= 5:=by
  cases hci with
  | cre=>simp only; omega
  | drop=>simp only; omega
  | add k _ _ _ hk _=>rcases hk with h | h<;>simp only<;>omega
  | cut=>simp only; omega
 refine .call [0,1,4] 3 ⟨rfl,rfl,rfl⟩ (STell3_spec (l:=s.l) (L:=L) (c:=c) (log:=s.log) (n:=s.n) (m:=s.m) (k:=s.n) (ch:=ch) hl (fun e he=>?_) (by omega) ?_)
 . simp only [List.mem_cons,List.not_mem_nil,or_false] at he;rcases he with rfl | rfl | rfl
   . exact ⟨mkE_may rfl (by omega),mkE_n (by unfold I64; omega),evt0 _ _ _⟩
   . exact ⟨by rw [hme]; exact c1', evn6 _ _ _ ⟨by decide,by decide⟩,evt6 _ _ hc⟩
   . exact ⟨mkE_may rfl (by omega),mkE_n (by unfold I64; omega),evt0 _ _ _⟩
 generalize tellL s.log [mkE 2 s.n,⟨6,0,[],[],[],ch⟩,mkE 7 s.n] = log' at *
 repeat (conv=>whnf
         refine ⟨rfl,?_⟩)
 conv=>whnf
 obtain ⟨l', e'⟩:=fo;simp only at c2';subst c2';refine .call [0,1] 2 ⟨rfl,rfl,rfl⟩ (sfollow_spec (l:=s.l) (L:=L) (c:=c) (log:=log') (n:=s.n) (m:=s.m) hS.rs hS.nd hS.dom hb hfo hk15 fun L' c' hF=>?_)
 have h:=h L' c' ⟨hF.rs,hF.nd,hF.dom⟩
 conv=>whnf
 rw [wrapI (by omega),wrapI (by omega)]
 exact ⟨[0,1],rfl,h⟩
end
section
variable {Q:V -> List O -> Prop}
def bhL (after:List UInt8) (l:List (List UInt8 × Rw)):List Rw:=(l.filter fun x=>!decide (x.1 = after)).map (·.2)
theorem bhL_app (after:List UInt8) (a b:List (List UInt8 × Rw)):bhL after (a ++ b) = bhL after a ++ bhL after b:=by simp [bhL]
def bhJ (c:LoopC) (after:List UInt8) (A:List (List UInt8 × Rw)) (J:List (List V) -> List O -> Prop) (ks:List Pl) (pre:List (List V)) (Hs:List O):Prop :=
 ∃ (p q:List (List UInt8 × Rw)) (B:List Nat),A = p ++ q /\ pre = encKV fR p /\ Hs = [.loop c .ready [(3,.ptr 2 0),(4,.ptr 3 0)],.res (packR (J (rws (bhL after p))) ks B) B,.cells [.str after],.cells [.yld 1]]
def bhS (c:LoopC) (after:List UInt8) (S:List O -> Prop) (ks:List Pl) (Hs:List O):Prop :=
 ∃ B,Hs = [.loop c .ret [(3,.ptr 2 0),(4,.ptr 3 0)],.res (packR S ks B) B,.cells [.str after],.cells [.yld 1]]
set_option maxRecDepth 8000 in
set_option maxHeartbeats 8000000 in
theorem behind1_spec {l:List Tb} {L:List Trw} {c:Nat} {log:List UInt8} {n m:Int} {table after:List UInt8} {T:Tr Rw} {tm:Int} {J:List (List V) -> List O -> Prop} {S J' : List O -> Prop} {ks:List Pl} {B:List Nat}
 (hT:alk table L = some (T,tm)) (hrl:∀ x ∈ fromL after T,x.2.length < 1000000) (hy:YieldS Tryz.prog ks J S (rws (bhL after (fromL after T)))) (hJ:∀ Hs,J (rws (bhL after (fromL after T))) Hs -> J' Hs) (hS:∀ Hs,S Hs -> J' Hs)
 (h:∀ B', Q (.tup []) [.res (packR J' ks B') B', .cells [.ptr 4 0],.cells [.str table],.cells [.str after],.cells [.sl 3 (tbs l) false,.map 5,.sl 1 (bs log) false,fI n,fI m],.pmap (trKV L) c]) :
 ACall Tryz.prog 61 6 [.yld 0,.ptr 1 0,.ptr 2 0,.ptr 3 0]
  [.res (packR (J []) ks B) B,.cells [.ptr 4 0],.cells [.str table],.cells [.str after],.cells [.sl 3 (tbs l) false,.map 5,.sl 1 (bs log) false,fI n,fI m],.pmap (trKV L) c] Q:=by
 refine ACall.sub (by_body Tryz.func61 6 rfl (nbZ rfl) ?_)
 conv=>whnf
 refine ⟨List.range 7,by kernel_rfl,by kernel_rfl,?_⟩
 conv=>whnf
 refine find_kv (fun hno=>by rw [hT] at hno; cases hno) (fun j a ha hj=>?_)
 rw [hT] at ha;cases ha
 repeat (conv=>whnf
         refine ⟨rfl,?_⟩)
 conv=>whnf
 refine ⟨[0,1,2,3,4,6,5,7],by kernel_rfl,by kernel_rfl,?_⟩
 conv=>whnf
 refine find_kv (fun hno=>by rw [hT] at hno; cases hno) (fun j a ha hj=>?_)
 rw [hT] at ha;cases ha
 repeat (conv=>whnf
         refine ⟨rfl,?_⟩)
 conv=>whnf
 refine .call [] 0 ⟨rfl,rfl,rfl⟩ (FromI_spec ?_)
 repeat (conv=>whnf
         refine ⟨rfl,?_⟩)
 conv=>whnf
 refine ⟨[3,4],fun cl hcl=>.pack [9,0,3,6] [7,8] 4 (bhJ cl after (fromL after T) J ks []) (fun Hs=>bhJ cl after (fromL after T) J ks (encKV fR (fromL after T)) Hs \/ bhS cl after S ks Hs) rfl ⟨[],fromL after T,B,rfl,rfl,rfl⟩ fun ks2 B2 hks=>?_⟩
 refine FromI1_spec (J:=bhJ cl after (fromL after T) J ks) (S:=bhS cl after S ks) (J' := fun Hs=>bhJ cl after (fromL after T) J ks (encKV fR (fromL after T)) Hs \/ bhS cl after S ks Hs) (yieldS_intro ?_ ?_) (fun _ hx=>.inl hx) (fun _ hx=>.inr hx) ?_
 . intro x hx;simp only [encKV,List.mem_map] at hx;obtain ⟨kv,_,rfl⟩:=hx;rfl
 . rintro pre x post Hs hp ⟨p,q,B3,hpq,hpre,rfl⟩;rw [hpre] at hp;obtain ⟨⟨key,r⟩,q', rfl,rfl⟩:∃ r q', q = r :: q' /\ x = [.str r.1,fR r.2]:=by
    rw [hpq] at hp;unfold encKV at hp;rw [List.map_append,List.append_cancel_left_eq] at hp;cases q with
    | nil=>cases hp
    | cons r q' => exact ⟨r,q', rfl,(List.cons.inj hp).1⟩
   have hrm:=hrl (key,r) (by rw [hpq]; simp)
   have hnext:pre ++ [[.str key,fR r]] = encKV fR (p ++ [(key,r)]):=by rw [hpre]; simp [encKV]
   rw [hks];subst hcl;refine ayield_intro (cx_ok 0 0) ?_
   conv=>whnf
   refine ⟨List.range 10,by kernel_rfl,by kernel_rfl,?_⟩
   conv=>whnf
   by_cases hka:key = after
   . rw [show decide (key = after) = true from decide_eq_true hka]
     conv=>whnf
     refine .done [0,1,2,3] rfl (.inl ⟨rfl,p ++ [(key,r)],q', B3,by rw [hpq]; simp,hnext,?_⟩)
     rw [bhL_app,show bhL after [(key,r)] = [] by simp [bhL,hka],List.append_nil]
     rfl
   . rw [show decide (key = after) = false from decide_eq_false hka]
     have hone:bhL after [(key,r)] = [r]:=by simp [bhL,hka]
     conv=>whnf
     refine .pure (VCloneF_spec (r:=r) hrm ⟨rfl,?_⟩)
     repeat (conv=>whnf
             refine ⟨rfl,?_⟩)
     conv=>whnf
     refine .call [1] 1 ⟨rfl,rfl,rfl⟩ (AYield.mono (hy (rws (bhL after p)) [fR r] (rws (bhL after q')) B3 ?_) ?_)
     . rw [hpq,bhL_app,show bhL after ((key,r) :: q') = r :: bhL after q' by simp [bhL,hka],rws_app]; rfl
     rintro rr H' ⟨B4,⟨rfl,rfl⟩ | ⟨rfl,rfl⟩⟩
     . repeat (conv=>whnf
               refine ⟨rfl,?_⟩)
       conv=>whnf
       refine .done [0,1,2,3] rfl (.inl ⟨rfl,p ++ [(key,r)],q', B4,by rw [hpq]; simp,hnext,?_⟩)
       rw [bhL_app,hone,rws_app];rfl
     . repeat (conv=>whnf
               refine ⟨rfl,?_⟩)
       conv=>whnf
       exact .done [0,1,2,3] rfl (.inr ⟨rfl,B4,rfl⟩)
 . intro B';refine ⟨B', _,rfl,rfl,?_⟩;rintro Hs (⟨p,q,B5,hpq,hpre,rfl⟩ | ⟨B5,rfl⟩) _
   . have hpe:bhL after p = bhL after (fromL after T):=by
      have:=congrArg List.length hpre;unfold encKV at this;rw [List.length_map,List.length_map,hpq,laZ] at this;rw [hpq,List.eq_nil_of_length_eq_zero (show q.length = 0 by omega),List.append_nil]
     rw [hpe]
     conv=>whnf
     exact ⟨[0,1,2,3,4,5],rfl,_,_,.refl _,.cons (.pk ks B5 hJ) (HSub.refl _),h B5⟩
   . conv=>whnf
     exact ⟨[0,1,2,3,4,5],rfl,_,_,.refl _,.cons (.pk ks B5 hS) (HSub.refl _),h B5⟩
end
section
variable {Q:V -> List O -> Prop}
theorem behind_spec {o1 o2:List V} {kv:List (V × V)} {c:Nat} {l:List Tb} {log:List UInt8} {n m:Int} {table after:List UInt8} {L:List Trw}
 (h:Q (.fn (.func 61) [] [.ptr 2 0,.ptr 3 0,.ptr 4 0]) (srcH l L c log n m ++ [.cells [.ptr 0 0],.cells [.str table],.cells [.str after]])) :
 ACall Tryz.prog 37 2 [.ptr 0 0,.str table,.str after] (srcH l L c log n m) Q:=by
 refine by_body Tryz.func37 2 rfl (nbZ rfl) ?_
 conv=>whnf
 exact ⟨[0,1,2,3,4],rfl,h⟩
def someH (c:LoopC) (st:LSt) (most:Int) (es:List (List V)):List O :=
 match es with
 | []=>[.loop c st [(7,.ptr 1 0),(10,.ptr 2 0)],.cells [fI most],.cells [.nils]]
 | x :: r=>[.loop c st [(7,.ptr 1 0),(10,.ptr 2 0)],.cells [fI most],.cells [.ms 1 3 0 (x :: r).length false],.buf (x :: r)]
def smJ (c:LoopC) (most:Int) (pre:List (List V)) (Hs:List O):Prop:=pre.length <= most.toNat /\ Hs = someH c .ready most pre
def smS (c:LoopC) (most:Int) (es:List (List V)) (Hs:List O):Prop:=Hs = someH c (.exit 0) most es
def smE (c:LoopC) (most:Int) (es:List (List V)) (Hs:List O):Prop:=∃ st,(st = .ready \/ st = .exit 0) /\ Hs = someH c st most es
theorem take_stop' {α:Type} {a b:List α} {m:Nat} (h1:a.length <= m) (h2:m <= a.length):(a ++ b).take m = a:=by
 have:m = a.length:=by omega
 subst this; simp
set_option maxRecDepth 8000 in
set_option maxHeartbeats 8000000 in
theorem SSome_spec {l:List Tb} {L:List Trw} {c:Nat} {log:List UInt8} {n m:Int} {table after:List UInt8} {most:Int} (hrl:∀ T tm,alk table L = some (T,tm) -> (∀ x ∈ fromL after T,x.2.length < 1000000) /\ (fromL after T).length < 1000000)
 (h0:alk table L = none -> Q (.tup [.sl 1 (rws []) false,fI 7]) (srcH l L c log n m))
 (h1:∀ T tm,alk table L = some (T,tm) -> Q (.tup [.sl 1 (rws ((bhL after (fromL after T)).take most.toNat)) false,fI 0]) (srcH l L c log n m)) :
 ACall Tryz.prog 12 2 [.ptr 0 0,.str table,.str after,fI most] (srcH l L c log n m) Q:=by
 refine ACall.sub (ACall.ret (by_body Tryz.func12 2 rfl (nbZ rfl) ?_))
 conv=>whnf
 refine find_kv (fun hno=>?_) (fun j a ha hj=>?_)
 . refine ⟨.nilp,⟨_,_,rfl,rfl,rfl⟩,?_⟩
   conv=>whnf
   exact ⟨[0,1],rfl,.done [0,1] rfl ⟨_,_,.tup (.cons (VSub.nils 1 false) (VSubs.refl _)),HSub.refl _,h0 hno⟩⟩
 obtain ⟨T,tm⟩:=a;obtain ⟨hr1,hr2⟩:=hrl T tm ha;have h1:=h1 T tm ha;have hbl:(bhL after (fromL after T)).length <= (fromL after T).length:=by unfold bhL; rw [List.length_map]; exact List.length_filter_le _ _
 conv=>whnf
 refine .call [0,1] 2 ⟨rfl,rfl,rfl⟩ (behind_spec (o1:=[]) (o2:=[]) (kv:=[]) (l:=l) (L:=L) (c:=c) (log:=log) (n:=n) (m:=m) ?_)
 conv=>whnf
 generalize hA:bhL after (fromL after T) = A at *;refine ⟨[7,10],fun cl hcl=>.pack [7,2,3] [4,5,6,0,1] 3 (smJ cl most []) (smE cl most (rws (A.take most.toNat))) rfl ⟨Nat.zero_le _,rfl⟩ fun ks B hks=>?_⟩
 refine behind1_spec (l:=l) (L:=L) (c:=c) (log:=log) (n:=n) (m:=m) (table:=table) (after:=after) (J:=smJ cl most) (S:=smS cl most (rws (A.take most.toNat))) (J' := smE cl most (rws (A.take most.toNat))) ha hr1 (yieldS_intro ?_ ?_) ?_ ?_ ?_
 . intro x hx;obtain ⟨r,_,rfl⟩:=List.mem_map.1 hx;rfl
 . rintro pre x post Hs hp ⟨hle,rfl⟩;rw [hA] at hp;obtain ⟨r,rfl⟩:∃ r,x = [fR r]:=by
    have hx:x ∈ rws A:=by rw [<- hp]; simp
    obtain ⟨r,_,rfl⟩:=List.mem_map.1 hx;exact ⟨r,rfl⟩
   have hpl:pre.length < 1000000:=by have:=congrArg List.length hp; rw [laZ,List.length_cons,rws_len] at this; omega
   have hstop:∀ c Hs,most.toNat <= pre.length -> Hs = someH c (.exit 0) most pre -> smS c most (rws (A.take most.toNat)) Hs:=fun c Hs hm hh=>by
    unfold smS;rw [<- rws_take,<- hp,take_stop' hle hm]; exact hh
   have hadd:∀ c Hs,pre.length < most.toNat -> Hs = someH c .ready most (pre ++ [[fR r]]) -> smJ c most (pre ++ [[fR r]]) Hs:=fun c Hs hl hh=>⟨by rw [laZ,List.length_singleton]; omega,hh⟩
   rw [hks];subst hcl;refine ayield_intro (cx_ok 0 0) ?_;cases pre with
   | nil =>
    conv=>whnf
    refine branch_i (fun c=>?_) (fun c=>?_)<;>try rw [c]<;>conv=>whnf
    . have c' := dtZ c;exact .done [0,1,2] rfl (.inr ⟨rfl,hstop _ _ (by simp; omega) rfl⟩)
    . have c' := dfZ c;refine ⟨Nat.le_refl _,?_⟩
      conv=>whnf
      refine ⟨(show (1:Nat) * 24 <= 70368744177664 by decide),?_⟩
      conv=>whnf
      exact .done [0,1,2,4] rfl (.inl ⟨rfl,hadd _ _ (by simp; omega) rfl⟩)
   | cons y es =>
    conv=>whnf
    refine branch_i (fun c=>?_) (fun c=>?_)<;>try rw [c]<;>conv=>whnf
    . have c' := dtZ c;simp only [List.length_cons] at c';exact .done [0,1,2,3] rfl (.inr ⟨rfl,hstop _ _ (by simp only [List.length_cons]; omega) rfl⟩)
    . have c' := dfZ c;simp only [List.length_cons] at c' hpl;refine ⟨Nat.le_refl _,?_⟩
      conv=>whnf
      refine ⟨by simp,?_⟩
      conv=>whnf
      refine ⟨(show (y :: (es ++ [[fR r]])).length * 24 <= 70368744177664 by simp only [List.length_cons,laZ,List.length_nil]; omega),?_⟩
      conv=>whnf
      exact .done [0,1,2,5] rfl (.inl ⟨rfl,hadd _ _ (by simp only [List.length_cons]; omega) rfl⟩)
 . rintro Hs ⟨hle,rfl⟩;rw [hA] at hle ⊢;rw [rws_len] at hle;exact ⟨.ready,.inl rfl,by rw [List.take_of_length_le hle]⟩
 . rintro Hs rfl;exact ⟨_,.inr rfl,rfl⟩
 . intro B';refine ⟨B', _,rfl,rfl,?_⟩;rintro Hs ⟨st,hst,rfl⟩ _;generalize rws (A.take most.toNat) = es at *;cases es with
   | nil =>
    rcases hst with rfl | rfl
    all_goals
     conv=>whnf
     exact ⟨[0,1],rfl,.done [0,1] rfl ⟨_,_,.tup (.cons (VSub.nils 1 false) (VSubs.refl _)),HSub.refl _,h1⟩⟩
   | cons k es =>
    rcases hst with rfl | rfl
    all_goals
     conv=>whnf
     refine ⟨[0,1,8],rfl,.frz 2 rfl (And.intro (Nat.le_of_eq (Nat.zero_add _)) trivial) (.done [0,1] rfl ⟨_,_,?_,HSub.refl _,h1⟩)⟩;show VSub (.tup [.sl 1 (List.take (k :: es).length (k :: es)) false,fI 0]) _
     rw [List.take_length];exact .refl _
def someS (s:SS) (table after:List UInt8) (most:Int):List Rw × Int:=match atT s.l table with
 | none=>([],7)
 | some i=>match s.l[i]? with
  | none=>([],7)
  | some t=>(((s.R.getD i []).filter fun r=>Op.bytesLess after (kyT t r)).take most.toNat,0)
theorem from_bh {t:Tb} {rs:List Rw} {T:Tr Rw} {m:Int} {b:Nat} (h:TrOk t rs T m b) (after:List UInt8):bhL after (fromL after T) = rs.filter fun r=>Op.bytesLess after (kyT t r):=by
 rw [from_filter after T h.ok.srt,h.eq];unfold bhL kvT kvR;rw [List.filter_filter,List.filter_map,List.map_map];show List.map (fun x=>x) _ = _
 rw [List.map_id'];refine List.filter_congr fun r _=>?_
 show (!decide (kyR t.c t.k.toNat r = after) && leS after (kyR t.c t.k.toNat r)) = Op.bytesLess after (kyR t.c t.k.toNat r)
 unfold leS;by_cases he:kyR t.c t.k.toNat r = after
 . rw [he,less_irrefl]; simp
 . rw [decide_eq_false he,decide_eq_false (Ne.symm he)]; simp
theorem SrcOk.look {s:SS} {L:List Trw} {b:Nat} (h:SrcOk s L b) (n:List UInt8):(alk n L = none /\ atT s.l n = none) \/ ∃ i t rs T m,atT s.l n = some i /\ s.l[i]? = some t /\ s.R.getD i [] = rs /\ t.n = n /\ alk n L = some (T,m) /\ TrOk t rs T m b /\ RowsOk t rs /\ TbK t:=by
 cases ha:atT s.l n with
 | none =>
  refine .inl ⟨?_,rfl⟩;cases hl:alk n L with
  | none=>rfl
  | some a=>exact absurd ha (h.dom n (by rw [hl]; simp))
 | some i =>
  obtain ⟨t,hti,htn,hil⟩:=atT_get ha;have hRi:s.R[i]? = some (s.R[i]'(by rw [h.rs.len]; exact hil)):=lgZ _
  generalize (s.R[i]'(by rw [h.rs.len]; exact hil)) = rs at hRi
  obtain ⟨T,m,hvw,hT⟩:=h.rs.tree i t rs hti hRi;rw [htn] at hvw;exact .inr ⟨i,t,rs,T,m,rfl,hti,by rw [List.getD_eq_getElem?_getD,hRi]; rfl,htn,hvw,hT,h.rs.rows i t rs hti hRi,h.rs.tbs.tbk (List.mem_of_getElem? hti)⟩
theorem SSomeS_spec {s:SS} {L:List Trw} {c:Nat} {b:Nat} {table after:List UInt8} {most:Int} (hS:SrcOk s L b) (hb:b < 900000)
 (h:Q (.tup [.sl 1 (rws (someS s table after most).1) false,fI (someS s table after most).2]) (srcS s L c)) :
 ACall Tryz.prog 12 2 [.ptr 0 0,.str table,.str after,fI most] (srcS s L c) Q:=by
 have hlook:=hS.look table;unfold someS at h;refine SSome_spec (fun T tm ha=>?_) (fun h0=>?_) fun T tm ha=>?_
 . rcases hlook with ⟨h0,_⟩ | ⟨i,t,rs,T', m', a1,a2,a3,a4,a5,a6,a7,a8⟩
   . rw [h0] at ha; cases ha
   . rw [a5] at ha; cases ha;have hle:=a6.ok.le;have hsub:∀ x ∈ fromL after T,x ∈ kvT t rs:=fun x hx=>by
      rw [from_filter after T a6.ok.srt,a6.eq] at hx;exact (List.mem_filter.1 hx).1
     refine ⟨fun x hx=>?_,?_⟩
     . have:=hsub x hx;unfold kvT kvR at this;obtain ⟨r,hr,rfl⟩:=List.mem_map.1 this;have:=fits_len' (a7.fit r hr);have:=a8.few;simp only;omega
     . rw [from_filter after T a6.ok.srt];have:=List.length_filter_le (fun x=>leS after x.1) (inL T)
       omega
 . rcases hlook with ⟨_,h1⟩ | ⟨i,t,rs,T', m', a1,a2,a3,a4,a5,_⟩
   . rw [h1] at h; exact h
   . rw [a5] at h0; cases h0
 . rcases hlook with ⟨h0,_⟩ | ⟨i,t,rs,T', m', a1,a2,a3,a4,a5,a6,a7,a8⟩
   . rw [h0] at ha; cases ha
   . rw [a5] at ha; cases ha;rw [a1] at h;simp only [a2,a3] at h;rw [from_bh a6];exact h
def rowsS (s:SS) (table:List UInt8):List Rw:=match atT s.l table with
 | none=>[]
 | some i=>s.R.getD i []
theorem SRows_spec {s:SS} {L:List Trw} {c:Nat} {b:Nat} {table:List UInt8} (hS:SrcOk s L b) (hb:b < 900000)
 (h:Q (.sl 1 (rws (rowsS s table)) false) (srcS s L c)):ACall Tryz.prog 15 2 [.ptr 0 0,.str table] (srcS s L c) Q:=by
 refine by_body Tryz.func15 2 rfl (nbZ rfl) ?_;have hr:(someS s table [] 9223372036854775807).1 = rowsS s table:=by
  unfold someS rowsS;rcases hS.look table with ⟨_,h1⟩ | ⟨i,t,rs,T', m', a1,a2,a3,a4,a5,a6,a7,a8⟩
  . rw [h1]
  . rw [a1];simp only [a2,a3];have:=a6.fewr;rw [List.take_of_length_le]
    . exact List.filter_eq_self.2 fun r hr=>a7.pos a8 r hr
    . have:=List.length_filter_le (fun r=>Op.bytesLess [] (kyT t r)) rs
      omega
 conv=>whnf
 refine .call [0,1] 2 ⟨rfl,rfl,rfl⟩ (SSomeS_spec (most:=9223372036854775807) hS hb ?_);rw [hr]
 conv=>whnf
 exact ⟨[0,1],rfl,h⟩
end
section
variable {Q:V -> List O -> Prop}
theorem RKey10_spec {C:List Col} {K:Nat} {r:Rw} {f:Bool} (hl:C.length <= 1000) (hk:K <= C.length) (ht:TextsOk r) (h:Q (.str (kyR C K r)) []) :
 ACall Tryz.prog 13 0 [sch C K,.sl 3 (vals r) f] [] Q:=by
 refine by_body Tryz.func13 0 rfl (nbZ rfl) ?_
 conv=>whnf
 refine .pure (RKey_spec hl hk ht ⟨rfl,?_⟩);unfold kyR at h;unfold keyR;cases hb:keyOkL C K r<;>rw [hb] at h<;>conv=>whnf
 . exact ⟨[],rfl,h⟩
 . exact ⟨[],rfl,h⟩
def RowsT (l:List Rw):Prop:=∀ r ∈ l,TextsOk r
theorem ahead_at {C:List Col} {K:Nat} {key:List UInt8}:∀ {l:List Rw} {k:Nat} {r:Rw},l[k]? = some r -> k <= (aheadR C K key l).length -> Op.bytesLess (kyR C K r) key = decide (k < (aheadR C K key l).length)
 | [],k,r,h,_=>by simp at h
 | x :: l,k,r,h,hk=>by
  unfold aheadR at *;rw [List.takeWhile_cons] at *;cases hx:Op.bytesLess (kyR C K x) key with
  | true =>
   rw [hx] at hk;simp only [if_true,List.length_cons] at hk ⊢;cases k with
   | zero =>
    simp only [List.getElem?_cons_zero,Option.some.injEq] at h;subst h;rw [hx]; simp
   | succ k =>
    rw [List.getElem?_cons_succ] at h;have:=ahead_at (C:=C) (K:=K) (key:=key) h (by unfold aheadR; omega)
    rw [this];unfold aheadR;simp
  | false =>
   rw [hx] at hk;simp only [Bool.false_eq_true,if_false,List.length_nil,Nat.le_zero] at hk;subst hk;simp only [List.getElem?_cons_zero,Option.some.injEq] at h;subst h;rw [hx]; simp
theorem ahead_take (C:List Col) (K:Nat) (key:List UInt8) (l:List Rw):l.take (aheadR C K key l).length = aheadR C K key l /\ l.drop (aheadR C K key l).length = restR C K key l:=by
 have e:=ahead_rest C K key l;constructor
 . conv=>lhs; arg 2; rw [<- e]
   exact List.take_left
 . conv=>lhs; arg 2; rw [<- e]
   exact List.drop_left
theorem ahead_le (C:List Col) (K:Nat) (key:List UInt8) (l:List Rw):(aheadR C K key l).length <= l.length:=by
 have e:=congrArg List.length (ahead_rest C K key l);rw [laZ] at e;omega
theorem rest_at {C:List Col} {K:Nat} {key:List UInt8} {l:List Rw} {r:Rw} (h:l[(aheadR C K key l).length]? = some r):headIs C K key (restR C K key l) = decide (kyR C K r = key):=by
 rw [<- (ahead_take C K key l).2];have hlt:=(liZ.1 h).1;rw [List.drop_eq_getElem_cons hlt];have:l[(aheadR C K key l).length] = r:=by
  have:=liZ.1 h;exact this.2
 rw [this]; rfl
theorem rest_none {C:List Col} {K:Nat} {key:List UInt8} {l:List Rw} (h:l.length <= (aheadR C K key l).length):headIs C K key (restR C K key l) = false:=by
 rw [<- (ahead_take C K key l).2,List.drop_of_length_le h]; rfl
theorem rws_some {l:List Rw} {i:Nat} {r:Rw} (h:l[i]? = some r):(rws l)[i]? = some [V.sl 3 (vals r) false]:=by simp [rws,h,fR]
set_option maxHeartbeats 4000000 in
theorem RPlace_spec {C:List Col} {K:Nat} {l:List Rw} {key:List UInt8} {f:Bool} (hl:C.length <= 1000) (hk:K <= C.length) (ht:RowsT l) (hn:l.length <= 1000000)
 (h:Q (.tup [fI ((aheadR C K key l).length:Nat),.bool (headIs C K key (restR C K key l))]) []) :
 ACall Tryz.prog 67 0 [sch C K,.sl 1 (rws l) f,.str key] [] Q:=by
 refine by_body Tryz.func67 0 rfl (nbZ rfl) ?_
 conv=>whnf
 have hlr:=rws_len l;have hal:=ahead_le C K key l;refine ⟨⟨[1,2,3,8],fun m ws H=>∃ k:Nat,ws = [.sl 1 (rws l) f,.str key,.ptr 0 0,fI k] /\ H = [.cells [.sl 3 (cols C) false,fI K]] /\ k <= (aheadR C K key l).length /\ m = l.length - k,.at _ ⟨0,rfl,rfl,Nat.zero_le _,rfl⟩,?_⟩⟩
 rintro m ws H ⟨k,rfl,rfl,hk2,rfl⟩
 conv=>whnf
 refine ⟨[0,1,2,3,4,5,6,7,8,9,11,10,12,13],by kernel_rfl,by kernel_rfl,?_⟩
 conv=>whnf
 refine branch_i (fun c=>?_) (fun c=>?_)<;>try rw [c]<;>conv=>whnf
 . have c' := dtZ c;have hlt:k < l.length:=by omega
   have hg:l[k]? = some l[k]:=lgZ hlt;have htr:=ht l[k] (List.getElem_mem hlt);generalize l[k] = r at *;have hb:=ahead_at (C:=C) (K:=K) (key:=key) hg hk2;refine ⟨_,⟨by omega,rws_some hg⟩,?_⟩
   conv=>whnf
   refine .pure (RKey10_spec (C:=C) (K:=K) (r:=r) hl hk htr ⟨rfl,?_⟩)
   repeat (conv=>whnf
           first | (refine ⟨rfl,?_⟩) | (refine ⟨⟨_,⟨by omega,rws_some hg⟩,rfl⟩,?_⟩))
   conv=>whnf
   refine branch_i (fun c2=>?_) (fun c2=>?_)<;>try rw [c2]<;>conv=>whnf
   . rw [c2] at hb;have hb' := dtZ hb.symm;refine .go [0] rfl (l.length - (k + 1)) (by omega) ⟨k + 1,?_,rfl,by omega,rfl⟩
     show [V.sl 1 (rws l) f,V.str key,V.ptr 0 0,V.int .i64 (IntKind.i64.wrap ((k:Int) + 1))] = _
     rw [wrapE (by omega)]; rfl
   . rw [c2] at hb;have hb' := dfZ hb.symm;have he:(aheadR C K key l).length = k:=by omega
     have hr:=rest_at (C:=C) (K:=K) (key:=key) (l:=l) (r:=r) (by rw [he]; exact hg)
     rw [he,hr] at h;refine ⟨[0,1,2,3,4,5,6,7,8,9,10,12,11,13,14,15,16],by kernel_rfl,by kernel_rfl,?_⟩
     conv=>whnf
     rw [c]
     conv=>whnf
     refine ⟨_,⟨by omega,rws_some hg⟩,?_⟩
     conv=>whnf
     refine .pure (RKey10_spec (C:=C) (K:=K) (r:=r) hl hk htr ⟨rfl,?_⟩)
     repeat (conv=>whnf
             first | (refine ⟨rfl,?_⟩) | (refine ⟨⟨_,⟨by omega,rws_some hg⟩,rfl⟩,?_⟩))
     conv=>whnf
     exact ⟨[],rfl,h⟩
 . have c' := dfZ c;have he:(aheadR C K key l).length = k:=by omega
   rw [rest_none (by omega),he] at h
   refine ⟨[0,1,2,3,4,5,6,7,8,9,10,12,11,13,14,15,16],by kernel_rfl,by kernel_rfl,?_⟩
   conv=>whnf
   rw [c]
   conv=>whnf
   exact ⟨[],rfl,h⟩
theorem rws_ret {j n:Nat} {H:List O} {L:List Rw} (hg:getO H j = .buf (rws L)) (hn:n = L.length) (hj:j < H.length) (h:Q (.sl 1 (rws L) false) []):∃ sel,selOk sel H.length 0 = true /\ ARet 0 Q (renV (idx sel) (.ms 1 j 0 n false)) (gather (idx sel) H sel):=by
 subst hn;refine ⟨[j],?_,?_⟩
 . simp [selOk,allLt,nodupB,idx,Nat.blt_eq,hj]
 . have e1:renV (idx [j]) (.ms 1 j 0 L.length false) = .ms 1 0 0 L.length false:=by simp [renV,idx]
   have e2:gather (idx [j]) H [j] = [.buf (rws L)]:=by simp [gather,hg,renO]
   rw [e1,e2];have hle:=rws_len L;refine .frz 0 rfl (by repeat (first | exact trivial | refine And.intro (by rw [hle,Nat.zero_add]; exact Nat.le_refl _) ?_)) (.done [] rfl ?_)
   show Q (.sl 1 (List.take L.length (List.drop 0 (rws L))) false) []
   rw [List.drop_zero,<- hle,List.take_length];exact h
set_option maxHeartbeats 4000000 in
theorem RPut10_spec {C:List Col} {K:Nat} {l:List Rw} {r:Rw} {f:Bool} (hl:C.length <= 1000) (hk:K <= C.length) (ht:RowsT l) (hr:TextsOk r) (hn:l.length <= 1000000)
 (h:Q (.sl 1 (rws (putR C K l r)) false) []) :
 ACall Tryz.prog 71 0 [sch C K,.sl 1 (rws l) f,.sl 3 (vals r) false] [] Q:=by
 refine ACall.ret (by_body Tryz.func71 0 rfl (nbZ rfl) ?_)
 conv=>whnf
 have hlr:=rws_len l;have hal:=ahead_le C K (kyR C K r) l;obtain ⟨ht1,ht2⟩:=ahead_take C K (kyR C K r) l;refine ⟨[0,1,2,3,4,5,6,7,8,9,10],by kernel_rfl,by kernel_rfl,?_⟩
 conv=>whnf
 refine .pure (RKey10_spec (C:=C) (K:=K) (r:=r) hl hk hr ⟨rfl,?_⟩)
 repeat (conv=>whnf
         refine ⟨rfl,?_⟩)
 conv=>whnf
 refine .pure (RPlace_spec (C:=C) (K:=K) (l:=l) (key:=kyR C K r) (f:=f) hl hk ht hn ⟨rfl,?_⟩)
 repeat (conv=>whnf
         refine ⟨rfl,?_⟩)
 conv=>whnf
 generalize hA:(aheadR C K (kyR C K r) l).length = n at *;have hT:(List.take n (rws l)).length <= 1000000:=by rw [List.length_take]; omega
 refine ⟨⟨by omega,by omega⟩,?_⟩
 conv=>whnf
 refine ⟨(Nat.le_trans (Nat.mul_le_mul_right _ hT) (show 1000000 * 24 <= 70368744177664 by omega)),?_⟩
 conv=>whnf
 refine ⟨Nat.le_refl 1,?_⟩;refine app_gen rfl rfl rfl (Nat.le_trans (Nat.mul_le_mul_right _ (Nat.add_le_add hT (show 1 <= 1 by omega))) (show (1000000 + 1) * 24 <= 70368744177664 by omega)) ?_
 conv=>whnf
 unfold putR at h;rw [<- ht1,<- ht2] at h;cases hh:headIs C K (kyR C K r) (restR C K (kyR C K r) l)<;>rw [ht2,hh] at h<;>rw [<- ht2] at h<;>conv=>whnf
 . simp only [Bool.false_eq_true,if_false] at h;have hD:(List.drop n (rws l)).length <= 1000000:=by rw [List.length_drop]; omega
   refine ⟨⟨by omega,by omega⟩,?_⟩
   conv=>whnf
   refine app_gen2 (by rw [laZ]) (Nat.le_trans (Nat.mul_le_mul_right _ (Nat.add_le_add (by rw [laZ]; exact Nat.add_le_add hT (show 1 <= 1 by omega)) hD)) (show (1000000 + 1 + 1000000) * 24 <= 70368744177664 by omega)) ?_
   conv=>whnf
   refine rws_ret (L:=l.take n ++ r :: l.drop n) ?_ ?_ (Nat.le_refl _) h
   . show O.buf (List.take n (rws l) ++ [[fR r]] ++ List.drop n (rws l)) = _
     rw [rws_take,rws_drop];simp [rws]
   . rw [laZ];show (List.take n (rws l)).length + 1 + (List.drop n (rws l)).length = _
     rw [rws_take,rws_drop,rws_len,rws_len,laZ,List.length_cons];omega
 . have hlt:n < l.length:=by
    refine Decidable.by_contra fun hc=>?_
    rw [rest_none (by omega)] at hh; cases hh
   simp only [if_true,List.tail_drop] at h;have hi1:IntKind.i64.wrap ((n:Int) + 1) = ((n + 1:Nat):Int):=by rw [wrapE (by omega)]; omega
   rw [hi1];have hD:(List.drop (n + 1) (rws l)).length <= 1000000:=by rw [List.length_drop]; omega
   refine ⟨⟨by omega,by omega⟩,?_⟩
   conv=>whnf
   refine app_gen2 (by rw [laZ]) (Nat.le_trans (Nat.mul_le_mul_right _ (Nat.add_le_add (by rw [laZ]; exact Nat.add_le_add hT (show 1 <= 1 by omega)) hD)) (show (1000000 + 1 + 1000000) * 24 <= 70368744177664 by omega)) ?_
   conv=>whnf
   refine rws_ret (L:=l.take n ++ r :: l.drop (n + 1)) ?_ ?_ (Nat.le_refl _) h
   . show O.buf (List.take n (rws l) ++ [[fR r]] ++ List.drop (n + 1) (rws l)) = _
     rw [rws_take,rws_drop];simp [rws]
   . rw [laZ];show (List.take n (rws l)).length + 1 + (List.drop (n + 1) (rws l)).length = _
     rw [rws_take,rws_drop,rws_len,rws_len,laZ,List.length_cons];omega
set_option maxHeartbeats 4000000 in
theorem RCut10_spec {C:List Col} {K:Nat} {l:List Rw} {key:List UInt8} (hl:C.length <= 1000) (hk:K <= C.length) (ht:RowsT l) (hn:l.length <= 1000000)
 (h:Q (.sl 1 (rws (cutR C K l key)) false) []) :
 ACall Tryz.prog 70 0 [sch C K,.sl 1 (rws l) false,.str key] [] Q:=by
 refine ACall.ret (by_body Tryz.func70 0 rfl (nbZ rfl) ?_)
 conv=>whnf
 have hlr:=rws_len l;have hal:=ahead_le C K key l;obtain ⟨ht1,ht2⟩:=ahead_take C K key l;refine .pure (RPlace_spec (C:=C) (K:=K) (l:=l) (key:=key) (f:=false) hl hk ht hn ⟨rfl,?_⟩)
 conv=>whnf
 generalize hA:(aheadR C K key l).length = n at *;unfold cutR at h;rw [<- ht1,<- ht2] at h;cases hh:headIs C K key (restR C K key l)<;>rw [ht2,hh] at h<;>rw [<- ht2] at h<;>conv=>whnf
 . exact ⟨[],rfl,.done [] rfl h⟩
 . have hlt:n < l.length:=by
    refine Decidable.by_contra fun hc=>?_
    rw [rest_none (by omega)] at hh; cases hh
   simp only [if_true,List.tail_drop] at h;have hT:(List.take n (rws l)).length <= 1000000:=by rw [List.length_take]; omega
   refine ⟨⟨by omega,by omega⟩,?_⟩
   conv=>whnf
   refine ⟨(Nat.le_trans (Nat.mul_le_mul_right _ hT) (show 1000000 * 24 <= 70368744177664 by omega)),?_⟩
   conv=>whnf
   have hi1:IntKind.i64.wrap ((n:Int) + 1) = ((n + 1:Nat):Int):=by rw [wrapE (by omega)]; omega
   rw [hi1];have hD:(List.drop (n + 1) (rws l)).length <= 1000000:=by rw [List.length_drop]; omega
   refine ⟨⟨by omega,by omega⟩,?_⟩
   conv=>whnf
   refine app_gen2 rfl (Nat.le_trans (Nat.mul_le_mul_right _ (Nat.add_le_add hT hD)) (show (1000000 + 1000000) * 24 <= 70368744177664 by omega)) ?_
   conv=>whnf
   refine rws_ret (L:=l.take n ++ l.drop (n + 1)) ?_ ?_ (Nat.le_refl _) h
   . show O.buf (List.take n (rws l) ++ List.drop (n + 1) (rws l)) = _
     rw [rws_take,rws_drop,<- rws_app]
   . show (List.take n (rws l)).length + (List.drop (n + 1) (rws l)).length = _
     rw [rws_take,rws_drop,rws_len,rws_len,laZ]
end
section
variable {Q:V -> List O -> Prop}
set_option maxHeartbeats 8000000 in
theorem SameRows_spec {l:List Rw} {f f2:Bool} (hn:l.length < 1000000) (hl:∀ r ∈ l,r.length < 1000000) (h:Q (.bool true) []) :
 ACall Tryz.prog 14 0 [.sl 1 (rws l) f,.sl 1 (rws l) f2] [] Q:=by
 refine by_body Tryz.func14 0 rfl (nbZ rfl) ?_;have hlr:=rws_len l
 conv=>whnf
 rw [show decide (((rws l).length:Int) = ((rws l).length:Int)) = true from decide_eq_true rfl]
 conv=>whnf
 refine ⟨⟨[0,1,5],fun m ws H=>∃ i:Nat,ws = [.sl 1 (rws l) f,.sl 1 (rws l) f2,fI i] /\ H = [] /\ i <= l.length /\ m = l.length - i,.at _ ⟨0,rfl,rfl,Nat.zero_le _,rfl⟩,?_⟩⟩
 rintro m ws H ⟨i,rfl,rfl,hi,rfl⟩
 conv=>whnf
 refine branch_i (fun c1=>?_) (fun c1=>?_)<;>try rw [c1]<;>conv=>whnf
 rotate_left
 . exact ⟨[],rfl,h⟩
 have c1' := dtZ c1;have hlt:i < l.length:=by omega
 have hg:l[i]? = some l[i]:=lgZ hlt;have hlr2:=hl l[i] (List.getElem_mem hlt);generalize l[i] = r at *;have hvl:=vals_len r;refine ⟨List.range 11,by kernel_rfl,by kernel_rfl,?_⟩
 conv=>whnf
 refine ⟨_,⟨by omega,rws_some hg⟩,?_⟩
 conv=>whnf
 refine ⟨_,⟨by omega,rws_some hg⟩,?_⟩
 repeat (conv=>whnf
         first | (refine ⟨rfl,?_⟩) | (refine ⟨⟨_,⟨by omega,rws_some hg⟩,rfl⟩,?_⟩))
 conv=>whnf
 rw [show decide (((vals r).length:Int) = ((vals r).length:Int)) = true from decide_eq_true rfl]
 conv=>whnf
 refine ⟨⟨[0,1,5,6],fun m ws H=>∃ j:Nat,ws = [.sl 1 (rws l) f,.sl 1 (rws l) f2,fI i,fI j] /\ H = [] /\ j <= r.length /\ m = r.length - j,.at _ ⟨0,rfl,rfl,Nat.zero_le _,rfl⟩,?_⟩⟩
 rintro m ws H ⟨j,rfl,rfl,hj,rfl⟩
 conv=>whnf
 refine ⟨_,⟨by omega,rws_some hg⟩,?_⟩
 conv=>whnf
 refine branch_i (fun c2=>?_) (fun c2=>?_)<;>try rw [c2]<;>conv=>whnf
 rotate_left
 . refine .go [] rfl (l.length - (i + 1)) (by omega) ⟨i + 1,?_,rfl,by omega,rfl⟩
   show [V.sl 1 (rws l) f,V.sl 1 (rws l) f2,V.int .i64 (IntKind.i64.wrap ((i:Int) + 1))] = _
   rw [wrapE (by omega)]; rfl
 have c2' := dtZ c2;have hltj:j < r.length:=by omega
 have hgj:r[j]? = some r[j]:=lgZ hltj;generalize r[j] = v at *;refine ⟨List.range 15,by kernel_rfl,by kernel_rfl,?_⟩
 conv=>whnf
 refine ⟨_,⟨by omega,rws_some hg⟩,?_⟩
 conv=>whnf
 refine ⟨_,⟨by omega,vals_get hgj⟩,?_⟩
 conv=>whnf
 refine ⟨_,⟨by omega,rws_some hg⟩,?_⟩
 conv=>whnf
 refine ⟨_,⟨by omega,vals_get hgj⟩,?_⟩
 repeat (conv=>whnf
         first | (refine ⟨rfl,?_⟩) | (refine ⟨⟨_,⟨by omega,rws_some hg⟩,rfl⟩,?_⟩) | (refine ⟨⟨_,⟨by omega,vals_get hgj⟩,rfl⟩,?_⟩))
 conv=>whnf
 rw [val_eq,decide_eq_true (rfl:v = v)]
 conv=>whnf
 refine .go [] rfl (r.length - (j + 1)) (by omega) ⟨j + 1,?_,rfl,by omega,rfl⟩
 show [V.sl 1 (rws l) f,V.sl 1 (rws l) f2,fI i,V.int .i64 (IntKind.i64.wrap ((j:Int) + 1))] = _
 rw [wrapE (by omega)]; rfl
end
section
variable {Q:V -> List O -> Prop}
def rrs (R:List (List Rw)):List (List V):=R.map fun l=>[.sl 1 (rws l) false]
theorem rrs_len (R:List (List Rw)):(rrs R).length = R.length:=by simp [rrs]
theorem rrs_get {R:List (List Rw)} {i:Nat} {l:List Rw} (h:R[i]? = some l):(rrs R)[i]? = some [.sl 1 (rws l) false]:=by simp [rrs,h]
def sV (s:SS):V:=.agg [.sl 3 (tbs s.l) false,.sl 1 (rrs s.R) false,.sl 1 (bs s.log) false,fI s.n,fI s.m]
def ss0:SS:=⟨[],[],start,0,0⟩
theorem nils_sl1 (f:Bool):VSub .nils (.sl 1 [] f):=VSub.nils 1 f
theorem R10New_spec (h:Q (sV ss0) []):ACall Tryz.prog 10 0 [] [] Q:=by
 refine ACall.ret (by_body Tryz.func10 0 rfl (nbZ rfl) ?_)
 conv=>whnf
 refine .call [] 0 ⟨rfl,rfl,rfl⟩ (R7New_spec ?_);have hls:=bs_len start;unfold sV ss0 at h;generalize start = st at *
 conv=>whnf
 have hT:List.take st.length (List.drop 0 (bs st)) = bs st:=by rw [List.drop_zero,<- hls,List.take_length]
 refine ⟨[1],rfl,.frz 0 rfl (by repeat (first | exact trivial | refine And.intro (by omega) ?_)) (.sub _ [.dead] (.agg (.cons (nils_sl3 false) (.cons (nils_sl1 false) (.cons (VSub.eq (congrArg (fun z=>V.sl 1 z false) hT)) (VSubs.refl _))))) (HSub.refl _) (.done [] rfl h))⟩
theorem rrs_set (R:List (List Rw)) (i:Nat) (rows:List Rw) (hi:i < R.length):(rrs R).take i ++ [[V.sl 1 (rws rows) false]] ++ (rrs R).drop (i + 1) = rrs (R.set i rows):=by
 rw [List.set_eq_take_append_cons_drop,if_pos hi];simp [rrs,List.map_take,List.map_drop]
theorem es_ret {j n z:Nat} {H:List O} {es:List (List V)} (hg:getO H j = .buf es) (hn:n = es.length) (hj:j < H.length) (h:Q (.sl z es false) []):∃ sel,selOk sel H.length 0 = true /\ ARet 0 Q (renV (idx sel) (.ms z j 0 n false)) (gather (idx sel) H sel):=by
 subst hn;refine ⟨[j],?_,?_⟩
 . simp [selOk,allLt,nodupB,idx,Nat.blt_eq,hj]
 . have e1:renV (idx [j]) (.ms z j 0 es.length false) = .ms z 0 0 es.length false:=by simp [renV,idx]
   have e2:gather (idx [j]) H [j] = [.buf es]:=by simp [gather,hg,renO]
   rw [e1,e2];refine .frz 0 rfl (by repeat (first | exact trivial | refine And.intro (by rw [Nat.zero_add]; exact Nat.le_refl _) ?_)) (.done [] rfl ?_)
   show Q (.sl z (List.take es.length (List.drop 0 es)) false) []
   rw [List.drop_zero,List.take_length];exact h
set_option maxHeartbeats 4000000 in
theorem RWith_spec {R:List (List Rw)} {i:Nat} {rows:List Rw} (hn:R.length <= 1000) (hi:i < R.length) (h:Q (.sl 1 (rrs (R.set i rows)) false) []) :
 ACall Tryz.prog 69 0 [.sl 1 (rrs R) false,fI i,.sl 1 (rws rows) false] [] Q:=by
 refine ACall.ret (by_body Tryz.func69 0 rfl (nbZ rfl) ?_);have hrl:=rrs_len R
 conv=>whnf
 refine ⟨⟨by omega,by omega⟩,?_⟩
 conv=>whnf
 have hT:(List.take i (rrs R)).length <= 1000:=by rw [List.length_take]; omega
 refine ⟨(Nat.le_trans (Nat.mul_le_mul_right _ hT) (show 1000 * 24 <= 70368744177664 by omega)),?_⟩
 conv=>whnf
 refine ⟨Nat.le_refl 1,?_⟩;refine app_gen rfl rfl rfl (Nat.le_trans (Nat.mul_le_mul_right _ (Nat.add_le_add hT (show 1 <= 1 by omega))) (show (1000 + 1) * 24 <= 70368744177664 by omega)) ?_
 conv=>whnf
 have hi1:IntKind.i64.wrap ((i:Int) + 1) = ((i + 1:Nat):Int):=by rw [wrapE (by omega)]; omega
 rw [hi1];have hD:(List.drop (i + 1) (rrs R)).length <= 1000:=by rw [List.length_drop]; omega
 refine ⟨⟨by omega,by omega⟩,?_⟩
 conv=>whnf
 refine app_gen2 (by rw [laZ]) (Nat.le_trans (Nat.mul_le_mul_right _ (Nat.add_le_add (by rw [laZ]; exact Nat.add_le_add hT (show 1 <= 1 by omega)) hD)) (show (1000 + 1 + 1000) * 24 <= 70368744177664 by omega)) ?_
 conv=>whnf
 refine es_ret (es:=rrs (R.set i rows)) ?_ ?_ (Nat.le_refl _) h
 . show O.buf (List.take i (rrs R) ++ [[V.sl 1 (rws rows) false]] ++ List.drop (i + 1) (rrs R)) = _
   rw [rrs_set R i rows hi]
 . rw [laZ];show (List.take i (rrs R)).length + 1 + (List.drop (i + 1) (rrs R)).length = _
   rw [List.length_take,List.length_drop,rrs_len,rrs_len,List.length_set];omega
set_option maxHeartbeats 4000000 in
theorem RTell_spec {s:SS} {e:Evt} (hl:TbsB s.l) (hm:mayE e s.l = 0) (hn:EvtN e) (hs:s.log.length <= 700000000) (h:Q (sV { s with log:=s.log ++ frm (evW e) }) []) :
 ACall Tryz.prog 50 0 [sV s,evA e] [] Q:=by
 refine ACall.ret (by_body Tryz.func50 0 rfl (nbZ rfl) ?_);obtain ⟨l,R,log,n,m⟩:=s;simp only at hl hm hs;unfold sV at h;simp only at h;have hbl:=bs_len log;have hwl:=evW_len hl (mayE_inv hm) hn;have hfl:=frm_len (evW e);have hnl:=numW_len' ((evW e).length:Int)
 conv=>whnf
 refine ⟨(Nat.le_trans (Nat.mul_le_mul_right _ (show (bs log).length <= 700000000 by omega)) (show 700000000 * 1 <= 70368744177664 by omega)),?_⟩
 conv=>whnf
 refine .pure (R6Write_spec hl hn hm ⟨rfl,?_⟩)
 conv=>whnf
 refine .call [] 0 ⟨rfl,rfl,rfl⟩ (R7Frame_spec (body:=evW e) (by omega) ?_)
 generalize frm (evW e) = F at *;have hFl:=bs_len F;have hT:List.take F.length (List.drop 0 (bs F)) = bs F:=by rw [List.drop_zero,<- hFl,List.take_length]
 conv=>whnf
 refine ⟨by omega,?_⟩
 refine app_gen (X:=bs log) (ys:=List.take F.length (List.drop 0 (bs F))) rfl rfl rfl (by rw [hT]; exact Nat.le_trans (Nat.mul_le_mul_right _ (show (bs log).length + (bs F).length <= 800000000 by omega)) (show 800000000 * 1 <= 70368744177664 by omega)) ?_
 rw [hT]
 conv=>whnf
 have hfin:List.take ((bs log).length + (bs F).length) (List.drop 0 (bs log ++ bs F)) = bs (log ++ F):=by rw [List.drop_zero,bs_app,List.take_of_length_le (by rw [laZ]; exact Nat.le_refl _)]
 refine ⟨[5],rfl,.frz 0 rfl (And.intro (by rw [Nat.zero_add,laZ]; exact Nat.le_refl _) trivial) (.sub (.agg [.sl 3 (tbs l) false,.sl 1 (rrs R) false,.sl 1 (bs (log ++ F)) false,fI n,fI m]) [.dead] ?_ (HSub.refl _) (.done [] rfl h))⟩
 show VSub (.agg [.sl 3 (tbs l) false,.sl 1 (rrs R) false,.sl 1 (List.take ((bs log).length + (bs F).length) (List.drop 0 (bs log ++ bs F))) false,fI n,fI m]) _
 rw [hfin];exact .refl _
structure DocOk (l:List Tb) (R:List (List Rw)) (b:Nat):Prop where
 tbs:TbsB l
 len:R.length = l.length
 rows:∀ (i:Nat) t rs,l[i]? = some t -> R[i]? = some rs -> RowsOk t rs /\ rs.length <= b
theorem RsOk.doc {l:List Tb} {R:List (List Rw)} {vw:Vw} {b:Nat} (h:RsOk l R vw b):DocOk l R b :=
 ⟨h.tbs,h.len,fun i t rs h1 h2=>⟨h.rows i t rs h1 h2,let ⟨_,_,_,h3⟩:=h.tree i t rs h1 h2; h3.fewr⟩⟩
theorem DocOk.get {l:List Tb} {R:List (List Rw)} {b:Nat} (h:DocOk l R b) {i:Nat} {t:Tb} (ht:l[i]? = some t):∃ rs,R[i]? = some rs /\ R.getD i [] = rs /\ RowsOk t rs /\ rs.length <= b:=by
 have hil:=(liZ.1 ht).1;have hRi:R[i]? = some (R[i]'(by rw [h.len]; exact hil)):=lgZ _
 generalize (R[i]'(by rw [h.len]; exact hil)) = rs at hRi
 exact ⟨rs,hRi,by rw [List.getD_eq_getElem?_getD,hRi]; rfl,h.rows i t rs ht hRi⟩
theorem rows_t {t:Tb} {rs:List Rw} (h:RowsOk t rs):RowsT rs:=fun r hr v hv=>by
 have:=mayV_short (fits_may (h.fit r hr) v hv);omega
theorem DocOk.deed {l:List Tb} {R:List (List Rw)} {b:Nat} (h:DocOk l R b) {d:Dd} (hd:ddErr l R d = 0):DocOk l (ddR l R d) (b + 1):=by
 cases ha:atT l d.t with
 | none=>unfold ddErr at hd; rw [ha] at hd; split at hd<;>simp at hd
 | some i =>
  obtain ⟨t,hti,htn,hil⟩:=atT_get ha;obtain ⟨rs,hRi,hgd,hro,hrb⟩:=h.get hti;rw [ddR_at ha hti,hgd];have hk:1 <= d.k /\ d.k <= 3:=by
   unfold ddErr at hd;split at hd
   . simp at hd
   . omega
  have hf:ddFit t d = true:=by
   rw [ddErr_at hk ha hti] at hd;cases hx:ddFit t d with
   | true=>rfl
   | false=>unfold ddTb at hd; rw [if_pos hx] at hd; simp at hd
  have hrl:=turn_len t.c t.k.toNat rs (ddE d);refine ⟨h.tbs,by rw [List.length_set]; exact h.len,fun j t' rs' h1 h2=>?_⟩
  by_cases hij:i = j
  . subst hij;rw [hti] at h1; cases h1;rw [List.getElem?_set_self (by rw [h.len]; exact hil)] at h2
    cases h2;exact ⟨hro.turn (ddE_evF hk htn.symm hf),by omega⟩
  . rw [List.getElem?_set_ne hij] at h2;have:=h.rows j t' rs' h1 h2;exact ⟨this.1,by omega⟩
def deedS (s:SS) (d:Dd):SS × Evt × Int:=if ddErr s.l s.R d = 0 then ({ s with R:=ddR s.l s.R d },ddE d,0) else (s,evtZ,ddErr s.l s.R d)
def dR (x:SS × Evt × Int):V:=.tup [sV x.1,evA x.2.1,fI x.2.2]
end
section
variable {Q:V -> List O -> Prop}
def ev0A:V:=.agg [fI 0,fI 0,.str [],.nils,.nils,fI 0,.str [],.nils,fI 0,.str [],fI 0,.bool false]
theorem ev0A_sub:VSub ev0A (evA evtZ):=may_subN 0 0
theorem errD_sub (s:SS) (er:Int):VSub (.tup [sV s,ev0A,fI er]) (dR (s,evtZ,er)):=.tup (.cons (.refl _) (.cons ev0A_sub (VSubs.refl _)))
set_option maxRecDepth 8000 in
set_option maxHeartbeats 16000000 in
theorem RDeed_spec {s:SS} {d:Dd} {b:Nat} (hS:DocOk s.l s.R b) (hb:b <= 900000) (ht:TextsOk d.r) (h:Q (dR (deedS s d)) []) :
 ACall Tryz.prog 40 0 [sV s,ddA d] [] Q:=by
 refine ACall.sub (by_body Tryz.func40 0 rfl (nbZ rfl) ?_);have hE:ddErr s.l s.R d ≠ 0 -> Q (dR (s,evtZ,ddErr s.l s.R d)) []:=fun he=>by unfold deedS at h; rw [if_neg he] at h; exact h
 have hO:ddErr s.l s.R d = 0 -> Q (dR ({ s with R:=ddR s.l s.R d },ddE d,0)) []:=fun he=>by unfold deedS at h; rw [if_pos he] at h; exact h
 clear h;have hl:=hS.tbs;have hcl:=hl.cols;have hfew:=hl.few;have hlt:=tbs_len s.l;have hrl:=rrs_len s.R;have hlen:=hS.len;have err:∀ er:Int,ddErr s.l s.R d = er -> er ≠ 0 -> ∃ r' H'', VSub (.tup [sV s,ev0A,fI er]) r' /\ HSub [] H'' /\ Q r' H'' := fun er he h0=>⟨_,_,errD_sub s er,HSub.refl _,by rw [<- he] at h0 ⊢; exact hE h0⟩
 conv=>whnf
 refine branch_i (fun c1=>?_) (fun c1=>?_)<;>try rw [c1]<;>conv=>whnf
 . have c1' := dtZ c1;refine ⟨List.range 5,by kernel_rfl,by kernel_rfl,?_⟩
   repeat (conv=>whnf
           refine ⟨rfl,?_⟩)
   conv=>whnf
   exact ⟨[],rfl,err 5 (by unfold ddErr; rw [if_pos (.inl c1')]) (by decide)⟩
 have c1' := dfZ c1;refine branch_i (fun c3=>?_) (fun c3=>?_)<;>try rw [c3]<;>conv=>whnf
 . have c3' := dtZ c3;refine ⟨List.range 5,by kernel_rfl,by kernel_rfl,?_⟩
   repeat (conv=>whnf
           refine ⟨rfl,?_⟩)
   conv=>whnf
   exact ⟨[],rfl,err 5 (by unfold ddErr; rw [if_pos (.inr c3')]) (by decide)⟩
 have c3' := dfZ c3;have hk:1 <= d.k /\ d.k <= 3:=by omega
 refine .pure (EvRAt_spec (by omega) ⟨rfl,?_⟩)
 cases ha:atT s.l d.t with
 | none =>
  rw [atTI_none ha]
  conv=>whnf
  refine ⟨List.range 5,by kernel_rfl,by kernel_rfl,?_⟩
  repeat (conv=>whnf
          refine ⟨rfl,?_⟩)
  conv=>whnf
  exact ⟨[],rfl,err 7 (by unfold ddErr; rw [if_neg (by omega),ha]) (by decide)⟩
 | some i =>
  obtain ⟨t,hti,htn,hil⟩:=atT_get ha;obtain ⟨rs,hRi,hgd,hro,hrb⟩:=hS.get hti;have htk:=hl.tbk (List.mem_of_getElem? hti);have herr:=ddErr_at (R:=s.R) hk ha hti;have hdr:=ddR_at (R:=s.R) ha hti;rw [hgd] at herr hdr;rw [hdr] at hO;obtain ⟨n,C,K⟩:=t;obtain ⟨k,rfl⟩:∃ k:Nat,K = k:=⟨K.toNat,by have:=htk.lo; simp only at this; omega⟩
  have hC:C.length <= 16:=htk.few;have hK1:1 <= k:=by have:=htk.lo; simp only at this; omega
  have hK2:k <= C.length:=by have:=htk.hi; simp only at this; omega
  rw [show atTI s.l d.t = (i:Int) by unfold atTI atI; rw [show atL (nws s.l) d.t = some i from ha]]
  conv=>whnf
  rw [show decide ((i:Int) < 0) = false from decide_eq_false (by omega)]
  conv=>whnf
  refine ⟨_,⟨by omega,tbs_get hti⟩,?_⟩
  conv=>whnf
  refine .pure (RKey_spec (l:=C) (keys:=k) (vs:=d.r) (f:=false) (by omega) hK2 ht ⟨rfl,?_⟩)
  have hfull:∀ er:Int,ddTb ⟨n,C,k⟩ rs d = er -> er ≠ 0 -> ∃ r' H'', VSub (.tup [sV s,ev0A,fI er]) r' /\ HSub [] H'' /\ Q r' H'' := fun er he h0=>err er (by rw [herr]; exact he) h0
  have htx:∀ b0:Bool,ddFit ⟨n,C,k⟩ d = b0 -> b0 = false -> ddTb ⟨n,C,k⟩ rs d = 9:=fun b0 h1 h2=>by unfold ddTb; rw [if_pos (by rw [h1]; exact h2)]
  have hplc:hasL (kyR C k d.r) (kvR C k rs) = headIs C k (kyR C k d.r) (restR C k (kyR C k d.r) rs):=by
   have hs:=hro.srt;have e:=ahead_rest C k (kyR C k d.r) rs;have h1:=hasL_split (key:=kyR C k d.r) (a:=kvR C k (aheadR C k (kyR C k d.r) rs)) (b:=kvR C k (restR C k (kyR C k d.r) rs)) (by rw [<- kvR_app,e]; exact hs) kv_ahead kv_rest
   rw [<- kvR_app,e,head_kv] at h1;exact h1
  have hty:ddFit ⟨n,C,k⟩ d = true -> ddTb ⟨n,C,k⟩ rs d = if d.k = 1 then (if headIs C k (kyR C k d.r) (restR C k (kyR C k d.r) rs) then 8 else 0) else if headIs C k (kyR C k d.r) (restR C k (kyR C k d.r) rs) then 0 else 14:=fun h1=>by
   unfold ddTb;rw [if_neg (by rw [h1]; simp),show ddHas (⟨n,C,k⟩:Tb) rs d = headIs C k (kyR C k d.r) (restR C k (kyR C k d.r) rs) from hplc]
  by_cases h3:d.k = 3
  . have hfd:ddFit ⟨n,C,k⟩ d = (keyOkL C k d.r && decide ((d.r.length:Int) = k)):=by unfold ddFit; rw [if_pos h3]; rfl
    cases hkb:keyOkL C k d.r
    . rw [keyR_no hkb]
      conv=>whnf
      refine .pure (RFits_spec (l:=C) (keys:=(k:Int)) (vs:=d.r) (f:=false) (by omega) ht ⟨rfl,?_⟩)
      conv=>whnf
      rw [show decide (d.k = 3) = true from decide_eq_true h3]
      conv=>whnf
      refine ⟨List.range 5,by kernel_rfl,by kernel_rfl,?_⟩
      repeat (conv=>whnf
              refine ⟨rfl,?_⟩)
      conv=>whnf
      exact ⟨[],rfl,hfull 9 (htx _ hfd (by rw [hkb]; rfl)) (by decide)⟩
    . rw [keyR_yes hkb]
      conv=>whnf
      refine .pure (RFits_spec (l:=C) (keys:=(k:Int)) (vs:=d.r) (f:=false) (by omega) ht ⟨rfl,?_⟩)
      conv=>whnf
      rw [show decide (d.k = 3) = true from decide_eq_true h3]
      conv=>whnf
      rw [vals_len];cases hlk:decide ((d.r.length:Int) = k)<;>conv=>whnf
      . refine ⟨List.range 5,by kernel_rfl,by kernel_rfl,?_⟩
        repeat (conv=>whnf
                refine ⟨rfl,?_⟩)
        conv=>whnf
        exact ⟨[],rfl,hfull 9 (htx _ hfd (by rw [hkb,hlk]; rfl)) (by decide)⟩
      . have hty:=hty (by rw [hfd,hkb,hlk]; rfl)
        rw [if_neg (by omega)] at hty
        refine ⟨List.range 13,by kernel_rfl,by kernel_rfl,?_⟩
        conv=>whnf
        refine ⟨_,⟨by omega,rrs_get hRi⟩,?_⟩
        conv=>whnf
        refine .pure (RPlace_spec (C:=C) (K:=k) (l:=rs) (key:=kyR C k d.r) (f:=false) (by omega) hK2 (rows_t hro) (by omega) ⟨rfl,?_⟩)
        repeat (conv=>whnf
                first | (refine ⟨rfl,?_⟩) | (refine ⟨⟨_,⟨by omega,rrs_get hRi⟩,rfl⟩,?_⟩))
        conv=>whnf
        rw [show decide (d.k = 1) = false from decide_eq_false (by omega)]
        conv=>whnf
        cases hhd:headIs C k (kyR C k d.r) (restR C k (kyR C k d.r) rs)<;>rw [hhd] at hty<;>conv=>whnf
        all_goals
         rw [show decide (d.k = 1) = false from decide_eq_false (by omega)]
         conv=>whnf
        . refine ⟨List.range 5,by kernel_rfl,by kernel_rfl,?_⟩
          repeat (conv=>whnf
                  refine ⟨rfl,?_⟩)
          conv=>whnf
          exact ⟨[],rfl,hfull 14 hty (by decide)⟩
        . have hO:=hO (by rw [herr]; exact hty)
          have hde:ddE d = ⟨5,0,d.t,d.r,[],chg0⟩:=by unfold ddE; rw [if_pos h3]
          rw [hde] at hO;rw [show turnE (⟨n,C,k⟩:Tb).c (⟨n,C,k⟩:Tb).k.toNat rs ⟨5,0,d.t,d.r,[],chg0⟩ = cutR C k rs (kyR C k d.r) from if_pos rfl] at hO
          rw [show decide (d.k = 3) = true from decide_eq_true h3]
          conv=>whnf
          refine ⟨List.range 14,by kernel_rfl,by kernel_rfl,?_⟩
          conv=>whnf
          refine ⟨_,⟨by omega,rrs_get hRi⟩,?_⟩
          conv=>whnf
          refine .pure (RCut10_spec (C:=C) (K:=k) (l:=rs) (key:=kyR C k d.r) (by omega) hK2 (rows_t hro) (by omega) ⟨rfl,?_⟩)
          generalize cutR C k rs (kyR C k d.r) = rs' at *
          repeat (conv=>whnf
                  first | (refine ⟨rfl,?_⟩) | (refine ⟨⟨_,⟨by omega,rrs_get hRi⟩,rfl⟩,?_⟩))
          conv=>whnf
          refine .pure (RWith_spec (R:=s.R) (i:=i) (rows:=rs') (by omega) (by omega) ⟨rfl,?_⟩)
          repeat (conv=>whnf
                  first | (refine ⟨rfl,?_⟩) | (refine ⟨⟨_,⟨by omega,rrs_get hRi⟩,rfl⟩,?_⟩))
          conv=>whnf
          refine ⟨List.range 9,by kernel_rfl,by kernel_rfl,?_⟩
          repeat (conv=>whnf
                  refine ⟨rfl,?_⟩)
          conv=>whnf
          exact ⟨[],rfl,_,_,.tup (.cons (.refl _) (.cons (row_sub5 5 d.t d.r) (VSubs.refl _))),HSub.refl _,hO⟩
  . have hfd:ddFit ⟨n,C,k⟩ d = fitsL C d.r:=by unfold ddFit; rw [if_neg h3]
    obtain ⟨a,e,hke,hka⟩:∃ a e,keyR C k d.r = .tup [.str a,fI e] /\ (fitsL C d.r = true -> a = kyR C k d.r):=by
     cases hkb:keyOkL C k d.r with
     | true=>exact ⟨_,_,keyR_yes hkb,fun _=>rfl⟩
     | false=>exact ⟨_,_,keyR_no hkb,fun hx=>by rw [keyOk_of_fits hK2 hx] at hkb; cases hkb⟩
    rw [hke]
    conv=>whnf
    refine .pure (RFits_spec (l:=C) (keys:=(k:Int)) (vs:=d.r) (f:=false) (by omega) ht ⟨rfl,?_⟩)
    conv=>whnf
    rw [show decide (d.k = 3) = false from decide_eq_false h3]
    conv=>whnf
    cases hft:fitsL C d.r<;>conv=>whnf
    . refine ⟨List.range 5,by kernel_rfl,by kernel_rfl,?_⟩
      repeat (conv=>whnf
              refine ⟨rfl,?_⟩)
      conv=>whnf
      exact ⟨[],rfl,hfull 9 (htx _ hfd hft) (by decide)⟩
    . rw [hka hft];have hty:=hty (by rw [hfd]; exact hft)
      refine ⟨List.range 13,by kernel_rfl,by kernel_rfl,?_⟩
      conv=>whnf
      refine ⟨_,⟨by omega,rrs_get hRi⟩,?_⟩
      conv=>whnf
      refine .pure (RPlace_spec (C:=C) (K:=k) (l:=rs) (key:=kyR C k d.r) (f:=false) (by omega) hK2 (rows_t hro) (by omega) ⟨rfl,?_⟩)
      repeat (conv=>whnf
              first | (refine ⟨rfl,?_⟩) | (refine ⟨⟨_,⟨by omega,rrs_get hRi⟩,rfl⟩,?_⟩))
      conv=>whnf
      have hde:ddE d = ⟨2 + d.k,0,d.t,[],d.r,chg0⟩:=by unfold ddE; rw [if_neg h3]
      have htu:turnE (⟨n,C,k⟩:Tb).c (⟨n,C,k⟩:Tb).k.toNat rs (ddE d) = putR C k rs d.r:=by
       rw [hde];exact if_neg (by simp only; omega)
      rw [htu,hde] at hO;have hwk:IntKind.i64.wrap (2 + d.k) = 2 + d.k:=by rw [wrapI (by omega)]
      by_cases h1:d.k = 1
      . rw [if_pos h1] at hty;rw [show decide (d.k = 1) = true from decide_eq_true h1]
        conv=>whnf
        cases hhd:headIs C k (kyR C k d.r) (restR C k (kyR C k d.r) rs)<;>rw [hhd] at hty<;>conv=>whnf
        rotate_left
        . refine ⟨List.range 5,by kernel_rfl,by kernel_rfl,?_⟩
          repeat (conv=>whnf
                  refine ⟨rfl,?_⟩)
          conv=>whnf
          exact ⟨[],rfl,hfull 8 hty (by decide)⟩
        . have hO:=hO (by rw [herr]; exact hty)
          rw [show decide (d.k = 1) = true from decide_eq_true h1]
          conv=>whnf
          rw [show decide (d.k = 3) = false from decide_eq_false h3]
          conv=>whnf
          refine ⟨List.range 15,by kernel_rfl,by kernel_rfl,?_⟩
          conv=>whnf
          refine ⟨_,⟨by omega,rrs_get hRi⟩,?_⟩
          conv=>whnf
          refine .pure (RPut10_spec (C:=C) (K:=k) (l:=rs) (r:=d.r) (f:=false) (by omega) hK2 (rows_t hro) ht (by omega) ⟨rfl,?_⟩)
          generalize putR C k rs d.r = rs' at *
          repeat (conv=>whnf
                  first | (refine ⟨rfl,?_⟩) | (refine ⟨⟨_,⟨by omega,rrs_get hRi⟩,rfl⟩,?_⟩))
          conv=>whnf
          refine .pure (RWith_spec (R:=s.R) (i:=i) (rows:=rs') (by omega) (by omega) ⟨rfl,?_⟩)
          repeat (conv=>whnf
                  first | (refine ⟨rfl,?_⟩) | (refine ⟨⟨_,⟨by omega,rrs_get hRi⟩,rfl⟩,?_⟩))
          conv=>whnf
          refine ⟨List.range 12,by kernel_rfl,by kernel_rfl,?_⟩
          repeat (conv=>whnf
                  refine ⟨rfl,?_⟩)
          conv=>whnf
          refine ⟨[],rfl,_,_,?_,HSub.refl _,hO⟩;show VSub (.tup [_,.agg [.int .i64 (IntKind.i64.wrap (2 + d.k)),.int .i64 0,.str d.t,.nils,.sl 3 (vals d.r) false,.int .i64 0,.str [],.nils,.int .i64 0,.str [],.int .i64 0,.bool false],fI 0]) _
          rw [hwk];exact .tup (.cons (.refl _) (.cons (row_sub (2 + d.k) d.t d.r) (VSubs.refl _)))
      . rw [if_neg h1] at hty;rw [show decide (d.k = 1) = false from decide_eq_false h1]
        conv=>whnf
        cases hhd:headIs C k (kyR C k d.r) (restR C k (kyR C k d.r) rs)<;>rw [hhd] at hty<;>conv=>whnf
        all_goals
         rw [show decide (d.k = 1) = false from decide_eq_false h1]
         conv=>whnf
        . refine ⟨List.range 5,by kernel_rfl,by kernel_rfl,?_⟩
          repeat (conv=>whnf
                  refine ⟨rfl,?_⟩)
          conv=>whnf
          exact ⟨[],rfl,hfull 14 hty (by decide)⟩
        . have hO:=hO (by rw [herr]; exact hty)
          rw [show decide (d.k = 3) = false from decide_eq_false h3]
          conv=>whnf
          refine ⟨List.range 15,by kernel_rfl,by kernel_rfl,?_⟩
          conv=>whnf
          refine ⟨_,⟨by omega,rrs_get hRi⟩,?_⟩
          conv=>whnf
          refine .pure (RPut10_spec (C:=C) (K:=k) (l:=rs) (r:=d.r) (f:=false) (by omega) hK2 (rows_t hro) ht (by omega) ⟨rfl,?_⟩)
          generalize putR C k rs d.r = rs' at *
          repeat (conv=>whnf
                  first | (refine ⟨rfl,?_⟩) | (refine ⟨⟨_,⟨by omega,rrs_get hRi⟩,rfl⟩,?_⟩))
          conv=>whnf
          refine .pure (RWith_spec (R:=s.R) (i:=i) (rows:=rs') (by omega) (by omega) ⟨rfl,?_⟩)
          repeat (conv=>whnf
                  first | (refine ⟨rfl,?_⟩) | (refine ⟨⟨_,⟨by omega,rrs_get hRi⟩,rfl⟩,?_⟩))
          conv=>whnf
          refine ⟨List.range 12,by kernel_rfl,by kernel_rfl,?_⟩
          repeat (conv=>whnf
                  refine ⟨rfl,?_⟩)
          conv=>whnf
          refine ⟨[],rfl,_,_,?_,HSub.refl _,hO⟩;show VSub (.tup [_,.agg [.int .i64 (IntKind.i64.wrap (2 + d.k)),.int .i64 0,.str d.t,.nils,.sl 3 (vals d.r) false,.int .i64 0,.str [],.nils,.int .i64 0,.str [],.int .i64 0,.bool false],fI 0]) _
          rw [hwk];exact .tup (.cons (.refl _) (.cons (row_sub (2 + d.k) d.t d.r) (VSubs.refl _)))
end
section
variable {Q:V -> List O -> Prop}
def sC (s:SS):List V:=[.sl 3 (tbs s.l) false,.sl 1 (rrs s.R) false,.sl 1 (bs s.log) false,fI s.n,fI s.m]
def sC0:List V:=[.nils,.nils,.nils,fI 0,fI 0]
def dsR (x:SS × Int):V:=.tup [sV x.1,fI x.2]
theorem lim2 {a b n:Nat} (h1:a <= b + 1000020 * (n + 1)) (h2:b + 1000020 * (n + 2) <= 700000000):a <= 700000000 :=
 Nat.le_trans h1 (Nat.le_trans (Nat.add_le_add_left (Nat.mul_le_mul_left _ (Nat.le_succ _)) _) h2)
theorem lim1 {a b i n:Nat} (h1:a <= b + 1000020 * (min i n + 1)) (h2:b + 1000020 * (n + 2) <= 700000000):a <= 700000000 :=
 lim2 (Nat.le_trans h1 (Nat.add_le_add_left (Nat.mul_le_mul_left _ (Nat.succ_le_succ (Nat.min_le_right _ _))) _)) h2
def rdoInv (s:SS) (ds:List Dd) (u f:Bool) (b:Nat) (k:Nat) (ws:List V) (H:List O):Prop :=
 ∃ (i:Nat) (R' : List (List Rw)),ws = [.sl 3 (dds ds) f,.bool u,.ptr 0 0,.ptr 2 0,.ptr 3 0,fI i,.ptr 1 0] /\
  H = [.cells (sC s),.cells sC0,.cells (sC s),.cells (sC { s with R:=R', log:=tellL s.log (mkE 2 s.n :: (ds.take i).map ddE) })] /\
  DocOk s.l R' (b + i) /\ doR s.l s.R ds = doR s.l R' (ds.drop i) /\ (∀ e ∈ (ds.take i).map ddE,mayE e s.l = 0 /\ EvtN e) /\ i <= ds.length /\ k = ds.length - i
set_option maxRecDepth 8000 in
set_option maxHeartbeats 16000000 in
theorem RDo_spec {s:SS} {ds:List Dd} {u f:Bool} {b:Nat} (hS:DocOk s.l s.R b) (hB:SrcB s 1000000) (hd:∀ d ∈ ds,DdIn d) (hds:ds.length <= 1000) (hb:b < 800000) (hs:s.log.length + 1000020 * (ds.length + 2) <= 700000000)
 (h:Q (dsR (doS s ds u)) []):ACall Tryz.prog 30 0 [sV s,.sl 3 (dds ds) f,.bool u] [] Q:=by
 refine by_body Tryz.func30 0 rfl (nbZ rfl) ?_;have h1:=hB.n0; have h2:=hB.n1; have h3:=hB.m0; have h4:=hB.m1;have hl:=hS.tbs;have hdl:=dds_len ds
 conv=>whnf
 refine .pure (ACall.args (.cons (.refl _) (.cons (may_subN 2 s.n) .nil)) (RTell_spec (s:=s) (e:=mkE 2 s.n) hl (mkE_may rfl h1) (mkE_n (by unfold I64; omega)) (by omega) ⟨rfl,?_⟩))
 conv=>whnf
 refine ⟨⟨[1,2,3,8,9,10,6],rdoInv s ds u f b,.at ds.length ⟨0,s.R,rfl,rfl,hS,rfl,fun e he=>by simp at he,by omega,rfl⟩,?_⟩⟩
 rintro k ws H ⟨i,R', rfl,rfl,hD,hdr,hpre,hi,rfl⟩
 conv=>whnf
 have htl:=tellL_len hl (mkE 2 s.n :: (ds.take i).map ddE) s.log;refine branch_i (fun c1=>?_) (fun c1=>?_)<;>try rw [c1]<;>conv=>whnf
 . have c1' := dtZ c1;have hil:i < ds.length:=by omega
   have hg:ds[i]? = some ds[i]:=lgZ hil;have hti:(ds.take (i + 1)).map ddE = (ds.take i).map ddE ++ [ddE ds[i]]:=by rw [List.take_add_one,hg,List.map_append]; rfl
   have hdr' : ds.drop i = ds[i] :: ds.drop (i + 1):=List.drop_eq_getElem_cons hil;have hdi:=hd ds[i] (List.getElem_mem hil);rw [hdr'] at hdr;generalize ds[i] = d at *;refine ⟨List.range 15,by kernel_rfl,by kernel_rfl,?_⟩
   conv=>whnf
   refine ⟨_,⟨by omega,dds_get hg⟩,?_⟩
   conv=>whnf
   refine .pure (RDeed_spec (s:={ s with R:=R', log:=tellL s.log (mkE 2 s.n :: (ds.take i).map ddE) }) (d:=d) hD (by omega) hdi.t ⟨rfl,?_⟩)
   by_cases he:ddErr s.l R' d = 0
   rotate_left
   . rw [show deedS { s with R:=R', log:=tellL s.log (mkE 2 s.n :: (ds.take i).map ddE) } d = (_,evtZ,ddErr s.l R' d) from if_neg he]
     have hdo:doR s.l s.R ds = (R', ddErr s.l R' d):=by rw [hdr]; exact if_neg he
     rw [doS_no (by rw [hdo]; exact he),hdo] at h
     have h:Q (dsR (s,ddErr s.l R' d)) []:=h;generalize ddErr s.l R' d = er at *
     repeat (conv=>whnf
             refine ⟨rfl,?_⟩)
     conv=>whnf
     rw [show (!decide (er = 0)) = true by simp [he]]
     conv=>whnf
     exact ⟨[],rfl,h⟩
   . rw [show deedS { s with R:=R', log:=tellL s.log (mkE 2 s.n :: (ds.take i).map ddE) } d = ({ s with R:=ddR s.l R' d,log:=tellL s.log (mkE 2 s.n :: (ds.take i).map ddE) },ddE d,0) from if_pos he]
     have hem:=dd_may hl he hdi.t hdi.n;have htl:=htl (fun e hx=>by
      rcases List.mem_cons.1 hx with rfl | hx
      . exact ⟨mkE_may rfl h1,mkE_n (by unfold I64; omega)⟩
      . exact hpre e hx)
     simp only [List.length_cons,List.length_map,List.length_take] at htl;have hsn:tellL s.log (mkE 2 s.n :: (ds.take (i + 1)).map ddE) = tellL s.log (mkE 2 s.n :: (ds.take i).map ddE) ++ frm (evW (ddE d)):=by
      rw [hti,<- List.cons_append]; exact tellL_snoc _ _ _
     have hD' := hD.deed he;have hpre' : ∀ e ∈ (ds.take (i + 1)).map ddE,mayE e s.l = 0 /\ EvtN e:=fun e hx=>by
      rw [hti] at hx;rcases List.mem_append.1 hx with hx | hx
      . exact hpre e hx
      . rw [List.mem_singleton.1 hx]; exact ⟨hem.1,hem.2.1⟩
     have hdr2:doR s.l s.R ds = doR s.l (ddR s.l R' d) (ds.drop (i + 1)):=by rw [hdr]; exact doR_ok _ he
     generalize ddR s.l R' d = R2 at *;generalize ddE d = e at *;generalize tellL s.log (mkE 2 s.n :: (ds.take i).map ddE) = log1 at *;have hL:log1.length <= 700000000:=lim1 htl hs
     repeat (conv=>whnf
             refine ⟨rfl,?_⟩)
     conv=>whnf
     refine .pure (RTell_spec (s:={ s with R:=R2,log:=log1 }) (e:=e) hl hem.1 hem.2.1 hL ⟨rfl,?_⟩)
     conv=>whnf
     refine .go [0,1,2,3] rfl (ds.length - (i + 1)) (by omega) ⟨i + 1,R2,?_,?_,hD', hdr2,hpre', by omega,rfl⟩
     . show [V.sl 3 (dds ds) f,.bool u,.ptr 0 0,.ptr 2 0,.ptr 3 0,.int .i64 (IntKind.i64.wrap ((i:Int) + 1)),.ptr 1 0] = _
       rw [wrapE (by omega)]; rfl
     . rw [hsn]; rfl
 . have c1' := dfZ c1;have hie:i = ds.length:=by omega
   subst hie;have hdo:doR s.l s.R ds = (R', 0):=by rw [hdr,List.drop_length]; rfl
   rw [doS_ok (by rw [hdo]),hdo] at h
   rw [List.take_length] at hpre ⊢;have htl:=tellL_len hl (mkE 2 s.n :: ds.map ddE) s.log (fun e hx=>by
    rcases List.mem_cons.1 hx with rfl | hx
    . exact ⟨mkE_may rfl h1,mkE_n (by unfold I64; omega)⟩
    . exact hpre e hx)
   simp only [List.length_cons,List.length_map] at htl;have hlog:∀ k:Int,tellL s.log (mkE 2 s.n :: ds.map ddE) ++ frm (evW (mkE k s.n)) = tellL s.log (mkE 2 s.n :: (ds.map ddE ++ [mkE k s.n])):=fun k=>by
    rw [<- List.cons_append]; exact (tellL_snoc _ _ _).symm
   generalize hl1:tellL s.log (mkE 2 s.n :: ds.map ddE) = log1 at *;have hL:log1.length <= 700000000:=lim2 htl hs;cases u
   . conv=>whnf
     refine .pure (ACall.args (.cons (.refl _) (.cons (may_subN 7 s.n) .nil)) (RTell_spec (s:={ s with R:=R', log:=log1 }) (e:=mkE 7 s.n) hl (mkE_may rfl h1) (mkE_n (by unfold I64; omega)) hL ⟨rfl,?_⟩))
     rw [hlog]
     conv=>whnf
     refine ⟨[],rfl,?_⟩;show Q (.tup [.agg [_,_,_,.int .i64 (IntKind.i64.wrap (s.n + 1)),.int .i64 (IntKind.i64.wrap (s.m + 1))],fI 0]) []
     rw [wrapI (by omega),wrapI (by omega)]
     exact h
   . conv=>whnf
     refine .pure (ACall.args (.cons (.refl _) (.cons (may_subN 8 s.n) .nil)) (RTell_spec (s:={ s with R:=R', log:=log1 }) (e:=mkE 8 s.n) hl (mkE_may rfl h1) (mkE_n (by unfold I64; omega)) hL ⟨rfl,?_⟩))
     rw [hlog]
     conv=>whnf
     refine ⟨[],rfl,?_⟩;show Q (.tup [.agg [_,_,_,.int .i64 (IntKind.i64.wrap (s.n + 1)),_],fI 0]) []
     rw [wrapI (by omega)]
     exact h
def markS (s:SS) (hi:Bool) (k:Int):SS × Int:=if k < 0 then (s,1) else ({ s with log:=s.log ++ frm (evW (mkE (if hi then 10 else 9) k)) },0)
theorem RMark_spec {s:SS} {hi:Bool} {k:Int} (hl:TbsB s.l) (hk:I64 k) (hs:s.log.length <= 700000000) (h:Q (dsR (markS s hi k)) []):ACall Tryz.prog 34 0 [sV s,.bool hi,fI k] [] Q:=by
 refine by_body Tryz.func34 0 rfl (nbZ rfl) ?_;unfold markS at h
 conv=>whnf
 refine branch_i (fun c1=>?_) (fun c1=>?_)<;>try rw [c1]<;>conv=>whnf
 . rw [if_pos (dtZ c1)] at h;exact ⟨[],rfl,h⟩
 have c1' := dfZ c1;rw [if_neg c1'] at h;cases hi
 . conv=>whnf
   refine .pure (ACall.args (.cons (.refl _) (.cons (may_subN 9 k) .nil)) (RTell_spec (s:=s) (e:=mkE 9 k) hl (mkE_may rfl (by omega)) (mkE_n hk) hs ⟨rfl,?_⟩))
   conv=>whnf
   exact ⟨[],rfl,h⟩
 . conv=>whnf
   refine .pure (ACall.args (.cons (.refl _) (.cons (may_subN 10 k) .nil)) (RTell_spec (s:=s) (e:=mkE 10 k) hl (mkE_may rfl (by omega)) (mkE_n hk) hs ⟨rfl,?_⟩))
   conv=>whnf
   exact ⟨[],rfl,h⟩
end
section
variable {Q:V -> List O -> Prop}
def altE (l:List Tb) (R:List (List Rw)) (c:Chg) (x:Tb):List Rw:=match atT l x.n with
 | none=>[]
 | some i=>if x.n = c.t then (match l[i]? with
  | some t=>turnRs t c (R.getD i [])
  | none=>[]) else R.getD i []
theorem alterR_snoc (l:List Tb) (R:List (List Rw)) (c:Chg) (l' : List Tb) (x:Tb):alterR l R c (l' ++ [x]) = alterR l R c l' ++ [altE l R c x]:=by unfold alterR altE; rw [List.map_append]; rfl
theorem alterR_len (l:List Tb) (R:List (List Rw)) (c:Chg) (l' : List Tb):(alterR l R c l').length = l'.length:=by simp [alterR]
theorem rrs_snoc (R:List (List Rw)) (x:List Rw):rrs (R ++ [x]) = rrs R ++ [[.sl 1 (rws x) false]]:=by simp [rrs]
theorem buf_snocG {X:List (List V)} {w w' : List V} (h:VSubs w w'):OSub (.buf (X ++ [w])) (.buf (X ++ [w'])):=by
 refine .bufR (by simp) fun i a b ha hb=>?_
 rcases Nat.lt_or_ge i X.length with hi | hi
 . rw [List.getElem?_append_left hi] at ha hb;rw [ha] at hb; cases hb;exact VSubs.refl _
 . rw [List.getElem?_append_right hi] at ha hb;obtain h0:i - X.length = 0:=by
    have:=(liZ.1 ha).1;simp at this; omega
   rw [h0] at ha hb;cases ha; cases hb;exact h
def altInv (s:SS) (ch:Chg) (l' : List Tb) (log' : List UInt8) (k:Nat) (ws:List V) (H:List O):Prop :=
 ∃ i:Nat,ws = [.ptr 0 0,.ptr 1 0,.ptr 2 0,.sl 3 (tbs l') false,.ptr 4 0,.ms 1 5 0 i false,fI i,fI 0] /\
  H = [.cells (sC s),.cells (chC ch),.cells sC0,.dead,.cells (sC { s with log:=log' }),.buf (rrs (alterR s.l s.R ch (l'.take i)))] /\ i <= l'.length /\ k = l'.length - i
set_option maxRecDepth 8000 in
set_option maxHeartbeats 16000000 in
theorem RAlter_spec {s:SS} {ch:Chg} {b:Nat} (hS:DocOk s.l s.R b) (hB:SrcB s 1000000) (hc:ch.c.length < 9223372036854775808) (hb:b < 800000) (hs:s.log.length + 1000020 * 3 <= 700000000)
 (h:Q (dsR (alterS s ch)) []):ACall Tryz.prog 32 0 [sV s,chA ch] [] Q:=by
 refine ACall.ret (by_body Tryz.func32 0 rfl (nbZ rfl) ?_);have h1:=hB.n0; have h2:=hB.n1; have h3:=hB.m0; have h4:=hB.m1;have hl:=hS.tbs
 conv=>whnf
 refine .pure (ACall.args (.cons (may_sub6 6 0 ch) (VSubs.refl _)) (EvRMay_spec (e:=⟨6,0,[],[],[],ch⟩) hl (evt6 6 0 hc) ⟨rfl,?_⟩));have hcs:mayE ⟨6,0,[],[],[],ch⟩ s.l ≠ 0 -> alterS s ch = (s,1):=fun hx=>by unfold alterS; rw [if_neg hx]
 have hal:mayE ⟨6,0,[],[],[],ch⟩ s.l = 0 -> alterS s ch = (if (folT s.l ch.k ch.t ch.c ch.ks ch.col).2 = 0 then
  (⟨(folT s.l ch.k ch.t ch.c ch.ks ch.col).1,alterR s.l s.R ch (folT s.l ch.k ch.t ch.c ch.ks ch.col).1,tellL s.log [mkE 2 s.n,⟨6,0,[],[],[],ch⟩,mkE 7 s.n],s.n + 1,s.m + 1⟩,0)
  else (s,(folT s.l ch.k ch.t ch.c ch.ks ch.col).2)):=fun hx=>by unfold alterS; rw [if_pos hx]
 generalize hme:mayE ⟨6,0,[],[],[],ch⟩ s.l = me at *
 conv=>whnf
 refine branch_i (fun c1=>?_) (fun c1=>?_)<;>try rw [c1]<;>conv=>whnf
 . rw [hcs (by simpa using c1)] at h
   exact ⟨[],rfl,.done [] rfl h⟩
 have c1' : me = 0:=by simpa using c1
 rw [hal c1'] at h;refine .pure (RFollow_spec (k:=ch.k) (t:=ch.t) (cs:=ch.c) (ks:=ch.ks) (c:=ch.col) hl.few (fun x hx=>(hl.ok.each x hx).sch) ⟨rfl,?_⟩)
 generalize hfo:folT s.l ch.k ch.t ch.c ch.ks ch.col = fo at *
 conv=>whnf
 refine branch_i (fun c2=>?_) (fun c2=>?_)<;>try rw [c2]<;>conv=>whnf
 . rw [if_neg (by simpa using c2)] at h
   exact ⟨[],rfl,.done [] rfl h⟩
 have c2' : fo.2 = 0:=by simpa using c2
 rw [if_pos c2'] at h;obtain ⟨l', e'⟩:=fo;simp only at c2';subst c2';refine ⟨[0,1,2,3,5,7,8,9,4,6,10,11,12],by kernel_rfl,by kernel_rfl,?_⟩
 conv=>whnf
 refine .pure (ACall.args (.cons (.refl _) (.cons (may_subN 2 s.n) .nil)) (RTell_spec (s:=s) (e:=mkE 2 s.n) hl (mkE_may rfl h1) (mkE_n (by unfold I64; omega)) (by omega) ⟨rfl,?_⟩))
 have e2ok:mayE (mkE 2 s.n) s.l = 0 /\ EvtN (mkE 2 s.n):=⟨mkE_may rfl h1,mkE_n (by unfold I64; omega)⟩
 have e6ok:mayE ⟨6,0,[],[],[],ch⟩ s.l = 0 /\ EvtN ⟨6,0,[],[],[],ch⟩:=⟨by rw [hme]; exact c1', evn6 _ _ _ ⟨by decide,by decide⟩⟩
 have t1:=tellL_len hl [mkE 2 s.n] s.log (fun e he=>by rw [List.mem_singleton.1 he]; exact e2ok)
 have t2:=tellL_len hl [mkE 2 s.n,⟨6,0,[],[],[],ch⟩] s.log (fun e he=>by
  simp only [List.mem_cons,List.not_mem_nil,or_false] at he;rcases he with rfl | rfl
  . exact e2ok
  . exact e6ok)
 have q1:tellL s.log [mkE 2 s.n] = s.log ++ frm (evW (mkE 2 s.n)):=rfl;have q2:tellL s.log [mkE 2 s.n,⟨6,0,[],[],[],ch⟩] = s.log ++ frm (evW (mkE 2 s.n)) ++ frm (evW ⟨6,0,[],[],[],ch⟩):=rfl;have q3:tellL s.log [mkE 2 s.n,⟨6,0,[],[],[],ch⟩,mkE 7 s.n] = s.log ++ frm (evW (mkE 2 s.n)) ++ frm (evW ⟨6,0,[],[],[],ch⟩) ++ frm (evW (mkE 7 s.n)):=rfl;rw [q1] at t1;rw [q2] at t2;rw [q3] at h;simp only [List.length_cons,List.length_nil] at t1 t2;generalize s.log ++ frm (evW (mkE 2 s.n)) = log1 at *;have b1:log1.length <= 700000000:=by omega
 repeat (conv=>whnf
         refine ⟨rfl,?_⟩)
 conv=>whnf
 refine .pure (ACall.args (.cons (.refl _) (.cons (may_sub6 6 0 ch) .nil)) (RTell_spec (s:={ s with log:=log1 }) (e:=⟨6,0,[],[],[],ch⟩) hl e6ok.1 e6ok.2 b1 ⟨rfl,?_⟩))
 simp only;generalize log1 ++ frm (evW ⟨6,0,[],[],[],ch⟩) = log2 at *;have b2:log2.length <= 700000000:=by omega
 repeat (conv=>whnf
         refine ⟨rfl,?_⟩)
 conv=>whnf
 refine .pure (ACall.args (.cons (.refl _) (.cons (may_subN 7 s.n) .nil)) (RTell_spec (s:={ s with log:=log2 }) (e:=mkE 7 s.n) hl (mkE_may rfl h1) (mkE_n (by unfold I64; omega)) b2 ⟨rfl,?_⟩))
 simp only;generalize log2 ++ frm (evW (mkE 7 s.n)) = log' at *
 repeat (conv=>whnf
         refine ⟨rfl,?_⟩)
 conv=>whnf
 refine ⟨⟨[2,3,4,7,9,10,11,5],altInv s ch l' log', ?_,?_⟩⟩
 . refine .frz (l'.length + 1) (.adopt (.sub [.ptr 0 0,.ptr 1 0,.ptr 2 0,.sl 3 (tbs l') false,.ptr 4 0,.ms 1 5 0 0 false,fI 0,fI 0] [.cells (sC s),.cells (chC ch),.cells sC0,.dead,.cells (sC { s with log:=log' }),.buf []] (.cons (.refl _) (.cons (.refl _) (.cons (.refl _) (.cons (.refl _) (.cons (.refl _) (.cons (VSub.ms0 1 5 0 false) (VSubs.refl _))))))) ?_ (.go [0,1,2,3,4,5] rfl l'.length (by omega) ⟨0,rfl,rfl,by omega,rfl⟩)))
   exact .cons (.refl _) (.cons (.refl _) (.cons (.refl _) (.cons (.dead _) (HSub.refl _))))
 have hl' : TbsB l' := by
  have:=folT_ok (c:=ch.col) (k:=ch.k) (t:=ch.t) (cs:=ch.c) (ks:=ch.ks) hl (by rw [hfo])
  rw [hfo] at this; exact this
 have hfew:=hl'.few;have hfew0:=hl.few;have hlt:=tbs_len l';rintro k ws H ⟨i,rfl,rfl,hi,rfl⟩
 conv=>whnf
 refine branch_i (fun c3=>?_) (fun c3=>?_)<;>try rw [c3]<;>conv=>whnf
 . have c3' := dtZ c3;have hil:i < l'.length:=by omega
   have hg:l'[i]? = some l'[i]:=lgZ hil;have hti:l'.take (i + 1) = l'.take i ++ [l'[i]]:=by rw [List.take_add_one,hg]; rfl
   have hfm:=fol_mem hl hfo (List.getElem_mem hil);generalize l'[i] = x at *;refine ⟨List.range 9,by kernel_rfl,by kernel_rfl,?_⟩
   conv=>whnf
   refine ⟨_,⟨by omega,tbs_get hg⟩,?_⟩
   conv=>whnf
   refine .pure (EvRAt_spec (by omega) ⟨rfl,?_⟩)
   have hal2:(alterR s.l s.R ch (l'.take i)).length = i:=by rw [alterR_len,List.length_take]; omega
   have hrl2:=rrs_len (alterR s.l s.R ch (l'.take i));have hnx:∀ rows,altE s.l s.R ch x = rows -> rrs (alterR s.l s.R ch (l'.take (i + 1))) = rrs (alterR s.l s.R ch (l'.take i)) ++ [[.sl 1 (rws rows) false]]:=fun rows hr=>by rw [hti,alterR_snoc,hr,rrs_snoc]
   generalize hX:rrs (alterR s.l s.R ch (l'.take i)) = X at *;have hXl:X.length = i:=by omega
   have hXs:(X.length + 1) * 24 <= 70368744177664:=by omega
   have fin:∀ (rows:List Rw),altE s.l s.R ch x = rows -> altInv s ch l' log' (l'.length - (i + 1)) [.ptr 0 0,.ptr 1 0,.ptr 2 0,.sl 3 (tbs l') false,.ptr 4 0,.ms 1 5 0 (X.length + 1) false,.int .i64 (IntKind.i64.wrap ((i:Int) + 1)),fI 0]
    [.cells (sC s),.cells (chC ch),.cells sC0,.dead,.cells (sC { s with log:=log' }),.buf (X ++ [[.sl 1 (rws rows) false]])]:=fun rows hr=>⟨i + 1,by rw [hXl,wrapE (by omega)]; rfl,by rw [hnx rows hr],by omega,rfl⟩
   rcases hfm with ⟨hxl,hne⟩ | ⟨hn,hk1,hno⟩ | ⟨hn,hk1,hk2,j,t,hat,htj,rfl,hap⟩
   . obtain ⟨j,hj⟩:=List.mem_iff_getElem?.1 hxl;have haj:=at_self hl.ok.sorted hj;obtain ⟨rs,hRj,hgd,hro,hrb⟩:=hS.get hj;have hjl:=(liZ.1 hRj).1;have hrR:=rrs_len s.R;have fin:=fin rs (by unfold altE; rw [haj]; simp only [if_neg hne]; exact hgd)
     rw [show atTI s.l x.n = (j:Int) by unfold atTI atI; rw [show atL (nws s.l) x.n = some j from haj]]
     repeat (conv=>whnf
             first | (refine ⟨rfl,?_⟩) | (refine ⟨⟨_,⟨by omega,tbs_get hg⟩,rfl⟩,?_⟩))
     conv=>whnf
     refine ⟨List.range 12,by kernel_rfl,by kernel_rfl,?_⟩
     conv=>whnf
     rw [show decide ((j:Int) ≥ 0) = true from decide_eq_true (by omega)]
     conv=>whnf
     refine ⟨_,⟨by omega,tbs_get hg⟩,?_⟩
     conv=>whnf
     rw [show decide (x.n = ch.t) = false from decide_eq_false hne]
     conv=>whnf
     rw [show decide ((j:Int) ≥ 0) = true from decide_eq_true (by omega)]
     conv=>whnf
     refine ⟨_,⟨by omega,rrs_get hRj⟩,?_⟩
     conv=>whnf
     refine ⟨Nat.le_refl 1,?_⟩;refine app_gen (X:=X) (ys:=[[.sl 1 (rws rs) false]]) rfl rfl hXl.symm hXs ?_
     conv=>whnf
     exact .go [0,1,2,3,4,7] rfl (l'.length - (i + 1)) (by omega) fin
   . have fin:=fin [] (by unfold altE; rw [hn,hno])
     rw [hn,atTI_none hno]
     repeat (conv=>whnf
             first | (refine ⟨rfl,?_⟩) | (refine ⟨⟨_,⟨by omega,tbs_get hg⟩,rfl⟩,?_⟩))
     conv=>whnf
     refine ⟨List.range 12,by kernel_rfl,by kernel_rfl,?_⟩
     conv=>whnf
     refine ⟨Nat.le_refl 1,?_⟩;refine app_gen (X:=X) (ys:=[[.nils]]) rfl rfl hXl.symm hXs ?_
     conv=>whnf
     exact .sub _ _ (VSubs.refl _) (.cons (.refl _) (.cons (.refl _) (.cons (.refl _) (.cons (.refl _) (.cons (.refl _) (.cons (.refl _) (.cons (.refl _) (.cons (buf_snocG (.cons (nils_sl1 false) .nil)) HSub.nil)))))))) (.go [0,1,2,3,4,7] rfl (l'.length - (i + 1)) (by omega) fin)
   . obtain ⟨rs,hRj,hgd,hro,hrb⟩:=hS.get htj;have hjl:=(liZ.1 hRj).1;have hjl2:=(liZ.1 htj).1;have hrR:=rrs_len s.R;have hlt0:=tbs_len s.l;have hrsl:=rws_len rs;have htk:=hl.tbk (List.mem_of_getElem? htj);have hC:=htk.few;have htu:=turn_ok (c:=ch) (hl.ok.each t (List.mem_of_getElem? htj)).sch hro hap;have fin2:=fin (turnRs t ch rs) (by unfold altE; rw [hn,hat]; simp only [if_true,htj,hgd])
     rw [show atTI s.l (turnTb t ch).n = (j:Int) by unfold atTI atI; rw [show atL (nws s.l) (turnTb t ch).n = some j by rw [hn]; exact hat]]
     generalize turnTb t ch = x at *
     repeat (conv=>whnf
             first | (refine ⟨rfl,?_⟩) | (refine ⟨⟨_,⟨by omega,tbs_get hg⟩,rfl⟩,?_⟩))
     conv=>whnf
     refine ⟨List.range 12,by kernel_rfl,by kernel_rfl,?_⟩
     conv=>whnf
     rw [show decide ((j:Int) ≥ 0) = true from decide_eq_true (by omega)]
     conv=>whnf
     refine ⟨_,⟨by omega,tbs_get hg⟩,?_⟩
     conv=>whnf
     rw [show decide (x.n = ch.t) = true from decide_eq_true hn]
     conv=>whnf
     refine ⟨⟨[2,3,4,7,9,10,11,5,12,13,14],fun k ws H=>∃ p:Nat,ws = [.ptr 0 0,.ptr 1 0,.ptr 2 0,.sl 3 (tbs l') false,.ptr 4 0,.ms 1 5 0 i false,fI i,fI 0,fI j,.ms 1 6 0 p false,fI p] /\
      H = [.cells (sC s),.cells (chC ch),.cells sC0,.dead,.cells (sC { s with log:=log' }),.buf X,.buf (rws (turnRs t ch (rs.take p)))] /\ p <= rs.length /\ k = rs.length - p,?_,?_⟩⟩
     . exact .frz (rs.length + 1) (.adopt (.sub [.ptr 0 0,.ptr 1 0,.ptr 2 0,.sl 3 (tbs l') false,.ptr 4 0,.ms 1 5 0 i false,fI i,fI 0,fI j,.ms 1 6 0 0 false,fI 0] _ (.cons (.refl _) (.cons (.refl _) (.cons (.refl _) (.cons (.refl _) (.cons (.refl _) (.cons (.refl _) (.cons (.refl _) (.cons (.refl _) (.cons (.refl _) (.cons (VSub.ms0 1 6 0 false) (VSubs.refl _))))))))))) (HSub.refl _) (.go [0,1,2,3,4,5,6] rfl rs.length (by omega) ⟨0,rfl,rfl,by omega,rfl⟩)))
     rintro k ws H ⟨p,rfl,rfl,hp,rfl⟩
     conv=>whnf
     refine ⟨_,⟨by omega,rrs_get hRj⟩,?_⟩
     conv=>whnf
     refine branch_i (fun c4=>?_) (fun c4=>?_)<;>try rw [c4]<;>conv=>whnf
     . have c4' := dtZ c4;have hpl:p < rs.length:=by omega
       have hgp:rs[p]? = some rs[p]:=lgZ hpl;have hrm:=List.getElem_mem hpl;have htp:rs.take (p + 1) = rs.take p ++ [rs[p]]:=by rw [List.take_add_one,hgp]; rfl
       generalize rs[p] = r at *;have hrl:=fits_len' (hro.fit r hrm);have htn2:turnRs t ch (rs.take (p + 1)) = turnRs t ch (rs.take p) ++ [turnS t.c ch.k ch.col r]:=by rw [htp]; unfold turnRs; rw [List.map_append]; rfl
       have hca:=htu.can r hrm;have hYl:(turnRs t ch (rs.take p)).length = p:=by unfold turnRs; rw [List.length_map,List.length_take]; omega
       refine ⟨List.range 20,by kernel_rfl,by kernel_rfl,?_⟩
       conv=>whnf
       refine ⟨_,⟨by omega,tbs_get htj⟩,?_⟩
       conv=>whnf
       refine ⟨_,⟨by omega,rrs_get hRj⟩,?_⟩
       conv=>whnf
       refine ⟨_,⟨by omega,rws_some hgp⟩,?_⟩
       conv=>whnf
       refine .pure (RTurn_spec (l:=t.c) (keys:=t.k) (k:=ch.k) (c:=ch.col) (r:=r) (by omega) (by omega) hca ⟨rfl,?_⟩)
       generalize turnS t.c ch.k ch.col r = r' at *;generalize turnRs t ch (rs.take p) = Y at *;have hYr:=rws_len Y
       repeat (conv=>whnf
               first | (refine ⟨rfl,?_⟩) | (refine ⟨⟨_,⟨by omega,tbs_get htj⟩,rfl⟩,?_⟩) | (refine ⟨⟨_,⟨by omega,rrs_get hRj⟩,rfl⟩,?_⟩) | (refine ⟨⟨_,⟨by omega,rws_some hgp⟩,rfl⟩,?_⟩))
       conv=>whnf
       refine ⟨Nat.le_refl 1,?_⟩;refine app_gen (X:=rws Y) (ys:=[[fR r']]) rfl rfl (by omega) (show ((rws Y).length + 1) * 24 <= 70368744177664 by omega) ?_
       repeat (conv=>whnf
               first | (refine ⟨rfl,?_⟩) | (refine ⟨⟨_,⟨by omega,tbs_get htj⟩,rfl⟩,?_⟩) | (refine ⟨⟨_,⟨by omega,rrs_get hRj⟩,rfl⟩,?_⟩) | (refine ⟨⟨_,⟨by omega,rws_some hgp⟩,rfl⟩,?_⟩))
       conv=>whnf
       refine .go [0,1,2,3,4,5,8] rfl (rs.length - (p + 1)) (by omega) ⟨p + 1,?_,?_,by omega,rfl⟩
       . show [V.ptr 0 0,.ptr 1 0,.ptr 2 0,.sl 3 (tbs l') false,.ptr 4 0,.ms 1 5 0 i false,fI i,fI 0,fI j,.ms 1 6 0 ((rws Y).length + 1) false,.int .i64 (IntKind.i64.wrap ((p:Int) + 1))] = _
         rw [wrapE (by omega),hYr,hYl]; rfl
       . rw [htn2,rws_app]; rfl
     . have c4' := dfZ c4;have hpe:p = rs.length:=by omega
       subst hpe;rw [List.take_length];have hTl:=rws_len (turnRs t ch rs);have hTl2:(turnRs t ch rs).length = rs.length:=by unfold turnRs; rw [List.length_map]
       have hTk:List.take rs.length (List.drop 0 (rws (turnRs t ch rs))) = rws (turnRs t ch rs):=by rw [List.drop_zero,List.take_of_length_le (by omega)]
       refine ⟨⟨rfl,by repeat (first | exact trivial | refine And.intro (by omega) ?_)⟩,?_⟩
       conv=>whnf
       refine ⟨Nat.le_refl 1,?_⟩;refine app_gen (X:=X) (ys:=[[.sl 1 (List.take rs.length (List.drop 0 (rws (turnRs t ch rs)))) false]]) rfl rfl hXl.symm hXs ?_;rw [hTk]
       conv=>whnf
       exact .go [0,1,2,3,4,8] rfl (l'.length - (i + 1)) (by omega) fin2
 . have c3' := dfZ c3;have hie:i = l'.length:=by omega
   subst hie;rw [List.take_length];have hAl:=alterR_len s.l s.R ch l';have hAr:=rrs_len (alterR s.l s.R ch l');have hTk:List.take l'.length (List.drop 0 (rrs (alterR s.l s.R ch l'))) = rrs (alterR s.l s.R ch l'):=by rw [List.drop_zero,List.take_of_length_le (by omega)]
   refine ⟨[5],rfl,.frz 0 rfl (And.intro (by rw [Nat.zero_add,hAr,hAl]; exact Nat.le_refl _) trivial) (.sub (dsR (⟨l', alterR s.l s.R ch l', log', s.n + 1,s.m + 1⟩,0)) [.dead] ?_ (HSub.refl _) (.done [] rfl h))⟩
   show VSub (.tup [.agg [.sl 3 (tbs l') false,.sl 1 (List.take l'.length (List.drop 0 (rrs (alterR s.l s.R ch l')))) false,.sl 1 (bs log') false,.int .i64 (IntKind.i64.wrap (s.n + 1)),.int .i64 (IntKind.i64.wrap (s.m + 1))],fI 0]) _
   rw [hTk,wrapI (by omega),wrapI (by omega)]
   exact .refl _
end
section
variable {Q:V -> List O -> Prop}
theorem take_more {α:Type} {l a:List α} {m:Nat} {P:α -> Bool} {k:Nat} (ha:a = (l.take k).filter P) (h1:a.length <= m) (h:l.length <= k \/ m <= a.length):(l.filter P).take m = a:=by
 rcases h with h | h
 . rw [List.take_of_length_le h] at ha;rw [<- ha,List.take_of_length_le h1]
 . have:l.filter P = a ++ (l.drop k).filter P:=by rw [ha,<- List.filter_append,List.take_append_drop]
   rw [this];exact take_stop' h1 h
theorem RKey10T_spec {t:Tb} {r:Rw} {f:Bool} (hk:TbK t) (ht:TextsOk r) (h:Q (.str (kyT t r)) []):ACall Tryz.prog 13 0 [sch t.c t.k,.sl 3 (vals r) f] [] Q:=by
 obtain ⟨n,C,K⟩:=t;obtain ⟨k,rfl⟩:∃ k:Nat,K = k:=⟨K.toNat,by have:=hk.lo; simp only at this; omega⟩
 have h1:=hk.few;have h2:=hk.hi;simp only at h1 h2;exact RKey10_spec (C:=C) (K:=k) (by omega) (by omega) ht h
theorem RPlaceT_spec {t:Tb} {l:List Rw} {key:List UInt8} {f:Bool} (hk:TbK t) (hr:RowsOk t l) (hn:l.length <= 1000000) (h:∀ n:Int,Q (.tup [fI n,.bool (hasL key (kvT t l))]) []) :
 ACall Tryz.prog 67 0 [sch t.c t.k,.sl 1 (rws l) f,.str key] [] Q:=by
 obtain ⟨n,C,K⟩:=t;obtain ⟨k,rfl⟩:∃ k:Nat,K = k:=⟨K.toNat,by have:=hk.lo; simp only at this; omega⟩
 have h1:=hk.few;have h2:=hk.hi;simp only at h1 h2;have hplc:hasL key (kvR C k l) = headIs C k key (restR C k key l):=by
  have hs:=hr.srt;have e:=ahead_rest C k key l;have h1:=hasL_split (key:=key) (a:=kvR C k (aheadR C k key l)) (b:=kvR C k (restR C k key l)) (by rw [<- kvR_app,e]; exact hs) kv_ahead kv_rest
  rw [<- kvR_app,e,head_kv] at h1;exact h1
 have h3:=h ((aheadR C k key l).length:Nat);rw [show hasL key (kvT (⟨n,C,k⟩:Tb) l) = headIs C k key (restR C k key l) from hplc] at h3
 exact RPlace_spec (C:=C) (K:=k) (by omega) (by omega) (rows_t hr) hn h3
set_option maxRecDepth 8000 in
set_option maxHeartbeats 8000000 in
theorem RSome_spec {s:SS} {b:Nat} {table after:List UInt8} {most:Int} (hS:DocOk s.l s.R b) (hb:b < 900000) (h:Q (.tup [.sl 1 (rws (someS s table after most).1) false,fI (someS s table after most).2]) []) :
 ACall Tryz.prog 36 0 [sV s,.str table,.str after,fI most] [] Q:=by
 refine ACall.ret (by_body Tryz.func36 0 rfl (nbZ rfl) ?_);have hl:=hS.tbs;have hfew:=hl.few;unfold someS at h
 conv=>whnf
 refine .pure (EvRAt_spec (by omega) ⟨rfl,?_⟩)
 cases ha:atT s.l table with
 | none =>
  rw [ha] at h;rw [atTI_none ha]
  conv=>whnf
  exact ⟨[],rfl,.sub _ _ (.tup (.cons (nils_sl1 false) (VSubs.refl _))) (HSub.refl _) (.done [] rfl h)⟩
 | some i =>
  obtain ⟨t,hti,htn,hil⟩:=atT_get ha;obtain ⟨rs,hRi,hgd,hro,hrb⟩:=hS.get hti;have htk:=hl.tbk (List.mem_of_getElem? hti);have hrl:=rrs_len s.R;have hsl:=rws_len rs;have hlen:=hS.len;have hlt:=tbs_len s.l;rw [ha] at h;simp only [hti,hgd] at h;rw [show atTI s.l table = (i:Int) by unfold atTI atI; rw [show atL (nws s.l) table = some i from ha]]
  conv=>whnf
  rw [show decide ((i:Int) < 0) = false from decide_eq_false (by omega)]
  conv=>whnf
  refine ⟨⟨[1,2,3,4,10,11,12,9],fun k ws H=>∃ p:Nat,ws = [.str table,.str after,fI most,.ptr 0 0,fI i,.ms 1 1 0 ((rs.take p).filter fun r=>Op.bytesLess after (kyT t r)).length false,fI p,fI 0] /\
   H = [.cells (sC s),.buf (rws ((rs.take p).filter fun r=>Op.bytesLess after (kyT t r)))] /\ ((rs.take p).filter fun r=>Op.bytesLess after (kyT t r)).length <= most.toNat /\ p <= rs.length /\ k = rs.length - p,?_,?_⟩⟩
  . exact .frz (rs.length + 1) (.adopt (.sub [.str table,.str after,fI most,.ptr 0 0,fI i,.ms 1 1 0 0 false,fI 0,fI 0] _ (.cons (.refl _) (.cons (.refl _) (.cons (.refl _) (.cons (.refl _) (.cons (.refl _) (.cons (VSub.ms0 1 1 0 false) (VSubs.refl _))))))) (HSub.refl _) (.go [0,1] rfl rs.length (by omega) ⟨0,rfl,rfl,Nat.zero_le _,by omega,rfl⟩)))
  rintro k ws H ⟨p,rfl,rfl,hle,hp,rfl⟩;have hone:∀ r,rs[p]? = some r -> (rs.take (p + 1)).filter (fun r=>Op.bytesLess after (kyT t r)) = (rs.take p).filter (fun r=>Op.bytesLess after (kyT t r)) ++ (if Op.bytesLess after (kyT t r) then [r] else []):=fun r hr=>by
   rw [List.take_add_one,hr,List.filter_append];cases hx:Op.bytesLess after (kyT t r)<;>simp [hx]
  have htm:=take_more (l:=rs) (P:=fun r=>Op.bytesLess after (kyT t r)) (k:=p) (m:=most.toNat) rfl hle
  have hal:((rs.take p).filter fun r=>Op.bytesLess after (kyT t r)).length <= rs.length:=Nat.le_trans (List.length_filter_le _ _) (by rw [List.length_take]; omega)
  generalize hA:(rs.take p).filter (fun r=>Op.bytesLess after (kyT t r)) = A at *
  have hAl:=rws_len A
  conv=>whnf
  refine ⟨_,⟨by omega,rrs_get hRi⟩,?_⟩
  conv=>whnf
  have fin:rs.length <= p \/ most.toNat <= A.length -> Q (.tup [.sl 1 (rws A) false,fI 0]) []:=fun hh=>by rw [htm hh] at h; exact h
  refine branch_i (fun c1=>?_) (fun c1=>?_)<;>try rw [c1]<;>conv=>whnf
  . have c1' := dtZ c1;have hpl:p < rs.length:=by omega
    refine branch_i (fun c2=>?_) (fun c2=>?_)<;>try rw [c2]<;>conv=>whnf
    . have c2' := dtZ c2;have hgp:rs[p]? = some rs[p]:=lgZ hpl;have hrm:=List.getElem_mem hpl;have hone:=hone rs[p] hgp;generalize rs[p] = r at *;refine ⟨[0,1,2,3,4,5,6,7,8,9,10,11,12,13,15,14,16],by kernel_rfl,by kernel_rfl,?_⟩
      conv=>whnf
      refine ⟨_,⟨by omega,tbs_get hti⟩,?_⟩
      conv=>whnf
      refine ⟨_,⟨by omega,rrs_get hRi⟩,?_⟩
      conv=>whnf
      refine ⟨_,⟨by omega,rws_some hgp⟩,?_⟩
      conv=>whnf
      refine .pure (RKey10T_spec (t:=t) (r:=r) (f:=false) htk (rows_t hro r hrm) ⟨rfl,?_⟩);generalize kyT t r = key at *
      repeat (conv=>whnf
              first | (refine ⟨rfl,?_⟩) | (refine ⟨⟨_,⟨by omega,tbs_get hti⟩,rfl⟩,?_⟩) | (refine ⟨⟨_,⟨by omega,rrs_get hRi⟩,rfl⟩,?_⟩) | (refine ⟨⟨_,⟨by omega,rws_some hgp⟩,rfl⟩,?_⟩))
      conv=>whnf
      rw [gt_eq];cases hb:Op.bytesLess after key<;>rw [hb] at hone<;>conv=>whnf
      . simp only [Bool.false_eq_true,if_false,List.append_nil] at hone;refine .go [0,1] rfl (rs.length - (p + 1)) (by omega) ⟨p + 1,?_,by rw [hone]; rfl,by rw [hone]; exact hle,by omega,rfl⟩
        show [V.str table,.str after,fI most,.ptr 0 0,fI i,.ms 1 1 0 A.length false,.int .i64 (IntKind.i64.wrap ((p:Int) + 1)),fI 0] = _
        rw [wrapE (by omega),hone]; rfl
      . simp only [if_true] at hone;refine ⟨_,⟨by omega,rrs_get hRi⟩,?_⟩
        conv=>whnf
        refine ⟨_,⟨by omega,rws_some hgp⟩,?_⟩
        conv=>whnf
        refine ⟨Nat.le_refl 1,?_⟩;refine app_gen (X:=rws A) (ys:=[[fR r]]) rfl rfl hAl.symm (show ((rws A).length + 1) * 24 <= 70368744177664 by omega) ?_
        conv=>whnf
        refine .go [0,3] rfl (rs.length - (p + 1)) (by omega) ⟨p + 1,?_,?_,?_,by omega,rfl⟩
        . show [V.str table,.str after,fI most,.ptr 0 0,fI i,.ms 1 1 0 ((rws A).length + 1) false,.int .i64 (IntKind.i64.wrap ((p:Int) + 1)),fI 0] = _
          rw [wrapE (by omega),hone,hAl,laZ]; rfl
        . rw [hone,rws_app]; rfl
        . rw [hone,laZ,List.length_singleton]; omega
    . have c2' := dfZ c2;have fin:=fin (.inr (by omega))
      exact ⟨[1],rfl,.frz 0 rfl (And.intro (by omega) trivial) (.sub _ [.dead] (.tup (.cons (VSub.eq (congrArg (fun z=>V.sl 1 z false) (show List.take A.length (List.drop 0 (rws A)) = rws A by rw [List.drop_zero,<- hAl,List.take_length]))) (VSubs.refl _))) (HSub.refl _) (.done [] rfl fin))⟩
  . have c1' := dfZ c1;have fin:=fin (.inl (by omega))
    exact ⟨[1],rfl,.frz 0 rfl (And.intro (by omega) trivial) (.sub _ [.dead] (.tup (.cons (VSub.eq (congrArg (fun z=>V.sl 1 z false) (show List.take A.length (List.drop 0 (rws A)) = rws A by rw [List.drop_zero,<- hAl,List.take_length]))) (VSubs.refl _))) (HSub.refl _) (.done [] rfl fin))⟩
end
section
variable {Q:V -> List O -> Prop}
theorem ddin_row {k:Int} {t:List UInt8} {C:List Col} {d:Dd} (hd:DdIn d):DdIn ⟨k,t,rowL C d.r⟩:=⟨textsOk_row C d.r,rowL_n hd.n⟩
theorem ddin_take {k:Int} {t:List UInt8} {C:List Col} {d:Dd} (hd:DdIn d) (n:Nat):DdIn ⟨k,t,(rowL C d.r).take n⟩ :=
 ⟨fun v hv=>textsOk_row C d.r v (List.mem_of_mem_take hv),fun v hv=>rowL_n hd.n v (List.mem_of_mem_take hv)⟩
set_option maxRecDepth 8000 in
set_option maxHeartbeats 16000000 in
theorem RGood10_spec {s:SS} {d:Dd} {b:Nat} (hS:DocOk s.l s.R b) (hb:b <= 900000) (hd:DdIn d) (h:∀ d', DdIn d' -> Q (ddA d') []) :
 ACall Tryz.prog 39 0 [sV s,ddA d] [] Q:=by
 refine by_body Tryz.func39 0 rfl (nbZ rfl) ?_;have hl:=hS.tbs;have hcl:=hl.cols;have hfew:=hl.few;have hlt:=tbs_len s.l;have hrl:=rrs_len s.R;have hlen:=hS.len;have hself:=h d hd
 conv=>whnf
 refine .pure (EvRAt_spec (by omega) ⟨rfl,?_⟩)
 cases ha:atT s.l d.t with
 | none =>
  rw [atTI_none ha]
  conv=>whnf
  refine branch_i (fun c1=>?_) (fun c1=>?_)<;>try rw [c1]<;>conv=>whnf
  focus
   have c1' := dtZ c1;refine ⟨by omega,?_⟩
   conv=>whnf
   have hmod:=Int.tmod_lt_of_pos (IntKind.i64.wrap ((d.t.length:Int) + ((vals d.r).length:Int))) (show (0:Int) < ((tbs s.l).length:Int) by omega)
   generalize (IntKind.i64.wrap ((d.t.length:Int) + ((vals d.r).length:Int))).tmod ((tbs s.l).length:Int) = j at *;by_cases hj:j < 0
   focus
    rw [show decide (j < 0) = true from decide_eq_true hj]
    conv=>whnf
    exact ⟨[],rfl,hself⟩
   obtain ⟨i,rfl⟩:∃ i:Nat,j = i:=⟨j.toNat,by omega⟩
   rw [show decide ((i:Int) < 0) = false from decide_eq_false hj]
   conv=>whnf
   have hil:i < s.l.length:=by omega
   have hti:s.l[i]? = some s.l[i]:=lgZ hil;generalize s.l[i] = t at hti
  rotate_left
  focus
   exact ⟨[],rfl,hself⟩
  refine ⟨_,⟨by omega,tbs_get hti⟩,?_⟩
  conv=>whnf
  obtain ⟨rs,hRi,hgd,hro,hrb⟩:=hS.get hti;have hil2:=(liZ.1 hRi).1;have htk:=hl.tbk (List.mem_of_getElem? hti);have hki:=kinds_i64 (may_ok (hl.ok.each t (List.mem_of_getElem? hti)).sch);have hrow:DdIn ⟨0,t.n,rowL t.c d.r⟩:=ddin_row hd;have hfin1:∀ k:Int,Q (.agg [fI k,.str t.n,.sl 3 (vals (rowL t.c d.r)) false]) []:=fun k=>h ⟨k,t.n,rowL t.c d.r⟩ (ddin_row hd)
  have hfin2:∀ k:Int,Q (.agg [fI k,.str t.n,.sl 3 (List.take t.k.toNat (List.drop 0 (vals (rowL t.c d.r)))) false]) []:=fun k=>by
   have:=h ⟨k,t.n,(rowL t.c d.r).take t.k.toNat⟩ (ddin_take hd _);unfold ddA at this;rw [show vals ((rowL t.c d.r).take t.k.toNat) = List.take t.k.toNat (List.drop 0 (vals (rowL t.c d.r))) by simp [vals,List.map_take]] at this
   exact this
  refine ⟨List.range 15,by kernel_rfl,by kernel_rfl,?_⟩
  conv=>whnf
  refine ⟨_,⟨by omega,tbs_get hti⟩,?_⟩
  conv=>whnf
  refine .pure (Row_spec (l:=t.c) (keys:=t.k) (vs:=d.r) (f:=false) (by have:=htk.few; omega) hki ⟨rfl,?_⟩)
  have hrlen:=rowL_len t.c d.r;generalize hX:rowL t.c d.r = X at *;have hvl:=vals_len X;have htk1:=htk.lo;have htk2:=htk.hi
  repeat (conv=>whnf
          first | (refine ⟨rfl,?_⟩) | (refine ⟨⟨_,⟨by omega,tbs_get hti⟩,rfl⟩,?_⟩))
  conv=>whnf
  refine ⟨List.range 16,by kernel_rfl,by kernel_rfl,?_⟩
  conv=>whnf
  refine ⟨_,⟨by omega,rrs_get hRi⟩,?_⟩
  conv=>whnf
  refine .pure (RKey10T_spec (t:=t) (r:=X) (f:=false) htk hrow.t ⟨rfl,?_⟩)
  repeat (conv=>whnf
          first | (refine ⟨rfl,?_⟩) | (refine ⟨⟨_,⟨by omega,rrs_get hRi⟩,rfl⟩,?_⟩))
  conv=>whnf
  refine .pure (RPlaceT_spec (t:=t) (l:=rs) (key:=kyT t X) (f:=false) htk hro (by omega) fun np=>⟨rfl,?_⟩)
  generalize hasL (kyT t X) (kvT t rs) = has at *
  repeat (conv=>whnf
          first | (refine ⟨rfl,?_⟩) | (refine ⟨⟨_,⟨by omega,rrs_get hRi⟩,rfl⟩,?_⟩))
  have hkk:d.k < 1 \/ 3 < d.k \/ d.k = 1 \/ d.k = 2 \/ d.k = 3:=by omega
  rcases hkk with e | e | e | e | e<;>cases has
  all_goals
   repeat (conv=>whnf
           first
            | rw [show decide (d.k < 1) = true from decide_eq_true (by omega)]
            | rw [show decide (d.k < 1) = false from decide_eq_false (by omega)]
            | rw [show decide (d.k > 3) = true from decide_eq_true (by omega)]
            | rw [show decide (d.k > 3) = false from decide_eq_false (by omega)]
            | rw [show decide (d.k = 1) = true from decide_eq_true (by omega)]
            | rw [show decide (d.k = 1) = false from decide_eq_false (by omega)]
            | rw [show decide (d.k = 3) = true from decide_eq_true (by omega)]
            | rw [show decide (d.k = 3) = false from decide_eq_false (by omega)]
            | (refine ⟨⟨by omega,by omega⟩,?_⟩))
   first
    | exact ⟨[],rfl,hfin1 _⟩
    | exact ⟨[],rfl,hfin2 _⟩
 | some i =>
  obtain ⟨t,hti,htn,hil⟩:=atT_get ha;rw [show atTI s.l d.t = (i:Int) by unfold atTI atI; rw [show atL (nws s.l) d.t = some i from ha]]
  conv=>whnf
  rw [show decide ((i:Int) < 0) = false from decide_eq_false (by omega)]
  conv=>whnf
  refine ⟨_,⟨by omega,tbs_get hti⟩,?_⟩
  conv=>whnf
  obtain ⟨rs,hRi,hgd,hro,hrb⟩:=hS.get hti;have hil2:=(liZ.1 hRi).1;have htk:=hl.tbk (List.mem_of_getElem? hti);have hki:=kinds_i64 (may_ok (hl.ok.each t (List.mem_of_getElem? hti)).sch);have hrow:DdIn ⟨0,t.n,rowL t.c d.r⟩:=ddin_row hd;have hfin1:∀ k:Int,Q (.agg [fI k,.str t.n,.sl 3 (vals (rowL t.c d.r)) false]) []:=fun k=>h ⟨k,t.n,rowL t.c d.r⟩ (ddin_row hd)
  have hfin2:∀ k:Int,Q (.agg [fI k,.str t.n,.sl 3 (List.take t.k.toNat (List.drop 0 (vals (rowL t.c d.r)))) false]) []:=fun k=>by
   have:=h ⟨k,t.n,(rowL t.c d.r).take t.k.toNat⟩ (ddin_take hd _);unfold ddA at this;rw [show vals ((rowL t.c d.r).take t.k.toNat) = List.take t.k.toNat (List.drop 0 (vals (rowL t.c d.r))) by simp [vals,List.map_take]] at this
   exact this
  refine ⟨List.range 15,by kernel_rfl,by kernel_rfl,?_⟩
  conv=>whnf
  refine ⟨_,⟨by omega,tbs_get hti⟩,?_⟩
  conv=>whnf
  refine .pure (Row_spec (l:=t.c) (keys:=t.k) (vs:=d.r) (f:=false) (by have:=htk.few; omega) hki ⟨rfl,?_⟩)
  have hrlen:=rowL_len t.c d.r;generalize hX:rowL t.c d.r = X at *;have hvl:=vals_len X;have htk1:=htk.lo;have htk2:=htk.hi
  repeat (conv=>whnf
          first | (refine ⟨rfl,?_⟩) | (refine ⟨⟨_,⟨by omega,tbs_get hti⟩,rfl⟩,?_⟩))
  conv=>whnf
  refine ⟨List.range 16,by kernel_rfl,by kernel_rfl,?_⟩
  conv=>whnf
  refine ⟨_,⟨by omega,rrs_get hRi⟩,?_⟩
  conv=>whnf
  refine .pure (RKey10T_spec (t:=t) (r:=X) (f:=false) htk hrow.t ⟨rfl,?_⟩)
  repeat (conv=>whnf
          first | (refine ⟨rfl,?_⟩) | (refine ⟨⟨_,⟨by omega,rrs_get hRi⟩,rfl⟩,?_⟩))
  conv=>whnf
  refine .pure (RPlaceT_spec (t:=t) (l:=rs) (key:=kyT t X) (f:=false) htk hro (by omega) fun np=>⟨rfl,?_⟩)
  generalize hasL (kyT t X) (kvT t rs) = has at *
  repeat (conv=>whnf
          first | (refine ⟨rfl,?_⟩) | (refine ⟨⟨_,⟨by omega,rrs_get hRi⟩,rfl⟩,?_⟩))
  have hkk:d.k < 1 \/ 3 < d.k \/ d.k = 1 \/ d.k = 2 \/ d.k = 3:=by omega
  rcases hkk with e | e | e | e | e<;>cases has
  all_goals
   repeat (conv=>whnf
           first
            | rw [show decide (d.k < 1) = true from decide_eq_true (by omega)]
            | rw [show decide (d.k < 1) = false from decide_eq_false (by omega)]
            | rw [show decide (d.k > 3) = true from decide_eq_true (by omega)]
            | rw [show decide (d.k > 3) = false from decide_eq_false (by omega)]
            | rw [show decide (d.k = 1) = true from decide_eq_true (by omega)]
            | rw [show decide (d.k = 1) = false from decide_eq_false (by omega)]
            | rw [show decide (d.k = 3) = true from decide_eq_true (by omega)]
            | rw [show decide (d.k = 3) = false from decide_eq_false (by omega)]
            | (refine ⟨⟨by omega,by omega⟩,?_⟩))
   first
    | exact ⟨[],rfl,hfin1 _⟩
    | exact ⟨[],rfl,hfin2 _⟩
end
section
variable {Q:V -> List O -> Prop}
theorem doR_snoc {l:List Tb} {d:Dd}:∀ {ds:List Dd} {R R' : List (List Rw)},doR l R ds = (R', 0) -> ddErr l R' d = 0 -> doR l R (ds ++ [d]) = (ddR l R' d,0)
 | [],R,R', h,hd=>by
  cases h;exact doR_ok [] hd
 | e :: ds,R,R', h,hd=>by
  by_cases he:ddErr l R e = 0
  . rw [doR_ok ds he] at h;rw [List.cons_append,doR_ok _ he];exact doR_snoc h hd
  . have:doR l R (e :: ds) = (R,ddErr l R e):=if_neg he;rw [this] at h;exact absurd (Prod.mk.inj h).2 he
theorem dds_snoc (l:List Dd) (d:Dd):dds (l ++ [d]) = dds l ++ [ddC d]:=by simp [dds]
def gdsInv (s:SS) (ds:List Dd) (f:Bool) (b:Nat) (k:Nat) (ws:List V) (H:List O):Prop :=
 ∃ (i:Nat) (R' : List (List Rw)) (acc:List Dd),ws = [.sl 3 (dds ds) f,fI 6,.ptr 0 0,.ms 3 1 0 acc.length false,fI i] /\ H = [.cells (sC { s with R:=R' }),.buf (dds acc)] /\
  DocOk s.l R' (b + i) /\ doR s.l s.R acc = (R', 0) /\ (∀ d ∈ acc,DdIn d) /\ acc.length <= i /\ i <= 6 /\ i <= ds.length /\ k = ds.length - i
set_option maxRecDepth 8000 in
set_option maxHeartbeats 16000000 in
theorem RGoods_spec {s:SS} {ds:List Dd} {f:Bool} {b:Nat} (hS:DocOk s.l s.R b) (hb:b < 800000) (hd:∀ d ∈ ds,DdIn d)
 (h:∀ acc:List Dd,(doR s.l s.R acc).2 = 0 -> (∀ d ∈ acc,DdIn d) -> acc.length <= 6 -> Q (.ms 3 0 0 acc.length false) [.buf (dds acc)]) :
 ACall Tryz.prog 19 0 [sV s,.sl 3 (dds ds) f,fI 6] [] Q:=by
 refine by_body Tryz.func19 0 rfl (nbZ rfl) ?_;have hl:=hS.tbs;have hdl:=dds_len ds
 conv=>whnf
 refine ⟨⟨[1,2,3,7,8],gdsInv s ds f b,?_,?_⟩⟩
 . exact .frz (ds.length + 1) (.adopt (.sub [.sl 3 (dds ds) f,fI 6,.ptr 0 0,.ms 3 1 0 0 false,fI 0] _ (.cons (.refl _) (.cons (.refl _) (.cons (.refl _) (.cons (VSub.ms0 3 1 0 false) (VSubs.refl _))))) (HSub.refl _) (.go [0,1] rfl ds.length (by omega) ⟨0,s.R,[],rfl,rfl,hS,rfl,by simp,by simp,by omega,by omega,rfl⟩)))
 rintro k ws H ⟨i,R', acc,rfl,rfl,hD,hdo,hin,hac,hi6,hi,rfl⟩;have hal:(dds acc).length = acc.length:=by simp [dds]
 have fin:=h acc (by rw [hdo]) hin (by omega)
 conv=>whnf
 refine branch_i (fun c1=>?_) (fun c1=>?_)<;>try rw [c1]<;>conv=>whnf
 rotate_left
 . exact ⟨[1],rfl,fin⟩
 have c1' := dtZ c1;have hil:i < ds.length:=by omega
 refine branch_i (fun c2=>?_) (fun c2=>?_)<;>try rw [c2]<;>conv=>whnf
 rotate_left
 . exact ⟨[1],rfl,fin⟩
 have c2' := dtZ c2;have hg:ds[i]? = some ds[i]:=lgZ hil;have hdi:=hd ds[i] (List.getElem_mem hil);generalize ds[i] = d at *;refine ⟨List.range 8,by kernel_rfl,by kernel_rfl,?_⟩
 conv=>whnf
 refine ⟨_,⟨by omega,dds_get hg⟩,?_⟩
 conv=>whnf
 refine .pure (RGood10_spec (s:={ s with R:=R' }) (d:=d) hD (by omega) hdi fun d' hd' => ⟨rfl,?_⟩)
 repeat (conv=>whnf
         first | (refine ⟨rfl,?_⟩) | (refine ⟨⟨_,⟨by omega,dds_get hg⟩,rfl⟩,?_⟩))
 conv=>whnf
 refine .pure (RDeed_spec (s:={ s with R:=R' }) (d:=d') hD (by omega) hd'.t ⟨rfl,?_⟩)
 by_cases he:ddErr s.l R' d' = 0
 . rw [show deedS { s with R:=R' } d' = ({ s with R:=ddR s.l R' d' },ddE d', 0) from if_pos he]
   have hD' := hD.deed he;have hsn:=doR_snoc hdo he;generalize ddR s.l R' d' = R2 at *;generalize ddE d' = e at *
   conv=>whnf
   refine ⟨Nat.le_refl 1,?_⟩;refine app_gen (X:=dds acc) (ys:=[ddC d']) rfl rfl hal.symm (show ((dds acc).length + 1) * 48 <= 70368744177664 by omega) ?_
   conv=>whnf
   refine .go [0,6] rfl (ds.length - (i + 1)) (by omega) ⟨i + 1,R2,acc ++ [d'],?_,?_,hD', hsn,fun x hx=>?_,by rw [laZ,List.length_singleton]; omega,by omega,by omega,rfl⟩
   . show [V.sl 3 (dds ds) f,fI 6,.ptr 0 0,.ms 3 1 0 ((dds acc).length + 1) false,.int .i64 (IntKind.i64.wrap ((i:Int) + 1))] = _
     rw [wrapE (by omega),hal,laZ]; rfl
   . rw [dds_snoc]; rfl
   . rcases List.mem_append.1 hx with hx | hx
     . exact hin x hx
     . rw [List.mem_singleton.1 hx]; exact hd'
 . rw [show deedS { s with R:=R' } d' = ({ s with R:=R' },evtZ,ddErr s.l R' d') from if_neg he]
   generalize hgen:ddErr s.l R' d' = er at *
   conv=>whnf
   rw [show decide (er = 0) = false from decide_eq_false he]
   conv=>whnf
   refine .go [0,1] rfl (ds.length - (i + 1)) (by omega) ⟨i + 1,R', acc,?_,rfl,⟨hD.tbs,hD.len,fun i t rs h1 h2=>⟨(hD.rows i t rs h1 h2).1,Nat.le_succ_of_le (hD.rows i t rs h1 h2).2⟩⟩,hdo,hin,by omega,by omega,by omega,rfl⟩
   show [V.sl 3 (dds ds) f,fI 6,.ptr 0 0,.ms 3 1 0 acc.length false,.int .i64 (IntKind.i64.wrap ((i:Int) + 1))] = _
   rw [wrapE (by omega)]; rfl
end
section
variable {Q:V -> List O -> Prop}
theorem Name10_spec {s:List UInt8} (h:Q (.str (s.take 40)) []):ACall Tryz.prog 51 0 [.str s] [] Q:=by
 refine by_body Tryz.func51 0 rfl (nbZ rfl) ?_
 conv=>whnf
 refine branch_i (fun c=>?_) (fun c=>?_)<;>try rw [c]<;>conv=>whnf
 . have c' := dtZ c;refine ⟨⟨by omega,by omega⟩,?_⟩
   conv=>whnf
   exact ⟨[],rfl,h⟩
 . have c' := dfZ c;rw [List.take_of_length_le (by omega)] at h
   exact ⟨[],rfl,h⟩
def chg10 (c:Chg):Chg :=
 if c.k = 1 then ⟨c.k,c.t.take 40,goodL nameOk (c.c.take 6) c.ks,goodK nameOk (c.c.take 6) c.ks,⟨c.col.n.take 40,c.col.k,c.col.o⟩⟩
 else ⟨c.k,c.t.take 40,c.c.take 6,c.ks,⟨c.col.n.take 40,c.col.k,c.col.o⟩⟩
theorem cols_take' (l:List Col) (n:Nat):List.take n (cols l) = cols (l.take n):=by simp [cols,List.map_take]
theorem min6 (L:Nat):∃ n:Nat,(if (6:Int) < (L:Int) then (6:Int) else (L:Int)) = (n:Int) /\ n = min 6 L:=by
 split
 . exact ⟨6,rfl,by omega⟩
 . exact ⟨L,rfl,by omega⟩
set_option maxRecDepth 8000 in
set_option maxHeartbeats 8000000 in
theorem Change10_spec {c:Chg} (hks:I64 c.ks) (h:Q (chA (chg10 c)) []):ACall Tryz.prog 31 0 [chA c] [] Q:=by
 refine by_body Tryz.func31 0 rfl (nbZ rfl) ?_;have hcl:=cols_len c.c;unfold chg10 at h
 conv=>whnf
 refine .pure (Name10_spec ⟨rfl,?_⟩)
 conv=>whnf
 refine .pure (Name10_spec ⟨rfl,?_⟩)
 conv=>whnf
 refine ⟨List.range 15,by kernel_rfl,by kernel_rfl,?_⟩
 conv=>whnf
 obtain ⟨n,hn,hn2⟩:=min6 (cols c.c).length;rw [hn];have hT:List.take n (cols c.c) = cols (c.c.take 6):=by
  rw [hn2,hcl,<- cols_take'];rcases Nat.le_total 6 c.c.length with h6 | h6
  . rw [Nat.min_eq_left h6]
  . rw [Nat.min_eq_right h6,List.take_of_length_le (by omega),List.take_of_length_le (by omega)]
 have hb0:(0:Int) <= (n:Int) /\ (n:Int) <= ((cols c.c).length:Int):=⟨by omega,by omega⟩
 refine ⟨hb0,?_⟩
 conv=>whnf
 repeat (refine ⟨rfl,?_⟩
         conv=>whnf)
 by_cases h1:c.k = 1
 . rw [show decide (c.k = 1) = true from decide_eq_true h1]
   rw [if_pos h1] at h
   conv=>whnf
   refine .pure (ACall.args («as»:=[.agg [.sl 3 (List.take n (cols c.c)) false,fI c.ks]]) (.cons (VSub.eq (by rw [hT]; rfl)) .nil) (RGood_spec (l:=c.c.take 6) (keys:=c.ks) hks ⟨rfl,?_⟩))
   conv=>whnf
   exact ⟨[],rfl,h⟩
 . rw [show decide (c.k = 1) = false from decide_eq_false h1]
   rw [if_neg h1] at h
   conv=>whnf
   refine ⟨[],rfl,?_⟩;show Q (.agg [fI c.k,.str (c.t.take 40),.sl 3 (List.take n (cols c.c)) false,fI c.ks,.str (c.col.n.take 40),fI c.col.k,.bool c.col.o]) []
   rw [hT];exact h
end
section
variable {Q:V -> List O -> Prop}
structure Ask where
 k:Int
 ds:List Dd
 ch:Chg
 after:List UInt8
 n:Int
def askC (a:Ask):List V:=[fI a.k,.sl 3 (dds a.ds) false,fI a.ch.k,.str a.ch.t,.sl 3 (cols a.ch.c) false,fI a.ch.ks,.str a.ch.col.n,fI a.ch.col.k,.bool a.ch.col.o,.str a.after,fI a.n]
def askA (a:Ask):V:=.agg (askC a)
def asksL (l:List Ask):List (List V):=l.map askC
theorem asksL_len (l:List Ask):(asksL l).length = l.length:=by simp [asksL]
theorem asksL_get {l:List Ask} {i:Nat} {a:Ask} (h:l[i]? = some a):(asksL l)[i]? = some (askC a):=by simp [asksL,h]
structure AskIn (a:Ask):Prop where
 ds:∀ d ∈ a.ds,DdIn d
 n:I64 a.n
 ks:I64 a.ch.ks
 ck:∀ c ∈ a.ch.c,I64 c.k
inductive AskS (a:Ask) (s:SS):SS -> Prop
 | same:AskS a s s
 | tx (ds:List Dd) (u:Bool):(∀ d ∈ ds,DdIn d) -> ds.length <= 6 -> (u = false -> a.k = 0 \/ a.k = 5) -> AskS a s (doS s ds u).1
 | alt (c:Chg):a.k = 2 -> c.c.length < 9223372036854775808 -> AskS a s (alterS s c).1
 | mark (hi:Bool):AskS a s (markS s hi a.n).1
theorem goodL_len {l:List Col} {k:Int} (hl:∀ c ∈ l,I64 c.k) (hk:I64 k):(goodL nameOk l k).length <= 16:=(good_ok hl hk).most
theorem chg10_len {c:Chg} (hl:∀ d ∈ c.c,I64 d.k) (hk:I64 c.ks):(chg10 c).c.length < 9223372036854775808:=by
 unfold chg10;split
 . have:=goodL_len (l:=c.c.take 6) (k:=c.ks) (fun d hd=>hl d (List.mem_of_mem_take hd)) hk
   simp only; omega
 . simp only [List.length_take]; omega
theorem RGoodsF_spec {s:SS} {ds:List Dd} {f:Bool} {b:Nat} (hS:DocOk s.l s.R b) (hb:b < 800000) (hd:∀ d ∈ ds,DdIn d)
 (h:∀ acc:List Dd,(doR s.l s.R acc).2 = 0 -> (∀ d ∈ acc,DdIn d) -> acc.length <= 6 -> Q (.sl 3 (dds acc) false) []) :
 ACall Tryz.prog 19 0 [sV s,.sl 3 (dds ds) f,fI 6] [] Q :=
 ACall.ret (RGoods_spec hS hb hd fun acc h1 h2 h3=>.frz_ms (id:=0) (es:=dds acc) rfl (dds_len acc).symm trivial (.done [] rfl (h acc h1 h2 h3)))
theorem dds_take (l:List Dd) (n:Nat):List.take n (dds l) = dds (l.take n):=by simp [dds,List.map_take]
theorem SMarkS_spec {s:SS} {L:List Trw} {c:Nat} {b:Nat} {hi:Bool} {k:Int} (hS:SrcOk s L b) (hk:I64 k) (hs:s.log.length + 1000020 <= 800000000)
 (h:SrcOk (markS s hi k).1 L b -> Q (fI (markS s hi k).2) (srcS (markS s hi k).1 L c)):ACall Tryz.prog 35 2 [.ptr 0 0,.bool hi,fI k] (srcS s L c) Q:=by
 refine SMark_spec hS.rs.tbs hk hs ?_;unfold markS at h;by_cases h0:k < 0
 . rw [if_pos h0] at h;rw [if_pos h0,if_pos h0];exact h hS
 . rw [if_neg h0] at h;rw [if_neg h0,if_neg h0];exact h ⟨hS.rs,hS.nd,hS.dom⟩
theorem someS_small {s:SS} {L:List Trw} {b:Nat} (hS:SrcOk s L b) (table after:List UInt8) (most:Int):(someS s table after most).1.length <= b /\ ∀ r ∈ (someS s table after most).1,r.length < 1000000:=by
 unfold someS;rcases hS.look table with ⟨_,h1⟩ | ⟨i,t,rs,T', m', a1,a2,a3,a4,a5,a6,a7,a8⟩
 . rw [h1]; exact ⟨Nat.zero_le _,fun r hr=>by simp at hr⟩
 . rw [a1];simp only [a2,a3];refine ⟨?_,fun r hr=>?_⟩
   . have h1:=a6.fewr;have h2:=List.length_filter_le (fun r=>Op.bytesLess after (kyT t r)) rs
     rw [List.length_take]; omega
   . have:=fits_len' (a7.fit r (List.mem_filter.1 (List.mem_of_mem_take hr)).1);have:=a8.few;omega
set_option maxRecDepth 8000 in
set_option maxHeartbeats 16000000 in
theorem asks_spec {s:SS} {L:List Trw} {c:Nat} {b:Nat} {a:Ask} (hS:SrcOk s L b) (hB:SrcB s 1000) (ha:AskIn a) (hb:b < 800000) (hs:s.log.length + 1000020 * 8 <= 700000000)
 (h:∀ s' L' c', AskS a s s' -> SrcOk s' L' (b + 6) -> Q (.tup [sV s', .bool true]) (srcS s' L' c')) :
 ACall Tryz.prog 11 2 [.ptr 0 0,sV s,askA a] (srcS s L c) Q:=by
 refine by_body Tryz.func11 2 rfl (nbZ rfl) ?_;have hD:=hS.rs.doc;have hl:=hS.rs.tbs;have hdl:=dds_len a.ds;have hBB:SrcB s 1000000:=⟨hB.n0,by have:=hB.n1; omega,hB.m0,by have:=hB.m1; omega⟩
 conv=>whnf
 obtain ⟨n,hn,hn2⟩:=min6 (dds a.ds).length;rw [hn];have hT:List.take n (dds a.ds) = dds (a.ds.take 6):=by
  rw [hn2,hdl,<- dds_take];rcases Nat.le_total 6 a.ds.length with h6 | h6
  . rw [Nat.min_eq_left h6]
  . rw [Nat.min_eq_right h6,List.take_of_length_le (by omega),List.take_of_length_le (by omega)]
 have hb0:(0:Int) <= (n:Int) /\ (n:Int) <= ((dds a.ds).length:Int):=⟨by omega,by omega⟩
 refine ⟨hb0,?_⟩
 conv=>whnf
 have dolen:∀ ds:List Dd,ds.length <= 6 -> s.log.length + 1000020 * (ds.length + 2) <= 700000000:=fun ds h6=>Nat.le_trans (Nat.add_le_add_left (Nat.mul_le_mul_left _ (show ds.length + 2 <= 8 by omega)) _) hs
 have up7:(700000000:Nat) <= 800000000:=by decide
 by_cases h5:a.k = 5
 . have hds:∀ d ∈ a.ds.take 6,DdIn d:=fun d hd=>ha.ds d (List.mem_of_mem_take hd)
   have hd6:(a.ds.take 6).length <= 6:=by rw [List.length_take]; omega
   have h:=fun L' c' => h (doS s (a.ds.take 6) false).1 L' c' (.tx _ false hds hd6 fun _=>.inr h5)
   rw [show decide (a.k = 5) = true from decide_eq_true h5]
   conv=>whnf
   rw [show decide (a.k = 0) = false from decide_eq_false (by omega)]
   conv=>whnf
   rw [show decide (a.k = 5) = true from decide_eq_true h5]
   conv=>whnf
   refine .pure (ACall.args («as»:=[sV s,.sl 3 (List.take n (dds a.ds)) false,.bool false]) (.cons (.refl _) (.cons (VSub.eq (by rw [hT])) (VSubs.refl _))) (RDo_spec (u:=false) (f:=false) hD hBB hds (by omega) hb (dolen _ hd6) ⟨rfl,?_⟩))
   have hdo:=fun Q' hh=>Do_spec (Q:=Q') (c:=c) (f:=false) hS hBB hds (by omega) (by omega) (Nat.le_trans (dolen _ hd6) up7) hh
   generalize (doS s (a.ds.take 6) false) = r at *
   conv=>whnf
   refine ⟨[0,1,2,4,3,5,6,7],by kernel_rfl,by kernel_rfl,?_⟩
   conv=>whnf
   refine .call [0,1] 2 ⟨rfl,rfl,rfl⟩ (ACall.args («as»:=[.ptr 0 0,.sl 3 (List.take n (dds a.ds)) false]) (.cons (.refl _) (.cons (VSub.eq (by rw [hT])) .nil)) (hdo _ fun L' c' hok=>?_))
   repeat (conv=>whnf
           refine ⟨rfl,?_⟩)
   conv=>whnf
   refine ⟨[0,1],rfl,?_⟩;rw [show decide (r.2 = r.2) = true from decide_eq_true rfl]
   exact h L' c' (hok.mono (by omega))
 rw [show decide (a.k = 5) = false from decide_eq_false h5]
 conv=>whnf
 refine .pure (ACall.args («as»:=[sV s,.sl 3 (List.take n (dds a.ds)) false,fI 6]) (.cons (.refl _) (.cons (VSub.eq (by rw [hT])) (VSubs.refl _))) (RGoodsF_spec (f:=false) hD hb (fun d hd=>ha.ds d (List.mem_of_mem_take hd)) fun acc hok0 hds hd6=>⟨rfl,?_⟩))
 conv=>whnf
 by_cases h0:a.k = 0
 . have h:=fun L' c' => h (doS s acc false).1 L' c' (.tx _ false hds hd6 fun _=>.inl h0)
   rw [show decide (a.k = 0) = true from decide_eq_true h0]
   conv=>whnf
   refine .pure (RDo_spec (u:=false) (f:=false) hD hBB hds (by omega) hb (dolen _ hd6) ⟨rfl,?_⟩)
   have hdo:=fun Q' hh=>Do_spec (Q:=Q') (c:=c) (f:=false) hS hBB hds (by omega) (by omega) (Nat.le_trans (dolen _ hd6) up7) hh
   generalize (doS s acc false) = r at *
   conv=>whnf
   refine ⟨[0,1,2,4,3,5,6,7],by kernel_rfl,by kernel_rfl,?_⟩
   conv=>whnf
   refine .call [0,1] 2 ⟨rfl,rfl,rfl⟩ (hdo _ fun L' c' hok=>?_)
   repeat (conv=>whnf
           refine ⟨rfl,?_⟩)
   conv=>whnf
   refine ⟨[0,1],rfl,?_⟩;rw [show decide (r.2 = r.2) = true from decide_eq_true rfl]
   exact h L' c' (hok.mono (by omega))
 rw [show decide (a.k = 0) = false from decide_eq_false h0]
 conv=>whnf
 rw [show decide (a.k = 5) = false from decide_eq_false h5]
 conv=>whnf
 by_cases h1:a.k = 1
 . have h:=h (doS s acc true).1 L c (.tx _ true hds hd6 fun hx=>by cases hx)
   rw [show decide (a.k = 1) = true from decide_eq_true h1]
   conv=>whnf
   refine .pure (RDo_spec (u:=true) (f:=false) hD hBB hds (by omega) hb (dolen _ hd6) ⟨rfl,?_⟩)
   have hdo:=fun Q' hh=>Undo_spec (Q:=Q') (c:=c) (f:=false) hS hBB hds (by omega) (by omega) (Nat.le_trans (dolen _ hd6) up7) hh
   generalize (doS s acc true) = r at *
   conv=>whnf
   refine ⟨[0,1,2,4,3,5,6,7],by kernel_rfl,by kernel_rfl,?_⟩
   conv=>whnf
   refine .call [0,1] 2 ⟨rfl,rfl,rfl⟩ (hdo _ fun hok=>?_)
   repeat (conv=>whnf
           refine ⟨rfl,?_⟩)
   conv=>whnf
   refine ⟨[0,1],rfl,?_⟩;rw [show decide (r.2 = r.2) = true from decide_eq_true rfl]
   exact h (hok.mono (by omega))
 rw [show decide (a.k = 1) = false from decide_eq_false h1]
 conv=>whnf
 by_cases h2:a.k = 2
 . have hcl:=chg10_len ha.ck ha.ks;have h:=fun L' c' => h (alterS s (chg10 a.ch)).1 L' c' (.alt _ h2 hcl)
   rw [show decide (a.k = 2) = true from decide_eq_true h2]
   conv=>whnf
   refine .pure (Change10_spec (c:=a.ch) ha.ks ⟨rfl,?_⟩);generalize chg10 a.ch = ch at *
   conv=>whnf
   refine .pure (RAlter_spec hD hBB hcl hb (by omega) ⟨rfl,?_⟩)
   have hdo:=fun Q' hh=>SAlter_spec (Q:=Q') (c:=c) hS hBB hcl (by omega) (by omega) hh
   generalize (alterS s ch) = r at *
   conv=>whnf
   refine ⟨[0,1,2,4,3,5,6,7],by kernel_rfl,by kernel_rfl,?_⟩
   conv=>whnf
   refine .call [0,1] 2 ⟨rfl,rfl,rfl⟩ (hdo _ fun L' c' hok=>?_)
   repeat (conv=>whnf
           refine ⟨rfl,?_⟩)
   conv=>whnf
   refine ⟨[0,1],rfl,?_⟩;rw [show decide (r.2 = r.2) = true from decide_eq_true rfl]
   exact h L' c' (hok.mono (by omega))
 rw [show decide (a.k = 2) = false from decide_eq_false h2]
 conv=>whnf
 by_cases h3:a.k = 3
 . rw [show decide (a.k = 3) = true from decide_eq_true h3]
   conv=>whnf
   have h:=h (markS s (decide (a.n.tmod 2 = 0)) a.n).1 L c (.mark _);refine ⟨by decide,?_⟩
   conv=>whnf
   refine .pure (RMark_spec (s:=s) (hi:=decide (a.n.tmod 2 = 0)) (k:=a.n) hl ha.n (by omega) ⟨rfl,?_⟩)
   have hdo:=fun Q' hh=>SMarkS_spec (Q:=Q') (c:=c) (hi:=decide (a.n.tmod 2 = 0)) hS ha.n (by omega) hh
   generalize (markS s (decide (a.n.tmod 2 = 0)) a.n) = r at *
   conv=>whnf
   refine ⟨[0,1,2,3,4,5,6,7,9,8,10,11,12],by kernel_rfl,by kernel_rfl,?_⟩
   conv=>whnf
   refine ⟨by decide,?_⟩
   conv=>whnf
   refine .call [0,1] 2 ⟨rfl,rfl,rfl⟩ (hdo _ fun hok=>?_)
   repeat (conv=>whnf
           refine ⟨rfl,?_⟩)
   conv=>whnf
   refine ⟨[0,1],rfl,?_⟩;rw [show decide (r.2 = r.2) = true from decide_eq_true rfl]
   exact h (hok.mono (by omega))
 rw [show decide (a.k = 3) = false from decide_eq_false h3]
 conv=>whnf
 have h:=h s L c .same (hS.mono (by omega))
 refine .call [0,1] 2 ⟨rfl,rfl,rfl⟩ (SSomeS_spec (table:=a.ch.t) (after:=a.after) (most:=a.n) hS (by omega) ?_)
 have hrs:=someS_small hS a.ch.t a.after a.n;have hrd:=fun Q' hh=>RSome_spec (Q:=Q') (table:=a.ch.t) (after:=a.after) (most:=a.n) hD (by omega) hh
 generalize someS s a.ch.t a.after a.n = r at *;obtain ⟨rows,e⟩:=r;simp only at hrs hrd
 conv=>whnf
 refine .pure (hrd _ ⟨rfl,?_⟩)
 conv=>whnf
 refine ⟨List.range 11,by kernel_rfl,by kernel_rfl,?_⟩
 conv=>whnf
 refine .pure (SameRows_spec (l:=rows) (by omega) hrs.2 ⟨rfl,?_⟩)
 repeat (conv=>whnf
         refine ⟨rfl,?_⟩)
 conv=>whnf
 rw [show decide (e = e) = true from decide_eq_true rfl]
 repeat (conv=>whnf
         refine ⟨rfl,?_⟩)
 conv=>whnf
 exact ⟨[0,1],rfl,h⟩
end
section
variable {Q:V -> List O -> Prop}
end
section
variable {Q:V -> List O -> Prop}
end
section
variable {Q:V -> List O -> Prop}
def e10C:Chg:=⟨1,[116],[⟨[105,100],2,false⟩],1,col0⟩
def e10T:Tb:=⟨[116],[⟨[105,100],2,false⟩],1⟩
def e10R:Rw:=[⟨2,7,[]⟩]
def e10D:Dd:=⟨1,[116],e10R⟩
theorem e10_may:mayE ⟨6,0,[],[],[],e10C⟩ [] = 0:=by decide
theorem e10_fol:folT [] 1 [116] [⟨[105,100],2,false⟩] 1 col0 = ([e10T],0):=by decide
theorem e10_alt:alterS ss0 e10C = (⟨[e10T],[[]],tellL start [mkE 2 0,⟨6,0,[],[],[],e10C⟩,mkE 7 0],1,1⟩,0):=by
 have h1:(folT ss0.l e10C.k e10C.t e10C.c e10C.ks e10C.col) = ([e10T],0):=e10_fol;unfold alterS;rw [if_pos (show mayE ⟨6,0,[],[],[],e10C⟩ ss0.l = 0 from e10_may),h1,if_pos rfl]
 rfl
theorem e10_do:doR [e10T] [[]] [e10D] = ([[e10R]],0):=by rfl
theorem e10_in:DdIn e10D:=⟨fun v hv=>by
 have:v = ⟨2,7,[]⟩:=by simpa [e10D,e10R] using hv
 subst this; simp,fun v hv=>by
 have:v = ⟨2,7,[]⟩:=by simpa [e10D,e10R] using hv
 subst this; exact ⟨by decide,by decide⟩⟩
theorem src0_ok:SrcOk ss0 [] 0:=⟨⟨tbsB_nil,rfl,fun i t rs h=>by simp [ss0] at h,fun i t rs h=>by simp [ss0] at h⟩,NodupN.nil,fun k h=>absurd rfl h⟩
theorem src0_b:SrcB ss0 0:=⟨by decide,by decide,by decide,by decide⟩
theorem start_len:start.length <= 1000:=by
 have h1:=numW_len' (([1,1]:List UInt8).length:Int);unfold start;rw [frm_len];have h2:([1,1]:List UInt8).length = 2:=rfl;omega
theorem SrcB.mono {s:SS} {N N' : Nat} (h:SrcB s N) (hn:N <= N'):SrcB s N' := ⟨h.n0,by have:=h.n1; omega,h.m0,by have:=h.m1; omega⟩
theorem e10_row:VSub (.sl 3 [[fI 1,.str [116],.sl 3 (vals e10R) true]] true) (.sl 3 (dds [e10D]) true):=VSub.slRows rfl fun i e e' h1 h2=>by
 match i with
 | 0=>cases h1; cases h2; exact .cons (.refl _) (.cons (.refl _) (.cons (.room 3 _ true) .nil))
 | i + 1=>simp at h1
set_option maxRecDepth 8000 in
set_option maxHeartbeats 16000000 in
theorem lives10_spec (h:Q (.bool true) []):ACall Tryz.prog 16 0 [] [] Q:=by
 refine by_body Tryz.func16 0 rfl (nbZ rfl) ?_;have hst:=start_len
 conv=>whnf
 refine .call [] 0 ⟨rfl,rfl,rfl⟩ (SNew_spec ?_);have hA:=fun Q' hh=>SAlter_spec (Q:=Q') (s:=ss0) (L:=[]) (c:=0) (b:=0) (ch:=e10C) src0_ok (src0_b.mono (by omega)) (by simp [e10C]) (by omega) (Nat.le_trans (Nat.add_le_add_right hst _) (by decide)) hh
 rw [e10_alt] at hA;have hl1:(tellL start [mkE 2 0,⟨6,0,[],[],[],e10C⟩,mkE 7 0]).length <= 4000000:=by
  have:=tellL_len tbsB_nil [mkE 2 0,⟨6,0,[],[],[],e10C⟩,mkE 7 0] start (fun e he=>by
   simp only [List.mem_cons,List.not_mem_nil,or_false] at he;rcases he with rfl | rfl | rfl
   . exact ⟨mkE_may rfl (by decide),mkE_n ⟨by decide,by decide⟩⟩
   . exact ⟨e10_may,evn6 _ _ _ ⟨by decide,by decide⟩⟩
   . exact ⟨mkE_may rfl (by decide),mkE_n ⟨by decide,by decide⟩⟩)
  simp only [List.length_cons,List.length_nil] at this;omega
 generalize tellL start [mkE 2 0,⟨6,0,[],[],[],e10C⟩,mkE 7 0] = log1 at *
 conv=>whnf
 refine ACalls.frz 2 rfl rfl (by repeat (first | exact trivial | refine And.intro (by first | omega | exact Nat.le_refl 1) ?_)) ?_
 refine ACalls.frz 4 rfl rfl (by repeat (first | exact trivial | refine And.intro (by first | omega | exact Nat.le_refl 1) ?_)) ?_
 refine ACalls.sub [.ptr 0 0,chA e10C] _ rfl (.cons (.refl _) (.cons (.agg (.cons (.refl _) (.cons (.refl _) (.cons (.room 3 _ true) (VSubs.refl _))))) .nil)) (HSub.refl _) ?_;refine .call [0,1] 2 ⟨rfl,rfl,rfl⟩ (hA _ fun L1 c1 hok=>?_)
 conv=>whnf
 have hok' : SrcOk ⟨[e10T],[[]],log1,1,1⟩ L1 0:=hok;refine ACalls.frz 5 rfl rfl (by repeat (first | exact trivial | refine And.intro (by first | omega | exact Nat.le_refl 1) ?_)) ?_
 refine ACalls.sub [.ptr 0 0,.sl 3 (dds [e10D]) true] _ rfl (.cons (.refl _) (.cons e10_row .nil)) (HSub.refl _) ?_;refine .call [0,1] 2 ⟨rfl,rfl,rfl⟩ (Do_spec (s:=⟨[e10T],[[]],log1,1,1⟩) (L:=L1) (c:=c1) (ds:=[e10D]) (f:=true) hok' ⟨(by show (0:Int) <= 1; decide),(by show (1:Int) <= 1000000; decide),(by show (0:Int) <= 1; decide),(by show (1:Int) <= 1000000; decide)⟩ (fun d hd=>by rw [List.mem_singleton.1 hd]; exact e10_in) (by simp) (by omega) (Nat.le_trans (Nat.add_le_add_right hl1 _) (by decide)) fun L2 c2 hok2=>?_)
 rw [show doS ⟨[e10T],[[]],log1,1,1⟩ [e10D] false = (⟨[e10T],[[e10R]],tellL log1 [mkE 2 1,ddE e10D,mkE 7 1],2,2⟩,0) from by
  rw [doS_ok (by show (doR [e10T] [[]] [e10D]).2 = 0; rw [e10_do])]
  show (SS.mk [e10T] (doR [e10T] [[]] [e10D]).1 _ _ _,(0:Int)) = _
  rw [e10_do]; rfl] at hok2 ⊢
 generalize tellL log1 [mkE 2 1,ddE e10D,mkE 7 1] = log2 at *;simp only at hok2
 conv=>whnf
 refine .call [0,1] 2 ⟨rfl,rfl,rfl⟩ (SRows_spec (s:=⟨[e10T],[[e10R]],log2,2,2⟩) (L:=L2) (c:=c2) (table:=[116]) (b:=1) hok2 (by omega) ?_)
 rw [show rowsS ⟨[e10T],[[e10R]],log2,2,2⟩ [116] = [e10R] from rfl]
 conv=>whnf
 refine ⟨List.range 35,by kernel_rfl,by kernel_rfl,?_⟩
 conv=>whnf
 repeat (conv=>whnf
         first | (refine ⟨rfl,?_⟩) | (refine ⟨_,⟨by decide,rfl⟩,?_⟩) | (refine ⟨⟨_,⟨by decide,rfl⟩,rfl⟩,?_⟩))
 conv=>whnf
 refine .call [0,1] 2 ⟨rfl,rfl,rfl⟩ (SMany_spec (l:=[e10T]) (L:=L2) (c:=c2) (log:=log2) (n:=2) (m:=2) ?_)
 repeat (conv=>whnf
         first | (refine ⟨rfl,?_⟩) | (refine ⟨_,⟨by decide,rfl⟩,?_⟩) | (refine ⟨⟨_,⟨by decide,rfl⟩,rfl⟩,?_⟩))
 conv=>whnf
 exact ⟨[],rfl,h⟩
end
end Go.Proofs.YteiagdlfccbpcaaGreatDoorPg
