/- Own texts, laid together: Pg10ZDSoY, Pg10ZDSoZa. -/
import Derived.Test.YteiagdlfccbpcaaGreatDoorPgM20
import Derived.Test.YteiagdlfccbpcaaGreatDoorPgM18
set_option linter.unusedSimpArgs false
set_option linter.unusedVariables false
namespace Go.Proofs.YteiagdlfccbpcaaGreatDoorPg
open Go Go.RowKit
section
variable {Q:V -> List O -> Prop}
structure Stand (s:SS) (N:Nat):Prop where
 b:SrcB s N
 log:s.log.length <= 1000 + 8000160 * N
theorem stand0:Stand ss0 0:=⟨src0_b,start_len⟩
theorem frm_pos (b:List UInt8):0 < (frm b).length:=by rw [frm_len]; omega
theorem tellL_more:∀ (es:List Evt) (b:List UInt8),b.length + es.length <= (tellL b es).length
 | [],b=>Nat.le_refl _
 | e :: es,b=>by
  have:=tellL_more es (b ++ frm (evW e));have hp:=frm_pos (evW e);rw [laZ] at this;show _ <= (tellL (b ++ frm (evW e)) es).length
  rw [List.length_cons];omega
theorem doS_stand {s:SS} {ds:List Dd} {u:Bool} (hl:TbsB s.l) (hds:∀ d ∈ ds,DdIn d) (h6:ds.length <= 6) (hn:0 <= s.n /\ s.n <= 1000000) :
 (doS s ds u).1.log.length <= s.log.length + 8000160 /\ s.log.length <= (doS s ds u).1.log.length /\ ((doS s ds u).1 = s \/ ((doS s ds u).1.n = s.n + 1 /\ (doS s ds u).1.m = (if u then s.m else s.m + 1) /\ s.log.length < (doS s ds u).1.log.length)):=by
 by_cases h:(doR s.l s.R ds).2 = 0
 . have hm:=doR_may hl h (fun d hd=>(hds d hd).t) (fun d hd=>(hds d hd).n)
   rw [doS_ok h];have h1:=tellL_len hl (mkE 2 s.n :: (ds.map ddE ++ [mkE (if u then 8 else 7) s.n])) s.log (fun e he=>by
    rcases List.mem_cons.1 he with rfl | he
    . exact ⟨mkE_may rfl hn.1,mkE_n (by unfold I64; omega)⟩
    . rcases List.mem_append.1 he with he | he
      . exact ⟨(hm e he).1,(hm e he).2.1⟩
      . rw [List.mem_singleton.1 he];exact ⟨mkE_may (by cases u<;>rfl) hn.1,mkE_n (by unfold I64; omega)⟩)
   have h2:=tellL_more (mkE 2 s.n :: (ds.map ddE ++ [mkE (if u then 8 else 7) s.n])) s.log
   simp only [List.length_cons,laZ,List.length_map,List.length_nil] at h1 h2;refine ⟨?_,?_,.inr ⟨rfl,rfl,?_⟩⟩
   . exact Nat.le_trans h1 (Nat.add_le_add_left (Nat.mul_le_mul_left 1000020 (show ds.length + (0 + 1) + 1 <= 8 by omega)) _)
   . simp only; omega
   . simp only; omega
 . rw [doS_no h];exact ⟨Nat.le_add_right _ _,Nat.le_refl _,.inl rfl⟩
theorem alterS_stand {s:SS} {c:Chg} (hl:TbsB s.l) (hc:c.c.length < 9223372036854775808) (hn:0 <= s.n /\ s.n <= 1000000) :
 (alterS s c).1.log.length <= s.log.length + 8000160 /\ s.log.length <= (alterS s c).1.log.length /\ ((alterS s c).1 = s \/ ((alterS s c).1.n = s.n + 1 /\ (alterS s c).1.m = s.m + 1 /\ s.log.length < (alterS s c).1.log.length)):=by
 unfold alterS;split
 . rename_i hme;split
   . have h1:=tellL_len hl [mkE 2 s.n,⟨6,0,[],[],[],c⟩,mkE 7 s.n] s.log (fun e he=>by
      simp only [List.mem_cons,List.not_mem_nil,or_false] at he;rcases he with rfl | rfl | rfl
      . exact ⟨mkE_may rfl hn.1,mkE_n (by unfold I64; omega)⟩
      . exact ⟨hme,evn6 _ _ _ ⟨by decide,by decide⟩⟩
      . exact ⟨mkE_may rfl hn.1,mkE_n (by unfold I64; omega)⟩)
     have h2:=tellL_more [mkE 2 s.n,⟨6,0,[],[],[],c⟩,mkE 7 s.n] s.log;simp only [List.length_cons,List.length_nil] at h1 h2;refine ⟨?_,?_,.inr ⟨rfl,rfl,?_⟩⟩
     . simp only; omega
     . simp only; omega
     . simp only; omega
   . exact ⟨Nat.le_add_right _ _,Nat.le_refl _,.inl rfl⟩
 . exact ⟨Nat.le_add_right _ _,Nat.le_refl _,.inl rfl⟩
theorem markS_stand {s:SS} {hi:Bool} {k:Int} (hl:TbsB s.l) (hk:I64 k) :
 (markS s hi k).1.log.length <= s.log.length + 8000160 /\ s.log.length <= (markS s hi k).1.log.length /\ (markS s hi k).1.n = s.n /\ (markS s hi k).1.m = s.m:=by
 unfold markS;split
 . exact ⟨Nat.le_add_right _ _,Nat.le_refl _,rfl,rfl⟩
 . have h1:=tellL_len hl [mkE (if hi then 10 else 9) k] s.log (fun e he=>by
    rw [List.mem_singleton.1 he];exact ⟨mkE_may (by cases hi<;>rfl) (by omega),mkE_n hk⟩)
   have e:tellL s.log [mkE (if hi then 10 else 9) k] = s.log ++ frm (evW (mkE (if hi then 10 else 9) k)):=rfl
   rw [e] at h1;simp only [List.length_cons,List.length_nil] at h1;refine ⟨?_,?_,rfl,rfl⟩
   . simp only; omega
   . simp only [laZ]; omega
structure AskK (a:Ask) (s s' : SS):Prop where
 le:s'.log.length <= s.log.length + 8000160
 ge:s.log.length <= s'.log.length
 n:s'.n = s.n \/ s'.n = s.n + 1
 m:s'.m = s.m \/ (s'.m = s.m + 1 /\ s.log.length < s'.log.length /\ (a.k = 0 \/ a.k = 5 \/ a.k = 2))
theorem AskS.kept {a:Ask} {s s' : SS} (h:AskS a s s') (hl:TbsB s.l) (ha:AskIn a) (hn:0 <= s.n /\ s.n <= 1000000):AskK a s s' := by
 cases h with
 | same=>exact ⟨Nat.le_add_right _ _,Nat.le_refl _,.inl rfl,.inl rfl⟩
 | tx ds u h1 h2 h3 =>
  obtain ⟨q1,q2,q3⟩:=doS_stand (u:=u) hl h1 h2 hn;refine ⟨q1,q2,?_,?_⟩
  . rcases q3 with q3 | ⟨q3,_⟩
    . rw [q3]; exact .inl rfl
    . exact .inr q3
  . rcases q3 with q3 | ⟨_,q3,q4⟩
    . rw [q3]; exact .inl rfl
    . cases u with
      | true=>exact .inl q3
      | false=>exact .inr ⟨q3,q4,by rcases h3 rfl with h | h; exact .inl h; exact .inr (.inl h)⟩
 | alt c h1 h2 =>
  obtain ⟨q1,q2,q3⟩:=alterS_stand hl h2 hn;refine ⟨q1,q2,?_,?_⟩
  . rcases q3 with q3 | ⟨q3,_⟩
    . rw [q3]; exact .inl rfl
    . exact .inr q3
  . rcases q3 with q3 | ⟨_,q3,q4⟩
    . rw [q3]; exact .inl rfl
    . exact .inr ⟨q3,q4,.inr (.inr h1)⟩
 | mark hi =>
  obtain ⟨q1,q2,q3,q4⟩:=markS_stand (hi:=hi) hl ha.n;exact ⟨q1,q2,.inl q3,.inl q4⟩
theorem Stand.step {s s' : SS} {N:Nat} {a:Ask} (h:Stand s N) (hN:N <= 1000) (hl:TbsB s.l) (ha:AskIn a) (hs:AskS a s s'):Stand s' (N + 1):=by
 have h1:=h.b.n0; have h2:=h.b.n1; have h3:=h.b.m0; have h4:=h.b.m1;have hk:=hs.kept hl ha ⟨h1,by omega⟩
 refine ⟨⟨?_,?_,?_,?_⟩,?_⟩
 . rcases hk.n with h | h<;>omega
 . rcases hk.n with h | h<;>omega
 . rcases hk.m with h | ⟨h,_⟩<;>omega
 . rcases hk.m with h | ⟨h,_⟩<;>omega
 . exact Nat.le_trans hk.le (by rw [Nat.mul_succ,<- Nat.add_assoc]; exact Nat.add_le_add_right h.log _)
theorem Stand.small {s:SS} {N:Nat} (h:Stand s N) (hN:N <= 25):s.log.length + 1000020 * 8 <= 700000000:=by
 have h2:8000160 * N <= 8000160 * 25:=Nat.mul_le_mul_left _ hN;exact Nat.le_trans (Nat.add_le_add_right (Nat.le_trans h.log (Nat.add_le_add_left h2 1000)) _) (by decide)
theorem dds_of:∀ {es:List (List V)},(∀ x ∈ es,∃ d:Dd,x = ddC d /\ ∀ v ∈ d.r,ValIn v) -> ∃ l:List Dd,es = dds l /\ ∀ d ∈ l,∀ v ∈ d.r,ValIn v
 | [],_=>⟨[],rfl,by simp⟩
 | x :: es,h=>by
  obtain ⟨d,rfl,hd⟩:=h x (by simp)
  obtain ⟨l,rfl,hl⟩:=dds_of (es:=es) fun y hy=>h y (by simp [hy])
  refine ⟨d :: l,rfl,fun v hv=>?_⟩
  rcases List.mem_cons.1 hv with rfl | hv
  . exact hd
  . exact hl v hv
theorem asks_of:∀ {es:List (List V)},(∀ x ∈ es,∃ a:Ask,x = askC a /\ AskIn a) -> ∃ l:List Ask,es = asksL l /\ ∀ a ∈ l,AskIn a
 | [],_=>⟨[],rfl,by simp⟩
 | x :: es,h=>by
  obtain ⟨d,rfl,hd⟩:=h x (by simp)
  obtain ⟨l,rfl,hl⟩:=asks_of (es:=es) fun y hy=>h y (by simp [hy])
  refine ⟨d :: l,rfl,fun v hv=>?_⟩
  rcases List.mem_cons.1 hv with rfl | hv
  . exact hd
  . exact hl v hv
theorem ddin_of {d:Dd} (h:∀ v ∈ d.r,ValIn v):DdIn d:=⟨fun v hv=>Nat.lt_of_le_of_lt (h v hv).t (by decide),fun v hv=>(h v hv).n⟩
theorem asks_in {vs:List V} (h:Shp tt 8 22 vs):∃ l:List Ask,argV tt 22 vs = .sl 11 (asksL l) false /\ ∀ a ∈ l,AskIn a:=by
 obtain ⟨es,_,g1,rfl⟩:=h;obtain ⟨l,rfl,hl⟩:=asks_of fun x hx=>by
  obtain ⟨_,_,⟨k,hk,rfl⟩,⟨_,_,⟨eds,_,gds,rfl⟩,⟨_,_,hch,⟨_,_,⟨aft,_,rfl⟩,⟨_,_,⟨n,hn,rfl⟩,rfl,rfl⟩,rfl⟩,rfl⟩,rfl⟩,rfl⟩:=g1 x hx;obtain ⟨_,_,⟨ck,hck,rfl⟩,⟨_,_,⟨ct,_,rfl⟩,⟨_,_,⟨_,_,⟨es,_,g1,rfl⟩,⟨_,_,⟨ks,hks,rfl⟩,rfl,rfl⟩,rfl⟩,⟨_,_,⟨_,_,⟨cn,_,rfl⟩,⟨_,_,⟨cck,hcck,rfl⟩,⟨_,_,⟨o,rfl⟩,rfl,rfl⟩,rfl⟩,rfl⟩,rfl,rfl⟩,rfl⟩,rfl⟩,rfl⟩:=hch;obtain ⟨l,rfl,hl⟩:=cols_of fun x hx=>by
   obtain ⟨_,_,⟨s,_,rfl⟩,⟨_,_,⟨k,hk,rfl⟩,⟨_,_,⟨o,rfl⟩,rfl,rfl⟩,rfl⟩,rfl⟩:=g1 x hx;exact ⟨s,k,o,rfl,i64_wf hk⟩
  obtain ⟨ds,rfl,hds⟩:=dds_of fun x hx=>by
   obtain ⟨_,_,⟨k,hk,rfl⟩,⟨_,_,⟨t,_,rfl⟩,⟨_,_,⟨es,_,g2,rfl⟩,rfl,rfl⟩,rfl⟩,rfl⟩:=gds x hx;obtain ⟨l,rfl,hl⟩:=evals_of fun x hx=>by
    obtain ⟨_,_,⟨k,hk,rfl⟩,⟨_,_,⟨n,hn,rfl⟩,⟨_,_,⟨s,hs,rfl⟩,rfl,rfl⟩,rfl⟩,rfl⟩:=g2 x hx;exact ⟨k,n,s,rfl,i64_wf hk,i64_wf hn,hs⟩
   exact ⟨⟨k,t,l⟩,rfl,hl⟩
  exact ⟨⟨k,ds,⟨ck,ct,l,ks,⟨cn,cck,o⟩⟩,aft,n⟩,rfl,⟨fun d hd=>ddin_of (hds d hd),i64_wf hn,i64_wf hks,hl⟩⟩
 exact ⟨l,rfl,hl⟩
end
section
variable {Q:V -> List O -> Prop}
def cntInv (l:List Ask) (f:Bool) (k:Nat) (ws:List V) (H:List O):Prop :=
 ∃ (i:Nat) (s:SS) (L:List Trw) (c:Nat),ws = [.sl 11 (asksL l) f,.ptr 0 0,.ptr 2 0,fI i,.bool false] /\ H = srcS s L c ++ [.cells (sC s)] /\ SrcOk s L (6 * i) /\ Stand s i /\ i <= 20 /\ i <= l.length /\ k = l.length - i
set_option maxRecDepth 8000 in
set_option maxHeartbeats 16000000 in
theorem SourceCounts_spec {l:List Ask} {f:Bool} (hl:∀ a ∈ l,AskIn a):ACall Tryz.prog 5 0 [.sl 11 (asksL l) f] [] (fun v _=>v = .bool true):=by
 refine by_body Tryz.func5 0 rfl (nbZ rfl) ?_;have hal:=asksL_len l
 conv=>whnf
 refine .call [] 0 ⟨rfl,rfl,rfl⟩ (SNew_spec ?_)
 conv=>whnf
 refine .pure (R10New_spec ⟨rfl,?_⟩)
 conv=>whnf
 refine ⟨⟨[0,3,4,5,2],cntInv l f,.at _ ⟨0,ss0,[],0,rfl,rfl,src0_ok,stand0,by omega,by omega,rfl⟩,?_⟩⟩
 rintro k ws H ⟨i,s,L,c,rfl,rfl,hok,hst,hi25,hi,rfl⟩
 conv=>whnf
 refine branch_i (fun c1=>?_) (fun c1=>?_)<;>try rw [c1]<;>conv=>whnf
 rotate_left
 . refine .pure (lives10_spec ⟨rfl,?_⟩)
   conv=>whnf
   exact ⟨[],rfl,rfl⟩
 have c1' := dtZ c1;have hil:i < l.length:=by omega
 refine branch_i (fun c2=>?_) (fun c2=>?_)<;>try rw [c2]<;>conv=>whnf
 rotate_left
 . refine .pure (lives10_spec ⟨rfl,?_⟩)
   conv=>whnf
   exact ⟨[],rfl,rfl⟩
 have c2' := dtZ c2;have hg:l[i]? = some l[i]:=lgZ hil;have ha:=hl l[i] (List.getElem_mem hil);generalize l[i] = a at *;refine .call [0,1] 2 ⟨rfl,rfl,rfl⟩ (SMany_spec (l:=s.l) (L:=L) (c:=c) (log:=s.log) (n:=s.n) (m:=s.m) ?_)
 conv=>whnf
 refine .call [0,1] 2 ⟨rfl,rfl,rfl⟩ (SSize_spec (l:=s.l) (L:=L) (c:=c) (log:=s.log) (n:=s.n) (m:=s.m) ?_)
 conv=>whnf
 refine ⟨List.range 13,by kernel_rfl,by kernel_rfl,?_⟩
 conv=>whnf
 refine ⟨_,⟨by omega,asksL_get hg⟩,?_⟩
 conv=>whnf
 refine .call [0,1] 2 ⟨rfl,rfl,rfl⟩ (asks_spec (a:=a) hok (hst.b.mono (by omega)) ha (by omega) (hst.small (by omega)) fun s' L' c' hs' hok' => ?_)
 have hst' := hst.step (by omega) hok.rs.tbs ha hs'
 have hk:=hs'.kept hok.rs.tbs ha ⟨hst.b.n0,by have:=hst.b.n1; omega⟩
 repeat (conv=>whnf
         first | (refine ⟨rfl,?_⟩) | (refine ⟨⟨_,⟨by omega,asksL_get hg⟩,rfl⟩,?_⟩))
 conv=>whnf
 refine ⟨[0,2,4,5,6,7,1,3,8,9,10,12,11,13,14,15,16,17,19,18,20,21,22,23,25,24,26,27,28,30,29,31,32,33],by kernel_rfl,by kernel_rfl,?_⟩
 conv=>whnf
 refine .call [0,1] 2 ⟨rfl,rfl,rfl⟩ (SMany_spec (l:=s'.l) (L:=L') (c:=c') (log:=s'.log) (n:=s'.n) (m:=s'.m) ?_)
 repeat (conv=>whnf
         refine ⟨rfl,?_⟩)
 conv=>whnf
 have b1:=hst.b.m0; have b2:=hst.b.m1;have hge:=hk.ge;have hwr:IntKind.i64.wrap (s'.m - s.m) = s'.m - s.m:=wrapI (by rcases hk.m with h | ⟨h,_⟩<;>omega)
 have hgt1:¬ (s'.m - s.m > 1):=by rcases hk.m with h | ⟨h,_⟩<;>omega
 rw [hwr,show decide (s'.m - s.m = s'.m - s.m) = true from decide_eq_true rfl]
 conv=>whnf
 refine .call [0,1] 2 ⟨rfl,rfl,rfl⟩ (SMany_spec (l:=s'.l) (L:=L') (c:=c') (log:=s'.log) (n:=s'.n) (m:=s'.m) ?_)
 repeat (conv=>whnf
         refine ⟨rfl,?_⟩)
 conv=>whnf
 rw [hwr,show decide (s'.m - s.m > 1) = false from decide_eq_false hgt1]
 conv=>whnf
 refine .call [0,1] 2 ⟨rfl,rfl,rfl⟩ (SSize_spec (l:=s'.l) (L:=L') (c:=c') (log:=s'.log) (n:=s'.n) (m:=s'.m) ?_)
 repeat (conv=>whnf
         refine ⟨rfl,?_⟩)
 conv=>whnf
 rw [show decide ((s'.log.length:Int) < (s.log.length:Int)) = false from decide_eq_false (by omega)]
 conv=>whnf
 refine .call [0,1] 2 ⟨rfl,rfl,rfl⟩ (SMany_spec (l:=s'.l) (L:=L') (c:=c') (log:=s'.log) (n:=s'.n) (m:=s'.m) ?_)
 repeat (conv=>whnf
         refine ⟨rfl,?_⟩)
 conv=>whnf
 rcases hk.m with hm | ⟨hm,hlog,hkk⟩
 . rw [show decide (s.m < s'.m) = false from decide_eq_false (by omega)]
   repeat (conv=>whnf
           refine ⟨rfl,?_⟩)
   conv=>whnf
   refine .call [0,1] 2 ⟨rfl,rfl,rfl⟩ (SMany_spec (l:=s'.l) (L:=L') (c:=c') (log:=s'.log) (n:=s'.n) (m:=s'.m) ?_)
   conv=>whnf
   rw [show decide (s'.m > s.m) = false from decide_eq_false (by omega)]
   conv=>whnf
   refine .go [0,1,2] rfl (l.length - (i + 1)) (by omega) ⟨i + 1,s', L', c', ?_,rfl,by rw [Nat.mul_succ]; exact hok', hst', by omega,by omega,rfl⟩
   show [V.sl 11 (asksL l) f,.ptr 0 0,.ptr 2 0,.int .i64 (IntKind.i64.wrap ((i:Int) + 1)),.bool false] = _
   rw [wrapE (by omega)]; rfl
 . rw [show decide (s.m < s'.m) = true from decide_eq_true (by omega)]
   conv=>whnf
   refine .call [0,1] 2 ⟨rfl,rfl,rfl⟩ (SSize_spec (l:=s'.l) (L:=L') (c:=c') (log:=s'.log) (n:=s'.n) (m:=s'.m) ?_)
   repeat (conv=>whnf
           refine ⟨rfl,?_⟩)
   conv=>whnf
   rw [show decide ((s'.log.length:Int) = (s.log.length:Int)) = false from decide_eq_false (by omega)]
   repeat (conv=>whnf
           refine ⟨rfl,?_⟩)
   conv=>whnf
   refine .call [0,1] 2 ⟨rfl,rfl,rfl⟩ (SMany_spec (l:=s'.l) (L:=L') (c:=c') (log:=s'.log) (n:=s'.n) (m:=s'.m) ?_)
   conv=>whnf
   rw [show decide (s'.m > s.m) = true from decide_eq_true (by omega)]
   conv=>whnf
   refine ⟨_,⟨by omega,asksL_get hg⟩,?_⟩
   conv=>whnf
   rcases hkk with h0 | h5 | h2
   . rw [show decide (a.k = 0) = true from decide_eq_true h0]
     conv=>whnf
     refine .go [0,1,2] rfl (l.length - (i + 1)) (by omega) ⟨i + 1,s', L', c', ?_,rfl,by rw [Nat.mul_succ]; exact hok', hst', by omega,by omega,rfl⟩
     show [V.sl 11 (asksL l) f,.ptr 0 0,.ptr 2 0,.int .i64 (IntKind.i64.wrap ((i:Int) + 1)),.bool false] = _
     rw [wrapE (by omega)]; rfl
   . rw [show decide (a.k = 0) = false from decide_eq_false (by omega)]
     conv=>whnf
     refine ⟨_,⟨by omega,asksL_get hg⟩,?_⟩
     conv=>whnf
     rw [show decide (a.k = 5) = true from decide_eq_true h5]
     conv=>whnf
     refine .go [0,1,2] rfl (l.length - (i + 1)) (by omega) ⟨i + 1,s', L', c', ?_,rfl,by rw [Nat.mul_succ]; exact hok', hst', by omega,by omega,rfl⟩
     show [V.sl 11 (asksL l) f,.ptr 0 0,.ptr 2 0,.int .i64 (IntKind.i64.wrap ((i:Int) + 1)),.bool false] = _
     rw [wrapE (by omega)]; rfl
   . rw [show decide (a.k = 0) = false from decide_eq_false (by omega)]
     conv=>whnf
     refine ⟨_,⟨by omega,asksL_get hg⟩,?_⟩
     conv=>whnf
     rw [show decide (a.k = 5) = false from decide_eq_false (by omega)]
     conv=>whnf
     refine ⟨_,⟨by omega,asksL_get hg⟩,?_⟩
     conv=>whnf
     rw [show decide (a.k = 2) = true from decide_eq_true h2]
     conv=>whnf
     refine .go [0,1,2] rfl (l.length - (i + 1)) (by omega) ⟨i + 1,s', L', c', ?_,rfl,by rw [Nat.mul_succ]; exact hok', hst', by omega,by omega,rfl⟩
     show [V.sl 11 (asksL l) f,.ptr 0 0,.ptr 2 0,.int .i64 (IntKind.i64.wrap ((i:Int) + 1)),.bool false] = _
     rw [wrapE (by omega)]; rfl
end
end Go.Proofs.YteiagdlfccbpcaaGreatDoorPg
