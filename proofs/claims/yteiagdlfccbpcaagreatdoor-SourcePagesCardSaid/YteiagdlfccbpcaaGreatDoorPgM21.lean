/- Own texts, laid together: Pg10ZDSoY, Pg10ZDSoZd. -/
import Derived.Test.YteiagdlfccbpcaaGreatDoorPgM20
import Derived.Test.YteiagdlfccbpcaaGreatDoorPgM18
set_option linter.unusedSimpArgs false
set_option linter.unusedVariables false
namespace Go.Proofs.YteiagdlfccbpcaaGreatDoorPg
open Go Go.RowKit
section
variable {Q:V -> List O -> Prop}
structure Stand (s:SS) (N:Nat):Prop where
 b:SrcB s N
 log:s.log.length <= 1000 + 8000160 * N
theorem stand0:Stand ss0 0:=⟨src0_b,start_len⟩
theorem frm_pos (b:List UInt8):0 < (frm b).length:=by rw [frm_len]; omega
theorem tellL_more:∀ (es:List Evt) (b:List UInt8),b.length + es.length <= (tellL b es).length
 | [],b=>Nat.le_refl _
 | e :: es,b=>by
  have:=tellL_more es (b ++ frm (evW e));have hp:=frm_pos (evW e);rw [laZ] at this;show _ <= (tellL (b ++ frm (evW e)) es).length
  rw [List.length_cons];omega
theorem doS_stand {s:SS} {ds:List Dd} {u:Bool} (hl:TbsB s.l) (hds:∀ d ∈ ds,DdIn d) (h6:ds.length <= 6) (hn:0 <= s.n /\ s.n <= 1000000) :
 (doS s ds u).1.log.length <= s.log.length + 8000160 /\ s.log.length <= (doS s ds u).1.log.length /\ ((doS s ds u).1 = s \/ ((doS s ds u).1.n = s.n + 1 /\ (doS s ds u).1.m = (if u then s.m else s.m + 1) /\ s.log.length < (doS s ds u).1.log.length)):=by
 by_cases h:(doR s.l s.R ds).2 = 0
 . have hm:=doR_may hl h (fun d hd=>(hds d hd).t) (fun d hd=>(hds d hd).n)
   rw [doS_ok h];have h1:=tellL_len hl (mkE 2 s.n :: (ds.map ddE ++ [mkE (if u then 8 else 7) s.n])) s.log (fun e he=>by
    rcases List.mem_cons.1 he with rfl | he
    . exact ⟨mkE_may rfl hn.1,mkE_n (by unfold I64; omega)⟩
    . rcases List.mem_append.1 he with he | he
      . exact ⟨(hm e he).1,(hm e he).2.1⟩
      . rw [List.mem_singleton.1 he];exact ⟨mkE_may (by cases u<;>rfl) hn.1,mkE_n (by unfold I64; omega)⟩)
   have h2:=tellL_more (mkE 2 s.n :: (ds.map ddE ++ [mkE (if u then 8 else 7) s.n])) s.log
   simp only [List.length_cons,laZ,List.length_map,List.length_nil] at h1 h2;refine ⟨?_,?_,.inr ⟨rfl,rfl,?_⟩⟩
   . exact Nat.le_trans h1 (Nat.add_le_add_left (Nat.mul_le_mul_left 1000020 (show ds.length + (0 + 1) + 1 <= 8 by omega)) _)
   . simp only; omega
   . simp only; omega
 . rw [doS_no h];exact ⟨Nat.le_add_right _ _,Nat.le_refl _,.inl rfl⟩
theorem alterS_stand {s:SS} {c:Chg} (hl:TbsB s.l) (hc:c.c.length < 9223372036854775808) (hn:0 <= s.n /\ s.n <= 1000000) :
 (alterS s c).1.log.length <= s.log.length + 8000160 /\ s.log.length <= (alterS s c).1.log.length /\ ((alterS s c).1 = s \/ ((alterS s c).1.n = s.n + 1 /\ (alterS s c).1.m = s.m + 1 /\ s.log.length < (alterS s c).1.log.length)):=by
 unfold alterS;split
 . rename_i hme;split
   . have h1:=tellL_len hl [mkE 2 s.n,⟨6,0,[],[],[],c⟩,mkE 7 s.n] s.log (fun e he=>by
      simp only [List.mem_cons,List.not_mem_nil,or_false] at he;rcases he with rfl | rfl | rfl
      . exact ⟨mkE_may rfl hn.1,mkE_n (by unfold I64; omega)⟩
      . exact ⟨hme,evn6 _ _ _ ⟨by decide,by decide⟩⟩
      . exact ⟨mkE_may rfl hn.1,mkE_n (by unfold I64; omega)⟩)
     have h2:=tellL_more [mkE 2 s.n,⟨6,0,[],[],[],c⟩,mkE 7 s.n] s.log;simp only [List.length_cons,List.length_nil] at h1 h2;refine ⟨?_,?_,.inr ⟨rfl,rfl,?_⟩⟩
     . simp only; omega
     . simp only; omega
     . simp only; omega
   . exact ⟨Nat.le_add_right _ _,Nat.le_refl _,.inl rfl⟩
 . exact ⟨Nat.le_add_right _ _,Nat.le_refl _,.inl rfl⟩
theorem markS_stand {s:SS} {hi:Bool} {k:Int} (hl:TbsB s.l) (hk:I64 k) :
 (markS s hi k).1.log.length <= s.log.length + 8000160 /\ s.log.length <= (markS s hi k).1.log.length /\ (markS s hi k).1.n = s.n /\ (markS s hi k).1.m = s.m:=by
 unfold markS;split
 . exact ⟨Nat.le_add_right _ _,Nat.le_refl _,rfl,rfl⟩
 . have h1:=tellL_len hl [mkE (if hi then 10 else 9) k] s.log (fun e he=>by
    rw [List.mem_singleton.1 he];exact ⟨mkE_may (by cases hi<;>rfl) (by omega),mkE_n hk⟩)
   have e:tellL s.log [mkE (if hi then 10 else 9) k] = s.log ++ frm (evW (mkE (if hi then 10 else 9) k)):=rfl
   rw [e] at h1;simp only [List.length_cons,List.length_nil] at h1;refine ⟨?_,?_,rfl,rfl⟩
   . simp only; omega
   . simp only [laZ]; omega
structure AskK (a:Ask) (s s' : SS):Prop where
 le:s'.log.length <= s.log.length + 8000160
 ge:s.log.length <= s'.log.length
 n:s'.n = s.n \/ s'.n = s.n + 1
 m:s'.m = s.m \/ (s'.m = s.m + 1 /\ s.log.length < s'.log.length /\ (a.k = 0 \/ a.k = 5 \/ a.k = 2))
theorem AskS.kept {a:Ask} {s s' : SS} (h:AskS a s s') (hl:TbsB s.l) (ha:AskIn a) (hn:0 <= s.n /\ s.n <= 1000000):AskK a s s' := by
 cases h with
 | same=>exact ⟨Nat.le_add_right _ _,Nat.le_refl _,.inl rfl,.inl rfl⟩
 | tx ds u h1 h2 h3 =>
  obtain ⟨q1,q2,q3⟩:=doS_stand (u:=u) hl h1 h2 hn;refine ⟨q1,q2,?_,?_⟩
  . rcases q3 with q3 | ⟨q3,_⟩
    . rw [q3]; exact .inl rfl
    . exact .inr q3
  . rcases q3 with q3 | ⟨_,q3,q4⟩
    . rw [q3]; exact .inl rfl
    . cases u with
      | true=>exact .inl q3
      | false=>exact .inr ⟨q3,q4,by rcases h3 rfl with h | h; exact .inl h; exact .inr (.inl h)⟩
 | alt c h1 h2 =>
  obtain ⟨q1,q2,q3⟩:=alterS_stand hl h2 hn;refine ⟨q1,q2,?_,?_⟩
  . rcases q3 with q3 | ⟨q3,_⟩
    . rw [q3]; exact .inl rfl
    . exact .inr q3
  . rcases q3 with q3 | ⟨_,q3,q4⟩
    . rw [q3]; exact .inl rfl
    . exact .inr ⟨q3,q4,.inr (.inr h1)⟩
 | mark hi =>
  obtain ⟨q1,q2,q3,q4⟩:=markS_stand (hi:=hi) hl ha.n;exact ⟨q1,q2,.inl q3,.inl q4⟩
theorem Stand.step {s s' : SS} {N:Nat} {a:Ask} (h:Stand s N) (hN:N <= 1000) (hl:TbsB s.l) (ha:AskIn a) (hs:AskS a s s'):Stand s' (N + 1):=by
 have h1:=h.b.n0; have h2:=h.b.n1; have h3:=h.b.m0; have h4:=h.b.m1;have hk:=hs.kept hl ha ⟨h1,by omega⟩
 refine ⟨⟨?_,?_,?_,?_⟩,?_⟩
 . rcases hk.n with h | h<;>omega
 . rcases hk.n with h | h<;>omega
 . rcases hk.m with h | ⟨h,_⟩<;>omega
 . rcases hk.m with h | ⟨h,_⟩<;>omega
 . exact Nat.le_trans hk.le (by rw [Nat.mul_succ,<- Nat.add_assoc]; exact Nat.add_le_add_right h.log _)
theorem Stand.small {s:SS} {N:Nat} (h:Stand s N) (hN:N <= 25):s.log.length + 1000020 * 8 <= 700000000:=by
 have h2:8000160 * N <= 8000160 * 25:=Nat.mul_le_mul_left _ hN;exact Nat.le_trans (Nat.add_le_add_right (Nat.le_trans h.log (Nat.add_le_add_left h2 1000)) _) (by decide)
theorem dds_of:∀ {es:List (List V)},(∀ x ∈ es,∃ d:Dd,x = ddC d /\ ∀ v ∈ d.r,ValIn v) -> ∃ l:List Dd,es = dds l /\ ∀ d ∈ l,∀ v ∈ d.r,ValIn v
 | [],_=>⟨[],rfl,by simp⟩
 | x :: es,h=>by
  obtain ⟨d,rfl,hd⟩:=h x (by simp)
  obtain ⟨l,rfl,hl⟩:=dds_of (es:=es) fun y hy=>h y (by simp [hy])
  refine ⟨d :: l,rfl,fun v hv=>?_⟩
  rcases List.mem_cons.1 hv with rfl | hv
  . exact hd
  . exact hl v hv
theorem asks_of:∀ {es:List (List V)},(∀ x ∈ es,∃ a:Ask,x = askC a /\ AskIn a) -> ∃ l:List Ask,es = asksL l /\ ∀ a ∈ l,AskIn a
 | [],_=>⟨[],rfl,by simp⟩
 | x :: es,h=>by
  obtain ⟨d,rfl,hd⟩:=h x (by simp)
  obtain ⟨l,rfl,hl⟩:=asks_of (es:=es) fun y hy=>h y (by simp [hy])
  refine ⟨d :: l,rfl,fun v hv=>?_⟩
  rcases List.mem_cons.1 hv with rfl | hv
  . exact hd
  . exact hl v hv
theorem ddin_of {d:Dd} (h:∀ v ∈ d.r,ValIn v):DdIn d:=⟨fun v hv=>Nat.lt_of_le_of_lt (h v hv).t (by decide),fun v hv=>(h v hv).n⟩
theorem asks_in {vs:List V} (h:Shp tt 8 22 vs):∃ l:List Ask,argV tt 22 vs = .sl 11 (asksL l) false /\ ∀ a ∈ l,AskIn a:=by
 obtain ⟨es,_,g1,rfl⟩:=h;obtain ⟨l,rfl,hl⟩:=asks_of fun x hx=>by
  obtain ⟨_,_,⟨k,hk,rfl⟩,⟨_,_,⟨eds,_,gds,rfl⟩,⟨_,_,hch,⟨_,_,⟨aft,_,rfl⟩,⟨_,_,⟨n,hn,rfl⟩,rfl,rfl⟩,rfl⟩,rfl⟩,rfl⟩,rfl⟩:=g1 x hx;obtain ⟨_,_,⟨ck,hck,rfl⟩,⟨_,_,⟨ct,_,rfl⟩,⟨_,_,⟨_,_,⟨es,_,g1,rfl⟩,⟨_,_,⟨ks,hks,rfl⟩,rfl,rfl⟩,rfl⟩,⟨_,_,⟨_,_,⟨cn,_,rfl⟩,⟨_,_,⟨cck,hcck,rfl⟩,⟨_,_,⟨o,rfl⟩,rfl,rfl⟩,rfl⟩,rfl⟩,rfl,rfl⟩,rfl⟩,rfl⟩,rfl⟩:=hch;obtain ⟨l,rfl,hl⟩:=cols_of fun x hx=>by
   obtain ⟨_,_,⟨s,_,rfl⟩,⟨_,_,⟨k,hk,rfl⟩,⟨_,_,⟨o,rfl⟩,rfl,rfl⟩,rfl⟩,rfl⟩:=g1 x hx;exact ⟨s,k,o,rfl,i64_wf hk⟩
  obtain ⟨ds,rfl,hds⟩:=dds_of fun x hx=>by
   obtain ⟨_,_,⟨k,hk,rfl⟩,⟨_,_,⟨t,_,rfl⟩,⟨_,_,⟨es,_,g2,rfl⟩,rfl,rfl⟩,rfl⟩,rfl⟩:=gds x hx;obtain ⟨l,rfl,hl⟩:=evals_of fun x hx=>by
    obtain ⟨_,_,⟨k,hk,rfl⟩,⟨_,_,⟨n,hn,rfl⟩,⟨_,_,⟨s,hs,rfl⟩,rfl,rfl⟩,rfl⟩,rfl⟩:=g2 x hx;exact ⟨k,n,s,rfl,i64_wf hk,i64_wf hn,hs⟩
   exact ⟨⟨k,t,l⟩,rfl,hl⟩
  exact ⟨⟨k,ds,⟨ck,ct,l,ks,⟨cn,cck,o⟩⟩,aft,n⟩,rfl,⟨fun d hd=>ddin_of (hds d hd),i64_wf hn,i64_wf hks,hl⟩⟩
 exact ⟨l,rfl,hl⟩
end
section
variable {Q:V -> List O -> Prop}
theorem filter_drop {α:Type} {P:α -> Bool} {l:List α} {p:Nat} (h1:∀ (i:Nat) x,i < p -> l[i]? = some x -> P x = false) (h2:∀ (i:Nat) x,p <= i -> l[i]? = some x -> P x = true):l.filter P = l.drop p:=by
 conv=>lhs; rw [<- List.take_append_drop p l]
 rw [List.filter_append,List.filter_eq_nil_iff.2,List.filter_eq_self.2,List.nil_append]
 . intro x hx;obtain ⟨i,hi,rfl⟩:=List.mem_iff_getElem.1 hx;rw [List.length_drop] at hi;rw [List.getElem_drop];exact h2 (p + i) _ (by omega) (lgZ (by omega))
 . intro x hx;obtain ⟨i,hi,rfl⟩:=List.mem_iff_getElem.1 hx;rw [List.length_take] at hi;rw [List.getElem_take,h1 i _ (by omega) (lgZ (by omega))]
   decide
def LastOf (t:Tb) (rs:List Rw) (p:Nat) (last:List UInt8):Prop:=(p = 0 /\ last = []) \/ ∃ r,0 < p /\ rs[p - 1]? = some r /\ last = kyT t r
theorem rows_srt {t:Tb} {rs:List Rw} (h:RowsOk t rs) {i j:Nat} {x y:Rw} (hij:i < j) (hi:rs[i]? = some x) (hj:rs[j]? = some y):Op.bytesLess (kyT t x) (kyT t y) = true:=by
 obtain ⟨h1,rfl⟩:=liZ.1 hi;obtain ⟨h2,rfl⟩:=liZ.1 hj;have:=h.srt;unfold SortedL kvT kvR at this;rw [List.pairwise_map] at this;exact List.pairwise_iff_getElem.1 this i j h1 h2 hij
theorem rest_after {t:Tb} {rs:List Rw} (ht:TbK t) (hr:RowsOk t rs) {p:Nat} {last:List UInt8} (hl:LastOf t rs p last):rs.filter (fun r=>Op.bytesLess last (kyT t r)) = rs.drop p:=by
 rcases hl with ⟨rfl,rfl⟩ | ⟨r,h0,hg,rfl⟩
 . exact filter_drop (fun i x hi=>absurd hi (by omega)) fun i x _ hx=>hr.pos ht x (List.mem_of_getElem? hx)
 . refine filter_drop (fun i x hi hx=>?_) fun i x hi hx=>rows_srt hr (by omega) hg hx
   rcases Nat.lt_or_ge i (p - 1) with hlt | hge
   . exact less_asymm (rows_srt hr hlt hx hg)
   . have:i = p - 1:=by omega
     subst this;rw [hg] at hx; cases hx;exact less_irrefl _
theorem pq_bd {m:Int} (h0:0 <= m):1 <= IntKind.i64.wrap (1 + m.tmod 4) /\ IntKind.i64.wrap (1 + m.tmod 4) <= 4:=by
 have h1:=Int.tmod_lt_of_pos m (show (0:Int) < 4 by decide)
 have h2:=Int.tmod_nonneg 4 h0;rw [wrapI (by omega)]
 omega
theorem pq_neg {m:Int} (hm:I64 m) (h:m < 0):1 <= IntKind.i64.wrap (1 + (IntKind.i64.wrap (0 - IntKind.i64.wrap (m + 1))).tmod 4) /\ IntKind.i64.wrap (1 + (IntKind.i64.wrap (0 - IntKind.i64.wrap (m + 1))).tmod 4) <= 4:=by
 unfold I64 at hm;refine pq_bd ?_;have e:IntKind.i64.wrap (m + 1) = m + 1:=wrapI (by omega)
 rw [e,wrapI (by omega)]
 omega
def pgInv (l:List Ask) (f:Bool) (most:Int) (k:Nat) (ws:List V) (H:List O):Prop :=
 ∃ (i:Nat) (s:SS) (L:List Trw) (c:Nat),ws = [.sl 11 (asksL l) f,fI most,.ptr 0 0,.ptr 2 0,fI i,.bool false] /\ H = srcS s L c ++ [.cells (sC s)] /\ SrcOk s L (6 * i) /\ Stand s i /\ i <= 15 /\ i <= l.length /\ k = l.length - i
set_option maxRecDepth 8000 in
set_option maxHeartbeats 32000000 in
theorem SourcePages_spec {l:List Ask} {f:Bool} {most:Int} (hl:∀ a ∈ l,AskIn a) (hm:I64 most):ACall Tryz.prog 3 0 [.sl 11 (asksL l) f,fI most] [] (fun v _=>v = .bool true):=by
 refine by_body Tryz.func3 0 rfl (nbZ rfl) ?_;have hal:=asksL_len l
 conv=>whnf
 refine .call [] 0 ⟨rfl,rfl,rfl⟩ (SNew_spec ?_)
 conv=>whnf
 refine .pure (R10New_spec ⟨rfl,?_⟩)
 conv=>whnf
 refine ⟨⟨[0,1,5,6,7,4],pgInv l f most,.at _ ⟨0,ss0,[],0,rfl,rfl,src0_ok,stand0,by omega,by omega,rfl⟩,?_⟩⟩
 rintro k ws H ⟨i,s,L,c,rfl,rfl,hok,hst,hi25,hi,rfl⟩
 conv=>whnf
 have rest:True:=trivial;refine branch_i (fun c1=>?_) (fun c1=>?_)<;>try rw [c1]<;>conv=>whnf
 focus refine branch_i (fun c2=>?_) (fun c2=>?_)<;>try rw [c2]<;>conv=>whnf
 focus
  have c1' := dtZ c1;have hil:i < l.length:=by omega
  have c2' := dtZ c2;have hg:l[i]? = some l[i]:=lgZ hil;have ha:=hl l[i] (List.getElem_mem hil);generalize l[i] = a at *;refine ⟨List.range 13,by kernel_rfl,by kernel_rfl,?_⟩
  conv=>whnf
  refine ⟨_,⟨by omega,asksL_get hg⟩,?_⟩
  conv=>whnf
  refine .call [0,1] 2 ⟨rfl,rfl,rfl⟩ (asks_spec (a:=a) hok (hst.b.mono (by omega)) ha (by omega) (hst.small (by omega)) fun s' L' c' hs' hok' => ?_)
  have hst' := hst.step (by omega) hok.rs.tbs ha hs'
  repeat (conv=>whnf
          first | (refine ⟨rfl,?_⟩) | (refine ⟨⟨_,⟨by omega,asksL_get hg⟩,rfl⟩,?_⟩))
  conv=>whnf
  refine .go [0,1,2] rfl (l.length - (i + 1)) (by omega) ⟨i + 1,s', L', c', ?_,rfl,by rw [Nat.mul_succ]; exact hok', hst', by omega,by omega,rfl⟩
  show [V.sl 11 (asksL l) f,fI most,.ptr 0 0,.ptr 2 0,.int .i64 (IntKind.i64.wrap ((i:Int) + 1)),.bool false] = _
  rw [wrapE (by omega)]; rfl
 all_goals
  clear c1;refine branch_i (fun c3=>?_) (fun c3=>?_)<;>try rw [c3]<;>conv=>whnf
 all_goals
  refine ⟨by decide,?_⟩
  conv=>whnf
  first
  | (have hq:=pq_neg hm (dtZ c3); generalize IntKind.i64.wrap (1 + (IntKind.i64.wrap (0 - IntKind.i64.wrap (most + 1))).tmod 4) = q at *)
  | (have hq:=pq_bd (show 0 <= most by have:=dfZ c3; omega); generalize IntKind.i64.wrap (1 + most.tmod 4) = q at *)
  clear c3;have hl' : TbsB s.l:=hok.rs.tbs;have hfew:=hl'.few;have hlt:=tbs_len s.l;have hlen:=hok.rs.len;refine ⟨⟨[5,6,1,10,4],fun k ws H=>∃ i:Nat,ws = [.ptr 0 0,.ptr 2 0,fI q,fI i,.bool false] /\ H = srcS s L c ++ [.cells (sC s)] /\ i <= s.l.length /\ k = s.l.length - i,.at _ ⟨0,rfl,rfl,Nat.zero_le _,rfl⟩,?_⟩⟩
  rintro k ws H ⟨j,rfl,rfl,hi,rfl⟩
  conv=>whnf
  refine branch_i (fun c1=>?_) (fun c1=>?_)<;>try rw [c1]<;>conv=>whnf
  rotate_left
  . refine .pure (lives10_spec ⟨rfl,?_⟩)
    conv=>whnf
    exact ⟨[],rfl,rfl⟩
  have c1' := dtZ c1;have hil:j < s.l.length:=by omega
  have hti:s.l[j]? = some s.l[j]:=lgZ hil;generalize s.l[j] = t at hti;obtain ⟨rs,hRi,hgd,hro,hrb⟩:=hok.rs.doc.get hti;have htk:=hl'.tbk (List.mem_of_getElem? hti);have hrows:rowsS s t.n = rs:=by unfold rowsS; rw [at_self hl'.ok.sorted hti]; exact hgd
  have hsome:∀ last,someS s t.n last q = ((rs.filter fun r=>Op.bytesLess last (kyT t r)).take q.toNat,0):=fun last=>by
   unfold someS; rw [at_self hl'.ok.sorted hti]; simp only [hti,hgd]
  have hrwl:=rws_len rs;refine ⟨⟨[5,6,1,10,4,11,12,13],fun k ws H=>∃ (p n:Nat) (last:List UInt8),ws = [.ptr 0 0,.ptr 2 0,fI q,fI j,.bool false,.ms 1 3 0 p false,.str last,fI n] /\ H = srcS s L c ++ [.cells (sC s),.buf (rws (rs.take p))] /\ n <= p /\ p <= rs.length /\ LastOf t rs p last /\ k = rs.length - p,?_,?_⟩⟩
  . refine .frz (rs.length + 1) (.adopt (.sub [.ptr 0 0,.ptr 2 0,fI q,fI j,.bool false,.ms 1 3 0 0 false,.str [],fI 0] _ (.cons (.refl _) (.cons (.refl _) (.cons (.refl _) (.cons (.refl _) (.cons (.refl _) (.cons (VSub.ms0 1 3 0 false) (VSubs.refl _))))))) (HSub.refl _) (.go [0,1,2,3] rfl rs.length (by omega) ⟨0,0,[],rfl,rfl,Nat.le_refl _,Nat.zero_le _,.inl ⟨rfl,rfl⟩,rfl⟩)))
  rintro k ws H ⟨p,n,last,rfl,rfl,hnp,hp,hlast,rfl⟩
  conv=>whnf
  have hrest:=rest_after htk hro hlast;have hsm:=hsome last;rw [hrest] at hsm;rw [show decide ((n:Int) < 200) = true from decide_eq_true (by omega)]
  conv=>whnf
  refine ⟨_,⟨by omega,tbs_get hti⟩,?_⟩
  conv=>whnf
  refine .call [0,1] 2 ⟨rfl,rfl,rfl⟩ (SSomeS_spec (table:=t.n) (after:=last) (most:=q) hok (by omega) ?_)
  rw [hsm]
  conv=>whnf
  have hYl:=rws_len ((rs.drop p).take q.toNat);have hYt:((rs.drop p).take q.toNat).length = min q.toNat (rs.length - p):=by rw [List.length_take,List.length_drop]
  have hYg:∀ r,((rs.drop p).take q.toNat)[((rs.drop p).take q.toNat).length - 1]? = some r -> 0 < ((rs.drop p).take q.toNat).length -> rs[p + ((rs.drop p).take q.toNat).length - 1]? = some r:=fun r h h0=>by
   rw [List.getElem?_take] at h;split at h
   . rw [List.getElem?_drop] at h;rw [show p + ((rs.drop p).take q.toNat).length - 1 = p + (((rs.drop p).take q.toNat).length - 1) by omega]; exact h
   . cases h
  have hYa:rs.take p ++ (rs.drop p).take q.toNat = rs.take (p + ((rs.drop p).take q.toNat).length):=by
   rw [List.take_add];congr 1
   rw [List.take_eq_take_iff];rw [hYt,List.length_drop];omega
  generalize (rs.drop p).take q.toNat = Y at *;rw [show decide (q < ((rws Y).length:Int)) = false from decide_eq_false (by omega)]
  conv=>whnf
  refine branch_i (fun c5=>?_) (fun c5=>?_)<;>try rw [c5]<;>conv=>whnf
  . have c5' : ((rws Y).length:Int) = 0:=dtZ c5;have hpe:p = rs.length:=by omega
    subst hpe;rw [List.take_length];refine ⟨_,⟨by omega,tbs_get hti⟩,?_⟩
    conv=>whnf
    refine .call [0,1] 2 ⟨rfl,rfl,rfl⟩ (SRows_spec (table:=t.n) hok (by omega) ?_)
    rw [hrows]
    conv=>whnf
    refine ACalls.frz 3 rfl rfl (by repeat (first | exact trivial | refine And.intro (by omega) ?_)) ?_
    refine ACalls.sub [.sl 1 (rws rs) false,.sl 1 (rws rs) false] _ rfl (.cons (VSub.eq (congrArg (fun z=>V.sl 1 z false) (by rw [List.drop_zero,<- hrwl,List.take_length]))) (VSubs.refl _)) (HSub.refl _) ?_
    refine .pure (SameRows_spec (l:=rs) (by omega) (fun r hr=>by have:=fits_len' (hro.fit r hr); have:=htk.few; omega) ⟨rfl,?_⟩)
    conv=>whnf
    refine .go [0,1,2] rfl (s.l.length - (j + 1)) (by omega) ⟨j + 1,?_,rfl,by omega,rfl⟩
    show [V.ptr 0 0,.ptr 2 0,fI q,.int .i64 (IntKind.i64.wrap ((j:Int) + 1)),.bool false] = _
    rw [wrapE (by omega)]; rfl
  . have c5' : ¬ ((rws Y).length:Int) = 0:=dfZ c5;have hYp:0 < Y.length:=by omega
    have hYr:Y[Y.length - 1]? = some Y[Y.length - 1]:=lgZ (by omega)
    generalize Y[Y.length - 1] = r at hYr;have hgr:=hYg r hYr hYp;have hrm:r ∈ rs:=List.mem_of_getElem? hgr;have htl:=rws_len (rs.take p);have htl2:(rs.take p).length = p:=by rw [List.length_take]; omega
    refine app_gen2 (X:=rws (rs.take p)) (ys:=rws Y) (by omega) (show ((rws (rs.take p)).length + (rws Y).length) * 24 <= 70368744177664 by omega) ?_
    conv=>whnf
    refine ⟨List.range 14,by kernel_rfl,by kernel_rfl,?_⟩
    conv=>whnf
    refine ⟨_,⟨by omega,tbs_get hti⟩,?_⟩
    conv=>whnf
    have hwi:IntKind.i64.wrap (((rws Y).length:Int) - 1) = ((Y.length - 1:Nat):Int):=by rw [wrapI (by omega)]; omega
    rw [hwi];refine ⟨_,⟨by omega,rws_some hYr⟩,?_⟩
    conv=>whnf
    refine .pure (RKey10T_spec (t:=t) (r:=r) (f:=false) htk (rows_t hro r hrm) ⟨rfl,?_⟩)
    repeat (conv=>whnf
            first | (refine ⟨rfl,?_⟩) | (refine ⟨⟨_,⟨by omega,tbs_get hti⟩,rfl⟩,?_⟩) | (refine ⟨⟨_,⟨by omega,rws_some hYr⟩,rfl⟩,?_⟩))
    conv=>whnf
    refine .go [0,1,2,4] rfl (rs.length - (p + Y.length)) (by omega) ⟨p + Y.length,n + 1,kyT t r,?_,?_,by omega,by omega,.inr ⟨r,by omega,hgr,rfl⟩,rfl⟩
    . show [V.ptr 0 0,.ptr 2 0,fI q,fI j,.bool false,.ms 1 3 0 ((rws (rs.take p)).length + (rws Y).length) false,.str (kyT t r),.int .i64 (IntKind.i64.wrap ((n:Int) + 1))] = _
      rw [wrapE (by omega),htl,htl2,hYl]; rfl
    . rw [<- hYa,rws_app]; rfl
end
end Go.Proofs.YteiagdlfccbpcaaGreatDoorPg
