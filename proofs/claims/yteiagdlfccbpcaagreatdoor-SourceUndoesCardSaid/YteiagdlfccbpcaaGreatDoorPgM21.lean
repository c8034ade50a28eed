/- Own texts, laid together: Pg10ZDSoY, Pg10ZDSoZb, Pg10ZDSoZc. -/
import Derived.Test.YteiagdlfccbpcaaGreatDoorPgM20
import Derived.Test.YteiagdlfccbpcaaGreatDoorPgM18
set_option linter.unusedSimpArgs false
set_option linter.unusedVariables false
namespace Go.Proofs.YteiagdlfccbpcaaGreatDoorPg
open Go Go.RowKit
section
variable {Q:V -> List O -> Prop}
structure Stand (s:SS) (N:Nat):Prop where
 b:SrcB s N
 log:s.log.length <= 1000 + 8000160 * N
theorem stand0:Stand ss0 0:=⟨src0_b,start_len⟩
theorem frm_pos (b:List UInt8):0 < (frm b).length:=by rw [frm_len]; omega
theorem tellL_more:∀ (es:List Evt) (b:List UInt8),b.length + es.length <= (tellL b es).length
 | [],b=>Nat.le_refl _
 | e :: es,b=>by
  have:=tellL_more es (b ++ frm (evW e));have hp:=frm_pos (evW e);rw [laZ] at this;show _ <= (tellL (b ++ frm (evW e)) es).length
  rw [List.length_cons];omega
theorem doS_stand {s:SS} {ds:List Dd} {u:Bool} (hl:TbsB s.l) (hds:∀ d ∈ ds,DdIn d) (h6:ds.length <= 6) (hn:0 <= s.n /\ s.n <= 1000000) :
 (doS s ds u).1.log.length <= s.log.length + 8000160 /\ s.log.length <= (doS s ds u).1.log.length /\ ((doS s ds u).1 = s \/ ((doS s ds u).1.n = s.n + 1 /\ (doS s ds u).1.m = (if u then s.m else s.m + 1) /\ s.log.length < (doS s ds u).1.log.length)):=by
 by_cases h:(doR s.l s.R ds).2 = 0
 . have hm:=doR_may hl h (fun d hd=>(hds d hd).t) (fun d hd=>(hds d hd).n)
   rw [doS_ok h];have h1:=tellL_len hl (mkE 2 s.n :: (ds.map ddE ++ [mkE (if u then 8 else 7) s.n])) s.log (fun e he=>by
    rcases List.mem_cons.1 he with rfl | he
    . exact ⟨mkE_may rfl hn.1,mkE_n (by unfold I64; omega)⟩
    . rcases List.mem_append.1 he with he | he
      . exact ⟨(hm e he).1,(hm e he).2.1⟩
      . rw [List.mem_singleton.1 he];exact ⟨mkE_may (by cases u<;>rfl) hn.1,mkE_n (by unfold I64; omega)⟩)
   have h2:=tellL_more (mkE 2 s.n :: (ds.map ddE ++ [mkE (if u then 8 else 7) s.n])) s.log
   simp only [List.length_cons,laZ,List.length_map,List.length_nil] at h1 h2;refine ⟨?_,?_,.inr ⟨rfl,rfl,?_⟩⟩
   . exact Nat.le_trans h1 (Nat.add_le_add_left (Nat.mul_le_mul_left 1000020 (show ds.length + (0 + 1) + 1 <= 8 by omega)) _)
   . simp only; omega
   . simp only; omega
 . rw [doS_no h];exact ⟨Nat.le_add_right _ _,Nat.le_refl _,.inl rfl⟩
theorem alterS_stand {s:SS} {c:Chg} (hl:TbsB s.l) (hc:c.c.length < 9223372036854775808) (hn:0 <= s.n /\ s.n <= 1000000) :
 (alterS s c).1.log.length <= s.log.length + 8000160 /\ s.log.length <= (alterS s c).1.log.length /\ ((alterS s c).1 = s \/ ((alterS s c).1.n = s.n + 1 /\ (alterS s c).1.m = s.m + 1 /\ s.log.length < (alterS s c).1.log.length)):=by
 unfold alterS;split
 . rename_i hme;split
   . have h1:=tellL_len hl [mkE 2 s.n,⟨6,0,[],[],[],c⟩,mkE 7 s.n] s.log (fun e he=>by
      simp only [List.mem_cons,List.not_mem_nil,or_false] at he;rcases he with rfl | rfl | rfl
      . exact ⟨mkE_may rfl hn.1,mkE_n (by unfold I64; omega)⟩
      . exact ⟨hme,evn6 _ _ _ ⟨by decide,by decide⟩⟩
      . exact ⟨mkE_may rfl hn.1,mkE_n (by unfold I64; omega)⟩)
     have h2:=tellL_more [mkE 2 s.n,⟨6,0,[],[],[],c⟩,mkE 7 s.n] s.log;simp only [List.length_cons,List.length_nil] at h1 h2;refine ⟨?_,?_,.inr ⟨rfl,rfl,?_⟩⟩
     . simp only; omega
     . simp only; omega
     . simp only; omega
   . exact ⟨Nat.le_add_right _ _,Nat.le_refl _,.inl rfl⟩
 . exact ⟨Nat.le_add_right _ _,Nat.le_refl _,.inl rfl⟩
theorem markS_stand {s:SS} {hi:Bool} {k:Int} (hl:TbsB s.l) (hk:I64 k) :
 (markS s hi k).1.log.length <= s.log.length + 8000160 /\ s.log.length <= (markS s hi k).1.log.length /\ (markS s hi k).1.n = s.n /\ (markS s hi k).1.m = s.m:=by
 unfold markS;split
 . exact ⟨Nat.le_add_right _ _,Nat.le_refl _,rfl,rfl⟩
 . have h1:=tellL_len hl [mkE (if hi then 10 else 9) k] s.log (fun e he=>by
    rw [List.mem_singleton.1 he];exact ⟨mkE_may (by cases hi<;>rfl) (by omega),mkE_n hk⟩)
   have e:tellL s.log [mkE (if hi then 10 else 9) k] = s.log ++ frm (evW (mkE (if hi then 10 else 9) k)):=rfl
   rw [e] at h1;simp only [List.length_cons,List.length_nil] at h1;refine ⟨?_,?_,rfl,rfl⟩
   . simp only; omega
   . simp only [laZ]; omega
structure AskK (a:Ask) (s s' : SS):Prop where
 le:s'.log.length <= s.log.length + 8000160
 ge:s.log.length <= s'.log.length
 n:s'.n = s.n \/ s'.n = s.n + 1
 m:s'.m = s.m \/ (s'.m = s.m + 1 /\ s.log.length < s'.log.length /\ (a.k = 0 \/ a.k = 5 \/ a.k = 2))
theorem AskS.kept {a:Ask} {s s' : SS} (h:AskS a s s') (hl:TbsB s.l) (ha:AskIn a) (hn:0 <= s.n /\ s.n <= 1000000):AskK a s s' := by
 cases h with
 | same=>exact ⟨Nat.le_add_right _ _,Nat.le_refl _,.inl rfl,.inl rfl⟩
 | tx ds u h1 h2 h3 =>
  obtain ⟨q1,q2,q3⟩:=doS_stand (u:=u) hl h1 h2 hn;refine ⟨q1,q2,?_,?_⟩
  . rcases q3 with q3 | ⟨q3,_⟩
    . rw [q3]; exact .inl rfl
    . exact .inr q3
  . rcases q3 with q3 | ⟨_,q3,q4⟩
    . rw [q3]; exact .inl rfl
    . cases u with
      | true=>exact .inl q3
      | false=>exact .inr ⟨q3,q4,by rcases h3 rfl with h | h; exact .inl h; exact .inr (.inl h)⟩
 | alt c h1 h2 =>
  obtain ⟨q1,q2,q3⟩:=alterS_stand hl h2 hn;refine ⟨q1,q2,?_,?_⟩
  . rcases q3 with q3 | ⟨q3,_⟩
    . rw [q3]; exact .inl rfl
    . exact .inr q3
  . rcases q3 with q3 | ⟨_,q3,q4⟩
    . rw [q3]; exact .inl rfl
    . exact .inr ⟨q3,q4,.inr (.inr h1)⟩
 | mark hi =>
  obtain ⟨q1,q2,q3,q4⟩:=markS_stand (hi:=hi) hl ha.n;exact ⟨q1,q2,.inl q3,.inl q4⟩
theorem Stand.step {s s' : SS} {N:Nat} {a:Ask} (h:Stand s N) (hN:N <= 1000) (hl:TbsB s.l) (ha:AskIn a) (hs:AskS a s s'):Stand s' (N + 1):=by
 have h1:=h.b.n0; have h2:=h.b.n1; have h3:=h.b.m0; have h4:=h.b.m1;have hk:=hs.kept hl ha ⟨h1,by omega⟩
 refine ⟨⟨?_,?_,?_,?_⟩,?_⟩
 . rcases hk.n with h | h<;>omega
 . rcases hk.n with h | h<;>omega
 . rcases hk.m with h | ⟨h,_⟩<;>omega
 . rcases hk.m with h | ⟨h,_⟩<;>omega
 . exact Nat.le_trans hk.le (by rw [Nat.mul_succ,<- Nat.add_assoc]; exact Nat.add_le_add_right h.log _)
theorem Stand.small {s:SS} {N:Nat} (h:Stand s N) (hN:N <= 25):s.log.length + 1000020 * 8 <= 700000000:=by
 have h2:8000160 * N <= 8000160 * 25:=Nat.mul_le_mul_left _ hN;exact Nat.le_trans (Nat.add_le_add_right (Nat.le_trans h.log (Nat.add_le_add_left h2 1000)) _) (by decide)
theorem dds_of:∀ {es:List (List V)},(∀ x ∈ es,∃ d:Dd,x = ddC d /\ ∀ v ∈ d.r,ValIn v) -> ∃ l:List Dd,es = dds l /\ ∀ d ∈ l,∀ v ∈ d.r,ValIn v
 | [],_=>⟨[],rfl,by simp⟩
 | x :: es,h=>by
  obtain ⟨d,rfl,hd⟩:=h x (by simp)
  obtain ⟨l,rfl,hl⟩:=dds_of (es:=es) fun y hy=>h y (by simp [hy])
  refine ⟨d :: l,rfl,fun v hv=>?_⟩
  rcases List.mem_cons.1 hv with rfl | hv
  . exact hd
  . exact hl v hv
theorem asks_of:∀ {es:List (List V)},(∀ x ∈ es,∃ a:Ask,x = askC a /\ AskIn a) -> ∃ l:List Ask,es = asksL l /\ ∀ a ∈ l,AskIn a
 | [],_=>⟨[],rfl,by simp⟩
 | x :: es,h=>by
  obtain ⟨d,rfl,hd⟩:=h x (by simp)
  obtain ⟨l,rfl,hl⟩:=asks_of (es:=es) fun y hy=>h y (by simp [hy])
  refine ⟨d :: l,rfl,fun v hv=>?_⟩
  rcases List.mem_cons.1 hv with rfl | hv
  . exact hd
  . exact hl v hv
theorem ddin_of {d:Dd} (h:∀ v ∈ d.r,ValIn v):DdIn d:=⟨fun v hv=>Nat.lt_of_le_of_lt (h v hv).t (by decide),fun v hv=>(h v hv).n⟩
theorem ddin_in {vs:List V} (h:Shp tt 8 33 vs):∃ l:List Dd,argV tt 33 vs = .sl 3 (dds l) false /\ ∀ d ∈ l,DdIn d:=by
 obtain ⟨es,_,g1,rfl⟩:=h;obtain ⟨l,rfl,hl⟩:=dds_of fun x hx=>by
  obtain ⟨_,_,⟨k,hk,rfl⟩,⟨_,_,⟨t,_,rfl⟩,⟨_,_,⟨es,_,g2,rfl⟩,rfl,rfl⟩,rfl⟩,rfl⟩:=g1 x hx;obtain ⟨l,rfl,hl⟩:=evals_of fun x hx=>by
   obtain ⟨_,_,⟨k,hk,rfl⟩,⟨_,_,⟨n,hn,rfl⟩,⟨_,_,⟨s,hs,rfl⟩,rfl,rfl⟩,rfl⟩,rfl⟩:=g2 x hx;exact ⟨k,n,s,rfl,i64_wf hk,i64_wf hn,hs⟩
  exact ⟨⟨k,t,l⟩,rfl,hl⟩
 exact ⟨l,rfl,fun d hd=>ddin_of (hl d hd)⟩
theorem asks_in {vs:List V} (h:Shp tt 8 22 vs):∃ l:List Ask,argV tt 22 vs = .sl 11 (asksL l) false /\ ∀ a ∈ l,AskIn a:=by
 obtain ⟨es,_,g1,rfl⟩:=h;obtain ⟨l,rfl,hl⟩:=asks_of fun x hx=>by
  obtain ⟨_,_,⟨k,hk,rfl⟩,⟨_,_,⟨eds,_,gds,rfl⟩,⟨_,_,hch,⟨_,_,⟨aft,_,rfl⟩,⟨_,_,⟨n,hn,rfl⟩,rfl,rfl⟩,rfl⟩,rfl⟩,rfl⟩,rfl⟩:=g1 x hx;obtain ⟨_,_,⟨ck,hck,rfl⟩,⟨_,_,⟨ct,_,rfl⟩,⟨_,_,⟨_,_,⟨es,_,g1,rfl⟩,⟨_,_,⟨ks,hks,rfl⟩,rfl,rfl⟩,rfl⟩,⟨_,_,⟨_,_,⟨cn,_,rfl⟩,⟨_,_,⟨cck,hcck,rfl⟩,⟨_,_,⟨o,rfl⟩,rfl,rfl⟩,rfl⟩,rfl⟩,rfl,rfl⟩,rfl⟩,rfl⟩,rfl⟩:=hch;obtain ⟨l,rfl,hl⟩:=cols_of fun x hx=>by
   obtain ⟨_,_,⟨s,_,rfl⟩,⟨_,_,⟨k,hk,rfl⟩,⟨_,_,⟨o,rfl⟩,rfl,rfl⟩,rfl⟩,rfl⟩:=g1 x hx;exact ⟨s,k,o,rfl,i64_wf hk⟩
  obtain ⟨ds,rfl,hds⟩:=dds_of fun x hx=>by
   obtain ⟨_,_,⟨k,hk,rfl⟩,⟨_,_,⟨t,_,rfl⟩,⟨_,_,⟨es,_,g2,rfl⟩,rfl,rfl⟩,rfl⟩,rfl⟩:=gds x hx;obtain ⟨l,rfl,hl⟩:=evals_of fun x hx=>by
    obtain ⟨_,_,⟨k,hk,rfl⟩,⟨_,_,⟨n,hn,rfl⟩,⟨_,_,⟨s,hs,rfl⟩,rfl,rfl⟩,rfl⟩,rfl⟩:=g2 x hx;exact ⟨k,n,s,rfl,i64_wf hk,i64_wf hn,hs⟩
   exact ⟨⟨k,t,l⟩,rfl,hl⟩
  exact ⟨⟨k,ds,⟨ck,ct,l,ks,⟨cn,cck,o⟩⟩,aft,n⟩,rfl,⟨fun d hd=>ddin_of (hds d hd),i64_wf hn,i64_wf hks,hl⟩⟩
 exact ⟨l,rfl,hl⟩
end
section
variable {Q:V -> List O -> Prop}
def runInv2 (l:List Tb) (L:List Trw) (c:Nat) (log:List UInt8) (n m:Int) (ends:Int) (ds:List Dd) (f:Bool) (R:List (List Rw)) (b:Nat) (k:Nat) (ws:List V) (H:List O):Prop :=
 ∃ (i:Nat) (X:List Tok) (R' : List (List Rw)) (cx:Nat),ws = [.ptr 0 0,fI ends,.ptr 3 0,.ms 3 2 0 ds.length f,fI ds.length,fI i] /\ H = srcH l L c log n m ++ [.buf (dds ds),.cells [.ptr 0 0,.map 4,.ms 12 5 0 ((ds.take i).map ddE).length false],.pmap (kvOf tkF X) cx,.buf (evs ((ds.take i).map ddE)),.bag (tkB X)] /\
  TryOk l L X R' (b + i) /\ doR l R ds = doR l R' (ds.drop i) /\ i <= ds.length /\ k = ds.length - i
set_option maxRecDepth 8000 in
set_option maxHeartbeats 16000000 in
theorem run2_spec {l:List Tb} {L:List Trw} {c:Nat} {log:List UInt8} {n m ends:Int} {R:List (List Rw)} {b:Nat} {ds:List Dd} {f:Bool}
 (hR:RsOk l R (fun k=>alk k L) b) (ht:∀ d ∈ ds,TextsOk d.r) (hn:∀ d ∈ ds,∀ v ∈ d.r,I64 v.n) (hds:ds.length <= 1000) (hb:b < 900000) (hnn:0 <= n /\ n < 1000000000) (he:ends = 7 \/ ends = 8) (hs:log.length + 1000020 * (ds.length + 2) <= 800000000)
 (hE:(doR l R ds).2 ≠ 0 -> Q (.tup [.nilm,fI (doR l R ds).2]) (srcH l L c log n m ++ [.buf (dds ds),.dead]))
 (hO:(doR l R ds).2 = 0 -> ∀ (X:List Trw) cx,RsOk l (doR l R ds).1 (fun k=>(alk k X).or (alk k L)) (b + ds.length) -> NodupN X -> (∀ k,alk k X ≠ none -> atT l k ≠ none) ->
  Q (.tup [.map 3,fI 0]) (srcH l L c (tellL log (mkE 2 n :: (ds.map ddE ++ [mkE ends n]))) (n + 1) m ++ [.buf (dds ds),.pmap (kvOf trF X) cx,.dead])) :
 ACall Tryz.prog 41 3 [.ptr 0 0,.ms 3 2 0 ds.length f,fI ends] (srcH l L c log n m ++ [.buf (dds ds)]) Q:=by
 refine ACall.unbag (ACall.ret (by_body Tryz.func41 3 rfl (nbZ rfl) ?_));have hl:=hR.tbs;have hdl:=dds_len ds
 conv=>whnf
 refine ⟨⟨[0,2,8,16,17,18],runInv2 l L c log n m ends ds f R b,?_,?_⟩⟩
 . refine .frz (ds.length + 1) (.adopt (.adopt (.sub [.ptr 0 0,fI ends,.ptr 4 0,.ms 3 2 0 ds.length f,fI ds.length,fI 0] (srcH l L c log n m ++ [.buf (dds ds),.pmap [] 0,.cells [.ptr 0 0,.map 3,.ms 12 5 0 0 false],.buf [],.bag []]) (VSubs.refl _) ?_ (.go [0,1,2,4,3,5,6] rfl ds.length (by omega) ⟨0,[],R,0,rfl,rfl,?_,rfl,by omega,rfl⟩))))
   . refine .cons (.refl _) (.cons (.refl _) (.cons (.refl _) (.cons (.pmap0 0) (.cons (.cells (.cons (.refl _) (.cons (.refl _) (.cons (VSub.ms0 12 5 0 false) .nil)))) (.cons (.refl _) (.cons (.bag0 _) HSub.nil))))))
   . exact ⟨hR,NodupN.nil,fun k hk=>absurd rfl hk⟩
 rintro k ws H ⟨i,X,R', cx,rfl,rfl,hX,hdr,hi,rfl⟩
 conv=>whnf
 refine branch_i (fun c1=>?_) (fun c1=>?_)<;>try rw [c1]<;>conv=>whnf
 . have c1' := dtZ c1;have hil:i < ds.length:=by omega
   have hg:ds[i]? = some ds[i]:=lgZ hil;have hdr' : ds.drop i = ds[i] :: ds.drop (i + 1):=List.drop_eq_getElem_cons hil;have hti:(ds.take (i + 1)).map ddE = (ds.take i).map ddE ++ [ddE ds[i]]:=by rw [List.take_add_one,hg,List.map_append]; rfl
   have htd:=ht ds[i] (List.getElem_mem hil);rw [hdr'] at hdr;generalize ds[i] = d at *;refine ⟨⟨by omega,by omega⟩,?_⟩
   conv=>whnf
   refine ⟨_,dds_get hg,?_⟩
   conv=>whnf
   refine .call [0,1,3,4,5,6] 4 ⟨rfl,rfl,rfl⟩ (do_spec hX htd (by omega) (by simp; omega) (fun he o2 o3=>?_) fun he X' cx' hX' => ?_)
   . have:doR l R ds = (R', ddErr l R' d):=by rw [hdr]; unfold doR; rw [if_neg he]
     rw [this] at hE;have hE:Q (.tup [.nilm,fI (ddErr l R' d)]) (srcH l L c log n m ++ [.buf (dds ds),.dead]):=hE he;generalize ddErr l R' d = er at *
     conv=>whnf
     rw [show (!decide (er = 0)) = true by simp [he]]
     conv=>whnf
     refine ⟨[0,1,2],rfl,.adopt (.sub _ (srcH l L c log n m ++ [O.buf (dds ds),O.bag []]) (.refl _) (.cons (.refl _) (.cons (.refl _) (.cons (.refl _) (.cons (.bag0 _) HSub.nil)))) (.done [0,1,2,3] rfl ⟨3,1,c,[],trKV L,trKV L,by decide,rfl,rfl,rfl,fun _ x y hx hy=>.inl ?_,hE⟩))⟩
     rw [hx] at hy; exact (Option.some.inj hy).symm
   . conv=>whnf
     refine .go [0,1,2,3,4,5,6] rfl (ds.length - (i + 1)) (by omega) ⟨i + 1,X', ddR l R' d,cx', ?_,?_,hX', ?_,by omega,rfl⟩
     . show [V.ptr 0 0,fI ends,.ptr 3 0,.ms 3 2 0 ds.length f,fI ds.length,.int .i64 (IntKind.i64.wrap ((i:Int) + 1))] = _
       rw [wrapL (by omega)]; rfl
     . rw [hti]; rfl
     . rw [hdr]; exact doR_ok _ he
 . have c1' := dfZ c1;have hie:i = ds.length:=by omega
   subst hie;have hdo:doR l R ds = (R', 0):=by rw [hdr,List.drop_length]; rfl
   have hev:=doR_may hl (ds:=ds) (R:=R) (by rw [hdo]) ht hn
   rw [List.take_length];rw [hdo] at hO;have hml:(ds.map ddE).length = ds.length:=by simp
   generalize hme:ds.map ddE = es at *;have hel:=evs_len es;refine ACalls.frz 7 rfl rfl (by repeat (first | exact trivial | refine And.intro (by first | omega | exact Nat.le_refl 1) ?_)) ?_
   refine ACalls.sub [.ptr 0 0,.sl 12 (evs [mkE 2 n]) true] _ rfl (.cons (.refl _) (.cons (mr_row 2 n true) (VSubs.refl _))) (HSub.refl _) ?_;refine .call [0,1] 2 ⟨rfl,rfl,rfl⟩ (STell_spec (l:=l) (L:=L) (c:=c) (log:=log) (n:=n) (m:=m) hl (fun e he=>by
    rw [List.mem_singleton.1 he];exact ⟨mkE_may rfl (by omega),mkE_n (by unfold I64; omega),evt0 _ _ _⟩) (by simp; omega) ?_)
   have htl1:=tellL_len hl [mkE 2 n] log (fun e he=>by rw [List.mem_singleton.1 he]; exact ⟨mkE_may rfl (by omega),mkE_n (by unfold I64; omega)⟩)
   generalize hl1:tellL log [mkE 2 n] = log1 at *
   conv=>whnf
   refine ACalls.frz 5 rfl rfl (by repeat (first | exact trivial | refine And.intro (by omega) ?_)) ?_
   refine ACalls.sub [.ptr 0 0,.sl 12 (evs es) false] _ rfl (.cons (.refl _) (.cons (VSub.eq (congrArg (fun z=>V.sl 12 z false) (by rw [List.drop_zero,<- hel,List.take_length]))) (VSubs.refl _))) (HSub.refl _) ?_
   refine .call [0,1] 2 ⟨rfl,rfl,rfl⟩ (STell_spec (l:=l) (L:=L) (c:=c) (log:=log1) (n:=n) (m:=m) (f:=false) (es:=es) hl hev (by simp at htl1; omega) ?_)
   have htl2:=tellL_len hl es log1 (fun e he=>⟨(hev e he).1,(hev e he).2.1⟩)
   have hlog:tellL (tellL log1 es) [mkE ends n] = tellL log (mkE 2 n :: (es ++ [mkE ends n])):=by
    rw [<- hl1,<- tellL_app,<- tellL_app]; rfl
   generalize tellL log1 es = log2 at *
   conv=>whnf
   refine ACalls.frz 8 rfl rfl (by repeat (first | exact trivial | refine And.intro (by first | omega | exact Nat.le_refl 1) ?_)) ?_
   refine ACalls.sub [.ptr 0 0,.sl 12 (evs [mkE ends n]) true] _ rfl (.cons (.refl _) (.cons (mr_row ends n true) (VSubs.refl _))) (HSub.refl _) ?_;refine .call [0,1] 2 ⟨rfl,rfl,rfl⟩ (STell_spec (l:=l) (L:=L) (c:=c) (log:=log2) (n:=n) (m:=m) hl (fun e he' => by
    rw [List.mem_singleton.1 he'];exact ⟨mkE_may (by rcases he with rfl | rfl<;>rfl) (by omega),mkE_n (by unfold I64; omega),evt0 _ _ _⟩) (by simp at htl1 ⊢; omega) ?_)
   rw [hlog]
   conv=>whnf
   rw [wrapI (by omega)]
   refine ⟨[0,1,2,4,6],rfl,.done [0,1,2,3,4] rfl ⟨4,3,cx,tkB X,kvOf tkF X,kvOf trF (unX X),by decide,rfl,rfl,by simp [kvOf,unX],fun i x y hx hy=>.inr (unX_kv hx hy),?_⟩⟩
   exact hO rfl (unX X) cx (by rw [vw_unX]; exact hX.rs) (unX_nodup hX.nd) fun k hk=>hX.dom k fun hk2=>hk (by rw [alk_unX,hk2]; rfl)
theorem Undo2_spec {s:SS} {L:List Trw} {c:Nat} {b:Nat} {ds:List Dd} {f:Bool} (hS:SrcOk s L b) (hB:SrcB s 1000000) (hd:∀ d ∈ ds,DdIn d) (hds:ds.length <= 1000) (hb:b < 900000) (hs:s.log.length + 1000020 * (ds.length + 2) <= 800000000)
 (h:SrcOk (doS s ds true).1 L b -> Q (fI (doS s ds true).2) (srcS (doS s ds true).1 L c ++ [.buf (dds ds)])) :
 ACall Tryz.prog 20 3 [.ptr 0 0,.ms 3 2 0 ds.length f] (srcS s L c ++ [.buf (dds ds)]) Q:=by
 refine by_body Tryz.func20 3 rfl (nbZ rfl) ?_;have h1:=hB.n0; have h2:=hB.n1
 conv=>whnf
 refine .call [0,1,2] 3 ⟨rfl,rfl,rfl⟩ (run2_spec (ends:=8) hS.rs (fun d hd' => (hd d hd').t) (fun d hd' => (hd d hd').n) hds hb ⟨h1,by omega⟩ (.inr rfl) hs (fun he=>?_) fun he X cx _ _ _=>?_)
 . rw [doS_no he] at h;have h:=h hS;generalize (doR s.l s.R ds).2 = er at *
   conv=>whnf
   exact ⟨[0,1,2],rfl,h⟩
 . rw [doS_ok he] at h;have h:=h ⟨hS.rs,hS.nd,hS.dom⟩
   conv=>whnf
   exact ⟨[0,1,2],rfl,h⟩
def doInv2 (l:List Tb) (ds:List Dd) (L X:List Trw) (log:List UInt8) (n m:Int) (k:Nat) (ws:List V) (H:List O):Prop :=
 ∃ (Lf L' : List Trw) (c' : Nat) (B:List Nat) (cur:Option (V × V)),ws = [.ptr 0 0,.ptr 3 0] /\ H = srcH l L' c' log n m ++ [.buf (dds ds),.miter B (kvOf trF Lf) cur] /\ NodupN Lf /\ NodupN L' /\
  (∀ k,alk k Lf = none -> alk k L' = (alk k X).or (alk k L)) /\ (∀ k a,alk k Lf = some a -> alk k X = some a /\ alk k L' = alk k L) /\ k = Lf.length
theorem Do2_spec {s:SS} {L:List Trw} {c:Nat} {b:Nat} {ds:List Dd} {f:Bool} (hS:SrcOk s L b) (hB:SrcB s 1000000) (hd:∀ d ∈ ds,DdIn d) (hds:ds.length <= 1000) (hb:b < 900000) (hs:s.log.length + 1000020 * (ds.length + 2) <= 800000000)
 (h:∀ L' c', SrcOk (doS s ds false).1 L' (b + ds.length) -> Q (fI (doS s ds false).2) (srcS (doS s ds false).1 L' c' ++ [.buf (dds ds)])) :
 ACall Tryz.prog 21 3 [.ptr 0 0,.ms 3 2 0 ds.length f] (srcS s L c ++ [.buf (dds ds)]) Q:=by
 refine by_body Tryz.func21 3 rfl (nbZ rfl) ?_;have h1:=hB.n0; have h2:=hB.n1; have h3:=hB.m0; have h4:=hB.m1
 conv=>whnf
 refine .call [0,1,2] 3 ⟨rfl,rfl,rfl⟩ (run2_spec (ends:=7) hS.rs (fun d hd' => (hd d hd').t) (fun d hd' => (hd d hd').n) hds hb ⟨h1,by omega⟩ (.inl rfl) hs (fun he=>?_) fun he X cx hX hXn hXd=>?_)
 . rw [doS_no he] at h;have h:=h L c (hS.mono (Nat.le_add_right _ _));generalize (doR s.l s.R ds).2 = er at *
   conv=>whnf
   rw [show (!decide (er = 0)) = true by simp [he]]
   conv=>whnf
   exact ⟨[0,1,2],rfl,h⟩
 rw [doS_ok he] at h;simp only [Bool.false_eq_true,if_false] at h;generalize tellL s.log (mkE 2 s.n :: (ds.map ddE ++ [mkE 7 s.n])) = log' at *;generalize (doR s.l s.R ds).1 = R' at *
 conv=>whnf
 intro B
 conv=>whnf
 refine ⟨⟨[0,19],doInv2 s.l ds L X log' (s.n + 1) s.m,?_,?_⟩⟩
 . exact .frz (X.length + 1) (.go [0,1,2,5] rfl X.length (by omega) ⟨X,L,c,B,none,rfl,rfl,hXn,hS.nd,fun k hk=>by rw [hk]; rfl,fun k a hk=>⟨hk,rfl⟩,rfl⟩)
 rintro k ws H ⟨Lf,L', c', B', cur,rfl,rfl,n1,n2,a1,a2,rfl⟩
 conv=>whnf
 refine ⟨fun hnil=>?_,fun j kv hj=>?_⟩
 . have hLf:Lf = []:=List.map_eq_nil_iff.1 hnil;subst hLf;have hlk:(fun k=>alk k L') = fun k=>(alk k X).or (alk k L):=funext fun k=>a1 k rfl
   have h:=h L' c' ⟨by rw [hlk]; exact hX,n2,fun k hk=>by
    rw [a1 k rfl] at hk;cases hx:alk k X with
    | some a=>exact hXd k (by rw [hx]; simp)
    | none=>rw [hx] at hk; exact hS.dom k hk⟩
   conv=>whnf
   rw [wrapI (by omega)]
   exact ⟨[0,1,2],rfl,h⟩
 . obtain ⟨⟨nm,T,tm⟩,hx,rfl⟩:=kvOf_get hj;have hin:=alk_in n1 (List.mem_of_getElem? hx);obtain ⟨e1,e2⟩:=alk_erase n1 hx;have hjl:=(liZ.1 hx).1;have hlen:(Lf.eraseIdx j).length = Lf.length - 1:=by rw [List.length_eraseIdx,if_pos hjl]
   have next:∀ (L2:List Trw),NodupN L2 -> (∀ k,alk k L2 = if k = nm then some (T,tm) else alk k L') ->
    (∀ k,alk k (Lf.eraseIdx j) = none -> alk k L2 = (alk k X).or (alk k L)) /\ (∀ k a,alk k (Lf.eraseIdx j) = some a -> alk k X = some a /\ alk k L2 = alk k L):=fun L2 hn2 hl2=>by
    refine ⟨fun k hk=>?_,fun k a hk=>?_⟩
    . rw [e2] at hk;rw [hl2];by_cases hkn:k = nm
      . subst hkn; rw [if_pos rfl,(a2 _ _ hin).1]; rfl
      . rw [if_neg hkn] at hk ⊢; exact a1 k hk
    . rw [e2] at hk;by_cases hkn:k = nm
      . rw [if_pos hkn] at hk; cases hk
      . rw [if_neg hkn] at hk; rw [hl2,if_neg hkn]; exact a2 k a hk
   conv=>whnf
   refine find_kv (fun hn=>?_) (fun j2 a ha hj2=>?_)
   . obtain ⟨q1,q2⟩:=alk_app (b:=(T,tm)) n2 hn;obtain ⟨q3,q4⟩:=next _ q1 q2
     conv=>whnf
     refine .go [0,1,2,3] rfl (Lf.length - 1) (by omega) ⟨Lf.eraseIdx j,L' ++ [(nm,T,tm)],c' + 1,B', some (.str nm,trF (T,tm)),rfl,?_,e1,q1,q3,q4,hlen.symm⟩
     rw [<- kvOf_erase,srcH_app];rfl
   . obtain ⟨q1,q2⟩:=alk_set (b:=(T,tm)) n2 hj2;obtain ⟨q3,q4⟩:=next _ q1 q2
     conv=>whnf
     refine .go [0,1,2,3] rfl (Lf.length - 1) (by omega) ⟨Lf.eraseIdx j,L'.set j2 (nm,T,tm),c', B', some (.str nm,trF (T,tm)),rfl,?_,e1,q1,q3,q4,hlen.symm⟩
     rw [<- kvOf_erase,srcH_set];rfl
end
section
variable {Q:V -> List O -> Prop}
theorem doR_snocE {l:List Tb} {d:Dd}:∀ {ds:List Dd} {R R' : List (List Rw)},doR l R ds = (R', 0) -> ddErr l R' d ≠ 0 -> doR l R (ds ++ [d]) = (R', ddErr l R' d)
 | [],R,R', h,hd=>by
  cases h;exact if_neg hd
 | e :: ds,R,R', h,hd=>by
  by_cases he:ddErr l R e = 0
  . rw [doR_ok ds he] at h;rw [List.cons_append,doR_ok _ he];exact doR_snocE h hd
  . have:doR l R (e :: ds) = (R,ddErr l R e):=if_neg he;rw [this] at h;exact absurd (Prod.mk.inj h).2 he
def badD:Dd:=⟨1,[110,111,110,101,32,97,116,32,97,108,108],[]⟩
theorem bad_name:nameOk badD.t = false:=by kernel_rfl
theorem bad_err {l:List Tb} (hl:TbsB l) (R:List (List Rw)):ddErr l R badD = 7:=by
 have ha:atT l badD.t = none:=by
  cases h:atT l badD.t with
  | none=>rfl
  | some i =>
   obtain ⟨t,h1,h2,_⟩:=atT_get h;have:=(hl.ok.each t (List.mem_of_getElem? h1)).name;rw [h2,bad_name] at this;cases this
 unfold ddErr;rw [if_neg (by show ¬ ((1:Int) < 1 \/ 3 < (1:Int)); decide),ha]
theorem bad_in:DdIn badD:=⟨fun v hv=>by simp [badD] at hv,fun v hv=>by simp [badD] at hv⟩
def undInv (l:List Ask) (f:Bool) (ds:List Dd) (f2:Bool) (k:Nat) (ws:List V) (H:List O):Prop :=
 ∃ (i:Nat) (s:SS) (L:List Trw) (c:Nat),ws = [.sl 11 (asksL l) f,.sl 3 (dds ds) f2,.ptr 0 0,.ptr 2 0,fI i,.bool false] /\ H = srcS s L c ++ [.cells (sC s)] /\ SrcOk s L (6 * i) /\ Stand s i /\ i <= 15 /\ i <= l.length /\ k = l.length - i
theorem any_ask:AskIn ⟨0,[],chg0,[],0⟩:=⟨fun d hd=>by simp at hd,⟨by decide,by decide⟩,⟨by decide,by decide⟩,fun c hc=>by simp [chg0] at hc⟩
set_option maxRecDepth 8000 in
set_option maxHeartbeats 32000000 in
theorem SourceUndoes_spec {l:List Ask} {f:Bool} {ds:List Dd} {f2:Bool} (hl:∀ a ∈ l,AskIn a) (hds:∀ d ∈ ds,DdIn d):ACall Tryz.prog 4 0 [.sl 11 (asksL l) f,.sl 3 (dds ds) f2] [] (fun v _=>v = .bool true):=by
 refine by_body Tryz.func4 0 rfl (nbZ rfl) ?_;have hal:=asksL_len l
 conv=>whnf
 refine .call [] 0 ⟨rfl,rfl,rfl⟩ (SNew_spec ?_)
 conv=>whnf
 refine .pure (R10New_spec ⟨rfl,?_⟩)
 conv=>whnf
 refine ⟨⟨[0,1,5,6,7,4],undInv l f ds f2,.at _ ⟨0,ss0,[],0,rfl,rfl,src0_ok,stand0,by omega,by omega,rfl⟩,?_⟩⟩
 rintro k ws H ⟨i,s,L,c,rfl,rfl,hok,hst,hi25,hi,rfl⟩
 conv=>whnf
 have rest:True:=trivial;refine branch_i (fun c1=>?_) (fun c1=>?_)<;>try rw [c1]<;>conv=>whnf
 focus refine branch_i (fun c2=>?_) (fun c2=>?_)<;>try rw [c2]<;>conv=>whnf
 focus
  have c1' := dtZ c1;have hil:i < l.length:=by omega
  have c2' := dtZ c2;have hg:l[i]? = some l[i]:=lgZ hil;have ha:=hl l[i] (List.getElem_mem hil);generalize l[i] = a at *;refine ⟨List.range 13,by kernel_rfl,by kernel_rfl,?_⟩
  conv=>whnf
  refine ⟨_,⟨by omega,asksL_get hg⟩,?_⟩
  conv=>whnf
  refine .call [0,1] 2 ⟨rfl,rfl,rfl⟩ (asks_spec (a:=a) hok (hst.b.mono (by omega)) ha (by omega) (hst.small (by omega)) fun s' L' c' hs' hok' => ?_)
  have hst' := hst.step (by omega) hok.rs.tbs ha hs'
  repeat (conv=>whnf
          first | (refine ⟨rfl,?_⟩) | (refine ⟨⟨_,⟨by omega,asksL_get hg⟩,rfl⟩,?_⟩))
  conv=>whnf
  refine .go [0,1,2] rfl (l.length - (i + 1)) (by omega) ⟨i + 1,s', L', c', ?_,rfl,by rw [Nat.mul_succ]; exact hok', hst', by omega,by omega,rfl⟩
  show [V.sl 11 (asksL l) f,.sl 3 (dds ds) f2,.ptr 0 0,.ptr 2 0,.int .i64 (IntKind.i64.wrap ((i:Int) + 1)),.bool false] = _
  rw [wrapE (by omega)]; rfl
 all_goals
  clear c1;have hD:=hok.rs.doc;have hb1:=hst.b.n0; have hb2:=hst.b.n1; have hb3:=hst.b.m0; have hb4:=hst.b.m1;refine .call [0,1] 2 ⟨rfl,rfl,rfl⟩ (SMany_spec (l:=s.l) (L:=L) (c:=c) (log:=s.log) (n:=s.n) (m:=s.m) ?_)
  conv=>whnf
  refine .call [0,1] 2 ⟨rfl,rfl,rfl⟩ (SSize_spec (l:=s.l) (L:=L) (c:=c) (log:=s.log) (n:=s.n) (m:=s.m) ?_)
  conv=>whnf
  refine .call [] 0 ⟨rfl,rfl,rfl⟩ (RGoods_spec (b:=6 * i) hD (by omega) hds fun acc hdo hin h6=>?_)
  conv=>whnf
  have hsm:=hst.small (by omega)
  have dolen:∀ n:Nat,n <= 7 -> s.log.length + 1000020 * (n + 2) <= 800000000:=fun n h7=>Nat.le_trans (Nat.add_le_add_left (Nat.mul_le_mul_left _ (show n + 2 <= 9 by omega)) _) (Nat.le_trans (show s.log.length + 1000020 * 9 <= s.log.length + 1000020 * 8 + 1000020 by rw [Nat.add_assoc]; exact Nat.le_refl _) (Nat.le_trans (Nat.add_le_add_right hsm _) (by decide)))
  refine .call [0,1,3] 3 ⟨rfl,rfl,rfl⟩ (Undo2_spec (c:=c) (f:=false) hok (hst.b.mono (by omega)) hin (by omega) (by omega) (dolen _ (by omega)) fun hok1=>?_)
  have hst1:=hst.step (by omega) hok.rs.tbs any_ask (.tx acc true hin h6 fun h=>by cases h)
  have hlt:=(doS_stand (u:=true) hok.rs.tbs hin h6 ⟨hb1,by omega⟩).2.2
  have e:doS s acc true = (⟨s.l,s.R,tellL s.log (mkE 2 s.n :: (acc.map ddE ++ [mkE 8 s.n])),s.n + 1,s.m⟩,0):=by rw [doS_ok hdo]; rfl
  rw [e] at hok1 hst1 hlt ⊢;have hlog:s.log.length < (tellL s.log (mkE 2 s.n :: (acc.map ddE ++ [mkE 8 s.n]))).length:=by
   rcases hlt with h | ⟨_,_,h⟩
   . have:=congrArg SS.n h;simp only at this;omega
   . exact h
  clear hlt e;generalize tellL s.log (mkE 2 s.n :: (acc.map ddE ++ [mkE 8 s.n])) = log1 at *;simp only at hok1 hst1;have hS1:SrcOk ⟨s.l,s.R,log1,s.n + 1,s.m⟩ L (6 * i):=hok1;have hst2:Stand ⟨s.l,s.R,log1,s.n + 1,s.m⟩ (i + 1):=hst1
  conv=>whnf
  refine .call [0,1] 2 ⟨rfl,rfl,rfl⟩ (SMany_spec (l:=s.l) (L:=L) (c:=c) (log:=log1) (n:=s.n + 1) (m:=s.m) ?_)
  conv=>whnf
  rw [show decide (s.m = s.m) = true from decide_eq_true rfl]
  conv=>whnf
  refine .call [0,1] 2 ⟨rfl,rfl,rfl⟩ (SSize_spec (l:=s.l) (L:=L) (c:=c) (log:=log1) (n:=s.n + 1) (m:=s.m) ?_)
  conv=>whnf
  rw [show decide ((log1.length:Int) <= (s.log.length:Int)) = false from decide_eq_false (by omega)]
  conv=>whnf
  refine .call [0,1] 2 ⟨rfl,rfl,rfl⟩ (SSize_spec (l:=s.l) (L:=L) (c:=c) (log:=log1) (n:=s.n + 1) (m:=s.m) ?_)
  conv=>whnf
  have hda:=dds_len acc;refine ⟨Nat.le_refl 1,?_⟩;refine app_gen (X:=dds acc) (ys:=[[fI 1,.str [110,111,110,101,32,97,116,32,97,108,108],.nils]]) rfl rfl hda.symm (show ((dds acc).length + 1) * 48 <= 70368744177664 by omega) ?_
  conv=>whnf
  have hdb:=doR_snocE (d:=badD) (R' := (doR s.l s.R acc).1) (show doR s.l s.R acc = (_,0) by rw [<- hdo]) (by rw [bad_err hok.rs.tbs]; decide)
  rw [bad_err hok.rs.tbs] at hdb;have hin2:∀ d ∈ acc ++ [badD],DdIn d:=fun d hd=>by
   rcases List.mem_append.1 hd with h | h
   . exact hin d h
   . rw [List.mem_singleton.1 h]; exact bad_in
  have hln2:(acc ++ [badD]).length = acc.length + 1:=by simp
  have dolen2:log1.length + 1000020 * ((acc ++ [badD]).length + 2) <= 800000000:=by
   have:=hst2.small (by omega)
   rw [hln2];exact Nat.le_trans (Nat.add_le_add_left (Nat.mul_le_mul_left _ (show acc.length + 1 + 2 <= 9 by omega)) _) (Nat.le_trans (show log1.length + 1000020 * 9 <= log1.length + 1000020 * 8 + 1000020 by rw [Nat.add_assoc]; exact Nat.le_refl _) (Nat.le_trans (Nat.add_le_add_right this _) (by decide)))
  have hhs:HSub (srcS ⟨s.l,s.R,log1,s.n + 1,s.m⟩ L c ++ [O.cells (sC s),O.dead,O.buf [[fI 1,.str [110,111,110,101,32,97,116,32,97,108,108],.nils]],O.buf (dds acc ++ [[fI 1,.str [110,111,110,101,32,97,116,32,97,108,108],.nils]])]) (srcS ⟨s.l,s.R,log1,s.n + 1,s.m⟩ L c ++ [O.cells (sC s),O.dead,O.buf [[fI 1,.str [110,111,110,101,32,97,116,32,97,108,108],.nils]],O.buf (dds (acc ++ [badD]))]):=by
   rw [dds_snoc];refine .cons (.refl _) (.cons (.refl _) (.cons (.refl _) (.cons (.refl _) (.cons (.refl _) (.cons (buf_snocG ?_) .nil)))));exact .cons (.refl _) (.cons (.refl _) (.cons (nils_sl3 false) .nil))
  refine ACalls.sub [.ptr 0 0,.ms 3 5 0 (acc ++ [badD]).length false] (srcS ⟨s.l,s.R,log1,s.n + 1,s.m⟩ L c ++ [O.cells (sC s),O.dead,O.buf [[fI 1,.str [110,111,110,101,32,97,116,32,97,108,108],.nils]],O.buf (dds (acc ++ [badD]))]) rfl (.cons (.refl _) (.cons (VSub.eq (congrArg (fun n=>V.ms 3 5 0 n false) (show (dds acc).length + 1 = _ by rw [hda,hln2]))) .nil)) hhs ?_
  refine .call [0,1,5] 3 ⟨rfl,rfl,rfl⟩ (Do2_spec (s:=⟨s.l,s.R,log1,s.n + 1,s.m⟩) (L:=L) (c:=c) (b:=6 * i) hS1 (hst2.b.mono (by omega)) hin2 (by omega) (by omega) dolen2 fun L' c' hok2=>?_)
  have hds2:∀ u,doS ⟨s.l,s.R,log1,s.n + 1,s.m⟩ (acc ++ [badD]) u = (⟨s.l,s.R,log1,s.n + 1,s.m⟩,7):=fun u=>by rw [doS_no (by rw [hdb]; exact (by decide:(7:Int) ≠ 0)),hdb]
  rw [hds2] at hok2 ⊢
  conv=>whnf
  refine ACalls.sub [.ptr 0 0,.ms 3 5 0 (acc ++ [badD]).length false] _ rfl (.cons (.refl _) (.cons (VSub.eq (congrArg (fun n=>V.ms 3 5 0 n false) (show (dds acc).length + 1 = _ by rw [hda,hln2]))) .nil)) (HSub.refl _) ?_
  refine .call [0,1,5] 3 ⟨rfl,rfl,rfl⟩ (Undo2_spec (s:=⟨s.l,s.R,log1,s.n + 1,s.m⟩) (L:=L') (c:=c') (f:=false) hok2 (hst2.b.mono (by omega)) hin2 (by omega) (by omega) dolen2 fun hok3=>?_)
  rw [hds2] at hok3 ⊢
  conv=>whnf
  refine .call [0,1] 2 ⟨rfl,rfl,rfl⟩ (SSize_spec (l:=s.l) (L:=L') (c:=c') (log:=log1) (n:=s.n + 1) (m:=s.m) ?_)
  conv=>whnf
  rw [show decide ((log1.length:Int) = (log1.length:Int)) = true from decide_eq_true rfl]
  conv=>whnf
  refine .call [0,1] 2 ⟨rfl,rfl,rfl⟩ (SMany_spec (l:=s.l) (L:=L') (c:=c') (log:=log1) (n:=s.n + 1) (m:=s.m) ?_)
  conv=>whnf
  rw [show decide (s.m = s.m) = true from decide_eq_true rfl]
  conv=>whnf
  have hl' : TbsB s.l:=hok2.rs.tbs;have hfew:=hl'.few;have hlt:=tbs_len s.l;have hrl:=rrs_len s.R;have hlen:=hok2.rs.len;refine ⟨⟨[5,6,14,4],fun k ws H=>∃ i:Nat,ws = [.ptr 0 0,.ptr 2 0,fI i,.bool false] /\ H = srcS ⟨s.l,s.R,log1,s.n + 1,s.m⟩ L' c' ++ [.cells (sC s)] /\ i <= s.l.length /\ k = s.l.length - i,.frz (s.l.length + 1) (.go [0,1,2] rfl s.l.length (by omega) ⟨0,rfl,rfl,Nat.zero_le _,rfl⟩),?_⟩⟩
  rintro k ws H ⟨j,rfl,rfl,hi,rfl⟩
  conv=>whnf
  refine branch_i (fun c1=>?_) (fun c1=>?_)<;>try rw [c1]<;>conv=>whnf
  rotate_left
  . refine .pure (lives10_spec ⟨rfl,?_⟩)
    conv=>whnf
    exact ⟨[],rfl,rfl⟩
  have c1' := dtZ c1;have hil:j < s.l.length:=by omega
  have hti:s.l[j]? = some s.l[j]:=lgZ hil;generalize s.l[j] = t at hti;obtain ⟨rs,hRi,hgd,hro,hrb⟩:=hok2.rs.doc.get hti;have htk:=hl'.tbk (List.mem_of_getElem? hti);have hrows:rowsS ⟨s.l,s.R,log1,s.n + 1,s.m⟩ t.n = rs:=by unfold rowsS; rw [at_self hl'.ok.sorted hti]; exact hgd
  refine ⟨[0,1,2,3,4,5,6,8,9,10,11,12,7,13,14],by kernel_rfl,by kernel_rfl,?_⟩
  conv=>whnf
  refine ⟨_,⟨by omega,tbs_get hti⟩,?_⟩
  conv=>whnf
  refine ⟨_,⟨by omega,rrs_get hRi⟩,?_⟩
  conv=>whnf
  refine .call [0,1] 2 ⟨rfl,rfl,rfl⟩ (SRows_spec (table:=t.n) hok2 (by omega) ?_)
  rw [hrows]
  repeat (conv=>whnf
          first | (refine ⟨rfl,?_⟩) | (refine ⟨⟨_,⟨by omega,tbs_get hti⟩,rfl⟩,?_⟩) | (refine ⟨⟨_,⟨by omega,rrs_get hRi⟩,rfl⟩,?_⟩))
  conv=>whnf
  refine .pure (SameRows_spec (l:=rs) (by omega) (fun r hr=>by have:=fits_len' (hro.fit r hr); have:=htk.few; omega) ⟨rfl,?_⟩)
  repeat (conv=>whnf
          first | (refine ⟨rfl,?_⟩) | (refine ⟨⟨_,⟨by omega,tbs_get hti⟩,rfl⟩,?_⟩) | (refine ⟨⟨_,⟨by omega,rrs_get hRi⟩,rfl⟩,?_⟩))
  conv=>whnf
  refine .go [0,1,2] rfl (s.l.length - (j + 1)) (by omega) ⟨j + 1,?_,rfl,by omega,rfl⟩
  show [V.ptr 0 0,.ptr 2 0,.int .i64 (IntKind.i64.wrap ((j:Int) + 1)),.bool false] = _
  rw [wrapE (by omega)]; rfl
end
end Go.Proofs.YteiagdlfccbpcaaGreatDoorPg
