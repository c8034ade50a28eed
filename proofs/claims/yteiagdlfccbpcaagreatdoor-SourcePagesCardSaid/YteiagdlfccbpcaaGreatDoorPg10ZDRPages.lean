/- For every input the law SourcePages returns true: the tied card. Conditions: those of its card. -/
import Derived.Test.YteiagdlfccbpcaaGreatDoorPgM21
import Derived.Test.YteiagdlfccbpcaaGreatDoorCards
import Derived.Test.YteiagdlfccbpcaaGreatDoorTie
import Derived.Test.YteiagdlfccbpcaaGreatDoorRows
import Derived.Lay
import Derived.LaidOnce
import Derived.PinnedBridge
import Derived.Lib.LaidU8T
import Derived.SevenTiedAt
namespace Go.Proofs.YteiagdlfccbpcaaGreatDoor
open Go.ChangeShapes Go.WideShapes Go.ChangeAt Go.RowKit Go.Proofs.YteiagdlfccbpcaaGreatDoorPg
theorem sourcePages_own:ownKnob Tryz.prog.godebug = none:=by kernel_rfl
theorem sourcePages_laidOut:laidOutB Tryz.prog = true:=by kernel_rfl
theorem sourcePages_extra:U8Extra Tryz.prog Tryz.laysValid_ren:=⟨by kernel_rfl,by kernel_rfl,by kernel_rfl,by kernel_rfl,by kernel_rfl,by kernel_rfl,by kernel_rfl⟩
theorem sourcePages_accept:(Rows.laid_unicode_utf8_acceptRanges:DataW Unit) = Go.Lib.acceptData:=by kernel_rfl
theorem sourcePages_first:Rows.laid_unicode_utf8_first = Go.Lib.firstData:=Pinned.utf8First_eq
theorem sourcePages_law (l:List V) (h:Shps tt 8 Tryz.f3.params.toList l):ACall Tryz.prog 3 0 l [] (fun v _=>v = .bool true):=by
 obtain ⟨v1,_,h1,⟨v2,_,⟨n,hn,rfl⟩,rfl,rfl⟩,rfl⟩:=h;obtain ⟨a,e1,ha⟩:=asks_in h1;have e2:argV tt 3 [.int .i64 n] = fI n:=rfl;rw [e1,e2];exact SourcePages_spec ha (i64_wf hn)
set_option maxRecDepth 100000 in
theorem sourcePages_lifted (os:Os) (started:os.Started) (H:Type) (enc:TypeId × Value -> H) :
 ReturnsInHanded {} Tryz.checked os 3 .any (fun w args=>(Rows.sourcePagesSpec.pre enc Tryz.prog Tryz.f3 [] false w args /\ laidMetH Tryz.prog Rows.sourcePagesRow.laid w) /\ sizedMet enc Tryz.prog Tryz.f3 (OpenSpec.ofChange Rows.sourcePagesSpec) false w args)
  (Rows.sourcePagesSpec.post enc Tryz.prog Tryz.f3 false true false false):=by
 refine returnsInHanded_of_change_and (C:=Tryz.checked) (X:=fun w _=>laidMetH Tryz.prog Rows.sourcePagesRow.laid w) (fun _ _ _ hh h=>h.of_heap hh) sourcePages_own started (by kernel_rfl) Tryz.func3
  (ChangeSpec.witness_shaped (enc:=enc) (C:=Tryz.checked) (os:=os) (X:=fun w _=>laidMetH Tryz.prog Rows.sourcePagesRow.laid w) false (World.laidAll Tryz.prog os Rows.sourcePagesRow.laid) #[.slice none 0 0,.int .i64 0] 8 (World.laidAll_os _ _ _)
   (World.shaped_of_ZipB (by kernel_rfl) (by kernel_rfl)) (by kernel_rfl) (by kernel_rfl) (by kernel_rfl)
   (by rw [MakeChecks.laidMetH_plain _ _ _ (by kernel_rfl)]; exact laidMet_laidAll _ (by kernel_rfl) (by kernel_rfl))) ?_
 intro W base args ds gs before hval hW _ hwts hL _;rw [MakeChecks.laidMetH_plain _ _ _ (by kernel_rfl)] at hL
 have hK:Globs.K (Im0 W):=gK_of (utf8Tabs_of_readsT (.of196 Tryz.laysValid) sourcePages_extra (sourcePages_first ▸ Go.Lib.laidMet.reads hL (.tail _ (.head _))) (sourcePages_accept ▸ Go.Lib.laidMet.reads hL (.head _)));exact law_contract (P:=Tryz.prog) tt_ok sourcePages_laidOut (fn:=Tryz.f3) (s:=Rows.sourcePagesSpec) 8 (by kernel_rfl) (tb:=4) (by kernel_rfl) Tryz.underlying4 rfl (fun H ds hd=>by
  rw [show Tryz.f3.params.size = 2 by kernel_rfl] at hd
  match ds,hd with
  | [d0,d1],_=>rfl) sourcePages_law W base args ds gs before hval hW hK (weights_in hW rfl hwts)
theorem sourcePages_holds:Rows.SourcePagesSaid :=
 OpenClaim.holds_of_wide 3 Tryz.f3 rfl rfl rfl rfl rfl rfl rfl ⟨rfl,rfl,rfl,rfl,rfl⟩ rfl rfl rfl rfl rfl (by kernel_rfl) Tryz.func3 (by kernel_rfl)
  (of_decide_eq_true (by kernel_rfl)) (by unfold Func.isWrapper; first | (rw [if_pos (by decide +kernel)]; kernel_rfl) | (rw [if_neg (by decide +kernel)]; exact ⟨rfl,rfl⟩))
  (fun os started H enc _=>sourcePages_lifted os started H enc)
theorem sourcePages_card_holds:Rows.SourcePagesCardSaid :=
 Claim7.holds_tied_plain_at .later [] [.data,.pinned] true (true, "3fc500998e8290c495f35db0f152216f3cea4a588f20684ef04c741cc2605672") false sourcePages_holds (fun _ h=>by cases h) (by kernel_rfl) (fun _ h=>by cases h) sourcePages_row_tie rfl ⟨rfl,rfl⟩ (by kernel_rfl) rfl
  (fun f fn hf hfn=>by
   obtain rfl:f = 3:=Option.some.inj ((show Tryz.prog.funcNamed "pantograph/pantographlaw10.SourcePages" = some 3 by kernel_rfl).symm.trans hf) |>.symm
   obtain rfl:fn = Tryz.f3:=(Option.some.inj (Tryz.func3.symm.trans hfn)).symm;exact ⟨by kernel_rfl,fun j t ht=>by
    rw [Tryz.params3] at ht;have hm:t ∈ [22,3]:=by simpa using Array.mem_of_getElem? ht
    have hall:([22,3].all fun u=>!Tryz.prog.wantsStandIn u) = true:=by kernel_rfl
    exact (show Tryz.prog.wantsStandIn t = false by simpa using List.all_eq_true.1 hall t hm)⟩)
  (by kernel_rfl)
#print axioms sourcePages_card_holds
end Go.Proofs.YteiagdlfccbpcaaGreatDoor
