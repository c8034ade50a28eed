/- For every input the law SourceTells returns true: the tied card. Conditions: those of its card. -/
import Derived.Test.YteiagdlfccbpcaaGreatDoorPgM21
import Derived.Test.YteiagdlfccbpcaaGreatDoorCards
import Derived.Test.YteiagdlfccbpcaaGreatDoorTie
import Derived.Test.YteiagdlfccbpcaaGreatDoorRows
import Derived.Lay
import Derived.LaidOnce
import Derived.PinnedBridge
import Derived.Lib.LaidU8T
import Derived.SevenTiedAt
namespace Go.Proofs.YteiagdlfccbpcaaGreatDoor
open Go.ChangeShapes Go.WideShapes Go.ChangeAt Go.RowKit Go.Proofs.YteiagdlfccbpcaaGreatDoorPg
theorem sourceTells_own:ownKnob Tryz.prog.godebug=none:=by kernel_rfl
theorem sourceTells_laidOut:laidOutB Tryz.prog=true:=by kernel_rfl
theorem sourceTells_extra:U8Extra Tryz.prog Tryz.laysValid_ren:=⟨by kernel_rfl,by kernel_rfl,by kernel_rfl,by kernel_rfl,by kernel_rfl,by kernel_rfl,by kernel_rfl⟩
theorem sourceTells_accept:(Rows.laid_unicode_utf8_acceptRanges:DataW Unit)=Go.Lib.acceptData:=by kernel_rfl
theorem sourceTells_first:Rows.laid_unicode_utf8_first=Go.Lib.firstData:=Pinned.utf8First_eq
theorem sourceTells_law (l:List V) (h:GC tt 8 Tryz.f7.params.toList l):ACall Tryz.prog 7 0 l [] (fun v _=>v = .bool true):=by
 obtain⟨v1,_,h1,rfl,rfl⟩:=h;obtain⟨a,e1,ha⟩:=GN h1;rw[e1];exact oM ha
set_option maxRecDepth 100000 in
theorem sourceTells_lifted (os:Os) (started:os.Started) (H:Type) (enc:TypeId × Value->H) :
 ReturnsInHanded {} Tryz.checked os 7 .any (fun w args=>(Rows.sourceTellsSpec.pre enc Tryz.prog Tryz.f7 [] false w args/\laidMetH Tryz.prog Rows.sourceTellsRow.laid w)/\sizedMet enc Tryz.prog Tryz.f7 (OpenSpec.ofChange Rows.sourceTellsSpec) false w args)
  (Rows.sourceTellsSpec.post enc Tryz.prog Tryz.f7 false true false false):=by
 refine returnsInHanded_of_change_and (C:=Tryz.checked) (X:=fun w _=>laidMetH Tryz.prog Rows.sourceTellsRow.laid w) (fun _ _ _ hh h=>h.of_heap hh) sourceTells_own started (by kernel_rfl) Tryz.func7
  (ChangeSpec.witness_shaped (enc:=enc) (C:=Tryz.checked) (os:=os) (X:=fun w _=>laidMetH Tryz.prog Rows.sourceTellsRow.laid w) false (World.laidAll Tryz.prog os Rows.sourceTellsRow.laid) #[.slice none 0 0] 8 (World.laidAll_os _ _ _)
   (World.shaped_of_ZipB (by kernel_rfl) (by kernel_rfl)) (by kernel_rfl) (by kernel_rfl) (by kernel_rfl)
   (by rw[MakeChecks.laidMetH_plain _ _ _ (by kernel_rfl)]; exact laidMet_laidAll _ (by kernel_rfl) (by kernel_rfl))) ?_
 intro W base args ds gs before hval hW _ hwts hL _;rw[MakeChecks.laidMetH_plain _ _ _ (by kernel_rfl)]at hL
 have hK:Globs.K (D3 W):=KG (utf8Tabs_of_readsT (.of196 Tryz.laysValid) sourceTells_extra (sourceTells_first ▸ Go.Lib.laidMet.reads hL (.tail _ (.head _))) (sourceTells_accept ▸ Go.Lib.laidMet.reads hL (.head _)));exact wy (P:=Tryz.prog) IT sourceTells_laidOut (fn:=Tryz.f7) (s:=Rows.sourceTellsSpec) 8 (by kernel_rfl) (tb:=4) (by kernel_rfl) Tryz.underlying4 rfl (fun H ds hd=>by
  rw[show Tryz.f7.params.size=1 by kernel_rfl]at hd
  match ds,hd with
  | [d0],_=>rfl) sourceTells_law W base args ds gs before hval hW hK (BH hW rfl hwts)
theorem sourceTells_holds:Rows.SourceTellsSaid :=
 OpenClaim.holds_of_wide 7 Tryz.f7 rfl rfl rfl rfl rfl rfl rfl ⟨rfl,rfl,rfl,rfl,rfl⟩ rfl rfl rfl rfl rfl (by kernel_rfl) Tryz.func7 (by kernel_rfl)
  (of_decide_eq_true (by kernel_rfl)) (by unfold Func.isWrapper; first | (rw[if_pos (by decide +kernel)]; kernel_rfl) | (rw[if_neg (by decide +kernel)]; exact⟨rfl,rfl⟩))
  (fun os started H enc _=>sourceTells_lifted os started H enc)
theorem sourceTells_card_holds:Rows.SourceTellsCardSaid :=
 Claim7.holds_tied_plain_at .later [] [.data,.pinned] true (true, "3fc500998e8290c495f35db0f152216f3cea4a588f20684ef04c741cc2605672") false sourceTells_holds (fun _ h=>by cases h) (by kernel_rfl) (fun _ h=>by cases h) sourceTells_row_tie rfl ⟨rfl,rfl⟩ (by kernel_rfl) rfl
  (fun f fn hf hfn=>by
   obtain rfl:f=7:=Option.some.inj ((show Tryz.prog.funcNamed "pantograph/pantographlaw10.SourceTells" = some 7 by kernel_rfl).symm.trans hf) |>.symm
   obtain rfl:fn=Tryz.f7:=(Option.some.inj (Tryz.func7.symm.trans hfn)).symm;exact⟨by kernel_rfl,fun j t ht=>by
    rw[Tryz.params7]at ht;have hm:t ∈ [22]:=by simpa using Array.mem_of_getElem? ht
    have hall:([22].all fun u=>!Tryz.prog.wantsStandIn u)=true:=by kernel_rfl
    exact(show Tryz.prog.wantsStandIn t=false by simpa using List.all_eq_true.1 hall t hm)⟩)
  (by kernel_rfl)
#print axioms sourceTells_card_holds
end Go.Proofs.YteiagdlfccbpcaaGreatDoor
