/- For every input the law BinlogAborts returns true: the tied card. Conditions: those of its card. -/
import Derived.Test.YtcdkklgeepkopaaGreatDoorPgM22
import Derived.Test.YtcdkklgeepkopaaGreatDoorCards
import Derived.Test.YtcdkklgeepkopaaGreatDoorTie
import Derived.Test.YtcdkklgeepkopaaGreatDoorRows
import Derived.Lay
import Derived.LaidOnce
import Derived.PinnedBridge
import Derived.Lib.LaidU8T
import Derived.SevenTiedAt
namespace Go.Proofs.YtcdkklgeepkopaaGreatDoor
open Go.ChangeShapes Go.WideShapes Go.ChangeAt Go.RowKit Go.Proofs.YtcdkklgeepkopaaGreatDoorPg
theorem binlogAborts_own : ownKnob Tryz.prog.godebug = none := by kernel_rfl
theorem binlogAborts_laidOut : laidOutB Tryz.prog = true := by kernel_rfl
theorem binlogAborts_extra : U8Extra Tryz.prog Tryz.laysValid_ren := ⟨by kernel_rfl, by kernel_rfl, by kernel_rfl, by kernel_rfl, by kernel_rfl, by kernel_rfl, by kernel_rfl⟩
theorem binlogAborts_accept : (Rows.laid_unicode_utf8_acceptRanges : DataW Unit) = Go.Lib.acceptData := by kernel_rfl
theorem binlogAborts_first : Rows.laid_unicode_utf8_first = Go.Lib.firstData := Pinned.utf8First_eq
theorem binlogAborts_law (l : List V) (h : Shps tt 8 Tryz.f8.params.toList l) : ACall Tryz.prog 8 0 l [] (fun v _ => v = .bool true) := by
 obtain ⟨v1, _, h1, ⟨v2, _, h2, rfl, rfl⟩, rfl⟩ := h;obtain ⟨a, e1, hal, ha⟩ := evs_in h1;obtain ⟨c, e2, hc⟩ := chgA_in h2;rw [e1, e2];exact BinlogAborts_spec ha hal hc
set_option maxRecDepth 100000 in
theorem binlogAborts_lifted (os : Os) (started : os.Started) (H : Type) (enc : TypeId × Value -> H) :
 ReturnsInHanded {} Tryz.checked os 8 .any (fun w args => (Rows.binlogAbortsSpec.pre enc Tryz.prog Tryz.f8 [] false w args /\ laidMetH Tryz.prog Rows.binlogAbortsRow.laid w) /\ sizedMet enc Tryz.prog Tryz.f8 (OpenSpec.ofChange Rows.binlogAbortsSpec) false w args)
  (Rows.binlogAbortsSpec.post enc Tryz.prog Tryz.f8 false true false false) := by
 refine returnsInHanded_of_change_and (C := Tryz.checked) (X := fun w _ => laidMetH Tryz.prog Rows.binlogAbortsRow.laid w) (fun _ _ _ hh h => h.of_heap hh) binlogAborts_own started (by kernel_rfl) Tryz.func8
  (ChangeSpec.witness_shaped (enc := enc) (C := Tryz.checked) (os := os) (X := fun w _ => laidMetH Tryz.prog Rows.binlogAbortsRow.laid w) false (World.laidAll Tryz.prog os Rows.binlogAbortsRow.laid) #[.slice none 0 0, .agg #[.int .i64 0, .string ⟨#[]⟩, .slice none 0 0, .int .i64 0, .string ⟨#[]⟩, .int .i64 0, .bool false]] 8 (World.laidAll_os _ _ _)
   (World.shaped_of_ZipB (by kernel_rfl) (by kernel_rfl)) (by kernel_rfl) (by kernel_rfl) (by kernel_rfl)
   (by rw [MakeChecks.laidMetH_plain _ _ _ (by kernel_rfl)]; exact laidMet_laidAll _ (by kernel_rfl) (by kernel_rfl))) ?_
 intro W base args ds gs before hval hW _ hwts hL _;rw [MakeChecks.laidMetH_plain _ _ _ (by kernel_rfl)] at hL
 have hK : Globs.K (Im0 W) := gK_of (utf8Tabs_of_readsT (.of196 Tryz.laysValid) binlogAborts_extra (binlogAborts_first ▸ Go.Lib.laidMet.reads hL (.tail _ (.head _))) (binlogAborts_accept ▸ Go.Lib.laidMet.reads hL (.head _)));exact law_contract (P := Tryz.prog) tt_ok binlogAborts_laidOut (fn := Tryz.f8) (s := Rows.binlogAbortsSpec) 8 (by kernel_rfl) (tb := 4) (by kernel_rfl) Tryz.underlying4 rfl (fun H ds hd => by
  rw [show Tryz.f8.params.size = 2 by kernel_rfl] at hd
  match ds, hd with
  | [d0, d1], _ => rfl) binlogAborts_law W base args ds gs before hval hW hK (weights_in hW rfl hwts)
theorem binlogAborts_holds : Rows.BinlogAbortsSaid :=
 OpenClaim.holds_of_wide 8 Tryz.f8 rfl rfl rfl rfl rfl rfl rfl ⟨rfl, rfl, rfl, rfl, rfl⟩ rfl rfl rfl rfl rfl (by kernel_rfl) Tryz.func8 (by kernel_rfl)
  (of_decide_eq_true (by kernel_rfl)) (by unfold Func.isWrapper; first | (rw [if_pos (by decide +kernel)]; kernel_rfl) | (rw [if_neg (by decide +kernel)]; exact ⟨rfl, rfl⟩))
  (fun os started H enc _ => binlogAborts_lifted os started H enc)
theorem binlogAborts_card_holds : Rows.BinlogAbortsCardSaid :=
 Claim7.holds_tied_plain_at .later [] [.data, .pinned] true (true, "24f6c96608fd31e935fdb432facc3535b9385cffda6d2c2a80675d5d737187ea") false binlogAborts_holds (fun _ h => by cases h) (by kernel_rfl) (fun _ h => by cases h) binlogAborts_row_tie rfl ⟨rfl, rfl⟩ (by kernel_rfl) rfl
  (fun f fn hf hfn => by
   obtain rfl : f = 8 := Option.some.inj ((show Tryz.prog.funcNamed "pantograph/pantographlaw07.BinlogAborts" = some 8 by kernel_rfl).symm.trans hf) |>.symm
   obtain rfl : fn = Tryz.f8 := (Option.some.inj (Tryz.func8.symm.trans hfn)).symm;exact ⟨by kernel_rfl, fun j t ht => by
    rw [Tryz.params8] at ht;have hm : t ∈ [31, 47] := by simpa using Array.mem_of_getElem? ht
    have hall : ([31, 47].all fun u => !Tryz.prog.wantsStandIn u) = true := by kernel_rfl
    exact (show Tryz.prog.wantsStandIn t = false by simpa using List.all_eq_true.1 hall t hm)⟩)
  (by kernel_rfl)
#print axioms binlogAborts_card_holds
end Go.Proofs.YtcdkklgeepkopaaGreatDoor
