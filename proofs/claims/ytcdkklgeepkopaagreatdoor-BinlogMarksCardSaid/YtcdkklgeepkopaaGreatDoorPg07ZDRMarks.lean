/- For every input the law BinlogMarks returns true: the tied card. Conditions: those of its card. -/
import Derived.Test.YtcdkklgeepkopaaGreatDoorPgM22
import Derived.Test.YtcdkklgeepkopaaGreatDoorCards
import Derived.Test.YtcdkklgeepkopaaGreatDoorTie
import Derived.Test.YtcdkklgeepkopaaGreatDoorRows
import Derived.Lay
import Derived.LaidOnce
import Derived.PinnedBridge
import Derived.Lib.LaidU8T
import Derived.SevenTiedAt
namespace Go.Proofs.YtcdkklgeepkopaaGreatDoor
open Go.ChangeShapes Go.WideShapes Go.ChangeAt Go.RowKit Go.Proofs.YtcdkklgeepkopaaGreatDoorPg
theorem binlogMarks_own : ownKnob Tryz.prog.godebug = none := by kernel_rfl
theorem binlogMarks_laidOut : laidOutB Tryz.prog = true := by kernel_rfl
theorem binlogMarks_extra : U8Extra Tryz.prog Tryz.laysValid_ren := ⟨by kernel_rfl, by kernel_rfl, by kernel_rfl, by kernel_rfl, by kernel_rfl, by kernel_rfl, by kernel_rfl⟩
theorem binlogMarks_accept : (Rows.laid_unicode_utf8_acceptRanges : DataW Unit) = Go.Lib.acceptData := by kernel_rfl
theorem binlogMarks_first : Rows.laid_unicode_utf8_first = Go.Lib.firstData := Pinned.utf8First_eq
theorem binlogMarks_law (l : List V) (h : Shps tt 8 Tryz.f9.params.toList l) : ACall Tryz.prog 9 0 l [] (fun v _ => v = .bool true) := by
 obtain ⟨v1, _, h1, ⟨v2, _, ⟨n, hn, rfl⟩, rfl, rfl⟩, rfl⟩ := h;obtain ⟨a, e1, hal, ha⟩ := evs_in h1;rw [e1];exact BinlogMarks_spec ha hal (i64_wf hn)
set_option maxRecDepth 100000 in
theorem binlogMarks_lifted (os : Os) (started : os.Started) (H : Type) (enc : TypeId × Value -> H) :
 ReturnsInHanded {} Tryz.checked os 9 .any (fun w args => (Rows.binlogMarksSpec.pre enc Tryz.prog Tryz.f9 [] false w args /\ laidMetH Tryz.prog Rows.binlogMarksRow.laid w) /\ sizedMet enc Tryz.prog Tryz.f9 (OpenSpec.ofChange Rows.binlogMarksSpec) false w args)
  (Rows.binlogMarksSpec.post enc Tryz.prog Tryz.f9 false true false false) := by
 refine returnsInHanded_of_change_and (C := Tryz.checked) (X := fun w _ => laidMetH Tryz.prog Rows.binlogMarksRow.laid w) (fun _ _ _ hh h => h.of_heap hh) binlogMarks_own started (by kernel_rfl) Tryz.func9
  (ChangeSpec.witness_shaped (enc := enc) (C := Tryz.checked) (os := os) (X := fun w _ => laidMetH Tryz.prog Rows.binlogMarksRow.laid w) false (World.laidAll Tryz.prog os Rows.binlogMarksRow.laid) #[.slice none 0 0, .int .i64 0] 8 (World.laidAll_os _ _ _)
   (World.shaped_of_ZipB (by kernel_rfl) (by kernel_rfl)) (by kernel_rfl) (by kernel_rfl) (by kernel_rfl)
   (by rw [MakeChecks.laidMetH_plain _ _ _ (by kernel_rfl)]; exact laidMet_laidAll _ (by kernel_rfl) (by kernel_rfl))) ?_
 intro W base args ds gs before hval hW _ hwts hL _;rw [MakeChecks.laidMetH_plain _ _ _ (by kernel_rfl)] at hL
 have hK : Globs.K (Im0 W) := gK_of (utf8Tabs_of_readsT (.of196 Tryz.laysValid) binlogMarks_extra (binlogMarks_first ▸ Go.Lib.laidMet.reads hL (.tail _ (.head _))) (binlogMarks_accept ▸ Go.Lib.laidMet.reads hL (.head _)));exact law_contract (P := Tryz.prog) tt_ok binlogMarks_laidOut (fn := Tryz.f9) (s := Rows.binlogMarksSpec) 8 (by kernel_rfl) (tb := 4) (by kernel_rfl) Tryz.underlying4 rfl (fun H ds hd => by
  rw [show Tryz.f9.params.size = 2 by kernel_rfl] at hd
  match ds, hd with
  | [d0, d1], _ => rfl) binlogMarks_law W base args ds gs before hval hW hK (weights_in hW rfl hwts)
theorem binlogMarks_holds : Rows.BinlogMarksSaid :=
 OpenClaim.holds_of_wide 9 Tryz.f9 rfl rfl rfl rfl rfl rfl rfl ⟨rfl, rfl, rfl, rfl, rfl⟩ rfl rfl rfl rfl rfl (by kernel_rfl) Tryz.func9 (by kernel_rfl)
  (of_decide_eq_true (by kernel_rfl)) (by unfold Func.isWrapper; first | (rw [if_pos (by decide +kernel)]; kernel_rfl) | (rw [if_neg (by decide +kernel)]; exact ⟨rfl, rfl⟩))
  (fun os started H enc _ => binlogMarks_lifted os started H enc)
theorem binlogMarks_card_holds : Rows.BinlogMarksCardSaid :=
 Claim7.holds_tied_plain_at .later [] [.data, .pinned] true (true, "24f6c96608fd31e935fdb432facc3535b9385cffda6d2c2a80675d5d737187ea") false binlogMarks_holds (fun _ h => by cases h) (by kernel_rfl) (fun _ h => by cases h) binlogMarks_row_tie rfl ⟨rfl, rfl⟩ (by kernel_rfl) rfl
  (fun f fn hf hfn => by
   obtain rfl : f = 9 := Option.some.inj ((show Tryz.prog.funcNamed "pantograph/pantographlaw07.BinlogMarks" = some 9 by kernel_rfl).symm.trans hf) |>.symm
   obtain rfl : fn = Tryz.f9 := (Option.some.inj (Tryz.func9.symm.trans hfn)).symm;exact ⟨by kernel_rfl, fun j t ht => by
    rw [Tryz.params9] at ht;have hm : t ∈ [31, 3] := by simpa using Array.mem_of_getElem? ht
    have hall : ([31, 3].all fun u => !Tryz.prog.wantsStandIn u) = true := by kernel_rfl
    exact (show Tryz.prog.wantsStandIn t = false by simpa using List.all_eq_true.1 hall t hm)⟩)
  (by kernel_rfl)
#print axioms binlogMarks_card_holds
end Go.Proofs.YtcdkklgeepkopaaGreatDoor
