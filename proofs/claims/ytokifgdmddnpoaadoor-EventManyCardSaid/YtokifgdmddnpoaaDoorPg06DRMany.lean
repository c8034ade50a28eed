/- The tied card of EventMany. -/
import Derived.Test.YtokifgdmddnpoaaDoorPgM19
import Derived.Test.YtokifgdmddnpoaaDoorCards
import Derived.Test.YtokifgdmddnpoaaDoorTie
import Derived.Test.YtokifgdmddnpoaaDoorRows
import Derived.Lay
import Derived.LaidOnce
import Derived.PinnedBridge
import Derived.Lib.LaidU8T
import Derived.SevenTiedAt
namespace Go.Proofs.YtokifgdmddnpoaaDoor
open Go.ChangeShapes Go.WideShapes Go.ChangeAt Go.RowKit Go.Proofs.YtokifgdmddnpoaaDoorPg

theorem eventMany_own : ownKnob Tryd.prog.godebug = none := by kernel_rfl
theorem eventMany_laidOut : laidOutB Tryd.prog = true := by kernel_rfl
theorem eventMany_extra : U8Extra Tryd.prog Tryd.laysValid_ren := ⟨by kernel_rfl, by kernel_rfl, by kernel_rfl, by kernel_rfl, by kernel_rfl, by kernel_rfl, by kernel_rfl⟩
theorem eventMany_accept : (Rows.laid_unicode_utf8_acceptRanges : DataW Unit) = Go.Lib.acceptData := by kernel_rfl
theorem eventMany_first : Rows.laid_unicode_utf8_first = Go.Lib.firstData := Pinned.utf8First_eq

theorem eventMany_law (l : List V) (h : Shps tt 8 Tryd.f8.params.toList l) : ACall Tryd.prog 8 0 l [] (fun v _ => v = .bool true) := by
  obtain ⟨v1, _, h1, rfl, rfl⟩ := h
  obtain ⟨n, hn, rfl⟩ := h1
  exact EventMany_spec (i64_wf hn)

set_option maxRecDepth 100000 in
theorem eventMany_lifted (os : Os) (started : os.Started) (H : Type) (enc : TypeId × Value → H) :
    ReturnsInHanded {} Tryd.checked os 8 .any (fun w args => (Rows.eventManySpec.pre enc Tryd.prog Tryd.f8 [] false w args ∧ laidMetH Tryd.prog Rows.eventManyRow.laid w) ∧ sizedMet enc Tryd.prog Tryd.f8 (OpenSpec.ofChange Rows.eventManySpec) false w args)
      (Rows.eventManySpec.post enc Tryd.prog Tryd.f8 false true false false) := by
  refine returnsInHanded_of_change_and (C := Tryd.checked) (X := fun w _ => laidMetH Tryd.prog Rows.eventManyRow.laid w) (fun _ _ _ hh h => h.of_heap hh) eventMany_own started (by kernel_rfl) Tryd.func8
    (ChangeSpec.witness_shaped (enc := enc) (C := Tryd.checked) (os := os) (X := fun w _ => laidMetH Tryd.prog Rows.eventManyRow.laid w) false (World.laidAll Tryd.prog os Rows.eventManyRow.laid) #[.int .i64 0] 8 (World.laidAll_os _ _ _)
      (World.shaped_of_ZipB (by kernel_rfl) (by kernel_rfl)) (by kernel_rfl) (by kernel_rfl) (by kernel_rfl)
      (by rw [MakeChecks.laidMetH_plain _ _ _ (by kernel_rfl)]; exact laidMet_laidAll _ (by kernel_rfl) (by kernel_rfl))) ?_
  intro W base args ds gs before hval hW _ hwts hL _
  rw [MakeChecks.laidMetH_plain _ _ _ (by kernel_rfl)] at hL
  have hK : Globs.K (Im0 W) := gK_of (utf8Tabs_of_readsT (.of196 Tryd.laysValid) eventMany_extra (eventMany_first ▸ Go.Lib.laidMet.reads hL (.tail _ (.head _))) (eventMany_accept ▸ Go.Lib.laidMet.reads hL (.head _)))
  exact law_contract (P := Tryd.prog) tt_ok eventMany_laidOut (fn := Tryd.f8) (s := Rows.eventManySpec) 8 (by kernel_rfl) (tb := 4) (by kernel_rfl) Tryd.underlying4 rfl (fun H ds hd => by
    rw [show Tryd.f8.params.size = 1 by kernel_rfl] at hd
    match ds, hd with
    | [d0], _ => rfl) eventMany_law W base args ds gs before hval hW hK (weights_in hW rfl hwts)

theorem eventMany_holds : Rows.EventManySaid :=
  OpenClaim.holds_of_wide 8 Tryd.f8 rfl rfl rfl rfl rfl rfl rfl ⟨rfl, rfl, rfl, rfl, rfl⟩ rfl rfl rfl rfl rfl (by kernel_rfl) Tryd.func8 (by kernel_rfl)
    (of_decide_eq_true (by kernel_rfl)) (by unfold Func.isWrapper; first | (rw [if_pos (by decide +kernel)]; kernel_rfl) | (rw [if_neg (by decide +kernel)]; exact ⟨rfl, rfl⟩))
    (fun os started H enc _ => eventMany_lifted os started H enc)

theorem eventMany_card_holds : Rows.EventManyCardSaid :=
  Claim7.holds_tied_plain_at .later [] [.data, .pinned] true (true, "6e8017369c4176848aeab539c71ed2982428a57eec9fb1a9042248def6ab50de") false eventMany_holds (fun _ h => by cases h) (by kernel_rfl) (fun _ h => by cases h) eventMany_row_tie rfl ⟨rfl, rfl⟩ (by kernel_rfl) rfl
    (fun f fn hf hfn => by
      obtain rfl : f = 8 := Option.some.inj ((show Tryd.prog.funcNamed "pantograph/pantographlaw06.EventMany" = some 8 by kernel_rfl).symm.trans hf) |>.symm
      obtain rfl : fn = Tryd.f8 := (Option.some.inj (Tryd.func8.symm.trans hfn)).symm
      exact ⟨by kernel_rfl, fun j t ht => by
        rw [Tryd.params8] at ht
        have hm : t ∈ [3] := by simpa using Array.mem_of_getElem? ht
        have hall : ([3].all fun u => !Tryd.prog.wantsStandIn u) = true := by kernel_rfl
        exact (show Tryd.prog.wantsStandIn t = false by simpa using List.all_eq_true.1 hall t hm)⟩)
    (by kernel_rfl)

#print axioms eventMany_card_holds
end Go.Proofs.YtokifgdmddnpoaaDoor
