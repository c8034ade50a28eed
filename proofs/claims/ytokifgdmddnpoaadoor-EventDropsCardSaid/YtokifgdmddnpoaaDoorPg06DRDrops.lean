/- The tied card of EventDrops. -/
import Derived.Test.YtokifgdmddnpoaaDoorPgM21
import Derived.Test.YtokifgdmddnpoaaDoorCards
import Derived.Test.YtokifgdmddnpoaaDoorTie
import Derived.Test.YtokifgdmddnpoaaDoorRows
import Derived.Lay
import Derived.LaidOnce
import Derived.PinnedBridge
import Derived.Lib.LaidU8T
import Derived.SevenTiedAt
namespace Go.Proofs.YtokifgdmddnpoaaDoor
open Go.ChangeShapes Go.WideShapes Go.ChangeAt Go.RowKit Go.Proofs.YtokifgdmddnpoaaDoorPg

theorem eventDrops_own : ownKnob Tryd.prog.godebug = none := by kernel_rfl
theorem eventDrops_laidOut : laidOutB Tryd.prog = true := by kernel_rfl
theorem eventDrops_extra : U8Extra Tryd.prog Tryd.laysValid_ren := ⟨by kernel_rfl, by kernel_rfl, by kernel_rfl, by kernel_rfl, by kernel_rfl, by kernel_rfl, by kernel_rfl⟩
theorem eventDrops_accept : (Rows.laid_unicode_utf8_acceptRanges : DataW Unit) = Go.Lib.acceptData := by kernel_rfl
theorem eventDrops_first : Rows.laid_unicode_utf8_first = Go.Lib.firstData := Pinned.utf8First_eq

theorem eventDrops_law (l : List V) (h : Shps tt 8 Tryd.f7.params.toList l) : ACall Tryd.prog 7 0 l [] (fun v _ => v = .bool true) := by
  obtain ⟨v1, _, h1, ⟨v2, _, h2, ⟨v3, _, h3, rfl, rfl⟩, rfl⟩, rfl⟩ := h
  obtain ⟨a, e1, ha⟩ := tbs_in h1
  obtain ⟨t, _, rfl⟩ := h2
  obtain ⟨C, K, e3, hC, hK⟩ := sch_in h3
  rw [e1, e3]
  exact EventDrops_spec ha hC hK

set_option maxRecDepth 100000 in
theorem eventDrops_lifted (os : Os) (started : os.Started) (H : Type) (enc : TypeId × Value → H) :
    ReturnsInHanded {} Tryd.checked os 7 .any (fun w args => (Rows.eventDropsSpec.pre enc Tryd.prog Tryd.f7 [] false w args ∧ laidMetH Tryd.prog Rows.eventDropsRow.laid w) ∧ sizedMet enc Tryd.prog Tryd.f7 (OpenSpec.ofChange Rows.eventDropsSpec) false w args)
      (Rows.eventDropsSpec.post enc Tryd.prog Tryd.f7 false true false false) := by
  refine returnsInHanded_of_change_and (C := Tryd.checked) (X := fun w _ => laidMetH Tryd.prog Rows.eventDropsRow.laid w) (fun _ _ _ hh h => h.of_heap hh) eventDrops_own started (by kernel_rfl) Tryd.func7
    (ChangeSpec.witness_shaped (enc := enc) (C := Tryd.checked) (os := os) (X := fun w _ => laidMetH Tryd.prog Rows.eventDropsRow.laid w) false (World.laidAll Tryd.prog os Rows.eventDropsRow.laid) #[.slice none 0 0, .string ⟨#[]⟩, .agg #[.slice none 0 0, .int .i64 0]] 8 (World.laidAll_os _ _ _)
      (World.shaped_of_ZipB (by kernel_rfl) (by kernel_rfl)) (by kernel_rfl) (by kernel_rfl) (by kernel_rfl)
      (by rw [MakeChecks.laidMetH_plain _ _ _ (by kernel_rfl)]; exact laidMet_laidAll _ (by kernel_rfl) (by kernel_rfl))) ?_
  intro W base args ds gs before hval hW _ hwts hL _
  rw [MakeChecks.laidMetH_plain _ _ _ (by kernel_rfl)] at hL
  have hK : Globs.K (Im0 W) := gK_of (utf8Tabs_of_readsT (.of196 Tryd.laysValid) eventDrops_extra (eventDrops_first ▸ Go.Lib.laidMet.reads hL (.tail _ (.head _))) (eventDrops_accept ▸ Go.Lib.laidMet.reads hL (.head _)))
  exact law_contract (P := Tryd.prog) tt_ok eventDrops_laidOut (fn := Tryd.f7) (s := Rows.eventDropsSpec) 8 (by kernel_rfl) (tb := 4) (by kernel_rfl) Tryd.underlying4 rfl (fun H ds hd => by
    rw [show Tryd.f7.params.size = 3 by kernel_rfl] at hd
    match ds, hd with
    | [d0, d1, d2], _ => rfl) eventDrops_law W base args ds gs before hval hW hK (weights_in hW rfl hwts)

theorem eventDrops_holds : Rows.EventDropsSaid :=
  OpenClaim.holds_of_wide 7 Tryd.f7 rfl rfl rfl rfl rfl rfl rfl ⟨rfl, rfl, rfl, rfl, rfl⟩ rfl rfl rfl rfl rfl (by kernel_rfl) Tryd.func7 (by kernel_rfl)
    (of_decide_eq_true (by kernel_rfl)) (by unfold Func.isWrapper; first | (rw [if_pos (by decide +kernel)]; kernel_rfl) | (rw [if_neg (by decide +kernel)]; exact ⟨rfl, rfl⟩))
    (fun os started H enc _ => eventDrops_lifted os started H enc)

theorem eventDrops_card_holds : Rows.EventDropsCardSaid :=
  Claim7.holds_tied_plain_at .later [] [.data, .pinned] true (true, "6e8017369c4176848aeab539c71ed2982428a57eec9fb1a9042248def6ab50de") false eventDrops_holds (fun _ h => by cases h) (by kernel_rfl) (fun _ h => by cases h) eventDrops_row_tie rfl ⟨rfl, rfl⟩ (by kernel_rfl) rfl
    (fun f fn hf hfn => by
      obtain rfl : f = 7 := Option.some.inj ((show Tryd.prog.funcNamed "pantograph/pantographlaw06.EventDrops" = some 7 by kernel_rfl).symm.trans hf) |>.symm
      obtain rfl : fn = Tryd.f7 := (Option.some.inj (Tryd.func7.symm.trans hfn)).symm
      exact ⟨by kernel_rfl, fun j t ht => by
        rw [Tryd.params7] at ht
        have hm : t ∈ [22, 9, 28] := by simpa using Array.mem_of_getElem? ht
        have hall : ([22, 9, 28].all fun u => !Tryd.prog.wantsStandIn u) = true := by kernel_rfl
        exact (show Tryd.prog.wantsStandIn t = false by simpa using List.all_eq_true.1 hall t hm)⟩)
    (by kernel_rfl)

#print axioms eventDrops_card_holds
end Go.Proofs.YtokifgdmddnpoaaDoor
