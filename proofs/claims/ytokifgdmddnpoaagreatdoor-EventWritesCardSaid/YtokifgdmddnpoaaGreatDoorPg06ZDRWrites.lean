/- The tied card of EventWrites. -/
import Derived.Test.YtokifgdmddnpoaaGreatDoorPgM20
import Derived.Test.YtokifgdmddnpoaaGreatDoorCards
import Derived.Test.YtokifgdmddnpoaaGreatDoorTie
import Derived.Test.YtokifgdmddnpoaaGreatDoorRows
import Derived.Lay
import Derived.LaidOnce
import Derived.PinnedBridge
import Derived.Lib.LaidU8T
import Derived.SevenTiedAt
namespace Go.Proofs.YtokifgdmddnpoaaGreatDoor
open Go.ChangeShapes Go.WideShapes Go.ChangeAt Go.RowKit Go.Proofs.YtokifgdmddnpoaaGreatDoorPg

theorem eventWrites_own : ownKnob Tryz.prog.godebug = none := by kernel_rfl
theorem eventWrites_laidOut : laidOutB Tryz.prog = true := by kernel_rfl
theorem eventWrites_extra : U8Extra Tryz.prog Tryz.laysValid_ren := ⟨by kernel_rfl, by kernel_rfl, by kernel_rfl, by kernel_rfl, by kernel_rfl, by kernel_rfl, by kernel_rfl⟩
theorem eventWrites_accept : (Rows.laid_unicode_utf8_acceptRanges : DataW Unit) = Go.Lib.acceptData := by kernel_rfl
theorem eventWrites_first : Rows.laid_unicode_utf8_first = Go.Lib.firstData := Pinned.utf8First_eq

theorem eventWrites_law (l : List V) (h : Shps tt 8 Tryz.f3.params.toList l) : ACall Tryz.prog 3 0 l [] (fun v _ => v = .bool true) := by
  obtain ⟨v1, _, h1, ⟨v2, _, h2, rfl, rfl⟩, rfl⟩ := h
  obtain ⟨a, e1, ha⟩ := tbs_in h1
  obtain ⟨e, e2, he⟩ := ev_in h2
  rw [e1, e2]
  exact EventWrites_spec ha he (fun v hv => Nat.lt_of_le_of_lt (he.vb v hv).t (by decide)) (fun v hv => Nat.lt_of_le_of_lt (he.va v hv).t (by decide))

set_option maxRecDepth 100000 in
theorem eventWrites_lifted (os : Os) (started : os.Started) (H : Type) (enc : TypeId × Value → H) :
    ReturnsInHanded {} Tryz.checked os 3 .any (fun w args => (Rows.eventWritesSpec.pre enc Tryz.prog Tryz.f3 [] false w args ∧ laidMetH Tryz.prog Rows.eventWritesRow.laid w) ∧ sizedMet enc Tryz.prog Tryz.f3 (OpenSpec.ofChange Rows.eventWritesSpec) false w args)
      (Rows.eventWritesSpec.post enc Tryz.prog Tryz.f3 false true false false) := by
  refine returnsInHanded_of_change_and (C := Tryz.checked) (X := fun w _ => laidMetH Tryz.prog Rows.eventWritesRow.laid w) (fun _ _ _ hh h => h.of_heap hh) eventWrites_own started (by kernel_rfl) Tryz.func3
    (ChangeSpec.witness_shaped (enc := enc) (C := Tryz.checked) (os := os) (X := fun w _ => laidMetH Tryz.prog Rows.eventWritesRow.laid w) false (World.laidAll Tryz.prog os Rows.eventWritesRow.laid) #[.slice none 0 0, .agg #[.int .i64 0, .int .i64 0, .string ⟨#[]⟩, .slice none 0 0, .slice none 0 0, .int .i64 0, .string ⟨#[]⟩, .slice none 0 0, .int .i64 0, .string ⟨#[]⟩, .int .i64 0, .bool false]] 8 (World.laidAll_os _ _ _)
      (World.shaped_of_ZipB (by kernel_rfl) (by kernel_rfl)) (by kernel_rfl) (by kernel_rfl) (by kernel_rfl)
      (by rw [MakeChecks.laidMetH_plain _ _ _ (by kernel_rfl)]; exact laidMet_laidAll _ (by kernel_rfl) (by kernel_rfl))) ?_
  intro W base args ds gs before hval hW _ hwts hL _
  rw [MakeChecks.laidMetH_plain _ _ _ (by kernel_rfl)] at hL
  have hK : Globs.K (Im0 W) := gK_of (utf8Tabs_of_readsT (.of196 Tryz.laysValid) eventWrites_extra (eventWrites_first ▸ Go.Lib.laidMet.reads hL (.tail _ (.head _))) (eventWrites_accept ▸ Go.Lib.laidMet.reads hL (.head _)))
  exact law_contract (P := Tryz.prog) tt_ok eventWrites_laidOut (fn := Tryz.f3) (s := Rows.eventWritesSpec) 8 (by kernel_rfl) (tb := 4) (by kernel_rfl) Tryz.underlying4 rfl (fun H ds hd => by
    rw [show Tryz.f3.params.size = 2 by kernel_rfl] at hd
    match ds, hd with
    | [d0, d1], _ => rfl) eventWrites_law W base args ds gs before hval hW hK (weights_in hW rfl hwts)

theorem eventWrites_holds : Rows.EventWritesSaid :=
  OpenClaim.holds_of_wide 3 Tryz.f3 rfl rfl rfl rfl rfl rfl rfl ⟨rfl, rfl, rfl, rfl, rfl⟩ rfl rfl rfl rfl rfl (by kernel_rfl) Tryz.func3 (by kernel_rfl)
    (of_decide_eq_true (by kernel_rfl)) (by unfold Func.isWrapper; first | (rw [if_pos (by decide +kernel)]; kernel_rfl) | (rw [if_neg (by decide +kernel)]; exact ⟨rfl, rfl⟩))
    (fun os started H enc _ => eventWrites_lifted os started H enc)

theorem eventWrites_card_holds : Rows.EventWritesCardSaid :=
  Claim7.holds_tied_plain_at .later [] [.data, .pinned] true (true, "55ce020fe52354cb15691c01b44378513e1c79fa71112d8e3c30a4ada9f38e73") false eventWrites_holds (fun _ h => by cases h) (by kernel_rfl) (fun _ h => by cases h) eventWrites_row_tie rfl ⟨rfl, rfl⟩ (by kernel_rfl) rfl
    (fun f fn hf hfn => by
      obtain rfl : f = 3 := Option.some.inj ((show Tryz.prog.funcNamed "pantograph/pantographlaw06.EventWrites" = some 3 by kernel_rfl).symm.trans hf) |>.symm
      obtain rfl : fn = Tryz.f3 := (Option.some.inj (Tryz.func3.symm.trans hfn)).symm
      exact ⟨by kernel_rfl, fun j t ht => by
        rw [Tryz.params3] at ht
        have hm : t ∈ [22, 33] := by simpa using Array.mem_of_getElem? ht
        have hall : ([22, 33].all fun u => !Tryz.prog.wantsStandIn u) = true := by kernel_rfl
        exact (show Tryz.prog.wantsStandIn t = false by simpa using List.all_eq_true.1 hall t hm)⟩)
    (by kernel_rfl)

#print axioms eventWrites_card_holds
end Go.Proofs.YtokifgdmddnpoaaGreatDoor
