/- The tied card of EventMay. -/
import Derived.Test.YtokifgdmddnpoaaDoorPgM20
import Derived.Test.YtokifgdmddnpoaaDoorCards
import Derived.Test.YtokifgdmddnpoaaDoorTie
import Derived.Test.YtokifgdmddnpoaaDoorRows
import Derived.Lay
import Derived.LaidOnce
import Derived.PinnedBridge
import Derived.Lib.LaidU8T
import Derived.SevenTiedAt
namespace Go.Proofs.YtokifgdmddnpoaaDoor
open Go.ChangeShapes Go.WideShapes Go.ChangeAt Go.RowKit Go.Proofs.YtokifgdmddnpoaaDoorPg

theorem eventMay_own : ownKnob Tryd.prog.godebug = none := by kernel_rfl
theorem eventMay_laidOut : laidOutB Tryd.prog = true := by kernel_rfl
theorem eventMay_extra : U8Extra Tryd.prog Tryd.laysValid_ren := ⟨by kernel_rfl, by kernel_rfl, by kernel_rfl, by kernel_rfl, by kernel_rfl, by kernel_rfl, by kernel_rfl⟩
theorem eventMay_accept : (Rows.laid_unicode_utf8_acceptRanges : DataW Unit) = Go.Lib.acceptData := by kernel_rfl
theorem eventMay_first : Rows.laid_unicode_utf8_first = Go.Lib.firstData := Pinned.utf8First_eq

theorem eventMay_law (l : List V) (h : Shps tt 8 Tryd.f4.params.toList l) : ACall Tryd.prog 4 0 l [] (fun v _ => v = .bool true) := by
  obtain ⟨v1, _, h1, ⟨v2, _, h2, rfl, rfl⟩, rfl⟩ := h
  obtain ⟨a, e1, ha⟩ := tbs_in h1
  obtain ⟨e, e2, he⟩ := ev_in h2
  rw [e1, e2]
  exact EventMay_spec ha he (fun v hv => Nat.lt_of_le_of_lt (he.vb v hv).t (by decide)) (fun v hv => Nat.lt_of_le_of_lt (he.va v hv).t (by decide))

set_option maxRecDepth 100000 in
theorem eventMay_lifted (os : Os) (started : os.Started) (H : Type) (enc : TypeId × Value → H) :
    ReturnsInHanded {} Tryd.checked os 4 .any (fun w args => (Rows.eventMaySpec.pre enc Tryd.prog Tryd.f4 [] false w args ∧ laidMetH Tryd.prog Rows.eventMayRow.laid w) ∧ sizedMet enc Tryd.prog Tryd.f4 (OpenSpec.ofChange Rows.eventMaySpec) false w args)
      (Rows.eventMaySpec.post enc Tryd.prog Tryd.f4 false true false false) := by
  refine returnsInHanded_of_change_and (C := Tryd.checked) (X := fun w _ => laidMetH Tryd.prog Rows.eventMayRow.laid w) (fun _ _ _ hh h => h.of_heap hh) eventMay_own started (by kernel_rfl) Tryd.func4
    (ChangeSpec.witness_shaped (enc := enc) (C := Tryd.checked) (os := os) (X := fun w _ => laidMetH Tryd.prog Rows.eventMayRow.laid w) false (World.laidAll Tryd.prog os Rows.eventMayRow.laid) #[.slice none 0 0, .agg #[.int .i64 0, .int .i64 0, .string ⟨#[]⟩, .slice none 0 0, .slice none 0 0, .int .i64 0, .string ⟨#[]⟩, .slice none 0 0, .int .i64 0, .string ⟨#[]⟩, .int .i64 0, .bool false]] 8 (World.laidAll_os _ _ _)
      (World.shaped_of_ZipB (by kernel_rfl) (by kernel_rfl)) (by kernel_rfl) (by kernel_rfl) (by kernel_rfl)
      (by rw [MakeChecks.laidMetH_plain _ _ _ (by kernel_rfl)]; exact laidMet_laidAll _ (by kernel_rfl) (by kernel_rfl))) ?_
  intro W base args ds gs before hval hW _ hwts hL _
  rw [MakeChecks.laidMetH_plain _ _ _ (by kernel_rfl)] at hL
  have hK : Globs.K (Im0 W) := gK_of (utf8Tabs_of_readsT (.of196 Tryd.laysValid) eventMay_extra (eventMay_first ▸ Go.Lib.laidMet.reads hL (.tail _ (.head _))) (eventMay_accept ▸ Go.Lib.laidMet.reads hL (.head _)))
  exact law_contract (P := Tryd.prog) tt_ok eventMay_laidOut (fn := Tryd.f4) (s := Rows.eventMaySpec) 8 (by kernel_rfl) (tb := 4) (by kernel_rfl) Tryd.underlying4 rfl (fun H ds hd => by
    rw [show Tryd.f4.params.size = 2 by kernel_rfl] at hd
    match ds, hd with
    | [d0, d1], _ => rfl) eventMay_law W base args ds gs before hval hW hK (weights_in hW rfl hwts)

theorem eventMay_holds : Rows.EventMaySaid :=
  OpenClaim.holds_of_wide 4 Tryd.f4 rfl rfl rfl rfl rfl rfl rfl ⟨rfl, rfl, rfl, rfl, rfl⟩ rfl rfl rfl rfl rfl (by kernel_rfl) Tryd.func4 (by kernel_rfl)
    (of_decide_eq_true (by kernel_rfl)) (by unfold Func.isWrapper; first | (rw [if_pos (by decide +kernel)]; kernel_rfl) | (rw [if_neg (by decide +kernel)]; exact ⟨rfl, rfl⟩))
    (fun os started H enc _ => eventMay_lifted os started H enc)

theorem eventMay_card_holds : Rows.EventMayCardSaid :=
  Claim7.holds_tied_plain_at .later [] [.data, .pinned] true (true, "6e8017369c4176848aeab539c71ed2982428a57eec9fb1a9042248def6ab50de") false eventMay_holds (fun _ h => by cases h) (by kernel_rfl) (fun _ h => by cases h) eventMay_row_tie rfl ⟨rfl, rfl⟩ (by kernel_rfl) rfl
    (fun f fn hf hfn => by
      obtain rfl : f = 4 := Option.some.inj ((show Tryd.prog.funcNamed "pantograph/pantographlaw06.EventMay" = some 4 by kernel_rfl).symm.trans hf) |>.symm
      obtain rfl : fn = Tryd.f4 := (Option.some.inj (Tryd.func4.symm.trans hfn)).symm
      exact ⟨by kernel_rfl, fun j t ht => by
        rw [Tryd.params4] at ht
        have hm : t ∈ [22, 44] := by simpa using Array.mem_of_getElem? ht
        have hall : ([22, 44].all fun u => !Tryd.prog.wantsStandIn u) = true := by kernel_rfl
        exact (show Tryd.prog.wantsStandIn t = false by simpa using List.all_eq_true.1 hall t hm)⟩)
    (by kernel_rfl)

#print axioms eventMay_card_holds
end Go.Proofs.YtokifgdmddnpoaaDoor
