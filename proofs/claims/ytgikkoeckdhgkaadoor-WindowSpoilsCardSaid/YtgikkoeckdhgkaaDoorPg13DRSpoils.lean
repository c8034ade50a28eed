/- The tied card of WindowSpoils. -/
import Derived.Test.YtgikkoeckdhgkaaDoorPgM19
import Derived.Test.YtgikkoeckdhgkaaDoorCards
import Derived.Test.YtgikkoeckdhgkaaDoorTie
import Derived.Test.YtgikkoeckdhgkaaDoorRows
import Derived.Lay
import Derived.LaidOnce
import Derived.PinnedBridge
import Derived.Lib.LaidU8T
import Derived.SevenTiedAt
namespace Go.Proofs.YtgikkoeckdhgkaaDoor
open Go.ChangeShapes Go.WideShapes Go.ChangeAt Go.RowKit Go.Proofs.YtgikkoeckdhgkaaDoorPg

theorem windowSpoils_own : ownKnob Tryd.prog.godebug = none := by kernel_rfl
theorem windowSpoils_laidOut : laidOutB Tryd.prog = true := by kernel_rfl
theorem windowSpoils_extra : U8Extra Tryd.prog Tryd.laysValid_ren := ⟨by kernel_rfl, by kernel_rfl, by kernel_rfl, by kernel_rfl, by kernel_rfl, by kernel_rfl, by kernel_rfl⟩
theorem windowSpoils_accept : (Rows.laid_unicode_utf8_acceptRanges : DataW Unit) = Go.Lib.acceptData := by kernel_rfl
theorem windowSpoils_first : Rows.laid_unicode_utf8_first = Go.Lib.firstData := Pinned.utf8First_eq

theorem windowSpoils_law (l : List V) (h : Shps tt 8 Tryd.f7.params.toList l) : ACall Tryd.prog 7 0 l [] (fun v _ => v = .bool true) := by
  obtain ⟨v1, _, h1, ⟨v2, _, h2, ⟨v3, _, h3, ⟨v4, _, h4, rfl, rfl⟩, rfl⟩, rfl⟩, rfl⟩ := h
  obtain ⟨l, keys, e1, hl, hk⟩ := sch_in h1
  obtain ⟨R, e2, _⟩ := lists_in h2
  obtain ⟨ck, cs, cl, ck3, cc, e3, _, _⟩ := chg_in h3
  obtain ⟨E, e4, hE⟩ := evs_in h4
  rw [e1, e2, e3, e4]
  exact WindowSpoils_spec (c := ⟨ck, cs, cl, ck3, cc⟩) hl hk fun e he => evx_in (hE e he)

set_option maxRecDepth 100000 in
theorem windowSpoils_lifted (os : Os) (started : os.Started) (H : Type) (enc : TypeId × Value → H) :
    ReturnsInHanded {} Tryd.checked os 7 .any (fun w args => (Rows.windowSpoilsSpec.pre enc Tryd.prog Tryd.f7 [] false w args ∧ laidMetH Tryd.prog Rows.windowSpoilsRow.laid w) ∧ sizedMet enc Tryd.prog Tryd.f7 (OpenSpec.ofChange Rows.windowSpoilsSpec) false w args)
      (Rows.windowSpoilsSpec.post enc Tryd.prog Tryd.f7 false true false false) := by
  refine returnsInHanded_of_change_and (C := Tryd.checked) (X := fun w _ => laidMetH Tryd.prog Rows.windowSpoilsRow.laid w) (fun _ _ _ hh h => h.of_heap hh) windowSpoils_own started (by kernel_rfl) Tryd.func7
    (ChangeSpec.witness_shaped (enc := enc) (C := Tryd.checked) (os := os) (X := fun w _ => laidMetH Tryd.prog Rows.windowSpoilsRow.laid w) false (World.laidAll Tryd.prog os Rows.windowSpoilsRow.laid) #[.agg #[.slice none 0 0, .int .i64 0], .slice none 0 0, .agg #[.int .i64 0, .string ⟨#[]⟩, .slice none 0 0, .int .i64 0, .string ⟨#[]⟩, .int .i64 0, .bool false], .slice none 0 0] 8 (World.laidAll_os _ _ _)
      (World.shaped_of_ZipB (by kernel_rfl) (by kernel_rfl)) (by kernel_rfl) (by kernel_rfl) (by kernel_rfl)
      (by rw [MakeChecks.laidMetH_plain _ _ _ (by kernel_rfl)]; exact laidMet_laidAll _ (by kernel_rfl) (by kernel_rfl))) ?_
  intro W base args ds gs before hval hW _ hwts hL _
  rw [MakeChecks.laidMetH_plain _ _ _ (by kernel_rfl)] at hL
  have hK : Globs.K (Im0 W) := gK_of (utf8Tabs_of_readsT (.of196 Tryd.laysValid) windowSpoils_extra (windowSpoils_first ▸ Go.Lib.laidMet.reads hL (.tail _ (.head _))) (windowSpoils_accept ▸ Go.Lib.laidMet.reads hL (.head _)))
  exact law_contract (P := Tryd.prog) tt_ok windowSpoils_laidOut (fn := Tryd.f7) (s := Rows.windowSpoilsSpec) 8 (by kernel_rfl) (tb := 4) (by kernel_rfl) Tryd.underlying4 rfl (fun H ds hd => by
    rw [show Tryd.f7.params.size = 4 by kernel_rfl] at hd
    match ds, hd with
    | [d0, d1, d2, d3], _ => rfl) windowSpoils_law W base args ds gs before hval hW hK (weights_in hW rfl hwts)

theorem windowSpoils_holds : Rows.WindowSpoilsSaid :=
  OpenClaim.holds_of_wide 7 Tryd.f7 rfl rfl rfl rfl rfl rfl rfl ⟨rfl, rfl, rfl, rfl, rfl⟩ rfl rfl rfl rfl rfl (by kernel_rfl) Tryd.func7 (by kernel_rfl)
    (of_decide_eq_true (by kernel_rfl)) (by unfold Func.isWrapper; first | (rw [if_pos (by decide +kernel)]; kernel_rfl) | (rw [if_neg (by decide +kernel)]; exact ⟨rfl, rfl⟩))
    (fun os started H enc _ => windowSpoils_lifted os started H enc)

theorem windowSpoils_card_holds : Rows.WindowSpoilsCardSaid :=
  Claim7.holds_tied_plain_at .later [] [.data, .pinned] true (true, "5e9d0cc5c4dfa2bfbba7117eddc87c3c2a74b73551d63258d15b9653ab699a22") false windowSpoils_holds (fun _ h => by cases h) (by kernel_rfl) (fun _ h => by cases h) windowSpoils_row_tie rfl ⟨rfl, rfl⟩ (by kernel_rfl) rfl
    (fun f fn hf hfn => by
      obtain rfl : f = 7 := Option.some.inj ((show Tryd.prog.funcNamed "pantograph/pantographlaw13.WindowSpoils" = some 7 by kernel_rfl).symm.trans hf) |>.symm
      obtain rfl : fn = Tryd.f7 := (Option.some.inj (Tryd.func7.symm.trans hfn)).symm
      exact ⟨by kernel_rfl, fun j t ht => by
        rw [Tryd.params7] at ht
        have hm : t ∈ [27, 31, 58, 55] := by simpa using Array.mem_of_getElem? ht
        have hall : ([27, 31, 58, 55].all fun u => !Tryd.prog.wantsStandIn u) = true := by kernel_rfl
        exact (show Tryd.prog.wantsStandIn t = false by simpa using List.all_eq_true.1 hall t hm)⟩)
    (by kernel_rfl)

#print axioms windowSpoils_card_holds
end Go.Proofs.YtgikkoeckdhgkaaDoor
