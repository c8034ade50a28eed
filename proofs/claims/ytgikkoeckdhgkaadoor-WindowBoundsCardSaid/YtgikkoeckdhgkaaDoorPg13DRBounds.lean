/- The tied card of WindowBounds. -/
import Derived.Test.YtgikkoeckdhgkaaDoorPgM20
import Derived.Test.YtgikkoeckdhgkaaDoorCards
import Derived.Test.YtgikkoeckdhgkaaDoorTie
import Derived.Test.YtgikkoeckdhgkaaDoorRows
import Derived.Lay
import Derived.LaidOnce
import Derived.PinnedBridge
import Derived.Lib.LaidU8T
import Derived.SevenTiedAt
namespace Go.Proofs.YtgikkoeckdhgkaaDoor
open Go.ChangeShapes Go.WideShapes Go.ChangeAt Go.RowKit Go.Proofs.YtgikkoeckdhgkaaDoorPg

theorem windowBounds_own : ownKnob Tryd.prog.godebug = none := by kernel_rfl
theorem windowBounds_laidOut : laidOutB Tryd.prog = true := by kernel_rfl
theorem windowBounds_extra : U8Extra Tryd.prog Tryd.laysValid_ren := ⟨by kernel_rfl, by kernel_rfl, by kernel_rfl, by kernel_rfl, by kernel_rfl, by kernel_rfl, by kernel_rfl⟩
theorem windowBounds_accept : (Rows.laid_unicode_utf8_acceptRanges : DataW Unit) = Go.Lib.acceptData := by kernel_rfl
theorem windowBounds_first : Rows.laid_unicode_utf8_first = Go.Lib.firstData := Pinned.utf8First_eq

theorem windowBounds_law (l : List V) (h : Shps tt 8 Tryd.f6.params.toList l) : ACall Tryd.prog 6 0 l [] (fun v _ => v = .bool true) := by
  obtain ⟨v1, _, ⟨size, hsize, rfl⟩, ⟨v2, _, h2, ⟨v3, _, h3, rfl, rfl⟩, rfl⟩, rfl⟩ := h
  obtain ⟨l, keys, e2, hl, hk⟩ := sch_in h2
  obtain ⟨D, e3, hD⟩ := dds_in h3
  rw [e2, e3]
  exact WindowBounds_spec hl hk (i64_wf hsize) hD

set_option maxRecDepth 100000 in
theorem windowBounds_lifted (os : Os) (started : os.Started) (H : Type) (enc : TypeId × Value → H) :
    ReturnsInHanded {} Tryd.checked os 6 .any (fun w args => (Rows.windowBoundsSpec.pre enc Tryd.prog Tryd.f6 [] false w args ∧ laidMetH Tryd.prog Rows.windowBoundsRow.laid w) ∧ sizedMet enc Tryd.prog Tryd.f6 (OpenSpec.ofChange Rows.windowBoundsSpec) false w args)
      (Rows.windowBoundsSpec.post enc Tryd.prog Tryd.f6 false true false false) := by
  refine returnsInHanded_of_change_and (C := Tryd.checked) (X := fun w _ => laidMetH Tryd.prog Rows.windowBoundsRow.laid w) (fun _ _ _ hh h => h.of_heap hh) windowBounds_own started (by kernel_rfl) Tryd.func6
    (ChangeSpec.witness_shaped (enc := enc) (C := Tryd.checked) (os := os) (X := fun w _ => laidMetH Tryd.prog Rows.windowBoundsRow.laid w) false (World.laidAll Tryd.prog os Rows.windowBoundsRow.laid) #[.int .i64 0, .agg #[.slice none 0 0, .int .i64 0], .slice none 0 0] 8 (World.laidAll_os _ _ _)
      (World.shaped_of_ZipB (by kernel_rfl) (by kernel_rfl)) (by kernel_rfl) (by kernel_rfl) (by kernel_rfl)
      (by rw [MakeChecks.laidMetH_plain _ _ _ (by kernel_rfl)]; exact laidMet_laidAll _ (by kernel_rfl) (by kernel_rfl))) ?_
  intro W base args ds gs before hval hW _ hwts hL _
  rw [MakeChecks.laidMetH_plain _ _ _ (by kernel_rfl)] at hL
  have hK : Globs.K (Im0 W) := gK_of (utf8Tabs_of_readsT (.of196 Tryd.laysValid) windowBounds_extra (windowBounds_first ▸ Go.Lib.laidMet.reads hL (.tail _ (.head _))) (windowBounds_accept ▸ Go.Lib.laidMet.reads hL (.head _)))
  exact law_contract (P := Tryd.prog) tt_ok windowBounds_laidOut (fn := Tryd.f6) (s := Rows.windowBoundsSpec) 8 (by kernel_rfl) (tb := 4) (by kernel_rfl) Tryd.underlying4 rfl (fun H ds hd => by
    rw [show Tryd.f6.params.size = 3 by kernel_rfl] at hd
    match ds, hd with
    | [d0, d1, d2], _ => rfl) windowBounds_law W base args ds gs before hval hW hK (weights_in hW rfl hwts)

theorem windowBounds_holds : Rows.WindowBoundsSaid :=
  OpenClaim.holds_of_wide 6 Tryd.f6 rfl rfl rfl rfl rfl rfl rfl ⟨rfl, rfl, rfl, rfl, rfl⟩ rfl rfl rfl rfl rfl (by kernel_rfl) Tryd.func6 (by kernel_rfl)
    (of_decide_eq_true (by kernel_rfl)) (by unfold Func.isWrapper; first | (rw [if_pos (by decide +kernel)]; kernel_rfl) | (rw [if_neg (by decide +kernel)]; exact ⟨rfl, rfl⟩))
    (fun os started H enc _ => windowBounds_lifted os started H enc)

theorem windowBounds_card_holds : Rows.WindowBoundsCardSaid :=
  Claim7.holds_tied_plain_at .later [] [.data, .pinned] true (true, "5e9d0cc5c4dfa2bfbba7117eddc87c3c2a74b73551d63258d15b9653ab699a22") false windowBounds_holds (fun _ h => by cases h) (by kernel_rfl) (fun _ h => by cases h) windowBounds_row_tie rfl ⟨rfl, rfl⟩ (by kernel_rfl) rfl
    (fun f fn hf hfn => by
      obtain rfl : f = 6 := Option.some.inj ((show Tryd.prog.funcNamed "pantograph/pantographlaw13.WindowBounds" = some 6 by kernel_rfl).symm.trans hf) |>.symm
      obtain rfl : fn = Tryd.f6 := (Option.some.inj (Tryd.func6.symm.trans hfn)).symm
      exact ⟨by kernel_rfl, fun j t ht => by
        rw [Tryd.params6] at ht
        have hm : t ∈ [3, 27, 71] := by simpa using Array.mem_of_getElem? ht
        have hall : ([3, 27, 71].all fun u => !Tryd.prog.wantsStandIn u) = true := by kernel_rfl
        exact (show Tryd.prog.wantsStandIn t = false by simpa using List.all_eq_true.1 hall t hm)⟩)
    (by kernel_rfl)

#print axioms windowBounds_card_holds
end Go.Proofs.YtgikkoeckdhgkaaDoor
