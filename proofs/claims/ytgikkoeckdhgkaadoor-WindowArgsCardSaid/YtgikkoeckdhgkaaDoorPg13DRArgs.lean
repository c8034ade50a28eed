/- The tied card of WindowArgs. -/
import Derived.Test.YtgikkoeckdhgkaaDoorPgM19
import Derived.Test.YtgikkoeckdhgkaaDoorCards
import Derived.Test.YtgikkoeckdhgkaaDoorTie
import Derived.Test.YtgikkoeckdhgkaaDoorRows
import Derived.Lay
import Derived.LaidOnce
import Derived.PinnedBridge
import Derived.Lib.LaidU8T
import Derived.SevenTiedAt
namespace Go.Proofs.YtgikkoeckdhgkaaDoor
open Go.ChangeShapes Go.WideShapes Go.ChangeAt Go.RowKit Go.Proofs.YtgikkoeckdhgkaaDoorPg

theorem windowArgs_own : ownKnob Tryd.prog.godebug = none := by kernel_rfl
theorem windowArgs_laidOut : laidOutB Tryd.prog = true := by kernel_rfl
theorem windowArgs_extra : U8Extra Tryd.prog Tryd.laysValid_ren := ⟨by kernel_rfl, by kernel_rfl, by kernel_rfl, by kernel_rfl, by kernel_rfl, by kernel_rfl, by kernel_rfl⟩
theorem windowArgs_accept : (Rows.laid_unicode_utf8_acceptRanges : DataW Unit) = Go.Lib.acceptData := by kernel_rfl
theorem windowArgs_first : Rows.laid_unicode_utf8_first = Go.Lib.firstData := Pinned.utf8First_eq

theorem windowArgs_law (l : List V) (h : Shps tt 8 Tryd.f4.params.toList l) : ACall Tryd.prog 4 0 l [] (fun v _ => v = .bool true) := by
  obtain ⟨v1, _, ⟨size, _, rfl⟩, ⟨v2, _, ⟨num, _, rfl⟩, ⟨v3, _, h3, ⟨v4, _, ⟨after, _, rfl⟩, ⟨v5, _, h5, rfl, rfl⟩, rfl⟩, rfl⟩, rfl⟩, rfl⟩ := h
  obtain ⟨b, e3, _⟩ := table_in h3
  obtain ⟨rows, e5, hr⟩ := rows_in h5
  rw [e3, e5]
  exact WindowArgs_spec fun r hr2 v hv => Nat.lt_of_le_of_lt (hr r hr2 v hv).t (by decide)

set_option maxRecDepth 100000 in
theorem windowArgs_lifted (os : Os) (started : os.Started) (H : Type) (enc : TypeId × Value → H) :
    ReturnsInHanded {} Tryd.checked os 4 .any (fun w args => (Rows.windowArgsSpec.pre enc Tryd.prog Tryd.f4 [] false w args ∧ laidMetH Tryd.prog Rows.windowArgsRow.laid w) ∧ sizedMet enc Tryd.prog Tryd.f4 (OpenSpec.ofChange Rows.windowArgsSpec) false w args)
      (Rows.windowArgsSpec.post enc Tryd.prog Tryd.f4 false true false false) := by
  refine returnsInHanded_of_change_and (C := Tryd.checked) (X := fun w _ => laidMetH Tryd.prog Rows.windowArgsRow.laid w) (fun _ _ _ hh h => h.of_heap hh) windowArgs_own started (by kernel_rfl) Tryd.func4
    (ChangeSpec.witness_shaped (enc := enc) (C := Tryd.checked) (os := os) (X := fun w _ => laidMetH Tryd.prog Rows.windowArgsRow.laid w) false (World.laidAll Tryd.prog os Rows.windowArgsRow.laid) #[.int .i64 0, .int .i64 0, .agg #[.string ⟨#[]⟩, .slice none 0 0, .int .i64 0], .string ⟨#[]⟩, .slice none 0 0] 8 (World.laidAll_os _ _ _)
      (World.shaped_of_ZipB (by kernel_rfl) (by kernel_rfl)) (by kernel_rfl) (by kernel_rfl) (by kernel_rfl)
      (by rw [MakeChecks.laidMetH_plain _ _ _ (by kernel_rfl)]; exact laidMet_laidAll _ (by kernel_rfl) (by kernel_rfl))) ?_
  intro W base args ds gs before hval hW _ hwts hL _
  rw [MakeChecks.laidMetH_plain _ _ _ (by kernel_rfl)] at hL
  have hK : Globs.K (Im0 W) := gK_of (utf8Tabs_of_readsT (.of196 Tryd.laysValid) windowArgs_extra (windowArgs_first ▸ Go.Lib.laidMet.reads hL (.tail _ (.head _))) (windowArgs_accept ▸ Go.Lib.laidMet.reads hL (.head _)))
  exact law_contract (P := Tryd.prog) tt_ok windowArgs_laidOut (fn := Tryd.f4) (s := Rows.windowArgsSpec) 8 (by kernel_rfl) (tb := 4) (by kernel_rfl) Tryd.underlying4 rfl (fun H ds hd => by
    rw [show Tryd.f4.params.size = 5 by kernel_rfl] at hd
    match ds, hd with
    | [d0, d1, d2, d3, d4], _ => rfl) windowArgs_law W base args ds gs before hval hW hK (weights_in hW rfl hwts)

theorem windowArgs_holds : Rows.WindowArgsSaid :=
  OpenClaim.holds_of_wide 4 Tryd.f4 rfl rfl rfl rfl rfl rfl rfl ⟨rfl, rfl, rfl, rfl, rfl⟩ rfl rfl rfl rfl rfl (by kernel_rfl) Tryd.func4 (by kernel_rfl)
    (of_decide_eq_true (by kernel_rfl)) (by unfold Func.isWrapper; first | (rw [if_pos (by decide +kernel)]; kernel_rfl) | (rw [if_neg (by decide +kernel)]; exact ⟨rfl, rfl⟩))
    (fun os started H enc _ => windowArgs_lifted os started H enc)

theorem windowArgs_card_holds : Rows.WindowArgsCardSaid :=
  Claim7.holds_tied_plain_at .later [] [.data, .pinned] true (true, "5e9d0cc5c4dfa2bfbba7117eddc87c3c2a74b73551d63258d15b9653ab699a22") false windowArgs_holds (fun _ h => by cases h) (by kernel_rfl) (fun _ h => by cases h) windowArgs_row_tie rfl ⟨rfl, rfl⟩ (by kernel_rfl) rfl
    (fun f fn hf hfn => by
      obtain rfl : f = 4 := Option.some.inj ((show Tryd.prog.funcNamed "pantograph/pantographlaw13.WindowArgs" = some 4 by kernel_rfl).symm.trans hf) |>.symm
      obtain rfl : fn = Tryd.f4 := (Option.some.inj (Tryd.func4.symm.trans hfn)).symm
      exact ⟨by kernel_rfl, fun j t ht => by
        rw [Tryd.params4] at ht
        have hm : t ∈ [3, 3, 29, 9, 35] := by simpa using Array.mem_of_getElem? ht
        have hall : ([3, 3, 29, 9, 35].all fun u => !Tryd.prog.wantsStandIn u) = true := by kernel_rfl
        exact (show Tryd.prog.wantsStandIn t = false by simpa using List.all_eq_true.1 hall t hm)⟩)
    (by kernel_rfl)

#print axioms windowArgs_card_holds
end Go.Proofs.YtgikkoeckdhgkaaDoor
