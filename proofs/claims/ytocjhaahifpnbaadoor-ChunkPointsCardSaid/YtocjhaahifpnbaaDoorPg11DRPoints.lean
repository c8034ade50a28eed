/- ChunkPoints: whatever the point, the law answers true and changes nothing that came in. -/
import Derived.Test.YtocjhaahifpnbaaDoorPgM22
import Derived.Test.YtocjhaahifpnbaaDoorCards
import Derived.Test.YtocjhaahifpnbaaDoorTie
import Derived.Test.YtocjhaahifpnbaaDoorRows
import Derived.Lay
import Derived.LaidOnce
import Derived.PinnedBridge
import Derived.Lib.LaidU8T
import Derived.SevenTiedAt
namespace Go.Proofs.YtocjhaahifpnbaaDoor
open Go.ChangeShapes Go.WideShapes Go.ChangeAt Go.RowKit Go.Proofs.YtocjhaahifpnbaaDoorPg

theorem chunkPoints_own : ownKnob Tryd.prog.godebug = none := by kernel_rfl
theorem chunkPoints_laidOut : laidOutB Tryd.prog = true := by kernel_rfl
theorem chunkPoints_extra : U8Extra Tryd.prog Tryd.laysValid_ren := ⟨by kernel_rfl, by kernel_rfl, by kernel_rfl, by kernel_rfl, by kernel_rfl, by kernel_rfl, by kernel_rfl⟩
theorem chunkPoints_accept : (Rows.laid_unicode_utf8_acceptRanges : DataW Unit) = Go.Lib.acceptData := by kernel_rfl
theorem chunkPoints_first : Rows.laid_unicode_utf8_first = Go.Lib.firstData := Pinned.utf8First_eq

theorem chunkPoints_law (l : List V) (h : Shps tt 8 Tryd.f7.params.toList l) : ACall Tryd.prog 7 0 l [] (fun v _ => v = .bool true) := by
  obtain ⟨v1, _, h1, rfl, rfl⟩ := h
  obtain ⟨a, b, c, l, e1, ha, hb, hc⟩ := pt_in h1
  rw [e1]
  exact ChunkPoints_spec ha hb hc

set_option maxRecDepth 100000 in
theorem chunkPoints_lifted (os : Os) (started : os.Started) (H : Type) (enc : TypeId × Value → H) :
    ReturnsInHanded {} Tryd.checked os 7 .any (fun w args => (Rows.chunkPointsSpec.pre enc Tryd.prog Tryd.f7 [] false w args ∧ laidMetH Tryd.prog Rows.chunkPointsRow.laid w) ∧ sizedMet enc Tryd.prog Tryd.f7 (OpenSpec.ofChange Rows.chunkPointsSpec) false w args)
      (Rows.chunkPointsSpec.post enc Tryd.prog Tryd.f7 false true false false) := by
  refine returnsInHanded_of_change_and (C := Tryd.checked) (X := fun w _ => laidMetH Tryd.prog Rows.chunkPointsRow.laid w) (fun _ _ _ hh h => h.of_heap hh) chunkPoints_own started (by kernel_rfl) Tryd.func7
    (ChangeSpec.witness_shaped (enc := enc) (C := Tryd.checked) (os := os) (X := fun w _ => laidMetH Tryd.prog Rows.chunkPointsRow.laid w) false (World.laidAll Tryd.prog os Rows.chunkPointsRow.laid) #[.agg #[.int .i64 0, .int .i64 0, .int .i64 0, .slice none 0 0]] 8 (World.laidAll_os _ _ _)
      (World.shaped_of_ZipB (by kernel_rfl) (by kernel_rfl)) (by kernel_rfl) (by kernel_rfl) (by kernel_rfl)
      (by rw [MakeChecks.laidMetH_plain _ _ _ (by kernel_rfl)]; exact laidMet_laidAll _ (by kernel_rfl) (by kernel_rfl))) ?_
  intro W base args ds gs before hval hW _ hwts hL _
  rw [MakeChecks.laidMetH_plain _ _ _ (by kernel_rfl)] at hL
  have hK : Globs.K (Im0 W) := gK_of (utf8Tabs_of_readsT (.of196 Tryd.laysValid) chunkPoints_extra (chunkPoints_first ▸ Go.Lib.laidMet.reads hL (.tail _ (.head _))) (chunkPoints_accept ▸ Go.Lib.laidMet.reads hL (.head _)))
  exact law_contract (P := Tryd.prog) tt_ok chunkPoints_laidOut (fn := Tryd.f7) (s := Rows.chunkPointsSpec) 8 (by kernel_rfl) (tb := 4) (by kernel_rfl) Tryd.underlying4 rfl (fun H ds hd => by
    rw [show Tryd.f7.params.size = 1 by kernel_rfl] at hd
    match ds, hd with
    | [d0], _ => rfl) chunkPoints_law W base args ds gs before hval hW hK (weights_in hW rfl hwts)

theorem chunkPoints_holds : Rows.ChunkPointsSaid :=
  OpenClaim.holds_of_wide 7 Tryd.f7 rfl rfl rfl rfl rfl rfl rfl ⟨rfl, rfl, rfl, rfl, rfl⟩ rfl rfl rfl rfl rfl (by kernel_rfl) Tryd.func7 (by kernel_rfl)
    (of_decide_eq_true (by kernel_rfl)) (by unfold Func.isWrapper; first | (rw [if_pos (by decide +kernel)]; kernel_rfl) | (rw [if_neg (by decide +kernel)]; exact ⟨rfl, rfl⟩))
    (fun os started H enc _ => chunkPoints_lifted os started H enc)

theorem chunkPoints_card_holds : Rows.ChunkPointsCardSaid :=
  Claim7.holds_tied_plain_at .later [] [.data, .pinned] true (true, "831a9db6caa2aa9f97cc03ca975cb5685c2c506faedd73324d9abfc629ecee6d") false chunkPoints_holds (fun _ h => by cases h) (by kernel_rfl) (fun _ h => by cases h) chunkPoints_row_tie rfl ⟨rfl, rfl⟩ (by kernel_rfl) rfl
    (fun f fn hf hfn => by
      obtain rfl : f = 7 := Option.some.inj ((show Tryd.prog.funcNamed "pantograph/pantographlaw11.ChunkPoints" = some 7 by kernel_rfl).symm.trans hf) |>.symm
      obtain rfl : fn = Tryd.f7 := (Option.some.inj (Tryd.func7.symm.trans hfn)).symm
      exact ⟨by kernel_rfl, fun j t ht => by
        rw [Tryd.params7] at ht
        have hm : t ∈ [35] := by simpa using Array.mem_of_getElem? ht
        have hall : ([35].all fun u => !Tryd.prog.wantsStandIn u) = true := by kernel_rfl
        exact (show Tryd.prog.wantsStandIn t = false by simpa using List.all_eq_true.1 hall t hm)⟩)
    (by kernel_rfl)

#print axioms chunkPoints_card_holds
end Go.Proofs.YtocjhaahifpnbaaDoor
