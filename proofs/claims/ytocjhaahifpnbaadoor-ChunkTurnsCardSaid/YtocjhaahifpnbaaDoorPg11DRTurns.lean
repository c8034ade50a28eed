/- The tied card of ChunkTurns. -/
import Derived.Test.YtocjhaahifpnbaaDoorPgM23
import Derived.Test.YtocjhaahifpnbaaDoorCards
import Derived.Test.YtocjhaahifpnbaaDoorTie
import Derived.Test.YtocjhaahifpnbaaDoorRows
import Derived.Lay
import Derived.LaidOnce
import Derived.PinnedBridge
import Derived.Lib.LaidU8T
import Derived.SevenTiedAt
namespace Go.Proofs.YtocjhaahifpnbaaDoor
open Go.ChangeShapes Go.WideShapes Go.ChangeAt Go.RowKit Go.Proofs.YtocjhaahifpnbaaDoorPg

theorem chunkTurns_own : ownKnob Tryd.prog.godebug = none := by kernel_rfl
theorem chunkTurns_laidOut : laidOutB Tryd.prog = true := by kernel_rfl
theorem chunkTurns_extra : U8Extra Tryd.prog Tryd.laysValid_ren := ⟨by kernel_rfl, by kernel_rfl, by kernel_rfl, by kernel_rfl, by kernel_rfl, by kernel_rfl, by kernel_rfl⟩
theorem chunkTurns_accept : (Rows.laid_unicode_utf8_acceptRanges : DataW Unit) = Go.Lib.acceptData := by kernel_rfl
theorem chunkTurns_first : Rows.laid_unicode_utf8_first = Go.Lib.firstData := Pinned.utf8First_eq

theorem chunkTurns_law (l : List V) (h : Shps tt 8 Tryd.f9.params.toList l) : ACall Tryd.prog 9 0 l [] (fun v _ => v = .bool true) := by
  obtain ⟨v1, _, h1, ⟨v2, _, h2, ⟨v3, _, h3, ⟨v4, _, h4, ⟨v5, _, h5, rfl, rfl⟩, rfl⟩, rfl⟩, rfl⟩, rfl⟩ := h
  obtain ⟨a, e1⟩ := wks_in h1
  obtain ⟨t, _, rfl⟩ := h2
  obtain ⟨x, _, rfl⟩ := h3
  obtain ⟨n, _, rfl⟩ := h4
  obtain ⟨d, rfl⟩ := h5
  rw [e1]
  exact ChunkTurns_spec

set_option maxRecDepth 100000 in
theorem chunkTurns_lifted (os : Os) (started : os.Started) (H : Type) (enc : TypeId × Value → H) :
    ReturnsInHanded {} Tryd.checked os 9 .any (fun w args => (Rows.chunkTurnsSpec.pre enc Tryd.prog Tryd.f9 [] false w args ∧ laidMetH Tryd.prog Rows.chunkTurnsRow.laid w) ∧ sizedMet enc Tryd.prog Tryd.f9 (OpenSpec.ofChange Rows.chunkTurnsSpec) false w args)
      (Rows.chunkTurnsSpec.post enc Tryd.prog Tryd.f9 false true false false) := by
  refine returnsInHanded_of_change_and (C := Tryd.checked) (X := fun w _ => laidMetH Tryd.prog Rows.chunkTurnsRow.laid w) (fun _ _ _ hh h => h.of_heap hh) chunkTurns_own started (by kernel_rfl) Tryd.func9
    (ChangeSpec.witness_shaped (enc := enc) (C := Tryd.checked) (os := os) (X := fun w _ => laidMetH Tryd.prog Rows.chunkTurnsRow.laid w) false (World.laidAll Tryd.prog os Rows.chunkTurnsRow.laid) #[.slice none 0 0, .string ⟨#[]⟩, .string ⟨#[]⟩, .int .i64 0, .bool false] 8 (World.laidAll_os _ _ _)
      (World.shaped_of_ZipB (by kernel_rfl) (by kernel_rfl)) (by kernel_rfl) (by kernel_rfl) (by kernel_rfl)
      (by rw [MakeChecks.laidMetH_plain _ _ _ (by kernel_rfl)]; exact laidMet_laidAll _ (by kernel_rfl) (by kernel_rfl))) ?_
  intro W base args ds gs before hval hW _ hwts hL _
  rw [MakeChecks.laidMetH_plain _ _ _ (by kernel_rfl)] at hL
  have hK : Globs.K (Im0 W) := gK_of (utf8Tabs_of_readsT (.of196 Tryd.laysValid) chunkTurns_extra (chunkTurns_first ▸ Go.Lib.laidMet.reads hL (.tail _ (.head _))) (chunkTurns_accept ▸ Go.Lib.laidMet.reads hL (.head _)))
  exact law_contract (P := Tryd.prog) tt_ok chunkTurns_laidOut (fn := Tryd.f9) (s := Rows.chunkTurnsSpec) 8 (by kernel_rfl) (tb := 4) (by kernel_rfl) Tryd.underlying4 rfl (fun H ds hd => by
    rw [show Tryd.f9.params.size = 5 by kernel_rfl] at hd
    match ds, hd with
    | [d0, d1, d2, d3, d4], _ => rfl) chunkTurns_law W base args ds gs before hval hW hK (weights_in hW rfl hwts)

theorem chunkTurns_holds : Rows.ChunkTurnsSaid :=
  OpenClaim.holds_of_wide 9 Tryd.f9 rfl rfl rfl rfl rfl rfl rfl ⟨rfl, rfl, rfl, rfl, rfl⟩ rfl rfl rfl rfl rfl (by kernel_rfl) Tryd.func9 (by kernel_rfl)
    (of_decide_eq_true (by kernel_rfl)) (by unfold Func.isWrapper; first | (rw [if_pos (by decide +kernel)]; kernel_rfl) | (rw [if_neg (by decide +kernel)]; exact ⟨rfl, rfl⟩))
    (fun os started H enc _ => chunkTurns_lifted os started H enc)

theorem chunkTurns_card_holds : Rows.ChunkTurnsCardSaid :=
  Claim7.holds_tied_plain_at .later [] [.data, .pinned] true (true, "831a9db6caa2aa9f97cc03ca975cb5685c2c506faedd73324d9abfc629ecee6d") false chunkTurns_holds (fun _ h => by cases h) (by kernel_rfl) (fun _ h => by cases h) chunkTurns_row_tie rfl ⟨rfl, rfl⟩ (by kernel_rfl) rfl
    (fun f fn hf hfn => by
      obtain rfl : f = 9 := Option.some.inj ((show Tryd.prog.funcNamed "pantograph/pantographlaw11.ChunkTurns" = some 9 by kernel_rfl).symm.trans hf) |>.symm
      obtain rfl : fn = Tryd.f9 := (Option.some.inj (Tryd.func9.symm.trans hfn)).symm
      exact ⟨by kernel_rfl, fun j t ht => by
        rw [Tryd.params9] at ht
        have hm : t ∈ [22, 9, 9, 3, 4] := by simpa using Array.mem_of_getElem? ht
        have hall : ([22, 9, 9, 3, 4].all fun u => !Tryd.prog.wantsStandIn u) = true := by kernel_rfl
        exact (show Tryd.prog.wantsStandIn t = false by simpa using List.all_eq_true.1 hall t hm)⟩)
    (by kernel_rfl)

#print axioms chunkTurns_card_holds
end Go.Proofs.YtocjhaahifpnbaaDoor
