/- SchemaParts: whatever the schema, the text and the values, the law answers true and changes nothing that came in. -/
import Derived.Test.YtcgpgpbnpjbhhaaDoorPgM20
import Derived.Test.YtcgpgpbnpjbhhaaDoorCards
import Derived.Test.YtcgpgpbnpjbhhaaDoorTie
import Derived.Test.YtcgpgpbnpjbhhaaDoorRows
import Derived.Lay
import Derived.LaidOnce
import Derived.PinnedBridge
import Derived.Lib.LaidU8T
import Derived.SevenTiedAt
namespace Go.Proofs.YtcgpgpbnpjbhhaaDoor
open Go.ChangeShapes Go.WideShapes Go.ChangeAt Go.RowKit Go.Proofs.YtcgpgpbnpjbhhaaDoorPg

theorem schemaParts_own : ownKnob Tryd.prog.godebug = none := by kernel_rfl
theorem schemaParts_laidOut : laidOutB Tryd.prog = true := by kernel_rfl
theorem schemaParts_extra : U8Extra Tryd.prog Tryd.laysValid_ren := ⟨by kernel_rfl, by kernel_rfl, by kernel_rfl, by kernel_rfl, by kernel_rfl, by kernel_rfl, by kernel_rfl⟩
theorem schemaParts_accept : (Rows.laid_unicode_utf8_acceptRanges : DataW Unit) = Go.Lib.acceptData := by kernel_rfl
theorem schemaParts_first : Rows.laid_unicode_utf8_first = Go.Lib.firstData := Pinned.utf8First_eq

theorem schemaParts_law (l : List V) (h : Shps tt 8 Tryd.f4.params.toList l) : ACall Tryd.prog 4 0 l [] (fun v _ => v = .bool true) := by
  obtain ⟨v1, _, h1, ⟨v2, _, h2, ⟨v3, _, h3, rfl, rfl⟩, rfl⟩, rfl⟩ := h
  obtain ⟨a, ka, e1, ha, hka⟩ := sch_in h1
  obtain ⟨key, _, rfl⟩ := h2
  obtain ⟨vs, e3, hv⟩ := vals_in h3
  rw [e1, e3]
  exact SchemaParts_spec ha hka (fun v hx => ⟨(hv v hx).1, (hv v hx).2.1⟩)

set_option maxRecDepth 100000 in
theorem schemaParts_lifted (os : Os) (started : os.Started) (H : Type) (enc : TypeId × Value → H) :
    ReturnsInHanded {} Tryd.checked os 4 .any (fun w args => (Rows.schemaPartsSpec.pre enc Tryd.prog Tryd.f4 [] false w args ∧ laidMetH Tryd.prog Rows.schemaPartsRow.laid w) ∧ sizedMet enc Tryd.prog Tryd.f4 (OpenSpec.ofChange Rows.schemaPartsSpec) false w args)
      (Rows.schemaPartsSpec.post enc Tryd.prog Tryd.f4 false true false false) := by
  refine returnsInHanded_of_change_and (C := Tryd.checked) (X := fun w _ => laidMetH Tryd.prog Rows.schemaPartsRow.laid w) (fun _ _ _ hh h => h.of_heap hh) schemaParts_own started (by kernel_rfl) Tryd.func4
    (ChangeSpec.witness_shaped (enc := enc) (C := Tryd.checked) (os := os) (X := fun w _ => laidMetH Tryd.prog Rows.schemaPartsRow.laid w) false (World.laidAll Tryd.prog os Rows.schemaPartsRow.laid) #[.agg #[.slice none 0 0, .int .i64 0], .string ⟨#[]⟩, .slice none 0 0] 8 (World.laidAll_os _ _ _)
      (World.shaped_of_ZipB (by kernel_rfl) (by kernel_rfl)) (by kernel_rfl) (by kernel_rfl) (by kernel_rfl)
      (by rw [MakeChecks.laidMetH_plain _ _ _ (by kernel_rfl)]; exact laidMet_laidAll _ (by kernel_rfl) (by kernel_rfl))) ?_
  intro W base args ds gs before hval hW _ hwts hL _
  rw [MakeChecks.laidMetH_plain _ _ _ (by kernel_rfl)] at hL
  have hK : Globs.K (Im0 W) := gK_of (utf8Tabs_of_readsT (.of196 Tryd.laysValid) schemaParts_extra (schemaParts_first ▸ Go.Lib.laidMet.reads hL (.tail _ (.head _))) (schemaParts_accept ▸ Go.Lib.laidMet.reads hL (.head _)))
  exact law_contract (P := Tryd.prog) tt_ok schemaParts_laidOut (fn := Tryd.f4) (s := Rows.schemaPartsSpec) 8 (by kernel_rfl) (tb := 4) (by kernel_rfl) Tryd.underlying4 rfl (fun H ds hd => by
    rw [show Tryd.f4.params.size = 3 by kernel_rfl] at hd
    match ds, hd with
    | [d0, d1, d2], _ => rfl) schemaParts_law W base args ds gs before hval hW hK (weights_in hW rfl hwts)

theorem schemaParts_holds : Rows.SchemaPartsSaid :=
  OpenClaim.holds_of_wide 4 Tryd.f4 rfl rfl rfl rfl rfl rfl rfl ⟨rfl, rfl, rfl, rfl, rfl⟩ rfl rfl rfl rfl rfl (by kernel_rfl) Tryd.func4 (by kernel_rfl)
    (of_decide_eq_true (by kernel_rfl)) (by unfold Func.isWrapper; first | (rw [if_pos (by decide +kernel)]; kernel_rfl) | (rw [if_neg (by decide +kernel)]; exact ⟨rfl, rfl⟩))
    (fun os started H enc _ => schemaParts_lifted os started H enc)

theorem schemaParts_card_holds : Rows.SchemaPartsCardSaid :=
  Claim7.holds_tied_plain_at .later [] [.data, .pinned] true (true, "5225aec662514c789875714286db41e387eccc8b7b8cb3e2101574f4485e3611") false schemaParts_holds (fun _ h => by cases h) (by kernel_rfl) (fun _ h => by cases h) schemaParts_row_tie rfl ⟨rfl, rfl⟩ (by kernel_rfl) rfl
    (fun f fn hf hfn => by
      obtain rfl : f = 4 := Option.some.inj ((show Tryd.prog.funcNamed "pantograph/pantographlaw04.SchemaParts" = some 4 by kernel_rfl).symm.trans hf) |>.symm
      obtain rfl : fn = Tryd.f4 := (Option.some.inj (Tryd.func4.symm.trans hfn)).symm
      exact ⟨by kernel_rfl, fun j t ht => by
        rw [Tryd.params4] at ht
        have hm : t ∈ [24, 9, 25] := by simpa using Array.mem_of_getElem? ht
        have hall : ([24, 9, 25].all fun u => !Tryd.prog.wantsStandIn u) = true := by kernel_rfl
        exact (show Tryd.prog.wantsStandIn t = false by simpa using List.all_eq_true.1 hall t hm)⟩)
    (by kernel_rfl)

#print axioms schemaParts_card_holds
end Go.Proofs.YtcgpgpbnpjbhhaaDoor
