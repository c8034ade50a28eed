/- What is known of the program's own variables: the two tables of UTF-8. -/
import Derived.Test.YteiagdlfccbpcaaGreatDoorPgM15
import Derived.Test.YteiagdlfccbpcaaGreatDoorPgM11
import Derived.Shelf.Unicode.DecodeSlow
set_option linter.unusedSimpArgs false
namespace Go.Proofs.YteiagdlfccbpcaaGreatDoorPg
open Go Go.RowKit
def gK (I:aU):Prop :=
 (∀c,c<256->I (Tryz.laysValid_ren.g 3) c=some (.int .u8 (Lib.firstT c))) /\
 (∀i,i<16->I (Tryz.laysValid_ren.g 4) (2*i)=some (.int .u8 (Lib.accLo i))/\I (Tryz.laysValid_ren.g 4) (2*i+1)=some (.int .u8 (Lib.accHi i)))
instance:Globs:=⟨gK,fun h k=>⟨fun c hc=>h _ _ _ (k.1 c hc),fun i hi=>⟨h _ _ _ (k.2 i hi).1,h _ _ _ (k.2 i hi).2⟩⟩,140737488351232⟩
theorem Ij {I:aU} {ρ:List Pl} {H:List O} {w:World} (h:St I ρ H w):Lib.Utf8Tabs (Tryz.laysValid_ren.g 3) (Tryz.laysValid_ren.g 4) w:=by
 obtain⟨k1,k2⟩:gK I:=h.imm.glob;exact⟨fun c hc=>h.imm _ _ _ (k1 c hc),fun i hi=>⟨h.imm _ _ _ (k2 i hi).1,h.imm _ _ _ (k2 i hi).2⟩⟩
theorem KG {W:World} (h:Lib.Utf8Tabs (Tryz.laysValid_ren.g 3) (Tryz.laysValid_ren.g 4) W):Globs.K (D3 W):=h
theorem BH {H:Type} {enc:TypeId × Value->H} {P:Program} {ts:List TypeId} {s:ChangeSpec} {apart:Bool} {W:World} {us:List Value} {ds gs:List (DataW H)} {before:List MemPlace} (hW:DataW.Whole enc P ts s.vars apart W us ds gs before) (hv:s.vars = [])
 (h:(DataW.weightsEach P (ts++s.plain.varTypes P) (ds++gs)).all (· <= reachBytes)=true):∀k∈DataW.weightsEach P ts ds,k<=maxLen->k<=Globs.txt:=by
 obtain⟨p,q,hA,hV,hpq,hfz,hnd⟩:=hW;rw[hv]at hV;obtain⟨rfl,rfl⟩:=Go.ChangeShapes.trodVars_none hV;have e:s.plain.varTypes P = []:=by simp[ChangeSpec.plain,DataSpec.varTypes,hv]
 rw[e,List.append_nil,List.append_nil]at h;exact fun k hk _=>aB (List.all_eq_true.1 h k hk)
end Go.Proofs.YteiagdlfccbpcaaGreatDoorPg
