/- Own texts, laid together: PgE92, PgTr1. -/
import Derived.Test.YtcdkklgeepkopaaGreatDoorPgM13
import Derived.Lib.Overlaps
import Derived.Test.YtcdkklgeepkopaaGreatDoorPgM12
/- Slices of two blocks do not overlap. -/
namespace Go.Proofs.YtcdkklgeepkopaaGreatDoorPg
open Go Go.RowKit
set_option linter.unusedSectionVars false
variable [Globs]
set_option linter.unusedVariables false
set_option linter.unusedSimpArgs false

variable {P : Program} {I : Imm} {ρ : List Pl} {H : List O} {w : World}

def IsBuf (o : O) : Prop := (∃ es, o = .buf es) ∨ ∃ es, o = .bufc es

theorem run_overlaps_none (tS tR e : TypeId) (ht : P.underlying tS = some (.slice e)) (size : Nat) (hz : ∀ w, (Go.sizeOf e).run P w = .ok size w) (a b : Option Addr) (la ca lb cb : Nat) (h0 : la = 0 ∨ lb = 0) :
    (Extern.SlicesOverlaps.overlaps #[tS, tS] #[tR] #[.slice a la ca, .slice b lb cb]).run P w = .ok (.bool false) w := by
  have h0' : la = 0 ∨ lb = 0 ∨ size = 0 := by omega
  change Sem.run P (α := Value) (do
    let some t := (#[tS, tS] : Array TypeId)[0]? | stuck "slices.overlaps: no parameter types"
    let .slice elem ← underlying t | stuck "slices.overlaps: slice type expected"
    let size ← sizeOf elem
    match a, b with
    | some a, some b =>
      if la = 0 ∨ lb = 0 ∨ size = 0 then pure (Value.bool false)
      else if a.block != b.block && (← frozen a) && (← frozen b) then unsupported .addressObserved
      else do
        if a.block != b.block then do
          noView a; noView b
          if ← mayBeOne a b then return Value.bool ((← choose (.extern "sameAddr.stringBytes" 2)) == 1)
        pure (Value.bool (a.block == b.block && a.off < b.off + lb * size && b.off < a.off + la * size))
    | _, _ => pure (Value.bool false)) w = _
  cases a <;> cases b <;> simp [run_underlying' ht, hz, h0']

theorem open_of (hst : St I ρ H w) {i : Nat} {p : Pl} (hp : ρ[i]? = some p) (hb : IsBuf (getO H i)) (ht : p.tot ≠ 0) : (getO H i).owns p p.b ∧ H[i]? = some (getO H i) ∧ Open w p.b p.base (p.base + p.tot * p.sz) := by
  rcases hb with ⟨es, hg⟩ | ⟨es, hg⟩
  · have hH := getO_some hg (by simp)
    rw [hg]
    rcases hst.obj i p _ hp hH with ⟨_, h0⟩ | ⟨_, o2, _⟩
    · exact absurd h0 ht
    · exact ⟨⟨ht, rfl⟩, hH, o2⟩
  · have hH := getO_some hg (by simp)
    rw [hg]
    obtain ⟨_, o2, _⟩ := hst.obj i p _ hp hH
    exact ⟨⟨trivial, rfl⟩, hH, o2⟩

theorem overlaps_run {tS tR e : TypeId} (ht : P.underlying tS = some (.slice e)) {size : Nat} (hz : ∀ w, (Go.sizeOf e).run P w = .ok size w) (hst : St I ρ H w) {z i a n j b m : Nat} {f g : Bool} (hz0 : 0 < z) (hij : i ≠ j) (hi : IsBuf (getO H i)) (hj : IsBuf (getO H j)) {u v : Value}
    (hu : VRel I ρ (.ms z i a n f) u) (hv : VRel I ρ (.ms z j b m g) v) : (Extern.SlicesOverlaps.overlaps #[tS, tS] #[tR] #[u, v]).run P w = .ok (.bool false) w := by
  generalize hz1 : z = z1 at hu
  cases hu with
  | ms0 =>
    cases hv with
    | ms0 => exact run_overlaps_none tS tR e ht size hz _ _ _ _ _ _ (.inl rfl)
    | ms => exact run_overlaps_none tS tR e ht size hz _ _ _ _ _ _ (.inl rfl)
  | ms _ _ _ _ cap _ p hp m1 m2 m3 m4 =>
    generalize hz2 : z = z2 at hv
    cases hv with
    | ms0 => exact run_overlaps_none tS tR e ht size hz _ _ _ _ _ _ (.inr rfl)
    | ms _ _ _ _ cap2 _ q hq k1 k2 k3 k4 =>
      by_cases h0 : n = 0 ∨ m = 0
      · exact run_overlaps_none tS tR e ht size hz _ _ _ _ _ _ h0
      · obtain ⟨r1, r2, r3⟩ := open_of hst hp hi (by omega)
        obtain ⟨s1, s2, s3⟩ := open_of hst hq hj (by omega)
        have hne : p.b ≠ q.b := fun e => hij (hst.inj i j p q _ _ q.b hp r2 (by rw [← e]; exact r1) hq s2 s1)
        obtain ⟨c, t, fr, c1, c2, c3⟩ := r3
        obtain ⟨c', t', fr', d1, d2, d3⟩ := s3
        have hpos : 0 < q.tot * q.sz := Nat.mul_pos (by omega) (by omega)
        refine Lib.run_overlaps_apart w tS tR e ht size hz _ _ n cap m cap2 hne t t' c.size c'.size ?_ ?_ (by omega) (c3 _ (by omega)) (c3 _ (by omega))
        · simp [World.shape?, c1]
        · simp [World.shape?, d1]

end Go.Proofs.YtcdkklgeepkopaaGreatDoorPg

/- Trees of keys: the plain side. -/
namespace Go.Proofs.YtcdkklgeepkopaaGreatDoorPg
open Go Go.RowKit

inductive Tr (α : Type) where
  | nil
  | node (k : List UInt8) (v : α) (a b : Tr α)

variable {α : Type}

def Tr.ht : Tr α → Nat
  | .nil => 0
  | .node _ _ a b => 1 + max a.ht b.ht

def firstT (d : List UInt8 × α) : Tr α → List UInt8 × α
  | .nil => d
  | .node k v a _ => firstT (k, v) a

section
variable [Globs]

end

def Tr.size : Tr α → Nat
  | .nil => 0
  | .node _ _ a b => 1 + a.size + b.size

end Go.Proofs.YtcdkklgeepkopaaGreatDoorPg
