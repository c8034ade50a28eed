/- Values and objects told in less sharp words. -/
import Derived.Test.YtcgpgpbnpjbhhaaPgA1
namespace Go.Proofs.YtcgpgpbnpjbhhaaPg
open Go Go.RowKit
variable [Globs]
set_option linter.unusedVariables false
set_option linter.unusedSimpArgs false

variable {P : Program} {I : Imm} {ρ : List Pl} {H : List O} {w : World}

theorem res_mono {J J' : List O → Prop} {ks : List Pl} {B : List Nat} (hJ : ∀ Hs, J Hs → J' Hs) {I : Imm} {w : World} {ρ0 : List Pl} {p : Pl} (h : ORel I ρ0 w p (.res (packR J ks B) B)) : ORel I ρ0 w p (.res (packR J' ks B) B) := by
  obtain ⟨h1, h2, h3⟩ := h
  have key : ∀ I' w', packR J ks B I' w' p.b → packR J' ks B I' w' p.b := fun I' w' ⟨ρs, Hs, g1, g2⟩ => ⟨ρs, Hs, hJ _ g1, g2⟩
  exact ⟨key _ _ h1, fun I' w' hi hs => key _ _ (h2 I' w' hi hs), h3⟩

/-- What is told by v is told by v'. -/
def VSub (v v' : V) : Prop := ∀ (I : Imm) (ρ : List Pl) (u : Value), VRel I ρ v u → VRel I ρ v' u

theorem VSub.refl (v : V) : VSub v v := fun _ _ _ h => h
def VSubs (as bs : List V) : Prop := as.length = bs.length ∧ ∀ (i : Nat) (a b : V), as[i]? = some a → bs[i]? = some b → VSub a b

theorem VSubs.nil : VSubs [] [] := ⟨rfl, fun i a b h => by simp at h⟩
theorem VSubs.cons {a b : V} {as bs : List V} (h : VSub a b) (k : VSubs as bs) : VSubs (a :: as) (b :: bs) :=
  ⟨by simp [k.1], fun i x y hx hy => by
    cases i with
    | zero => simp at hx hy; subst hx; subst hy; exact h
    | succ i => exact k.2 i x y (by simpa using hx) (by simpa using hy)⟩
theorem VSubs.refl : ∀ (as : List V), VSubs as as
  | [] => .nil
  | a :: as => .cons (.refl a) (VSubs.refl as)
theorem VSubs.get {as bs : List V} (h : VSubs as bs) {i : Nat} {b : V} (hb : bs[i]? = some b) : ∃ a, as[i]? = some a ∧ VSub a b := by
  have hlt := (List.getElem?_eq_some_iff.1 hb).1
  have : i < as.length := by rw [h.1]; exact hlt
  exact ⟨as[i], List.getElem?_eq_getElem this, h.2 i _ _ (List.getElem?_eq_getElem this) hb⟩

theorem VSub.ip {cs cs' : List V} {off : Nat} (h : VSubs cs cs') : VSub (.ip cs off) (.ip cs' off) := fun I ρ u hr => by
  cases hr with
  | ip _ _ _ b base f h1 h2 h3 =>
    refine .ip _ _ _ _ _ f (fun i c hc => ?_) (fun i c hc => ?_) (fun i c hc => ?_) <;> obtain ⟨a, ha, hs⟩ := h.get hc
    · exact h1 i a ha
    · exact h2 i a ha
    · exact hs I [] _ (h3 i a ha)

/-- an empty slice that nobody writes -/
theorem VSub.nils (sz : Nat) (full : Bool) : VSub .nils (.sl sz [] full) := fun I ρ u hr => by
  cases hr; exact .slnil _ _ _ _

inductive OSub : O → O → Prop
  | refl (o : O) : OSub o o
  | cells {cs cs' : List V} (h : VSubs cs cs') : OSub (.cells cs) (.cells cs')
  | dead (o : O) : OSub o .dead
  | pk {J J' : List O → Prop} (ks : List Pl) (B : List Nat) (h : ∀ Hs, J Hs → J' Hs) : OSub (.res (packR J ks B) B) (.res (packR J' ks B) B)

theorem OSub.rel {o o' : O} (h : OSub o o') {p : Pl} (hr : ORel I ρ w p o) : ORel I ρ w p o' := by
  cases h with
  | refl => exact hr
  | dead => trivial
  | pk ks B h => exact res_mono h hr
  | cells h =>
    obtain ⟨h1, h2, h3, h4⟩ := hr
    refine ⟨h1, by rw [← h.1]; exact h2, by rw [← h.1]; exact h3, fun i v hv => ?_⟩
    obtain ⟨a, ha, hs⟩ := h.get hv
    obtain ⟨u, g1, g2, g3⟩ := h4 i a ha
    exact ⟨u, g1, g2, hs _ _ _ g3⟩

theorem OSub.own {o o' : O} (h : OSub o o') {p : Pl} {b : Nat} (hw : o'.owns p b) : o.owns p b := by
  cases h with
  | refl => exact hw
  | dead => exact hw.1.elim
  | pk ks B h => exact hw
  | cells h => exact hw

def HSub (H H' : List O) : Prop := H.length = H'.length ∧ ∀ (i : Nat) (a b : O), H[i]? = some a → H'[i]? = some b → OSub a b

theorem HSub.nil : HSub [] [] := ⟨rfl, fun i a b h => by simp at h⟩
theorem HSub.cons {a b : O} {as bs : List O} (h : OSub a b) (k : HSub as bs) : HSub (a :: as) (b :: bs) :=
  ⟨by simp [k.1], fun i x y hx hy => by
    cases i with
    | zero => simp at hx hy; subst hx; subst hy; exact h
    | succ i => exact k.2 i x y (by simpa using hx) (by simpa using hy)⟩
theorem HSub.refl : ∀ (as : List O), HSub as as
  | [] => .nil
  | a :: as => .cons (.refl a) (HSub.refl as)
theorem HSub.get {as bs : List O} (h : HSub as bs) {i : Nat} {b : O} (hb : bs[i]? = some b) : ∃ a, as[i]? = some a ∧ OSub a b := by
  have hlt := (List.getElem?_eq_some_iff.1 hb).1
  have : i < as.length := by rw [h.1]; exact hlt
  exact ⟨as[i], List.getElem?_eq_getElem this, h.2 i _ _ (List.getElem?_eq_getElem this) hb⟩

theorem HSub.st {H' : List O} (h : HSub H H') (hst : St I ρ H w) : St I ρ H' w := by
  refine ⟨by rw [hst.len, h.1], fun i p o hp ho => ?_, fun i j p q o r b hp ho hw hq hr hw' => ?_, hst.imm, fun b ⟨i, p, o, hp, ho, hw⟩ => ?_⟩
  · obtain ⟨a, ha, hs⟩ := h.get ho
    exact hs.rel (hst.obj i p a hp ha)
  · obtain ⟨a, ha, hs⟩ := h.get ho
    obtain ⟨c, hc, hs'⟩ := h.get hr
    exact hst.inj i j p q a c b hp ha (hs.own hw) hq hc (hs'.own hw')
  · obtain ⟨a, ha, hs⟩ := h.get ho
    exact hst.sep b ⟨i, p, a, hp, ha, hs.own hw⟩

theorem HSub.step {H' : List O} (h : HSub H H') (k : Nat) : Step k I ρ H w I ρ H' w :=
  ⟨ILe.refl _, fun _ _ => rfl, rfl, rfl, rfl, Nat.le_refl _, fun _ _ _ => rfl, fun b ⟨i, p, o, hp, ho, hw⟩ => by
    obtain ⟨a, ha, hs⟩ := h.get ho
    exact .inl ⟨i, p, a, hp, ha, hs.own hw⟩, fun _ _ _ hv => .inl hv⟩

theorem VSub.agg {cs cs' : List V} (h : VSubs cs cs') : VSub (.agg cs) (.agg cs') := fun I ρ u hr => by
  cases hr with
  | agg _ _ us h1 h2 h3 =>
    refine .agg _ _ _ (by rw [← h.1]; exact h1) h2 fun i a u ha hu => ?_
    obtain ⟨c, hc, hs⟩ := h.get ha
    exact hs I ρ u (h3 i c u hc hu)

theorem VSub.tup {cs cs' : List V} (h : VSubs cs cs') : VSub (.tup cs) (.tup cs') := fun I ρ u hr => by
  cases hr with
  | tup _ _ us h1 h3 =>
    refine .tup _ _ _ (by rw [← h.1]; exact h1) fun i a u ha hu => ?_
    obtain ⟨c, hc, hs⟩ := h.get ha
    exact hs I ρ u (h3 i c u hc hu)

theorem VSub.ms0 (sz id off : Nat) (full : Bool) : VSub .nils (.ms sz id off 0 full) := fun I ρ u hr => by
  cases hr; exact .ms0 _ _ _ _ _ _

theorem VSub.msRoom (sz id off : Nat) : VSub (.ms sz id off 0 true) (.ms sz id off 0 false) := fun I ρ u hr => by
  cases hr with
  | ms _ _ _ _ cap _ p h1 h2 h3 h4 h5 => have := h4 rfl; subst this; exact .ms0 _ _ _ _ _ _
  | ms0 => exact .ms0 _ _ _ _ _ _

/-- a slice, of whose spare room nothing is told -/
theorem VSub.room (sz : Nat) (es : List (List V)) (full : Bool) : VSub (.sl sz es full) (.sl sz es false) := fun I ρ u hr => by
  cases hr with
  | sl _ _ _ _ b base cap u h1 h2 h3 h4 h5 h6 => exact .sl _ _ _ _ b base cap u h1 (fun h => by cases h) h3 h4 h5 h6
  | slnil => exact .slnil _ _ _ _

end Go.Proofs.YtcgpgpbnpjbhhaaPg
