/- Values and objects told in less sharp words. -/
import Derived.Test.YtfhoblpcneachaaPgE5
namespace Go.Proofs.YtfhoblpcneachaaPg
open Go Go.RowKit
set_option linter.unusedVariables false
set_option linter.unusedSimpArgs false

variable {P : Program} {T : Nat → TI} {I : Imm} {ρ : List Pl} {H : List O} {w : World} {e : Env}

/-- What is told by v is told by v'. -/
def VSub (v v' : V) : Prop := ∀ (I : Imm) (ρ : List Pl) (u : Value), VRel I ρ v u → VRel I ρ v' u

theorem VSub.refl (v : V) : VSub v v := fun _ _ _ h => h
theorem VSub.im {v : V} (h : pureV v = true) : VSub v (.im v) := fun _ _ _ hr => hr.im' h
theorem VSub.im2 {v v' : V} (h : VSub v v') : VSub (.im v) (.im v') := fun I ρ u hr => by
  cases hr with
  | im _ _ _ h1 h2 => exact .im _ _ _ h1 (h I [] u h2)

def VSubs (as bs : List V) : Prop := as.length = bs.length ∧ ∀ (i : Nat) (a b : V), as[i]? = some a → bs[i]? = some b → VSub a b

theorem VSubs.nil : VSubs [] [] := ⟨rfl, fun i a b h => by simp at h⟩
theorem VSubs.cons {a b : V} {as bs : List V} (h : VSub a b) (k : VSubs as bs) : VSubs (a :: as) (b :: bs) :=
  ⟨by simp [k.1], fun i x y hx hy => by
    cases i with
    | zero => simp at hx hy; subst hx; subst hy; exact h
    | succ i => exact k.2 i x y (by simpa using hx) (by simpa using hy)⟩
theorem VSubs.refl : ∀ (as : List V), VSubs as as
  | [] => .nil
  | a :: as => .cons (.refl a) (VSubs.refl as)
theorem VSubs.get {as bs : List V} (h : VSubs as bs) {i : Nat} {b : V} (hb : bs[i]? = some b) : ∃ a, as[i]? = some a ∧ VSub a b := by
  have hlt := (List.getElem?_eq_some_iff.1 hb).1
  have : i < as.length := by rw [h.1]; exact hlt
  exact ⟨as[i], List.getElem?_eq_getElem this, h.2 i _ _ (List.getElem?_eq_getElem this) hb⟩

theorem VSub.ip {cs cs' : List V} {off : Nat} (h : VSubs cs cs') : VSub (.ip cs off) (.ip cs' off) := fun I ρ u hr => by
  cases hr with
  | ip _ _ _ b base f h1 h2 h3 =>
    refine .ip _ _ _ _ _ f (fun i c hc => ?_) (fun i c hc => ?_) (fun i c hc => ?_) <;> obtain ⟨a, ha, hs⟩ := h.get hc
    · exact h1 i a ha
    · exact h2 i a ha
    · exact hs I [] _ (h3 i a ha)

/-- an empty slice that nobody writes -/
theorem VSub.nils (sz : Nat) (full : Bool) : VSub .nils (.sl sz [] full) := fun I ρ u hr => by
  cases hr; exact .slnil _ _ _ _

inductive OSub : O → O → Prop
  | refl (o : O) : OSub o o
  | cells {cs cs' : List V} (h : VSubs cs cs') : OSub (.cells cs) (.cells cs')
  | dead (o : O) : OSub o .dead
  | pk {J J' : List O → Prop} (ks : List Pl) (B : List Nat) (h : ∀ Hs, J Hs → J' Hs) : OSub (.res (packR J ks B) B) (.res (packR J' ks B) B)

theorem OSub.rel {o o' : O} (h : OSub o o') {p : Pl} (hr : ORel I ρ w p o) : ORel I ρ w p o' := by
  cases h with
  | refl => exact hr
  | dead => trivial
  | pk ks B h => exact IsPk.mono h hr
  | cells h =>
    obtain ⟨h1, h2, h3, h4⟩ := hr
    refine ⟨h1, by rw [← h.1]; exact h2, by rw [← h.1]; exact h3, fun i v hv => ?_⟩
    obtain ⟨a, ha, hs⟩ := h.get hv
    obtain ⟨u, g1, g2, g3⟩ := h4 i a ha
    exact ⟨u, g1, g2, hs _ _ _ g3⟩

theorem OSub.own {o o' : O} (h : OSub o o') {p : Pl} {b : Nat} (hw : o'.owns p b) : o.owns p b := by
  cases h with
  | refl => exact hw
  | dead => exact hw.1.elim
  | pk ks B h => exact hw
  | cells h => exact hw

def HSub (H H' : List O) : Prop := H.length = H'.length ∧ ∀ (i : Nat) (a b : O), H[i]? = some a → H'[i]? = some b → OSub a b

theorem HSub.nil : HSub [] [] := ⟨rfl, fun i a b h => by simp at h⟩
theorem HSub.cons {a b : O} {as bs : List O} (h : OSub a b) (k : HSub as bs) : HSub (a :: as) (b :: bs) :=
  ⟨by simp [k.1], fun i x y hx hy => by
    cases i with
    | zero => simp at hx hy; subst hx; subst hy; exact h
    | succ i => exact k.2 i x y (by simpa using hx) (by simpa using hy)⟩
theorem HSub.refl : ∀ (as : List O), HSub as as
  | [] => .nil
  | a :: as => .cons (.refl a) (HSub.refl as)
theorem HSub.get {as bs : List O} (h : HSub as bs) {i : Nat} {b : O} (hb : bs[i]? = some b) : ∃ a, as[i]? = some a ∧ OSub a b := by
  have hlt := (List.getElem?_eq_some_iff.1 hb).1
  have : i < as.length := by rw [h.1]; exact hlt
  exact ⟨as[i], List.getElem?_eq_getElem this, h.2 i _ _ (List.getElem?_eq_getElem this) hb⟩

theorem HSub.st {H' : List O} (h : HSub H H') (hst : St I ρ H w) : St I ρ H' w := by
  refine ⟨by rw [hst.len, h.1], fun i p o hp ho => ?_, fun i j p q o r b hp ho hw hq hr hw' => ?_, hst.imm, fun b ⟨i, p, o, hp, ho, hw⟩ => ?_⟩
  · obtain ⟨a, ha, hs⟩ := h.get ho
    exact hs.rel (hst.obj i p a hp ha)
  · obtain ⟨a, ha, hs⟩ := h.get ho
    obtain ⟨c, hc, hs'⟩ := h.get hr
    exact hst.inj i j p q a c b hp ha (hs.own hw) hq hc (hs'.own hw')
  · obtain ⟨a, ha, hs⟩ := h.get ho
    exact hst.sep b ⟨i, p, a, hp, ha, hs.own hw⟩

theorem HSub.step {H' : List O} (h : HSub H H') (k : Nat) : Step k I ρ H w I ρ H' w :=
  ⟨ILe.refl _, fun _ _ => rfl, rfl, rfl, rfl, Nat.le_refl _, fun _ _ _ => rfl, fun b ⟨i, p, o, hp, ho, hw⟩ => by
    obtain ⟨a, ha, hs⟩ := h.get ho
    exact .inl ⟨i, p, a, hp, ha, hs.own hw⟩, fun _ _ _ hv => .inl hv⟩

/-- A contract, its result told in less sharp words. -/
theorem ACall.sub {f : FuncId} {k : Nat} {args : List V} {H : List O} {Q : V → List O → Prop}
    (h : ACall P f k args H fun r H' => ∃ r' H'', VSub r r' ∧ HSub H' H'' ∧ Q r' H'') : ACall P f k args H Q := by
  refine ⟨fun I ρ w us hst hk ha => (h.out I ρ w us hst hk ha).mono ?_⟩
  rintro en w' ⟨v, r, I', ρ', H', h1, h2, h3, h4, r', H'', h5, h6, h7⟩
  exact ⟨v, r', I', ρ', H'', h1, h6.st h2, h5 _ _ _ h3, h4.trans (h6.step k), h7⟩

/-- A contract, of whose result objects may become immutable, or be let go. -/
theorem ACall.ret {f : FuncId} {k : Nat} {args : List V} {H : List O} {Q : V → List O → Prop} (h : ACall P f k args H (ARet k Q)) : ACall P f k args H Q := by
  refine ⟨fun I ρ w us hst hk ha => (h.out I ρ w us hst hk ha).mono ?_⟩
  rintro en w' ⟨v, r, I', ρ', H', h1, h2, h3, h4, h5⟩
  obtain ⟨r3, I3, ρ3, H3, y1, y2, y3, y4⟩ := aret_sound h5 h2 h3 h4
  exact ⟨v, r3, I3, ρ3, H3, h1, y2, y3, y4, y1⟩

theorem frz_ms_eq (id z : Nat) (es : List (List V)) (c : Bool) : frzV id (.buf es) (.ms z id 0 es.length c) = .sl z es c := by
  simp only [frzV, Nat.beq_refl, List.drop_zero, List.take_length]

/-- A slice that is its whole buffer becomes immutable. -/
theorem ARet.frz_ms {k : Nat} {Q : V → List O → Prop} {H : List O} {id z len : Nat} {es : List (List V)} {c : Bool} (ho : getO H id = .buf es) (hl : len = es.length) (hfit : msLe es.length (msH id H)) (h : ARet k Q (.sl z es c) (frzH id (.buf es) 0 H)) : ARet k Q (.ms z id 0 len c) H := by
  refine .frz id (by rw [ho]; rfl) ?_ ?_
  · rw [ho]
    show msLe es.length (msL id [.ms z id 0 len c] ++ (msE id [] ++ msH id H))
    have : msL id [.ms z id 0 len c] = [(0, len)] := by simp [msL, msV, Nat.beq_refl]
    rw [this]
    exact ⟨by omega, hfit⟩
  · rw [ho]
    subst hl
    rw [frz_ms_eq]; exact h

/-- A contract for arguments told in less sharp words. -/
theorem ACall.args {f : FuncId} {k : Nat} {as bs : List V} {H : List O} {Q : V → List O → Prop} (hs : VSubs as bs) (h : ACall P f k bs H Q) : ACall P f k as H Q :=
  ⟨fun I ρ w us hst hk ha => h.out I ρ w us hst hk ⟨by rw [← hs.1]; exact ha.1, fun i b u hb hu => by
    obtain ⟨a, ga, gs⟩ := hs.get hb
    exact gs _ _ _ (ha.2 i a u ga hu)⟩⟩

end Go.Proofs.YtfhoblpcneachaaPg
