/- A seat's base: its table of types, its functions. -/
import Derived.Test.YtcgpgpbnpjbhhaaPgD2
namespace Go.Proofs.YtcgpgpbnpjbhhaaPg
open Go Go.RowKit
variable [Globs]

def Rowed (P : Program) : List TI → Nat → Prop
  | [], _ => True
  | r :: l, i => (r = tiOf P i ∨ r = TI.bad) ∧ Rowed P l (i + 1)

theorem rowed_get {P : Program} : ∀ (l : List TI) (i : Nat), Rowed P l i → ∀ t, l.getD t TI.bad = tiOf P (i + t) ∨ l.getD t TI.bad = TI.bad
  | [], i, _, t => .inr (by simp)
  | r :: l, i, h, t => by
    cases t with
    | zero => simpa using h.1
    | succ t =>
      have := rowed_get l (i + 1) h.2 t
      rw [show i + 1 + t = i + (t + 1) by omega] at this
      simpa using this

theorem tiok_of {P : Program} {l : List TI} (h : Rowed P l 0) : TIok P (fun t => l.getD t TI.bad) := fun t => by
  have := rowed_get l 0 h t
  simpa using this

def Entered (P : Program) : List Nat → Prop
  | [] => True
  | f :: l => (∀ args w, (callFunc f args).run P w = .ok (.enter f args) w) ∧ Entered P l

theorem entered_get {P : Program} : ∀ (l : List Nat), Entered P l → ∀ f ∈ l, ∀ args w, (callFunc f args).run P w = .ok (.enter f args) w
  | [], _, f, hf => by simp at hf
  | g :: l, h, f, hf => by
    rcases List.mem_cons.1 hf with rfl | hf
    · exact h.1
    · exact entered_get l h.2 f hf

theorem branch_i {b : Bool} {A B : Prop} (h1 : b = true → A) (h2 : b = false → B) : branch b A B := by cases b; exact h2 rfl; exact h1 rfl

end Go.Proofs.YtcgpgpbnpjbhhaaPg
