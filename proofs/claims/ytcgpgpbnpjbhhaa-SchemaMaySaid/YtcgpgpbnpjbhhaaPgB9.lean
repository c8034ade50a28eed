/- Regions whose order is drawn: what the quiet operations hang on. -/
import Derived.Test.YtcgpgpbnpjbhhaaPgB8
namespace Go.Proofs.YtcgpgpbnpjbhhaaPg
open Go Go.RowKit
variable [Globs]
set_option linter.unusedVariables false
set_option linter.unusedSimpArgs false

variable {P : Program} {T : Nat → TI} {I : Imm} {ρ : List Pl} {H : List O} {w : World} {e : Env}

theorem aq_heap {o : Op} (h : readsH o = false) (e : Env) (H H' : List O) (K : V → Prop) : aq T o e H K = aq T o e H' K := by
  cases o <;> first | rfl | (simp [readsH] at h; done)

theorem aq_congr {o : Op} {e e' : Env} (h : ∀ x ∈ o.operands, aeval e x = aeval e' x) (H : List O) (K : V → Prop) : aq T o e H K = aq T o e' H K := by
  have hm : ∀ l : List Operand, (∀ x ∈ l, aeval e x = aeval e' x) → l.map (aeval e) = l.map (aeval e') := fun l hl => List.map_congr_left hl
  have g : ∀ x ∈ o.operands, aevo e x = aevo e' x := fun x hx => by unfold aevo; rw [h x hx]
  have ho : ∀ l : Option Operand, (∀ x ∈ l.toArray, aevo e x = aevo e' x) → l.map (aevo e) = l.map (aevo e') := fun l hl => by
    cases l with
    | none => rfl
    | some x => simp [hl x (by simp)]
  cases o <;> simp only [Op.operands] at h g <;> try rfl
  case move x => simp only [aq, h x (by simp)]
  case assign x => simp only [aq, h x (by simp)]
  case pick c a b => simp only [aq, h c (by simp), h a (by simp), h b (by simp)]
  case build t ps =>
    simp only [aq]
    have : (ps.toList.map fun p => (p.1, aeval e p.2)) = ps.toList.map fun p => (p.1, aeval e' p.2) := List.map_congr_left fun p hp => by
      rw [h p.2 (by simp; exact ⟨p.1, by simpa using hp⟩)]
    rw [this]
  case load t x => simp only [aq, g x (by simp)]
  case nilCheck x => simp only [aq, g x (by simp)]
  case binOp op t x y yt => simp only [aq, g x (by simp), g y (by simp)]
  case unOp op t x => simp only [aq, g x (by simp)]
  case convert s d x => simp only [aq, g x (by simp)]
  case makeInterface t x => simp only [aq, h x (by simp)]
  case makeFunc f a b =>
    simp only [aq]
    rw [hm a.toList (fun x hx => h x (by simp at hx ⊢; exact .inl hx)), hm b.toList (fun x hx => h x (by simp at hx ⊢; exact .inr hx))]
  case slice t x lo hi mx =>
    simp only [aq]
    rw [g x (by simp), ho lo (fun y hy => g y (by simp at hy ⊢; simp [hy])), ho hi (fun y hy => g y (by simp at hy ⊢; simp [hy])), ho mx (fun y hy => g y (by simp at hy ⊢; simp [hy]))]
  case fieldAddr s x f => simp only [aq, g x (by simp)]
  case field s x f => simp only [aq, g x (by simp)]
  case indexAddr t x i => simp only [aq, g x (by simp), g i (by simp)]
  case index t x i => simp only [aq, g x (by simp), g i (by simp)]
  case extract x i => simp only [aq, h x (by simp)]
  case call c =>
    have hmo : c.args.toList.map (aevo e) = c.args.toList.map (aevo e') := List.map_congr_left fun x hx => g x (by simp [Call.operands]; exact .inr (by simpa using hx))
    simp only [aq]
    rw [hm c.args.toList (fun x hx => h x (by simp [Call.operands]; exact .inr (by simpa using hx))), hmo]

/-! ### each yields one value -/
def Det (q : (V → Prop) → Prop) : Prop := ∀ K, q K → ∃ v, K v ∧ q (fun u => u = v)

theorem det_k (v : V) : Det fun K => K v := fun K h => ⟨v, h, rfl⟩
theorem det_and {p : Prop} {q : (V → Prop) → Prop} (h : Det q) : Det fun K => p ∧ q K := fun K ⟨hp, hq⟩ => let ⟨v, h1, h2⟩ := h K hq; ⟨v, h1, hp, h2⟩
theorem det_ex {α : Type} {q : α → (V → Prop) → Prop} (h : ∀ x, Det (q x)) : Det fun K => ∃ x, q x K := fun K ⟨x, hq⟩ => let ⟨v, h1, h2⟩ := h x K hq; ⟨v, h1, x, h2⟩
theorem det_false : Det fun _ => False := fun _ h => h.elim

theorem det_force (v : V) : Det (force v) := fun K h => ⟨v, (force_iff v K).1 h, (force_iff v _).2 rfl⟩
theorem det_force2 (v : V) (g : V → V) : Det fun K => force v fun u => K (g u) := fun K h => ⟨g v, (force_iff v _).1 h, (force_iff v _).2 rfl⟩
theorem det_copy (l : List V) (g : List V → V) : Det fun K => copyL l fun r => K (g r) := fun K h => ⟨g l, (copyL_iff l _).1 h, (copyL_iff l _).2 rfl⟩

theorem det_loadV (ti : TI) (cs : List V) (off : Nat) : Det (loadV ti cs off) := by
  unfold loadV
  repeat' split
  all_goals first | exact det_copy _ _ | exact det_force _ | exact det_false

theorem det_abinInt (op : BinOp) (k : IntKind) (x y : Int) : Det (abinInt op k x y) := by
  unfold abinInt
  split <;> first | exact det_k _ | exact det_and (det_k _) | exact det_false
theorem det_abinStr (op : BinOp) (x y : List UInt8) : Det (abinStr op x y) := by
  unfold abinStr
  split <;> first | exact det_k _ | exact det_and (det_k _) | exact det_false
theorem det_aeqn (op : BinOp) (b : Bool) : Det (aeqn op b) := by
  unfold aeqn
  split <;> first | exact det_k _ | exact det_false
theorem leafEq_fix (k : TK) (x y : V) : (∃ b, ∀ K, leafEq k x y K ↔ K b) ∨ ∀ K, ¬ leafEq k x y K := by
  unfold leafEq
  repeat' split
  all_goals first | exact .inl ⟨_, fun K => Iff.rfl⟩ | exact .inr fun K h => h
theorem det_fieldsEq (xs ys : List V) : ∀ (fs : List (Nat × TypeId)) (g : Bool → (V → Prop) → Prop), (∀ b, Det (g b)) → Det fun K => fieldsEq T xs ys fs fun b => g b K
  | [], g, hg => hg true
  | (o, t) :: r, g, hg => by
    intro K h
    simp only [fieldsEq] at h ⊢
    split at h <;> try exact h.elim
    rename_i x y _ _ _
    rcases leafEq_fix (T t).kind x y with ⟨b, hb⟩ | hb
    · rw [hb] at h
      obtain ⟨v, h1, h2⟩ := det_fieldsEq xs ys r (fun c => g (b && c)) (fun c => hg _) K h
      exact ⟨v, h1, by rw [hb]; exact h2⟩
    · exact absurd h (hb _)
theorem det_abin (op : BinOp) (t : TypeId) (x y : V) : Det (abin T op t x y) := by
  unfold abin
  repeat' split
  all_goals first | exact det_and (det_k _) | exact det_abinInt _ _ _ _ | exact det_abinStr _ _ _ | exact det_aeqn _ _ | exact det_and (det_aeqn _ _) | exact det_fieldsEq _ _ _ _ (det_aeqn _) | exact det_false
theorem det_aun (op : UnOp) (x : V) : Det (aun op x) := by
  unfold aun
  split <;> first | exact det_k _ | exact det_false
theorem det_aconv (s d de : TK) (x : V) : Det (aconv s d de H x) := by
  unfold aconv
  repeat' split
  all_goals first | exact det_k _ | exact det_false | exact det_ex fun _ => det_and (det_k _) | exact det_and (det_ex fun _ => det_and (det_k _))
theorem det_aslice (sz bl : Nat) (x : V) (lo hi mx : Option Int) : Det (aslice sz bl x lo hi mx) := by
  unfold aslice
  repeat' split
  all_goals first | exact det_k _ | exact det_false | exact det_and (det_k _)
theorem det_foldMax (mx : Bool) (l : List V) : ∀ v : V, Det (foldMax mx v l) := by
  induction l with
  | nil =>
    intro v K h
    cases v <;> simp only [foldMax] at h
    exact ⟨_, h, by simp only [foldMax]⟩
  | cons x l ih =>
    intro v K h
    cases v <;> (try (simp only [foldMax] at h; done))
    cases x <;> simp only [foldMax] at h ⊢
    exact ih _ K h

theorem det_fillV (place : Nat → Option (Nat × Nat)) : ∀ (l : List (Nat × V)) (cells : List V), Det (fillV place cells l)
  | [], cells => fun K h => by
    simp only [fillV] at h ⊢
    exact det_copy cells _ K h
  | (i, v) :: l, cells => by
    intro K h
    unfold fillV at h
    cases hp : place i <;> simp only [hp] at h
    rename_i os
    obtain ⟨off, size⟩ := os
    cases hc : cellsOf v <;> simp only [hc] at h
    cases hb : Nat.beq (by assumption : List V).length size <;> simp only [hb] at h
    cases hb2 : Nat.ble (off + size) cells.length <;> simp only [hb2] at h
    obtain ⟨u, h1, h2⟩ := det_fillV place l _ K h
    exact ⟨u, h1, by unfold fillV; simp only [hp, hc, hb, hb2]; exact h2⟩

theorem aq_det (o : Op) (e : Env) (H : List O) : Det (aq T o e H) := by
  unfold aq
  split
  · exact det_force _
  · exact det_force _
  · unfold qPick; repeat' split
    all_goals first | exact det_force _ | exact det_false
  · unfold qBuild; repeat' split
    all_goals first | exact det_fillV _ _ _ | exact det_false
  · unfold qLoad; repeat' split
    all_goals first | exact det_loadV _ _ _ | exact det_false | exact det_ex fun _ => det_and (det_loadV _ _ _)
  · unfold qNil; repeat' split
    all_goals first | exact det_k _ | exact det_false
  · exact det_abin _ _ _ _
  · exact det_aun _ _
  · exact det_aconv _ _ _ _
  · intro K h
    simp only [copyL_iff] at h ⊢
    exact ⟨_, h, rfl⟩
  · unfold qSlice; repeat' split
    all_goals first | exact det_aslice _ _ _ _ _ _ | exact det_false
  · unfold qFieldAddr; repeat' split
    all_goals first | exact det_k _ | exact det_false
  · unfold qField; repeat' split
    all_goals first | exact det_loadV _ _ _ | exact det_false
  · unfold qIndexAddr; repeat' split
    all_goals first | exact det_ex fun _ => det_and (det_k _) | exact det_and (det_k _) | exact det_false
  · unfold qIndex; repeat' split
    all_goals first | exact det_ex fun _ => det_and (det_k _) | exact det_false
  · unfold qExtract; repeat' split
    all_goals first | exact det_force _ | exact det_false
  · unfold qIface; repeat' split
    all_goals first | exact det_false | exact det_force2 _ _
  · split
    · unfold qLen; repeat' split
      all_goals first | exact det_k _ | exact det_false
    · unfold qMax; repeat' split
      all_goals first | exact det_foldMax _ _ _ | exact det_false
    · unfold qMax; repeat' split
      all_goals first | exact det_foldMax _ _ _ | exact det_false
    · exact det_false
  · exact det_false

end Go.Proofs.YtcgpgpbnpjbhhaaPg
