/- Own texts, laid together: PgE92, PgTr1, PgE10. -/
import Derived.Test.YtcdkklgeepkopaaGreatDoorPgM13
import Derived.Lib.Overlaps
import Derived.Test.YtcdkklgeepkopaaGreatDoorPgM12
set_option linter.unusedSectionVars false
set_option linter.unusedSimpArgs false
set_option linter.unusedVariables false
namespace Go.Proofs.YtcdkklgeepkopaaGreatDoorPg
open Go Go.RowKit
variable [Globs]
variable {P : Program} {I : Imm} {ρ : List Pl} {H : List O} {w : World}
def IsBuf (o : O) : Prop := (∃ es, o = .buf es) \/ ∃ es, o = .bufc es
theorem run_overlaps_none (tS tR e : TypeId) (ht : P.underlying tS = some (.slice e)) (size : Nat) (hz : ∀ w, (Go.sizeOf e).run P w = .ok size w) (a b : Option Addr) (la ca lb cb : Nat) (h0 : la = 0 \/ lb = 0) :
 (Extern.SlicesOverlaps.overlaps #[tS, tS] #[tR] #[.slice a la ca, .slice b lb cb]).run P w = .ok (.bool false) w := by
 have h0' : la = 0 \/ lb = 0 \/ size = 0 := by omega
 change Sem.run P (α := Value) (do
  let some t := (#[tS, tS] : Array TypeId)[0]? | stuck "slices.overlaps: no parameter types"
  let .slice elem <- underlying t | stuck "slices.overlaps: slice type expected"
  let size <- sizeOf elem
  match a, b with
  | some a, some b =>
   if la = 0 \/ lb = 0 \/ size = 0 then pure (Value.bool false)
   else if a.block != b.block && (<- frozen a) && (<- frozen b) then unsupported .addressObserved
   else do
    if a.block != b.block then do
     noView a; noView b
     if <- mayBeOne a b then return Value.bool ((<- choose (.extern "sameAddr.stringBytes" 2)) == 1)
    pure (Value.bool (a.block == b.block && a.off < b.off + lb * size && b.off < a.off + la * size))
  | _, _ => pure (Value.bool false)) w = _
 cases a <;> cases b <;> simp [run_underlying' ht, hz, h0']
theorem open_of (hst : St I ρ H w) {i : Nat} {p : Pl} (hp : ρ[i]? = some p) (hb : IsBuf (getO H i)) (ht : p.tot ≠ 0) : (getO H i).owns p p.b /\ H[i]? = some (getO H i) /\ Open w p.b p.base (p.base + p.tot * p.sz) := by
 rcases hb with ⟨es, hg⟩ | ⟨es, hg⟩
 . have hH := getO_some hg (by simp)
   rw [hg];rcases hst.obj i p _ hp hH with ⟨_, h0⟩ | ⟨_, o2, _⟩
   . exact absurd h0 ht
   . exact ⟨⟨ht, rfl⟩, hH, o2⟩
 . have hH := getO_some hg (by simp)
   rw [hg];obtain ⟨_, o2, _⟩ := hst.obj i p _ hp hH;exact ⟨⟨trivial, rfl⟩, hH, o2⟩
theorem overlaps_run {tS tR e : TypeId} (ht : P.underlying tS = some (.slice e)) {size : Nat} (hz : ∀ w, (Go.sizeOf e).run P w = .ok size w) (hst : St I ρ H w) {z i a n j b m : Nat} {f g : Bool} (hz0 : 0 < z) (hij : i ≠ j) (hi : IsBuf (getO H i)) (hj : IsBuf (getO H j)) {u v : Value}
 (hu : VRel I ρ (.ms z i a n f) u) (hv : VRel I ρ (.ms z j b m g) v) : (Extern.SlicesOverlaps.overlaps #[tS, tS] #[tR] #[u, v]).run P w = .ok (.bool false) w := by
 generalize hz1 : z = z1 at hu;cases hu with
 | ms0 =>
  cases hv with
  | ms0 => exact run_overlaps_none tS tR e ht size hz _ _ _ _ _ _ (.inl rfl)
  | ms => exact run_overlaps_none tS tR e ht size hz _ _ _ _ _ _ (.inl rfl)
 | ms _ _ _ _ cap _ p hp m1 m2 m3 m4 =>
  generalize hz2 : z = z2 at hv;cases hv with
  | ms0 => exact run_overlaps_none tS tR e ht size hz _ _ _ _ _ _ (.inr rfl)
  | ms _ _ _ _ cap2 _ q hq k1 k2 k3 k4 =>
   by_cases h0 : n = 0 \/ m = 0
   . exact run_overlaps_none tS tR e ht size hz _ _ _ _ _ _ h0
   . obtain ⟨r1, r2, r3⟩ := open_of hst hp hi (by omega)
     obtain ⟨s1, s2, s3⟩ := open_of hst hq hj (by omega)
     have hne : p.b ≠ q.b := fun e => hij (hst.inj i j p q _ _ q.b hp r2 (by rw [<- e]; exact r1) hq s2 s1)
     obtain ⟨c, t, fr, c1, c2, c3⟩ := r3;obtain ⟨c', t', fr', d1, d2, d3⟩ := s3;have hpos : 0 < q.tot * q.sz := Nat.mul_pos (by omega) (by omega)
     refine Lib.run_overlaps_apart w tS tR e ht size hz _ _ n cap m cap2 hne t t' c.size c'.size ?_ ?_ (by omega) (c3 _ (by omega)) (c3 _ (by omega))
     . simp [World.shape?, c1]
     . simp [World.shape?, d1]
end Go.Proofs.YtcdkklgeepkopaaGreatDoorPg
namespace Go.Proofs.YtcdkklgeepkopaaGreatDoorPg
open Go Go.RowKit
inductive Tr (α : Type) where
 | nil
 | node (k : List UInt8) (v : α) (a b : Tr α)
variable {α : Type}
def firstT (d : List UInt8 × α) : Tr α -> List UInt8 × α
 | .nil => d
 | .node k v a _ => firstT (k, v) a
section
variable [Globs]
end
end Go.Proofs.YtcdkklgeepkopaaGreatDoorPg
namespace Go.Proofs.YtcdkklgeepkopaaGreatDoorPg
open Go Go.RowKit
variable [Globs]
inductive NoU : V -> Prop
 | int (k : IntKind) (n : Int) (h : k ≠ .u8) : NoU (.int k n)
 | bool (b : Bool) : NoU (.bool b)
 | str (s : List UInt8) : NoU (.str s)
 | nils : NoU .nils
 | nilp : NoU .nilp
 | sl (z : Nat) (es : List (List V)) (f : Bool) (h : ∀ e ∈ es, ∀ c ∈ e, NoU c) : NoU (.sl z es f)
 | agg (cs : List V) (h : ∀ c ∈ cs, NoU c) : NoU (.agg cs)
 | tup (cs : List V) (h : ∀ c ∈ cs, NoU c) : NoU (.tup cs)
theorem NoU.not8 {I : Imm} {ρ : List Pl} {v : V} (h : NoU v) {n : Int} : ¬ VRel I ρ v (.int .u8 n) := fun hr => by
 cases h <;> cases hr
 rename_i h; exact h rfl
theorem VRel.drop {I I' : Imm} {S : Nat -> Nat -> Prop} (hB : ∀ b o u, S b o -> I b o = some u -> ∃ n, u = .int .u8 n) (hI : ∀ b o u, ¬ S b o -> I b o = some u -> I' b o = some u) {v : V} (hn : NoU v) : ∀ {ρ : List Pl} {u : Value}, VRel I ρ v u -> VRel I' ρ v u := by
 induction hn with
 | int k n h => intro ρ u hr; cases hr; exact .int _ _ _
 | bool b => intro ρ u hr; cases hr; exact .bool _ _
 | str s => intro ρ u hr; cases hr; exact .str _ _
 | nils => intro ρ u hr; cases hr; exact .nils _
 | nilp => intro ρ u hr; cases hr; exact .nilp _
 | sl z es f h ih =>
  intro ρ u hr;cases hr with
  | sl _ _ _ _ b base cap uu h1 h2 h3 h4 h5 h6 =>
   refine .sl _ _ _ _ _ _ _ uu h1 h2 h3 (fun i e j c he hc => ?_) h5 (fun i e j c he hc => ih e (List.mem_of_getElem? he) c (List.mem_of_getElem? hc) (h6 i e j c he hc))
   by_cases hs : S b (base + (i * z + j))
   . obtain ⟨n, hn⟩ := hB _ _ _ hs (h4 i e j c he hc);have := h6 i e j c he hc;rw [hn] at this;exact absurd this (h e (List.mem_of_getElem? he) c (List.mem_of_getElem? hc)).not8
   . exact hI _ _ _ hs (h4 i e j c he hc)
  | slnil => exact .slnil _ _ _ _
 | agg cs h ih =>
  intro ρ u hr;cases hr with
  | agg _ _ us h1 h2 h3 => exact .agg _ _ _ h1 h2 fun i a u ha hu => ih a (List.mem_of_getElem? ha) (h3 i a u ha hu)
 | tup cs h ih =>
  intro ρ u hr;cases hr with
  | tup _ _ us h1 h2 => exact .tup _ _ _ h1 fun i a u ha hu => ih a (List.mem_of_getElem? ha) (h2 i a u ha hu)
theorem ms_inv {I : Imm} {ρ : List Pl} {z id off len : Nat} {full : Bool} {u : Value} (h : VRel I ρ (.ms z id off len full) u) :
 (∃ p cap, ρ[id]? = some p /\ z = p.sz /\ len <= cap /\ (full = true -> cap = len) /\ u = .slice (some ⟨p.b, p.base + off * p.sz, none⟩) len cap) \/ (len = 0 /\ ∃ a, u = .slice a 0 0) := by
 generalize hv : V.ms z id off len full = v at h;cases h <;> cases hv
 . exact .inl ⟨_, _, ‹_›, rfl, ‹_›, ‹_›, rfl⟩
 . exact .inr ⟨rfl, _, rfl⟩
theorem ACall.borrow {P : Program} {f : FuncId} {es : List (List V)} {full : Bool} {vs : List V} {len : Nat} {Q : V -> List O -> Prop} (hlen : len = es.length) (hU : ∀ r ∈ es, ∃ n, r = [.int .u8 n]) (hvs : ∀ v ∈ vs, ClosedV v)
 (h : ACall P f 0 (.sl 1 es full :: vs) [] fun r H' => H' = [] /\ NoU r /\ Q r [.buf es]) : ACall P f 1 (.ms 1 0 0 len full :: vs) [.buf es] Q := by
 subst hlen;refine ⟨fun I ρ w us hst hk ha => ?_⟩
 obtain ⟨p, rfl⟩ : ∃ p, ρ = [p] := by
  have := hst.len;simp at this;exact List.length_eq_one_iff.1 this
 have hor := hst.obj 0 p _ rfl rfl;obtain ⟨u0, us', hus, h0, hvs'⟩ := ha.cons_inv
 let S : Nat -> Nat -> Prop := fun b o => (O.buf es).has p /\ b = p.b /\ p.base <= o /\ o < p.base + es.length * p.sz
 let I1 : Imm := fun b o => @ite _ (S b o) (Classical.propDecidable _) (w.cell? ⟨b, o, none⟩) (I b o)
 have hown : ∀ b, (O.buf es).has p -> b = p.b -> Owned [p] [.buf es] b := fun b hh hb => ⟨0, p, _, rfl, rfl, hh, hb.symm⟩
 have hS1 : ∀ b o, S b o -> I1 b o = w.cell? ⟨b, o, none⟩ := fun b o hs => if_pos hs
 have hS0 : ∀ b o, ¬ S b o -> I1 b o = I b o := fun b o hs => if_neg hs
 have hle1 : ILe I I1 := fun b o v hv => by
  by_cases hs : S b o
  . have := hst.sep b (hown b hs.1 hs.2.1) o;rw [this] at hv; cases hv
  . rw [hS0 _ _ hs]; exact hv
 have himm1 : ∀ b o v, I1 b o = some v -> w.cell? ⟨b, o, none⟩ = some v := fun b o v hv => by
  by_cases hs : S b o
  . rw [hS1 _ _ hs] at hv; exact hv
  . rw [hS0 _ _ hs] at hv; exact hst.imm b o v hv
 have hrow : (O.buf es).has p -> ∀ (i : Nat) (r : List V), es[i]? = some r -> ∃ n, r = [.int .u8 n] /\ p.sz = 1 /\ w.cell? ⟨p.b, p.base + i, none⟩ = some (.int .u8 n) := fun hh i r hr => by
  obtain ⟨n, rfl⟩ := hU r (List.mem_of_getElem? hr);rcases hor with ⟨_, ht⟩ | ⟨g1, g2, g3⟩
  . exact absurd ht hh
  . obtain ⟨h1, h2⟩ := g3 i _ hr;have hsz : p.sz = 1 := h1.symm;obtain ⟨u, e1, e2, e3⟩ := h2 0 (.int .u8 n) rfl;cases e3;rw [hsz, Nat.mul_one, Nat.add_zero] at e1;exact ⟨n, rfl, hsz, e1⟩
 have hhas : es ≠ [] -> (O.buf es).has p := fun hne => by
  rcases hor with ⟨he, _⟩ | ⟨g1, _, _⟩
  . exact absurd he hne
  . intro ht;have := List.length_pos_iff.2 hne;omega
 have hu0 : VRel I1 [] (.sl 1 es full) u0 := by
  by_cases hne : es = []
  . subst hne;rcases ms_inv h0 with ⟨q, cap, hq, _, h1, h3, rfl⟩ | ⟨_, a, rfl⟩
    . exact .sl _ _ _ _ _ _ _ (fun _ _ => undef) (Nat.zero_le _) (fun hf => h3 hf) (fun i e he => by simp at he) (fun i e j c he => by simp at he) (fun i e j c he => by simp at he) (fun i e j c he => by simp at he)
    . exact .slnil _ _ _ _
  . have hh := hhas hne;rcases ms_inv h0 with ⟨q, cap, hq, _, h1, h3, rfl⟩ | ⟨he, _⟩
    . simp only [List.getElem?_cons_zero, Option.some.injEq] at hq;subst hq;rw [Nat.zero_mul, Nat.add_zero];refine .sl _ _ _ _ _ _ _ (fun i j => (w.cell? ⟨p.b, p.base + i, none⟩).getD undef) h1 h3 (fun i e he => ?_) (fun i e j c he hc => ?_) (fun i e j c he hc => ?_) (fun i e j c he hc => ?_)
      all_goals obtain ⟨n, rfl, hsz, hcell⟩ := hrow hh i e he
      . rfl
      all_goals
       have hj : j = 0 := by
        cases j with
        | zero => rfl
        | succ j => simp at hc
       subst hj;simp only [List.getElem?_cons_zero, Option.some.injEq] at hc;subst hc
      . have hil := (liZ.1 he).1;rw [Nat.mul_one, Nat.add_zero, hcell];rw [hS1 p.b (p.base + i) ⟨hh, rfl, by omega, by rw [hsz]; omega⟩]
        exact hcell
      . rw [hcell]; rfl
      . rw [hcell]; exact .int _ _ _
    . exact absurd (List.length_eq_zero_iff.1 he) hne
 have hst1 : St I1 [] [] w := ⟨rfl, fun i p o hp => by simp at hp, fun i j p q o r b hp => by simp at hp, ⟨himm1, Globs.mono hle1 hst.imm.glob⟩, fun b ⟨i, q, o, hq, _⟩ => by simp at hq⟩
 have hargs : VRels I1 [] (.sl 1 es full :: vs) us.toList := by
  rw [hus];exact .cons hu0 ⟨hvs'.1, fun i a u hi hu => (hvs a (List.mem_of_getElem? hi) _ _ _ (hvs'.2 i a u hi hu)).mono hle1 (PLe.refl _)⟩
 refine (h.out I1 [] w us hst1 (Nat.zero_le _) hargs).mono ?_;rintro en w' ⟨v, r, I2, ρ2, H2, rfl, s1, s2, s3, rfl, hno, hQ⟩;have hρ2 : ρ2 = [] := List.length_eq_zero_iff.1 (by rw [s1.len]; rfl)
 subst hρ2
 let I3 : Imm := fun b o => @ite _ ((O.buf es).has p /\ b = p.b) (Classical.propDecidable _) none (I2 b o)
 have h30 : ∀ b o, ¬ ((O.buf es).has p /\ b = p.b) -> I3 b o = I2 b o := fun b o hs => if_neg hs
 have h31 : ∀ b o, (O.buf es).has p /\ b = p.b -> I3 b o = none := fun b o hs => if_pos hs
 have hle3 : ILe I I3 := fun b o x hx => by
  rw [h30 b o fun hs => by rw [hst.sep b (hown b hs.1 hs.2) o] at hx; cases hx]
  exact s3.ile _ _ _ (hle1 _ _ _ hx)
 have hnone : ∀ b, ¬ Owned [] [] b := fun b ⟨i, q, o, hq, _⟩ => by simp at hq
 have hkeep : ∀ b, b < w.heap.size -> w'.heap[b]? = w.heap[b]? := fun b hb => s3.frame b hb (hnone b)
 have hlt : (O.buf es).has p -> p.b < w.heap.size := fun hh => hst.lt (hown p.b hh rfl)
 have hst3 : St I3 [p] [.buf es] w' := by
  refine ⟨rfl, fun i q o hq ho => ?_, fun i j q q' o o' b hq ho _ hq' ho' _ => ?_, ⟨fun b o x hx => ?_, Globs.mono hle3 hst.imm.glob⟩, fun b hb o => ?_⟩
  . cases i with
    | zero =>
     simp at hq ho; subst hq; subst ho;exact hor.keep (fun b hb => hkeep b (hst.lt ⟨0, p, _, rfl, rfl, hb⟩)) hle3 (PLe.refl _)
    | succ i => simp at hq
  . cases i with
    | zero => cases j with
     | zero => rfl
     | succ j => simp at hq'
    | succ i => simp at hq
  . by_cases hs : (O.buf es).has p /\ b = p.b
    . rw [h31 b o hs] at hx; cases hx
    . rw [h30 b o hs] at hx; exact s1.imm b o x hx
  . obtain ⟨i, q, o', hq, ho, hw⟩ := hb;cases i with
    | zero => simp at hq ho; subst hq; subst ho; exact h31 b o ⟨hw.1, hw.2.symm⟩
    | succ i => simp at hq
 refine ⟨v, r, I3, [p], [.buf es], rfl, hst3, ?_, ⟨hle3, fun _ _ => rfl, s3.os, s3.tape, s3.output, s3.size, fun b hb _ => hkeep b hb, fun b hb => .inl hb, fun b o x hx => ?_⟩, hQ⟩
 . refine (s2.drop (S := S) (fun b o u hs hu => ?_) (fun b o u hs hu => ?_) hno).mono (ILe.refl _) (PLe.nil _)
   . rcases s3.imm b o u hu with h1 | h1 | h1
     . rw [hS1 b o hs] at h1;obtain ⟨hh, rfl, hlo, hhi⟩ := hs;have hsz : p.sz = 1 := by
        have hne : es ≠ [] := fun e => by rw [e] at hhi; simp at hhi; omega
        obtain ⟨r0, hr0⟩ : ∃ r0, es[0]? = some r0 := ⟨es[0]'(List.length_pos_iff.2 hne), lgZ _⟩;obtain ⟨_, _, hz, _⟩ := hrow hh 0 r0 hr0;exact hz
       have hi : o - p.base < es.length := by rw [hsz] at hhi; omega
       obtain ⟨n, _, _, hc⟩ := hrow hh (o - p.base) _ (lgZ hi);rw [show p.base + (o - p.base) = o by omega, h1] at hc
       exact ⟨n, Option.some.inj hc⟩
     . exact absurd h1 (hnone b)
     . have := hlt hs.1;rw [hs.2.1] at h1; omega
   . by_cases hs2 : (O.buf es).has p /\ b = p.b
     ·
      exfalso;rcases s3.imm b o u hu with h1 | h1 | h1
      . rw [hS0 b o hs, hst.sep b (hown b hs2.1 hs2.2) o] at h1; cases h1
      . exact hnone b h1
      . have := hlt hs2.1;rw [hs2.2] at h1; omega
     . rw [h30 b o hs2]; exact hu
 . by_cases hs : (O.buf es).has p /\ b = p.b
   . rw [h31 b o hs] at hx; cases hx
   . rw [h30 b o hs] at hx;rcases s3.imm b o x hx with h1 | h1 | h1
     . rw [hS0 b o fun hss => hs ⟨hss.1, hss.2.1⟩] at h1; exact .inl h1
     . exact absurd h1 (hnone b)
     . exact .inr (.inr h1)
end Go.Proofs.YtcdkklgeepkopaaGreatDoorPg
