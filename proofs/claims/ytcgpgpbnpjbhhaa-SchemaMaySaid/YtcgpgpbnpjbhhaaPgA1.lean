/- The abstract values, objects and states of the proof's own semantics, and how they stand to the model's. -/
import Derived.CallsIn
import Derived.OrdersIn
import Derived.Below
import Derived.RangeFuncRecord
namespace Go.Proofs.YtcgpgpbnpjbhhaaPg
open Go Go.RowKit

/-- Abstract values. 'sl' and 'ip' are what nobody writes any more: they carry their content. 'ptr', 'ep', 'ms', 'map' name owned objects. -/
inductive V where
  | bool (b : Bool)
  | int (k : IntKind) (n : Int)
  | str (s : List UInt8)
  | ptr (id off : Nat)
  | ep (id i j : Nat)
  | ip (cs : List V) (off : Nat)
  | nilp
  | sl (sz : Nat) (es : List (List V)) (full : Bool)
  | ms (sz id off len : Nat) (full : Bool)
  | nils
  | fn (f : Fn) (first cap : List V)
  | nilf
  | map (id : Nat)
  | nilm
  | agg (cs : List V)
  | tup (vs : List V)
  | iface (t : TypeId) (v : V)
  | nili
  | glob (g : Nat)
  | yld (id : Nat)
  | im (v : V)
  | any
  deriving Inhabited

abbrev Env := List (Nat × V)

def Env.get : Env → Nat → V
  | [], _ => .any
  | (i, v) :: e, t => match Nat.beq i t with | true => v | false => Env.get e t

/-- How a piece of code is left. -/
inductive AEx where
  | normal
  | exit (id : Nat)
  | ret

/-- What a loop over a function is made of: its variables, its code, how many slots its frame has. -/
structure LoopC where
  ps : Array Tmp
  asg : Code
  body : Code
  n : Nat

/-- Where such a loop stands: between two rounds, within one, left by an exit, left by a return. -/
inductive LSt where
  | ready
  | busy
  | exit (id : Nat)
  | ret

def LSt.state : LSt → LoopState
  | .ready => .ready
  | .busy => .busy
  | _ => .done

def LSt.pend : LSt → Option Code
  | .exit i => some (.exit i)
  | .ret => some .ret
  | _ => none

/-- Owned objects. -/
inductive O where
  | cells (cs : List V)
  | buf (es : List (List V))
  | iter (s : List UInt8) (pos : Nat)
  | map (kvs : List (V × V)) (clock : Nat)
  | loop (c : LoopC) (st : LSt) (e : Env)
  | res (R : (Nat → Nat → Option Value) → World → Nat → Prop) (B : List Nat)
  | dead

instance : Inhabited O := ⟨.dead⟩

/-- Where an object lies: its block, its first cell there, the cells of an element, how many elements there is room for. -/
structure Pl where
  b : Nat
  base : Nat
  sz : Nat
  tot : Nat

/-- Cells that are never written again. -/
abbrev Imm := Nat → Nat → Option Value

inductive VRel (I : Imm) : List Pl → V → Value → Prop
  | any (ρ) (v : Value) : VRel I ρ .any v
  | bool (ρ) (b : Bool) : VRel I ρ (.bool b) (.bool b)
  | int (ρ) (k : IntKind) (n : Int) : VRel I ρ (.int k n) (.int k n)
  | str (ρ) (s : ByteArray) : VRel I ρ (.str s.data.toList) (.string s)
  | ptr (ρ) (id off : Nat) (p : Pl) : ρ[id]? = some p → VRel I ρ (.ptr id off) (.pointer (some ⟨p.b, p.base + off, none⟩))
  | ep (ρ) (id i j : Nat) (p : Pl) : ρ[id]? = some p → VRel I ρ (.ep id i j) (.pointer (some ⟨p.b, p.base + (i * p.sz + j), none⟩))
  | ip (ρ) (cs : List V) (off b base : Nat) (u : Nat → Value) : (∀ (i : Nat) (c : V), cs[i]? = some c → I b (base + i) = some (u i)) →
      (∀ (i : Nat) (c : V), cs[i]? = some c → (u i).oneCell' = true) → (∀ (i : Nat) (c : V), cs[i]? = some c → VRel I [] c (u i)) → VRel I ρ (.ip cs off) (.pointer (some ⟨b, base + off, none⟩))
  | nilp (ρ) : VRel I ρ .nilp (.pointer none)
  | sl (ρ) (sz : Nat) (es : List (List V)) (full : Bool) (b base cap : Nat) (u : Nat → Nat → Value) : es.length ≤ cap → (full = true → cap = es.length) →
      (∀ (i : Nat) (e : List V), es[i]? = some e → e.length = sz) → (∀ (i : Nat) (e : List V) (j : Nat) (c : V), es[i]? = some e → e[j]? = some c → I b (base + (i * sz + j)) = some (u i j)) →
      (∀ (i : Nat) (e : List V) (j : Nat) (c : V), es[i]? = some e → e[j]? = some c → (u i j).oneCell' = true) → (∀ (i : Nat) (e : List V) (j : Nat) (c : V), es[i]? = some e → e[j]? = some c → VRel I [] c (u i j)) → VRel I ρ (.sl sz es full) (.slice (some ⟨b, base, none⟩) es.length cap)
  | slnil (ρ) (sz : Nat) (full : Bool) (a : Option Addr) : VRel I ρ (.sl sz [] full) (.slice a 0 0)
  | ms (ρ) (id off len cap : Nat) (full : Bool) (p : Pl) : ρ[id]? = some p → len ≤ cap → off + cap ≤ p.tot → (full = true → cap = len) → (full = false → off + cap = p.tot) →
      VRel I ρ (.ms p.sz id off len full) (.slice (some ⟨p.b, p.base + off * p.sz, none⟩) len cap)
  | ms0 (ρ) (sz id off : Nat) (full : Bool) (a : Option Addr) : VRel I ρ (.ms sz id off 0 full) (.slice a 0 0)
  | nils (ρ) : VRel I ρ .nils (.slice none 0 0)
  | fn (ρ) (f : Fn) (as bs : List V) (us ws : Array Value) : as.length = us.size → bs.length = ws.size →
      (∀ (i : Nat) (a : V) (u : Value), as[i]? = some a → us[i]? = some u → VRel I ρ a u) → (∀ (i : Nat) (a : V) (u : Value), bs[i]? = some a → ws[i]? = some u → VRel I ρ a u) →
      VRel I ρ (.fn f as bs) (.func f us ws)
  | nilf (ρ) : VRel I ρ .nilf .nilFunc
  | map (ρ) (id : Nat) (p : Pl) : ρ[id]? = some p → VRel I ρ (.map id) (.map (some p.b))
  | nilm (ρ) : VRel I ρ .nilm (.map none)
  | agg (ρ) (cs : List V) (us : Array Value) : cs.length = us.size → (∀ (i : Nat) (u : Value), us[i]? = some u → u.oneCell' = true) → (∀ (i : Nat) (a : V) (u : Value), cs[i]? = some a → us[i]? = some u → VRel I ρ a u) → VRel I ρ (.agg cs) (.agg us)
  | tup (ρ) (cs : List V) (us : Array Value) : cs.length = us.size → (∀ (i : Nat) (a : V) (u : Value), cs[i]? = some a → us[i]? = some u → VRel I ρ a u) → VRel I ρ (.tup cs) (.tuple us)
  | iface (ρ) (t : TypeId) (v : V) (u : Value) : VRel I ρ v u → VRel I ρ (.iface t v) (.iface t u)
  | nili (ρ) : VRel I ρ .nili .nilIface
  | glob (ρ) (g : Nat) : VRel I ρ (.glob g) (.pointer (some ⟨g, 0, none⟩))
  | im (ρ) (v : V) (u : Value) : u.oneCell' = true → VRel I [] v u → VRel I ρ (.im v) u
  | yld (ρ) (id : Nat) (p : Pl) : ρ[id]? = some p → VRel I ρ (.yld id) (.func (.yield p.b) #[] #[])

/-- Lists of values, place by place. -/
def VRels (I : Imm) (ρ : List Pl) (as : List V) (us : List Value) : Prop :=
  as.length = us.length ∧ ∀ (i : Nat) (a : V) (u : Value), as[i]? = some a → us[i]? = some u → VRel I ρ a u

def ILe (I I' : Imm) : Prop := ∀ b o v, I b o = some v → I' b o = some v

theorem ILe.refl (I : Imm) : ILe I I := fun _ _ _ h => h
theorem ILe.trans {I J K : Imm} (h : ILe I J) (k : ILe J K) : ILe I K := fun b o v x => k b o v (h b o v x)

/-- ρ' tells of every place that ρ tells of the same. -/
def PLe (ρ ρ' : List Pl) : Prop := ∀ (i : Nat) (p : Pl), ρ[i]? = some p → ρ'[i]? = some p

theorem PLe.refl (ρ : List Pl) : PLe ρ ρ := fun _ _ h => h
theorem PLe.trans {a b c : List Pl} (h : PLe a b) (k : PLe b c) : PLe a c := fun i p x => k i p (h i p x)
theorem PLe.append (ρ σ : List Pl) : PLe ρ (ρ ++ σ) := fun i p h => by
  have : i < ρ.length := (List.getElem?_eq_some_iff.1 h).1
  rw [List.getElem?_append_left this]; exact h
theorem PLe.nil (ρ : List Pl) : PLe [] ρ := fun i p h => by simp at h

theorem VRel.mono {I I' : Imm} (hI : ILe I I') {ρ : List Pl} {a : V} {u : Value} (h : VRel I ρ a u) : ∀ {ρ' : List Pl}, PLe ρ ρ' → VRel I' ρ' a u := by
  induction h with
  | any => intros; exact .any _ _
  | bool => intros; exact .bool _ _
  | int => intros; exact .int _ _ _
  | str => intros; exact .str _ _
  | ptr ρ id off p h => intro ρ' hp; exact .ptr _ _ _ _ (hp _ _ h)
  | ep ρ id i j p h => intro ρ' hp; exact .ep _ _ _ _ _ (hp _ _ h)
  | ip ρ cs off b base u h1 h1' h2 ih => intro ρ' hp; exact .ip _ _ _ _ _ u (fun i c hc => hI _ _ _ (h1 i c hc)) h1' (fun i c hc => ih i c hc (PLe.refl _))
  | nilp => intros; exact .nilp _
  | sl ρ sz es full b base cap u h1 h2 h3 h4 h4' h5 ih => intro ρ' hp; exact .sl _ _ _ _ _ _ _ u h1 h2 h3 (fun i e j c he hc => hI _ _ _ (h4 i e j c he hc)) h4' (fun i e j c he hc => ih i e j c he hc (PLe.refl _))
  | slnil => intros; exact .slnil _ _ _ _
  | ms ρ id off len cap full p h1 h2 h3 h4 h5 => intro ρ' hp; exact .ms _ _ _ _ _ _ _ (hp _ _ h1) h2 h3 h4 h5
  | ms0 => intros; exact .ms0 _ _ _ _ _ _
  | nils => intros; exact .nils _
  | fn ρ f as bs us ws h1 h2 h3 h4 ih1 ih2 => intro ρ' hp; exact .fn _ _ _ _ _ _ h1 h2 (fun i a u ha hu => ih1 i a u ha hu hp) (fun i a u ha hu => ih2 i a u ha hu hp)
  | nilf => intros; exact .nilf _
  | map ρ id p h => intro ρ' hp; exact .map _ _ _ (hp _ _ h)
  | nilm => intros; exact .nilm _
  | agg ρ cs us h1 h1' h2 ih => intro ρ' hp; exact .agg _ _ _ h1 h1' (fun i a u ha hu => ih i a u ha hu hp)
  | tup ρ cs us h1 h2 ih => intro ρ' hp; exact .tup _ _ _ h1 (fun i a u ha hu => ih i a u ha hu hp)
  | iface ρ t v u h ih => intro ρ' hp; exact .iface _ _ _ _ (ih hp)
  | nili => intros; exact .nili _
  | glob => intros; exact .glob _ _
  | im ρ v u h1 h2 ih => intro ρ' hp; exact .im _ _ _ h1 (ih (PLe.refl _))
  | yld ρ id p h => intro ρ' hp; exact .yld _ _ _ (hp _ _ h)

theorem VRels.mono {I I' : Imm} (hI : ILe I I') {ρ ρ' : List Pl} (hp : PLe ρ ρ') {as : List V} {us : List Value} (h : VRels I ρ as us) : VRels I' ρ' as us :=
  ⟨h.1, fun i a u ha hu => (h.2 i a u ha hu).mono hI hp⟩

theorem VRels.nil (I : Imm) (ρ : List Pl) : VRels I ρ [] [] := ⟨rfl, fun i a u h => by simp at h⟩
theorem VRels.cons {I : Imm} {ρ : List Pl} {a : V} {u : Value} {as : List V} {us : List Value} (h : VRel I ρ a u) (t : VRels I ρ as us) : VRels I ρ (a :: as) (u :: us) :=
  ⟨by simp [t.1], fun i x y hx hy => by
    cases i with
    | zero => simp at hx hy; subst hx; subst hy; exact h
    | succ i => exact t.2 i x y (by simpa using hx) (by simpa using hy)⟩
theorem VRels.cons_inv {I : Imm} {ρ : List Pl} {a : V} {as : List V} {us : List Value} (h : VRels I ρ (a :: as) us) : ∃ u us', us = u :: us' ∧ VRel I ρ a u ∧ VRels I ρ as us' := by
  cases us with
  | nil => have := h.1; simp at this
  | cons u us => exact ⟨u, us, rfl, h.2 0 a u (by simp) (by simp), by have := h.1; simpa using this, fun i x y hx hy => h.2 (i + 1) x y (by simpa using hx) (by simpa using hy)⟩

/-- A row of cells that reads as these values from 'base' on, and may be written. -/
def CellsAt (I : Imm) (ρ : List Pl) (w : World) (b base : Nat) (cs : List V) : Prop :=
  ∀ (i : Nat) (v : V), cs[i]? = some v → ∃ u, w.cell? ⟨b, base + i, none⟩ = some u ∧ u.oneCell' = true ∧ VRel I ρ v u

/-- No cell of the block from 'lo' to 'hi' is shut against writing; the block is one of cells of at least 'hi' cells. -/
def Open (w : World) (b lo hi : Nat) : Prop := ∃ c t fr, w.heap[b]? = some (.cells c t fr) ∧ hi ≤ c.size ∧ ∀ o, lo ≤ o → o < hi → w.frozen? ⟨b, o, none⟩ = false

/-- the record of a loop over a function -/
def LRel (I : Imm) (ρ : List Pl) (c : LoopC) (st : LSt) (e : Env) (r : Loop) : Prop :=
  r.params = c.ps ∧ r.assign = c.asg ∧ r.body = c.body ∧ r.tmps.size = c.n ∧ r.state = st.state ∧ r.pending = st.pend ∧ ∀ t, VRel I ρ (Env.get e t) (r.tmps.getD t undef)

def ORel (I : Imm) (ρ : List Pl) (w : World) (p : Pl) : O → Prop
  | .cells cs => p.base = 0 ∧ (∃ c t fr, w.heap[p.b]? = some (.cells c t fr) ∧ c.size = cs.length) ∧ Open w p.b 0 cs.length ∧ CellsAt I ρ w p.b 0 cs
  | .buf es => (es = [] ∧ p.tot = 0) ∨ (es.length ≤ p.tot ∧ Open w p.b p.base (p.base + p.tot * p.sz) ∧ ∀ (i : Nat) (e : List V), es[i]? = some e → e.length = p.sz ∧ CellsAt I [] w p.b (p.base + i * p.sz) e)
  | .iter s pos => p.base = 0 ∧ ∃ ba : ByteArray, ba.data.toList = s ∧ w.heap[p.b]? = some (.stringIter ba pos)
  | .map kvs clock => ∃ es : Array MapEntry, w.heap[p.b]? = some (.map es clock) ∧ es.size = kvs.length ∧
      ∀ (i : Nat) (kv : V × V) (e : MapEntry), kvs[i]? = some kv → es[i]? = some e → VRel I ρ kv.1 e.key ∧ VRel I ρ kv.2 e.val
  | .loop c st e => ∃ r : Loop, w.heap[p.b]? = some (.loop r) ∧ LRel I ρ c st e r
  | .res R B => R I w p.b ∧ (∀ (I' : Imm) (w' : World), ILe I I' → (∀ b ∈ B, w'.heap[b]? = w.heap[b]?) → R I' w' p.b) ∧ ∀ b ∈ B, b < w.heap.size
  | .dead => True

/-- Does an object have a block of its own? -/
def O.has (p : Pl) : O → Prop
  | .dead => False
  | .res _ _ => False
  | .buf _ => p.tot ≠ 0
  | _ => True

/-- Block b is an object's. -/
def O.owns (p : Pl) (b : Nat) : O → Prop
  | .res _ B => b ∈ B
  | o => o.has p ∧ p.b = b

theorem O.has.owns {p : Pl} {o : O} (h : o.has p) : o.owns p p.b := by cases o <;> first | exact h.elim | exact ⟨h, rfl⟩

theorem O.has.one {p : Pl} {o : O} (h : o.has p) (b : Nat) (hb : o.owns p b) : o.has p ∧ p.b = b := by cases o <;> first | exact h.elim | exact hb

/-- Block b is one that is owned. -/
def Owned (ρ : List Pl) (H : List O) (b : Nat) : Prop := ∃ (i : Nat) (p : Pl) (o : O), ρ[i]? = some p ∧ H[i]? = some o ∧ o.owns p b

/-- What is known of the program's own variables from the start on. -/
class Globs where
  K : Imm → Prop
  mono : ∀ {I I' : Imm}, ILe I I' → K I → K I'

/-- nothing -/
def Globs.none : Globs := ⟨fun _ => True, fun _ h => h⟩

variable [Globs]

structure ImmOk (I : Imm) (w : World) : Prop where
  run : ∀ b o v, I b o = some v → w.cell? ⟨b, o, none⟩ = some v
  glob : Globs.K I

instance (I : Imm) (w : World) : CoeFun (ImmOk I w) (fun _ => ∀ b o v, I b o = some v → w.cell? ⟨b, o, none⟩ = some v) := ⟨ImmOk.run⟩

structure St (I : Imm) (ρ : List Pl) (H : List O) (w : World) : Prop where
  len : ρ.length = H.length
  obj : ∀ (i : Nat) (p : Pl) (o : O), ρ[i]? = some p → H[i]? = some o → ORel I ρ w p o
  inj : ∀ (i j : Nat) (p q : Pl) (o r : O) (b : Nat), ρ[i]? = some p → H[i]? = some o → o.owns p b → ρ[j]? = some q → H[j]? = some r → r.owns q b → i = j
  imm : ImmOk I w
  sep : ∀ b, Owned ρ H b → ∀ o, I b o = none

/-- Objects alone. -/
structure StO (I : Imm) (ρ : List Pl) (H : List O) (w : World) : Prop where
  len : ρ.length = H.length
  obj : ∀ (i : Nat) (p : Pl) (o : O), ρ[i]? = some p → H[i]? = some o → ORel I ρ w p o
  inj : ∀ (i j : Nat) (p q : Pl) (o r : O) (b : Nat), ρ[i]? = some p → H[i]? = some o → o.owns p b → ρ[j]? = some q → H[j]? = some r → r.owns q b → i = j

/-- Objects of somebody else, of which J holds, at places of which the first stand in ks; they own the blocks B. -/
def packR (J : List O → Prop) (ks : List Pl) (B : List Nat) : Imm → World → Nat → Prop := fun I w l =>
  ∃ (ρs : List Pl) (Hs : List O), J Hs ∧ StO I ρs Hs w ∧ PLe ks ρs ∧ (ks[0]?).map Pl.b = some l ∧ ∀ b, Owned ρs Hs b ↔ b ∈ B

/-- What a piece of the run may turn: the owned blocks, and new ones. 'k': the first k objects stay where they are. -/
structure Step (k : Nat) (I : Imm) (ρ : List Pl) (H : List O) (w : World) (I' : Imm) (ρ' : List Pl) (H' : List O) (w' : World) : Prop where
  ile : ILe I I'
  take : ∀ i, i < k → ρ'[i]? = ρ[i]?
  os : w'.os = w.os
  tape : w'.tape = w.tape
  output : w'.output = w.output
  size : w.heap.size ≤ w'.heap.size
  frame : ∀ b, b < w.heap.size → ¬ Owned ρ H b → w'.heap[b]? = w.heap[b]?
  own : ∀ b, Owned ρ' H' b → Owned ρ H b ∨ w.heap.size ≤ b
  imm : ∀ b o v, I' b o = some v → I b o = some v ∨ Owned ρ H b ∨ w.heap.size ≤ b

theorem Step.refl (k : Nat) (I : Imm) (ρ : List Pl) (H : List O) (w : World) : Step k I ρ H w I ρ H w :=
  ⟨ILe.refl _, fun _ _ => rfl, rfl, rfl, rfl, Nat.le_refl _, fun _ _ _ => rfl, fun _ h => .inl h, fun _ _ _ h => .inl h⟩

theorem cell_lt {w : World} {a : Addr} {v : Value} (h : w.cell? a = some v) : a.block < w.heap.size := by
  unfold World.cell? at h
  cases e : w.heap[a.block]? with
  | none => simp [e] at h
  | some o => exact (Array.getElem?_eq_some_iff.1 e).1

theorem St.lt {I : Imm} {ρ : List Pl} {H : List O} {w : World} (h : St I ρ H w) {b : Nat} (hb : Owned ρ H b) : b < w.heap.size := by
  obtain ⟨i, p, o, hp, ho, hw⟩ := hb
  have := h.obj i p o hp ho
  cases o with
  | cells cs => obtain ⟨hh, rfl⟩ := hw; obtain ⟨_, ⟨c, t, fr, hc, _⟩, _⟩ := this; exact (Array.getElem?_eq_some_iff.1 hc).1
  | buf es =>
    obtain ⟨hh, rfl⟩ := hw
    rcases this with ⟨_, h0⟩ | ⟨_, ⟨c, t, fr, hc, _⟩, _⟩
    · exact absurd h0 hh
    · exact (Array.getElem?_eq_some_iff.1 hc).1
  | iter s pos => obtain ⟨hh, rfl⟩ := hw; obtain ⟨_, ba, _, hc⟩ := this; exact (Array.getElem?_eq_some_iff.1 hc).1
  | map kvs clock => obtain ⟨hh, rfl⟩ := hw; obtain ⟨es, hc, _⟩ := this; exact (Array.getElem?_eq_some_iff.1 hc).1
  | loop c st e => obtain ⟨hh, rfl⟩ := hw; obtain ⟨r, hc, _⟩ := this; exact (Array.getElem?_eq_some_iff.1 hc).1
  | res R B => exact this.2.2 b hw
  | dead => exact hw.1.elim

theorem St.imm_lt {I : Imm} {ρ : List Pl} {H : List O} {w : World} (h : St I ρ H w) {b o : Nat} {v : Value} (hi : I b o = some v) : b < w.heap.size :=
  cell_lt (h.imm b o v hi)

theorem Step.trans {k : Nat} {I I' I'' : Imm} {ρ ρ' ρ'' : List Pl} {H H' H'' : List O} {w w' w'' : World}
    (h : Step k I ρ H w I' ρ' H' w') (g : Step k I' ρ' H' w' I'' ρ'' H'' w'') : Step k I ρ H w I'' ρ'' H'' w'' where
  ile := h.ile.trans g.ile
  take i hi := (g.take i hi).trans (h.take i hi)
  os := g.os.trans h.os
  tape := g.tape.trans h.tape
  output := g.output.trans h.output
  size := Nat.le_trans h.size g.size
  frame b hb hn := by
    have h1 : ¬ Owned ρ' H' b := fun ho => by
      rcases h.own b ho with x | x
      · exact hn x
      · omega
    rw [g.frame b (Nat.lt_of_lt_of_le hb h.size) h1, h.frame b hb hn]
  own b hb := by
    rcases g.own b hb with x | x
    · exact h.own b x
    · exact .inr (Nat.le_trans h.size x)
  imm b o v hv := by
    rcases g.imm b o v hv with x | x | x
    · exact h.imm b o v x
    · rcases h.own b x with y | y
      · exact .inr (.inl y)
      · exact .inr (.inr y)
    · exact .inr (.inr (Nat.le_trans h.size x))

theorem Step.mono {k k' : Nat} {I I' : Imm} {ρ ρ' : List Pl} {H H' : List O} {w w' : World} (h : Step k I ρ H w I' ρ' H' w') (hk : k' ≤ k) : Step k' I ρ H w I' ρ' H' w' :=
  { h with take := fun i hi => h.take i (Nat.lt_of_lt_of_le hi hk) }

end Go.Proofs.YtcgpgpbnpjbhhaaPg
