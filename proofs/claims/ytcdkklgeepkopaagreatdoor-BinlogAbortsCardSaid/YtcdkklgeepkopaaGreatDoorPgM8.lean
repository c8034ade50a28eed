/- Own texts, laid together: PgB44, PgB45. -/
import Derived.Test.YtcdkklgeepkopaaGreatDoorPgM7
import Derived.Laws.MakeOwn
set_option linter.unusedSectionVars false
set_option linter.unusedSimpArgs false
set_option linter.unusedVariables false
namespace Go.Proofs.YtcdkklgeepkopaaGreatDoorPg
open Go Go.RowKit
variable [Globs]
variable {P : Program} {T : Nat -> TI} {I : Imm} {ρ : List Pl} {H : List O} {w : World} {e : Env}
theorem madeCells_eq (z : Array Value) (n : Nat) : madeCells z n = rangeZero z n := rfl
theorem e_makeSlice (hT : TIok P T) {k : Nat} {o : Oper} {t : TypeId} {l c : Operand} (ho : o.op = .makeSlice t l c) {K : V -> Env -> List O -> Prop}
 (h : aMakeSl T t (aevo e l) (aevo e c) H fun v H' => K v e H') : ESem P k o e H K := by
 unfold aMakeSl at h;split at h <;> try exact h.elim
 rename_i q hk';split at h <;> try exact h.elim
 rename_i hq;split at h <;> try exact h.elim
 rename_i kl n kc m hl hc;obtain ⟨⟨h0, hnm, hroom⟩, h⟩ := h;rw [copyH_iff] at h;obtain ⟨i, z, g1, g2, g3, g4, g5, g6, g7, g8, hgd⟩ := okElem_all hT hq;obtain ⟨i', z', d, f1, f2, f3, f4, f5⟩ := ti_good hT hgd;rw [g1] at f1; cases f1;rw [g2] at f2; cases f2;have hzero : (T q).zero = z.cells.toList.map ofVal1 := by rw [f4]
 have hlz : (T q).zero.length = (T q).size := by rw [hzero, g3]; simp [g8]
 have hu := ty_sl hT hk';rw [g4] at hroom;have hm1 : m.toNat <= m.toNat * i.bytes := Nat.le_mul_of_pos_right _ g5;refine esem_value (by simp [ho]) fun I ρ w a hst he hk => ?_
 have r1 := aevo_rel he l;rw [hl] at r1;have e1 := vr_int r1;have r2 := aevo_rel he c;rw [hc] at r2;have e2 := vr_int r2;have hb : (i.bytes : Int) * m <= 281474976710656 := by
  have e3 : m = (m.toNat : Int) := by omega
  rw [e3, <- Int.natCast_mul, Nat.mul_comm];omega
 have hrun := run_make (P := P) w t q i z hu g1 g2 kl kc n m h0 hnm hb (by omega)
 rw [madeCells_eq] at hrun;have hal : AllLen i.size (List.replicate n.toNat (T q).zero) := rep_len (by rw [hlz, g3]) _
 have hget : ∀ (j : Nat) (u : Value), (rangeZero z.cells (m.toNat * i.size))[j]? = some u -> z.cells[j % z.cells.size]? = some u := by
  intro j u hu;have hjl : j < m.toNat * z.cells.size := by
   have := (Array.getElem?_eq_some_iff.1 hu).1;simp [rangeZero] at this; rw [g8]; exact this
  have hz0 := rangeZero_get hjl;rw [<- g8, hz0.1] at hu;exact hu
 have hflat : VRels I [] (List.replicate n.toNat (T q).zero).flatten ((rangeZero z.cells (m.toNat * i.size)).toList.take ((List.replicate n.toNat (T q).zero).length * i.size)) := by
  have hmul : n.toNat * i.size <= m.toNat * i.size := Nat.mul_le_mul_right _ (by omega)
  refine ⟨by rw [flat_len hal]; simp only [rangeZero, List.length_replicate, List.length_take, Array.length_toList, Array.size_map, Array.size_range]; omega, fun j x u hx hu => ?_⟩
  have hu0 : (rangeZero z.cells (m.toNat * i.size)).toList[j]? = some u := by
   have := (liZ.1 hu).1;rw [List.getElem?_take_of_lt (by simp at this ⊢; omega)] at hu
   exact hu
  have hu' := hget j u (by simpa using hu0)
  obtain ⟨y, h1, h2, h3, h4⟩ := flat_inv hal hx;have hy : y = (T q).zero := (List.mem_replicate.1 (List.mem_of_getElem? h1)).2;subst hy;rw [<- g8] at h2;exact (ofVals_rel z.cells).2 (j % z.cells.size) x u (by rw [<- hzero]; exact h2) (by simpa using hu')
 obtain ⟨s1, s2⟩ := new_buf hst k hk (es := List.replicate n.toNat (T q).zero) (sz := i.size) (tot := m.toNat) (us := rangeZero z.cells (m.toNat * i.size)) hal hflat
  (fun j u _ hu => ofVals_one f5 _ u (hget j u hu)) (by simp; omega) (by simp [rangeZero]) q w rfl rfl rfl rfl
 refine ⟨.slice (some ⟨w.heap.size, 0, none⟩) n.toNat m.toNat, _, I, _, e, _, _, .inl ?_, h, s1, ?_, he.mono (ILe.refl _) (PLe.append _ _), s2⟩
 . simp [execOp, ho, e1, e2, hrun]
 . have := VRel.ms (I := I) (ρ ++ [⟨w.heap.size, 0, i.size, m.toNat⟩]) H.length 0 n.toNat m.toNat false ⟨w.heap.size, 0, i.size, m.toNat⟩ (by rw [<- hst.len]; simp) (by omega) (by simp) (by simp) (by simp)
   rw [g3];simpa using this
end Go.Proofs.YtcdkklgeepkopaaGreatDoorPg
namespace Go.Proofs.YtcdkklgeepkopaaGreatDoorPg
open Go Go.RowKit
variable [Globs]
variable {P : Program} {T : Nat -> TI} {I : Imm} {ρ : List Pl} {H : List O} {w : World} {e : Env}
theorem e_cap (hT : TIok P T) {k : Nat} {o : Oper} {c : Call} (ho : o.op = .call c) (hc : c.callee = .builtin .cap) {K : V -> Env -> List O -> Prop} {s : Operand} (ha : c.args.toList = [s]) {t : TypeId} (hat : c.argTypes.toList = [t])
 (h : aCap T t (aevo e s) H fun v H' => K v e H') : ESem P k o e H K := by
 unfold aCap at h;cases hk : (T t).kind <;> simp only [hk] at h
 rename_i q;have hu := ty_sl hT hk;have run : ∀ (w : World) (a : Act) (A : Option Addr) (len cap : Nat), a.eval s = .slice A len cap -> (execOp a.eval o).run P w = .ok (.value (.int .i64 cap)) w := by
  intro w a A len cap hs;obtain ⟨callee, args, argTypes⟩ := c;obtain ⟨args⟩ := args;obtain ⟨argTypes⟩ := argTypes;simp only at hc ha hat;subst hc; subst ha; subst hat;simp [execOp, ho, resolve, invoke, builtin, hs, Builtin.cap_, run_underlying' hu, goInt]
 refine esem_value (by simp [ho]) fun I ρ w a hst he hkk => ?_
 have hrs := aevo_rel he s;generalize aevo e s = sv at h hrs;split at h <;> try exact h.elim
 . rename_i z id off len full;cases full with
   | true =>
    simp only at h;generalize hau : a.eval s = u at hrs;cases hrs with
    | ms _ _ _ _ cap _ p hp m1 m2 m3 m4 => exact ⟨_, _, I, ρ, e, H, w, .inl (run w a _ _ _ hau), h, hst, by rw [m3 rfl]; exact .int _ _ _, he, Step.refl _ _ _ _ _⟩
    | ms0 => exact ⟨_, _, I, ρ, e, H, w, .inl (run w a _ _ _ hau), h, hst, .int _ _ _, he, Step.refl _ _ _ _ _⟩
   | false =>
    simp only at h;cases hg : getO H id <;> simp only [hg] at h
    rename_i es;obtain ⟨⟨hl, hpos⟩, hK⟩ := h;generalize hau : a.eval s = u at hrs;cases hrs with
    | ms0 => omega
    | ms _ _ _ _ cap _ p hp m1 m2 m3 m4 =>
    have hcap := m4 rfl;have hH : H[id]? = some (.buf es) := getO_some hg (by simp)
    rcases hst.obj id p _ hp hH with ⟨e0, _⟩ | ⟨o1, o2, o3⟩
    . subst e0; simp at hl; omega
    have hK := hK (cap - len);rw [copyH_iff, setO_eq, show len + (cap - len) = cap by omega] at hK
    have horel : ORel I ρ w p (.bufc (es ++ List.replicate (cap - len) [])) := by
     refine ⟨by simp; omega, o2, fun i y hy hne => ?_⟩
     by_cases hi : i < es.length
     . rw [List.getElem?_append_left hi] at hy;exact o3 i y hy
     . rw [List.getElem?_append_right (by omega)] at hy
       exact absurd (List.mem_replicate.1 (List.mem_of_getElem? hy)).2 hne
    have htot : p.tot ≠ 0 := by omega
    obtain ⟨s1, s2⟩ := st_turn hst k hkk hp hH (o' := .bufc (es ++ List.replicate (cap - len) [])) htot trivial (w' := w) (fun _ _ => rfl) rfl rfl rfl rfl horel
    exact ⟨_, _, I, ρ, e, _, w, .inl (run w a _ _ _ hau), hK, s1, .int _ _ _, he, s2⟩
 . rename_i z es;generalize hau : a.eval s = u at hrs;cases hrs with
   | sl _ _ _ _ b base cap f g1 g2 g3 g4 g4' g5 => exact ⟨_, _, I, ρ, e, H, w, .inl (run w a _ _ _ hau), h, hst, by rw [g2 rfl]; exact .int _ _ _, he, Step.refl _ _ _ _ _⟩
   | slnil => exact ⟨_, _, I, ρ, e, H, w, .inl (run w a _ _ _ hau), h, hst, .int _ _ _, he, Step.refl _ _ _ _ _⟩
 . have hau := vr_nils hrs;exact ⟨_, _, I, ρ, e, H, w, .inl (run w a _ _ _ hau), h, hst, .int _ _ _, he, Step.refl _ _ _ _ _⟩
theorem rowsOf_sound {sz n : Nat} {x : V} {K : List (List V) -> Prop} (hn : 0 < n) (h : rowsOf H sz n x K) :
 ∃ ys, K ys /\ ys.length = n /\ ∀ (I : Imm) (ρ : List Pl) (w : World) (u : Value), St I ρ H w -> VRel I ρ x u -> AllLen sz ys /\ ∃ news : List Value, (∀ w', w'.heap = w.heap -> (Builtin.firstCells sz n u).run P w' = .ok news.toArray w') /\ VRels I [] ys.flatten news /\ ∀ v ∈ news, v.oneCell' = true := by
 unfold rowsOf at h;split at h <;> try exact h.elim
 . rename_i z es full;cases hb : Nat.beq z sz <;> simp only [hb] at h
   have e0 := Nat.eq_of_beq_eq_true hb;subst e0;obtain ⟨hle, hK⟩ := h;have hlen : (es.take n).length = n := by rw [List.length_take]; omega
   refine ⟨_, hK, hlen, fun I ρ w u hst hr => ?_⟩
   have get : ∀ (i : Nat) (y : List V), (es.take n)[i]? = some y -> es[i]? = some y := fun i y hy => by
    have := (liZ.1 hy).1;rw [List.length_take] at this
    rwa [List.getElem?_take_of_lt (by omega)] at hy
   cases hr with
   | sl _ _ _ _ b base cap f g1 g2 g3 g4 g4' g5 =>
    have hl : AllLen z (es.take n) := fun y hy => by
     obtain ⟨i, hi⟩ := List.getElem?_of_mem hy;exact g3 i y (get i y hi)
    obtain ⟨news, h1, h2, h3⟩ := first_row (P := P) (I := I) (w := w) (n := n) (cap := cap) (len := es.length) rfl hl hlen.symm (fun i y j v hy hv => ⟨f i j, hst.imm _ _ _ (g4 i y j v (get i y hy) hv), g4' i y j v (get i y hy) hv, g5 i y j v (get i y hy) hv⟩)
    exact ⟨hl, news, h1, h2, h3⟩
   | slnil => simp at hle; omega
 . rename_i z id off len full;cases hb : Nat.beq z sz <;> simp only [hb] at h
   have e0 := Nat.eq_of_beq_eq_true hb;subst e0;cases hg : getO H id <;> simp only [hg] at h
   . rename_i es;obtain ⟨⟨hle1, hle⟩, hK⟩ := h;have hlen : ((es.drop off).take n).length = n := by simp; omega
     refine ⟨_, hK, hlen, fun I ρ w u hst hr => ?_⟩
     have get : ∀ (i : Nat) (y : List V), ((es.drop off).take n)[i]? = some y -> es[off + i]? = some y := fun i y hy => by
      have hlt := (liZ.1 hy).1;rw [List.getElem?_take_of_lt (by simp at hlt; omega), List.getElem?_drop] at hy
      exact hy
     cases hr with
     | ms _ _ _ _ cap _ p hp g1 g2 g3 =>
      have hl : AllLen p.sz ((es.drop off).take n) := fun y hy => by
       obtain ⟨i, hi⟩ := List.getElem?_of_mem hy;exact (ep_cells hst hp hg (get i y hi)).1
      obtain ⟨news, h1, h2, h3⟩ := first_row (P := P) (I := I) (w := w) (b := p.b) (base := p.base + off * p.sz) (n := n) (cap := cap) (len := len) rfl hl hlen.symm (fun i y j v hy hv => by
       obtain ⟨u, c1, c2, c3⟩ := (ep_cells hst hp hg (get i y hy)).2.1 j v hv;refine ⟨u, ?_, c2, c3⟩;rw [<- c1]; congr 2; rw [Nat.add_mul]; omega)
      exact ⟨hl, news, h1, h2, h3⟩
     | ms0 => omega
   . rename_i es;obtain ⟨⟨hle1, hle, hne⟩, hK⟩ := h;have hlen : ((es.drop off).take n).length = n := by simp; omega
     refine ⟨_, hK, hlen, fun I ρ w u hst hr => ?_⟩
     have get : ∀ (i : Nat) (y : List V), ((es.drop off).take n)[i]? = some y -> es[off + i]? = some y := fun i y hy => by
      have hlt := (liZ.1 hy).1;rw [List.getElem?_take_of_lt (by simp at hlt; omega), List.getElem?_drop] at hy
      exact hy
     cases hr with
     | ms _ _ _ _ cap _ p hp g1 g2 g3 =>
      have hH : H[id]? = some (.bufc es) := getO_some hg (by simp)
      obtain ⟨o1, o2, o3⟩ := hst.obj id p _ hp hH;have cell : ∀ (i : Nat) (y : List V), ((es.drop off).take n)[i]? = some y -> y.length = p.sz /\ CellsAt I [] w p.b (p.base + (off + i) * p.sz) y := fun i y hy => o3 (off + i) y (get i y hy) (hne y (List.mem_of_getElem? hy))
      have hl : AllLen p.sz ((es.drop off).take n) := fun y hy => by
       obtain ⟨i, hi⟩ := List.getElem?_of_mem hy;exact (cell i y hi).1
      obtain ⟨news, h1, h2, h3⟩ := first_row (P := P) (I := I) (w := w) (b := p.b) (base := p.base + off * p.sz) (n := n) (cap := cap) (len := len) rfl hl hlen.symm (fun i y j v hy hv => by
       obtain ⟨u, c1, c2, c3⟩ := (cell i y hy).2 j v hv;refine ⟨u, ?_, c2, c3⟩;rw [<- c1]; congr 2; rw [Nat.add_mul]; omega)
      exact ⟨hl, news, h1, h2, h3⟩
     | ms0 => omega
theorem lenV_sound {x : V} {m : Nat} (h : lenV x = some m) {u : Value} (hr : VRel I ρ x u) (w : World) : (Builtin.lenOf u).run P w = .ok m w := by
 unfold lenV at h;split at h <;> cases h
 . cases hr with
   | sl => simp [Builtin.lenOf]
   | slnil => simp [Builtin.lenOf]
 . cases hr with
   | ms => simp [Builtin.lenOf]
   | ms0 => simp [Builtin.lenOf]
 . obtain ⟨b, hb, rfl⟩ := vr_str hr;have : b.size = (by assumption : List UInt8).length := by rw [<- hb]; rfl
   simp [Builtin.lenOf, this]
 . rw [vr_nils hr]; simp [Builtin.lenOf]
theorem run_copy {t t2 ty q : TypeId} {i : TypeInfo} (hu : P.underlying t = some (.slice q)) (hi : P.info? q = some i) {b o dl dc m : Nat} {x : Value} {news : List Value} (hlen : ∀ w', (Builtin.lenOf x).run P w' = .ok m w')
 (hcells : (Builtin.firstCells i.size (Nat.min m dl) x).run P w = .ok news.toArray w) (hc : ∀ j, j < news.length -> (w.cell? ⟨b, o + j, none⟩).isSome = true) (hf : ∀ j, j < news.length -> w.frozen? ⟨b, o + j, none⟩ = false) (h1 : ∀ v ∈ news, v.oneCell' = true) :
 (Builtin.copy_ #[t, t2] ty #[.slice (some ⟨b, o, none⟩) dl dc, x]).run P w = .ok (.int .i64 (Nat.min m dl : Nat)) (w.setCells b o news) := by
 have hst := run_storeCells_cells (P := P) b o news 0 w (by simpa using hc) (by simpa using hf) h1
 simp only [Nat.add_zero] at hst;simp [Builtin.copy_, run_underlying' hu, run_sizeOf' hi, hlen, hcells, hst, goInt]
theorem over_rows {p : Pl} {off : Nat} {es ys : List (List V)} {news : List Value} {sz : Nat} (hsz : p.sz = sz) (o1 : es.length <= p.tot) (o2 : Open w p.b p.base (p.base + p.tot * p.sz)) (hin : off + ys.length <= es.length)
 (n2 : AllLen sz ys) (n3 : VRels I [] ys.flatten news) (n4 : ∀ v ∈ news, v.oneCell' = true) {C : List V -> Prop}
 (o3 : ∀ (i : Nat) (e : List V), es[i]? = some e -> C e -> e.length = p.sz /\ CellsAt I [] w p.b (p.base + i * p.sz) e) (hys : ∀ y ∈ ys, C y) :
 ∀ (i : Nat) (e : List V), (es.take off ++ ys ++ es.drop (off + ys.length))[i]? = some e -> C e -> e.length = p.sz /\ CellsAt I [] (w.setCells p.b (p.base + off * p.sz) news) p.b (p.base + i * p.sz) e := by
 subst hsz;have hl2 : news.length = ys.length * p.sz := by rw [<- n3.1, flat_len n2]
 have hmul : p.base + off * p.sz + news.length <= p.base + p.tot * p.sz := by
  rw [hl2, Nat.add_assoc, <- Nat.add_mul];have := Nat.mul_le_mul_right p.sz (show off + ys.length <= p.tot by omega)
  omega
 intro j y hy hC;rcases within_get hin hy with ⟨h1, h2⟩ | ⟨h1, h2, h3⟩ | ⟨h1, h2⟩
 . obtain ⟨c1, c2⟩ := o3 j y h2 hC;refine ⟨c1, c2.apart news (.inl ?_)⟩;have := Nat.mul_le_mul_right p.sz (show j + 1 <= off by omega)
   rw [Nat.add_mul] at this;rw [c1]; omega
 . have hyl := n2 y (List.mem_of_getElem? h3);refine ⟨hyl, ?_⟩;refine CellsAt.written o2 hmul n4 (d := (j - off) * p.sz) ?_ (fun j' v hv => ?_)
   . rw [Nat.add_assoc, <- Nat.add_mul];congr 2; omega
   . have hf := flat_get n2 h3 hv;have hlt := (liZ.1 hf).1;rw [n3.1] at hlt;exact ⟨news[(j - off) * p.sz + j'], lgZ hlt, n3.2 _ v _ hf (lgZ hlt)⟩
 . obtain ⟨c1, c2⟩ := o3 j y h2 hC;refine ⟨c1, c2.apart news (.inr ?_)⟩;rw [hl2, Nat.add_assoc, <- Nat.add_mul];have := Nat.mul_le_mul_right p.sz h1;omega
theorem e_copy (hT : TIok P T) {k : Nat} {o : Oper} {c : Call} (ho : o.op = .call c) (hc : c.callee = .builtin .copy) {K : V -> Env -> List O -> Prop} {d x : Operand} (ha : c.args.toList = [d, x]) {t t2 : TypeId} (hat : c.argTypes.toList = [t, t2])
 (h : aCopy T t (aevo e d) (aevo e x) H fun v H' => K v e H') : ESem P k o e H K := by
 unfold aCopy at h;cases hk : (T t).kind <;> simp only [hk] at h
 rename_i q;have hu := ty_sl hT hk;split at h <;> try exact h.elim
 rename_i z id off len full m hq hd hm;cases hb : Nat.beq z (T q).size <;> simp only [hb] at h
 have e0 := Nat.eq_of_beq_eq_true hb;obtain ⟨i, zv, g1, g2, g3, g4, g5, g6, g7, g8, hgd⟩ := okElem_all hT hq;obtain ⟨hpos, h⟩ := h;rw [g3] at h e0;obtain ⟨ys, hK, hlen, hys⟩ := rowsOf_sound (P := P) hpos h;refine esem_value (by simp [ho]) fun I ρ w a hst he hkk => ?_
 have hrd := aevo_rel he d;have hrx := aevo_rel he x;rw [hd] at hrd;obtain ⟨n2, news, n1, n3, n4⟩ := hys I ρ w _ hst hrx;have hl2 : news.length = ys.length * i.size := by rw [<- n3.1, flat_len n2]
 have hne : ∀ y ∈ ys, y ≠ [] := fun y hy e => by
  have := n2 y hy;rw [e] at this; simp at this; omega
 have exec : ∀ (w' : World) (b o' dl dc : Nat), a.eval d = .slice (some ⟨b, o', none⟩) dl dc -> (Builtin.copy_ #[t, t2] o.type #[.slice (some ⟨b, o', none⟩) dl dc, a.eval x]).run P w = .ok (.int .i64 (Nat.min m dl : Nat)) w' -> (execOp a.eval o).run P w = .ok (.value (.int .i64 (Nat.min m dl : Nat))) w' := by
  intro w' b o' dl dc had hrun;obtain ⟨callee, args, argTypes⟩ := c;obtain ⟨args⟩ := args;obtain ⟨argTypes⟩ := argTypes;simp only at hc ha hat;subst hc; subst ha; subst hat;simp [execOp, ho, resolve, invoke, builtin, had, hrun]
 generalize had : a.eval d = u at hrd;generalize hszq : z = sz at hrd e0;cases hrd with
 | ms0 => exfalso; simp only [Nat.min_def] at hpos; split at hpos <;> omega
 | ms _ _ _ _ cap _ p hp m1 m2 m3 m4 =>
 have hmin : Nat.min m len = min m len := rfl
 have fin : ∀ (es : List (List V)) (ob ob' : O), H[id]? = some ob -> ob.has p -> ob'.has p -> es.length <= p.tot -> Open w p.b p.base (p.base + p.tot * p.sz) -> off + min m len <= es.length -> K (.int .i64 (min m len : Nat)) e (H.set id ob') ->
  (∀ w', ORel I ρ (w.setCells p.b (p.base + off * p.sz) news) p ob' \/ w' = w -> ORel I ρ (w.setCells p.b (p.base + off * p.sz) news) p ob' \/ w' = w) -> ORel I ρ (w.setCells p.b (p.base + off * p.sz) news) p ob' ->
  ∃ u v I' ρ' e' H' w', (((execOp a.eval o).run P w = .ok (.value u) w') /\ K v e' H' /\ St I' ρ' H' w' /\ VRel I' ρ' v u /\ ERel I' ρ' e' a.tmps /\ Step k I ρ H w I' ρ' H' w') := by
  intro es ob ob' hH hh hh' o1 o2 hin hKK _ horel;have hmul : p.base + off * p.sz + news.length <= p.base + p.tot * p.sz := by
   rw [hl2, hlen, e0, Nat.add_assoc, <- Nat.add_mul];have := Nat.mul_le_mul_right i.size (show off + min m len <= p.tot by omega)
   omega
  have hrun := run_copy (t2 := t2) (ty := o.type) (P := P) (w := w) (dc := cap) (dl := len) (m := m) (x := a.eval x) hu g1 (b := p.b) (o := p.base + off * p.sz) (fun w' => lenV_sound hm hrx w') (n1 w rfl) (fun j hj => o2.cell (by omega)) (fun j hj => by
   obtain ⟨c', t', fr, c1, c2, c3⟩ := o2;exact c3 _ (by omega)) n4
  obtain ⟨s1, s2⟩ := st_write hst k hkk hp hH hh hh' horel;exact ⟨_, _, I, ρ, e, _, _, exec _ _ _ _ _ had hrun, hKK, s1, .int _ _ _, he, s2⟩
 cases hg : getO H id <;> simp only [hg] at hK
 . rename_i es;obtain ⟨hin, hK⟩ := hK;rw [copyH_iff, setO_eq] at hK;have hH : H[id]? = some (.buf es) := getO_some hg (by simp)
   rcases hst.obj id p _ hp hH with ⟨h0, _⟩ | ⟨o1, o2, o3⟩
   . subst h0; simp at hin hpos; omega
   have htot : p.tot ≠ 0 := by omega
   have hrows := over_rows (w := w) (C := fun _ => True) e0 o1 o2 (by rw [hlen]; exact hin) n2 n3 n4 (fun i y hy _ => o3 i y hy) (fun _ _ => trivial)
   rw [hlen] at hrows;obtain ⟨u, v, I', ρ', e', H', w', r1, r2, r3, r4, r5, r6⟩ := fin es _ (.buf (es.take off ++ ys ++ es.drop (off + min m len))) hH htot htot o1 o2 hin hK (fun _ h => h) (.inr ⟨by simp; omega, o2.setCells _ _, fun j y hy => hrows j y hy trivial⟩)
   exact ⟨u, v, I', ρ', e', H', w', .inl r1, r2, r3, r4, r5, r6⟩
 . rename_i es;obtain ⟨hin, hK⟩ := hK;rw [copyH_iff, setO_eq] at hK;have hH : H[id]? = some (.bufc es) := getO_some hg (by simp)
   obtain ⟨o1, o2, o3⟩ := hst.obj id p _ hp hH;have hrows := over_rows (w := w) (C := fun y => y ≠ []) e0 (Nat.le_of_eq o1) o2 (by rw [hlen]; exact hin) n2 n3 n4 (fun i y hy hC => o3 i y hy hC) hne
   rw [hlen] at hrows;obtain ⟨u, v, I', ρ', e', H', w', r1, r2, r3, r4, r5, r6⟩ := fin es _ (.bufc (es.take off ++ ys ++ es.drop (off + min m len))) hH trivial trivial (Nat.le_of_eq o1) o2 hin hK (fun _ h => h) ⟨by simp; omega, o2.setCells _ _, hrows⟩
   exact ⟨u, v, I', ρ', e', H', w', .inl r1, r2, r3, r4, r5, r6⟩
theorem run_append0 {t t2 ty q : TypeId} {k2 k1 : IntKind} {i : TypeInfo} {z : Value} (ht : P.underlying t = some (.slice q)) (ht2 : P.underlying t2 = some (.int k2)) (hi : P.info? q = some i) (hz : i.zero = some z)
 {A : Option Addr} {sLen sCap : Nat} {n : Int} (h0 : 0 < n) (hn1 : n <= 70368744177664) {olds : List Value} (ho : ∀ w', w'.heap = w.heap -> (Builtin.firstCells i.size sLen (.slice A sLen sCap)).run P w' = .ok olds.toArray w') (hg : sCap < sLen + n.toNat)
 (hb0 : 0 < i.bytes) (hs0 : 0 < i.size) (hfit : Builtin.nextslicecap (sLen + n.toNat) sCap * i.bytes <= 281474976710656) (hroom : n * i.bytes <= 281474976710656) (hneed : sLen + n.toNat <= 9223372036854775807) :
 (Builtin.append_ #[t, t2] ty #[.slice A sLen sCap, .int k1 n]).run P w = .ok (.slice (some ⟨w.heap.size, 0, none⟩) (sLen + n.toNat) (grownCap w (sLen + n.toNat) sCap q))
  (w.drew.alloc (.cells ((olds ++ (Builtin.zeroCells z.cells n.toNat).toList).toArray ++ Builtin.zeroCells z.cells (grownCap w (sLen + n.toNat) sCap q - (sLen + n.toNat))) q)) := by
 have hn : ¬ (sLen + n.toNat <= sCap) := by omega
 have h48' : ¬ (281474976710656 < Builtin.nextslicecap (sLen + n.toNat) sCap * i.bytes) := by omega
 have hb : i.bytes ≠ 0 := by omega
 have e2 := ho w.drew rfl;have hw : IntKind.i64.wrap n = n := by rw [IntKind.wrap_i64]; omega
 have hneg : ¬ n < 0 := by omega
 have hr : ¬ (281474976710656 < n * (i.bytes : Int)) := by omega
 have hmax : ¬ ((9223372036854775807 : Int) < ((sLen : Int) + max n 0)) := by omega
 have hnz : ¬ (n.toNat * i.size = 0) := by
  have : 0 < n.toNat := by omega
  have := Nat.mul_pos this hs0;omega
 have hi64 : IntKind.i64.max = 9223372036854775807 := rfl;simp [Builtin.append_, run_underlying' ht, run_underlying' ht2, sizeOf, typeInfo, zeroValue, asInt, asIntOf, hi, hz, hw, hneg, hr, hn, h48', hb, hmax, hi64, hnz, Question.forced, e2, newRow, grownCap, <- Array.append_assoc];rw [show (olds ++ (Builtin.zeroCells z.cells n.toNat).toList).toArray = olds.toArray ++ Builtin.zeroCells z.cells n.toNat by simp]
theorem firstCells_nil (A : Option Addr) (cap sz : Nat) (w' : World) : (Builtin.firstCells sz 0 (.slice A 0 cap)).run P w' = .ok ([] : List Value).toArray w' := by
 cases A <;> simp [Builtin.firstCells, loadCells, loadCellsFrom]
theorem e_append0_nil (hT : TIok P T) {k : Nat} {o : Oper} {c : Call} (ho : o.op = .call c) (hc : c.callee = .builtin .append) {K : V -> Env -> List O -> Prop} {s x : Operand} (ha : c.args.toList = [s, x]) {t t2 : TypeId} (hat : c.argTypes.toList = [t, t2])
 {q : TypeId} (hk' : (T t).kind = .sl q) (hq : okElem (T q) = true) {k2 k1 : IntKind} (hk2 : (T t2).kind = .int k2) {n : Int} (hx : aevo e x = .int k1 n)
 (hs0 : aevo e s = .nils) (h : aApp0 (T q).size (T q).bytes (T q).zero (aevo e s) n H fun v H' => K v e H') : ESem P k o e H K := by
 obtain ⟨i, z, g1, g2, g3, g4, g5, g6, g7, g8, hgd⟩ := okElem_all hT hq;obtain ⟨i', z', d, f1, f2, f3, f4, f5⟩ := ti_good hT hgd;rw [g1] at f1; cases f1;rw [g2] at f2; cases f2;have hzero : (T q).zero = z.cells.toList.map ofVal1 := by rw [f4]
 have hlz : (T q).zero.length = i.size := by rw [hzero]; simp [g8]
 have hu := ty_sl hT hk';have hu2 := ty_int hT hk2;rw [hs0] at h;unfold aApp0 at h;simp only at h;obtain ⟨⟨h0, hn1⟩, hle, hK⟩ := h;rw [copyH_iff] at hK;rw [g4] at hle;refine esem_value (by simp [ho]) fun I ρ w a hst he hkk => ?_
 have hrs := aevo_rel he s;have hrx := aevo_rel he x;rw [hs0] at hrs;rw [hx] at hrx;have hax := vr_int hrx;generalize hau : a.eval s = u at hrs
 have core : ∀ (A : Option Addr) (cap : Nat) (olds : List Value), a.eval s = .slice A 0 cap -> cap < 0 + n.toNat -> (∀ w', w'.heap = w.heap -> (Builtin.firstCells i.size 0 (.slice A 0 cap)).run P w' = .ok olds.toArray w') -> AllLen i.size (([] : List (List V))) -> VRels I [] (([] : List (List V))).flatten olds -> (∀ v ∈ olds, v.oneCell' = true) ->
  ∃ u v I' ρ' e' H' w', (((execOp a.eval o).run P w = .ok (.value u) w') /\ K v e' H' /\ St I' ρ' H' w' /\ VRel I' ρ' v u /\ ERel I' ρ' e' a.tmps /\ Step k I ρ H w I' ρ' H' w') := by
  intro A cap olds hau hg' h1 hl h2 h3;have hpn : 0 < n := by omega
  have hlen2 : (([] : List (List V)) ++ List.replicate n.toNat (T q).zero).length = 0 + n.toNat := by rw [laZ, List.length_replicate]; rfl
  rw [<- List.nil_append (List.replicate n.toNat (T q).zero)] at hle hK;rw [hlen2] at hle hK;have hcapb : Builtin.nextslicecap (0 + n.toNat) cap * i.bytes <= 281474976710656 := by
   have h1 := nextslicecap_le _ _ hg';have h2 := Nat.mul_le_mul_right i.bytes h1;rw [Nat.add_mul, Nat.mul_assoc] at h2;have h3 : 768 * i.bytes <= 768 * 65536 := Nat.mul_le_mul_left _ g6;omega
  have hnb : n * i.bytes <= 281474976710656 := by
   have e3 : n = (n.toNat : Int) := by omega
   rw [e3, <- Int.natCast_mul];have : n.toNat * i.bytes <= (0 + n.toNat) * i.bytes := Nat.mul_le_mul_right _ (by omega)
   omega
  have hbig : 0 + n.toNat <= 9223372036854775807 := by
   have : 0 + n.toNat <= (0 + n.toNat) * i.bytes := Nat.le_mul_of_pos_right _ g5;omega
  have hrun := run_append0 (P := P) (ty := o.type) (k1 := k1) hu hu2 g1 g2 hpn hn1 h1 hg' g5 g7 hcapb hnb hbig;obtain ⟨cp, hcp⟩ : ∃ cp, cp = grownCap w (0 + n.toNat) cap q := ⟨_, rfl⟩;have hge : 0 + n.toNat <= cp := by rw [hcp]; simp only [grownCap, Question.cut]; omega
  rw [<- hcp] at hrun;have hzc : Builtin.zeroCells z.cells n.toNat = rangeZero z.cells (n.toNat * z.cells.size) := rfl;have hget0 : ∀ (j : Nat) (u : Value), (rangeZero z.cells (n.toNat * z.cells.size))[j]? = some u -> z.cells[j % z.cells.size]? = some u := by
   intro j u hu';have hjl : j < n.toNat * z.cells.size := by
    have := (Array.getElem?_eq_some_iff.1 hu').1;simpa [rangeZero] using this
   rw [(rangeZero_get hjl).1] at hu'; exact hu'
  have hflat : VRels I [] (List.replicate n.toNat (T q).zero).flatten (rangeZero z.cells (n.toNat * z.cells.size)).toList := by
   refine ⟨by rw [flat_len (rep_len hlz n.toNat)]; simp [rangeZero, g8], fun j v u hv hu' => ?_⟩
   have hu2' := hget0 j u (by simpa using hu')
   obtain ⟨y, y1, y2, y3, y4⟩ := flat_inv (rep_len hlz n.toNat) hv;have hy : y = (T q).zero := (List.mem_replicate.1 (List.mem_of_getElem? y1)).2;subst hy;rw [<- g8] at y2;exact (ofVals_rel z.cells).2 (j % z.cells.size) v u (by rw [<- hzero]; exact y2) (by simpa using hu2')
  have hone : ∀ v ∈ (rangeZero z.cells (n.toNat * z.cells.size)).toList, v.oneCell' = true := by
   intro u hu';obtain ⟨j, hj⟩ := List.getElem?_of_mem hu';exact ofVals_one f5 _ u (hget0 j u (by simpa using hj))
  have hl1 : olds.length = 0 * i.size := by rw [<- h2.1, flat_len hl]; rfl
  have hl2 : (rangeZero z.cells (n.toNat * z.cells.size)).size = n.toNat * i.size := by simp [rangeZero, g8]
  obtain ⟨us, hus⟩ : ∃ us, us = (olds ++ (Builtin.zeroCells z.cells n.toNat).toList).toArray ++ Builtin.zeroCells z.cells (cp - (0 + n.toNat)) := ⟨_, rfl⟩;have hsize : us.size = cp * i.size := by
   rw [hus, hzc];simp only [List.size_toArray, Array.size_append, laZ, Array.length_toList, hl1, hl2];simp only [Builtin.zeroCells, Array.size_map, Array.size_range, g8];rw [<- Nat.add_mul, <- Nat.add_mul];congr 1; omega
  have htake : us.toList.take ((0 + n.toNat) * i.size) = olds ++ (rangeZero z.cells (n.toNat * z.cells.size)).toList := by
   have e1 : (0 + n.toNat) * i.size = (olds ++ (rangeZero z.cells (n.toNat * z.cells.size)).toList).length := by rw [laZ, hl1, Array.length_toList, hl2, Nat.add_mul]
   rw [e1, hus, hzc, Array.toList_append];exact List.take_left
  have hall : AllLen i.size (([] : List (List V)) ++ List.replicate n.toNat (T q).zero) := hl.append (rep_len hlz n.toNat);have hrels : VRels I [] (([] : List (List V)) ++ List.replicate n.toNat (T q).zero).flatten (us.toList.take ((([] : List (List V)) ++ List.replicate n.toNat (T q).zero).length * i.size)) := by
   rw [hlen2, htake, List.flatten_append];exact h2.append hflat
  obtain ⟨s1, s2⟩ := new_buf hst k hkk (es := ([] : List (List V)) ++ List.replicate n.toNat (T q).zero) (sz := i.size) (tot := cp) (us := us) hall hrels (fun j u hj hu' => by
   rw [hlen2] at hj;have h1' : (us.toList.take ((0 + n.toNat) * i.size))[j]? = some u := by
    rw [List.getElem?_take_of_lt hj]; simpa using hu'
   rw [htake] at h1';rcases List.mem_append.1 (List.mem_of_getElem? h1') with y2 | y2
   . exact h3 u y2
   . exact hone u y2) (by rw [hlen2]; exact hge) hsize q w.drew rfl rfl rfl rfl
  rw [<- hus] at hrun;refine ⟨.slice (some ⟨w.heap.size, 0, none⟩) (0 + n.toNat) cp, _, I, _, e, _, _, ?_, hK, s1, ?_, he.mono (ILe.refl _) (PLe.append _ _), s2⟩
  . obtain ⟨callee, args, argTypes⟩ := c;obtain ⟨args⟩ := args;obtain ⟨argTypes⟩ := argTypes;simp only at hc ha hat;subst hc; subst ha; subst hat;simp [execOp, ho, resolve, invoke, builtin, hau, hax, hrun];rfl
  . have := VRel.mr (I := I) (ρ ++ [⟨w.heap.size, 0, i.size, cp⟩]) H.length 0 (0 + n.toNat) cp ⟨w.heap.size, 0, i.size, cp⟩ (by rw [<- hst.len]; simp) hge (by simp)
    rw [g3];simpa using this
 have fin : (∃ u v I' ρ' e' H' w', (((execOp a.eval o).run P w = .ok (.value u) w') /\ K v e' H' /\ St I' ρ' H' w' /\ VRel I' ρ' v u /\ ERel I' ρ' e' a.tmps /\ Step k I ρ H w I' ρ' H' w')) := by
  cases hrs;exact core _ 0 [] hau (by omega) (fun w' _ => firstCells_nil _ _ _ w') (fun y hy => by simp at hy) (by simpa using VRels.nil _ _) (by simp)
 obtain ⟨u, v, I', ρ', e', H', w', r1, r2, r3, r4, r5, r6⟩ := fin;exact ⟨u, v, I', ρ', e', H', w', .inl r1, r2, r3, r4, r5, r6⟩
theorem e_append0 (hT : TIok P T) {k : Nat} {o : Oper} {c : Call} (ho : o.op = .call c) (hc : c.callee = .builtin .append) {K : V -> Env -> List O -> Prop} {s x : Operand} (ha : c.args.toList = [s, x]) {t t2 : TypeId} (hat : c.argTypes.toList = [t, t2])
 {q : TypeId} (hk' : (T t).kind = .sl q) (hq : okElem (T q) = true) {k2 k1 : IntKind} (hk2 : (T t2).kind = .int k2) {n : Int} (hx : aevo e x = .int k1 n)
 (h : aApp0 (T q).size (T q).bytes (T q).zero (aevo e s) n H fun v H' => K v e H') : ESem P k o e H K := by
 obtain ⟨i, z, g1, g2, g3, g4, g5, g6, g7, g8, hgd⟩ := okElem_all hT hq;obtain ⟨i', z', d, f1, f2, f3, f4, f5⟩ := ti_good hT hgd;rw [g1] at f1; cases f1;rw [g2] at f2; cases f2;have hzero : (T q).zero = z.cells.toList.map ofVal1 := by rw [f4]
 have hlz : (T q).zero.length = i.size := by rw [hzero]; simp [g8]
 have hu := ty_sl hT hk';have hu2 := ty_int hT hk2;by_cases hnil : aevo e s = .nils
 . exact e_append0_nil hT ho hc ha hat hk' hq hk2 hx hnil h
 unfold aApp0 at h;split at h <;> try exact h.elim
 rotate_left
 . rename_i hs; exact absurd hs hnil
 rename_i zz id off len hs;cases hb : Nat.beq zz (T q).size <;> simp only [hb] at h
 have e0 := Nat.eq_of_beq_eq_true hb;cases hg : getO H id <;> simp only [hg] at h
 rename_i es;obtain ⟨⟨h0, hn1, hin, hfull, hne⟩, hle, hK⟩ := h;rw [copyH_iff] at hK;rw [g3] at e0;rw [g4] at hle;refine esem_value (by simp [ho]) fun I ρ w a hst he hkk => ?_
 have hrs := aevo_rel he s;have hrx := aevo_rel he x;rw [hs] at hrs;rw [hx] at hrx;have hax := vr_int hrx;generalize hau : a.eval s = u at hrs;generalize hszq : zz = sz at hrs e0;have hlen : ((es.drop off).take len).length = len := by simp; omega
 have hH : H[id]? = some (.bufc es) := getO_some hg (by simp)
 have core : ∀ (A : Option Addr) (cap : Nat) (olds : List Value), a.eval s = .slice A len cap -> cap < len + n.toNat -> (∀ w', w'.heap = w.heap -> (Builtin.firstCells i.size len (.slice A len cap)).run P w' = .ok olds.toArray w') -> AllLen i.size ((es.drop off).take len) -> VRels I [] ((es.drop off).take len).flatten olds -> (∀ v ∈ olds, v.oneCell' = true) ->
  ∃ u v I' ρ' e' H' w', (((execOp a.eval o).run P w = .ok (.value u) w') /\ K v e' H' /\ St I' ρ' H' w' /\ VRel I' ρ' v u /\ ERel I' ρ' e' a.tmps /\ Step k I ρ H w I' ρ' H' w') := by
  intro A cap olds hau hg' h1 hl h2 h3;have hpn : 0 < n := by omega
  have hlen2 : ((es.drop off).take len ++ List.replicate n.toNat (T q).zero).length = len + n.toNat := by rw [laZ, hlen, List.length_replicate]
  rw [hlen2] at hle hK;have hcapb : Builtin.nextslicecap (len + n.toNat) cap * i.bytes <= 281474976710656 := by
   have h1 := nextslicecap_le _ _ hg';have h2 := Nat.mul_le_mul_right i.bytes h1;rw [Nat.add_mul, Nat.mul_assoc] at h2;have h3 : 768 * i.bytes <= 768 * 65536 := Nat.mul_le_mul_left _ g6;omega
  have hnb : n * i.bytes <= 281474976710656 := by
   have e3 : n = (n.toNat : Int) := by omega
   rw [e3, <- Int.natCast_mul];have : n.toNat * i.bytes <= (len + n.toNat) * i.bytes := Nat.mul_le_mul_right _ (by omega)
   omega
  have hbig : len + n.toNat <= 9223372036854775807 := by
   have : len + n.toNat <= (len + n.toNat) * i.bytes := Nat.le_mul_of_pos_right _ g5;omega
  have hrun := run_append0 (P := P) (ty := o.type) (k1 := k1) hu hu2 g1 g2 hpn hn1 h1 hg' g5 g7 hcapb hnb hbig;obtain ⟨cp, hcp⟩ : ∃ cp, cp = grownCap w (len + n.toNat) cap q := ⟨_, rfl⟩;have hge : len + n.toNat <= cp := by rw [hcp]; simp only [grownCap, Question.cut]; omega
  rw [<- hcp] at hrun;have hzc : Builtin.zeroCells z.cells n.toNat = rangeZero z.cells (n.toNat * z.cells.size) := rfl;have hget0 : ∀ (j : Nat) (u : Value), (rangeZero z.cells (n.toNat * z.cells.size))[j]? = some u -> z.cells[j % z.cells.size]? = some u := by
   intro j u hu';have hjl : j < n.toNat * z.cells.size := by
    have := (Array.getElem?_eq_some_iff.1 hu').1;simpa [rangeZero] using this
   rw [(rangeZero_get hjl).1] at hu'; exact hu'
  have hflat : VRels I [] (List.replicate n.toNat (T q).zero).flatten (rangeZero z.cells (n.toNat * z.cells.size)).toList := by
   refine ⟨by rw [flat_len (rep_len hlz n.toNat)]; simp [rangeZero, g8], fun j v u hv hu' => ?_⟩
   have hu2' := hget0 j u (by simpa using hu')
   obtain ⟨y, y1, y2, y3, y4⟩ := flat_inv (rep_len hlz n.toNat) hv;have hy : y = (T q).zero := (List.mem_replicate.1 (List.mem_of_getElem? y1)).2;subst hy;rw [<- g8] at y2;exact (ofVals_rel z.cells).2 (j % z.cells.size) v u (by rw [<- hzero]; exact y2) (by simpa using hu2')
  have hone : ∀ v ∈ (rangeZero z.cells (n.toNat * z.cells.size)).toList, v.oneCell' = true := by
   intro u hu';obtain ⟨j, hj⟩ := List.getElem?_of_mem hu';exact ofVals_one f5 _ u (hget0 j u (by simpa using hj))
  have hl1 : olds.length = len * i.size := by rw [<- h2.1, flat_len hl, hlen]
  have hl2 : (rangeZero z.cells (n.toNat * z.cells.size)).size = n.toNat * i.size := by simp [rangeZero, g8]
  obtain ⟨us, hus⟩ : ∃ us, us = (olds ++ (Builtin.zeroCells z.cells n.toNat).toList).toArray ++ Builtin.zeroCells z.cells (cp - (len + n.toNat)) := ⟨_, rfl⟩;have hsize : us.size = cp * i.size := by
   rw [hus, hzc];simp only [List.size_toArray, Array.size_append, laZ, Array.length_toList, hl1, hl2];simp only [Builtin.zeroCells, Array.size_map, Array.size_range, g8];rw [<- Nat.add_mul, <- Nat.add_mul];congr 1; omega
  have htake : us.toList.take ((len + n.toNat) * i.size) = olds ++ (rangeZero z.cells (n.toNat * z.cells.size)).toList := by
   have e1 : (len + n.toNat) * i.size = (olds ++ (rangeZero z.cells (n.toNat * z.cells.size)).toList).length := by rw [laZ, hl1, Array.length_toList, hl2, Nat.add_mul]
   rw [e1, hus, hzc, Array.toList_append];exact List.take_left
  have hall : AllLen i.size ((es.drop off).take len ++ List.replicate n.toNat (T q).zero) := hl.append (rep_len hlz n.toNat);have hrels : VRels I [] ((es.drop off).take len ++ List.replicate n.toNat (T q).zero).flatten (us.toList.take (((es.drop off).take len ++ List.replicate n.toNat (T q).zero).length * i.size)) := by
   rw [hlen2, htake, List.flatten_append];exact h2.append hflat
  obtain ⟨s1, s2⟩ := new_buf hst k hkk (es := (es.drop off).take len ++ List.replicate n.toNat (T q).zero) (sz := i.size) (tot := cp) (us := us) hall hrels (fun j u hj hu' => by
   rw [hlen2] at hj;have h1' : (us.toList.take ((len + n.toNat) * i.size))[j]? = some u := by
    rw [List.getElem?_take_of_lt hj]; simpa using hu'
   rw [htake] at h1';rcases List.mem_append.1 (List.mem_of_getElem? h1') with y2 | y2
   . exact h3 u y2
   . exact hone u y2) (by rw [hlen2]; exact hge) hsize q w.drew rfl rfl rfl rfl
  rw [<- hus] at hrun;refine ⟨.slice (some ⟨w.heap.size, 0, none⟩) (len + n.toNat) cp, _, I, _, e, _, _, ?_, hK, s1, ?_, he.mono (ILe.refl _) (PLe.append _ _), s2⟩
  . obtain ⟨callee, args, argTypes⟩ := c;obtain ⟨args⟩ := args;obtain ⟨argTypes⟩ := argTypes;simp only at hc ha hat;subst hc; subst ha; subst hat;simp [execOp, ho, resolve, invoke, builtin, hau, hax, hrun];rfl
  . have := VRel.ms (I := I) (ρ ++ [⟨w.heap.size, 0, i.size, cp⟩]) H.length 0 (len + n.toNat) cp false ⟨w.heap.size, 0, i.size, cp⟩ (by rw [<- hst.len]; simp) hge (by simp) (by simp)
    rw [g3];simpa using this
 have fin : (∃ u v I' ρ' e' H' w', (((execOp a.eval o).run P w = .ok (.value u) w') /\ K v e' H' /\ St I' ρ' H' w' /\ VRel I' ρ' v u /\ ERel I' ρ' e' a.tmps /\ Step k I ρ H w I' ρ' H' w')) := by
  cases hrs with
  | ms0 => exact core _ 0 [] hau (by omega) (fun w' _ => firstCells_nil _ _ _ w') (fun y hy => by simp at hy) (by simpa using VRels.nil _ _) (by simp)
  | ms _ _ _ _ cap _ p hp m1 m2 m3 m4 =>
   have hcap := m4 rfl;obtain ⟨o1, o2, o3⟩ := hst.obj id p _ hp hH;have get : ∀ (j : Nat) (y : List V), ((es.drop off).take len)[j]? = some y -> es[off + j]? = some y := fun j y hy => by
    have hlt := (liZ.1 hy).1;rw [List.getElem?_take_of_lt (by simp at hlt; omega), List.getElem?_drop] at hy
    exact hy
   have cell : ∀ (j : Nat) (y : List V), ((es.drop off).take len)[j]? = some y -> y.length = p.sz /\ CellsAt I [] w p.b (p.base + (off + j) * p.sz) y := fun j y hy => o3 (off + j) y (get j y hy) (hne y (List.mem_of_getElem? hy))
   have hl : AllLen p.sz ((es.drop off).take len) := fun y hy => by
    obtain ⟨j, hj⟩ := List.getElem?_of_mem hy;exact (cell j y hj).1
   obtain ⟨olds, h1, h2, h3⟩ := first_row (P := P) (I := I) (w := w) (b := p.b) (base := p.base + off * p.sz) (n := len) (cap := cap) (len := len) rfl hl hlen.symm (fun j y m v hy hv => by
    obtain ⟨u, c1, c2, c3⟩ := (cell j y hy).2 m v hv;refine ⟨u, ?_, c2, c3⟩;rw [<- c1]; congr 2; rw [Nat.add_mul]; omega)
   rw [e0] at h1 hl;exact core _ cap olds (by rw [hau, e0]) (by omega) h1 hl h2 h3
 obtain ⟨u, v, I', ρ', e', H', w', r1, r2, r3, r4, r5, r6⟩ := fin;exact ⟨u, v, I', ρ', e', H', w', .inl r1, r2, r3, r4, r5, r6⟩
end Go.Proofs.YtcdkklgeepkopaaGreatDoorPg
