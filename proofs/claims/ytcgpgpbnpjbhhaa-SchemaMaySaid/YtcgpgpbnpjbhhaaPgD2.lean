/- From a function's contract to the row of a law. -/
import Derived.Test.YtcgpgpbnpjbhhaaPgD1
namespace Go.Proofs.YtcgpgpbnpjbhhaaPg
open Go Go.RowKit Go.ChangeShapes Go.WideShapes
variable [Globs]
set_option linter.unusedVariables false
set_option linter.unusedSimpArgs false

variable {P : Program} {T : Nat → TI} {W : World}

def argV (T : Nat → TI) (t : TypeId) (vs : List V) : V :=
  match (T t).kind.isAgg with
  | true => .agg vs
  | false => vs.headD .any

def Shps (T : Nat → TI) (n : Nat) : List TypeId → List V → Prop
  | [], as => as = []
  | t :: ts, as => ∃ vs r, Shp T n t vs ∧ Shps T n ts r ∧ as = argV T t vs :: r

theorem arg_in (hT : TIok P T) {H : Type} {enc : TypeId × Value → H} {hd : Bool} {n : Nat} {t : TypeId} (hlay : lays T n t = true) {r : Reach} {base : Nat} {v : Value} {d : DataW H} {ps : List MemPlace} (hval : Value.okWide P W r base t v)
    (h : DataW.Trod enc P W 0 (fun _ => true) hd t v d ps) : ∃ vs, Shp T n t vs ∧ VRel (Im0 W) [] (argV T t vs) v := by
  obtain ⟨fuel, htr⟩ := h
  obtain ⟨vs, h1, h2, h3⟩ := trod_in hT n fuel t _ _ hlay htr
  refine ⟨vs, h1, ?_⟩
  have hone : v.cells = #[v] → VRel (Im0 W) [] (vs.headD .any) v := fun hc => by
    rw [hc] at h2
    have hl := h2.rel.1
    simp at hl
    obtain ⟨x, rfl⟩ := List.length_eq_one_iff.1 hl
    exact h2.rel.2 0 x v (by simp) (by simp)
  cases n with
  | zero => simp [lays] at hlay
  | succ n =>
    simp only [lays, Bool.and_eq_true] at hlay
    obtain ⟨hg, hlay⟩ := hlay
    cases hk : (T t).kind <;> simp only [hk] at hlay <;> (try (exact absurd hlay (by decide))) <;> simp only [argV, hk, TK.isAgg]
    case struct fs =>
      obtain ⟨fa, hu, _⟩ := ty_struct hT hk
      unfold Value.okWide at hval
      rw [hu] at hval
      obtain ⟨cs, rfl, _⟩ := hval
      simp only [Value.cells] at h2
      exact .agg _ _ _ (by simpa using h2.rel.1) (fun i u hu => h2.one u (by simpa using Array.mem_of_getElem? hu)) (fun i a u ha hu => h2.rel.2 i a u ha (by simpa using hu))
    case bool =>
      refine hone ?_
      have hu := ty_bool hT hk
      unfold Value.okWide at hval; rw [hu] at hval
      cases v <;> first | rfl | (simp [Cell.okWide, Cell.ok, hu] at hval)
    case int =>
      refine hone ?_
      have hu := ty_int hT hk
      unfold Value.okWide at hval; rw [hu] at hval
      cases v <;> first | rfl | (simp [Cell.okWide, Cell.ok, hu] at hval)
    case str =>
      refine hone ?_
      have hu := ty_str hT hk
      unfold Value.okWide at hval; rw [hu] at hval
      cases v <;> first | rfl | (simp [Cell.okWide, Cell.ok, hu] at hval)
    case sl =>
      refine hone ?_
      have hu := ty_sl hT hk
      unfold Value.okWide at hval; rw [hu] at hval
      cases v <;> first | rfl | (simp [Cell.okWide, Cell.ok, hu] at hval)

theorem args_in (hT : TIok P T) {H : Type} {enc : TypeId × Value → H} {hd : Bool} {n : Nat} {r : Reach} {base : Nat} : ∀ (ts : List TypeId) (us : List Value) (ds : List (DataW H)) (ps : List MemPlace), (∀ t ∈ ts, lays T n t = true) →
    (∀ (j : Nat) t v, ts[j]? = some t → us[j]? = some v → Value.okWide P W r base t v) → DataW.TrodAll enc P W 0 (fun _ => true) hd ts us ds ps → ∃ as, Shps T n ts as ∧ VRels (Im0 W) [] as us
  | [], us, ds, ps, _, _, h => by
    obtain ⟨rfl, rfl, rfl⟩ := trodAll_nil h
    exact ⟨[], rfl, VRels.nil _ _⟩
  | t :: ts, us, ds, ps, hl, hv, h => by
    cases us with
    | nil => cases ds <;> simp [DataW.TrodAll] at h
    | cons u us =>
      cases ds with
      | nil => simp [DataW.TrodAll] at h
      | cons d ds =>
        obtain ⟨p, q, h1, h2, _⟩ := h
        obtain ⟨vs, a1, a2⟩ := arg_in hT (hl t (by simp)) (hv 0 t u rfl rfl) h1
        obtain ⟨as, b1, b2⟩ := args_in hT ts us ds q (fun t ht => hl t (by simp [ht])) (fun j t v ht hv' => hv (j + 1) t v (by simpa using ht) (by simpa using hv')) h2
        exact ⟨_, ⟨vs, as, a1, b1, rfl⟩, VRels.cons a2 b2⟩

theorem trodAll_stays {H : Type} {enc : TypeId × Value → H} (hl : laidOutB P = true) {W' : World} {sp' : Nat → Bool} : ∀ (ts : List TypeId) (us : List Value) (ds : List (DataW H)) (ps : List MemPlace), (∀ t ∈ ts, P.readableRec t = true ∧ t < P.types.size) →
    DataW.TrodAll enc P W 0 (fun _ => true) true ts us ds ps → (∀ p ∈ ps, W.sameAt W' p) → (∀ p ∈ ps, sp' p.block = true) → DataW.TrodAll enc P W' 0 sp' true ts us ds ps
  | [], us, ds, ps, _, h, _, _ => by
    obtain ⟨rfl, rfl, rfl⟩ := trodAll_nil h
    exact h
  | t :: ts, us, ds, ps, hr, h, hs, hsp => by
    cases us with
    | nil => cases ds <;> simp [DataW.TrodAll] at h
    | cons u us =>
      cases ds with
      | nil => simp [DataW.TrodAll] at h
      | cons d ds =>
        obtain ⟨p, q, h1, h2, rfl⟩ := h
        exact ⟨p, q, WideElems.Trod_stays hl (hr t (by simp)).1 (hr t (by simp)).2 h1 (fun x hx => hs x (by simp [hx])) (fun x hx => hsp x (by simp [hx])),
          trodAll_stays hl ts us ds q (fun t ht => hr t (by simp [ht])) h2 (fun x hx => hs x (by simp [hx])) (fun x hx => hsp x (by simp [hx])), rfl⟩

theorem Step.below {k : Nat} {I : Imm} {I' : Imm} {ρ' : List Pl} {H' : List O} {w' : World} (h : Step k I [] [] W I' ρ' H' w') : Below W.heap.size W w' :=
  ⟨h.os, h.tape, h.output, h.size, fun b hb => h.frame b hb fun ⟨i, p, o, hp, _⟩ => by simp at hp⟩

/-- The contract of a law, as its row asks for it. -/
theorem law_contract (hT : TIok P T) (hl : laidOutB P = true) {f : FuncId} {fn : Func} {s : ChangeSpec} (n : Nat) (hlay : fn.params.toList.all (fun t => lays T n t && (P.readableRec t && Nat.blt t P.types.size)) = true)
    {tb : TypeId} (hres : fn.resultTypes = #[tb]) (hb : P.underlying tb = some .bool) (hvars : s.vars = []) (hfn : ∀ (H : Type) (ds : List (DataW H)), ds.length = fn.params.size → s.fn H ds = { results := [.lit (.bool true)], args := ds })
    (law : ∀ as, Shps T n fn.params.toList as → ACall P f 0 as [] (fun v _ => v = .bool true)) {apart fresh handsOn again : Bool} {H : Type} {enc : TypeId × Value → H}
    (W : World) (base : Nat) (args : Array Value) (ds gs : List (DataW H)) (before : List MemPlace) (hval : ∀ (j : Nat) t v, fn.params[j]? = some t → args[j]? = some v → Value.okWide P W .any base t v)
    (hW : DataW.Whole enc P fn.params.toList s.vars apart W args.toList ds gs before) (hK : Globs.K (Im0 W) := by exact trivial) : Calls P f args W fun e W' => ∃ v, e = .returned v ∧ s.post enc P fn apart fresh handsOn again W args v W' := by
  have hW' := hW
  rw [hvars] at hW
  obtain ⟨p, q, hA, hV, hpq, hfz, hnd⟩ := hW
  obtain ⟨rfl, rfl⟩ := trodVars_none hV
  rw [List.append_nil] at hpq
  subst hpq
  have hlay' : ∀ t ∈ fn.params.toList, lays T n t = true ∧ P.readableRec t = true ∧ t < P.types.size := fun t ht => by
    have := List.all_eq_true.1 hlay t ht
    simp only [Bool.and_eq_true] at this
    exact ⟨this.1, this.2.1, Nat.le_of_ble_eq_true this.2.2⟩
  obtain ⟨as, h1, h2⟩ := args_in hT _ _ _ _ (fun t ht => (hlay' t ht).1) (fun j t v ht hv => hval j t v (by simpa using ht) (by simpa using hv)) hA
  refine ((law as h1).out (Im0 W) [] W args (st0 W hK) (Nat.zero_le _) h2).mono fun e W' ⟨v, r, I', ρ', H', he, hst, hr, hstep, hq⟩ => ?_
  subst hq
  have := vr_bool hr
  subst this
  have hbel := hstep.below
  have hlt : ∀ x ∈ before, x.block < W.heap.size := fun x hx => hW'.lt x hx
  have hlen : ds.length = fn.params.size := by
    have key : ∀ (ts : List TypeId) (us : List Value) (ds : List (DataW H)) (ps : List MemPlace), DataW.TrodAll enc P W 0 (fun _ => true) true ts us ds ps → ds.length = ts.length := by
      intro ts
      induction ts with
      | nil => intro us ds ps h; obtain ⟨rfl, rfl, rfl⟩ := trodAll_nil h; rfl
      | cons t ts ih =>
        intro us ds ps h
        cases us with
        | nil => cases ds <;> simp [DataW.TrodAll] at h
        | cons u us =>
          cases ds with
          | nil => simp [DataW.TrodAll] at h
          | cons d ds =>
            obtain ⟨p, q, h1, h2, rfl⟩ := h
            simp [ih us ds q h2]
    simpa using key _ _ _ _ hA
  have hfn' : s.fn H (ds ++ []) = { results := [.lit (.bool true)], args := ds } := by rw [List.append_nil]; exact hfn H ds hlen
  have hRes : ∀ (b : Nat) (sp : Nat → Bool) (hd : Bool), DataW.TrodAll enc P W' b sp hd fn.resultTypes.toList ((Value.bool true).resultList fn.resultTypes.size) (s.fn H (ds ++ [])).results [] := fun b sp hd => by
    rw [hfn', hres]
    exact trodAll_mk1 (shut_bool hb true)
  have hArgs : ∀ sp : Nat → Bool, (∀ p ∈ before, sp p.block = true) → DataW.TrodAll enc P W' 0 sp true fn.params.toList args.toList (s.fn H (ds ++ [])).args before := fun sp hsp => by
    rw [hfn']
    exact trodAll_stays hl _ _ _ _ (fun t ht => (hlay' t ht).2) hA (fun x hx => hbel.same (hlt x hx)) hsp
  have hVars : ∀ sp : Nat → Bool, DataW.TrodVars enc P W' sp s.vars (s.fn H (ds ++ [])).vars [] := fun sp => by
    rw [hfn', hvars]; rfl
  have hok := ok_one (W' := W') hres (v := .bool true) rfl (okWide_bool_mk hb true)
  refine ⟨_, he, ds, [], before, [], before, [], hW', hRes _ _ _, hArgs _ (fun p hp => by simpa using hlt p hp), hVars _, hbel.frame _, fun _ => ?_⟩
  refine ⟨hok, _, _, ([] ++ before) ++ [], ⟨[] ++ before, [], trodAll_append (hArgs _ (fun _ _ => rfl)) (hRes _ _ _), hVars _, rfl, ?_, ?_⟩, ?_⟩
  · intro b off hp
    have hp' : MemPlace.cell b off ∈ before := by simpa using hp
    rw [hbel.frozen (p := ⟨b, off, none⟩) (hlt _ hp')]
    exact hfz b off hp'
  · intro ha
    simpa using hnd ha
  · intro p hp _
    simpa using hp

end Go.Proofs.YtcgpgpbnpjbhhaaPg
