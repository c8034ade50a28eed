/- The tree's keys, so many at a time. -/
import Derived.Test.YtfhoblpcneachaaPg09Tree
namespace Go.Proofs.YtfhoblpcneachaaPg
open Go Go.RowKit
set_option linter.unusedVariables false

variable {Q : V → List O → Prop}

/-- Where the keys told so far lie. -/
def outH3 (c : LoopC) (st : LSt) (e : Env) (after : List UInt8) (most : Int) (es : List (List V)) : List O :=
  match es with
  | [] => [.loop c st e, .cells [.nils], .cells [.str after], .cells [fI most]]
  | x :: r => [.loop c st e, .cells [.ms 1 4 0 (x :: r).length false], .cells [.str after], .cells [fI most], .buf (x :: r)]

theorem strs_len (l : List (List UInt8)) : (strs l).length = l.length := by simp [strs]
theorem strs_app (a b : List (List UInt8)) : strs (a ++ b) = strs a ++ strs b := by simp [strs]

def keysOf (after : List UInt8) (pre : List (List V)) : List (List UInt8) :=
  (pre.map fun x => match x with | .str k :: _ => k | _ => []).filter (behindB after)

theorem keysOf_enc (after : List UInt8) (l : List (List UInt8 × Int)) : keysOf after (encKV fI l) = (l.map (·.1)).filter (behindB after) := by
  unfold keysOf encKV
  rw [List.map_map]
  rfl

theorem keysOf_mid (after : List UInt8) (pre : List (List V)) (kx : List UInt8) (r : List V) (post : List (List V)) : keysOf after (pre ++ (.str kx :: r) :: post) = keysOf after pre ++ ((if behindB after kx then [kx] else []) ++ keysOf after post) := by
  simp only [keysOf, List.map_append, List.filter_append, List.map_cons]
  congr 1
  rw [List.filter_cons]
  cases h : behindB after kx <;> simp

theorem keysOf_snoc (after : List UInt8) (pre : List (List V)) (kx : List UInt8) (r : List V) : keysOf after (pre ++ [.str kx :: r]) = keysOf after pre ++ (if behindB after kx then [kx] else []) := by
  rw [keysOf_mid]; simp [keysOf]

theorem take_stop {α : Type} {a b : List α} {m : Nat} (h1 : a.length ≤ m) (h2 : m ≤ a.length) : (a ++ b).take m = a := by
  have : m = a.length := by omega
  subst this; simp

abbrev envK : Env := [(4, .ptr 2 0), (5, .ptr 3 0), (7, .ptr 1 0)]
def KJ (c : LoopC) (after : List UInt8) (most : Int) (pre : List (List V)) (Hs : List O) : Prop := (keysOf after pre).length ≤ most.toNat ∧ Hs = outH3 c .ready envK after most (strs (keysOf after pre))
def KS (c : LoopC) (after : List UInt8) (most : Int) (ks : List (List UInt8)) (Hs : List O) : Prop := Hs = outH3 c (.exit 0) envK after most (strs ks)
def KE (c : LoopC) (after : List UInt8) (most : Int) (ks : List (List UInt8)) (Hs : List O) : Prop := ∃ st, (st = .ready ∨ st = .exit 0) ∧ Hs = outH3 c st envK after most (strs ks)

theorem Keys_spec {t : Tr Int} {n most : Int} {after : List UInt8} (hm : most < 4398046511104) (h : Q (.sl 1 (strs (keysT after most t)) false) [treeO t n]) :
    ACall Try.prog 12 1 [.ptr 0 0, .str after, fI most] [treeO t n] Q := by
  refine ACall.sub (ACall.ret (by_body Try.func12 1 rfl (Nat.le_of_ble_eq_true rfl) ?_))
  conv => whnf
  refine .call [0] 1 ⟨rfl, rfl, rfl⟩ (From_spec ?_)
  conv => whnf
  refine ⟨[4, 5, 7], fun c hc => .pack [6, 3, 1, 2] [0, 4, 5] 4 (KJ c after most []) (KE c after most (keysT after most t)) rfl ⟨Nat.zero_le _, rfl⟩ fun ks B hks => ?_⟩
  have hkeys : keysT after most t = (keysOf after (encKV fI (fromL after t))).take most.toNat := by rw [keysOf_enc]; rfl
  refine From1_spec (J := KJ c after most) (S := KS c after most (keysT after most t)) (J' := KE c after most (keysT after most t)) (yieldS_intro ?_ ?_) ?_ ?_ ?_
  · intro x hx
    simp only [encKV, List.mem_map] at hx
    obtain ⟨kv, _, rfl⟩ := hx
    rfl
  · rintro pre x post Hs hp ⟨hle, rfl⟩
    obtain ⟨kx, vx, rfl⟩ : ∃ kx vx, x = [.str kx, fI vx] := by
      have hx : x ∈ encKV fI (fromL after t) := by rw [← hp]; simp
      simp only [encKV, List.mem_map] at hx
      obtain ⟨kv, _, rfl⟩ := hx
      exact ⟨_, _, rfl⟩
    have happ := keysOf_snoc after pre kx [fI vx]
    have hfull : keysT after most t = (keysOf after pre ++ ((if behindB after kx then [kx] else []) ++ keysOf after post)).take most.toNat := by
      rw [hkeys, ← hp, keysOf_mid]
    rw [hks]
    subst hc
    refine ayield_intro (cx_ok 0 0) ?_
    have hlen := strs_len (keysOf after pre)
    have hadd : ∀ c Hs, behindB after kx = true → (keysOf after pre).length < most.toNat → Hs = outH3 c .ready envK after most (strs (keysOf after pre) ++ [[.str kx]]) → KJ c after most (pre ++ [[.str kx, fI vx]]) Hs := fun c Hs hb hl hh => by
      refine ⟨by rw [happ, hb]; simp; omega, ?_⟩
      rw [happ, hb, strs_app]; exact hh
    have hskip : ∀ c Hs, behindB after kx = false → Hs = outH3 c .ready envK after most (strs (keysOf after pre)) → KJ c after most (pre ++ [[.str kx, fI vx]]) Hs := fun c Hs hb hh => by
      refine ⟨by rw [happ, hb]; simpa using hle, ?_⟩
      rw [happ, hb]; simpa using hh
    have hstop : ∀ c Hs, most.toNat ≤ (keysOf after pre).length → Hs = outH3 c (.exit 0) envK after most (strs (keysOf after pre)) → KS c after most (keysT after most t) Hs := fun c Hs hm hh => by
      rw [hfull, take_stop hle hm]; exact hh
    generalize hes : strs (keysOf after pre) = es at *
    cases es with
    | nil =>
      simp only [List.length_nil] at hlen
      conv => whnf
      refine branch_i (fun c => ?_) (fun c => ?_) <;> try rw [c] <;> conv => whnf
      · have c' := of_decide_eq_true c
        exact .done [0, 1, 2, 3] rfl (.inr ⟨rfl, hstop _ _ (by omega) rfl⟩)
      · have c' := of_decide_eq_false c
        by_cases ha : after = []
        · rw [show decide (after = []) = true by simp [ha]]
          conv => whnf
          refine ⟨Nat.le_refl _, ?_⟩
          conv => whnf
          refine ⟨(show (1 : Nat) * 16 ≤ 70368744177664 by decide), ?_⟩
          conv => whnf
          exact .done [0, 1, 2, 3, 5] rfl (.inl ⟨rfl, hadd _ _ (by simp [behindB, ha]) (by omega) rfl⟩)
        · rw [show decide (after = []) = false by simp [ha]]
          conv => whnf
          by_cases hb : kx = after
          · rw [show decide (kx = after) = true by simp [hb]]
            conv => whnf
            exact .done [0, 1, 2, 3] rfl (.inl ⟨rfl, hskip _ _ (by simp [behindB, ha, hb]) rfl⟩)
          · rw [show decide (kx = after) = false by simp [hb]]
            conv => whnf
            refine ⟨Nat.le_refl _, ?_⟩
            conv => whnf
            refine ⟨(show (1 : Nat) * 16 ≤ 70368744177664 by decide), ?_⟩
            conv => whnf
            exact .done [0, 1, 2, 3, 5] rfl (.inl ⟨rfl, hadd _ _ (by simp [behindB, ha, hb]) (by omega) rfl⟩)
    | cons y r =>
      simp only [List.length_cons] at hlen
      conv => whnf
      refine branch_i (fun c => ?_) (fun c => ?_) <;> try rw [c] <;> conv => whnf
      · have c' := of_decide_eq_true c
        simp only [List.length_cons] at c'
        exact .done [0, 1, 2, 3, 4] rfl (.inr ⟨rfl, hstop _ _ (by omega) rfl⟩)
      · have c' := of_decide_eq_false c
        simp only [List.length_cons] at c'
        by_cases ha : after = []
        · rw [show decide (after = []) = true by simp [ha]]
          conv => whnf
          refine ⟨Nat.le_refl _, ?_⟩
          conv => whnf
          refine ⟨by simp, ?_⟩
          conv => whnf
          refine ⟨(show (y :: (r ++ [[V.str kx]])).length * 16 ≤ 70368744177664 by simp only [List.length_cons, List.length_append, List.length_nil]; omega), ?_⟩
          conv => whnf
          exact .done [0, 1, 2, 3, 6] rfl (.inl ⟨rfl, hadd _ _ (by simp [behindB, ha]) (by omega) rfl⟩)
        · rw [show decide (after = []) = false by simp [ha]]
          conv => whnf
          by_cases hb : kx = after
          · rw [show decide (kx = after) = true by simp [hb]]
            conv => whnf
            exact .done [0, 1, 2, 3, 4] rfl (.inl ⟨rfl, hskip _ _ (by simp [behindB, ha, hb]) rfl⟩)
          · rw [show decide (kx = after) = false by simp [hb]]
            conv => whnf
            refine ⟨Nat.le_refl _, ?_⟩
            conv => whnf
            refine ⟨by simp, ?_⟩
            conv => whnf
            refine ⟨(show (y :: (r ++ [[V.str kx]])).length * 16 ≤ 70368744177664 by simp only [List.length_cons, List.length_append, List.length_nil]; omega), ?_⟩
            conv => whnf
            exact .done [0, 1, 2, 3, 6] rfl (.inl ⟨rfl, hadd _ _ (by simp [behindB, ha, hb]) (by omega) rfl⟩)
  · rintro Hs ⟨hle, rfl⟩
    refine ⟨.ready, .inl rfl, ?_⟩
    rw [hkeys, List.take_of_length_le hle]
  · rintro Hs rfl
    exact ⟨_, .inr rfl, rfl⟩
  · intro B'
    refine ⟨B', _, rfl, rfl, ?_⟩
    rintro Hs ⟨st, hst, rfl⟩ _
    generalize strs (keysT after most t) = es at *
    cases es with
    | nil =>
      rcases hst with rfl | rfl
      · conv => whnf
        refine ⟨[0], rfl, ?_⟩
        exact .done [0] rfl ⟨_, _, VSub.nils 1 false, HSub.refl _, h⟩
      · conv => whnf
        refine ⟨[0], rfl, ?_⟩
        exact .done [0] rfl ⟨_, _, VSub.nils 1 false, HSub.refl _, h⟩
    | cons k l =>
      rcases hst with rfl | rfl
      · conv => whnf
        refine ⟨[0, 7], rfl, ?_⟩
        exact .frz_ms (id := 1) (es := k :: l) (z := 1) (c := false) rfl rfl trivial (.done [0] rfl ⟨_, _, .refl _, HSub.refl _, h⟩)
      · conv => whnf
        refine ⟨[0, 7], rfl, ?_⟩
        exact .frz_ms (id := 1) (es := k :: l) (z := 1) (c := false) rfl rfl trivial (.done [0] rfl ⟨_, _, .refl _, HSub.refl _, h⟩)

end Go.Proofs.YtfhoblpcneachaaPg
