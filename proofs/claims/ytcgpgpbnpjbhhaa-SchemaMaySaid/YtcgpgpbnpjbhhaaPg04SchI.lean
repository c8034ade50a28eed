/- Schemas: the example; the law SchemaMay. -/
import Derived.Test.YtcgpgpbnpjbhhaaPg04SchG
import Derived.Test.YtcgpgpbnpjbhhaaPg04SchH
namespace Go.Proofs.YtcgpgpbnpjbhhaaPg
open Go Go.RowKit
set_option linter.unusedVariables false

variable {Q : V → List O → Prop}

def idS : List UInt8 := [105, 100]
def nameS : List UInt8 := [110, 97, 109, 101]
def exCols : List Col := [⟨idS, 2, false⟩, ⟨nameS, 3, false⟩]

theorem ex_cut1 : applyS exCols 1 4 ⟨idS, 0, false⟩ = ([], 0, 10) := by decide
theorem ex_cut2 : applyS exCols 1 4 ⟨nameS, 0, false⟩ = ([⟨idS, 2, false⟩], 1, 0) := by decide
theorem ex_may : mayS exCols 1 = true := by decide

theorem lives_spec (h : Q (.bool true) []) : ACall Try.prog 13 0 [] [] Q := by
  refine by_body Try.func13 0 rfl (Nat.le_of_ble_eq_true rfl) ?_
  conv => whnf
  refine .frz 0 rfl rfl (by repeat (first | exact trivial | refine And.intro (Nat.le_refl _) ?_)) (.sub [sch exCols 1, chg 4 (.str []) .nils (fI 0) ⟨idS, 0, false⟩] [.dead, .cells [.sl 3 (cols exCols) false, fI 1]] rfl
    (.cons (VSub.agg (.cons (VSub.room 3 _ true) (VSubs.refl _))) (VSubs.refl _)) (.cons (OSub.refl _) (.cons (.cells (.cons (VSub.room 3 _ true) (VSubs.refl _))) .nil))
    (.pure (Apply_spec (by decide) (by decide) ⟨rfl, ?_⟩)))
  rw [ex_cut1]
  conv => whnf
  refine .pure (Apply_spec (l := exCols) (c := ⟨nameS, 0, false⟩) (by decide) (by decide) ⟨rfl, ?_⟩)
  rw [ex_cut2]
  conv => whnf
  refine .pure (May_spec (l := exCols) (by decide) ⟨rfl, ?_⟩)
  rw [ex_may]
  conv => whnf
  refine ⟨_, ⟨by decide, rfl⟩, ?_⟩
  conv => whnf
  exact ⟨[], rfl, h⟩

theorem same_self (l : List Col) (k : Int) : sameS l k l k = true := by simp [sameS]

theorem VSub.of_eq {a b : V} (h : a = b) : VSub a b := by subst h; exact VSub.refl _

theorem frz_cols (a : List Col) (n : Nat) (hn : n = a.length) : VSub (.sl 3 (List.take n (List.drop 0 (cols a))) false) (.sl 3 (cols a) false) :=
  VSub.of_eq (by subst hn; rw [List.drop_zero, List.take_of_length_le (by rw [cols_len]; omega)])

theorem cutL_ok {l : List Col} (hl : ∀ c ∈ l, I64 c.k) : ∀ c ∈ cutL l, I64 c.k := by
  intro c hc
  simp only [cutL, List.mem_map] at hc
  obtain ⟨d, hd, rfl⟩ := hc
  exact hl d (List.mem_of_mem_take hd)

set_option maxHeartbeats 8000000 in
theorem SchemaMay_spec {a b : List Col} {ka kb : Int} {name : List UInt8} (ha : ∀ c ∈ a, I64 c.k) (hka : I64 ka) : ACall Try.prog 4 0 [sch a ka, sch b kb, .str name] [] (fun v _ => v = .bool true) := by
  refine by_body Try.func4 0 rfl (Nat.le_of_ble_eq_true rfl) ?_
  conv => whnf
  have la := cutL_len a
  have lb := cutL_len b
  refine .pure (cut_spec ⟨rfl, ?_⟩)
  conv => whnf
  refine .pure (cut_spec ⟨rfl, ?_⟩)
  conv => whnf
  have ha' := cutL_ok ha
  generalize cutL a = a at *
  generalize cutL b = b at *
  refine branch_i (fun c1 => ?_) (fun c1 => ?_) <;> try rw [c1] <;> conv => whnf
  focus
    refine ⟨⟨by decide, by have := of_decide_eq_true c1; omega⟩, ?_⟩
    conv => whnf
  all_goals
    refine ⟨[0, 2, 1, 3, 4, 5, 6, 8, 7, 9, 10, 11, 12, 13, 14, 16, 17, 15, 18, 19, 20], by kernel_rfl, by kernel_rfl, ?_⟩
    conv => whnf
    refine .pure (Name_spec ⟨rfl, ?_⟩)
    conv => whnf
    refine .pure (RName_spec ⟨rfl, ?_⟩)
    conv => whnf
    rw [beq_self_eq_true]
    conv => whnf
    refine .pure (May_spec (by omega) ⟨rfl, ?_⟩)
    refine ⟨rfl, ?_⟩
    conv => whnf
    refine .pure (RMay_spec (by omega) ⟨rfl, ?_⟩)
    conv => whnf
    rw [beq_self_eq_true]
    conv => whnf
    refine .pure (Find_spec (by omega) ⟨rfl, ?_⟩)
    refine ⟨rfl, ?_⟩
    conv => whnf
    refine .pure (RFind_spec (by omega) ⟨rfl, ?_⟩)
    conv => whnf
    rw [show decide (fnd _ a 0 = fnd _ a 0) = true from decide_eq_true rfl]
    conv => whnf
    refine .call [] 0 ⟨rfl, rfl, rfl⟩ (Clone_spec (by omega) ?_)
    conv => whnf
    refine .frz 2 rfl rfl (by repeat (first | exact trivial | refine And.intro (by rw [cols_len]; omega) ?_)) (.sub [sch a ka] [.cells [.sl 3 (cols a) false, fI ka], .cells [.sl 3 (cols b) false, fI kb], .dead, .cells [.sl 3 (cols a) false, fI ka]] rfl (VSubs.refl _)
      (.cons (OSub.refl _) (.cons (OSub.refl _) (.cons (OSub.refl _) (.cons (.cells (.cons (frz_cols a _ rfl) (VSubs.refl _))) .nil)))) (.pure (RGood_spec hka ⟨rfl, ?_⟩)))
    conv => whnf
    refine ⟨[0, 1, 2, 3, 4, 6, 7, 5, 8, 9, 10, 11, 12, 13, 14, 15, 16, 17, 18, 19, 20, 21, 22, 23, 24], by kernel_rfl, by kernel_rfl, ?_⟩
    conv => whnf
    refine .pure (May_spec (by have := (good_len a ka).2; omega) ⟨rfl, ?_⟩)
    rw [good_may ha' hka]
    conv => whnf
    refine .pure (Same_spec' (by omega) ⟨rfl, ?_⟩)
    refine ⟨rfl, rfl, ?_⟩
    conv => whnf
    refine .pure (RSame_spec (by omega) ⟨rfl, ?_⟩)
    conv => whnf
    rw [beq_self_eq_true]
    conv => whnf
    refine .pure (RSame_spec (by omega) ⟨rfl, ?_⟩)
    rw [same_self]
    conv => whnf
    refine .pure (Same_spec' (by omega) ⟨rfl, ?_⟩)
    rw [same_self]
    conv => whnf
    refine .pure (lives_spec ⟨rfl, ?_⟩)
    conv => whnf
    exact ⟨[], rfl, rfl⟩

theorem cols_of : ∀ {es : List (List V)}, (∀ x ∈ es, ∃ (s : List UInt8) (k : Int) (o : Bool), x = [.str s, .int .i64 k, .bool o] ∧ I64 k) → ∃ l, es = cols l ∧ ∀ c ∈ l, I64 c.k
  | [], _ => ⟨[], rfl, by simp⟩
  | x :: es, h => by
    obtain ⟨s, k, o, rfl, hk⟩ := h x (by simp)
    obtain ⟨l, rfl, hl⟩ := cols_of (es := es) fun y hy => h y (by simp [hy])
    exact ⟨⟨s, k, o⟩ :: l, rfl, by simpa using ⟨hk, hl⟩⟩

theorem i64_wf {k : Int} (h : (Lit.int .i64 k).wf = true) : I64 k := by
  have h' : (decide (IntKind.i64.min ≤ k) && decide (k ≤ IntKind.i64.max)) = true := h
  rw [Bool.and_eq_true] at h'
  exact ⟨of_decide_eq_true h'.1, of_decide_eq_true h'.2⟩

theorem sch_in {vs : List V} (h : Shp tt 8 24 vs) : ∃ l k, argV tt 24 vs = sch l k ∧ (∀ c ∈ l, I64 c.k) ∧ I64 k := by
  obtain ⟨_, _, ⟨es, _, g1, rfl⟩, ⟨_, _, ⟨k, hk, rfl⟩, rfl, rfl⟩, rfl⟩ := h
  obtain ⟨l, rfl, hl⟩ := cols_of fun x hx => by
    obtain ⟨_, _, ⟨s, _, rfl⟩, ⟨_, _, ⟨k, hk, rfl⟩, ⟨_, _, ⟨o, rfl⟩, rfl, rfl⟩, rfl⟩, rfl⟩ := g1 x hx
    exact ⟨s, k, o, rfl, i64_wf hk⟩
  exact ⟨l, k, rfl, hl, i64_wf hk⟩

end Go.Proofs.YtcgpgpbnpjbhhaaPg
