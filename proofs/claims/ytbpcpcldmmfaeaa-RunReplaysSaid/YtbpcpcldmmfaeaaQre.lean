/- What is permitted, and a row of commands. -/
import Derived.Test.YtbpcpcldmmfaeaaQrd
open Go Go.Pe Go.Pe.HM
namespace Go.Proofs.Ytbpcpcldmmfaeaa
set_option maxRecDepth 100000
set_option maxHeartbeats 4000000
set_option linter.unusedSimpArgs false
set_option linter.unusedVariables false
theorem awake (h : H) : CL KR 12 [] h = some (.b true, h) := CL_of (n := 1) rfl
attribute [go_sem] awake
def permL (st : Int) : List Int := if st = 1 then [1] else if st = 2 then [1, 2, 6] else if st = 3 then [2, 3, 6] else if st = 4 then [4, 5] else if st = 5 then [5] else []
noncomputable def permR (st : Int) (es : List Int) (c s k : Int) : List Int := if validB st es c s k = true then permL st else []
theorem valid_st {st : Int} {es : List Int} {c s k : Int} (h : validB st es c s k = true) : st = 1 ∨ st = 2 ∨ st = 3 ∨ st = 4 ∨ st = 5 ∨ st = 6 := by
  unfold validB at h
  split at h <;> (try omega)
  split at h <;> (try omega)
  split at h <;> (try omega)
  cases h
theorem mem_dec {a : Int} {l : List Int} : (a ∈ l) = (l.any (fun x => decide (x = a)) = true) := by simp
theorem R0_slE {b k : Nat} {tg own : Bool} {x : Nat} {t : T PO} {xs : List Int} (hg : t.get b = some (.cells (ints xs) own)) (hl : xs.length = k) :
    ∃ v, (∃ b1 z1, (b1 || Nat.beq z1 1) = true ∧ v = .fl b1 z1 (ints xs)) ∧ R0 v (.sl b 0 k 1 tg) ⟨x, t⟩ := by
  refine ⟨_, ⟨false, 1, rfl, rfl⟩, ?_⟩
  rw [R0_sl1 hg (ints_pl xs) (by rw [ints_len]; exact hl)]
theorem permitted (st : Int) (b : Bool) (z : Nat) (es : List Int) (c s k : Int) (hz : (b || Nat.beq z 1) = true) : ∃ v, (∃ b1 z1, (b1 || Nat.beq z1 1) = true ∧ v = .fl b1 z1 (ints (permR st es c s k))) ∧ ∀ h, CL KR 19 [.agg [.i .i64 st, .fl b z (ints es), .i .i64 c, .i .i64 s, .i .i64 k]] h = some (v, h) := by
  refine law0ex 25 rfl Try.func19 rfl rfl (by kernel_rfl) ?_
  by_cases hv : validB st es c s k = true
  · have hst := valid_st hv
    have e1 : permR st es c s k = permL st := by simp [permR, hv]
    rw [e1]
    rcases hst with rfl | rfl | rfl | rfl | rfl | rfl
    all_goals (
      repeat' (first | (rewrite [SplitP_leq]; rotate_left; omega) | (rewrite [SplitP_req]; rotate_left; omega) | (rewrite [SplitP_and]; refine ⟨fun hp => ?_, fun hp => ?_⟩) | (rewrite [SplitB_leq]; rotate_left; assumption) | (rewrite [SplitB_req]; rotate_left; assumption) | (rewrite [SplitB_and]; refine ⟨fun hp => ?_, fun hp => ?_⟩) | simp (disch := first | omega | assumption | (simp only [List.all_cons, List.all_nil, pl, pl1, Bool.and_self, Nat.reduceBEq, Bool.false_or, Bool.true_or, Bool.or_self, Nat.beq_refl, List.length_cons, List.length_nil, Nat.reduceAdd, Nat.reduceLT, Nat.zero_add] <;> fail) | fail) only [go_sem, ↓reduceIte, hv, hz, transV, List.mem_cons, List.not_mem_nil, or_false, or_true, Int.reduceEq] | (rewrite [evE_loop]) | fail)
      first
        | exact ⟨_, ⟨true, 0, rfl, rfl⟩, rfl⟩
        | (refine R0_slE (own := true) ?_ (by simp [permL])
           simp [T.get_set, T.get_del, permL, ints]))
  · simp only [Bool.not_eq_true] at hv
    have e1 : permR st es c s k = [] := by simp [permR, hv]
    rw [e1]
    repeat' (first | (rewrite [SplitP_leq]; rotate_left; omega) | (rewrite [SplitP_req]; rotate_left; omega) | (rewrite [SplitP_and]; refine ⟨fun hp => ?_, fun hp => ?_⟩) | (rewrite [SplitB_leq]; rotate_left; assumption) | (rewrite [SplitB_req]; rotate_left; assumption) | (rewrite [SplitB_and]; refine ⟨fun hp => ?_, fun hp => ?_⟩) | simp (disch := first | omega | assumption | (simp only [List.all_cons, List.all_nil, pl, pl1, Bool.and_self, Nat.reduceBEq, Bool.false_or, Bool.true_or, Bool.or_self, Nat.beq_refl, List.length_cons, List.length_nil, Nat.reduceAdd, Nat.reduceLT, Nat.zero_add] <;> fail) | fail) only [go_sem, ↓reduceIte, hv, hz] | fail)
    exact ⟨_, ⟨true, 0, rfl, rfl⟩, rfl⟩
theorem permittedR (st : Int) (b : Bool) (z : Nat) (es : List Int) (c s k : Int) (hz : (b || Nat.beq z 1) = true) : ∃ v, (∃ b1 z1, (b1 || Nat.beq z1 1) = true ∧ v = .fl b1 z1 (ints (permR st es c s k))) ∧ ∀ h, CL KR 20 [.agg [.i .i64 st, .fl b z (ints es), .i .i64 c, .i .i64 s, .i .i64 k]] h = some (v, h) := by
  refine law0ex 21 rfl Try.func20 rfl rfl (by kernel_rfl) ?_
  by_cases hv : validB st es c s k = true
  · have hst := valid_st hv
    have e1 : permR st es c s k = permL st := by simp [permR, hv]
    rw [e1]
    rcases hst with rfl | rfl | rfl | rfl | rfl | rfl
    all_goals (
      repeat' (first | (rewrite [SplitP_leq]; rotate_left; omega) | (rewrite [SplitP_req]; rotate_left; omega) | (rewrite [SplitP_and]; refine ⟨fun hp => ?_, fun hp => ?_⟩) | (rewrite [SplitB_leq]; rotate_left; assumption) | (rewrite [SplitB_req]; rotate_left; assumption) | (rewrite [SplitB_and]; refine ⟨fun hp => ?_, fun hp => ?_⟩) | simp (disch := first | omega | assumption | (simp only [List.all_cons, List.all_nil, pl, pl1, Bool.and_self, Nat.reduceBEq, Bool.false_or, Bool.true_or, Bool.or_self, Nat.beq_refl, List.length_cons, List.length_nil, Nat.reduceAdd, Nat.reduceLT, Nat.zero_add] <;> fail) | fail) only [go_sem, ↓reduceIte, hv, hz, mayB, Int.reduceEq, or_false, or_true, false_or, true_or, if_true, if_false] | (rewrite [evE_loop]) | fail)
      first
        | exact ⟨_, ⟨true, 0, rfl, rfl⟩, rfl⟩
        | (refine R0_slE (own := true) ?_ (by simp [permL])
           simp [T.get_set, T.get_del, permL, ints]))
  · simp only [Bool.not_eq_true] at hv
    have e1 : permR st es c s k = [] := by simp [permR, hv]
    rw [e1]
    repeat' (first | (rewrite [SplitP_leq]; rotate_left; omega) | (rewrite [SplitP_req]; rotate_left; omega) | (rewrite [SplitP_and]; refine ⟨fun hp => ?_, fun hp => ?_⟩) | (rewrite [SplitB_leq]; rotate_left; assumption) | (rewrite [SplitB_req]; rotate_left; assumption) | (rewrite [SplitB_and]; refine ⟨fun hp => ?_, fun hp => ?_⟩) | simp (disch := first | omega | assumption | (simp only [List.all_cons, List.all_nil, pl, pl1, Bool.and_self, Nat.reduceBEq, Bool.false_or, Bool.true_or, Bool.or_self, Nat.beq_refl, List.length_cons, List.length_nil, Nat.reduceAdd, Nat.reduceLT, Nat.zero_add] <;> fail) | fail) only [go_sem, ↓reduceIte, hv, hz] | fail)
    exact ⟨_, ⟨true, 0, rfl, rfl⟩, rfl⟩
end Go.Proofs.Ytbpcpcldmmfaeaa
