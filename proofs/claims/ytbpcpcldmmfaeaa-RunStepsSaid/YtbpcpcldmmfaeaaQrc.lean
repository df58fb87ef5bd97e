/- The runs' steps and what is permitted. -/
import Derived.Test.YtbpcpcldmmfaeaaQrb
open Go Go.Pe Go.Pe.HM
namespace Go.Proofs.Ytbpcpcldmmfaeaa
set_option maxRecDepth 100000
set_option maxHeartbeats 4000000
set_option linter.unusedSimpArgs false
set_option linter.unusedVariables false
/-- a run as it must be -/
noncomputable def validB (st : Int) (es : List Int) (c s k : Int) : Bool := if st = 1 then decide (es.length = 0) && zeroC c s k else if st = 2 then empB es && zeroC c s k else if st = 3 ∨ st = 4 ∨ st = 5 ∨ st = 6 then empB es && (valC c s k && decide (c ≤ (es.length : Int))) else false
theorem validA (st : Int) (b : Bool) (z : Nat) (es : List Int) (c s k : Int) (hz : (b || Nat.beq z 1) = true) (h : H) : CL KR 11 [.agg [.i .i64 st, .fl b z (ints es), .i .i64 c, .i .i64 s, .i .i64 k]] h = some (.b (validB st es c s k), h) := by
  refine law0' 44 rfl Try.func11 rfl rfl (by kernel_rfl) ?_
  repeat' (first | (rewrite [SplitP_leq]; rotate_left; omega) | (rewrite [SplitP_req]; rotate_left; omega) | (rewrite [SplitP_and]; refine ⟨fun hp => ?_, fun hp => ?_⟩) | (rewrite [SplitB_leq]; rotate_left; assumption) | (rewrite [SplitB_req]; rotate_left; assumption) | (rewrite [SplitB_and]; refine ⟨fun hp => ?_, fun hp => ?_⟩) | simp (disch := first | omega | assumption | (simp only [List.all_cons, List.all_nil, pl, pl1, Bool.and_self, Nat.reduceBEq, Bool.false_or, Bool.true_or, Bool.or_self, Nat.beq_refl, List.length_cons, List.length_nil, Nat.reduceAdd, Nat.reduceLT, Nat.zero_add] <;> fail) | fail) only [go_sem, ↓reduceIte, hz] | fail)
  all_goals (first | (simp_all [validB, zeroC]; done) | (simp [validB, zeroC]; omega) | grind [validB, zeroC])
theorem zero_val {c s k : Int} (h : c = 0 ∧ s = 0 ∧ k = 0) : valC c s k = true := by
  obtain ⟨rfl, rfl, rfl⟩ := h
  exact valC0
theorem validR (st : Int) (b : Bool) (z : Nat) (es : List Int) (c s k : Int) (hz : (b || Nat.beq z 1) = true) (h : H) : CL KR 22 [.agg [.i .i64 st, .fl b z (ints es), .i .i64 c, .i .i64 s, .i .i64 k]] h = some (.b (validB st es c s k), h) := by
  refine law0' 53 rfl Try.func22 rfl rfl (by kernel_rfl) ?_
  by_cases hzc : c = 0 ∧ s = 0 ∧ k = 0
  · have hv := zero_val hzc
    obtain ⟨rfl, rfl, rfl⟩ := hzc
    repeat' (first | (rewrite [SplitP_leq]; rotate_left; omega) | (rewrite [SplitP_req]; rotate_left; omega) | (rewrite [SplitP_and]; refine ⟨fun hp => ?_, fun hp => ?_⟩) | (rewrite [SplitB_leq]; rotate_left; assumption) | (rewrite [SplitB_req]; rotate_left; assumption) | (rewrite [SplitB_and]; refine ⟨fun hp => ?_, fun hp => ?_⟩) | simp (disch := first | omega | assumption | (simp only [List.all_cons, List.all_nil, pl, pl1, Bool.and_self, Nat.reduceBEq, Bool.false_or, Bool.true_or, Bool.or_self, Nat.beq_refl, List.length_cons, List.length_nil, Nat.reduceAdd, Nat.reduceLT, Nat.zero_add] <;> fail) | fail) only [go_sem, ↓reduceIte, hz] | fail)
    all_goals (first | (simp_all [validB, zeroC]; done) | (simp [validB, zeroC]; omega) | grind [validB, zeroC])
  · repeat' (first | (rewrite [SplitP_leq]; rotate_left; omega) | (rewrite [SplitP_req]; rotate_left; omega) | (rewrite [SplitP_and]; refine ⟨fun hp => ?_, fun hp => ?_⟩) | (rewrite [SplitB_leq]; rotate_left; assumption) | (rewrite [SplitB_req]; rotate_left; assumption) | (rewrite [SplitB_and]; refine ⟨fun hp => ?_, fun hp => ?_⟩) | simp (disch := first | omega | assumption | (simp only [List.all_cons, List.all_nil, pl, pl1, Bool.and_self, Nat.reduceBEq, Bool.false_or, Bool.true_or, Bool.or_self, Nat.beq_refl, List.length_cons, List.length_nil, Nat.reduceAdd, Nat.reduceLT, Nat.zero_add] <;> fail) | fail) only [go_sem, ↓reduceIte, hz] | fail)
    all_goals (first | (simp_all [validB, zeroC]; done) | (simp [validB, zeroC]; omega) | grind [validB, zeroC])
attribute [go_sem] validA validR
def transV : PV := .agg [.fl true 0 (ints []), .i .i64 0, .fl false 1 (ints [1, 2]), .i .i64 2, .fl false 1 (ints [2, 3]), .i .i64 3, .fl false 1 (ints [3]), .i .i64 4, .fl false 1 (ints [4]), .i .i64 5, .fl false 1 (ints [4, 5]), .i .i64 6, .fl false 1 (ints [2, 3]), .i .i64 1]
theorem trans (h : H) : CL KR 24 [] h = some (transV, h) := by
  refine law0' 14 rfl Try.func24 rfl rfl (by kernel_rfl) ?_
  repeat' (first | (rewrite [SplitP_leq]; rotate_left; omega) | (rewrite [SplitP_req]; rotate_left; omega) | (rewrite [SplitP_and]; refine ⟨fun hp => ?_, fun hp => ?_⟩) | (rewrite [SplitB_leq]; rotate_left; assumption) | (rewrite [SplitB_req]; rotate_left; assumption) | (rewrite [SplitB_and]; refine ⟨fun hp => ?_, fun hp => ?_⟩) | simp (disch := first | omega | assumption | (simp only [List.all_cons, List.all_nil, pl, pl1, Bool.and_self, Nat.reduceBEq, Bool.false_or, Bool.true_or, Bool.or_self, Nat.beq_refl, List.length_cons, List.length_nil, Nat.reduceAdd, Nat.reduceLT, Nat.zero_add] <;> fail) | fail) only [go_sem, ↓reduceIte] | fail)
  exact ⟨_, rfl⟩
theorem mod (v n : Int) (h1 : -9223372036854775808 ≤ v) (h2 : v < 9223372036854775808) (h3 : 0 < n) (h4 : n < 9223372036854775808) (h : H) : CL KR 9 [.i .i64 v, .i .i64 n] h = some (.i .i64 (v.emod n), h) := by
  refine law0' 14 rfl Try.func9 rfl rfl (by kernel_rfl) ?_
  have hn0 : ¬ n = 0 := by omega
  have hlt := Int.tmod_lt_of_pos v h3
  have hge := Int.lt_tmod_of_pos v h3
  repeat' (first | (rewrite [SplitP_leq]; rotate_left; omega) | (rewrite [SplitP_req]; rotate_left; omega) | (rewrite [SplitP_and]; refine ⟨fun hp => ?_, fun hp => ?_⟩) | (rewrite [SplitB_leq]; rotate_left; assumption) | (rewrite [SplitB_req]; rotate_left; assumption) | (rewrite [SplitB_and]; refine ⟨fun hp => ?_, fun hp => ?_⟩) | simp (disch := first | omega | assumption | (simp only [List.all_cons, List.all_nil, pl, pl1, Bool.and_self, Nat.reduceBEq, Bool.false_or, Bool.true_or, Bool.or_self, Nat.beq_refl, List.length_cons, List.length_nil, Nat.reduceAdd, Nat.reduceLT, Nat.zero_add] <;> fail) | fail) only [go_sem, ↓reduceIte, hn0, wrap_id] | fail)
  all_goals
    have e := Int.tmod_eq_emod (a := v) (b := n)
    have h5 := Int.emod_nonneg v (b := n) (by omega)
    have h6 := Int.emod_lt_of_pos v h3
    have h7 : (n.natAbs : Int) = n := by omega
    rw [show v.emod n = v % n from rfl]
    by_cases hc : 0 ≤ v ∨ n ∣ v
    · rw [if_pos hc] at e; omega
    · rw [if_neg hc] at e; omega
attribute [go_sem] trans
theorem lstC {b : Bool} {z : Nat} {es : List Int} (h : b = true → es = []) (he : es ≠ []) (hz : (b || Nat.beq z 1) = true) : b = false ∧ z = 1 := by
  cases b with
  | true => exact absurd (h rfl) he
  | false => exact ⟨rfl, Nat.eq_of_beq_eq_true (by simpa using hz)⟩
/-- whether runs are equal -/
theorem same (st : Int) (b : Bool) (z : Nat) (es : List Int) (c s k : Int) (st' : Int) (b' : Bool) (z' : Nat) (es' : List Int) (c' s' k' : Int) (hz : (b || Nat.beq z 1) = true) (hz' : (b' || Nat.beq z' 1) = true) (hl : es.length < 1000000) (h : H) :
    CL KR 16 [.agg [.i .i64 st, .fl b z (ints es), .i .i64 c, .i .i64 s, .i .i64 k], .agg [.i .i64 st', .fl b' z' (ints es'), .i .i64 c', .i .i64 s', .i .i64 k']] h = some (.b (decide (st = st' ∧ es = es' ∧ c = c' ∧ s = s' ∧ k = k')), h) := by
  refine law0' 45 rfl Try.func16 rfl rfl (by kernel_rfl) ?_
  by_cases h1 : st = st' ∧ (c = c' ∧ s = s' ∧ k = k') ∧ es.length = es'.length
  · obtain ⟨rfl, ⟨rfl, rfl, rfl⟩, hl'⟩ := h1
    repeat' (first | (rewrite [SplitP_leq]; rotate_left; omega) | (rewrite [SplitP_req]; rotate_left; omega) | (rewrite [SplitP_and]; refine ⟨fun hp => ?_, fun hp => ?_⟩) | (rewrite [SplitB_leq]; rotate_left; assumption) | (rewrite [SplitB_req]; rotate_left; assumption) | (rewrite [SplitB_and]; refine ⟨fun hp => ?_, fun hp => ?_⟩) | simp (disch := first | omega | assumption | (simp only [List.all_cons, List.all_nil, pl, pl1, Bool.and_self, Nat.reduceBEq, Bool.false_or, Bool.true_or, Bool.or_self, Nat.beq_refl, List.length_cons, List.length_nil, Nat.reduceAdd, Nat.reduceLT, Nat.zero_add] <;> fail) | fail) only [go_sem, ↓reduceIte, hl'] | (rewrite [evE_drawP 6 [0, 1, 2, 3, 4, 5, 6, 7, 8, 9, 10]]; rotate_left; kernel_rfl; kernel_rfl; kernel_rfl))
    refine Ev_loop (fun r tm h' => ∃ j : Nat, r = es.length - j ∧ j ≤ es.length ∧ tm.get 2 = some (.p 1024 0) ∧ tm.get 3 = some (.p 1025 0) ∧ tm.get 5 = some (.i .i64 (j : Int)) ∧ (∀ i, i < j → es.getD i 0 = es'.getD i 0) ∧ 1026 ≤ h'.next ∧ h'.tab = T.set (.cells [.i .i64 st, .fl b' z' (ints es'), .i .i64 c, .i .i64 s, .i .i64 k] true) (T.set (.cells [.i .i64 st, .fl b z (ints es), .i .i64 c, .i .i64 s, .i .i64 k] true) T.e 1024) 1025) ?_ es.length ?_
    · rintro r tm ⟨n, t⟩ ⟨j, rfl, hj, g2, g3, g5, hno, hn, rfl⟩
      simp only at hn
      repeat' (first | (rewrite [SplitP_leq]; rotate_left; omega) | (rewrite [SplitP_req]; rotate_left; omega) | (rewrite [SplitP_and]; refine ⟨fun hp => ?_, fun hp => ?_⟩) | (rewrite [SplitB_leq]; rotate_left; assumption) | (rewrite [SplitB_req]; rotate_left; assumption) | (rewrite [SplitB_and]; refine ⟨fun hp => ?_, fun hp => ?_⟩) | simp (disch := first | omega | assumption | (simp only [List.all_cons, List.all_nil, pl, pl1, Bool.and_self, Nat.reduceBEq, Bool.false_or, Bool.true_or, Bool.or_self, Nat.beq_refl, List.length_cons, List.length_nil, Nat.reduceAdd, Nat.reduceLT, Nat.zero_add] <;> fail) | fail) only [go_sem, ↓reduceIte, g2, g3, g5, hz, hz'] | (rewrite [evE_drawP 6 [0, 1, 2, 3, 4, 5, 6, 7, 8, 9, 10]]; rotate_left; kernel_rfl; kernel_rfl; kernel_rfl))
      · refine ⟨es.length - (j + 1), by omega, j + 1, rfl, by omega, rfl, fun i hi => ?_, by omega⟩
        by_cases hij : i = j
        · rw [hij]; exact hp
        · exact hno i (by omega)
      · simp
        intro e; exact hp (by rw [e])
      · have : es = es' := List.ext_getElem hl' fun i h1 h2 => by
          have := hno i (by omega)
          simpa [h1, h2] using this
        simp [this]
    · refine ⟨0, by omega, by omega, ?_⟩
      simp [T.get_set, get_e]
  · have h2 : decide (st = st' ∧ es = es' ∧ c = c' ∧ s = s' ∧ k = k') = false := by
      simp only [decide_eq_false_iff_not]
      rintro ⟨rfl, rfl, rfl, rfl, rfl⟩
      exact h1 ⟨rfl, ⟨rfl, rfl, rfl⟩, rfl⟩
    rw [h2]
    repeat' (first | (rewrite [SplitP_leq]; rotate_left; omega) | (rewrite [SplitP_req]; rotate_left; omega) | (rewrite [SplitP_and]; refine ⟨fun hp => ?_, fun hp => ?_⟩) | (rewrite [SplitB_leq]; rotate_left; assumption) | (rewrite [SplitB_req]; rotate_left; assumption) | (rewrite [SplitB_and]; refine ⟨fun hp => ?_, fun hp => ?_⟩) | simp (disch := first | omega | assumption | (simp only [List.all_cons, List.all_nil, pl, pl1, Bool.and_self, Nat.reduceBEq, Bool.false_or, Bool.true_or, Bool.or_self, Nat.beq_refl, List.length_cons, List.length_nil, Nat.reduceAdd, Nat.reduceLT, Nat.zero_add] <;> fail) | fail) only [go_sem, ↓reduceIte] | (rewrite [evE_drawP 6 [0, 1, 2, 3, 4, 5, 6, 7, 8, 9, 10]]; rotate_left; kernel_rfl; kernel_rfl; kernel_rfl))
    all_goals (exact absurd ⟨by assumption, by assumption, by omega⟩ h1)
attribute [go_sem] same
/-- what a command makes of a run, or the error -/
noncomputable def stepE (st : Int) (es : List Int) (c s k kd : Int) (es' : List Int) (c' s' k' : Int) : Int :=
  if validB st es c s k = false ∨ formB kd es'.length c' s' k' = false then 1 else if mayB st kd = false then 15
  else if kd = 1 ∧ empB es' = false then 2 else if kd = 2 ∧ (valC c' s' k' && decide (c' ≤ (es.length : Int))) = false then 2 else if (kd = 3 ∨ kd = 4) ∧ ¬ (c' = c ∧ s' = s ∧ k' = k) then 17 else 0
noncomputable def stepS (st : Int) (es : List Int) (c s k kd : Int) (es' : List Int) (c' s' k' : Int) : Int × List Int × Int × Int × Int :=
  if ¬ stepE st es c s k kd es' c' s' k' = 0 then (0, [], 0, 0, 0) else if kd = 1 then (2, es', c, s, k) else if kd = 2 then (3, es, c', s', k') else if kd = 3 then (4, es, c, s, k) else if kd = 4 then (5, es, c, s, k) else if kd = 5 then (6, es, c, s, k) else (1, [], 0, 0, 0)
theorem ints_nil : ints [] = [] := rfl
def rvR (b : Bool) (z : Nat) (r : Int × List Int × Int × Int × Int) : PV := runV r.1 b z r.2.1 r.2.2.1 r.2.2.2.1 r.2.2.2.2
theorem beqC {b : Bool} {z : Nat} (h : (b || Nat.beq z 1) = true) : (b || Nat.beq 1 z) = true := by
  cases b with
  | true => rfl
  | false =>
    simp only [Bool.false_or] at h ⊢
    obtain rfl := Nat.eq_of_beq_eq_true h
    rfl
theorem emp_pos {es : List Int} (h : empB es = true) : 0 < es.length := by
  have : Emp es := by simpa [empB] using h
  exact List.length_pos_iff.2 this.1
theorem step (st : Int) (b : Bool) (z : Nat) (es : List Int) (c s k : Int) (kd : Int) (b' : Bool) (z' : Nat) (es' : List Int) (c' s' k' : Int) (hz : (b || Nat.beq z 1) = true) (hb : b = true → es = []) (hl : es.length < 1000000) (hz' : (b' || Nat.beq z' 1) = true) (hb' : b' = true → es' = []) (hl' : es'.length < 1000000) :
    ∃ b1 z1, (b1 || Nat.beq z1 1) = true ∧ (b1 = true → (stepS st es c s k kd es' c' s' k').2.1 = []) ∧ ∀ h, CL KR 10 [.agg [.i .i64 st, .fl b z (ints es), .i .i64 c, .i .i64 s, .i .i64 k], .agg [.i .i64 kd, .fl b' z' (ints es'), .i .i64 c', .i .i64 s', .i .i64 k']] h = some (.tup [rvR b1 z1 (stepS st es c s k kd es' c' s' k'), .i .i64 (stepE st es c s k kd es' c' s' k')], h) := by
  by_cases hv : validB st es c s k = false
  · refine ⟨true, 0, rfl, fun _ => by simp_all [stepS, stepE], fun h => ?_⟩
    refine law0' 77 rfl Try.func10 rfl rfl (by kernel_rfl) ?_
    repeat' (first | (rewrite [SplitP_leq]; rotate_left; omega) | (rewrite [SplitP_req]; rotate_left; omega) | (rewrite [SplitP_and]; refine ⟨fun hp => ?_, fun hp => ?_⟩) | (rewrite [SplitB_leq]; rotate_left; assumption) | (rewrite [SplitB_req]; rotate_left; assumption) | (rewrite [SplitB_and]; refine ⟨fun hp => ?_, fun hp => ?_⟩) | simp (disch := first | omega | assumption | (simp only [List.all_cons, List.all_nil, pl, pl1, Bool.and_self, Nat.reduceBEq, Bool.false_or, Bool.true_or, Bool.or_self, Nat.beq_refl, List.length_cons, List.length_nil, Nat.reduceAdd, Nat.reduceLT, Nat.zero_add] <;> fail) | fail) only [go_sem, ↓reduceIte, hz, hz', may, hv] | (rewrite [evE_drawP 3 [0, 1, 2, 3, 4, 5]]; rotate_left; kernel_rfl; kernel_rfl; kernel_rfl) | (rewrite [evE_drawP 6 [2, 3, 4, 0, 1, 5, 6, 7, 8, 9]]; rotate_left; kernel_rfl; kernel_rfl; kernel_rfl))
    all_goals (first | rfl | (simp [stepS, stepE, rvR, runV, ints_nil, *]; done) | (simp_all [stepS, stepE, rvR, runV, ints_nil]; done))
  simp only [Bool.not_eq_false] at hv
  by_cases hf : formB kd es'.length c' s' k' = false
  · refine ⟨true, 0, rfl, fun _ => by simp_all [stepS, stepE], fun h => ?_⟩
    refine law0' 77 rfl Try.func10 rfl rfl (by kernel_rfl) ?_
    repeat' (first | (rewrite [SplitP_leq]; rotate_left; omega) | (rewrite [SplitP_req]; rotate_left; omega) | (rewrite [SplitP_and]; refine ⟨fun hp => ?_, fun hp => ?_⟩) | (rewrite [SplitB_leq]; rotate_left; assumption) | (rewrite [SplitB_req]; rotate_left; assumption) | (rewrite [SplitB_and]; refine ⟨fun hp => ?_, fun hp => ?_⟩) | simp (disch := first | omega | assumption | (simp only [List.all_cons, List.all_nil, pl, pl1, Bool.and_self, Nat.reduceBEq, Bool.false_or, Bool.true_or, Bool.or_self, Nat.beq_refl, List.length_cons, List.length_nil, Nat.reduceAdd, Nat.reduceLT, Nat.zero_add] <;> fail) | fail) only [go_sem, ↓reduceIte, hz, hz', may, hv, hf] | (rewrite [evE_drawP 3 [0, 1, 2, 3, 4, 5]]; rotate_left; kernel_rfl; kernel_rfl; kernel_rfl) | (rewrite [evE_drawP 6 [2, 3, 4, 0, 1, 5, 6, 7, 8, 9]]; rotate_left; kernel_rfl; kernel_rfl; kernel_rfl))
    all_goals (first | rfl | (simp [stepS, stepE, rvR, runV, ints_nil, *]; done) | (simp_all [stepS, stepE, rvR, runV, ints_nil]; done))
  simp only [Bool.not_eq_false] at hf
  have hk : kd = 1 ∨ kd = 2 ∨ kd = 3 ∨ kd = 4 ∨ kd = 5 ∨ kd = 6 := by
    simp only [formB] at hf
    split at hf <;> (try omega)
    split at hf <;> (try omega)
    split at hf <;> (try omega)
    cases hf
  rcases hk with rfl | rfl | rfl | rfl | rfl | rfl
  · have hpm : mayB st 1 = true ↔ (st = 1 ∨ st = 2) := by simp [mayB]
    by_cases hm : st = 1 ∨ st = 2
    · have hm' := hpm.2 hm
      by_cases ht : empB es' = true
      · have he' := emp_pos ht
        refine ⟨b', (bif b' then 0 else 1), by cases b' <;> rfl, fun e => by simp_all [stepS, stepE], fun h => ?_⟩
        refine law0' 77 rfl Try.func10 rfl rfl (by kernel_rfl) ?_
        repeat' (first | (rewrite [SplitP_leq]; rotate_left; omega) | (rewrite [SplitP_req]; rotate_left; omega) | (rewrite [SplitP_and]; refine ⟨fun hp => ?_, fun hp => ?_⟩) | (rewrite [SplitB_leq]; rotate_left; assumption) | (rewrite [SplitB_req]; rotate_left; assumption) | (rewrite [SplitB_and]; refine ⟨fun hp => ?_, fun hp => ?_⟩) | simp (disch := first | omega | assumption | (simp only [List.all_cons, List.all_nil, pl, pl1, Bool.and_self, Nat.reduceBEq, Bool.false_or, Bool.true_or, Bool.or_self, Nat.beq_refl, List.length_cons, List.length_nil, Nat.reduceAdd, Nat.reduceLT, Nat.zero_add] <;> fail) | fail) only [go_sem, ↓reduceIte, hz, hz', may, hv, hf, transV, List.mem_cons, List.not_mem_nil, or_false, hm', ht] | (rewrite [evE_drawP 3 [0, 1, 2, 3, 4, 5]]; rotate_left; kernel_rfl; kernel_rfl; kernel_rfl) | (rewrite [evE_drawP 6 [2, 3, 4, 0, 1, 5, 6, 7, 8, 9]]; rotate_left; kernel_rfl; kernel_rfl; kernel_rfl))
        all_goals (first | rfl | (simp [stepS, stepE, rvR, runV, ints_nil, *]; done) | (simp_all [stepS, stepE, rvR, runV, ints_nil]; done))
      · simp only [Bool.not_eq_true] at ht
        refine ⟨true, 0, rfl, fun _ => by simp_all [stepS, stepE], fun h => ?_⟩
        refine law0' 77 rfl Try.func10 rfl rfl (by kernel_rfl) ?_
        repeat' (first | (rewrite [SplitP_leq]; rotate_left; omega) | (rewrite [SplitP_req]; rotate_left; omega) | (rewrite [SplitP_and]; refine ⟨fun hp => ?_, fun hp => ?_⟩) | (rewrite [SplitB_leq]; rotate_left; assumption) | (rewrite [SplitB_req]; rotate_left; assumption) | (rewrite [SplitB_and]; refine ⟨fun hp => ?_, fun hp => ?_⟩) | simp (disch := first | omega | assumption | (simp only [List.all_cons, List.all_nil, pl, pl1, Bool.and_self, Nat.reduceBEq, Bool.false_or, Bool.true_or, Bool.or_self, Nat.beq_refl, List.length_cons, List.length_nil, Nat.reduceAdd, Nat.reduceLT, Nat.zero_add] <;> fail) | fail) only [go_sem, ↓reduceIte, hz, hz', may, hv, hf, transV, List.mem_cons, List.not_mem_nil, or_false, hm', ht] | (rewrite [evE_drawP 3 [0, 1, 2, 3, 4, 5]]; rotate_left; kernel_rfl; kernel_rfl; kernel_rfl) | (rewrite [evE_drawP 6 [2, 3, 4, 0, 1, 5, 6, 7, 8, 9]]; rotate_left; kernel_rfl; kernel_rfl; kernel_rfl))
        all_goals (first | rfl | (simp [stepS, stepE, rvR, runV, ints_nil, *]; done) | (simp_all [stepS, stepE, rvR, runV, ints_nil]; done))
    · have hm' : mayB st 1 = false := by rw [← Bool.not_eq_true]; exact fun e => hm (hpm.1 e)
      refine ⟨true, 0, rfl, fun _ => by simp_all [stepS, stepE], fun h => ?_⟩
      refine law0' 77 rfl Try.func10 rfl rfl (by kernel_rfl) ?_
      repeat' (first | (rewrite [SplitP_leq]; rotate_left; omega) | (rewrite [SplitP_req]; rotate_left; omega) | (rewrite [SplitP_and]; refine ⟨fun hp => ?_, fun hp => ?_⟩) | (rewrite [SplitB_leq]; rotate_left; assumption) | (rewrite [SplitB_req]; rotate_left; assumption) | (rewrite [SplitB_and]; refine ⟨fun hp => ?_, fun hp => ?_⟩) | simp (disch := first | omega | assumption | (simp only [List.all_cons, List.all_nil, pl, pl1, Bool.and_self, Nat.reduceBEq, Bool.false_or, Bool.true_or, Bool.or_self, Nat.beq_refl, List.length_cons, List.length_nil, Nat.reduceAdd, Nat.reduceLT, Nat.zero_add] <;> fail) | fail) only [go_sem, ↓reduceIte, hz, hz', may, hv, hf, transV, List.mem_cons, List.not_mem_nil, or_false, hm'] | (rewrite [evE_drawP 3 [0, 1, 2, 3, 4, 5]]; rotate_left; kernel_rfl; kernel_rfl; kernel_rfl) | (rewrite [evE_drawP 6 [2, 3, 4, 0, 1, 5, 6, 7, 8, 9]]; rotate_left; kernel_rfl; kernel_rfl; kernel_rfl))
      all_goals (first | rfl | (simp [stepS, stepE, rvR, runV, ints_nil, *]; done) | (simp_all [stepS, stepE, rvR, runV, ints_nil]; done))
  · have hpm : mayB st 2 = true ↔ (st = 2 ∨ st = 3) := by simp [mayB]
    by_cases hm : st = 2 ∨ st = 3
    · have hm' := hpm.2 hm
      by_cases ht : (valC c' s' k' && decide (c' ≤ (es.length : Int))) = true
      · refine ⟨b, (bif b then 0 else 1), by cases b <;> rfl, fun e => by simp_all [stepS, stepE], fun h => ?_⟩
        refine law0' 77 rfl Try.func10 rfl rfl (by kernel_rfl) ?_
        repeat' (first | (rewrite [SplitP_leq]; rotate_left; omega) | (rewrite [SplitP_req]; rotate_left; omega) | (rewrite [SplitP_and]; refine ⟨fun hp => ?_, fun hp => ?_⟩) | (rewrite [SplitB_leq]; rotate_left; assumption) | (rewrite [SplitB_req]; rotate_left; assumption) | (rewrite [SplitB_and]; refine ⟨fun hp => ?_, fun hp => ?_⟩) | simp (disch := first | omega | assumption | (simp only [List.all_cons, List.all_nil, pl, pl1, Bool.and_self, Nat.reduceBEq, Bool.false_or, Bool.true_or, Bool.or_self, Nat.beq_refl, List.length_cons, List.length_nil, Nat.reduceAdd, Nat.reduceLT, Nat.zero_add] <;> fail) | fail) only [go_sem, ↓reduceIte, hz, hz', may, hv, hf, transV, List.mem_cons, List.not_mem_nil, or_false, hm', ht] | (rewrite [evE_drawP 3 [0, 1, 2, 3, 4, 5]]; rotate_left; kernel_rfl; kernel_rfl; kernel_rfl) | (rewrite [evE_drawP 6 [2, 3, 4, 0, 1, 5, 6, 7, 8, 9]]; rotate_left; kernel_rfl; kernel_rfl; kernel_rfl))
        all_goals (first | rfl | (simp [stepS, stepE, rvR, runV, ints_nil, *]; done) | (simp_all [stepS, stepE, rvR, runV, ints_nil]; done))
      · simp only [Bool.not_eq_true] at ht
        refine ⟨true, 0, rfl, fun _ => by simp_all [stepS, stepE], fun h => ?_⟩
        refine law0' 77 rfl Try.func10 rfl rfl (by kernel_rfl) ?_
        repeat' (first | (rewrite [SplitP_leq]; rotate_left; omega) | (rewrite [SplitP_req]; rotate_left; omega) | (rewrite [SplitP_and]; refine ⟨fun hp => ?_, fun hp => ?_⟩) | (rewrite [SplitB_leq]; rotate_left; assumption) | (rewrite [SplitB_req]; rotate_left; assumption) | (rewrite [SplitB_and]; refine ⟨fun hp => ?_, fun hp => ?_⟩) | simp (disch := first | omega | assumption | (simp only [List.all_cons, List.all_nil, pl, pl1, Bool.and_self, Nat.reduceBEq, Bool.false_or, Bool.true_or, Bool.or_self, Nat.beq_refl, List.length_cons, List.length_nil, Nat.reduceAdd, Nat.reduceLT, Nat.zero_add] <;> fail) | fail) only [go_sem, ↓reduceIte, hz, hz', may, hv, hf, transV, List.mem_cons, List.not_mem_nil, or_false, hm', ht] | (rewrite [evE_drawP 3 [0, 1, 2, 3, 4, 5]]; rotate_left; kernel_rfl; kernel_rfl; kernel_rfl) | (rewrite [evE_drawP 6 [2, 3, 4, 0, 1, 5, 6, 7, 8, 9]]; rotate_left; kernel_rfl; kernel_rfl; kernel_rfl))
        all_goals (first | rfl | (simp [stepS, stepE, rvR, runV, ints_nil, *]; done) | (simp_all [stepS, stepE, rvR, runV, ints_nil]; done))
    · have hm' : mayB st 2 = false := by rw [← Bool.not_eq_true]; exact fun e => hm (hpm.1 e)
      refine ⟨true, 0, rfl, fun _ => by simp_all [stepS, stepE], fun h => ?_⟩
      refine law0' 77 rfl Try.func10 rfl rfl (by kernel_rfl) ?_
      repeat' (first | (rewrite [SplitP_leq]; rotate_left; omega) | (rewrite [SplitP_req]; rotate_left; omega) | (rewrite [SplitP_and]; refine ⟨fun hp => ?_, fun hp => ?_⟩) | (rewrite [SplitB_leq]; rotate_left; assumption) | (rewrite [SplitB_req]; rotate_left; assumption) | (rewrite [SplitB_and]; refine ⟨fun hp => ?_, fun hp => ?_⟩) | simp (disch := first | omega | assumption | (simp only [List.all_cons, List.all_nil, pl, pl1, Bool.and_self, Nat.reduceBEq, Bool.false_or, Bool.true_or, Bool.or_self, Nat.beq_refl, List.length_cons, List.length_nil, Nat.reduceAdd, Nat.reduceLT, Nat.zero_add] <;> fail) | fail) only [go_sem, ↓reduceIte, hz, hz', may, hv, hf, transV, List.mem_cons, List.not_mem_nil, or_false, hm'] | (rewrite [evE_drawP 3 [0, 1, 2, 3, 4, 5]]; rotate_left; kernel_rfl; kernel_rfl; kernel_rfl) | (rewrite [evE_drawP 6 [2, 3, 4, 0, 1, 5, 6, 7, 8, 9]]; rotate_left; kernel_rfl; kernel_rfl; kernel_rfl))
      all_goals (first | rfl | (simp [stepS, stepE, rvR, runV, ints_nil, *]; done) | (simp_all [stepS, stepE, rvR, runV, ints_nil]; done))
  · have hpm : mayB st 3 = true ↔ (st = 3) := by simp [mayB]
    by_cases hm : st = 3
    · have hm' := hpm.2 hm
      by_cases ht : c' = c ∧ s' = s ∧ k' = k
      · refine ⟨b, (bif b then 0 else 1), by cases b <;> rfl, fun e => by simp_all [stepS, stepE], fun h => ?_⟩
        refine law0' 77 rfl Try.func10 rfl rfl (by kernel_rfl) ?_
        repeat' (first | (rewrite [SplitP_leq]; rotate_left; omega) | (rewrite [SplitP_req]; rotate_left; omega) | (rewrite [SplitP_and]; refine ⟨fun hp => ?_, fun hp => ?_⟩) | (rewrite [SplitB_leq]; rotate_left; assumption) | (rewrite [SplitB_req]; rotate_left; assumption) | (rewrite [SplitB_and]; refine ⟨fun hp => ?_, fun hp => ?_⟩) | simp (disch := first | omega | assumption | (simp only [List.all_cons, List.all_nil, pl, pl1, Bool.and_self, Nat.reduceBEq, Bool.false_or, Bool.true_or, Bool.or_self, Nat.beq_refl, List.length_cons, List.length_nil, Nat.reduceAdd, Nat.reduceLT, Nat.zero_add] <;> fail) | fail) only [go_sem, ↓reduceIte, hz, hz', may, hv, hf, transV, List.mem_cons, List.not_mem_nil, or_false, hm'] | (rewrite [evE_drawP 3 [0, 1, 2, 3, 4, 5]]; rotate_left; kernel_rfl; kernel_rfl; kernel_rfl) | (rewrite [evE_drawP 6 [2, 3, 4, 0, 1, 5, 6, 7, 8, 9]]; rotate_left; kernel_rfl; kernel_rfl; kernel_rfl))
        all_goals (first | rfl | (simp [stepS, stepE, rvR, runV, ints_nil, *]; done) | (simp_all [stepS, stepE, rvR, runV, ints_nil]; done))
      · skip
        refine ⟨true, 0, rfl, fun _ => by simp_all [stepS, stepE], fun h => ?_⟩
        refine law0' 77 rfl Try.func10 rfl rfl (by kernel_rfl) ?_
        repeat' (first | (rewrite [SplitP_leq]; rotate_left; omega) | (rewrite [SplitP_req]; rotate_left; omega) | (rewrite [SplitP_and]; refine ⟨fun hp => ?_, fun hp => ?_⟩) | (rewrite [SplitB_leq]; rotate_left; assumption) | (rewrite [SplitB_req]; rotate_left; assumption) | (rewrite [SplitB_and]; refine ⟨fun hp => ?_, fun hp => ?_⟩) | simp (disch := first | omega | assumption | (simp only [List.all_cons, List.all_nil, pl, pl1, Bool.and_self, Nat.reduceBEq, Bool.false_or, Bool.true_or, Bool.or_self, Nat.beq_refl, List.length_cons, List.length_nil, Nat.reduceAdd, Nat.reduceLT, Nat.zero_add] <;> fail) | fail) only [go_sem, ↓reduceIte, hz, hz', may, hv, hf, transV, List.mem_cons, List.not_mem_nil, or_false, hm'] | (rewrite [evE_drawP 3 [0, 1, 2, 3, 4, 5]]; rotate_left; kernel_rfl; kernel_rfl; kernel_rfl) | (rewrite [evE_drawP 6 [2, 3, 4, 0, 1, 5, 6, 7, 8, 9]]; rotate_left; kernel_rfl; kernel_rfl; kernel_rfl))
        all_goals (first | rfl | (simp [stepS, stepE, rvR, runV, ints_nil, *]; done) | (simp_all [stepS, stepE, rvR, runV, ints_nil]; done))
    · have hm' : mayB st 3 = false := by rw [← Bool.not_eq_true]; exact fun e => hm (hpm.1 e)
      refine ⟨true, 0, rfl, fun _ => by simp_all [stepS, stepE], fun h => ?_⟩
      refine law0' 77 rfl Try.func10 rfl rfl (by kernel_rfl) ?_
      repeat' (first | (rewrite [SplitP_leq]; rotate_left; omega) | (rewrite [SplitP_req]; rotate_left; omega) | (rewrite [SplitP_and]; refine ⟨fun hp => ?_, fun hp => ?_⟩) | (rewrite [SplitB_leq]; rotate_left; assumption) | (rewrite [SplitB_req]; rotate_left; assumption) | (rewrite [SplitB_and]; refine ⟨fun hp => ?_, fun hp => ?_⟩) | simp (disch := first | omega | assumption | (simp only [List.all_cons, List.all_nil, pl, pl1, Bool.and_self, Nat.reduceBEq, Bool.false_or, Bool.true_or, Bool.or_self, Nat.beq_refl, List.length_cons, List.length_nil, Nat.reduceAdd, Nat.reduceLT, Nat.zero_add] <;> fail) | fail) only [go_sem, ↓reduceIte, hz, hz', may, hv, hf, transV, List.mem_cons, List.not_mem_nil, or_false, hm'] | (rewrite [evE_drawP 3 [0, 1, 2, 3, 4, 5]]; rotate_left; kernel_rfl; kernel_rfl; kernel_rfl) | (rewrite [evE_drawP 6 [2, 3, 4, 0, 1, 5, 6, 7, 8, 9]]; rotate_left; kernel_rfl; kernel_rfl; kernel_rfl))
      all_goals (first | rfl | (simp [stepS, stepE, rvR, runV, ints_nil, *]; done) | (simp_all [stepS, stepE, rvR, runV, ints_nil]; done))
  · have hpm : mayB st 4 = true ↔ (st = 4) := by simp [mayB]
    by_cases hm : st = 4
    · have hm' := hpm.2 hm
      by_cases ht : c' = c ∧ s' = s ∧ k' = k
      · refine ⟨b, (bif b then 0 else 1), by cases b <;> rfl, fun e => by simp_all [stepS, stepE], fun h => ?_⟩
        refine law0' 77 rfl Try.func10 rfl rfl (by kernel_rfl) ?_
        repeat' (first | (rewrite [SplitP_leq]; rotate_left; omega) | (rewrite [SplitP_req]; rotate_left; omega) | (rewrite [SplitP_and]; refine ⟨fun hp => ?_, fun hp => ?_⟩) | (rewrite [SplitB_leq]; rotate_left; assumption) | (rewrite [SplitB_req]; rotate_left; assumption) | (rewrite [SplitB_and]; refine ⟨fun hp => ?_, fun hp => ?_⟩) | simp (disch := first | omega | assumption | (simp only [List.all_cons, List.all_nil, pl, pl1, Bool.and_self, Nat.reduceBEq, Bool.false_or, Bool.true_or, Bool.or_self, Nat.beq_refl, List.length_cons, List.length_nil, Nat.reduceAdd, Nat.reduceLT, Nat.zero_add] <;> fail) | fail) only [go_sem, ↓reduceIte, hz, hz', may, hv, hf, transV, List.mem_cons, List.not_mem_nil, or_false, hm'] | (rewrite [evE_drawP 3 [0, 1, 2, 3, 4, 5]]; rotate_left; kernel_rfl; kernel_rfl; kernel_rfl) | (rewrite [evE_drawP 6 [2, 3, 4, 0, 1, 5, 6, 7, 8, 9]]; rotate_left; kernel_rfl; kernel_rfl; kernel_rfl))
        all_goals (first | rfl | (simp [stepS, stepE, rvR, runV, ints_nil, *]; done) | (simp_all [stepS, stepE, rvR, runV, ints_nil]; done))
      · skip
        refine ⟨true, 0, rfl, fun _ => by simp_all [stepS, stepE], fun h => ?_⟩
        refine law0' 77 rfl Try.func10 rfl rfl (by kernel_rfl) ?_
        repeat' (first | (rewrite [SplitP_leq]; rotate_left; omega) | (rewrite [SplitP_req]; rotate_left; omega) | (rewrite [SplitP_and]; refine ⟨fun hp => ?_, fun hp => ?_⟩) | (rewrite [SplitB_leq]; rotate_left; assumption) | (rewrite [SplitB_req]; rotate_left; assumption) | (rewrite [SplitB_and]; refine ⟨fun hp => ?_, fun hp => ?_⟩) | simp (disch := first | omega | assumption | (simp only [List.all_cons, List.all_nil, pl, pl1, Bool.and_self, Nat.reduceBEq, Bool.false_or, Bool.true_or, Bool.or_self, Nat.beq_refl, List.length_cons, List.length_nil, Nat.reduceAdd, Nat.reduceLT, Nat.zero_add] <;> fail) | fail) only [go_sem, ↓reduceIte, hz, hz', may, hv, hf, transV, List.mem_cons, List.not_mem_nil, or_false, hm'] | (rewrite [evE_drawP 3 [0, 1, 2, 3, 4, 5]]; rotate_left; kernel_rfl; kernel_rfl; kernel_rfl) | (rewrite [evE_drawP 6 [2, 3, 4, 0, 1, 5, 6, 7, 8, 9]]; rotate_left; kernel_rfl; kernel_rfl; kernel_rfl))
        all_goals (first | rfl | (simp [stepS, stepE, rvR, runV, ints_nil, *]; done) | (simp_all [stepS, stepE, rvR, runV, ints_nil]; done))
    · have hm' : mayB st 4 = false := by rw [← Bool.not_eq_true]; exact fun e => hm (hpm.1 e)
      refine ⟨true, 0, rfl, fun _ => by simp_all [stepS, stepE], fun h => ?_⟩
      refine law0' 77 rfl Try.func10 rfl rfl (by kernel_rfl) ?_
      repeat' (first | (rewrite [SplitP_leq]; rotate_left; omega) | (rewrite [SplitP_req]; rotate_left; omega) | (rewrite [SplitP_and]; refine ⟨fun hp => ?_, fun hp => ?_⟩) | (rewrite [SplitB_leq]; rotate_left; assumption) | (rewrite [SplitB_req]; rotate_left; assumption) | (rewrite [SplitB_and]; refine ⟨fun hp => ?_, fun hp => ?_⟩) | simp (disch := first | omega | assumption | (simp only [List.all_cons, List.all_nil, pl, pl1, Bool.and_self, Nat.reduceBEq, Bool.false_or, Bool.true_or, Bool.or_self, Nat.beq_refl, List.length_cons, List.length_nil, Nat.reduceAdd, Nat.reduceLT, Nat.zero_add] <;> fail) | fail) only [go_sem, ↓reduceIte, hz, hz', may, hv, hf, transV, List.mem_cons, List.not_mem_nil, or_false, hm'] | (rewrite [evE_drawP 3 [0, 1, 2, 3, 4, 5]]; rotate_left; kernel_rfl; kernel_rfl; kernel_rfl) | (rewrite [evE_drawP 6 [2, 3, 4, 0, 1, 5, 6, 7, 8, 9]]; rotate_left; kernel_rfl; kernel_rfl; kernel_rfl))
      all_goals (first | rfl | (simp [stepS, stepE, rvR, runV, ints_nil, *]; done) | (simp_all [stepS, stepE, rvR, runV, ints_nil]; done))
  · have hpm : mayB st 5 = true ↔ (st = 4 ∨ st = 5) := by simp [mayB]
    by_cases hm : st = 4 ∨ st = 5
    · have hm' := hpm.2 hm
      refine ⟨b, (bif b then 0 else 1), by cases b <;> rfl, fun e => by simp_all [stepS, stepE], fun h => ?_⟩
      refine law0' 77 rfl Try.func10 rfl rfl (by kernel_rfl) ?_
      repeat' (first | (rewrite [SplitP_leq]; rotate_left; omega) | (rewrite [SplitP_req]; rotate_left; omega) | (rewrite [SplitP_and]; refine ⟨fun hp => ?_, fun hp => ?_⟩) | (rewrite [SplitB_leq]; rotate_left; assumption) | (rewrite [SplitB_req]; rotate_left; assumption) | (rewrite [SplitB_and]; refine ⟨fun hp => ?_, fun hp => ?_⟩) | simp (disch := first | omega | assumption | (simp only [List.all_cons, List.all_nil, pl, pl1, Bool.and_self, Nat.reduceBEq, Bool.false_or, Bool.true_or, Bool.or_self, Nat.beq_refl, List.length_cons, List.length_nil, Nat.reduceAdd, Nat.reduceLT, Nat.zero_add] <;> fail) | fail) only [go_sem, ↓reduceIte, hz, hz', may, hv, hf, transV, List.mem_cons, List.not_mem_nil, or_false, hm'] | (rewrite [evE_drawP 3 [0, 1, 2, 3, 4, 5]]; rotate_left; kernel_rfl; kernel_rfl; kernel_rfl) | (rewrite [evE_drawP 6 [2, 3, 4, 0, 1, 5, 6, 7, 8, 9]]; rotate_left; kernel_rfl; kernel_rfl; kernel_rfl))
      all_goals (first | rfl | (simp [stepS, stepE, rvR, runV, ints_nil, *]; done) | (simp_all [stepS, stepE, rvR, runV, ints_nil]; done))
    · have hm' : mayB st 5 = false := by rw [← Bool.not_eq_true]; exact fun e => hm (hpm.1 e)
      refine ⟨true, 0, rfl, fun _ => by simp_all [stepS, stepE], fun h => ?_⟩
      refine law0' 77 rfl Try.func10 rfl rfl (by kernel_rfl) ?_
      repeat' (first | (rewrite [SplitP_leq]; rotate_left; omega) | (rewrite [SplitP_req]; rotate_left; omega) | (rewrite [SplitP_and]; refine ⟨fun hp => ?_, fun hp => ?_⟩) | (rewrite [SplitB_leq]; rotate_left; assumption) | (rewrite [SplitB_req]; rotate_left; assumption) | (rewrite [SplitB_and]; refine ⟨fun hp => ?_, fun hp => ?_⟩) | simp (disch := first | omega | assumption | (simp only [List.all_cons, List.all_nil, pl, pl1, Bool.and_self, Nat.reduceBEq, Bool.false_or, Bool.true_or, Bool.or_self, Nat.beq_refl, List.length_cons, List.length_nil, Nat.reduceAdd, Nat.reduceLT, Nat.zero_add] <;> fail) | fail) only [go_sem, ↓reduceIte, hz, hz', may, hv, hf, transV, List.mem_cons, List.not_mem_nil, or_false, hm'] | (rewrite [evE_drawP 3 [0, 1, 2, 3, 4, 5]]; rotate_left; kernel_rfl; kernel_rfl; kernel_rfl) | (rewrite [evE_drawP 6 [2, 3, 4, 0, 1, 5, 6, 7, 8, 9]]; rotate_left; kernel_rfl; kernel_rfl; kernel_rfl))
      all_goals (first | rfl | (simp [stepS, stepE, rvR, runV, ints_nil, *]; done) | (simp_all [stepS, stepE, rvR, runV, ints_nil]; done))
  · have hpm : mayB st 6 = true ↔ (st = 2 ∨ st = 3) := by simp [mayB]
    by_cases hm : st = 2 ∨ st = 3
    · have hm' := hpm.2 hm
      refine ⟨true, 0, rfl, fun _ => by simp_all [stepS, stepE], fun h => ?_⟩
      refine law0' 77 rfl Try.func10 rfl rfl (by kernel_rfl) ?_
      repeat' (first | (rewrite [SplitP_leq]; rotate_left; omega) | (rewrite [SplitP_req]; rotate_left; omega) | (rewrite [SplitP_and]; refine ⟨fun hp => ?_, fun hp => ?_⟩) | (rewrite [SplitB_leq]; rotate_left; assumption) | (rewrite [SplitB_req]; rotate_left; assumption) | (rewrite [SplitB_and]; refine ⟨fun hp => ?_, fun hp => ?_⟩) | simp (disch := first | omega | assumption | (simp only [List.all_cons, List.all_nil, pl, pl1, Bool.and_self, Nat.reduceBEq, Bool.false_or, Bool.true_or, Bool.or_self, Nat.beq_refl, List.length_cons, List.length_nil, Nat.reduceAdd, Nat.reduceLT, Nat.zero_add] <;> fail) | fail) only [go_sem, ↓reduceIte, hz, hz', may, hv, hf, transV, List.mem_cons, List.not_mem_nil, or_false, hm'] | (rewrite [evE_drawP 3 [0, 1, 2, 3, 4, 5]]; rotate_left; kernel_rfl; kernel_rfl; kernel_rfl) | (rewrite [evE_drawP 6 [2, 3, 4, 0, 1, 5, 6, 7, 8, 9]]; rotate_left; kernel_rfl; kernel_rfl; kernel_rfl))
      all_goals (first | rfl | (simp [stepS, stepE, rvR, runV, ints_nil, *]; done) | (simp_all [stepS, stepE, rvR, runV, ints_nil]; done))
    · have hm' : mayB st 6 = false := by rw [← Bool.not_eq_true]; exact fun e => hm (hpm.1 e)
      refine ⟨true, 0, rfl, fun _ => by simp_all [stepS, stepE], fun h => ?_⟩
      refine law0' 77 rfl Try.func10 rfl rfl (by kernel_rfl) ?_
      repeat' (first | (rewrite [SplitP_leq]; rotate_left; omega) | (rewrite [SplitP_req]; rotate_left; omega) | (rewrite [SplitP_and]; refine ⟨fun hp => ?_, fun hp => ?_⟩) | (rewrite [SplitB_leq]; rotate_left; assumption) | (rewrite [SplitB_req]; rotate_left; assumption) | (rewrite [SplitB_and]; refine ⟨fun hp => ?_, fun hp => ?_⟩) | simp (disch := first | omega | assumption | (simp only [List.all_cons, List.all_nil, pl, pl1, Bool.and_self, Nat.reduceBEq, Bool.false_or, Bool.true_or, Bool.or_self, Nat.beq_refl, List.length_cons, List.length_nil, Nat.reduceAdd, Nat.reduceLT, Nat.zero_add] <;> fail) | fail) only [go_sem, ↓reduceIte, hz, hz', may, hv, hf, transV, List.mem_cons, List.not_mem_nil, or_false, hm'] | (rewrite [evE_drawP 3 [0, 1, 2, 3, 4, 5]]; rotate_left; kernel_rfl; kernel_rfl; kernel_rfl) | (rewrite [evE_drawP 6 [2, 3, 4, 0, 1, 5, 6, 7, 8, 9]]; rotate_left; kernel_rfl; kernel_rfl; kernel_rfl))
      all_goals (first | rfl | (simp [stepS, stepE, rvR, runV, ints_nil, *]; done) | (simp_all [stepS, stepE, rvR, runV, ints_nil]; done))

end Go.Proofs.Ytbpcpcldmmfaeaa
