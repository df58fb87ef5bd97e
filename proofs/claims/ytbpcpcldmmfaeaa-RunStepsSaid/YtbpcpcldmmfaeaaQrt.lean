/- Paid runs, steps and permissions after drawn commands. -/
import Derived.Test.YtbpcpcldmmfaeaaQrs
open Go Go.Pe Go.Pe.HM
namespace Go.Proofs.Ytbpcpcldmmfaeaa
set_option maxRecDepth 100000
set_option maxHeartbeats 4000000
set_option linter.unusedSimpArgs false
set_option linter.unusedVariables false
/-- what is known of a command that was performed -/
theorem stepE_ok {st : Int} {es : List Int} {c s k kd : Int} {es' : List Int} {c' s' k' : Int} (h : stepE st es c s k kd es' c' s' k' = 0) :
    validB st es c s k = true ∧ formB kd es'.length c' s' k' = true ∧ mayB st kd = true ∧ (kd = 1 → empB es' = true) ∧ (kd = 2 → (valC c' s' k' && decide (c' ≤ (es.length : Int))) = true) ∧ (kd = 3 ∨ kd = 4 → c' = c ∧ s' = s ∧ k' = k) := by
  unfold stepE at h
  split at h; · omega
  split at h; · omega
  split at h; · omega
  split at h; · omega
  split at h; · omega
  rename_i h1 h2 h3 h4 h5
  simp only [not_or, Bool.not_eq_false] at h1
  simp only [Bool.not_eq_false] at h2
  refine ⟨h1.1, h1.2, h2, fun e => ?_, fun e => ?_, fun e => ?_⟩
  · cases hh : empB es' with
    | true => rfl
    | false => exact absurd ⟨e, hh⟩ h3
  · cases hh : (valC c' s' k' && decide (c' ≤ (es.length : Int))) with
    | true => rfl
    | false => exact absurd ⟨e, hh⟩ h4
  · exact Classical.byContradiction fun hn => h5 ⟨e, hn⟩
theorem stepS_ok {st : Int} {es : List Int} {c s k kd : Int} {es' : List Int} {c' s' k' : Int} (h : stepE st es c s k kd es' c' s' k' = 0) :
    stepS st es c s k kd es' c' s' k' = if kd = 1 then (2, es', c, s, k) else if kd = 2 then (3, es, c', s', k') else if kd = 3 then (4, es, c, s, k) else if kd = 4 then (5, es, c, s, k) else if kd = 5 then (6, es, c, s, k) else (1, [], 0, 0, 0) := by
  unfold stepS
  rw [if_neg (by rw [h]; simp)]
theorem may_kd {st kd : Int} (h : mayB st kd = true) : kd = 1 ∧ (st = 1 ∨ st = 2) ∨ kd = 2 ∧ (st = 2 ∨ st = 3) ∨ kd = 6 ∧ (st = 2 ∨ st = 3) ∨ kd = 3 ∧ st = 3 ∨ kd = 4 ∧ st = 4 ∨ kd = 5 ∧ (st = 4 ∨ st = 5) := by
  unfold mayB at h
  split at h
  · simp only [decide_eq_true_eq] at h; omega
  split at h
  · simp only [decide_eq_true_eq] at h; omega
  split at h
  · simp only [decide_eq_true_eq] at h; omega
  split at h
  · simp only [decide_eq_true_eq] at h; omega
  split at h
  · simp only [decide_eq_true_eq] at h; omega
  · cases h
theorem step_valid {st : Int} {es : List Int} {c s k kd : Int} {es' : List Int} {c' s' k' : Int} (h : stepE st es c s k kd es' c' s' k' = 0) :
    validB (stepS st es c s k kd es' c' s' k').1 (stepS st es c s k kd es' c' s' k').2.1 (stepS st es c s k kd es' c' s' k').2.2.1 (stepS st es c s k kd es' c' s' k').2.2.2.1 (stepS st es c s k kd es' c' s' k').2.2.2.2 = true := by
  rw [stepS_ok h]
  obtain ⟨h1, h2, h3, h4, h5, h6⟩ := stepE_ok h
  have h0 : zeroC 0 0 0 = true := by decide
  rcases may_kd h3 with ⟨rfl, h7⟩ | ⟨rfl, h7⟩ | ⟨rfl, h7⟩ | ⟨rfl, rfl⟩ | ⟨rfl, rfl⟩ | ⟨rfl, h7⟩
  · rcases h7 with rfl | rfl <;> simp_all [validB]
  · rcases h7 with rfl | rfl <;> simp_all [validB]
  · simp [validB, h0]
  · simp_all [validB]
  · simp_all [validB]
  · rcases h7 with rfl | rfl <;> simp_all [validB]
/-- what a state says of the commands before it -/
def Seen (st seen c s k c1 s1 k1 : Int) : Prop := (st = 1 → seen = 0) ∧ (st = 2 → seen = 1) ∧ (st = 3 → seen = 2 ∧ c1 = c ∧ s1 = s ∧ k1 = k) ∧ (st = 4 → seen = 3 ∧ c1 = c ∧ s1 = s ∧ k1 = k)
section
variable {bb : Bool} {zz : Nat} {l : List Int}
theorem law5 (hl : Lst bb zz l) (h : H) : CL KR 5 [.fl bb zz (ints l)] h = some (.b true, h) := by
  have hz := hl.z
  obtain ⟨_, _, ⟨b2, z2, cs, a, hz2, hb2, rfl, hok, hlen, rfl, ha⟩, hC⟩ := commands hl 16 (by omega)
  have hC' : ∀ b x t, 1024 ≤ b → t.get b = some (.cells [.fl bb zz (ints l), .i .i64 0] true) → CL KR 13 [.p b 0, .i .i64 16] ⟨x, t⟩ = _ := hC
  have hok' : ∀ x ∈ cs, x.ok := fun x hx => (hok x hx).1
  refine law0' 82 rfl Try.func5 rfl rfl (by kernel_rfl) ?_
  repeat' (first | (rewrite [SplitP_leq]; rotate_left; omega) | (rewrite [SplitP_req]; rotate_left; omega) | (rewrite [SplitP_and]; refine ⟨fun hp => ?_, fun hp => ?_⟩) | (rewrite [SplitB_leq]; rotate_left; assumption) | (rewrite [SplitB_req]; rotate_left; assumption) | (rewrite [SplitB_and]; refine ⟨fun hp => ?_, fun hp => ?_⟩) | simp (disch := first | omega | assumption | (simp (disch := omega) only [oset_same, oset_ne, T.get_del, if_neg, if_pos, true_and, and_true, List.length_cons, List.length_nil, Nat.reduceAdd, List.all_cons, List.all_nil, isI, Bool.and_self, new0 hz]; done) | (simp only [List.all_cons, List.all_nil, pl, pl1, Bool.and_self, Nat.reduceBEq, Bool.false_or, Bool.true_or, Bool.or_self, Nat.beq_refl, List.length_cons, List.length_nil, Nat.reduceAdd, Nat.reduceLT, Nat.zero_add] <;> fail) | fail) only [go_sem, ↓reduceIte, new0 hz, hC'] | (rewrite [evE_drawP 8 [0, 1, 2, 3, 4, 5, 6, 7, 9, 10, 8, 11]]; rotate_left; kernel_rfl; kernel_rfl; kernel_rfl) | (rewrite [evE_drawP 21 [0, 1, 2, 3, 4, 5, 6, 7, 8, 9, 10]]; rotate_left; kernel_rfl; kernel_rfl; kernel_rfl) | (rewrite [evE_drawP 25 [0, 1, 2, 3, 4, 5, 6, 7, 8, 9, 10, 11, 12, 13, 14, 15]]; rotate_left; kernel_rfl; kernel_rfl; kernel_rfl))
  refine Ev_loop (fun r tm h' => ∃ (j : Nat) (b : Bool) (z : Nat) (st : Int) (es : List Int) (c s k c1 s1 k1 seen : Int), r = cs.length - j ∧ j ≤ cs.length ∧ tm.get 3 = some (.fl b2 z2 (cmds cs)) ∧ tm.get 4 = some (.p 1035 0) ∧ tm.get 5 = some (.p 1037 0) ∧ tm.get 6 = some (.i .i64 seen) ∧ tm.get 7 = some (.i .i64 (j : Int))
    ∧ (b || Nat.beq z 1) = true ∧ (b = true → es = []) ∧ es.length < 1000000 ∧ Seen st seen c s k c1 s1 k1
    ∧ h'.tab.get 1035 = some (.cells [.i .i64 st, .fl b z (ints es), .i .i64 c, .i .i64 s, .i .i64 k] true) ∧ h'.tab.get 1037 = some (.cells [.i .i64 c1, .i .i64 s1, .i .i64 k1] true) ∧ Fr h' ∧ 1040 ≤ h'.next) ?_ cs.length ?_
  · rintro r tm ⟨n, t⟩ ⟨j, b, z, st, es, c, s, k, c1, s1, k1, seen, rfl, hj, g3, g4, g5, g6, g7, hz, hb, hes, ⟨v1, v2, v3, v4⟩, t35, t37, fr, hn⟩
    simp only at t35 t37 hn
    have hno := fun (m : Nat) (hm : n ≤ m) => none_at (b := m) fr hm
    by_cases hjl : j < cs.length
    · obtain ⟨o1, o2, o3⟩ := hok' _ (getD_mem hjl)
      obtain ⟨b1, z1, q1, q2, q3⟩ := step st b z es c s k (cs.getD j default).kd (cs.getD j default).b (cs.getD j default).z (cs.getD j default).es (cs.getD j default).c (cs.getD j default).s (cs.getD j default).k hz hb hes o1 o2 o3
      by_cases h0' : stepE st es c s k (cs.getD j default).kd (cs.getD j default).es (cs.getD j default).c (cs.getD j default).s (cs.getD j default).k = 0
      · rw [h0'] at q3
        obtain ⟨p1, p2, p3, p4, p5, p6⟩ := stepE_ok h0'
        rcases may_kd p3 with ⟨hk, h7⟩ | ⟨hk, h7⟩ | ⟨hk, h7⟩ | ⟨hk, h7⟩ | ⟨hk, h7⟩ | ⟨hk, h7⟩
        · skip
          have hS : stepS st es c s k (cs.getD j default).kd (cs.getD j default).es (cs.getD j default).c (cs.getD j default).s (cs.getD j default).k = (2, (cs.getD j default).es, c, s, k) := by
            rw [stepS_ok h0', hk]
            simp
          rw [hS] at q2 q3
          rw [hk] at q3
          simp only [rvR, runV] at q3
          repeat' (first | (rewrite [SplitP_leq]; rotate_left; omega) | (rewrite [SplitP_req]; rotate_left; omega) | (rewrite [SplitP_and]; refine ⟨fun hp => ?_, fun hp => ?_⟩) | (rewrite [SplitB_leq]; rotate_left; assumption) | (rewrite [SplitB_req]; rotate_left; assumption) | (rewrite [SplitB_and]; refine ⟨fun hp => ?_, fun hp => ?_⟩) | simp (disch := first | omega | assumption | (simp only [List.all_cons, List.all_nil, pl, pl1, Bool.and_self, Nat.reduceBEq, Bool.false_or, Bool.true_or, Bool.or_self, Nat.beq_refl, List.length_cons, List.length_nil, Nat.reduceAdd, Nat.reduceLT, Nat.zero_add] <;> fail) | fail) only [go_sem, ↓reduceIte, g3, g4, g5, g6, g7, hz2, t35, t37, none_at fr, q3, hk] | (rewrite [evE_drawP 8 [0, 1, 2, 3, 4, 5, 6, 7, 9, 10, 8, 11]]; rotate_left; kernel_rfl; kernel_rfl; kernel_rfl) | (rewrite [evE_drawP 21 [0, 1, 2, 3, 4, 5, 6, 7, 8, 9, 10]]; rotate_left; kernel_rfl; kernel_rfl; kernel_rfl) | (rewrite [evE_drawP 25 [0, 1, 2, 3, 4, 5, 6, 7, 8, 9, 10, 11, 12, 13, 14, 15]]; rotate_left; kernel_rfl; kernel_rfl; kernel_rfl))
          all_goals (
            refine ⟨cs.length - (j + 1), by omega, j + 1, b1, z1, _, _, _, _, _, _, _, _, _, rfl, by omega, rfl, rfl, q1, q2, ?_, ?_, rfl, rfl, ?_, by omega⟩
            · first | exact o3 | exact hes | simp
            · refine ⟨?_, ?_, ?_, ?_⟩ <;> intro h <;> omega
            · repeat (with_reducible refine Fr.set ?_ (by omega))
              exact fr.to (by omega))
        · skip
          have hS : stepS st es c s k (cs.getD j default).kd (cs.getD j default).es (cs.getD j default).c (cs.getD j default).s (cs.getD j default).k = (3, es, (cs.getD j default).c, (cs.getD j default).s, (cs.getD j default).k) := by
            rw [stepS_ok h0', hk]
            simp
          rw [hS] at q2 q3
          rw [hk] at q3
          simp only [rvR, runV] at q3
          repeat' (first | (rewrite [SplitP_leq]; rotate_left; omega) | (rewrite [SplitP_req]; rotate_left; omega) | (rewrite [SplitP_and]; refine ⟨fun hp => ?_, fun hp => ?_⟩) | (rewrite [SplitB_leq]; rotate_left; assumption) | (rewrite [SplitB_req]; rotate_left; assumption) | (rewrite [SplitB_and]; refine ⟨fun hp => ?_, fun hp => ?_⟩) | simp (disch := first | omega | assumption | (simp only [List.all_cons, List.all_nil, pl, pl1, Bool.and_self, Nat.reduceBEq, Bool.false_or, Bool.true_or, Bool.or_self, Nat.beq_refl, List.length_cons, List.length_nil, Nat.reduceAdd, Nat.reduceLT, Nat.zero_add] <;> fail) | fail) only [go_sem, ↓reduceIte, g3, g4, g5, g6, g7, hz2, t35, t37, none_at fr, q3, hk] | (rewrite [evE_drawP 8 [0, 1, 2, 3, 4, 5, 6, 7, 9, 10, 8, 11]]; rotate_left; kernel_rfl; kernel_rfl; kernel_rfl) | (rewrite [evE_drawP 21 [0, 1, 2, 3, 4, 5, 6, 7, 8, 9, 10]]; rotate_left; kernel_rfl; kernel_rfl; kernel_rfl) | (rewrite [evE_drawP 25 [0, 1, 2, 3, 4, 5, 6, 7, 8, 9, 10, 11, 12, 13, 14, 15]]; rotate_left; kernel_rfl; kernel_rfl; kernel_rfl))
          all_goals (
            refine ⟨cs.length - (j + 1), by omega, j + 1, b1, z1, _, _, _, _, _, _, _, _, _, rfl, by omega, rfl, rfl, q1, q2, ?_, ?_, rfl, rfl, ?_, by omega⟩
            · first | exact o3 | exact hes | simp
            · refine ⟨?_, ?_, ?_, ?_⟩ <;> intro h <;> omega
            · repeat (with_reducible refine Fr.set ?_ (by omega))
              exact fr.to (by omega))
        · skip
          have hS : stepS st es c s k (cs.getD j default).kd (cs.getD j default).es (cs.getD j default).c (cs.getD j default).s (cs.getD j default).k = (1, [], 0, 0, 0) := by
            rw [stepS_ok h0', hk]
            simp
          rw [hS] at q2 q3
          rw [hk] at q3
          simp only [rvR, runV] at q3
          repeat' (first | (rewrite [SplitP_leq]; rotate_left; omega) | (rewrite [SplitP_req]; rotate_left; omega) | (rewrite [SplitP_and]; refine ⟨fun hp => ?_, fun hp => ?_⟩) | (rewrite [SplitB_leq]; rotate_left; assumption) | (rewrite [SplitB_req]; rotate_left; assumption) | (rewrite [SplitB_and]; refine ⟨fun hp => ?_, fun hp => ?_⟩) | simp (disch := first | omega | assumption | (simp only [List.all_cons, List.all_nil, pl, pl1, Bool.and_self, Nat.reduceBEq, Bool.false_or, Bool.true_or, Bool.or_self, Nat.beq_refl, List.length_cons, List.length_nil, Nat.reduceAdd, Nat.reduceLT, Nat.zero_add] <;> fail) | fail) only [go_sem, ↓reduceIte, g3, g4, g5, g6, g7, hz2, t35, t37, none_at fr, q3, hk] | (rewrite [evE_drawP 8 [0, 1, 2, 3, 4, 5, 6, 7, 9, 10, 8, 11]]; rotate_left; kernel_rfl; kernel_rfl; kernel_rfl) | (rewrite [evE_drawP 21 [0, 1, 2, 3, 4, 5, 6, 7, 8, 9, 10]]; rotate_left; kernel_rfl; kernel_rfl; kernel_rfl) | (rewrite [evE_drawP 25 [0, 1, 2, 3, 4, 5, 6, 7, 8, 9, 10, 11, 12, 13, 14, 15]]; rotate_left; kernel_rfl; kernel_rfl; kernel_rfl))
          all_goals (
            refine ⟨cs.length - (j + 1), by omega, j + 1, b1, z1, _, _, _, _, _, _, _, _, _, rfl, by omega, rfl, rfl, q1, q2, ?_, ?_, rfl, rfl, ?_, by omega⟩
            · first | exact o3 | exact hes | simp
            · refine ⟨?_, ?_, ?_, ?_⟩ <;> intro h <;> omega
            · repeat (with_reducible refine Fr.set ?_ (by omega))
              exact fr.to (by omega))
        · skip
          have hS : stepS st es c s k (cs.getD j default).kd (cs.getD j default).es (cs.getD j default).c (cs.getD j default).s (cs.getD j default).k = (4, es, c, s, k) := by
            rw [stepS_ok h0', hk]
            simp
          rw [hS] at q2 q3
          rw [hk] at q3
          simp only [rvR, runV] at q3
          repeat' (first | (rewrite [SplitP_leq]; rotate_left; omega) | (rewrite [SplitP_req]; rotate_left; omega) | (rewrite [SplitP_and]; refine ⟨fun hp => ?_, fun hp => ?_⟩) | (rewrite [SplitB_leq]; rotate_left; assumption) | (rewrite [SplitB_req]; rotate_left; assumption) | (rewrite [SplitB_and]; refine ⟨fun hp => ?_, fun hp => ?_⟩) | simp (disch := first | omega | assumption | (simp only [List.all_cons, List.all_nil, pl, pl1, Bool.and_self, Nat.reduceBEq, Bool.false_or, Bool.true_or, Bool.or_self, Nat.beq_refl, List.length_cons, List.length_nil, Nat.reduceAdd, Nat.reduceLT, Nat.zero_add] <;> fail) | fail) only [go_sem, ↓reduceIte, g3, g4, g5, g6, g7, hz2, t35, t37, none_at fr, q3, hk] | (rewrite [evE_drawP 8 [0, 1, 2, 3, 4, 5, 6, 7, 9, 10, 8, 11]]; rotate_left; kernel_rfl; kernel_rfl; kernel_rfl) | (rewrite [evE_drawP 21 [0, 1, 2, 3, 4, 5, 6, 7, 8, 9, 10]]; rotate_left; kernel_rfl; kernel_rfl; kernel_rfl) | (rewrite [evE_drawP 25 [0, 1, 2, 3, 4, 5, 6, 7, 8, 9, 10, 11, 12, 13, 14, 15]]; rotate_left; kernel_rfl; kernel_rfl; kernel_rfl))
          all_goals (
            refine ⟨cs.length - (j + 1), by omega, j + 1, b1, z1, _, _, _, _, _, _, _, _, _, rfl, by omega, rfl, rfl, q1, q2, ?_, ?_, rfl, rfl, ?_, by omega⟩
            · first | exact o3 | exact hes | simp
            · refine ⟨?_, ?_, ?_, ?_⟩ <;> intro h <;> omega
            · repeat (with_reducible refine Fr.set ?_ (by omega))
              exact fr.to (by omega))
        · skip
          have hS : stepS st es c s k (cs.getD j default).kd (cs.getD j default).es (cs.getD j default).c (cs.getD j default).s (cs.getD j default).k = (5, es, c, s, k) := by
            rw [stepS_ok h0', hk]
            simp
          rw [hS] at q2 q3
          rw [hk] at q3
          simp only [rvR, runV] at q3
          repeat' (first | (rewrite [SplitP_leq]; rotate_left; omega) | (rewrite [SplitP_req]; rotate_left; omega) | (rewrite [SplitP_and]; refine ⟨fun hp => ?_, fun hp => ?_⟩) | (rewrite [SplitB_leq]; rotate_left; assumption) | (rewrite [SplitB_req]; rotate_left; assumption) | (rewrite [SplitB_and]; refine ⟨fun hp => ?_, fun hp => ?_⟩) | simp (disch := first | omega | assumption | (simp only [List.all_cons, List.all_nil, pl, pl1, Bool.and_self, Nat.reduceBEq, Bool.false_or, Bool.true_or, Bool.or_self, Nat.beq_refl, List.length_cons, List.length_nil, Nat.reduceAdd, Nat.reduceLT, Nat.zero_add] <;> fail) | fail) only [go_sem, ↓reduceIte, g3, g4, g5, g6, g7, hz2, t35, t37, none_at fr, q3, hk] | (rewrite [evE_drawP 8 [0, 1, 2, 3, 4, 5, 6, 7, 9, 10, 8, 11]]; rotate_left; kernel_rfl; kernel_rfl; kernel_rfl) | (rewrite [evE_drawP 21 [0, 1, 2, 3, 4, 5, 6, 7, 8, 9, 10]]; rotate_left; kernel_rfl; kernel_rfl; kernel_rfl) | (rewrite [evE_drawP 25 [0, 1, 2, 3, 4, 5, 6, 7, 8, 9, 10, 11, 12, 13, 14, 15]]; rotate_left; kernel_rfl; kernel_rfl; kernel_rfl))
          all_goals (
            refine ⟨cs.length - (j + 1), by omega, j + 1, b1, z1, _, _, _, _, _, _, _, _, _, rfl, by omega, rfl, rfl, q1, q2, ?_, ?_, rfl, rfl, ?_, by omega⟩
            · first | exact o3 | exact hes | simp
            · refine ⟨?_, ?_, ?_, ?_⟩ <;> intro h <;> omega
            · repeat (with_reducible refine Fr.set ?_ (by omega))
              exact fr.to (by omega))
        · skip
          have hS : stepS st es c s k (cs.getD j default).kd (cs.getD j default).es (cs.getD j default).c (cs.getD j default).s (cs.getD j default).k = (6, es, c, s, k) := by
            rw [stepS_ok h0', hk]
            simp
          rw [hS] at q2 q3
          rw [hk] at q3
          simp only [rvR, runV] at q3
          repeat' (first | (rewrite [SplitP_leq]; rotate_left; omega) | (rewrite [SplitP_req]; rotate_left; omega) | (rewrite [SplitP_and]; refine ⟨fun hp => ?_, fun hp => ?_⟩) | (rewrite [SplitB_leq]; rotate_left; assumption) | (rewrite [SplitB_req]; rotate_left; assumption) | (rewrite [SplitB_and]; refine ⟨fun hp => ?_, fun hp => ?_⟩) | simp (disch := first | omega | assumption | (simp only [List.all_cons, List.all_nil, pl, pl1, Bool.and_self, Nat.reduceBEq, Bool.false_or, Bool.true_or, Bool.or_self, Nat.beq_refl, List.length_cons, List.length_nil, Nat.reduceAdd, Nat.reduceLT, Nat.zero_add] <;> fail) | fail) only [go_sem, ↓reduceIte, g3, g4, g5, g6, g7, hz2, t35, t37, none_at fr, q3, hk] | (rewrite [evE_drawP 8 [0, 1, 2, 3, 4, 5, 6, 7, 9, 10, 8, 11]]; rotate_left; kernel_rfl; kernel_rfl; kernel_rfl) | (rewrite [evE_drawP 21 [0, 1, 2, 3, 4, 5, 6, 7, 8, 9, 10]]; rotate_left; kernel_rfl; kernel_rfl; kernel_rfl) | (rewrite [evE_drawP 25 [0, 1, 2, 3, 4, 5, 6, 7, 8, 9, 10, 11, 12, 13, 14, 15]]; rotate_left; kernel_rfl; kernel_rfl; kernel_rfl))
          all_goals (
            refine ⟨cs.length - (j + 1), by omega, j + 1, b1, z1, _, _, _, _, _, _, _, _, _, rfl, by omega, rfl, rfl, q1, q2, ?_, ?_, rfl, rfl, ?_, by omega⟩
            · first | exact o3 | exact hes | simp
            · refine ⟨?_, ?_, ?_, ?_⟩ <;> intro h <;> omega
            · repeat (with_reducible refine Fr.set ?_ (by omega))
              exact fr.to (by omega))
      · repeat' (first | (rewrite [SplitP_leq]; rotate_left; omega) | (rewrite [SplitP_req]; rotate_left; omega) | (rewrite [SplitP_and]; refine ⟨fun hp => ?_, fun hp => ?_⟩) | (rewrite [SplitB_leq]; rotate_left; assumption) | (rewrite [SplitB_req]; rotate_left; assumption) | (rewrite [SplitB_and]; refine ⟨fun hp => ?_, fun hp => ?_⟩) | simp (disch := first | omega | assumption | (simp only [List.all_cons, List.all_nil, pl, pl1, Bool.and_self, Nat.reduceBEq, Bool.false_or, Bool.true_or, Bool.or_self, Nat.beq_refl, List.length_cons, List.length_nil, Nat.reduceAdd, Nat.reduceLT, Nat.zero_add] <;> fail) | fail) only [go_sem, ↓reduceIte, g3, g4, g5, g6, g7, hz2, t35, t37, none_at fr, q3, rvR, runV, h0'] | (rewrite [evE_drawP 8 [0, 1, 2, 3, 4, 5, 6, 7, 9, 10, 8, 11]]; rotate_left; kernel_rfl; kernel_rfl; kernel_rfl) | (rewrite [evE_drawP 21 [0, 1, 2, 3, 4, 5, 6, 7, 8, 9, 10]]; rotate_left; kernel_rfl; kernel_rfl; kernel_rfl) | (rewrite [evE_drawP 25 [0, 1, 2, 3, 4, 5, 6, 7, 8, 9, 10, 11, 12, 13, 14, 15]]; rotate_left; kernel_rfl; kernel_rfl; kernel_rfl))
        refine ⟨cs.length - (j + 1), by omega, j + 1, b, z, _, _, _, _, _, _, _, _, _, rfl, by omega, rfl, rfl, hz, hb, hes, ⟨v1, v2, v3, v4⟩, rfl, rfl, ?_, by omega⟩
        repeat (with_reducible refine Fr.set ?_ (by omega))
        exact fr.to (by omega)
    · repeat' (first | (rewrite [SplitP_leq]; rotate_left; omega) | (rewrite [SplitP_req]; rotate_left; omega) | (rewrite [SplitP_and]; refine ⟨fun hp => ?_, fun hp => ?_⟩) | (rewrite [SplitB_leq]; rotate_left; assumption) | (rewrite [SplitB_req]; rotate_left; assumption) | (rewrite [SplitB_and]; refine ⟨fun hp => ?_, fun hp => ?_⟩) | simp (disch := first | omega | assumption | (simp only [List.all_cons, List.all_nil, pl, pl1, Bool.and_self, Nat.reduceBEq, Bool.false_or, Bool.true_or, Bool.or_self, Nat.beq_refl, List.length_cons, List.length_nil, Nat.reduceAdd, Nat.reduceLT, Nat.zero_add] <;> fail) | fail) only [go_sem, ↓reduceIte, g3, g4, g5, g6, g7, hz2, t35, t37, none_at fr] | (rewrite [evE_drawP 8 [0, 1, 2, 3, 4, 5, 6, 7, 9, 10, 8, 11]]; rotate_left; kernel_rfl; kernel_rfl; kernel_rfl) | (rewrite [evE_drawP 21 [0, 1, 2, 3, 4, 5, 6, 7, 8, 9, 10]]; rotate_left; kernel_rfl; kernel_rfl; kernel_rfl) | (rewrite [evE_drawP 25 [0, 1, 2, 3, 4, 5, 6, 7, 8, 9, 10, 11, 12, 13, 14, 15]]; rotate_left; kernel_rfl; kernel_rfl; kernel_rfl))
  · refine ⟨0, true, 0, 1, [], 0, 0, 0, 0, 0, 0, 0, by omega, by omega, ?_⟩
    simp [T.get_set, get_e, ints_nil]
    refine ⟨by simp [Seen], ?_⟩
    repeat (with_reducible refine Fr.set ?_ (by omega))
    exact fun b hb => rfl
end
end Go.Proofs.Ytbpcpcldmmfaeaa
