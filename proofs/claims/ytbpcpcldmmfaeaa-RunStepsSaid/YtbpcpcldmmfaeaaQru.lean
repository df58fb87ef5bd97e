/- Steps and permissions after drawn commands. -/
import Derived.Test.YtbpcpcldmmfaeaaQrt
open Go Go.Pe Go.Pe.HM
namespace Go.Proofs.Ytbpcpcldmmfaeaa
set_option maxRecDepth 100000
set_option maxHeartbeats 4000000
set_option linter.unusedSimpArgs false
set_option linter.unusedVariables false
theorem mod' (v n : Int) (h3 : 0 < n) (h4 : n < 9223372036854775808) (h : H) : CL KR 9 [.i .i64 v, .i .i64 n] h = some (.i .i64 (v.emod n), h) := by
  refine law0' 14 rfl Try.func9 rfl rfl (by kernel_rfl) ?_
  have hn0 : ¬ n = 0 := by omega
  have hlt := Int.tmod_lt_of_pos v h3
  have hge := Int.lt_tmod_of_pos v h3
  have e := emod_of (v := v) h3
  repeat' (first | (rewrite [SplitP_leq]; rotate_left; omega) | (rewrite [SplitP_req]; rotate_left; omega) | (rewrite [SplitP_and]; refine ⟨fun hp => ?_, fun hp => ?_⟩) | (rewrite [SplitB_leq]; rotate_left; assumption) | (rewrite [SplitB_req]; rotate_left; assumption) | (rewrite [SplitB_and]; refine ⟨fun hp => ?_, fun hp => ?_⟩) | simp (disch := first | omega | assumption | (simp only [List.all_cons, List.all_nil, pl, pl1, Bool.and_self, Nat.reduceBEq, Bool.false_or, Bool.true_or, Bool.or_self, Nat.beq_refl, List.length_cons, List.length_nil, Nat.reduceAdd, Nat.reduceLT, Nat.zero_add] <;> fail) | fail) only [go_sem, ↓reduceIte, hn0, wrap_id] | fail)
  · rw [e, if_pos hp]
  · rw [e, if_neg hp]
theorem valid0 : validB 1 [] 0 0 0 = true := by simp [validB, zeroC]
theorem permits {st : Int} {es : List Int} {c s k kk : Int} (hv : validB st es c s k = true) (h1 : 1 ≤ kk) (h6 : kk ≤ 6) : stepE st es c s k kk [] 0 0 0 = 15 ↔ ¬ kk ∈ permL st := by
  have hst := valid_st hv
  have hf : formB kk ([] : List Int).length 0 0 0 = true := by
    have : kk = 1 ∨ kk = 2 ∨ kk = 3 ∨ kk = 4 ∨ kk = 5 ∨ kk = 6 := by omega
    rcases this with rfl | rfl | rfl | rfl | rfl | rfl <;> simp [formB, zeroC]
  unfold stepE
  rw [if_neg (by rw [hv, hf]; simp)]
  have key : mayB st kk = false ↔ ¬ kk ∈ permL st := by
    have : kk = 1 ∨ kk = 2 ∨ kk = 3 ∨ kk = 4 ∨ kk = 5 ∨ kk = 6 := by omega
    rcases this with rfl | rfl | rfl | rfl | rfl | rfl <;> rcases hst with rfl | rfl | rfl | rfl | rfl | rfl <;> simp [mayB, permL]
  rw [← key]
  cases mayB st kk with
  | false => simp
  | true =>
    simp only [Bool.true_eq_false, if_false, iff_false]
    repeat' split
    all_goals omega
theorem mem_getD {x : Int} {xs : List Int} : x ∈ xs ↔ ∃ i, i < xs.length ∧ xs.getD i 0 = x := by
  rw [List.mem_iff_getElem]
  constructor
  · rintro ⟨i, h, e⟩
    exact ⟨i, h, by simp [h, e]⟩
  · rintro ⟨i, h, e⟩
    exact ⟨i, h, by simpa [h] using e⟩
section
variable {bb : Bool} {zz : Nat} {l : List Int}
theorem law6 (hl : Lst bb zz l) (h : H) : CL KR 6 [.fl bb zz (ints l)] h = some (.b true, h) := by
  have hz := hl.z
  obtain ⟨_, _, ⟨b2, z2, cs, a, hz2, hb2, rfl, hok, hlen, rfl, ha⟩, hC⟩ := commands hl 12 (by omega)
  have hC' : ∀ b x t, 1024 ≤ b → t.get b = some (.cells [.fl bb zz (ints l), .i .i64 0] true) → CL KR 13 [.p b 0, .i .i64 12] ⟨x, t⟩ = _ := hC
  have hok' : ∀ x ∈ cs, x.ok := fun x hx => (hok x hx).1
  refine law0' 66 rfl Try.func6 rfl rfl (by kernel_rfl) ?_
  repeat' (first | (rewrite [SplitP_leq]; rotate_left; omega) | (rewrite [SplitP_req]; rotate_left; omega) | (rewrite [SplitP_and]; refine ⟨fun hp => ?_, fun hp => ?_⟩) | (rewrite [SplitB_leq]; rotate_left; assumption) | (rewrite [SplitB_req]; rotate_left; assumption) | (rewrite [SplitB_and]; refine ⟨fun hp => ?_, fun hp => ?_⟩) | simp (disch := first | omega | assumption | (simp (disch := omega) only [oset_same, oset_ne, T.get_del, if_neg, if_pos, true_and, and_true, List.length_cons, List.length_nil, Nat.reduceAdd, List.all_cons, List.all_nil, isI, Bool.and_self, new0 hz]; done) | (simp only [List.all_cons, List.all_nil, pl, pl1, Bool.and_self, Nat.reduceBEq, Bool.false_or, Bool.true_or, Bool.or_self, Nat.beq_refl, List.length_cons, List.length_nil, Nat.reduceAdd, Nat.reduceLT, Nat.zero_add] <;> fail) | fail) only [go_sem, ↓reduceIte, new0 hz, hC'] | (rewrite [evE_drawP 7 [0, 1, 2, 3, 4, 5, 6, 7, 9, 10, 8, 11]]; rotate_left; kernel_rfl; kernel_rfl; kernel_rfl) | (rewrite [evE_drawP 8 [0, 1, 2, 3, 4, 5, 6, 7, 9, 10, 8, 11]]; rotate_left; kernel_rfl; kernel_rfl; kernel_rfl) | (rewrite [evE_drawP 9 [0, 1, 2, 3, 4, 5, 6, 7, 8, 9, 10, 11, 12, 13, 14, 15, 16, 17, 18, 19, 20, 21]]; rotate_left; kernel_rfl; kernel_rfl; kernel_rfl))
  refine Ev_loop (fun r tm h' => ∃ (j : Nat) (b : Bool) (z : Nat) (st : Int) (es : List Int) (c s k : Int), r = cs.length - j ∧ j ≤ cs.length ∧ tm.get 4 = some (.fl b2 z2 (cmds cs)) ∧ tm.get 5 = some (.p 1037 0) ∧ tm.get 6 = some (.i .i64 (j : Int))
    ∧ (b || Nat.beq z 1) = true ∧ (b = true → es = []) ∧ es.length < 1000000 ∧ validB st es c s k = true
    ∧ h'.tab.get 1037 = some (.cells [.i .i64 st, .fl b z (ints es), .i .i64 c, .i .i64 s, .i .i64 k] true) ∧ Fr h' ∧ 1040 ≤ h'.next) ?_ cs.length ?_
  · rintro r tm ⟨n, t⟩ ⟨j, b, z, st, es, c, s, k, rfl, hj, g4, g5, g6, hz, hb, hes, hv, t37, fr, hn⟩
    simp only at t37 hn
    have hno := fun (m : Nat) (hm : n ≤ m) => none_at (b := m) fr hm
    by_cases hjl : j < cs.length
    · obtain ⟨o1, o2, o3⟩ := hok' _ (getD_mem hjl)
      obtain ⟨b1, z1, q1, q2, q3⟩ := step st b z es c s k (cs.getD j default).kd (cs.getD j default).b (cs.getD j default).z (cs.getD j default).es (cs.getD j default).c (cs.getD j default).s (cs.getD j default).k hz hb hes o1 o2 o3
      obtain ⟨b3, z3, y1, y2, y3⟩ := stepR st b z es c s k (cs.getD j default).kd (cs.getD j default).b (cs.getD j default).z (cs.getD j default).es (cs.getD j default).c (cs.getD j default).s (cs.getD j default).k hz hb hes o1 o2 o3
      obtain ⟨_, ⟨b5, z5, t1, rfl⟩, t3⟩ := permitted st b z es c s k hz
      obtain ⟨_, ⟨b6, z6, u1, rfl⟩, u3⟩ := permittedR st b z es c s k hz
      have l1 := stS_len (r := (st, es, c, s, k)) (x := cs.getD j default) hes o3
      simp only [stS] at l1
      have l3 : (permR st es c s k).length < 1000000 := permR_len
      by_cases h0' : stepE st es c s k (cs.getD j default).kd (cs.getD j default).es (cs.getD j default).c (cs.getD j default).s (cs.getD j default).k = 0
      · have hv2 := step_valid h0'
        rw [h0'] at q3 y3
        repeat' (first | (rewrite [SplitP_leq]; rotate_left; omega) | (rewrite [SplitP_req]; rotate_left; omega) | (rewrite [SplitP_and]; refine ⟨fun hp => ?_, fun hp => ?_⟩) | (rewrite [SplitB_leq]; rotate_left; assumption) | (rewrite [SplitB_req]; rotate_left; assumption) | (rewrite [SplitB_and]; refine ⟨fun hp => ?_, fun hp => ?_⟩) | simp (disch := first | omega | assumption | (simp only [List.all_cons, List.all_nil, pl, pl1, Bool.and_self, Nat.reduceBEq, Bool.false_or, Bool.true_or, Bool.or_self, Nat.beq_refl, List.length_cons, List.length_nil, Nat.reduceAdd, Nat.reduceLT, Nat.zero_add] <;> fail) | fail) only [go_sem, ↓reduceIte, g4, g5, g6, hz2, t37, none_at fr, q3, y3, t3, u3, rvR, runV, hv] | (rewrite [evE_drawP 7 [0, 1, 2, 3, 4, 5, 6, 7, 9, 10, 8, 11]]; rotate_left; kernel_rfl; kernel_rfl; kernel_rfl) | (rewrite [evE_drawP 8 [0, 1, 2, 3, 4, 5, 6, 7, 9, 10, 8, 11]]; rotate_left; kernel_rfl; kernel_rfl; kernel_rfl) | (rewrite [evE_drawP 9 [0, 1, 2, 3, 4, 5, 6, 7, 8, 9, 10, 11, 12, 13, 14, 15, 16, 17, 18, 19, 20, 21]]; rotate_left; kernel_rfl; kernel_rfl; kernel_rfl))
        all_goals (
          refine ⟨cs.length - (j + 1), by omega, j + 1, b3, z3, _, _, _, _, _, rfl, by omega, rfl, y1, y2, l1, hv2, rfl, ?_, by omega⟩
          repeat (with_reducible refine Fr.set ?_ (by omega))
          exact fr.to (by omega))
      · repeat' (first | (rewrite [SplitP_leq]; rotate_left; omega) | (rewrite [SplitP_req]; rotate_left; omega) | (rewrite [SplitP_and]; refine ⟨fun hp => ?_, fun hp => ?_⟩) | (rewrite [SplitB_leq]; rotate_left; assumption) | (rewrite [SplitB_req]; rotate_left; assumption) | (rewrite [SplitB_and]; refine ⟨fun hp => ?_, fun hp => ?_⟩) | simp (disch := first | omega | assumption | (simp only [List.all_cons, List.all_nil, pl, pl1, Bool.and_self, Nat.reduceBEq, Bool.false_or, Bool.true_or, Bool.or_self, Nat.beq_refl, List.length_cons, List.length_nil, Nat.reduceAdd, Nat.reduceLT, Nat.zero_add] <;> fail) | fail) only [go_sem, ↓reduceIte, g4, g5, g6, hz2, t37, none_at fr, q3, y3, t3, u3, rvR, runV, hv, h0'] | (rewrite [evE_drawP 7 [0, 1, 2, 3, 4, 5, 6, 7, 9, 10, 8, 11]]; rotate_left; kernel_rfl; kernel_rfl; kernel_rfl) | (rewrite [evE_drawP 8 [0, 1, 2, 3, 4, 5, 6, 7, 9, 10, 8, 11]]; rotate_left; kernel_rfl; kernel_rfl; kernel_rfl) | (rewrite [evE_drawP 9 [0, 1, 2, 3, 4, 5, 6, 7, 8, 9, 10, 11, 12, 13, 14, 15, 16, 17, 18, 19, 20, 21]]; rotate_left; kernel_rfl; kernel_rfl; kernel_rfl))
        all_goals (
          refine ⟨cs.length - (j + 1), by omega, j + 1, b, z, _, _, _, _, _, rfl, by omega, rfl, hz, hb, hes, hv, rfl, ?_, by omega⟩
          repeat (with_reducible refine Fr.set ?_ (by omega))
          exact fr.to (by omega))
    · repeat' (first | (rewrite [SplitP_leq]; rotate_left; omega) | (rewrite [SplitP_req]; rotate_left; omega) | (rewrite [SplitP_and]; refine ⟨fun hp => ?_, fun hp => ?_⟩) | (rewrite [SplitB_leq]; rotate_left; assumption) | (rewrite [SplitB_req]; rotate_left; assumption) | (rewrite [SplitB_and]; refine ⟨fun hp => ?_, fun hp => ?_⟩) | simp (disch := first | omega | assumption | (simp only [List.all_cons, List.all_nil, pl, pl1, Bool.and_self, Nat.reduceBEq, Bool.false_or, Bool.true_or, Bool.or_self, Nat.beq_refl, List.length_cons, List.length_nil, Nat.reduceAdd, Nat.reduceLT, Nat.zero_add] <;> fail) | fail) only [go_sem, ↓reduceIte, g4, g5, g6, hz2, t37, none_at fr] | (rewrite [evE_drawP 7 [0, 1, 2, 3, 4, 5, 6, 7, 9, 10, 8, 11]]; rotate_left; kernel_rfl; kernel_rfl; kernel_rfl) | (rewrite [evE_drawP 8 [0, 1, 2, 3, 4, 5, 6, 7, 9, 10, 8, 11]]; rotate_left; kernel_rfl; kernel_rfl; kernel_rfl) | (rewrite [evE_drawP 9 [0, 1, 2, 3, 4, 5, 6, 7, 8, 9, 10, 11, 12, 13, 14, 15, 16, 17, 18, 19, 20, 21]]; rotate_left; kernel_rfl; kernel_rfl; kernel_rfl))
  · refine ⟨0, true, 0, 1, [], 0, 0, 0, by omega, by omega, ?_⟩
    simp [T.get_set, get_e, ints_nil]
    refine ⟨valid0, ?_⟩
    repeat (with_reducible refine Fr.set ?_ (by omega))
    exact fun b hb => rfl
theorem law8 (hl : Lst bb zz l) (kind : Int) (h : H) : CL KR 8 [.fl bb zz (ints l), .i .i64 kind] h = some (.b true, h) := by
  have hz := hl.z
  obtain ⟨_, _, ⟨b2, z2, cs, a, hz2, hb2, rfl, hok, hlen, rfl, ha⟩, hC⟩ := commands hl 8 (by omega)
  have hC' : ∀ b x t, 1024 ≤ b → t.get b = some (.cells [.fl bb zz (ints l), .i .i64 0] true) → CL KR 13 [.p b 0, .i .i64 8] ⟨x, t⟩ = _ := hC
  have hok' : ∀ x ∈ cs, x.ok := fun x hx => (hok x hx).1
  have hm1 : 0 ≤ kind.emod 6 := Int.emod_nonneg _ (by omega)
  have hm2 : kind.emod 6 < 6 := Int.emod_lt_of_pos _ (by omega)
  have hmod : ∀ h, CL KR 9 [.i .i64 kind, .i .i64 6] h = some (.i .i64 (kind.emod 6), h) := fun h => mod' kind 6 (by omega) (by omega) h
  generalize kind.emod 6 = m at hm1 hm2 hmod
  refine law0' 74 rfl Try.func8 rfl rfl (by kernel_rfl) ?_
  repeat' (first | (rewrite [SplitP_leq]; rotate_left; omega) | (rewrite [SplitP_req]; rotate_left; omega) | (rewrite [SplitP_and]; refine ⟨fun hp => ?_, fun hp => ?_⟩) | (rewrite [SplitB_leq]; rotate_left; assumption) | (rewrite [SplitB_req]; rotate_left; assumption) | (rewrite [SplitB_and]; refine ⟨fun hp => ?_, fun hp => ?_⟩) | simp (disch := first | omega | assumption | (simp (disch := omega) only [oset_same, oset_ne, T.get_del, if_neg, if_pos, true_and, and_true, List.length_cons, List.length_nil, Nat.reduceAdd, List.all_cons, List.all_nil, isI, Bool.and_self, new0 hz]; done) | (simp only [List.all_cons, List.all_nil, pl, pl1, Bool.and_self, Nat.reduceBEq, Bool.false_or, Bool.true_or, Bool.or_self, Nat.beq_refl, List.length_cons, List.length_nil, Nat.reduceAdd, Nat.reduceLT, Nat.zero_add] <;> fail) | fail) only [go_sem, ↓reduceIte, new0 hz, hC'] | (rewrite [evE_drawP 7 [0, 1, 2, 3, 4, 5, 6, 7, 9, 10, 8, 11]]; rotate_left; kernel_rfl; kernel_rfl; kernel_rfl))
  refine Ev_loop (fun r tm h' => ∃ (j : Nat) (b : Bool) (z : Nat) (st : Int) (es : List Int) (c s k : Int), r = cs.length - j ∧ j ≤ cs.length ∧ tm.get 6 = some (.fl b2 z2 (cmds cs)) ∧ tm.get 7 = some (.p 1037 0) ∧ tm.get 8 = some (.i .i64 (j : Int)) ∧ tm.get 1 = some (.i .i64 kind)
    ∧ (b || Nat.beq z 1) = true ∧ (b = true → es = []) ∧ es.length < 1000000 ∧ validB st es c s k = true
    ∧ h'.tab.get 1037 = some (.cells [.i .i64 st, .fl b z (ints es), .i .i64 c, .i .i64 s, .i .i64 k] true) ∧ Fr h' ∧ 1040 ≤ h'.next) ?_ cs.length ?_
  · rintro r tm ⟨n, t⟩ ⟨j, b, z, st, es, c, s, k, rfl, hj, g6, g7, g8, g1, hz, hb, hes, hv, t37, fr, hn⟩
    simp only at t37 hn
    have hno := fun (m : Nat) (hm : n ≤ m) => none_at (b := m) fr hm
    by_cases hjl : j < cs.length
    · obtain ⟨o1, o2, o3⟩ := hok' _ (getD_mem hjl)
      obtain ⟨b1, z1, q1, q2, q3⟩ := step st b z es c s k (cs.getD j default).kd (cs.getD j default).b (cs.getD j default).z (cs.getD j default).es (cs.getD j default).c (cs.getD j default).s (cs.getD j default).k hz hb hes o1 o2 o3
      have l1 := stS_len (r := (st, es, c, s, k)) (x := cs.getD j default) hes o3
      simp only [stS] at l1
      by_cases h0' : stepE st es c s k (cs.getD j default).kd (cs.getD j default).es (cs.getD j default).c (cs.getD j default).s (cs.getD j default).k = 0
      · have hv2 := step_valid h0'
        rw [h0'] at q3
        repeat' (first | (rewrite [SplitP_leq]; rotate_left; omega) | (rewrite [SplitP_req]; rotate_left; omega) | (rewrite [SplitP_and]; refine ⟨fun hp => ?_, fun hp => ?_⟩) | (rewrite [SplitB_leq]; rotate_left; assumption) | (rewrite [SplitB_req]; rotate_left; assumption) | (rewrite [SplitB_and]; refine ⟨fun hp => ?_, fun hp => ?_⟩) | simp (disch := first | omega | assumption | (simp only [List.all_cons, List.all_nil, pl, pl1, Bool.and_self, Nat.reduceBEq, Bool.false_or, Bool.true_or, Bool.or_self, Nat.beq_refl, List.length_cons, List.length_nil, Nat.reduceAdd, Nat.reduceLT, Nat.zero_add] <;> fail) | fail) only [go_sem, ↓reduceIte, g1, g6, g7, g8, hz2, t37, none_at fr, q3, rvR, runV] | (rewrite [evE_drawP 7 [0, 1, 2, 3, 4, 5, 6, 7, 9, 10, 8, 11]]; rotate_left; kernel_rfl; kernel_rfl; kernel_rfl))
        all_goals (
          refine ⟨cs.length - (j + 1), by omega, j + 1, b1, z1, _, _, _, _, _, rfl, by omega, rfl, q1, q2, l1, hv2, rfl, ?_, by omega⟩
          repeat (with_reducible refine Fr.set ?_ (by omega))
          exact fr.to (by omega))
      · repeat' (first | (rewrite [SplitP_leq]; rotate_left; omega) | (rewrite [SplitP_req]; rotate_left; omega) | (rewrite [SplitP_and]; refine ⟨fun hp => ?_, fun hp => ?_⟩) | (rewrite [SplitB_leq]; rotate_left; assumption) | (rewrite [SplitB_req]; rotate_left; assumption) | (rewrite [SplitB_and]; refine ⟨fun hp => ?_, fun hp => ?_⟩) | simp (disch := first | omega | assumption | (simp only [List.all_cons, List.all_nil, pl, pl1, Bool.and_self, Nat.reduceBEq, Bool.false_or, Bool.true_or, Bool.or_self, Nat.beq_refl, List.length_cons, List.length_nil, Nat.reduceAdd, Nat.reduceLT, Nat.zero_add] <;> fail) | fail) only [go_sem, ↓reduceIte, g1, g6, g7, g8, hz2, t37, none_at fr, q3, rvR, runV, h0'] | (rewrite [evE_drawP 7 [0, 1, 2, 3, 4, 5, 6, 7, 9, 10, 8, 11]]; rotate_left; kernel_rfl; kernel_rfl; kernel_rfl))
        all_goals (
          refine ⟨cs.length - (j + 1), by omega, j + 1, b, z, _, _, _, _, _, rfl, by omega, rfl, hz, hb, hes, hv, rfl, ?_, by omega⟩
          repeat (with_reducible refine Fr.set ?_ (by omega))
          exact fr.to (by omega))
    · obtain ⟨b1, z1, q1, q2, q3⟩ := step st b z es c s k (1 + m) true 0 [] 0 0 0 hz hb hes rfl (fun _ => rfl) (by simp)
      rw [ints_nil] at q3
      obtain ⟨_, ⟨b5, z5, t1, rfl⟩, t3⟩ := permitted st b z es c s k hz
      have hperm : permR st es c s k = permL st := by simp [permR, hv]
      rw [hperm] at t3
      have l3 : (permL st).length < 1000000 := by rw [← hperm]; exact permR_len
      have hw : wrapF .i64 (1 + m) = 1 + m := wrap_id (by omega) (by omega)
      repeat' (first | (rewrite [SplitP_leq]; rotate_left; omega) | (rewrite [SplitP_req]; rotate_left; omega) | (rewrite [SplitP_and]; refine ⟨fun hp => ?_, fun hp => ?_⟩) | (rewrite [SplitB_leq]; rotate_left; assumption) | (rewrite [SplitB_req]; rotate_left; assumption) | (rewrite [SplitB_and]; refine ⟨fun hp => ?_, fun hp => ?_⟩) | simp (disch := first | omega | assumption | (simp only [List.all_cons, List.all_nil, pl, pl1, Bool.and_self, Nat.reduceBEq, Bool.false_or, Bool.true_or, Bool.or_self, Nat.beq_refl, List.length_cons, List.length_nil, Nat.reduceAdd, Nat.reduceLT, Nat.zero_add] <;> fail) | fail) only [go_sem, ↓reduceIte, g1, g6, g7, g8, hz2, t37, none_at fr, q3, t3, rvR, runV, hmod, hw] | (rewrite [evE_drawP 7 [0, 1, 2, 3, 4, 5, 6, 7, 9, 10, 8, 11]]; rotate_left; kernel_rfl; kernel_rfl; kernel_rfl))
      have hE := permits (kk := 1 + m) hv (by omega) (by omega)
      rw [mem_getD] at hE
      generalize permL st = pl at hE l3 t3
      generalize stepE st es c s k (1 + m) [] 0 0 0 = ee at hE q3
      generalize 1 + m = kk at hE
      refine Ev_loop (fun r tm h' => ∃ (j : Nat) (x : Bool), r = pl.length - j ∧ j ≤ pl.length ∧ tm.get 14 = some (.fl b5 z5 (ints pl)) ∧ tm.get 16 = some (.i .i64 (j : Int)) ∧ tm.get 15 = some (.b x) ∧ tm.get 11 = some (.i .i64 kk) ∧ tm.get 13 = some (.i .i64 ee) ∧ (x = true ↔ ∃ i, i < j ∧ pl.getD i 0 = kk)) ?_ pl.length ?_
      · rintro r tm ⟨n, t⟩ ⟨j, x, rfl, hj, f14, f16, f15, f11, f13, hx⟩
        by_cases hjl : j < pl.length
        · repeat' (first | (rewrite [SplitP_leq]; rotate_left; omega) | (rewrite [SplitP_req]; rotate_left; omega) | (rewrite [SplitP_and]; refine ⟨fun hp => ?_, fun hp => ?_⟩) | (rewrite [SplitB_leq]; rotate_left; assumption) | (rewrite [SplitB_req]; rotate_left; assumption) | (rewrite [SplitB_and]; refine ⟨fun hp => ?_, fun hp => ?_⟩) | simp (disch := first | omega | assumption | (simp only [List.all_cons, List.all_nil, pl, pl1, Bool.and_self, Nat.reduceBEq, Bool.false_or, Bool.true_or, Bool.or_self, Nat.beq_refl, List.length_cons, List.length_nil, Nat.reduceAdd, Nat.reduceLT, Nat.zero_add] <;> fail) | fail) only [go_sem, ↓reduceIte, f14, f16, f15, f11, f13, t1] | (rewrite [evE_drawP 7 [0, 1, 2, 3, 4, 5, 6, 7, 9, 10, 8, 11]]; rotate_left; kernel_rfl; kernel_rfl; kernel_rfl))
          · have hp : x = true := by assumption
            exact ⟨pl.length - (j + 1), by omega, j + 1, _, rfl, by omega, rfl, rfl, ⟨fun _ => (hx.1 hp).imp fun i h => ⟨by omega, h.2⟩, fun _ => rfl⟩⟩
          · have hp : pl.getD j 0 = kk := by assumption
            exact ⟨pl.length - (j + 1), by omega, j + 1, _, rfl, by omega, rfl, rfl, ⟨fun _ => ⟨j, by omega, hp⟩, fun _ => rfl⟩⟩
          · have hq : x = false := by assumption
            have hp : ¬ pl.getD j 0 = kk := by assumption
            refine ⟨pl.length - (j + 1), by omega, j + 1, _, rfl, by omega, rfl, rfl, ⟨fun h => (by cases h), fun ⟨i, h1, h2⟩ => ?_⟩⟩
            by_cases hij : i = j
            · subst hij
              exact absurd h2 hp
            · have := hx.2 ⟨i, by omega, h2⟩
              rw [hq] at this
              cases this
        · have hj' : j = pl.length := by omega
          subst hj'
          by_cases hx1 : ∃ i, i < pl.length ∧ pl.getD i 0 = kk
          · have hxt := hx.2 hx1
            subst hxt
            have he : ¬ ee = 15 := fun e => hE.1 e hx1
            repeat' (first | (rewrite [SplitP_leq]; rotate_left; omega) | (rewrite [SplitP_req]; rotate_left; omega) | (rewrite [SplitP_and]; refine ⟨fun hp => ?_, fun hp => ?_⟩) | (rewrite [SplitB_leq]; rotate_left; assumption) | (rewrite [SplitB_req]; rotate_left; assumption) | (rewrite [SplitB_and]; refine ⟨fun hp => ?_, fun hp => ?_⟩) | simp (disch := first | omega | assumption | (simp only [List.all_cons, List.all_nil, pl, pl1, Bool.and_self, Nat.reduceBEq, Bool.false_or, Bool.true_or, Bool.or_self, Nat.beq_refl, List.length_cons, List.length_nil, Nat.reduceAdd, Nat.reduceLT, Nat.zero_add] <;> fail) | fail) only [go_sem, ↓reduceIte, f14, f16, f15, f11, f13, t1, eqV_b, he] | (rewrite [evE_drawP 7 [0, 1, 2, 3, 4, 5, 6, 7, 9, 10, 8, 11]]; rotate_left; kernel_rfl; kernel_rfl; kernel_rfl))
          · have he : ee = 15 := hE.2 hx1
            subst he
            cases x with
            | true => exact absurd (hx.1 rfl) hx1
            | false =>
              repeat' (first | (rewrite [SplitP_leq]; rotate_left; omega) | (rewrite [SplitP_req]; rotate_left; omega) | (rewrite [SplitP_and]; refine ⟨fun hp => ?_, fun hp => ?_⟩) | (rewrite [SplitB_leq]; rotate_left; assumption) | (rewrite [SplitB_req]; rotate_left; assumption) | (rewrite [SplitB_and]; refine ⟨fun hp => ?_, fun hp => ?_⟩) | simp (disch := first | omega | assumption | (simp only [List.all_cons, List.all_nil, pl, pl1, Bool.and_self, Nat.reduceBEq, Bool.false_or, Bool.true_or, Bool.or_self, Nat.beq_refl, List.length_cons, List.length_nil, Nat.reduceAdd, Nat.reduceLT, Nat.zero_add] <;> fail) | fail) only [go_sem, ↓reduceIte, f14, f16, f15, f11, f13, t1, eqV_b] | (rewrite [evE_drawP 7 [0, 1, 2, 3, 4, 5, 6, 7, 9, 10, 8, 11]]; rotate_left; kernel_rfl; kernel_rfl; kernel_rfl))
      · refine ⟨0, false, by omega, by omega, ?_⟩
        simp [T.get_set, get_e]
  · refine ⟨0, true, 0, 1, [], 0, 0, 0, by omega, by omega, ?_⟩
    simp [T.get_set, get_e, ints_nil]
    refine ⟨valid0, ?_⟩
    repeat (with_reducible refine Fr.set ?_ (by omega))
    exact fun b hb => rfl
end
end Go.Proofs.Ytbpcpcldmmfaeaa
