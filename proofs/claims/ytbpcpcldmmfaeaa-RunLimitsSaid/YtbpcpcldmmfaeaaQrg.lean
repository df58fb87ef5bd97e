/- The same row, the other road. -/
import Derived.Test.YtbpcpcldmmfaeaaQrf
open Go Go.Pe Go.Pe.HM
namespace Go.Proofs.Ytbpcpcldmmfaeaa
set_option maxRecDepth 100000
set_option maxHeartbeats 4000000
set_option linter.unusedSimpArgs false
set_option linter.unusedVariables false
theorem replayR (bb : Bool) (zz : Nat) (cs : List Cmd) (hzz : (bb || Nat.beq zz 5) = true) (hok : ∀ x ∈ cs, x.ok) (hl : cs.length < 1000000) :
    ∃ v, (∃ b1 z1, (b1 || Nat.beq z1 1) = true ∧ (b1 = true → (rep R00 cs 0).1.2.1 = []) ∧ v = .tup [rvR b1 z1 (rep R00 cs 0).1, .i .i64 ((rep R00 cs 0).2.1 : Int), .i .i64 (rep R00 cs 0).2.2]) ∧ ∀ h, CL KR 21 [.fl bb zz (cmds cs)] h = some (v, h) := by
  refine law0ex 34 rfl Try.func21 rfl rfl (by kernel_rfl) ?_
  repeat' (first | (rewrite [SplitP_leq]; rotate_left; omega) | (rewrite [SplitP_req]; rotate_left; omega) | (rewrite [SplitP_and]; refine ⟨fun hp => ?_, fun hp => ?_⟩) | (rewrite [SplitB_leq]; rotate_left; assumption) | (rewrite [SplitB_req]; rotate_left; assumption) | (rewrite [SplitB_and]; refine ⟨fun hp => ?_, fun hp => ?_⟩) | simp (disch := first | omega | assumption | (simp only [List.all_cons, List.all_nil, pl, pl1, Bool.and_self, Nat.reduceBEq, Bool.false_or, Bool.true_or, Bool.or_self, Nat.beq_refl, List.length_cons, List.length_nil, Nat.reduceAdd, Nat.reduceLT, Nat.zero_add] <;> fail) | fail) only [go_sem, ↓reduceIte, hzz] | (rewrite [evE_drawP 5 [0, 1, 2, 3, 4, 5, 6, 7, 9, 10, 8, 11]]; rotate_left; kernel_rfl; kernel_rfl; kernel_rfl))
  refine Ev_loop (fun r tm h' => ∃ (j : Nat) (b : Bool) (z : Nat) (st : Int) (es : List Int) (c s k : Int), r = cs.length - j ∧ j ≤ cs.length ∧ tm.get 2 = some (.p 1024 0) ∧ tm.get 5 = some (.p 1028 0) ∧ tm.get 6 = some (.i .i64 (j : Int)) ∧ tm.get 0 = some (.fl bb zz (cmds cs))
    ∧ (b || Nat.beq z 1) = true ∧ (b = true → es = []) ∧ es.length < 1000000 ∧ rep R00 cs 0 = rep (st, es, c, s, k) (cs.drop j) j
    ∧ h'.tab.get 1028 = some (.cells [.i .i64 st, .fl b z (ints es), .i .i64 c, .i .i64 s, .i .i64 k] true) ∧ h'.tab.get 1024 = some (.cells [.i .i64 0, .fl true 0 [], .i .i64 0, .i .i64 0, .i .i64 0] true) ∧ Fr h' ∧ 1031 ≤ h'.next) ?_ cs.length ?_
  · rintro r tm ⟨n, t⟩ ⟨j, b, z, st, es, c, s, k, rfl, hj, g2, g5, g6, g0, hz, hb, hes, hrep, t28, t24, fr, hn⟩
    simp only at t28 t24 hn
    have hno := fun (m : Nat) (hm : n ≤ m) => none_at (b := m) fr hm
    by_cases hjl : j < cs.length
    · obtain ⟨o1, o2, o3⟩ := hok _ (getD_mem hjl)
      obtain ⟨b1, z1, q1, q2, q3⟩ := stepR st b z es c s k (cs.getD j default).kd (cs.getD j default).b (cs.getD j default).z (cs.getD j default).es (cs.getD j default).c (cs.getD j default).s (cs.getD j default).k hz hb hes o1 o2 o3
      repeat' (first | (rewrite [SplitP_leq]; rotate_left; omega) | (rewrite [SplitP_req]; rotate_left; omega) | (rewrite [SplitP_and]; refine ⟨fun hp => ?_, fun hp => ?_⟩) | (rewrite [SplitB_leq]; rotate_left; assumption) | (rewrite [SplitB_req]; rotate_left; assumption) | (rewrite [SplitB_and]; refine ⟨fun hp => ?_, fun hp => ?_⟩) | simp (disch := first | omega | assumption | (simp only [List.all_cons, List.all_nil, pl, pl1, Bool.and_self, Nat.reduceBEq, Bool.false_or, Bool.true_or, Bool.or_self, Nat.beq_refl, List.length_cons, List.length_nil, Nat.reduceAdd, Nat.reduceLT, Nat.zero_add] <;> fail) | fail) only [go_sem, ↓reduceIte, g2, g5, g6, g0, hzz, t28, t24, none_at fr, q3, rvR, runV] | (rewrite [evE_drawP 5 [0, 1, 2, 3, 4, 5, 6, 7, 9, 10, 8, 11]]; rotate_left; kernel_rfl; kernel_rfl; kernel_rfl))
      · refine ⟨cs.length - (j + 1), by omega, j + 1, b1, z1, _, _, _, _, _, rfl, by omega, rfl, q1, q2, stS_len (r := (st, es, c, s, k)) (x := cs.getD j default) hes o3, ?_, rfl, ?_, by omega⟩
        · rw [hrep, rep_step hjl, if_pos (show stE (st, es, c, s, k) (cs.getD j default) = 0 from hp)]
          rfl
        · repeat (refine Fr.set ?_ (by omega))
          exact fr.to (by omega)
      · have e : rep R00 cs 0 = ((st, es, c, s, k), j, stE (st, es, c, s, k) (cs.getD j default)) := by
          rw [hrep, rep_step hjl, if_neg (show ¬ stE (st, es, c, s, k) (cs.getD j default) = 0 from hp)]
        rw [e]
        exact ⟨_, ⟨b, z, hz, hb, rfl⟩, rfl⟩
    · repeat' (first | (rewrite [SplitP_leq]; rotate_left; omega) | (rewrite [SplitP_req]; rotate_left; omega) | (rewrite [SplitP_and]; refine ⟨fun hp => ?_, fun hp => ?_⟩) | (rewrite [SplitB_leq]; rotate_left; assumption) | (rewrite [SplitB_req]; rotate_left; assumption) | (rewrite [SplitB_and]; refine ⟨fun hp => ?_, fun hp => ?_⟩) | simp (disch := first | omega | assumption | (simp only [List.all_cons, List.all_nil, pl, pl1, Bool.and_self, Nat.reduceBEq, Bool.false_or, Bool.true_or, Bool.or_self, Nat.beq_refl, List.length_cons, List.length_nil, Nat.reduceAdd, Nat.reduceLT, Nat.zero_add] <;> fail) | fail) only [go_sem, ↓reduceIte, g2, g5, g6, g0, hzz, t28, t24, none_at fr] | (rewrite [evE_drawP 5 [0, 1, 2, 3, 4, 5, 6, 7, 9, 10, 8, 11]]; rotate_left; kernel_rfl; kernel_rfl; kernel_rfl))
      have hj' : j = cs.length := by omega
      have e : rep R00 cs 0 = ((st, es, c, s, k), cs.length, 0) := by
        rw [hrep, hj', List.drop_length]
        rfl
      rw [e]
      exact ⟨_, ⟨b, z, hz, hb, rfl⟩, rfl⟩
  · refine ⟨0, true, 0, 1, [], 0, 0, 0, by omega, by omega, ?_⟩
    simp [T.get_set, get_e, ints_nil]
    refine ⟨rfl, ?_⟩
    repeat (refine Fr.set ?_ (by omega))
    exact fun b hb => rfl
end Go.Proofs.Ytbpcpcldmmfaeaa
