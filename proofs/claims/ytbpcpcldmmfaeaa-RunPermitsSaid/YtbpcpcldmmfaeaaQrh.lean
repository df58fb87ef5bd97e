/- The law of a run. -/
import Derived.Test.YtbpcpcldmmfaeaaQrg
open Go Go.Pe Go.Pe.HM
namespace Go.Proofs.Ytbpcpcldmmfaeaa
set_option maxRecDepth 100000
set_option maxHeartbeats 4000000
set_option linter.unusedSimpArgs false
set_option linter.unusedVariables false
theorem eqV_b {x y : Bool} : eqV Try.prog 10000 4 (.b x) (.b y) = some (x == y) := by rfl
theorem rep_len : ∀ (cs : List Cmd) (r : RS) (i : Nat), r.2.1.length < 1000000 → (∀ x ∈ cs, x.ok) → (rep r cs i).1.2.1.length < 1000000
  | [], r, i, h, hok => h
  | x :: xs, r, i, h, hok => by
    simp only [rep]
    split
    · exact rep_len xs _ _ (stS_len h (hok x (by simp)).2.2) (fun y hy => hok y (by simp [hy]))
    · exact h
theorem permR_len {st : Int} {es : List Int} {c s k : Int} : (permR st es c s k).length < 1000000 := by
  simp only [permR, permL]
  repeat' split
  all_goals simp
theorem law7 (st : Int) (b : Bool) (z : Nat) (es : List Int) (c s k : Int) (kd : Int) (b' : Bool) (z' : Nat) (es' : List Int) (c' s' k' : Int) (bb : Bool) (zz : Nat) (cs : List Cmd)
    (hz : (b || Nat.beq z 1) = true) (hb : b = true → es = []) (hes : es.length < 1000000) (hz' : (b' || Nat.beq z' 1) = true) (hb' : b' = true → es' = []) (hes' : es'.length < 1000000)
    (hzz : (bb || Nat.beq zz 5) = true) (hok : ∀ x ∈ cs, x.ok) (hl : cs.length < 1000000) (h : H) :
    CL KR 7 [.agg [.i .i64 st, .fl b z (ints es), .i .i64 c, .i .i64 s, .i .i64 k], .agg [.i .i64 kd, .fl b' z' (ints es'), .i .i64 c', .i .i64 s', .i .i64 k'], .fl bb zz (cmds cs)] h = some (.b true, h) := by
  obtain ⟨b1, z1, p1, p2, p3⟩ := step st b z es c s k kd b' z' es' c' s' k' hz hb hes hz' hb' hes'
  obtain ⟨b2, z2, q1, q2, q3⟩ := stepR st b z es c s k kd b' z' es' c' s' k' hz hb hes hz' hb' hes'
  obtain ⟨_, ⟨b3, z3, r1, r2, rfl⟩, r3⟩ := replay bb zz cs hzz hok hl
  obtain ⟨_, ⟨b4, z4, s1, s2, rfl⟩, s3⟩ := replayR bb zz cs hzz hok hl
  obtain ⟨_, ⟨b5, z5, t1, rfl⟩, t3⟩ := permitted st b z es c s k hz
  obtain ⟨_, ⟨b6, z6, u1, rfl⟩, u3⟩ := permittedR st b z es c s k hz
  have l1 : (stepS st es c s k kd es' c' s' k').2.1.length < 1000000 := stS_len (r := (st, es, c, s, k)) (x := ⟨kd, b', z', es', c', s', k'⟩) hes hes'
  have l2 : (rep R00 cs 0).1.2.1.length < 1000000 := rep_len cs R00 0 (by simp [R00]) hok
  have l3 : (permR st es c s k).length < 1000000 := permR_len
  refine law0' 112 rfl Try.func7 rfl rfl (by kernel_rfl) ?_
  by_cases g : es.length ≤ 40 ∧ es'.length ≤ 40 ∧ cs.length ≤ 20
  · repeat' (first | (rewrite [SplitP_leq]; rotate_left; omega) | (rewrite [SplitP_req]; rotate_left; omega) | (rewrite [SplitP_and]; refine ⟨fun hp => ?_, fun hp => ?_⟩) | (rewrite [SplitB_leq]; rotate_left; assumption) | (rewrite [SplitB_req]; rotate_left; assumption) | (rewrite [SplitB_and]; refine ⟨fun hp => ?_, fun hp => ?_⟩) | simp (disch := first | omega | assumption | (simp only [List.all_cons, List.all_nil, pl, pl1, Bool.and_self, Nat.reduceBEq, Bool.false_or, Bool.true_or, Bool.or_self, Nat.beq_refl, List.length_cons, List.length_nil, Nat.reduceAdd, Nat.reduceLT, Nat.zero_add] <;> fail) | fail) only [go_sem, ↓reduceIte, g] | (rewrite [evE_drawP 12 [0, 1, 2, 3, 4, 5, 6, 7, 8, 9, 10, 11, 12, 13, 14, 15, 16, 17, 18, 19, 20, 21, 22, 23, 24, 25, 26, 27, 28, 29, 30, 31, 32, 33, 34, 35, 36, 37, 38, 39, 40]]; rotate_left; kernel_rfl; kernel_rfl; kernel_rfl))
    refine Ev_loop (fun r tm h' => ∃ (j : Nat), r = cs.length - j ∧ j ≤ cs.length ∧ tm.get 2 = some (.fl bb zz (cmds cs)) ∧ tm.get 3 = some (.p 1024 0) ∧ tm.get 4 = some (.p 1025 0) ∧ tm.get 7 = some (.i .i64 (j : Int))
      ∧ h'.tab.get 1024 = some (.cells [.i .i64 st, .fl b z (ints es), .i .i64 c, .i .i64 s, .i .i64 k] true) ∧ h'.tab.get 1025 = some (.cells [.i .i64 kd, .fl b' z' (ints es'), .i .i64 c', .i .i64 s', .i .i64 k'] true) ∧ Fr h' ∧ 1026 ≤ h'.next) ?_ cs.length ?_
    · rintro r tm ⟨n, t⟩ ⟨j, rfl, hj, g2, g3, g4, g7, t24, t25, fr, hn⟩
      simp only at t24 t25 hn
      have hno := fun (m : Nat) (hm : n ≤ m) => none_at (b := m) fr hm
      by_cases hjl : j < cs.length
      · obtain ⟨o1, o2, o3⟩ := hok _ (getD_mem hjl)
        repeat' (first | (rewrite [SplitP_leq]; rotate_left; omega) | (rewrite [SplitP_req]; rotate_left; omega) | (rewrite [SplitP_and]; refine ⟨fun hp => ?_, fun hp => ?_⟩) | (rewrite [SplitB_leq]; rotate_left; assumption) | (rewrite [SplitB_req]; rotate_left; assumption) | (rewrite [SplitB_and]; refine ⟨fun hp => ?_, fun hp => ?_⟩) | simp (disch := first | omega | assumption | (simp only [List.all_cons, List.all_nil, pl, pl1, Bool.and_self, Nat.reduceBEq, Bool.false_or, Bool.true_or, Bool.or_self, Nat.beq_refl, List.length_cons, List.length_nil, Nat.reduceAdd, Nat.reduceLT, Nat.zero_add] <;> fail) | fail) only [go_sem, ↓reduceIte, g, g2, g3, g4, g7, hzz, t24, t25, none_at fr, awake] | (rewrite [evE_drawP 12 [0, 1, 2, 3, 4, 5, 6, 7, 8, 9, 10, 11, 12, 13, 14, 15, 16, 17, 18, 19, 20, 21, 22, 23, 24, 25, 26, 27, 28, 29, 30, 31, 32, 33, 34, 35, 36, 37, 38, 39, 40]]; rotate_left; kernel_rfl; kernel_rfl; kernel_rfl))
        exact ⟨cs.length - (j + 1), by omega, j + 1, rfl, by omega, rfl, fr.to (by omega), by omega⟩
      · repeat' (first | (rewrite [SplitP_leq]; rotate_left; omega) | (rewrite [SplitP_req]; rotate_left; omega) | (rewrite [SplitP_and]; refine ⟨fun hp => ?_, fun hp => ?_⟩) | (rewrite [SplitB_leq]; rotate_left; assumption) | (rewrite [SplitB_req]; rotate_left; assumption) | (rewrite [SplitB_and]; refine ⟨fun hp => ?_, fun hp => ?_⟩) | simp (disch := first | omega | assumption | (simp only [List.all_cons, List.all_nil, pl, pl1, Bool.and_self, Nat.reduceBEq, Bool.false_or, Bool.true_or, Bool.or_self, Nat.beq_refl, List.length_cons, List.length_nil, Nat.reduceAdd, Nat.reduceLT, Nat.zero_add] <;> fail) | fail) only [go_sem, ↓reduceIte, eqV_b, g2, g3, g4, g7, hzz, t24, t25, none_at fr, p3, q3, r3, s3, t3, u3, rvR, runV] | (rewrite [evE_drawP 12 [0, 1, 2, 3, 4, 5, 6, 7, 8, 9, 10, 11, 12, 13, 14, 15, 16, 17, 18, 19, 20, 21, 22, 23, 24, 25, 26, 27, 28, 29, 30, 31, 32, 33, 34, 35, 36, 37, 38, 39, 40]]; rotate_left; kernel_rfl; kernel_rfl; kernel_rfl))
    · refine ⟨0, by omega, by omega, ?_⟩
      simp [T.get_set, get_e, ints_nil]
      repeat (refine Fr.set ?_ (by omega))
      exact fun b hb => rfl
  · repeat' (first | (rewrite [SplitP_leq]; rotate_left; omega) | (rewrite [SplitP_req]; rotate_left; omega) | (rewrite [SplitP_and]; refine ⟨fun hp => ?_, fun hp => ?_⟩) | (rewrite [SplitB_leq]; rotate_left; assumption) | (rewrite [SplitB_req]; rotate_left; assumption) | (rewrite [SplitB_and]; refine ⟨fun hp => ?_, fun hp => ?_⟩) | simp (disch := first | omega | assumption | (simp only [List.all_cons, List.all_nil, pl, pl1, Bool.and_self, Nat.reduceBEq, Bool.false_or, Bool.true_or, Bool.or_self, Nat.beq_refl, List.length_cons, List.length_nil, Nat.reduceAdd, Nat.reduceLT, Nat.zero_add] <;> fail) | fail) only [go_sem, ↓reduceIte, g] | (rewrite [evE_drawP 12 [0, 1, 2, 3, 4, 5, 6, 7, 8, 9, 10, 11, 12, 13, 14, 15, 16, 17, 18, 19, 20, 21, 22, 23, 24, 25, 26, 27, 28, 29, 30, 31, 32, 33, 34, 35, 36, 37, 38, 39, 40]]; rotate_left; kernel_rfl; kernel_rfl; kernel_rfl))
end Go.Proofs.Ytbpcpcldmmfaeaa
