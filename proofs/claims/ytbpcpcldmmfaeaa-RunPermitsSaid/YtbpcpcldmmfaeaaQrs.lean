/- Replays of drawn commands. -/
import Derived.Test.YtbpcpcldmmfaeaaQrr
open Go Go.Pe Go.Pe.HM
namespace Go.Proofs.Ytbpcpcldmmfaeaa
set_option maxRecDepth 100000
set_option maxHeartbeats 4000000
set_option linter.unusedSimpArgs false
set_option linter.unusedVariables false
section
variable {bb : Bool} {zz : Nat} {l : List Int}
theorem new0 (hz : (bb || Nat.beq zz 1) = true) {n : Nat} : CL KR 14 [.fl bb zz (ints l)] ⟨n, .e⟩ = some (.p (n + 3) 0, ⟨n + 5, T.set (.cells [.fl bb zz (ints l), .i .i64 0] true) .e (n + 3)⟩) := new hz (fun _ _ => rfl)
theorem law4 (hl : Lst bb zz l) (h : H) : CL KR 4 [.fl bb zz (ints l)] h = some (.b true, h) := by
  have hz := hl.z
  obtain ⟨_, _, ⟨b2, z2, cs, a, hz2, hb2, rfl, hok, hlen, rfl, ha⟩, hC⟩ := commands hl 12 (by omega)
  have hC' : ∀ b x t, 1024 ≤ b → t.get b = some (.cells [.fl bb zz (ints l), .i .i64 0] true) → CL KR 13 [.p b 0, .i .i64 12] ⟨x, t⟩ = _ := hC
  have hok' : ∀ x ∈ cs, x.ok := fun x hx => (hok x hx).1
  obtain ⟨_, ⟨b3, z3, r1, r2, rfl⟩, r3⟩ := replay b2 z2 cs hz2 hok' (by omega)
  have l2 : (rep R00 cs 0).1.2.1.length < 1000000 := rep_len cs R00 0 (by simp [R00]) hok'
  have hrep : ∃ P, rep R00 cs 0 = P := ⟨_, rfl⟩
  obtain ⟨⟨⟨rt, re, rc, rs, rk⟩, rn, rr⟩, hrep⟩ := hrep
  rw [hrep] at r2 r3 l2
  simp only [rvR, runV] at r3 l2
  refine law0' 71 rfl Try.func4 rfl rfl (by kernel_rfl) ?_
  repeat' (first | (rewrite [SplitP_leq]; rotate_left; omega) | (rewrite [SplitP_req]; rotate_left; omega) | (rewrite [SplitP_and]; refine ⟨fun hp => ?_, fun hp => ?_⟩) | (rewrite [SplitB_leq]; rotate_left; assumption) | (rewrite [SplitB_req]; rotate_left; assumption) | (rewrite [SplitB_and]; refine ⟨fun hp => ?_, fun hp => ?_⟩) | simp (disch := first | omega | assumption | (simp (disch := omega) only [oset_same, oset_ne, T.get_del, if_neg, if_pos, true_and, and_true, List.length_cons, List.length_nil, Nat.reduceAdd, List.all_cons, List.all_nil, isI, Bool.and_self, new0 hz]; done) | (simp only [List.all_cons, List.all_nil, pl, pl1, Bool.and_self, Nat.reduceBEq, Bool.false_or, Bool.true_or, Bool.or_self, Nat.beq_refl, List.length_cons, List.length_nil, Nat.reduceAdd, Nat.reduceLT, Nat.zero_add] <;> fail) | fail) only [go_sem, ↓reduceIte, new0 hz, hC', r3] | (rewrite [evE_drawP 7 [0, 1, 2, 3, 4, 5, 6, 7, 9, 10, 8, 11]]; rotate_left; kernel_rfl; kernel_rfl; kernel_rfl))
  refine Ev_loop (fun r tm h' => ∃ (j : Nat) (b : Bool) (z : Nat) (st : Int) (es : List Int) (c s k : Int), r = cs.length - j ∧ j ≤ cs.length ∧ tm.get 3 = some (.fl b2 z2 (cmds cs)) ∧ tm.get 4 = some (.p 1040 0) ∧ tm.get 5 = some (.i .i64 (rn : Int)) ∧ tm.get 6 = some (.i .i64 rr) ∧ tm.get 7 = some (.p 1045 0) ∧ tm.get 8 = some (.i .i64 (j : Int))
    ∧ (b || Nat.beq z 1) = true ∧ (b = true → es = []) ∧ es.length < 1000000 ∧ rep (st, es, c, s, k) (cs.drop j) j = ((rt, re, rc, rs, rk), rn, rr)
    ∧ h'.tab.get 1045 = some (.cells [.i .i64 st, .fl b z (ints es), .i .i64 c, .i .i64 s, .i .i64 k] true) ∧ h'.tab.get 1040 = some (.cells [.i .i64 rt, .fl b3 z3 (ints re), .i .i64 rc, .i .i64 rs, .i .i64 rk] true) ∧ Fr h' ∧ 1048 ≤ h'.next) ?_ cs.length ?_
  · rintro r tm ⟨n, t⟩ ⟨j, b, z, st, es, c, s, k, rfl, hj, g3, g4, g5, g6, g7, g8, hz, hb, hes, hrep2, t45, t40, fr, hn⟩
    simp only at t45 t40 hn
    have hno := fun (m : Nat) (hm : n ≤ m) => none_at (b := m) fr hm
    by_cases hjl : j < cs.length
    · obtain ⟨o1, o2, o3⟩ := hok' _ (getD_mem hjl)
      obtain ⟨b1, z1, q1, q2, q3⟩ := step st b z es c s k (cs.getD j default).kd (cs.getD j default).b (cs.getD j default).z (cs.getD j default).es (cs.getD j default).c (cs.getD j default).s (cs.getD j default).k hz hb hes o1 o2 o3
      rw [rep_step hjl] at hrep2
      by_cases h0 : stE (st, es, c, s, k) (cs.getD j default) = 0
      · rw [if_pos h0] at hrep2
        have h0' : stepE st es c s k (cs.getD j default).kd (cs.getD j default).es (cs.getD j default).c (cs.getD j default).s (cs.getD j default).k = 0 := h0
        rw [h0'] at q3
        repeat' (first | (rewrite [SplitP_leq]; rotate_left; omega) | (rewrite [SplitP_req]; rotate_left; omega) | (rewrite [SplitP_and]; refine ⟨fun hp => ?_, fun hp => ?_⟩) | (rewrite [SplitB_leq]; rotate_left; assumption) | (rewrite [SplitB_req]; rotate_left; assumption) | (rewrite [SplitB_and]; refine ⟨fun hp => ?_, fun hp => ?_⟩) | simp (disch := first | omega | assumption | (simp only [List.all_cons, List.all_nil, pl, pl1, Bool.and_self, Nat.reduceBEq, Bool.false_or, Bool.true_or, Bool.or_self, Nat.beq_refl, List.length_cons, List.length_nil, Nat.reduceAdd, Nat.reduceLT, Nat.zero_add] <;> fail) | fail) only [go_sem, ↓reduceIte, g3, g4, g5, g6, g7, g8, hz2, t45, t40, none_at fr, q3, rvR, runV] | (rewrite [evE_drawP 7 [0, 1, 2, 3, 4, 5, 6, 7, 9, 10, 8, 11]]; rotate_left; kernel_rfl; kernel_rfl; kernel_rfl))
        refine ⟨cs.length - (j + 1), by omega, j + 1, b1, z1, _, _, _, _, _, rfl, by omega, rfl, q1, q2, stS_len (r := (st, es, c, s, k)) (x := cs.getD j default) hes o3, hrep2, rfl, ?_, by omega⟩
        repeat (with_reducible refine Fr.set ?_ (by omega))
        exact fr.to (by omega)
      · rw [if_neg h0] at hrep2
        simp only [Prod.mk.injEq] at hrep2
        obtain ⟨⟨rfl, rfl, rfl, rfl, rfl⟩, rfl, h1⟩ := hrep2
        have h1' : stepE st es c s k (cs.getD j default).kd (cs.getD j default).es (cs.getD j default).c (cs.getD j default).s (cs.getD j default).k = rr := h1
        rw [h1'] at q3
        have h0' : ¬ rr = 0 := by rw [← h1']; exact h0
        repeat' (first | (rewrite [SplitP_leq]; rotate_left; omega) | (rewrite [SplitP_req]; rotate_left; omega) | (rewrite [SplitP_and]; refine ⟨fun hp => ?_, fun hp => ?_⟩) | (rewrite [SplitB_leq]; rotate_left; assumption) | (rewrite [SplitB_req]; rotate_left; assumption) | (rewrite [SplitB_and]; refine ⟨fun hp => ?_, fun hp => ?_⟩) | simp (disch := first | omega | assumption | (simp only [List.all_cons, List.all_nil, pl, pl1, Bool.and_self, Nat.reduceBEq, Bool.false_or, Bool.true_or, Bool.or_self, Nat.beq_refl, List.length_cons, List.length_nil, Nat.reduceAdd, Nat.reduceLT, Nat.zero_add] <;> fail) | fail) only [go_sem, ↓reduceIte, g3, g4, g5, g6, g7, g8, hz2, t45, t40, none_at fr, q3, rvR, runV, h0'] | (rewrite [evE_drawP 7 [0, 1, 2, 3, 4, 5, 6, 7, 9, 10, 8, 11]]; rotate_left; kernel_rfl; kernel_rfl; kernel_rfl))
        all_goals (first | omega | (rename_i hp; exact absurd ⟨rfl, rfl, rfl, rfl, rfl⟩ hp))
    · have hj' : j = cs.length := by omega
      subst hj'
      rw [List.drop_length] at hrep2
      simp only [rep, Prod.mk.injEq] at hrep2
      obtain ⟨⟨rfl, rfl, rfl, rfl, rfl⟩, rfl, rfl⟩ := hrep2
      repeat' (first | (rewrite [SplitP_leq]; rotate_left; omega) | (rewrite [SplitP_req]; rotate_left; omega) | (rewrite [SplitP_and]; refine ⟨fun hp => ?_, fun hp => ?_⟩) | (rewrite [SplitB_leq]; rotate_left; assumption) | (rewrite [SplitB_req]; rotate_left; assumption) | (rewrite [SplitB_and]; refine ⟨fun hp => ?_, fun hp => ?_⟩) | simp (disch := first | omega | assumption | (simp only [List.all_cons, List.all_nil, pl, pl1, Bool.and_self, Nat.reduceBEq, Bool.false_or, Bool.true_or, Bool.or_self, Nat.beq_refl, List.length_cons, List.length_nil, Nat.reduceAdd, Nat.reduceLT, Nat.zero_add] <;> fail) | fail) only [go_sem, ↓reduceIte, g3, g4, g5, g6, g7, g8, hz2, t45, t40, none_at fr] | (rewrite [evE_drawP 7 [0, 1, 2, 3, 4, 5, 6, 7, 9, 10, 8, 11]]; rotate_left; kernel_rfl; kernel_rfl; kernel_rfl))
      all_goals (first | omega | (rename_i hp; exact absurd ⟨rfl, rfl, rfl, rfl, rfl⟩ hp))
  · refine ⟨0, true, 0, 1, [], 0, 0, 0, by omega, by omega, ?_⟩
    simp [T.get_set, get_e, ints_nil]
    refine ⟨hrep, ?_⟩
    repeat (with_reducible refine Fr.set ?_ (by omega))
    exact fun b hb => rfl
end
end Go.Proofs.Ytbpcpcldmmfaeaa
