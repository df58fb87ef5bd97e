/- The law of a run, for lists of any length. -/
import Derived.Test.YtbpcpcldmmfaeaaQri
open Go Go.Pe Go.Pe.HM
namespace Go.Proofs.Ytbpcpcldmmfaeaa
set_option maxRecDepth 100000
set_option maxHeartbeats 4000000
set_option linter.unusedSimpArgs false
set_option linter.unusedVariables false
theorem law7all (st : Int) (b : Bool) (z : Nat) (es : List Int) (c s k : Int) (kd : Int) (b' : Bool) (z' : Nat) (es' : List Int) (c' s' k' : Int) (bb : Bool) (zz : Nat) (cs : List Cmd)
    (hz : (b || Nat.beq z 1) = true) (hb : b = true → es = []) (hz' : (b' || Nat.beq z' 1) = true) (hb' : b' = true → es' = [])
    (hzz : (bb || Nat.beq zz 5) = true) (hok : ∀ x ∈ cs, (x.b || Nat.beq x.z 1) = true ∧ (x.b = true → x.es = [])) (h : H) :
    CL KR 7 [.agg [.i .i64 st, .fl b z (ints es), .i .i64 c, .i .i64 s, .i .i64 k], .agg [.i .i64 kd, .fl b' z' (ints es'), .i .i64 c', .i .i64 s', .i .i64 k'], .fl bb zz (cmds cs)] h = some (.b true, h) := by
  by_cases g : es.length ≤ 40 ∧ es'.length ≤ 40 ∧ cs.length ≤ 20
  · by_cases ha : ∀ x ∈ cs, x.es.length ≤ 40
    · exact law7 st b z es c s k kd b' z' es' c' s' k' bb zz cs hz hb (by omega) hz' hb' (by omega) hzz (fun x hx => ⟨(hok x hx).1, (hok x hx).2, by have := ha x hx; omega⟩) (by omega) h
    · have ha' : ∃ x ∈ cs.drop 0, 40 < x.es.length := by
        simpa using ha
      refine law0' 112 rfl Try.func7 rfl rfl (by kernel_rfl) ?_
      repeat' (first | (rewrite [SplitP_leq]; rotate_left; omega) | (rewrite [SplitP_req]; rotate_left; omega) | (rewrite [SplitP_and]; refine ⟨fun hp => ?_, fun hp => ?_⟩) | (rewrite [SplitB_leq]; rotate_left; assumption) | (rewrite [SplitB_req]; rotate_left; assumption) | (rewrite [SplitB_and]; refine ⟨fun hp => ?_, fun hp => ?_⟩) | simp (disch := first | omega | assumption | (simp only [List.all_cons, List.all_nil, pl, pl1, Bool.and_self, Nat.reduceBEq, Bool.false_or, Bool.true_or, Bool.or_self, Nat.beq_refl, List.length_cons, List.length_nil, Nat.reduceAdd, Nat.reduceLT, Nat.zero_add] <;> fail) | fail) only [go_sem, ↓reduceIte, g] | (rewrite [evE_drawP 12 [0, 1, 2, 3, 4, 5, 6, 7, 8, 9, 10, 11, 12, 13, 14, 15, 16, 17, 18, 19, 20, 21, 22, 23, 24, 25, 26, 27, 28, 29, 30, 31, 32, 33, 34, 35, 36, 37, 38, 39, 40]]; rotate_left; kernel_rfl; kernel_rfl; kernel_rfl))
      refine Ev_loop (fun r tm h' => ∃ (j : Nat), r = cs.length - j ∧ j ≤ cs.length ∧ (∃ x ∈ cs.drop j, 40 < x.es.length) ∧ tm.get 2 = some (.fl bb zz (cmds cs)) ∧ tm.get 3 = some (.p 1024 0) ∧ tm.get 4 = some (.p 1025 0) ∧ tm.get 7 = some (.i .i64 (j : Int))
        ∧ h'.tab.get 1024 = some (.cells [.i .i64 st, .fl b z (ints es), .i .i64 c, .i .i64 s, .i .i64 k] true) ∧ h'.tab.get 1025 = some (.cells [.i .i64 kd, .fl b' z' (ints es'), .i .i64 c', .i .i64 s', .i .i64 k'] true) ∧ Fr h' ∧ 1026 ≤ h'.next) ?_ cs.length ?_
      · rintro r tm ⟨n, t⟩ ⟨j, rfl, hj, hx, g2, g3, g4, g7, t24, t25, fr, hn⟩
        simp only at t24 t25 hn
        have hno := fun (m : Nat) (hm : n ≤ m) => none_at (b := m) fr hm
        have hjl : j < cs.length := by
          obtain ⟨x, hx, _⟩ := hx
          have := List.length_pos_of_mem hx
          rw [List.length_drop] at this
          omega
        repeat' (first | (rewrite [SplitP_leq]; rotate_left; omega) | (rewrite [SplitP_req]; rotate_left; omega) | (rewrite [SplitP_and]; refine ⟨fun hp => ?_, fun hp => ?_⟩) | (rewrite [SplitB_leq]; rotate_left; assumption) | (rewrite [SplitB_req]; rotate_left; assumption) | (rewrite [SplitB_and]; refine ⟨fun hp => ?_, fun hp => ?_⟩) | simp (disch := first | omega | assumption | (simp only [List.all_cons, List.all_nil, pl, pl1, Bool.and_self, Nat.reduceBEq, Bool.false_or, Bool.true_or, Bool.or_self, Nat.beq_refl, List.length_cons, List.length_nil, Nat.reduceAdd, Nat.reduceLT, Nat.zero_add] <;> fail) | fail) only [go_sem, ↓reduceIte, g, g2, g3, g4, g7, hzz, t24, t25, none_at fr, awake] | (rewrite [evE_drawP 12 [0, 1, 2, 3, 4, 5, 6, 7, 8, 9, 10, 11, 12, 13, 14, 15, 16, 17, 18, 19, 20, 21, 22, 23, 24, 25, 26, 27, 28, 29, 30, 31, 32, 33, 34, 35, 36, 37, 38, 39, 40]]; rotate_left; kernel_rfl; kernel_rfl; kernel_rfl))
        refine ⟨cs.length - (j + 1), by omega, j + 1, rfl, by omega, ?_, rfl, fr.to (by omega), by omega⟩
        obtain ⟨x, hx, hx2⟩ := hx
        rw [drop_cons hjl] at hx
        rcases List.mem_cons.1 hx with rfl | hx
        · omega
        · exact ⟨x, hx, hx2⟩
      · refine ⟨0, by omega, by omega, ha', ?_⟩
        simp [T.get_set, get_e, ints_nil]
        repeat (refine Fr.set ?_ (by omega))
        exact fun b hb => rfl
  · refine law0' 112 rfl Try.func7 rfl rfl (by kernel_rfl) ?_
    repeat' (first | (rewrite [SplitP_leq]; rotate_left; omega) | (rewrite [SplitP_req]; rotate_left; omega) | (rewrite [SplitP_and]; refine ⟨fun hp => ?_, fun hp => ?_⟩) | (rewrite [SplitB_leq]; rotate_left; assumption) | (rewrite [SplitB_req]; rotate_left; assumption) | (rewrite [SplitB_and]; refine ⟨fun hp => ?_, fun hp => ?_⟩) | simp (disch := first | omega | assumption | (simp only [List.all_cons, List.all_nil, pl, pl1, Bool.and_self, Nat.reduceBEq, Bool.false_or, Bool.true_or, Bool.or_self, Nat.beq_refl, List.length_cons, List.length_nil, Nat.reduceAdd, Nat.reduceLT, Nat.zero_add] <;> fail) | fail) only [go_sem, ↓reduceIte, g, awake] | (rewrite [evE_drawP 12 [0, 1, 2, 3, 4, 5, 6, 7, 8, 9, 10, 11, 12, 13, 14, 15, 16, 17, 18, 19, 20, 21, 22, 23, 24, 25, 26, 27, 28, 29, 30, 31, 32, 33, 34, 35, 36, 37, 38, 39, 40]]; rotate_left; kernel_rfl; kernel_rfl; kernel_rfl))
end Go.Proofs.Ytbpcpcldmmfaeaa
