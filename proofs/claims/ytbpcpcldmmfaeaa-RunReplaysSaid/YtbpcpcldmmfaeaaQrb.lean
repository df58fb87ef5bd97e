/- The functions of the runs that go through a list of numbers. -/
import Derived.Test.YtbpcpcldmmfaeaaQra
open Go Go.Pe Go.Pe.HM
namespace Go.Proofs.Ytbpcpcldmmfaeaa
set_option maxRecDepth 100000
set_option maxHeartbeats 4000000
set_option linter.unusedSimpArgs false
set_option linter.unusedVariables false
def ints (xs : List Int) : List PV := xs.map (.i .i64)
theorem ints_len (xs : List Int) : (ints xs).length = xs.length := by simp [ints]
theorem ints_get {xs : List Int} {j : Nat} (h : j < xs.length) : (ints xs)[j]? = some (.i .i64 (xs.getD j 0)) := by simp [ints, h]
theorem flat_ints : ∀ xs : List Int, flatL (ints xs) = ints xs
  | [] => rfl
  | x :: xs => by simp only [ints, List.map_cons, flatL, PV.cells, List.cons_append, List.nil_append]; congr 1; exact flat_ints xs
theorem ints_pl (xs : List Int) : (ints xs).all pl1 = true := by simp [ints, pl1]
theorem ints_one (xs : List Int) : (ints xs).all PV.one = true := by simp [ints, PV.one]
theorem ints_take (xs : List Int) : takeX xs.length (ints xs) = some (ints xs) := by
  induction xs with
  | nil => rfl
  | cons x xs ih => simp only [ints, List.map_cons, List.length_cons, takeX] at ih ⊢; rw [ih]
theorem getD_some {xs : List Int} {i : Nat} {z : Int} (h : xs[i]? = some z) : xs.getD i 0 = z := by rw [List.getD_eq_getElem?_getD, h]; rfl
theorem some_getD {xs : List Int} {i : Nat} (h : i < xs.length) : xs[i]? = some (xs.getD i 0) := by simp [h]
attribute [go_sem] ints_len ints_get wrap_add1 wrap_sub1 flat_ints ints_pl ints_one
/-- the first place of a number, or -1 -/
def idx (y : Int) : List Int → Int
  | [] => -1
  | x :: xs => if x = y then 0 else if idx y xs < 0 then -1 else idx y xs + 1
theorem idx_no {y : Int} : ∀ {xs : List Int}, (∀ (i : Nat) z, xs[i]? = some z → z ≠ y) → idx y xs = -1
  | [], _ => rfl
  | x :: xs, h => by
    have h1 : x ≠ y := h 0 x rfl
    have h2 := idx_no (y := y) (xs := xs) fun i z hz => h (i + 1) z (by simpa using hz)
    simp [idx, h1, h2]
theorem idx_at {y : Int} : ∀ {xs : List Int} {j : Nat}, (∀ i z, i < j → xs[i]? = some z → z ≠ y) → xs[j]? = some y → idx y xs = j
  | [], j, _, h => by simp at h
  | x :: xs, 0, _, h => by
    simp only [List.getElem?_cons_zero, Option.some.injEq] at h
    simp [idx, h]
  | x :: xs, j + 1, h, hj => by
    have h1 : x ≠ y := h 0 x (by omega) rfl
    have h2 := idx_at (y := y) (xs := xs) (j := j) (fun i z hi hz => h (i + 1) z (by omega) (by simpa using hz)) (by simpa using hj)
    simp only [idx, h1, if_false, h2]
    rw [if_neg (by omega)]
    omega
theorem idx_mem {y : Int} : ∀ {xs : List Int}, 0 ≤ idx y xs ↔ y ∈ xs
  | [] => by simp [idx]
  | x :: xs => by
    have h := idx_mem (y := y) (xs := xs)
    simp only [idx, List.mem_cons]
    by_cases h1 : x = y
    · simp [h1]
    · rw [if_neg h1]
      by_cases h2 : idx y xs < 0
      · rw [if_pos h2]
        constructor
        · intro h3; omega
        · rintro (h3 | h3)
          · exact absurd h3.symm h1
          · have := h.2 h3; omega
      · rw [if_neg h2]
        constructor
        · intro _; exact .inr (h.1 (by omega))
        · intro _; omega

theorem index (b : Bool) (z : Nat) (xs : List Int) (y : Int) (hz : (b || Nat.beq z 1) = true) (hl : xs.length < 1000000) (h : H) : CL KR 36 [.fl b z (ints xs), .i .i64 y] h = some (.i .i64 (idx y xs), h) := by
  refine law0' 19 rfl Try.func36 rfl rfl (by kernel_rfl) ?_
  repeat' (first | (rewrite [SplitP_leq]; rotate_left; omega) | (rewrite [SplitP_req]; rotate_left; omega) | (rewrite [SplitP_and]; refine ⟨fun hp => ?_, fun hp => ?_⟩) | (rewrite [SplitB_leq]; rotate_left; assumption) | (rewrite [SplitB_req]; rotate_left; assumption) | (rewrite [SplitB_and]; refine ⟨fun hp => ?_, fun hp => ?_⟩) | simp (disch := first | omega | assumption | (simp only [List.all_cons, List.all_nil, pl, pl1, Bool.and_self, Nat.reduceBEq, Bool.false_or, Bool.true_or, Bool.or_self, Nat.beq_refl, List.length_cons, List.length_nil, Nat.reduceAdd, Nat.reduceLT, Nat.zero_add] <;> fail) | fail) only [go_sem, ↓reduceIte] | fail)
  refine Ev_loop (fun r tm h' => ∃ j : Nat, r = xs.length - j ∧ j ≤ xs.length ∧ tm.get 0 = some (.fl b z (ints xs)) ∧ tm.get 1 = some (.i .i64 y) ∧ tm.get 7 = some (.i .i64 (xs.length : Int)) ∧ tm.get 8 = some (.i .i64 (j : Int)) ∧ (∀ i, i < j → xs.getD i 0 ≠ y) ∧ h'.tab = .e) ?_ xs.length ?_
  · rintro r tm ⟨n, t⟩ ⟨j, rfl, hj, g0, g1, g7, g8, hno, rfl⟩
    repeat' (first | (rewrite [SplitP_leq]; rotate_left; omega) | (rewrite [SplitP_req]; rotate_left; omega) | (rewrite [SplitP_and]; refine ⟨fun hp => ?_, fun hp => ?_⟩) | (rewrite [SplitB_leq]; rotate_left; assumption) | (rewrite [SplitB_req]; rotate_left; assumption) | (rewrite [SplitB_and]; refine ⟨fun hp => ?_, fun hp => ?_⟩) | simp (disch := first | omega | assumption | (simp only [List.all_cons, List.all_nil, pl, pl1, Bool.and_self, Nat.reduceBEq, Bool.false_or, Bool.true_or, Bool.or_self, Nat.beq_refl, List.length_cons, List.length_nil, Nat.reduceAdd, Nat.reduceLT, Nat.zero_add] <;> fail) | fail) only [go_sem, ↓reduceIte, g0, g1, g7, g8, hz] | fail)
    · rw [idx_at (fun i z hi hz => by rw [← getD_some hz]; exact hno i hi) (by rw [hp]; exact some_getD (by omega))]
    · refine ⟨xs.length - (j + 1), by omega, j + 1, rfl, by omega, rfl, fun i hi => ?_⟩
      by_cases hij : i = j
      · rw [hij]; exact fun e => hp e.symm
      · exact hno i (by omega)
    · rw [idx_no fun i z hz => by rw [← getD_some hz]; exact hno i (by have := (List.getElem?_eq_some_iff.1 hz).1; omega)]
  · refine ⟨0, by omega, by omega, ?_⟩
    simp [T.get_set, get_e]
attribute [go_sem] index
theorem contains (b : Bool) (z : Nat) (xs : List Int) (y : Int) (hz : (b || Nat.beq z 1) = true) (hl : xs.length < 1000000) (h : H) : CL KR 25 [.fl b z (ints xs), .i .i64 y] h = some (.b (decide (y ∈ xs)), h) := by
  refine law0' 9 rfl Try.func25 rfl rfl (by kernel_rfl) ?_
  repeat' (first | (rewrite [SplitP_leq]; rotate_left; omega) | (rewrite [SplitP_req]; rotate_left; omega) | (rewrite [SplitP_and]; refine ⟨fun hp => ?_, fun hp => ?_⟩) | (rewrite [SplitB_leq]; rotate_left; assumption) | (rewrite [SplitB_req]; rotate_left; assumption) | (rewrite [SplitB_and]; refine ⟨fun hp => ?_, fun hp => ?_⟩) | simp (disch := first | omega | assumption | (simp only [List.all_cons, List.all_nil, pl, pl1, Bool.and_self, Nat.reduceBEq, Bool.false_or, Bool.true_or, Bool.or_self, Nat.beq_refl, List.length_cons, List.length_nil, Nat.reduceAdd, Nat.reduceLT, Nat.zero_add] <;> fail) | fail) only [go_sem, ↓reduceIte, hz] | fail)
  all_goals (rw [idx_mem] at hp; simp [hp])
attribute [go_sem] contains
theorem intsEq (b : Bool) (z : Nat) (xs : List Int) (b' : Bool) (z' : Nat) (ys : List Int) (hz : (b || Nat.beq z 1) = true) (hz' : (b' || Nat.beq z' 1) = true) (hl : xs.length < 1000000) (h : H) : CL KR 18 [.fl b z (ints xs), .fl b' z' (ints ys)] h = some (.b (decide (xs = ys)), h) := by
  refine law0' 26 rfl Try.func18 rfl rfl (by kernel_rfl) ?_
  repeat' (first | (rewrite [SplitP_leq]; rotate_left; omega) | (rewrite [SplitP_req]; rotate_left; omega) | (rewrite [SplitP_and]; refine ⟨fun hp => ?_, fun hp => ?_⟩) | (rewrite [SplitB_leq]; rotate_left; assumption) | (rewrite [SplitB_req]; rotate_left; assumption) | (rewrite [SplitB_and]; refine ⟨fun hp => ?_, fun hp => ?_⟩) | simp (disch := first | omega | assumption | (simp only [List.all_cons, List.all_nil, pl, pl1, Bool.and_self, Nat.reduceBEq, Bool.false_or, Bool.true_or, Bool.or_self, Nat.beq_refl, List.length_cons, List.length_nil, Nat.reduceAdd, Nat.reduceLT, Nat.zero_add] <;> fail) | fail) only [go_sem, ↓reduceIte] | (rewrite [evE_drawP 6 [0, 1, 2, 3, 4, 5, 6, 7, 8]]; rotate_left; kernel_rfl; kernel_rfl; kernel_rfl))
  rotate_left
  · simp
    intro e; exact hp (by rw [e])
  have hp' : ys.length = xs.length := by omega
  refine Ev_loop (fun r tm h' => ∃ j : Nat, r = xs.length - j ∧ j ≤ xs.length ∧ tm.get 0 = some (.fl b z (ints xs)) ∧ tm.get 1 = some (.fl b' z' (ints ys)) ∧ tm.get 5 = some (.i .i64 (j : Int)) ∧ (∀ i, i < j → xs.getD i 0 = ys.getD i 0) ∧ h'.tab = .e) ?_ xs.length ?_
  · rintro r tm ⟨n, t⟩ ⟨j, rfl, hj, g0, g1, g8, hno, rfl⟩
    repeat' (first | (rewrite [SplitP_leq]; rotate_left; omega) | (rewrite [SplitP_req]; rotate_left; omega) | (rewrite [SplitP_and]; refine ⟨fun hp => ?_, fun hp => ?_⟩) | (rewrite [SplitB_leq]; rotate_left; assumption) | (rewrite [SplitB_req]; rotate_left; assumption) | (rewrite [SplitB_and]; refine ⟨fun hp => ?_, fun hp => ?_⟩) | simp (disch := first | omega | assumption | (simp only [List.all_cons, List.all_nil, pl, pl1, Bool.and_self, Nat.reduceBEq, Bool.false_or, Bool.true_or, Bool.or_self, Nat.beq_refl, List.length_cons, List.length_nil, Nat.reduceAdd, Nat.reduceLT, Nat.zero_add] <;> fail) | fail) only [go_sem, ↓reduceIte, g0, g1, g8, hz, hz'] | (rewrite [evE_drawP 6 [0, 1, 2, 3, 4, 5, 6, 7, 8]]; rotate_left; kernel_rfl; kernel_rfl; kernel_rfl))
    · refine ⟨xs.length - (j + 1), by omega, j + 1, rfl, by omega, rfl, fun i hi => ?_⟩
      by_cases hij : i = j
      · rw [hij]; exact hp
      · exact hno i (by omega)
    · simp
      intro e; exact hp (by rw [e])
    · have : xs = ys := List.ext_getElem hp'.symm fun i h1 h2 => by
        have := hno i (by omega)
        simpa [h1, h2] using this
      simp [this]
  · refine ⟨0, by omega, by omega, ?_⟩
    simp [T.get_set, get_e]
attribute [go_sem] intsEq

/-- a list of employees as it must be -/
def Emp (xs : List Int) : Prop := xs ≠ [] ∧ xs.length ≤ 4096 ∧ (∀ i, i < xs.length → 1 ≤ xs.getD i 0 ∧ xs.getD i 0 ≤ 2147483647) ∧ ∀ i, i + 1 < xs.length → xs.getD i 0 < xs.getD (i + 1) 0
theorem inc_le {xs : List Int} (h : ∀ i, i + 1 < xs.length → xs.getD i 0 < xs.getD (i + 1) 0) : ∀ (d i : Nat), i + d < xs.length → xs.getD i 0 ≤ xs.getD (i + d) 0
  | 0, i, _ => Int.le_refl _
  | d + 1, i, hd => by
    have h1 := inc_le h d i (by omega)
    have h2 := h (i + d) (by omega)
    rw [← Nat.add_assoc]
    omega
open Classical in
noncomputable def empB (xs : List Int) : Bool := decide (Emp xs)
theorem empB_true {xs : List Int} (h : Emp xs) : empB xs = true := by simp [empB, h]
theorem empB_false {xs : List Int} (h : ¬ Emp xs) : empB xs = false := by simp [empB, h]
theorem emp (b : Bool) (z : Nat) (xs : List Int) (hz : (b || Nat.beq z 1) = true) (h : H) : CL KR 27 [.fl b z (ints xs)] h = some (.b (empB xs), h) := by
  refine law0' 43 rfl Try.func27 rfl rfl (by kernel_rfl) ?_
  by_cases c0 : xs = []
  · subst c0
    have e0 : ints [] = [] := rfl
    rw [empB_false fun e => e.1 rfl]
    repeat' (first | (rewrite [SplitP_leq]; rotate_left; omega) | (rewrite [SplitP_req]; rotate_left; omega) | (rewrite [SplitP_and]; refine ⟨fun hp => ?_, fun hp => ?_⟩) | (rewrite [SplitB_leq]; rotate_left; assumption) | (rewrite [SplitB_req]; rotate_left; assumption) | (rewrite [SplitB_and]; refine ⟨fun hp => ?_, fun hp => ?_⟩) | simp (disch := first | omega | assumption | (simp only [List.all_cons, List.all_nil, pl, pl1, Bool.and_self, Nat.reduceBEq, Bool.false_or, Bool.true_or, Bool.or_self, Nat.beq_refl, List.length_cons, List.length_nil, Nat.reduceAdd, Nat.reduceLT, Nat.zero_add] <;> fail) | fail) only [go_sem, ↓reduceIte, e0, Int.natCast_zero] | (rewrite [evE_drawP 6 [0, 1, 2, 3, 4, 5, 6, 7, 8, 9]]; rotate_left; kernel_rfl; kernel_rfl; kernel_rfl))
  have hlen : 0 < xs.length := List.length_pos_iff.2 c0
  by_cases c1 : 4096 < xs.length
  · rw [empB_false fun e => by have := e.2.1; omega]
    repeat' (first | (rewrite [SplitP_leq]; rotate_left; omega) | (rewrite [SplitP_req]; rotate_left; omega) | (rewrite [SplitP_and]; refine ⟨fun hp => ?_, fun hp => ?_⟩) | (rewrite [SplitB_leq]; rotate_left; assumption) | (rewrite [SplitB_req]; rotate_left; assumption) | (rewrite [SplitB_and]; refine ⟨fun hp => ?_, fun hp => ?_⟩) | simp (disch := first | omega | assumption | (simp only [List.all_cons, List.all_nil, pl, pl1, Bool.and_self, Nat.reduceBEq, Bool.false_or, Bool.true_or, Bool.or_self, Nat.beq_refl, List.length_cons, List.length_nil, Nat.reduceAdd, Nat.reduceLT, Nat.zero_add] <;> fail) | fail) only [go_sem, ↓reduceIte, hz] | (rewrite [evE_drawP 6 [0, 1, 2, 3, 4, 5, 6, 7, 8, 9]]; rotate_left; kernel_rfl; kernel_rfl; kernel_rfl))
  repeat' (first | (rewrite [SplitP_leq]; rotate_left; omega) | (rewrite [SplitP_req]; rotate_left; omega) | (rewrite [SplitP_and]; refine ⟨fun hp => ?_, fun hp => ?_⟩) | (rewrite [SplitB_leq]; rotate_left; assumption) | (rewrite [SplitB_req]; rotate_left; assumption) | (rewrite [SplitB_and]; refine ⟨fun hp => ?_, fun hp => ?_⟩) | simp (disch := first | omega | assumption | (simp only [List.all_cons, List.all_nil, pl, pl1, Bool.and_self, Nat.reduceBEq, Bool.false_or, Bool.true_or, Bool.or_self, Nat.beq_refl, List.length_cons, List.length_nil, Nat.reduceAdd, Nat.reduceLT, Nat.zero_add] <;> fail) | fail) only [go_sem, ↓reduceIte, hz] | (rewrite [evE_drawP 6 [0, 1, 2, 3, 4, 5, 6, 7, 8, 9]]; rotate_left; kernel_rfl; kernel_rfl; kernel_rfl))
  · rw [empB_false fun e => by have := (e.2.2.1 0 hlen).1; omega]
  · rw [empB_false fun e => by have := (e.2.2.1 (xs.length - 1) (by omega)).2; omega]
  rename_i hp1
  refine Ev_loop (fun r tm h' => ∃ j : Nat, r = xs.length - j ∧ 1 ≤ j ∧ j ≤ xs.length ∧ tm.get 0 = some (.fl b z (ints xs)) ∧ tm.get 3 = some (.i .i64 (j : Int)) ∧ (∀ i, i + 1 < j → xs.getD i 0 < xs.getD (i + 1) 0) ∧ h'.tab = .e) ?_ (xs.length - 1) ?_
  · rintro r tm ⟨n, t⟩ ⟨j, rfl, h1j, hj, g0, g3, hno, rfl⟩
    repeat' (first | (rewrite [SplitP_leq]; rotate_left; omega) | (rewrite [SplitP_req]; rotate_left; omega) | (rewrite [SplitP_and]; refine ⟨fun hp => ?_, fun hp => ?_⟩) | (rewrite [SplitB_leq]; rotate_left; assumption) | (rewrite [SplitB_req]; rotate_left; assumption) | (rewrite [SplitB_and]; refine ⟨fun hp => ?_, fun hp => ?_⟩) | simp (disch := first | omega | assumption | (simp only [List.all_cons, List.all_nil, pl, pl1, Bool.and_self, Nat.reduceBEq, Bool.false_or, Bool.true_or, Bool.or_self, Nat.beq_refl, List.length_cons, List.length_nil, Nat.reduceAdd, Nat.reduceLT, Nat.zero_add] <;> fail) | fail) only [go_sem, ↓reduceIte, g0, g3, hz] | (rewrite [evE_drawP 6 [0, 1, 2, 3, 4, 5, 6, 7, 8, 9]]; rotate_left; kernel_rfl; kernel_rfl; kernel_rfl))
    · rw [empB_false fun e => by have := e.2.2.2 (j - 1) (by omega); rw [show j - 1 + 1 = j by omega] at this; omega]
    · rename_i hp2 hp3
      refine ⟨xs.length - (j + 1), by omega, j + 1, rfl, by omega, by omega, rfl, fun i hi => ?_⟩
      by_cases hij : i + 1 = j
      · subst hij
        simp only [Nat.add_sub_cancel] at hp
        omega
      · exact hno i (by omega)
    · have hmono : ∀ i, i + 1 < xs.length → xs.getD i 0 < xs.getD (i + 1) 0 := fun i hi => hno i (by omega)
      rw [empB_true ⟨c0, by omega, fun i hi => ?_, hmono⟩]
      have h1 := inc_le hmono i 0 (by omega)
      have h2 := inc_le hmono (xs.length - 1 - i) i (by omega)
      rw [Nat.zero_add] at h1
      rw [show i + (xs.length - 1 - i) = xs.length - 1 by omega] at h2
      omega
  · refine ⟨1, by omega, by omega, by omega, ?_⟩
    simp [T.get_set, get_e]
theorem empR (b : Bool) (z : Nat) (xs : List Int) (hz : (b || Nat.beq z 1) = true) (h : H) : CL KR 34 [.fl b z (ints xs)] h = some (.b (empB xs), h) := by
  refine law0' 46 rfl Try.func34 rfl rfl (by kernel_rfl) ?_
  by_cases c0 : xs = []
  · subst c0
    have e0 : ints [] = [] := rfl
    rw [empB_false fun e => e.1 rfl]
    repeat' (first | (rewrite [SplitP_leq]; rotate_left; omega) | (rewrite [SplitP_req]; rotate_left; omega) | (rewrite [SplitP_and]; refine ⟨fun hp => ?_, fun hp => ?_⟩) | (rewrite [SplitB_leq]; rotate_left; assumption) | (rewrite [SplitB_req]; rotate_left; assumption) | (rewrite [SplitB_and]; refine ⟨fun hp => ?_, fun hp => ?_⟩) | simp (disch := first | omega | assumption | (simp only [List.all_cons, List.all_nil, pl, pl1, Bool.and_self, Nat.reduceBEq, Bool.false_or, Bool.true_or, Bool.or_self, Nat.beq_refl, List.length_cons, List.length_nil, Nat.reduceAdd, Nat.reduceLT, Nat.zero_add] <;> fail) | fail) only [go_sem, ↓reduceIte, e0, Int.natCast_zero] | (rewrite [evE_drawP 6 [0, 1, 2, 3, 4, 5, 6, 7, 8, 9, 10, 11, 12, 13, 14, 15, 16, 17, 18, 19, 20, 21, 22, 23, 24, 25, 26, 27]]; rotate_left; kernel_rfl; kernel_rfl; kernel_rfl))
  have hlen : 0 < xs.length := List.length_pos_iff.2 c0
  by_cases c1 : 4096 < xs.length
  · rw [empB_false fun e => by have := e.2.1; omega]
    repeat' (first | (rewrite [SplitP_leq]; rotate_left; omega) | (rewrite [SplitP_req]; rotate_left; omega) | (rewrite [SplitP_and]; refine ⟨fun hp => ?_, fun hp => ?_⟩) | (rewrite [SplitB_leq]; rotate_left; assumption) | (rewrite [SplitB_req]; rotate_left; assumption) | (rewrite [SplitB_and]; refine ⟨fun hp => ?_, fun hp => ?_⟩) | simp (disch := first | omega | assumption | (simp only [List.all_cons, List.all_nil, pl, pl1, Bool.and_self, Nat.reduceBEq, Bool.false_or, Bool.true_or, Bool.or_self, Nat.beq_refl, List.length_cons, List.length_nil, Nat.reduceAdd, Nat.reduceLT, Nat.zero_add] <;> fail) | fail) only [go_sem, ↓reduceIte, hz] | (rewrite [evE_drawP 6 [0, 1, 2, 3, 4, 5, 6, 7, 8, 9, 10, 11, 12, 13, 14, 15, 16, 17, 18, 19, 20, 21, 22, 23, 24, 25, 26, 27]]; rotate_left; kernel_rfl; kernel_rfl; kernel_rfl))
  repeat' (first | (rewrite [SplitP_leq]; rotate_left; omega) | (rewrite [SplitP_req]; rotate_left; omega) | (rewrite [SplitP_and]; refine ⟨fun hp => ?_, fun hp => ?_⟩) | (rewrite [SplitB_leq]; rotate_left; assumption) | (rewrite [SplitB_req]; rotate_left; assumption) | (rewrite [SplitB_and]; refine ⟨fun hp => ?_, fun hp => ?_⟩) | simp (disch := first | omega | assumption | (simp only [List.all_cons, List.all_nil, pl, pl1, Bool.and_self, Nat.reduceBEq, Bool.false_or, Bool.true_or, Bool.or_self, Nat.beq_refl, List.length_cons, List.length_nil, Nat.reduceAdd, Nat.reduceLT, Nat.zero_add] <;> fail) | fail) only [go_sem, ↓reduceIte, hz] | (rewrite [evE_drawP 6 [0, 1, 2, 3, 4, 5, 6, 7, 8, 9, 10, 11, 12, 13, 14, 15, 16, 17, 18, 19, 20, 21, 22, 23, 24, 25, 26, 27]]; rotate_left; kernel_rfl; kernel_rfl; kernel_rfl))
  refine Ev_loop (fun r tm h' => ∃ j : Nat, r = xs.length - j ∧ j ≤ xs.length ∧ tm.get 0 = some (.fl b z (ints xs)) ∧ tm.get 3 = some (.i .i64 (j : Int)) ∧ (∀ i, i < j → 1 ≤ xs.getD i 0 ∧ xs.getD i 0 ≤ 2147483647) ∧ (∀ i, i + 1 < j → xs.getD i 0 < xs.getD (i + 1) 0) ∧ h'.tab = .e) ?_ xs.length ?_
  · rintro r tm ⟨n, t⟩ ⟨j, rfl, hj, g0, g3, hra, hno, rfl⟩
    repeat' (first | (rewrite [SplitP_leq]; rotate_left; omega) | (rewrite [SplitP_req]; rotate_left; omega) | (rewrite [SplitP_and]; refine ⟨fun hp => ?_, fun hp => ?_⟩) | (rewrite [SplitB_leq]; rotate_left; assumption) | (rewrite [SplitB_req]; rotate_left; assumption) | (rewrite [SplitB_and]; refine ⟨fun hp => ?_, fun hp => ?_⟩) | simp (disch := first | omega | assumption | (simp only [List.all_cons, List.all_nil, pl, pl1, Bool.and_self, Nat.reduceBEq, Bool.false_or, Bool.true_or, Bool.or_self, Nat.beq_refl, List.length_cons, List.length_nil, Nat.reduceAdd, Nat.reduceLT, Nat.zero_add] <;> fail) | fail) only [go_sem, ↓reduceIte, g0, g3, hz] | (rewrite [evE_drawP 6 [0, 1, 2, 3, 4, 5, 6, 7, 8, 9, 10, 11, 12, 13, 14, 15, 16, 17, 18, 19, 20, 21, 22, 23, 24, 25, 26, 27]]; rotate_left; kernel_rfl; kernel_rfl; kernel_rfl))
    · rw [empB_false fun e => by have := (e.2.2.1 j (by omega)).1; omega]
    · rw [empB_false fun e => by have := (e.2.2.1 j (by omega)).2; omega]
    · rw [empB_false fun e => by have := e.2.2.2 (j - 1) (by omega); rw [show j - 1 + 1 = j by omega] at this; omega]
    · refine ⟨xs.length - (j + 1), by omega, j + 1, rfl, by omega, rfl, fun i hi => ?_, fun i hi => ?_⟩
      · by_cases hij : i = j
        · subst hij; omega
        · exact hra i (by omega)
      · by_cases hij : i + 1 = j
        · subst hij
          simp only [Nat.add_sub_cancel] at hp
          omega
        · exact hno i (by omega)
    · refine ⟨xs.length - (j + 1), by omega, j + 1, rfl, by omega, rfl, fun i hi => ?_, fun i hi => ?_⟩
      · by_cases hij : i = j
        · subst hij; omega
        · exact hra i (by omega)
      · omega
    · rw [empB_true ⟨c0, by omega, fun i hi => hra i (by omega), fun i hi => hno i (by omega)⟩]
  · refine ⟨0, by omega, by omega, ?_⟩
    simp [T.get_set, get_e]
attribute [go_sem] emp empR
theorem R0_sl0 {s : PV} {b o z : Nat} {tg : Bool} {h : H} : R0 s (.sl b o 0 z tg) h = (.fl false z [] = s) := by
  have : frzM 1000 (.sl b o 0 z tg) h = some (.fl false z [], h) := rfl
  unfold R0
  rw [this]
  simp
theorem frzM_sl1 {n : Nat} {b k : Nat} {tg own : Bool} {x : Nat} {t : T PO} {cs : List PV} (hn : 1 < n) (hg : t.get b = some (.cells cs own)) (hp : cs.all pl1 = true) (hl : cs.length = k) : ∃ h', frzM n (.sl b 0 k 1 tg) ⟨x, t⟩ = some (.fl false 1 cs, h') := by
  subst hl
  have htx : ∀ l : List PV, takeX l.length l = some l := fun l => by
    induction l with
    | nil => rfl
    | cons x xs ih => simp only [List.length_cons, takeX, ih]
  cases n with
  | zero => omega
  | succ n =>
    cases hz : Nat.beq cs.length 0 with
    | true =>
      have := Nat.eq_of_beq_eq_true hz
      have : cs = [] := List.eq_nil_of_length_eq_zero this
      subst this
      exact ⟨_, rfl⟩
    | false =>
      refine ⟨⟨x, t.set (.cells cs false) b⟩, ?_⟩
      simp only [frzM, hz, cond_false, bnd, rd, H.get, hg, List.drop_zero, Nat.mul_one, htx, ofO, ret, mapH_pl1 (n := n) (by omega) hp, Go.Pe.demote, wr, H.put]
      rfl
theorem R0_sl1 {s : PV} {b k : Nat} {tg own : Bool} {x : Nat} {t : T PO} {cs : List PV} (hg : t.get b = some (.cells cs own)) (hp : cs.all pl1 = true) (hl : cs.length = k) : R0 s (.sl b 0 k 1 tg) ⟨x, t⟩ = (.fl false 1 cs = s) := by
  obtain ⟨h', e⟩ := frzM_sl1 (n := 1000) (tg := tg) (x := x) (by omega) hg hp hl
  unfold R0
  rw [e]
  simp
attribute [go_sem] R0_sl0
/-- a list of numbers as it must be: nil is empty -/
def IsL (b : Bool) (z : Nat) (xs : List Int) : Prop := (b || Nat.beq z 1) = true ∧ (b = true → xs = [])
theorem clone (b : Bool) (z : Nat) (xs : List Int) (hz : (b || Nat.beq z 1) = true) (hb : b = true → xs = []) (hl : xs.length < 1000000) (h : H) : CL KR 26 [.fl b z (ints xs)] h = some (.fl b (bif b then 0 else 1) (ints xs), h) := by
  refine law0' 8 rfl Try.func26 rfl rfl (by kernel_rfl) ?_
  cases b
  · simp only [Bool.false_or] at hz
    obtain rfl := Nat.eq_of_beq_eq_true hz
    by_cases hx : xs.length = 0
    · have : xs = [] := List.eq_nil_of_length_eq_zero hx
      subst this
      have e0 : ints [] = [] := rfl
      repeat' (first | (rewrite [SplitP_leq]; rotate_left; omega) | (rewrite [SplitP_req]; rotate_left; omega) | (rewrite [SplitP_and]; refine ⟨fun hp => ?_, fun hp => ?_⟩) | (rewrite [SplitB_leq]; rotate_left; assumption) | (rewrite [SplitB_req]; rotate_left; assumption) | (rewrite [SplitB_and]; refine ⟨fun hp => ?_, fun hp => ?_⟩) | simp (disch := first | omega | assumption | (simp only [List.all_cons, List.all_nil, pl, pl1, Bool.and_self, Nat.reduceBEq, Bool.false_or, Bool.true_or, Bool.or_self, Nat.beq_refl, List.length_cons, List.length_nil, Nat.reduceAdd, Nat.reduceLT, Nat.zero_add] <;> fail) | fail) only [go_sem, ↓reduceIte, e0] | fail)
    repeat' (first | (rewrite [SplitP_leq]; rotate_left; omega) | (rewrite [SplitP_req]; rotate_left; omega) | (rewrite [SplitP_and]; refine ⟨fun hp => ?_, fun hp => ?_⟩) | (rewrite [SplitB_leq]; rotate_left; assumption) | (rewrite [SplitB_req]; rotate_left; assumption) | (rewrite [SplitB_and]; refine ⟨fun hp => ?_, fun hp => ?_⟩) | simp (disch := first | omega | assumption | (simp only [List.all_cons, List.all_nil, pl, pl1, Bool.and_self, Nat.reduceBEq, Bool.false_or, Bool.true_or, Bool.or_self, Nat.beq_refl, List.length_cons, List.length_nil, Nat.reduceAdd, Nat.reduceLT, Nat.zero_add] <;> fail) | fail) only [go_sem, ↓reduceIte] | fail)
    rw [R0_sl1 (oset_same rfl) (ints_pl xs) (ints_len xs)]
  · obtain rfl := hb rfl
    repeat' (first | (rewrite [SplitP_leq]; rotate_left; omega) | (rewrite [SplitP_req]; rotate_left; omega) | (rewrite [SplitP_and]; refine ⟨fun hp => ?_, fun hp => ?_⟩) | (rewrite [SplitB_leq]; rotate_left; assumption) | (rewrite [SplitB_req]; rotate_left; assumption) | (rewrite [SplitB_and]; refine ⟨fun hp => ?_, fun hp => ?_⟩) | simp (disch := first | omega | assumption | (simp only [List.all_cons, List.all_nil, pl, pl1, Bool.and_self, Nat.reduceBEq, Bool.false_or, Bool.true_or, Bool.or_self, Nat.beq_refl, List.length_cons, List.length_nil, Nat.reduceAdd, Nat.reduceLT, Nat.zero_add] <;> fail) | fail) only [go_sem, ↓reduceIte] | fail)
    rfl
attribute [go_sem] clone
/-- a run, a command -/
def runV (st : Int) (b : Bool) (z : Nat) (es : List Int) (c s k : Int) : PV := .agg [.i .i64 st, .fl b z (ints es), .i .i64 c, .i .i64 s, .i .i64 k]
def zeroC (c s k : Int) : Bool := decide (c = 0 ∧ s = 0 ∧ k = 0)
def formB (kd : Int) (l : Nat) (c s k : Int) : Bool := if kd = 1 then zeroC c s k else if kd = 2 ∨ kd = 3 ∨ kd = 4 then decide (l = 0) else if kd = 5 ∨ kd = 6 then zeroC c s k && decide (l = 0) else false
theorem totals (c s k m : Int) (h : H) : CL KR 28 [.agg [.i .i64 c, .i .i64 s, .i .i64 k], .i .i64 m] h = some (.b (valC c s k && decide (c ≤ m)), h) := by
  refine law0' 21 rfl Try.func28 rfl rfl (by kernel_rfl) ?_
  by_cases hv : valC c s k = true
  · repeat' (first | (rewrite [SplitP_leq]; rotate_left; omega) | (rewrite [SplitP_req]; rotate_left; omega) | (rewrite [SplitP_and]; refine ⟨fun hp => ?_, fun hp => ?_⟩) | (rewrite [SplitB_leq]; rotate_left; assumption) | (rewrite [SplitB_req]; rotate_left; assumption) | (rewrite [SplitB_and]; refine ⟨fun hp => ?_, fun hp => ?_⟩) | simp (disch := first | omega | assumption | (simp only [List.all_cons, List.all_nil, pl, pl1, Bool.and_self, Nat.reduceBEq, Bool.false_or, Bool.true_or, Bool.or_self, Nat.beq_refl, List.length_cons, List.length_nil, Nat.reduceAdd, Nat.reduceLT, Nat.zero_add] <;> fail) | fail) only [go_sem, ↓reduceIte, addZero, hv] | fail)
    all_goals (simp [hp])
  · simp only [Bool.not_eq_true] at hv
    repeat' (first | (rewrite [SplitP_leq]; rotate_left; omega) | (rewrite [SplitP_req]; rotate_left; omega) | (rewrite [SplitP_and]; refine ⟨fun hp => ?_, fun hp => ?_⟩) | (rewrite [SplitB_leq]; rotate_left; assumption) | (rewrite [SplitB_req]; rotate_left; assumption) | (rewrite [SplitB_and]; refine ⟨fun hp => ?_, fun hp => ?_⟩) | simp (disch := first | omega | assumption | (simp only [List.all_cons, List.all_nil, pl, pl1, Bool.and_self, Nat.reduceBEq, Bool.false_or, Bool.true_or, Bool.or_self, Nat.beq_refl, List.length_cons, List.length_nil, Nat.reduceAdd, Nat.reduceLT, Nat.zero_add] <;> fail) | fail) only [go_sem, ↓reduceIte, addZero, hv] | fail)
attribute [go_sem] totals may
theorem formA (kd : Int) (b : Bool) (z : Nat) (es : List Int) (c s k : Int) (h : H) : CL KR 23 [.agg [.i .i64 kd, .fl b z (ints es), .i .i64 c, .i .i64 s, .i .i64 k]] h = some (.b (formB kd es.length c s k), h) := by
  refine law0' 31 rfl Try.func23 rfl rfl (by kernel_rfl) ?_
  repeat' (first | (rewrite [SplitP_leq]; rotate_left; omega) | (rewrite [SplitP_req]; rotate_left; omega) | (rewrite [SplitP_and]; refine ⟨fun hp => ?_, fun hp => ?_⟩) | (rewrite [SplitB_leq]; rotate_left; assumption) | (rewrite [SplitB_req]; rotate_left; assumption) | (rewrite [SplitB_and]; refine ⟨fun hp => ?_, fun hp => ?_⟩) | simp (disch := first | omega | assumption | (simp only [List.all_cons, List.all_nil, pl, pl1, Bool.and_self, Nat.reduceBEq, Bool.false_or, Bool.true_or, Bool.or_self, Nat.beq_refl, List.length_cons, List.length_nil, Nat.reduceAdd, Nat.reduceLT, Nat.zero_add] <;> fail) | fail) only [go_sem, ↓reduceIte] | fail)
  all_goals (first | (simp_all [formB, zeroC]; done) | (simp_all [formB, zeroC]; omega))
theorem formR (kd : Int) (b : Bool) (z : Nat) (es : List Int) (c s k : Int) (h : H) : CL KR 32 [.agg [.i .i64 kd, .fl b z (ints es), .i .i64 c, .i .i64 s, .i .i64 k]] h = some (.b (formB kd es.length c s k), h) := by
  refine law0' 43 rfl Try.func32 rfl rfl (by kernel_rfl) ?_
  repeat' (first | (rewrite [SplitP_leq]; rotate_left; omega) | (rewrite [SplitP_req]; rotate_left; omega) | (rewrite [SplitP_and]; refine ⟨fun hp => ?_, fun hp => ?_⟩) | (rewrite [SplitB_leq]; rotate_left; assumption) | (rewrite [SplitB_req]; rotate_left; assumption) | (rewrite [SplitB_and]; refine ⟨fun hp => ?_, fun hp => ?_⟩) | simp (disch := first | omega | assumption | (simp only [List.all_cons, List.all_nil, pl, pl1, Bool.and_self, Nat.reduceBEq, Bool.false_or, Bool.true_or, Bool.or_self, Nat.beq_refl, List.length_cons, List.length_nil, Nat.reduceAdd, Nat.reduceLT, Nat.zero_add] <;> fail) | fail) only [go_sem, ↓reduceIte] | fail)
  all_goals (first | (simp_all [formB, zeroC]; done) | (simp [formB, zeroC]; omega) | grind [formB, zeroC])
attribute [go_sem] formA formR
end Go.Proofs.Ytbpcpcldmmfaeaa
