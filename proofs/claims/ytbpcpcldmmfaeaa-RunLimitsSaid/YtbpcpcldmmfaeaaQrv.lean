/- How many employees a run can have. -/
import Derived.Test.YtbpcpcldmmfaeaaQru
open Go Go.Pe Go.Pe.HM
namespace Go.Proofs.Ytbpcpcldmmfaeaa
set_option maxRecDepth 100000
set_option maxHeartbeats 4000000
set_option linter.unusedSimpArgs false
set_option linter.unusedVariables false
/-- a call whose arguments are made free -/
theorem CL_frz {K : Cx} {f : FuncId} {args aa : List PV} {h h0 h1 h2 : H} {v : PV} (hov : K.ov f = none) (hmd : K.md f = true) (ha : frzArgs args h = some ((aa, none), h1)) (haa : frzArgs aa h0 = some ((aa, none), h0)) (e : CL K f aa h0 = some (v, h2)) : CL K f args h = some (v, bif scal v then h else h1) := by
  obtain ⟨n, hn⟩ := CL_ex e
  cases n with
  | zero => cases hn
  | succ n =>
    refine CL_of (n := n + 1) ?_
    simp only [callX, hov] at hn ⊢
    cases hf : K.P.funcs[f]? with
    | none => rw [hf] at hn; cases hn
    | some fn =>
      rw [hf] at hn
      simp only [hmd, cond_true, pureC, haa, ha] at hn ⊢
      cases hi : inner0 K.G (bodyV K.P (callX K n) n fn) aa with
      | none => rw [hi] at hn; cases hn
      | some v1 =>
        rw [hi] at hn
        simp only [Option.some.injEq, Prod.mk.injEq] at hn ⊢
        obtain ⟨rfl, _⟩ := hn
        exact ⟨rfl, rfl⟩
/-- the numbers from 1 on -/
def upto : Nat → List Int
  | 0 => []
  | n + 1 => upto n ++ [(n : Int) + 1]
theorem upto_len : ∀ n, (upto n).length = n
  | 0 => rfl
  | n + 1 => by simp [upto, upto_len n]
theorem upto_get : ∀ {n i : Nat}, i < n → (upto n).getD i 0 = (i : Int) + 1
  | 0, _, h => by omega
  | n + 1, i, h => by
    unfold upto
    by_cases hi : i < n
    · rw [List.getD_eq_getElem?_getD, List.getElem?_append_left (by rw [upto_len]; exact hi), ← List.getD_eq_getElem?_getD, upto_get hi]
    · have : i = n := by omega
      subst this
      rw [List.getD_eq_getElem?_getD, List.getElem?_append_right (by rw [upto_len]; omega)]
      simp [upto_len]
/-- the list that is being filled -/
def fillN (j k : Nat) : List Int := upto j ++ List.replicate (k - j) 0
theorem fillN_len {j k : Nat} (h : j ≤ k) : (fillN j k).length = k := by simp [fillN, upto_len]; omega
theorem putL_ints {v : Int} : ∀ {xs : List Int} {j : Nat}, j < xs.length → putL [.i .i64 v] j (ints xs) = some (ints (xs.set j v))
  | [], _, h => by simp at h
  | x :: xs, 0, _ => rfl
  | x :: xs, j + 1, h => by
    have := putL_ints (v := v) (xs := xs) (j := j) (by simpa using h)
    show (match putL [PV.i .i64 v] j (ints xs) with
      | some r => some (PV.i .i64 x :: r)
      | none => none) = _
    rw [this]
    rfl
theorem fillN_set {j k : Nat} (h : j < k) : (fillN j k).set j ((j : Int) + 1) = fillN (j + 1) k := by
  unfold fillN
  obtain ⟨m, hm⟩ : ∃ m, k - j = m + 1 := ⟨k - j - 1, by omega⟩
  rw [hm, show k - (j + 1) = m by omega, List.set_append_right _ _ (by rw [upto_len]; omega), upto_len, Nat.sub_self, List.replicate_succ, List.set_cons_zero]
  simp [upto]
theorem fillN_all (k : Nat) : fillN k k = upto k := by simp [fillN]
theorem rep_ints : ∀ k : Nat, Go.Pe.rep [PV.i .i64 0] k = ints (fillN 0 k)
  | 0 => rfl
  | k + 1 => by
    show PV.i .i64 0 :: Go.Pe.rep [PV.i .i64 0] k = _
    rw [rep_ints k]
    simp [fillN, upto, List.replicate_succ, ints]

theorem upto_emp {k : Nat} (h1 : 1 ≤ k) : empB (upto k) = decide (k ≤ 4096) := by
  unfold empB
  have : Emp (upto k) ↔ k ≤ 4096 := by
    unfold Emp
    rw [upto_len]
    constructor
    · exact fun h => h.2.1
    · intro h
      refine ⟨fun e => ?_, h, fun i hi => ?_, fun i hi => ?_⟩
      · have := upto_len k
        rw [e] at this
        simp at this
        omega
      · rw [upto_get hi]; omega
      · rw [upto_get hi, upto_get (show i < k by omega)]; omega
  simp [this]
theorem frz_up {n b k : Nat} {own : Bool} {x : Nat} {t : T PO} (hk : 0 < k) (hg : t.get b = some (.cells (ints (upto k)) own)) : frzM (n + 2) (.sl b 0 k 1 true) ⟨x, t⟩ = some (.fl false 1 (ints (upto k)), ⟨x, t.set (.cells (ints (upto k)) false) b⟩) := by
  have hz : Nat.beq k 0 = false := nbeq_f (by omega)
  have htk : takeX k (ints (upto k)) = some (ints (upto k)) := by
    have := takeX_all (ints (upto k))
    rwa [ints_len, upto_len] at this
  unfold frzM
  simp only [hz, htk, cond_false, bnd, rd, H.get, hg, List.drop_zero, Nat.mul_one, ofO, ret, mapH_pl1 (n := n + 1) (by omega) (ints_pl _), Go.Pe.demote, wr, H.put]
  rfl
theorem law3 (n : Int) (h : H) : CL KR 3 [.i .i64 n] h = some (.b true, h) := by
  have hm1 : 0 ≤ n.emod 3 := Int.emod_nonneg _ (by omega)
  have hm2 : n.emod 3 < 3 := Int.emod_lt_of_pos _ (by omega)
  have hmod : ∀ h, CL KR 9 [.i .i64 n, .i .i64 3] h = some (.i .i64 (n.emod 3), h) := fun h => mod' n 3 (by omega) (by omega) h
  generalize n.emod 3 = m at hm1 hm2 hmod
  obtain ⟨k, hk⟩ : ∃ k : Nat, (k : Int) = 4095 + m := ⟨(4095 + m).toNat, by omega⟩
  have hw : wrapF .i64 (4095 + m) = (k : Int) := by rw [← hk]; exact wrap_id (by omega) (by omega)
  have hk1 : 4095 ≤ k := by omega
  have hk2 : k ≤ 4097 := by omega
  have hv0 : (true || Nat.beq 0 1) = true := rfl
  obtain ⟨b1, z1, q1, q2, q3⟩ := step 1 true 0 [] 0 0 0 1 false 1 (upto k) 0 0 0 rfl (fun _ => rfl) (by simp) rfl (fun h => by cases h) (by rw [upto_len]; omega)
  have hE : stepE 1 [] 0 0 0 1 (upto k) 0 0 0 = if k ≤ 4096 then 0 else 2 := by
    unfold stepE
    rw [if_neg (by simp [valid0, formB, zeroC]), if_neg (by simp [mayB]), upto_emp (by omega)]
    by_cases hk4 : k ≤ 4096
    · simp [hk4]
    · simp [hk4]
  have hS : stepS 1 [] 0 0 0 1 (upto k) 0 0 0 = if k ≤ 4096 then (2, upto k, 0, 0, 0) else (0, [], 0, 0, 0) := by
    unfold stepS
    rw [hE]
    by_cases hk4 : k ≤ 4096 <;> simp [hk4]
  rw [hS, hE, ints_nil] at q3
  have hF : ∀ (st : Int) (x : Nat) (t : T PO) (own : Bool), t.get 1030 = some (.cells (ints (upto k)) own) → frzM 1000 (.agg [.i .i64 st, .sl 1030 0 k 1 true, .i .i64 0, .i .i64 0, .i .i64 0]) ⟨x, t⟩ = some (.agg [.i .i64 st, .fl false 1 (ints (upto k)), .i .i64 0, .i .i64 0, .i .i64 0], ⟨x, t.set (.cells (ints (upto k)) false) 1030⟩) := fun st x t own hg => by
    have e2 : ∀ (n : Nat) (y : Int) (h : H), 0 < n → frzM n (.i .i64 y) h = some (.i .i64 y, h) := fun n y h hn => frzM_pl1 hn rfl
    exact frzM_agg (n := 999) (mapH_cons (e2 _ _ _ (by omega)) (mapH_cons (frz_up (n := 997) (by omega) hg) (mapH_cons (e2 _ _ _ (by omega)) (mapH_cons (e2 _ _ _ (by omega)) (mapH_cons (e2 _ _ _ (by omega)) rfl)))))
  have hpl : ∀ st : Int, pl (.agg [.i .i64 st, .fl false 1 (ints (upto k)), .i .i64 0, .i .i64 0, .i .i64 0]) = true := fun _ => rfl
  have hst : ∀ (x : Nat) (t : T PO), t.get 1030 = some (.cells (ints (upto k)) true) → CL KR 10 [.agg [.i .i64 1, .fl true 0 [], .i .i64 0, .i .i64 0, .i .i64 0], .agg [.i .i64 1, .sl 1030 0 k 1 true, .i .i64 0, .i .i64 0, .i .i64 0]] ⟨x, t⟩ =
      some (.tup [rvR b1 z1 (if k ≤ 4096 then (2, upto k, 0, 0, 0) else (0, [], 0, 0, 0)), .i .i64 (if k ≤ 4096 then 0 else 2)], ⟨x, t.set (.cells (ints (upto k)) false) 1030⟩) := fun x t hg => by
    have e0 : frzM 1000 (.agg [.i .i64 1, .fl true 0 [], .i .i64 0, .i .i64 0, .i .i64 0]) ⟨x, t⟩ = some (.agg [.i .i64 1, .fl true 0 [], .i .i64 0, .i .i64 0, .i .i64 0], ⟨x, t⟩) := frzM_pl (by omega) rfl
    have e1 := hF 1 x t true hg
    have := CL_frz (K := KR) (f := 10) rfl rfl (args := [.agg [.i .i64 1, .fl true 0 [], .i .i64 0, .i .i64 0, .i .i64 0], .agg [.i .i64 1, .sl 1030 0 k 1 true, .i .i64 0, .i .i64 0, .i .i64 0]]) (h := ⟨x, t⟩) (h1 := ⟨x, t.set (.cells (ints (upto k)) false) 1030⟩)
      (by simp only [frzArgs, bnd, e0, e1, ret]) (frzArgs_pl (h := ⟨x, t⟩) rfl) (q3 ⟨x, t⟩)
    rw [this]
    rfl
  have hva : ∀ (x : Nat) (t : T PO) (own : Bool), t.get 1030 = some (.cells (ints (upto k)) own) → CL KR 11 [.agg [.i .i64 2, .sl 1030 0 k 1 true, .i .i64 0, .i .i64 0, .i .i64 0]] ⟨x, t⟩ = some (.b (decide (k ≤ 4096)), ⟨x, t⟩) := fun x t own hg => by
    have e1 := hF 2 x t own hg
    have hv : validB 2 (upto k) 0 0 0 = decide (k ≤ 4096) := by
      unfold validB
      rw [if_neg (by omega), if_pos rfl, upto_emp (by omega)]
      simp [zeroC]
    have := CL_frz (K := KR) (f := 11) rfl rfl (args := [.agg [.i .i64 2, .sl 1030 0 k 1 true, .i .i64 0, .i .i64 0, .i .i64 0]]) (h := ⟨x, t⟩) (h1 := ⟨x, t.set (.cells (ints (upto k)) false) 1030⟩)
      (by simp only [frzArgs, bnd, e1, ret]) (frzArgs_pl (h := ⟨x, t⟩) rfl) (validA 2 false 1 (upto k) 0 0 0 rfl ⟨x, t⟩)
    rw [this, hv]
    rfl
  have hva' : ∀ (x : Nat) (t : T PO), t.get 1030 = some (.cells (ints (upto k)) false) → CL KR 11 [.agg [.i .i64 2, .sl 1030 0 k 1 true, .i .i64 0, .i .i64 0, .i .i64 0]] ⟨x, t⟩ = some (.b (decide (k ≤ 4096)), ⟨x, t⟩) := fun x t hg => hva x t false hg
  refine law0' 65 rfl Try.func3 rfl rfl (by kernel_rfl) ?_
  repeat' (first | (rewrite [SplitP_leq]; rotate_left; omega) | (rewrite [SplitP_req]; rotate_left; omega) | (rewrite [SplitP_and]; refine ⟨fun hp => ?_, fun hp => ?_⟩) | (rewrite [SplitB_leq]; rotate_left; assumption) | (rewrite [SplitB_req]; rotate_left; assumption) | (rewrite [SplitB_and]; refine ⟨fun hp => ?_, fun hp => ?_⟩) | simp (disch := first | omega | assumption | (simp only [List.all_cons, List.all_nil, pl, pl1, Bool.and_self, Nat.reduceBEq, Bool.false_or, Bool.true_or, Bool.or_self, Nat.beq_refl, List.length_cons, List.length_nil, Nat.reduceAdd, Nat.reduceLT, Nat.zero_add] <;> fail) | fail) only [go_sem, ↓reduceIte, hmod, hw, rep_ints] | fail)
  refine Ev_loop (fun r tm h' => ∃ j : Nat, r = k - j ∧ j ≤ k ∧ tm.get 3 = some (.i .i64 (k : Int)) ∧ tm.get 4 = some (.sl 1030 0 k 1 true) ∧ tm.get 5 = some (.i .i64 (j : Int)) ∧ h'.tab.get 1030 = some (.cells (ints (fillN j k)) true) ∧ Fr h' ∧ 1033 ≤ h'.next) ?_ k ?_
  · rintro r tm ⟨n', t⟩ ⟨j, rfl, hj, g3, g4, g5, t30, fr, hn⟩
    simp only at t30 hn
    by_cases hjl : j < k
    · have hput : putL [.i .i64 ((j + 1 : Nat) : Int)] j (ints (fillN j k)) = some (ints (fillN (j + 1) k)) := by
        rw [putL_ints (by rw [fillN_len hj]; exact hjl), show ((j + 1 : Nat) : Int) = (j : Int) + 1 by omega, fillN_set hjl]
      repeat' (first | (rewrite [SplitP_leq]; rotate_left; omega) | (rewrite [SplitP_req]; rotate_left; omega) | (rewrite [SplitP_and]; refine ⟨fun hp => ?_, fun hp => ?_⟩) | (rewrite [SplitB_leq]; rotate_left; assumption) | (rewrite [SplitB_req]; rotate_left; assumption) | (rewrite [SplitB_and]; refine ⟨fun hp => ?_, fun hp => ?_⟩) | simp (disch := first | omega | assumption | (simp only [List.all_cons, List.all_nil, pl, pl1, Bool.and_self, Nat.reduceBEq, Bool.false_or, Bool.true_or, Bool.or_self, Nat.beq_refl, List.length_cons, List.length_nil, Nat.reduceAdd, Nat.reduceLT, Nat.zero_add] <;> fail) | fail) only [go_sem, ↓reduceIte, g3, g4, g5, t30, wrap_add1, hput] | fail)
      refine ⟨k - (j + 1), by omega, j + 1, rfl, by omega, rfl, rfl, ?_, by omega⟩
      repeat (with_reducible refine Fr.set ?_ (by omega))
      exact fr.to (by omega)
    · have hj' : j = k := by omega
      subst hj'
      rw [fillN_all] at t30
      by_cases hk4 : j ≤ 4096
      · repeat' (first | (rewrite [SplitP_leq]; rotate_left; omega) | (rewrite [SplitP_req]; rotate_left; omega) | (rewrite [SplitP_and]; refine ⟨fun hp => ?_, fun hp => ?_⟩) | (rewrite [SplitB_leq]; rotate_left; assumption) | (rewrite [SplitB_req]; rotate_left; assumption) | (rewrite [SplitB_and]; refine ⟨fun hp => ?_, fun hp => ?_⟩) | simp (disch := first | omega | assumption | (simp (disch := omega) only [oset_same, oset_ne, T.get_del, if_neg, if_pos, true_and, and_true, List.length_cons, List.length_nil, Nat.reduceAdd, List.all_cons, List.all_nil, isI, Bool.and_self, t30]; done) | (simp only [List.all_cons, List.all_nil, pl, pl1, Bool.and_self, Nat.reduceBEq, Bool.false_or, Bool.true_or, Bool.or_self, Nat.beq_refl, List.length_cons, List.length_nil, Nat.reduceAdd, Nat.reduceLT, Nat.zero_add] <;> fail) | fail) only [go_sem, ↓reduceIte, g3, g4, g5, t30, none_at fr, hst, hva', rvR, runV, ints_len, upto_len, hk4, eqV_b] | fail)
      · repeat' (first | (rewrite [SplitP_leq]; rotate_left; omega) | (rewrite [SplitP_req]; rotate_left; omega) | (rewrite [SplitP_and]; refine ⟨fun hp => ?_, fun hp => ?_⟩) | (rewrite [SplitB_leq]; rotate_left; assumption) | (rewrite [SplitB_req]; rotate_left; assumption) | (rewrite [SplitB_and]; refine ⟨fun hp => ?_, fun hp => ?_⟩) | simp (disch := first | omega | assumption | (simp (disch := omega) only [oset_same, oset_ne, T.get_del, if_neg, if_pos, true_and, and_true, List.length_cons, List.length_nil, Nat.reduceAdd, List.all_cons, List.all_nil, isI, Bool.and_self, t30]; done) | (simp only [List.all_cons, List.all_nil, pl, pl1, Bool.and_self, Nat.reduceBEq, Bool.false_or, Bool.true_or, Bool.or_self, Nat.beq_refl, List.length_cons, List.length_nil, Nat.reduceAdd, Nat.reduceLT, Nat.zero_add] <;> fail) | fail) only [go_sem, ↓reduceIte, g3, g4, g5, t30, none_at fr, hst, hva', rvR, runV, ints_len, upto_len, hk4, eqV_b] | fail)
  · refine ⟨0, by omega, by omega, ?_⟩
    simp [T.get_set, get_e]
    repeat (with_reducible refine Fr.set ?_ (by omega))
    exact fun b hb => rfl
end Go.Proofs.Ytbpcpcldmmfaeaa
