/- A row of commands. -/
import Derived.Test.YtbpcpcldmmfaeaaQre
open Go Go.Pe Go.Pe.HM
namespace Go.Proofs.Ytbpcpcldmmfaeaa
set_option maxRecDepth 100000
set_option maxHeartbeats 4000000
set_option linter.unusedSimpArgs false
set_option linter.unusedVariables false
structure Cmd where
  kd : Int
  b : Bool
  z : Nat
  es : List Int
  c : Int
  s : Int
  k : Int
instance : Inhabited Cmd := ⟨⟨0, true, 0, [], 0, 0, 0⟩⟩
def Cmd.v (x : Cmd) : PV := .agg [.i .i64 x.kd, .fl x.b x.z (ints x.es), .i .i64 x.c, .i .i64 x.s, .i .i64 x.k]
def Cmd.ok (x : Cmd) : Prop := (x.b || Nat.beq x.z 1) = true ∧ (x.b = true → x.es = []) ∧ x.es.length < 1000000
def cmds (cs : List Cmd) : List PV := cs.map Cmd.v
theorem cmds_len (cs : List Cmd) : (cmds cs).length = cs.length := by simp [cmds]
theorem cmds_get {cs : List Cmd} {j : Nat} (h : j < cs.length) : (cmds cs)[j]? = some (.agg [.i .i64 (cs.getD j default).kd, .fl (cs.getD j default).b (cs.getD j default).z (ints (cs.getD j default).es), .i .i64 (cs.getD j default).c, .i .i64 (cs.getD j default).s, .i .i64 (cs.getD j default).k]) := by
  simp [cmds, h, Cmd.v]
attribute [go_sem] cmds_len cmds_get
abbrev RS := Int × List Int × Int × Int × Int
noncomputable def stS (r : RS) (x : Cmd) : RS := stepS r.1 r.2.1 r.2.2.1 r.2.2.2.1 r.2.2.2.2 x.kd x.es x.c x.s x.k
noncomputable def stE (r : RS) (x : Cmd) : Int := stepE r.1 r.2.1 r.2.2.1 r.2.2.2.1 r.2.2.2.2 x.kd x.es x.c x.s x.k
noncomputable def rep (r : RS) : List Cmd → Nat → RS × Nat × Int
  | [], i => (r, i, 0)
  | x :: xs, i => if stE r x = 0 then rep (stS r x) xs (i + 1) else (r, i, stE r x)
theorem drop_cons {cs : List Cmd} {j : Nat} (h : j < cs.length) : cs.drop j = cs.getD j default :: cs.drop (j + 1) := by
  rw [List.drop_eq_getElem_cons h]; simp [h]
theorem getD_mem {cs : List Cmd} {j : Nat} (h : j < cs.length) : cs.getD j default ∈ cs := by simp [h]
theorem rep_step {r : RS} {cs : List Cmd} {j : Nat} (h : j < cs.length) : rep r (cs.drop j) j = if stE r (cs.getD j default) = 0 then rep (stS r (cs.getD j default)) (cs.drop (j + 1)) (j + 1) else (r, j, stE r (cs.getD j default)) := by
  rw [drop_cons h]; rfl
theorem stS_len {r : RS} {x : Cmd} (h1 : r.2.1.length < 1000000) (h2 : x.es.length < 1000000) : (stS r x).2.1.length < 1000000 := by
  simp only [stS, stepS]
  repeat' split
  all_goals first | assumption | simp
def R00 : RS := (1, [], 0, 0, 0)
theorem replay (bb : Bool) (zz : Nat) (cs : List Cmd) (hzz : (bb || Nat.beq zz 5) = true) (hok : ∀ x ∈ cs, x.ok) (hl : cs.length < 1000000) :
    ∃ v, (∃ b1 z1, (b1 || Nat.beq z1 1) = true ∧ (b1 = true → (rep R00 cs 0).1.2.1 = []) ∧ v = .tup [rvR b1 z1 (rep R00 cs 0).1, .i .i64 ((rep R00 cs 0).2.1 : Int), .i .i64 (rep R00 cs 0).2.2]) ∧ ∀ h, CL KR 15 [.fl bb zz (cmds cs)] h = some (v, h) := by
  refine law0ex 34 rfl Try.func15 rfl rfl (by kernel_rfl) ?_
  repeat' (first | (rewrite [SplitP_leq]; rotate_left; omega) | (rewrite [SplitP_req]; rotate_left; omega) | (rewrite [SplitP_and]; refine ⟨fun hp => ?_, fun hp => ?_⟩) | (rewrite [SplitB_leq]; rotate_left; assumption) | (rewrite [SplitB_req]; rotate_left; assumption) | (rewrite [SplitB_and]; refine ⟨fun hp => ?_, fun hp => ?_⟩) | simp (disch := first | omega | assumption | (simp only [List.all_cons, List.all_nil, pl, pl1, Bool.and_self, Nat.reduceBEq, Bool.false_or, Bool.true_or, Bool.or_self, Nat.beq_refl, List.length_cons, List.length_nil, Nat.reduceAdd, Nat.reduceLT, Nat.zero_add] <;> fail) | fail) only [go_sem, ↓reduceIte, hzz] | fail)
  refine Ev_loop (fun r tm h' => ∃ (j : Nat) (b : Bool) (z : Nat) (st : Int) (es : List Int) (c s k : Int), r = cs.length - j ∧ j ≤ cs.length ∧ tm.get 2 = some (.p 1024 0) ∧ tm.get 5 = some (.p 1028 0) ∧ tm.get 11 = some (.fl bb zz (cmds cs)) ∧ tm.get 12 = some (.i .i64 (cs.length : Int)) ∧ tm.get 13 = some (.i .i64 (j : Int)) ∧ tm.get 0 = some (.fl bb zz (cmds cs))
    ∧ (b || Nat.beq z 1) = true ∧ (b = true → es = []) ∧ es.length < 1000000 ∧ rep R00 cs 0 = rep (st, es, c, s, k) (cs.drop j) j
    ∧ h'.tab.get 1028 = some (.cells [.i .i64 st, .fl b z (ints es), .i .i64 c, .i .i64 s, .i .i64 k] true) ∧ h'.tab.get 1024 = some (.cells [.i .i64 0, .fl true 0 [], .i .i64 0, .i .i64 0, .i .i64 0] true) ∧ Fr h' ∧ 1033 ≤ h'.next) ?_ cs.length ?_
  · rintro r tm ⟨n, t⟩ ⟨j, b, z, st, es, c, s, k, rfl, hj, g2, g5, g11, g12, g13, g0, hz, hb, hes, hrep, t28, t24, fr, hn⟩
    simp only at t28 t24 hn
    have hno := fun (m : Nat) (hm : n ≤ m) => none_at (b := m) fr hm
    by_cases hjl : j < cs.length
    · obtain ⟨o1, o2, o3⟩ := hok _ (getD_mem hjl)
      obtain ⟨b1, z1, q1, q2, q3⟩ := step st b z es c s k (cs.getD j default).kd (cs.getD j default).b (cs.getD j default).z (cs.getD j default).es (cs.getD j default).c (cs.getD j default).s (cs.getD j default).k hz hb hes o1 o2 o3
      repeat' (first | (rewrite [SplitP_leq]; rotate_left; omega) | (rewrite [SplitP_req]; rotate_left; omega) | (rewrite [SplitP_and]; refine ⟨fun hp => ?_, fun hp => ?_⟩) | (rewrite [SplitB_leq]; rotate_left; assumption) | (rewrite [SplitB_req]; rotate_left; assumption) | (rewrite [SplitB_and]; refine ⟨fun hp => ?_, fun hp => ?_⟩) | simp (disch := first | omega | assumption | (simp only [List.all_cons, List.all_nil, pl, pl1, Bool.and_self, Nat.reduceBEq, Bool.false_or, Bool.true_or, Bool.or_self, Nat.beq_refl, List.length_cons, List.length_nil, Nat.reduceAdd, Nat.reduceLT, Nat.zero_add] <;> fail) | fail) only [go_sem, ↓reduceIte, g2, g5, g11, g12, g13, g0, hzz, t28, t24, none_at fr, q3, rvR, runV] | fail)
      · refine ⟨cs.length - (j + 1), by omega, j + 1, b1, z1, _, _, _, _, _, rfl, by omega, rfl, q1, q2, stS_len (r := (st, es, c, s, k)) (x := cs.getD j default) hes o3, ?_, rfl, ?_, by omega⟩
        · rw [hrep, rep_step hjl, if_pos (show stE (st, es, c, s, k) (cs.getD j default) = 0 from hp)]
          rfl
        · repeat (refine Fr.set ?_ (by omega))
          exact fr.to (by omega)
      · have e : rep R00 cs 0 = ((st, es, c, s, k), j, stE (st, es, c, s, k) (cs.getD j default)) := by
          rw [hrep, rep_step hjl, if_neg (show ¬ stE (st, es, c, s, k) (cs.getD j default) = 0 from hp)]
        rw [e]
        exact ⟨_, ⟨b, z, hz, hb, rfl⟩, rfl⟩
    · repeat' (first | (rewrite [SplitP_leq]; rotate_left; omega) | (rewrite [SplitP_req]; rotate_left; omega) | (rewrite [SplitP_and]; refine ⟨fun hp => ?_, fun hp => ?_⟩) | (rewrite [SplitB_leq]; rotate_left; assumption) | (rewrite [SplitB_req]; rotate_left; assumption) | (rewrite [SplitB_and]; refine ⟨fun hp => ?_, fun hp => ?_⟩) | simp (disch := first | omega | assumption | (simp only [List.all_cons, List.all_nil, pl, pl1, Bool.and_self, Nat.reduceBEq, Bool.false_or, Bool.true_or, Bool.or_self, Nat.beq_refl, List.length_cons, List.length_nil, Nat.reduceAdd, Nat.reduceLT, Nat.zero_add] <;> fail) | fail) only [go_sem, ↓reduceIte, g2, g5, g11, g12, g13, g0, hzz, t28, t24, none_at fr] | fail)
      have hj' : j = cs.length := by omega
      have e : rep R00 cs 0 = ((st, es, c, s, k), cs.length, 0) := by
        rw [hrep, hj', List.drop_length]
        rfl
      rw [e]
      exact ⟨_, ⟨b, z, hz, hb, rfl⟩, rfl⟩
  · refine ⟨0, true, 0, 1, [], 0, 0, 0, by omega, by omega, ?_⟩
    simp [T.get_set, get_e, ints_nil]
    refine ⟨rfl, ?_⟩
    repeat (refine Fr.set ?_ (by omega))
    exact fun b hb => rfl
end Go.Proofs.Ytbpcpcldmmfaeaa
