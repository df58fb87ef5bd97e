/- Tapes of numbers. -/
import Derived.Test.YthpmkcmeoadaaaaGreatDoorQfT
import Derived.Test.YthpmkcmeoadaaaaGreatDoorQgE
import Derived.Test.YthpmkcmeoadaaaaGreatDoorProg
open Go Go.Pe Go.Pe.HM
namespace Go.Proofs.YthpmkcmeoadaaaaGreatDoor
set_option maxRecDepth 100000
set_option maxHeartbeats 4000000
set_option linter.unusedSimpArgs false
set_option linter.unusedVariables false
def kindsO : PO := .cells [.s [], .s [105, 110, 112, 117, 116], .s [115, 99, 97, 108, 101], .s [114, 117, 108, 101], .s [112, 97, 121], .s [112, 97, 115, 116]] false
noncomputable def GS : T PO := T.n (.n .e (some kindsO) .e) none .e
noncomputable def KS : Cx := ⟨Tryz.prog, GS, fun f => Nat.beq f 5 || Nat.beq f 10 || Nat.beq f 3, fun f => bif Nat.beq f 9 then some (.b true) else none⟩
noncomputable def KW : Cx := ⟨Tryz.prog, GS, fun _ => false, fun _ => none⟩
theorem Kp : KS.P = Tryz.prog := rfl
theorem Kg : KS.G = GS := rfl
theorem ag3 : isAg Tryz.prog 3 = some false := by kernel_rfl
theorem ag4 : isAg Tryz.prog 4 = some false := by kernel_rfl
theorem ag9 : isAg Tryz.prog 9 = some false := by kernel_rfl
theorem ag22 : isAg Tryz.prog 22 = some false := by kernel_rfl
theorem ag23 : isAg Tryz.prog 23 = some false := by kernel_rfl
theorem ag25 : isAg Tryz.prog 25 = some false := by kernel_rfl
theorem ag42 : isAg Tryz.prog 42 = some true := by kernel_rfl
theorem sz3 : szOf Tryz.prog 3 = some 1 := by kernel_rfl
theorem sz4 : szOf Tryz.prog 4 = some 1 := by kernel_rfl
theorem sz9 : szOf Tryz.prog 9 = some 1 := by kernel_rfl
theorem sz22 : szOf Tryz.prog 22 = some 1 := by kernel_rfl
theorem sz23 : szOf Tryz.prog 23 = some 1 := by kernel_rfl
theorem sz25 : szOf Tryz.prog 25 = some 1 := by kernel_rfl
theorem sz42 : szOf Tryz.prog 42 = some 2 := by kernel_rfl
theorem z3 : zeroOf Tryz.prog 3 = some [.i .i64 0] := by kernel_rfl
theorem z9 : zeroOf Tryz.prog 9 = some [.s []] := by kernel_rfl
theorem z42 : zeroOf Tryz.prog 42 = some [.fl true 0 [], .i .i64 0] := by kernel_rfl
theorem res3 : Tryz.f3.results.toList = [.tmp 2] := rfl
theorem res4 : Tryz.f4.results.toList = [.tmp 2] := rfl
theorem res5 : Tryz.f5.results.toList = [.tmp 4] := rfl
theorem res10 : Tryz.f10.results.toList = [.tmp 4] := rfl
attribute [go_sem] Kp Kg ag3 ag4 ag9 ag22 ag23 ag25 ag42 sz3 sz4 sz9 sz22 sz23 sz25 sz42 z3 z9 z42 res3 res4 res5 res10
attribute [go_sem] Tryz.underlying3 Tryz.underlying4 Tryz.underlying9 Tryz.underlying22 Tryz.underlying23 Tryz.underlying25 Tryz.underlying42
/-- numbers -/
def ints (xs : List Int) : List PV := xs.map (.i .i64)
theorem ints_len (xs : List Int) : (ints xs).length = xs.length := by simp [ints]
theorem ints_get {xs : List Int} {j : Nat} (h : j < xs.length) : (ints xs)[j]? = some (.i .i64 (xs.getD j 0)) := by simp [ints, h]
theorem ints_nil : ints [] = [] := rfl
attribute [go_sem] ints_len ints_get
/-- the law of a function that works in its caller's heap -/
theorem law2' {K : Cx} {f : FuncId} {fn : Func} {c : Code} {args : List PV} {h : H} {v : PV} {h' : H} (nt : Nat) (hmd : K.md f = false) (hf : K.P.funcs[f]? = some fn) (hb : fn.body = some c) (hnt : max fn.ntmps args.length = nt)
    (e : Ev K nt c (args_ args 0 .e) h (Fin K.P fn fun x y => x = v ∧ y = h') .mk) (hov : K.ov f = none := by rfl) : CL K f args h = some (v, h') := by
  subst hnt
  obtain ⟨v1, h1, e1, rfl, rfl⟩ := law2 hov hmd hf hb e
  exact e1
theorem emod_of {v n : Int} (h : 0 < n) : v.emod n = if v.tmod n < 0 then v.tmod n + n else v.tmod n := by
  have e := Int.tmod_eq_emod (a := v) (b := n)
  have h5 := Int.emod_nonneg v (b := n) (by omega)
  have h6 := Int.emod_lt_of_pos v h
  have h7 : (n.natAbs : Int) = n := by omega
  rw [show v.emod n = v % n from rfl]
  by_cases hc : 0 ≤ v ∨ n ∣ v
  · rw [if_pos hc] at e; rw [if_neg (by omega)]; omega
  · rw [if_neg hc] at e; rw [if_pos (by omega)]; omega
theorem mod (v n : Int) (h3 : 0 < n) (h4 : n < 9223372036854775808) (h : H) : CL KS 10 [.i .i64 v, .i .i64 n] h = some (.i .i64 (v.emod n), h) := by
  refine law0' 15 rfl Tryz.func10 rfl rfl (by kernel_rfl) ?_
  have hn0 : ¬ n = 0 := by omega
  have hlt := Int.tmod_lt_of_pos v h3
  have hge := Int.lt_tmod_of_pos v h3
  have e := emod_of (v := v) h3
  repeat' (first | (rewrite [SplitP_leq]; rotate_left; omega) | (rewrite [SplitP_req]; rotate_left; omega) | (rewrite [SplitP_and]; refine ⟨fun hp => ?_, fun hp => ?_⟩) | (rewrite [SplitB_leq]; rotate_left; assumption) | (rewrite [SplitB_req]; rotate_left; assumption) | (rewrite [SplitB_and]; refine ⟨fun hp => ?_, fun hp => ?_⟩) | simp (disch := first | omega | assumption | (simp only [List.all_cons, List.all_nil, pl, pl1, Bool.and_self, Nat.reduceBEq, Bool.false_or, Bool.true_or, Bool.or_self, Nat.beq_refl, List.length_cons, List.length_nil, Nat.reduceAdd, Nat.reduceLT, Nat.zero_add] <;> fail) | fail) only [go_sem, ↓reduceIte, hn0, wrap_id] | fail)
  · rw [e, if_pos hp]
  · rw [e, if_neg hp]
def atOf : Option PO → Nat
  | some (.cells [_, .i _ (.ofNat a)] _) => a
  | _ => 0
structure Lst (bb : Bool) (zz : Nat) (l : List Int) : Prop where
  z : (bb || Nat.beq zz 1) = true
  n : bb = true → l = []
def TapeOk (bb : Bool) (zz : Nat) (l : List Int) (o : Option PO) : Prop := ∃ a : Nat, o = some (.cells [.fl bb zz (ints l), .i .i64 (a : Int)] true) ∧ a < 1000000
theorem TapeOk_mk {bb : Bool} {zz : Nat} {l : List Int} {a : Nat} (h : a < 1000000) : TapeOk bb zz l (some (.cells [.fl bb zz (ints l), .i .i64 (a : Int)] true)) = True := eq_true ⟨a, rfl, h⟩
theorem atOf_mk {p : PV} {k : IntKind} {a : Nat} {w : Bool} : atOf (some (.cells [p, .i k (a : Int)] w)) = a := rfl
def nv (l : List Int) (a : Nat) (n : Int) : Int := if a < l.length then (l.getD a 0).emod n else 0
def na (l : List Int) (a : Nat) : Nat := if a < l.length then a + 1 else a
theorem nv_ge {l : List Int} {a : Nat} {n : Int} (h : 0 < n) : 0 ≤ nv l a n := by
  unfold nv
  split
  · exact Int.emod_nonneg _ (by omega)
  · omega
theorem nv_lt {l : List Int} {a : Nat} {n : Int} (h : 0 < n) : nv l a n < n := by
  unfold nv
  split
  · exact Int.emod_lt_of_pos _ h
  · exact h
theorem na_le {l : List Int} {a : Nat} : na l a ≤ a + 1 := by
  unfold na
  split <;> omega
section
variable {bb : Bool} {zz : Nat} {l : List Int}
theorem next_ (hl : Lst bb zz l) {a : Nat} (ha : a < 1000000) {n : Int} (hn : 0 < n) (hn' : n < 1000000) {b x : Nat} {t : T PO} (hb : 1024 ≤ b) (hg : t.get b = some (.cells [.fl bb zz (ints l), .i .i64 (a : Int)] true)) :
    CL KS 5 [.p b 0, .i .i64 n] ⟨x, t⟩ = some (.i .i64 (nv l a n), ⟨x, t.set (.cells [.fl bb zz (ints l), .i .i64 ((na l a : Nat) : Int)] true) b⟩) := by
  refine law1' (args := [.i .i64 n]) 39 rfl Tryz.func5 rfl rfl rfl (by kernel_rfl) ?_ hb hg
  have hz := hl.z
  have hm : ∀ v h, CL KS 10 [.i .i64 v, .i .i64 n] h = some (.i .i64 (v.emod n), h) := fun v h => mod v n hn (by omega) h
  by_cases hal : a < l.length
  · have e1 : nv l a n = (l.getD a 0).emod n := by unfold nv; rw [if_pos hal]
    have e2 : na l a = a + 1 := by unfold na; rw [if_pos hal]
    rw [e1, e2]
    have hw : wrapF .i64 (((a + 1 : Nat) : Int) - 1) = (a : Int) := by rw [wrap_id (by omega) (by omega)]; omega
    repeat' (first | (rewrite [SplitP_leq]; rotate_left; omega) | (rewrite [SplitP_req]; rotate_left; omega) | (rewrite [SplitP_and]; refine ⟨fun hp => ?_, fun hp => ?_⟩) | (rewrite [SplitB_leq]; rotate_left; assumption) | (rewrite [SplitB_req]; rotate_left; assumption) | (rewrite [SplitB_and]; refine ⟨fun hp => ?_, fun hp => ?_⟩) | simp (disch := first | omega | assumption | (simp only [List.all_cons, List.all_nil, pl, pl1, Bool.and_self, Nat.reduceBEq, Bool.false_or, Bool.true_or, Bool.or_self, Nat.beq_refl, List.length_cons, List.length_nil, Nat.reduceAdd, Nat.reduceLT, Nat.zero_add] <;> fail) | fail) only [go_sem, ↓reduceIte, hz, wrap_add1, hm, hw] | (rewrite [evE_drawP 1 [0, 1, 2, 3, 4, 5, 6, 7, 8, 9, 10, 11, 12, 13]]; rotate_left; kernel_rfl; kernel_rfl; kernel_rfl) | (rewrite [evE_drawP 4 [0, 1, 2, 3, 4, 5, 6, 7, 8, 9, 10, 11, 12, 13]]; rotate_left; kernel_rfl; kernel_rfl; kernel_rfl))
    rw [R1_is rfl rfl (oset_same rfl)]
    exact ⟨rfl, rfl⟩
  · have e1 : nv l a n = 0 := by unfold nv; rw [if_neg hal]
    have e2 : na l a = a := by unfold na; rw [if_neg hal]
    rw [e1, e2]
    repeat' (first | (rewrite [SplitP_leq]; rotate_left; omega) | (rewrite [SplitP_req]; rotate_left; omega) | (rewrite [SplitP_and]; refine ⟨fun hp => ?_, fun hp => ?_⟩) | (rewrite [SplitB_leq]; rotate_left; assumption) | (rewrite [SplitB_req]; rotate_left; assumption) | (rewrite [SplitB_and]; refine ⟨fun hp => ?_, fun hp => ?_⟩) | simp (disch := first | omega | assumption | (simp only [List.all_cons, List.all_nil, pl, pl1, Bool.and_self, Nat.reduceBEq, Bool.false_or, Bool.true_or, Bool.or_self, Nat.beq_refl, List.length_cons, List.length_nil, Nat.reduceAdd, Nat.reduceLT, Nat.zero_add] <;> fail) | fail) only [go_sem, ↓reduceIte, hz, wrap_add1] | (rewrite [evE_drawP 1 [0, 1, 2, 3, 4, 5, 6, 7, 8, 9, 10, 11, 12, 13]]; rotate_left; kernel_rfl; kernel_rfl; kernel_rfl) | (rewrite [evE_drawP 4 [0, 1, 2, 3, 4, 5, 6, 7, 8, 9, 10, 11, 12, 13]]; rotate_left; kernel_rfl; kernel_rfl; kernel_rfl))
    rw [R1_is rfl rfl (oset_same rfl)]
    exact ⟨rfl, rfl⟩
theorem next (hl : Lst bb zz l) {n : Int} {b x : Nat} {t : T PO} (hb : 1024 ≤ b) (hn : 0 < n) (hn' : n < 1000000) (hg : TapeOk bb zz l (t.get b)) :
    CL KS 5 [.p b 0, .i .i64 n] ⟨x, t⟩ = some (.i .i64 (nv l (atOf (t.get b)) n), ⟨x, t.set (.cells [.fl bb zz (ints l), .i .i64 ((na l (atOf (t.get b)) : Nat) : Int)] true) b⟩) := by
  obtain ⟨a, hg, ha⟩ := hg
  rw [hg]
  exact next_ hl ha hn hn' hb hg
theorem new (hz : (bb || Nat.beq zz 1) = true) {n : Nat} {t : T PO} (fr : Fr ⟨n, t⟩) : CL KS 4 [.fl bb zz (ints l)] ⟨n, t⟩ = some (.p (n + 3) 0, ⟨n + 5, t.set (.cells [.fl bb zz (ints l), .i .i64 0] true) (n + 3)⟩) := by
  refine law2' 6 rfl Tryz.func4 rfl rfl ?_
  repeat' (first | (rewrite [SplitP_leq]; rotate_left; omega) | (rewrite [SplitP_req]; rotate_left; omega) | (rewrite [SplitP_and]; refine ⟨fun hp => ?_, fun hp => ?_⟩) | (rewrite [SplitB_leq]; rotate_left; assumption) | (rewrite [SplitB_req]; rotate_left; assumption) | (rewrite [SplitB_and]; refine ⟨fun hp => ?_, fun hp => ?_⟩) | simp (disch := first | omega | assumption | (simp only [List.all_cons, List.all_nil, pl, pl1, Bool.and_self, Nat.reduceBEq, Bool.false_or, Bool.true_or, Bool.or_self, Nat.beq_refl, List.length_cons, List.length_nil, Nat.reduceAdd, Nat.reduceLT, Nat.zero_add] <;> fail) | fail) only [go_sem, ↓reduceIte, hz, none_at fr] | fail)
end
end Go.Proofs.YthpmkcmeoadaaaaGreatDoor
