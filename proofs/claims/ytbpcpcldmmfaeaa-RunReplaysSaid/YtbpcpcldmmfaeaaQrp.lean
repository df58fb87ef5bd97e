/- Decks of numbers. -/
import Derived.Test.YtbpcpcldmmfaeaaQrj
open Go Go.Pe Go.Pe.HM
namespace Go.Proofs.Ytbpcpcldmmfaeaa
set_option maxRecDepth 100000
set_option maxHeartbeats 4000000
set_option linter.unusedSimpArgs false
set_option linter.unusedVariables false
/-- the law of a function that is lent a block, where its arguments are made free -/
theorem law1g {K : Cx} {f : FuncId} {fn : Func} {c : Code} {args aa : List PV} {b : Nat} {v : PV} {cs cs' : List PV} {h : H} {x : Nat} {t : T PO} (nt : Nat) (hmd : K.md f = true) (hf : K.P.funcs[f]? = some fn) (hb : fn.body = some c)
    (ha : frzArgs args h = some ((aa, some b), ⟨x, t⟩)) (hcs : cs.all pl = true) (hg : t.get b = some (.cells cs true)) (hnt : max fn.ntmps aa.length = nt)
    (e : Ev K nt c (args_ aa 0 .e) ⟨1025, K.G.set (.cells cs true) 1024⟩ (Fin K.P fn (R1 v cs')) .mk) (hov : K.ov f = none := by rfl) : CL K f args h = some (v, ⟨x, t.set (.cells cs' true) b⟩) := by
  subst hnt
  obtain ⟨n, y, h1, e1, h2, e2⟩ := body_of_Ev hb e
  refine CL_of (n := n + 1) ?_
  have hl : lendM b ⟨x, t⟩ = some (cs, ⟨x, t⟩) := by
    unfold lendM
    simp only [HM.bnd, HM.rd, H.get, hg, mapH_pl (n := 1000) (by omega) hcs, Nat.beq_refl, cond_true, HM.ret]
  simp only [callX, hov, hf, hmd, cond_true, pureC, ha, hl, inner1, e1, e2, HM.wr, H.get, hg, H.put]
theorem law1ex {K : Cx} {f : FuncId} {fn : Func} {c : Code} {args : List PV} {cs : List PV} {G : PV → List PV → Prop} (nt : Nat) (hmd : K.md f = true) (hf : K.P.funcs[f]? = some fn) (hb : fn.body = some c) (ha : args.all pl = true) (hcs : cs.all pl = true)
    (hnt : max fn.ntmps (args.length + 1) = nt) (e : Ev K nt c (args_ (.p 1024 0 :: args) 0 .e) ⟨1025, K.G.set (.cells cs true) 1024⟩ (Fin K.P fn fun x h => ∃ v cs', G v cs' ∧ R1 v cs' x h) .mk) (hov : K.ov f = none := by rfl) :
    ∃ v cs', G v cs' ∧ ∀ b x t, 1024 ≤ b → t.get b = some (.cells cs true) → CL K f (.p b 0 :: args) ⟨x, t⟩ = some (v, ⟨x, t.set (.cells cs' true) b⟩) := by
  subst hnt
  obtain ⟨n, y, h1, e1, v, cs', hG, h2, e2⟩ := body_of_Ev (args := .p 1024 0 :: args) hb e
  refine ⟨v, cs', hG, fun b x t h1024 hg => CL_of (n := n + 1) ?_⟩
  have hl : lendM b ⟨x, t⟩ = some (cs, ⟨x, t⟩) := by
    unfold lendM
    simp only [HM.bnd, HM.rd, H.get, hg, mapH_pl (n := 1000) (by omega) hcs, Nat.beq_refl, cond_true, HM.ret]
  simp only [callX, hov, hf, hmd, cond_true, pureC, frzArgs_p h1024 ha, hl, inner1, e1, e2, HM.wr, H.get, hg, H.put]

/-- a deck: its numbers, its place -/
def atOf : Option PO → Nat
  | some (.cells [_, .i _ (.ofNat a)] _) => a
  | _ => 0
def cellsOf : Option PO → List PV
  | some (.cells cs _) => cs
  | _ => []
structure Lst (bb : Bool) (zz : Nat) (l : List Int) : Prop where
  z : (bb || Nat.beq zz 1) = true
  n : bb = true → l = []
def DeckOk (bb : Bool) (zz : Nat) (l : List Int) (o : Option PO) : Prop := ∃ a : Nat, o = some (.cells [.fl bb zz (ints l), .i .i64 (a : Int)] true) ∧ a < 1000000
theorem DeckOk_mk {bb : Bool} {zz : Nat} {l : List Int} {a : Nat} (h : a < 1000000) : DeckOk bb zz l (some (.cells [.fl bb zz (ints l), .i .i64 (a : Int)] true)) = True := eq_true ⟨a, rfl, h⟩
theorem atOf_mk {p : PV} {k : IntKind} {a : Nat} {w : Bool} : atOf (some (.cells [p, .i k (a : Int)] w)) = a := rfl
theorem cellsOf_mk {cs : List PV} {w : Bool} : cellsOf (some (.cells cs w)) = cs := rfl
def drawV (l : List Int) (a : Nat) : Int := if a < l.length then l.getD a 0 else 5 * (a : Int) + 2
def nx (l : List Int) (a : Nat) (n : Int) : Int := (drawV l a).emod n
theorem nx_ge {l : List Int} {a : Nat} {n : Int} (h : 0 < n) : 0 ≤ nx l a n := Int.emod_nonneg _ (by omega)
theorem nx_lt {l : List Int} {a : Nat} {n : Int} (h : 0 < n) : nx l a n < n := Int.emod_lt_of_pos _ h
theorem emod_of {v n : Int} (h : 0 < n) : v.emod n = if v.tmod n < 0 then v.tmod n + n else v.tmod n := by
  have e := Int.tmod_eq_emod (a := v) (b := n)
  have h5 := Int.emod_nonneg v (b := n) (by omega)
  have h6 := Int.emod_lt_of_pos v h
  have h7 : (n.natAbs : Int) = n := by omega
  rw [show v.emod n = v % n from rfl]
  by_cases hc : 0 ≤ v ∨ n ∣ v
  · rw [if_pos hc] at e; rw [if_neg (by omega)]; omega
  · rw [if_neg hc] at e; rw [if_pos (by omega)]; omega
section
variable {bb : Bool} {zz : Nat} {l : List Int}
theorem left_ (hl : Lst bb zz l) {a : Nat} (ha : a < 1000000) {b x : Nat} {t : T PO} (hb : 1024 ≤ b) (hg : t.get b = some (.cells [.fl bb zz (ints l), .i .i64 (a : Int)] true)) :
    CL KR 29 [.p b 0] ⟨x, t⟩ = some (.b (decide (a < l.length)), ⟨x, t.set (.cells [.fl bb zz (ints l), .i .i64 (a : Int)] true) b⟩) := by
  refine law1' (args := []) 13 rfl Try.func29 rfl rfl rfl (by kernel_rfl) ?_ hb hg
  by_cases hal : a < l.length
  · repeat' (first | (rewrite [SplitP_leq]; rotate_left; omega) | (rewrite [SplitP_req]; rotate_left; omega) | (rewrite [SplitP_and]; refine ⟨fun hp => ?_, fun hp => ?_⟩) | (rewrite [SplitB_leq]; rotate_left; assumption) | (rewrite [SplitB_req]; rotate_left; assumption) | (rewrite [SplitB_and]; refine ⟨fun hp => ?_, fun hp => ?_⟩) | simp (disch := first | omega | assumption | (simp only [List.all_cons, List.all_nil, pl, pl1, Bool.and_self, Nat.reduceBEq, Bool.false_or, Bool.true_or, Bool.or_self, Nat.beq_refl, List.length_cons, List.length_nil, Nat.reduceAdd, Nat.reduceLT, Nat.zero_add] <;> fail) | fail) only [go_sem, ↓reduceIte] | (rewrite [evE_drawP 1 [0, 1, 2, 3, 4, 5, 6, 7, 8, 9, 10]]; rotate_left; kernel_rfl; kernel_rfl; kernel_rfl))
    rw [R1_is rfl rfl (oset_same rfl)]
    exact ⟨by simp [hal], rfl⟩
  · repeat' (first | (rewrite [SplitP_leq]; rotate_left; omega) | (rewrite [SplitP_req]; rotate_left; omega) | (rewrite [SplitP_and]; refine ⟨fun hp => ?_, fun hp => ?_⟩) | (rewrite [SplitB_leq]; rotate_left; assumption) | (rewrite [SplitB_req]; rotate_left; assumption) | (rewrite [SplitB_and]; refine ⟨fun hp => ?_, fun hp => ?_⟩) | simp (disch := first | omega | assumption | (simp only [List.all_cons, List.all_nil, pl, pl1, Bool.and_self, Nat.reduceBEq, Bool.false_or, Bool.true_or, Bool.or_self, Nat.beq_refl, List.length_cons, List.length_nil, Nat.reduceAdd, Nat.reduceLT, Nat.zero_add] <;> fail) | fail) only [go_sem, ↓reduceIte] | (rewrite [evE_drawP 1 [0, 1, 2, 3, 4, 5, 6, 7, 8, 9, 10]]; rotate_left; kernel_rfl; kernel_rfl; kernel_rfl))
    rw [R1_is rfl rfl (oset_same rfl)]
    exact ⟨by simp [hal], rfl⟩
theorem next_ (hl : Lst bb zz l) {a : Nat} (ha : a < 1000000) {n : Int} (hn : 0 < n) (hn' : n < 1000000) {b x : Nat} {t : T PO} (hb : 1024 ≤ b) (hg : t.get b = some (.cells [.fl bb zz (ints l), .i .i64 (a : Int)] true)) :
    CL KR 30 [.p b 0, .i .i64 n] ⟨x, t⟩ = some (.i .i64 (nx l a n), ⟨x, t.set (.cells [.fl bb zz (ints l), .i .i64 ((a + 1 : Nat) : Int)] true) b⟩) := by
  refine law1' (args := [.i .i64 n]) 48 rfl Try.func30 rfl rfl rfl (by kernel_rfl) ?_ hb hg
  have hn0 : ¬ n = 0 := by omega
  have hz := hl.z
  have hlt := fun v => Int.tmod_lt_of_pos v hn
  have hge := fun v => Int.lt_tmod_of_pos v hn
  by_cases hal : a < l.length
  · have h1 := hlt (l.getD a 0)
    have h2 := hge (l.getD a 0)
    have e : nx l a n = if (l.getD a 0).tmod n < 0 then (l.getD a 0).tmod n + n else (l.getD a 0).tmod n := by
      unfold nx drawV
      rw [if_pos hal]
      exact emod_of hn
    repeat' (first | (rewrite [SplitP_leq]; rotate_left; omega) | (rewrite [SplitP_req]; rotate_left; omega) | (rewrite [SplitP_and]; refine ⟨fun hp => ?_, fun hp => ?_⟩) | (rewrite [SplitB_leq]; rotate_left; assumption) | (rewrite [SplitB_req]; rotate_left; assumption) | (rewrite [SplitB_and]; refine ⟨fun hp => ?_, fun hp => ?_⟩) | simp (disch := first | omega | assumption | (simp only [List.all_cons, List.all_nil, pl, pl1, Bool.and_self, Nat.reduceBEq, Bool.false_or, Bool.true_or, Bool.or_self, Nat.beq_refl, List.length_cons, List.length_nil, Nat.reduceAdd, Nat.reduceLT, Nat.zero_add] <;> fail) | fail) only [go_sem, ↓reduceIte, hn0, hz, wrap_id, wrap_add1] | (rewrite [evE_drawP 2 [0, 1, 2, 3, 4, 5, 6, 7, 8, 9]]; rotate_left; kernel_rfl; kernel_rfl; kernel_rfl) | (rewrite [evE_drawP 3 [0, 1, 2, 3, 4, 5, 6, 7, 8, 9, 10]]; rotate_left; kernel_rfl; kernel_rfl; kernel_rfl))
    · rw [R1_is rfl rfl (oset_same rfl), e, if_pos hp]
      exact ⟨rfl, by simp⟩
    · rw [R1_is rfl rfl (oset_same rfl), e, if_neg hp]
      exact ⟨rfl, by simp⟩
  · have h1 := hlt (5 * (a : Int) + 2)
    have h2 := hge (5 * (a : Int) + 2)
    have e : nx l a n = if (5 * (a : Int) + 2).tmod n < 0 then (5 * (a : Int) + 2).tmod n + n else (5 * (a : Int) + 2).tmod n := by
      unfold nx drawV
      rw [if_neg hal]
      exact emod_of hn
    repeat' (first | (rewrite [SplitP_leq]; rotate_left; omega) | (rewrite [SplitP_req]; rotate_left; omega) | (rewrite [SplitP_and]; refine ⟨fun hp => ?_, fun hp => ?_⟩) | (rewrite [SplitB_leq]; rotate_left; assumption) | (rewrite [SplitB_req]; rotate_left; assumption) | (rewrite [SplitB_and]; refine ⟨fun hp => ?_, fun hp => ?_⟩) | simp (disch := first | omega | assumption | (simp only [List.all_cons, List.all_nil, pl, pl1, Bool.and_self, Nat.reduceBEq, Bool.false_or, Bool.true_or, Bool.or_self, Nat.beq_refl, List.length_cons, List.length_nil, Nat.reduceAdd, Nat.reduceLT, Nat.zero_add] <;> fail) | fail) only [go_sem, ↓reduceIte, hn0, hz, wrap_id, wrap_add1] | (rewrite [evE_drawP 2 [0, 1, 2, 3, 4, 5, 6, 7, 8, 9]]; rotate_left; kernel_rfl; kernel_rfl; kernel_rfl) | (rewrite [evE_drawP 3 [0, 1, 2, 3, 4, 5, 6, 7, 8, 9, 10]]; rotate_left; kernel_rfl; kernel_rfl; kernel_rfl))
    · rw [R1_is rfl rfl (oset_same rfl), e, if_pos hp]
      exact ⟨rfl, by simp⟩
    · rw [R1_is rfl rfl (oset_same rfl), e, if_neg hp]
      exact ⟨rfl, by simp⟩
theorem left (hl : Lst bb zz l) {b x : Nat} {t : T PO} (hb : 1024 ≤ b) (hg : DeckOk bb zz l (t.get b)) :
    CL KR 29 [.p b 0] ⟨x, t⟩ = some (.b (decide (atOf (t.get b) < l.length)), ⟨x, t.set (.cells [.fl bb zz (ints l), .i .i64 (atOf (t.get b) : Int)] true) b⟩) := by
  obtain ⟨a, hg, ha⟩ := hg
  rw [hg]
  exact left_ hl ha hb hg
theorem next (hl : Lst bb zz l) {n : Int} {b x : Nat} {t : T PO} (hb : 1024 ≤ b) (hn : 0 < n) (hn' : n < 1000000) (hg : DeckOk bb zz l (t.get b)) :
    CL KR 30 [.p b 0, .i .i64 n] ⟨x, t⟩ = some (.i .i64 (nx l (atOf (t.get b)) n), ⟨x, t.set (.cells [.fl bb zz (ints l), .i .i64 ((atOf (t.get b) + 1 : Nat) : Int)] true) b⟩) := by
  obtain ⟨a, hg, ha⟩ := hg
  rw [hg]
  exact next_ hl ha hn hn' hb hg
def intOf : PV → Int
  | .i _ x => x
  | _ => 0
def pk (cs : List PV) (x : Int) : PV := cs.getD x.toNat (.i .i64 0)
def isI : PV → Bool
  | .i .i64 _ => true
  | _ => false
def CellsOk (k : Nat) (o : Option PO) : Prop := ∃ cs own, o = some (.cells cs own) ∧ cs.length = k ∧ cs.all isI = true
theorem CellsOk_is {k : Nat} {cs : List PV} {own : Bool} : CellsOk k (some (.cells cs own)) = (cs.length = k ∧ cs.all isI = true) := propext ⟨fun ⟨_, _, e, h⟩ => by cases e; exact h, fun ⟨h1, h2⟩ => ⟨cs, own, rfl, h1, h2⟩⟩
theorem isI_pl {cs : List PV} (h : cs.all isI = true) : cs.all pl1 = true := by
  rw [List.all_eq_true] at h ⊢
  intro x hx
  have := h x hx
  cases x <;> first | rfl | cases this
theorem takeX_all : ∀ l : List PV, takeX l.length l = some l
  | [] => rfl
  | x :: xs => by simp only [List.length_cons, takeX, takeX_all xs]
theorem pick_ (hl : Lst bb zz l) {a : Nat} (ha : a < 1000000) {cs : List PV} (hc : cs.all isI = true) (hk : 0 < cs.length) (hk' : cs.length < 1000) {b x : Nat} {t : T PO} (hb : 1024 ≤ b) (hg : t.get b = some (.cells [.fl bb zz (ints l), .i .i64 (a : Int)] true))
    {e : Nat} {own tg : Bool} (hbe : b ≠ e) (he : t.get e = some (.cells cs own)) :
    CL KR 31 [.p b 0, .sl e 0 cs.length 1 tg] ⟨x, t⟩ = some (pk cs (nx l a cs.length), ⟨x, (t.set (.cells cs false) e).set (.cells [.fl bb zz (ints l), .i .i64 ((a + 1 : Nat) : Int)] true) b⟩) := by
  have hq : Nat.blt b 1024 = false := by
    cases hq : Nat.blt b 1024 with
    | false => rfl
    | true =>
      have : b < 1024 := by simpa [Nat.blt_eq] using hq
      omega
  have h0 : Nat.beq cs.length 0 = false := nbeq_f (by omega)
  have ha1 : frzArgs [.p b 0, .sl e 0 cs.length 1 tg] ⟨x, t⟩ = some (([.p 1024 0, .fl false 1 cs], some b), ⟨x, t.set (.cells cs false) e⟩) := by
    have e1 : frzM 1000 (.sl e 0 cs.length 1 tg) ⟨x, t⟩ = some (.fl false 1 cs, ⟨x, t.set (.cells cs false) e⟩) := by
      unfold frzM
      simp only [h0, cond_false, bnd, rd, H.get, he, List.drop_zero, Nat.mul_one, takeX_all, ofO, ret, mapH_pl1 (n := 999) (by omega) (isI_pl hc), Go.Pe.demote, wr, H.put]
      rfl
    simp only [frzArgs, hq, cond_false, Nat.beq_refl, cond_true, bnd, e1, ret]
  refine law1g 12 rfl Try.func31 rfl ha1 rfl (by rw [T.get_set, if_neg hbe]; exact hg) (by kernel_rfl) ?_
  have hn1 := nx_ge (l := l) (a := a) (n := (cs.length : Int)) (by omega)
  have hn2 := nx_lt (l := l) (a := a) (n := (cs.length : Int)) (by omega)
  have hnx : nx l a cs.length = (((nx l a cs.length).toNat : Nat) : Int) := by omega
  have hlt : (nx l a cs.length).toNat < cs.length := by omega
  have hN : ∀ x, CL KR 30 [.p 1024 0, .i .i64 (cs.length : Int)] ⟨x, T.set (.cells [.fl bb zz (ints l), .i .i64 (a : Int)] true) T.e 1024⟩ = some (.i .i64 (((nx l a cs.length).toNat : Nat) : Int), ⟨x, T.set (.cells [.fl bb zz (ints l), .i .i64 ((a + 1 : Nat) : Int)] true) (T.set (.cells [.fl bb zz (ints l), .i .i64 (a : Int)] true) T.e 1024) 1024⟩) := fun x => by
    rw [next_ hl ha (by omega) (by omega) (Nat.le_refl _) (oset_same rfl), ← hnx]
  have hgt : cs[(nx l a cs.length).toNat]? = some (cs.getD (nx l a cs.length).toNat (.i .i64 0)) := by simp [hlt]
  have hI : ∃ y, cs.getD (nx l a cs.length).toNat (.i .i64 0) = .i .i64 y := by
    have := List.all_eq_true.1 hc (cs.getD (nx l a cs.length).toNat (.i .i64 0)) (by rw [List.getD_eq_getElem?_getD]; simp [hlt])
    cases hh : cs.getD (nx l a cs.length).toNat (.i .i64 0) <;> rw [hh] at this <;> try cases this
    rename_i k y
    cases k <;> first | exact ⟨y, rfl⟩ | cases this
  obtain ⟨y, hy⟩ := hI
  unfold pk
  rw [hy]
  rw [hy] at hgt
  repeat' (first | (rewrite [SplitP_leq]; rotate_left; omega) | (rewrite [SplitP_req]; rotate_left; omega) | (rewrite [SplitP_and]; refine ⟨fun hp => ?_, fun hp => ?_⟩) | (rewrite [SplitB_leq]; rotate_left; assumption) | (rewrite [SplitB_req]; rotate_left; assumption) | (rewrite [SplitB_and]; refine ⟨fun hp => ?_, fun hp => ?_⟩) | simp (disch := first | omega | assumption | (simp only [List.all_cons, List.all_nil, pl, pl1, Bool.and_self, Nat.reduceBEq, Bool.false_or, Bool.true_or, Bool.or_self, Nat.beq_refl, List.length_cons, List.length_nil, Nat.reduceAdd, Nat.reduceLT, Nat.zero_add] <;> fail) | fail) only [go_sem, ↓reduceIte, hN, hgt] | fail)
  rw [R1_is rfl rfl (oset_same rfl)]
  exact ⟨rfl, rfl⟩
theorem pick (hl : Lst bb zz l) {k : Nat} {e b x : Nat} {t : T PO} {tg : Bool} (hk : 0 < k) (hk' : k < 1000) (hb : 1024 ≤ b) (hbe : b ≠ e) (hc : CellsOk k (t.get e)) (hg : DeckOk bb zz l (t.get b)) :
    CL KR 31 [.p b 0, .sl e 0 k 1 tg] ⟨x, t⟩ = some (pk (cellsOf (t.get e)) (nx l (atOf (t.get b)) k), ⟨x, (t.set (.cells (cellsOf (t.get e)) false) e).set (.cells [.fl bb zz (ints l), .i .i64 ((atOf (t.get b) + 1 : Nat) : Int)] true) b⟩) := by
  obtain ⟨a, hg, ha⟩ := hg
  obtain ⟨cs, own, he, rfl, hc⟩ := hc
  rw [hg, he]
  exact pick_ hl ha hc hk hk' hb hg hbe he
theorem law2' {K : Cx} {f : FuncId} {fn : Func} {c : Code} {args : List PV} {h : H} {v : PV} {h' : H} (nt : Nat) (hmd : K.md f = false) (hf : K.P.funcs[f]? = some fn) (hb : fn.body = some c) (hnt : max fn.ntmps args.length = nt)
    (e : Ev K nt c (args_ args 0 .e) h (Fin K.P fn fun x y => x = v ∧ y = h') .mk) (hov : K.ov f = none := by rfl) : CL K f args h = some (v, h') := by
  subst hnt
  obtain ⟨v1, h1, e1, rfl, rfl⟩ := law2 hov hmd hf hb e
  exact e1
theorem new (hz : (bb || Nat.beq zz 1) = true) {n : Nat} {t : T PO} (fr : Fr ⟨n, t⟩) : CL KR 14 [.fl bb zz (ints l)] ⟨n, t⟩ = some (.p (n + 3) 0, ⟨n + 5, t.set (.cells [.fl bb zz (ints l), .i .i64 0] true) (n + 3)⟩) := by
  refine law2' 6 rfl Try.func14 rfl rfl ?_
  repeat' (first | (rewrite [SplitP_leq]; rotate_left; omega) | (rewrite [SplitP_req]; rotate_left; omega) | (rewrite [SplitP_and]; refine ⟨fun hp => ?_, fun hp => ?_⟩) | (rewrite [SplitB_leq]; rotate_left; assumption) | (rewrite [SplitB_req]; rotate_left; assumption) | (rewrite [SplitB_and]; refine ⟨fun hp => ?_, fun hp => ?_⟩) | simp (disch := first | omega | assumption | (simp only [List.all_cons, List.all_nil, pl, pl1, Bool.and_self, Nat.reduceBEq, Bool.false_or, Bool.true_or, Bool.or_self, Nat.beq_refl, List.length_cons, List.length_nil, Nat.reduceAdd, Nat.reduceLT, Nat.zero_add] <;> fail) | fail) only [go_sem, ↓reduceIte, hz, none_at fr] | fail)
end
end Go.Proofs.Ytbpcpcldmmfaeaa
