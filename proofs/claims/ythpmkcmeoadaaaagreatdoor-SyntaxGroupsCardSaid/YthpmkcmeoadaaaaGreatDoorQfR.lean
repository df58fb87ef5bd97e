/- Rules to reckon with the evaluation where values are letters. -/
import Derived.Test.YthpmkcmeoadaaaaGreatDoorQfE
namespace Go.Pe
open HM
universe u
set_option linter.unusedVariables false
set_option linter.unusedSimpArgs false

theorem set_ne {α : Type} {t : T α} {v : α} {j k : Nat} (h : j ≠ k) : (t.set v k).get j = t.get j := by rw [T.get_set, if_neg h]
theorem set_same {α : Type} {t : T α} {v : α} {j k : Nat} (h : j = k) : (t.set v k).get j = some v := by rw [T.get_set, if_pos h]
theorem tget {t : T PV} {v : PV} {j k : Nat} : (t.set v k).get j = if j = k then some v else t.get j := T.get_set ..
theorem oset_ne {t : T PO} {v : PO} {j k : Nat} (h : j ≠ k) : (t.set v k).get j = t.get j := set_ne h
theorem oset_same {t : T PO} {v : PO} {j k : Nat} (h : j = k) : (t.set v k).get j = some v := set_same h
theorem get_e {α : Type} (k : Nat) : (T.e : T α).get k = none := rfl
theorem beq_tf : (true == false) = false := rfl
theorem beq_ft : (false == true) = false := rfl
/-- no block from the next number on -/
def Fr (h : H) : Prop := ∀ b, h.next ≤ b → h.tab.get b = none
theorem Fr.to {n m : Nat} {t : T PO} (f : Fr ⟨n, t⟩) (h : n ≤ m) : Fr ⟨m, t⟩ := fun b hb => f b (Nat.le_trans h hb)
theorem Fr.set {n b : Nat} {t : T PO} {o : PO} (f : Fr ⟨n, t⟩) (h : b < n) : Fr ⟨n, t.set o b⟩ := fun c hc => by
  simp only at hc
  rw [T.get_set, if_neg (by omega)]
  exact f c hc
theorem none_at {n : Nat} {t : T PO} {b : Nat} (f : Fr ⟨n, t⟩) (h : n ≤ b) : t.get b = none := f b h
theorem putT_lt {nt d : Nat} {tm : T PV} {v : PV} (h : d < nt) : putT nt tm (some d) v = some (tm.set v d) := by
  have : Nat.blt d nt = true := by simpa [Nat.blt_eq] using h
  simp only [putT, this, cond_true]
theorem putT_no {nt : Nat} {tm : T PV} {v : PV} : putT nt tm none v = some tm := rfl
theorem blt_lt {a b : Nat} (h : a < b) : Nat.blt a b = true := by simpa [Nat.blt_eq] using h
theorem ble_le {a b : Nat} (h : a ≤ b) : Nat.ble a b = true := by simpa [Nat.ble_eq] using h
def pickO (c a b : Option PV) : HM PV := bnd (ofO c) fun
  | .b true => ofO a
  | .b false => ofO b
  | _ => no
theorem execV_pick {P : Program} {ev : Operand → Option PV} {id : Nat} {c a b : Operand} : execV P ev id (.pick c a b) = pickO (ev c) (ev a) (ev b) := rfl
theorem pickO_b {x : Bool} {a b : Option PV} : pickO (some (.b x)) a b = if x = true then ofO a else ofO b := by cases x <;> rfl

/-- a mark that keeps a reckoner out of what it names -/
inductive Tg {α : Sort u} (a : α) : Type where
  | mk
def Wr (m : Option (T PV × H)) (Q : T PV → H → Prop) (_ : Tg Q) : Prop := match m with
  | some (t, h) => Q t h
  | none => False
theorem Wr_some {t : T PV} {h : H} {Q : T PV → H → Prop} : Wr (some (t, h)) Q .mk = Q t h := rfl
/-- what is told of an evaluation of a text -/
def Ev (K : Cx) (nt : Nat) (c : Code) (tm : T PV) (h : H) (Q : PX → T PV → H → Prop) (_ : Tg (nt, c, tm, Q)) : Prop := ∃ n x tm' h', codeV K.P (callX K n) nt n c tm h = some (x, tm', h') ∧ Q x tm' h'
theorem Thn_doc : True := trivial
def Thn (Q : PX → T PV → H → Prop) (R : T PV → H → Prop) : PX → T PV → H → Prop
  | .nm, tm, h => R tm h
  | .ex i, tm, h => Q (.ex i) tm h
  | .rt, tm, h => Q .rt tm h
def Blk (id : Nat) (Q : PX → T PV → H → Prop) : PX → T PV → H → Prop
  | .nm, tm, h => Q .nm tm h
  | .ex i, tm, h => if i = id then Q .nm tm h else Q (.ex i) tm h
  | .rt, tm, h => Q .rt tm h
section
variable {K : Cx} {nt : Nat} {tm : T PV} {h : H} {Q : PX → T PV → H → Prop}
theorem Ev_region {id : Nat} {ops : Array Oper} {dr : Bool} (e : Wr (regionV K.P (CL K) nt ops dr tm h) (Q .nm) .mk) : Ev K nt (.region id ops dr) tm h Q .mk := by
  cases hs : regionV K.P (CL K) nt ops dr tm h with
  | none => rw [hs] at e; exact e.elim
  | some r =>
    obtain ⟨t, h1⟩ := r
    rw [hs] at e
    obtain ⟨n, hn⟩ := regionV_ex hs
    exact ⟨n, .nm, t, h1, by simp only [codeV, hn], e⟩
theorem Ev_reg {id : Nat} {ops : Array Oper} (e : Wr (runT K.P (CL K) nt ops h.next ops.toList 0 tm ⟨h.next + ops.size, h.tab⟩) (Q .nm) .mk) : Ev K nt (.region id ops false) tm h Q .mk := by
  apply Ev_region
  unfold regionV
  simp only [cond_false]
  exact e
theorem Ev_draw {id : Nat} {ops : Array Oper} (c : List Nat) (hc : canon K.P ops.toList (masks ops) ops.size (List.range ops.size) = c) (hok : okR K.P ops (masks ops) c = true)
    (e : Wr (runC K.P (CL K) nt ops h.next (masks ops) c tm ⟨h.next + ops.size, h.tab⟩ []) (Q .nm) .mk) : Ev K nt (.region id ops true) tm h Q .mk := by
  apply Ev_region
  unfold regionV
  simp only [cond_true, hc, hok]
  exact e
theorem Ev_up {c : Code} {n : Nat} {x : PX} {t : T PV} {h1 : H} (e : codeV K.P (callX K n) nt n c tm h = some (x, t, h1)) {m : Nat} (hm : n ≤ m) : codeV K.P (callX K m) nt m c tm h = some (x, t, h1) :=
  codeV_le (callX_le K hm) hm e
theorem Ev_seq {a b : Code} (e : Ev K nt a tm h (Thn Q fun tm h => Ev K nt b tm h Q .mk) .mk) : Ev K nt (.seq a b) tm h Q .mk := by
  obtain ⟨n, x, t, h1, e1, e2⟩ := e
  cases x with
  | nm =>
    obtain ⟨m, y, t2, h2, e3, e4⟩ := e2
    refine ⟨max n m, y, t2, h2, ?_, e4⟩
    simp only [codeV, Ev_up e1 (Nat.le_max_left n m), Ev_up e3 (Nat.le_max_right n m)]
  | ex i => exact ⟨n, _, _, _, by simp only [codeV, e1], e2⟩
  | rt => exact ⟨n, _, _, _, by simp only [codeV, e1], e2⟩
theorem Ev_skip (e : Q .nm tm h) : Ev K nt .skip tm h Q .mk := ⟨0, _, _, _, rfl, e⟩
theorem Ev_label {l : Nat} (e : Q .nm tm h) : Ev K nt (.label l) tm h Q .mk := ⟨0, _, _, _, rfl, e⟩
theorem Ev_ret (e : Q .rt tm h) : Ev K nt .ret tm h Q .mk := ⟨0, _, _, _, rfl, e⟩
theorem Ev_exit {i : Nat} (e : Q (.ex i) tm h) : Ev K nt (.exit i) tm h Q .mk := ⟨0, _, _, _, rfl, e⟩
theorem Ev_cond {c : Operand} {x y : Code} {b : Bool} (hc : opnd tm c = some (.b b)) (hx : b = true → Ev K nt x tm h Q .mk) (hy : b = false → Ev K nt y tm h Q .mk) : Ev K nt (.cond c x y) tm h Q .mk := by
  cases b
  · obtain ⟨n, x, t, h1, e1, e2⟩ := hy rfl
    exact ⟨n, x, t, h1, by simp only [codeV, hc, e1], e2⟩
  · obtain ⟨n, x, t, h1, e1, e2⟩ := hx rfl
    exact ⟨n, x, t, h1, by simp only [codeV, hc, e1], e2⟩
theorem Ev_condT {c : Operand} {x y : Code} (hc : opnd tm c = some (.b true)) (hx : Ev K nt x tm h Q .mk) : Ev K nt (.cond c x y) tm h Q .mk := Ev_cond hc (fun _ => hx) (fun h => by cases h)
theorem Ev_condF {c : Operand} {x y : Code} (hc : opnd tm c = some (.b false)) (hx : Ev K nt y tm h Q .mk) : Ev K nt (.cond c x y) tm h Q .mk := Ev_cond hc (fun h => by cases h) (fun _ => hx)
theorem Ev_block {id : Nat} {c : Code} (e : Ev K nt c tm h (Blk id Q) .mk) : Ev K nt (.block id c) tm h Q .mk := by
  obtain ⟨n, x, t, h1, e1, e2⟩ := e
  cases x with
  | nm => exact ⟨n, _, _, _, by simp only [codeV, e1], e2⟩
  | ex i =>
    simp only [Blk] at e2
    by_cases hi : i = id
    · subst hi
      rw [if_pos rfl] at e2
      exact ⟨n, _, _, _, by simp only [codeV, e1, Nat.beq_refl, cond_true], e2⟩
    · rw [if_neg hi] at e2
      have : Nat.beq i id = false := by
        cases hb : Nat.beq i id with
        | false => rfl
        | true => exact absurd (Nat.eq_of_beq_eq_true hb) hi
      exact ⟨n, _, _, _, by simp only [codeV, e1, this, cond_false], e2⟩
  | rt => exact ⟨n, _, _, _, by simp only [codeV, e1], e2⟩
theorem Ev_scope {c : Code} (e : Ev K nt c tm h Q .mk) : Ev K nt (.scope c) tm h Q .mk := e
/-- a loop: I i: at most i rounds are left -/
theorem Ev_loop {c : Code} (I : Nat → T PV → H → Prop) (step : ∀ i tm h, I i tm h → Ev K nt c tm h (Thn Q fun tm h => ∃ j, j < i ∧ I j tm h) .mk) : ∀ (i : Nat) {tm : T PV} {h : H}, I i tm h → Ev K nt (.loop c) tm h Q .mk := by
  have : ∀ (k i : Nat) {tm : T PV} {h : H}, i < k → I i tm h → Ev K nt (.loop c) tm h Q .mk := by
    intro k
    induction k with
    | zero => intro i tm h hi; omega
    | succ k ih =>
      intro i tm h hi h0
      obtain ⟨n, x, t, h1, e1, e2⟩ := step i tm h h0
      cases x with
      | nm =>
        obtain ⟨j, hj, hI⟩ := e2
        obtain ⟨m, y, t2, h2, e3, e4⟩ := ih j (by omega) hI
        refine ⟨max n m + 1, y, t2, h2, ?_, e4⟩
        have hn : n ≤ max n m + 1 := by omega
        have hm : m ≤ max n m + 1 := by omega
        simp only [codeV] at e3 ⊢
        simp only [loopV, Ev_up e1 hn]
        exact loopV_le (fun tm h r e => codeV_le (callX_le K hm) hm e) (by omega) e3
      | ex i => exact ⟨n + 1, _, _, _, by simp only [codeV, loopV, Ev_up e1 (Nat.le_succ n)], e2⟩
      | rt => exact ⟨n + 1, _, _, _, by simp only [codeV, loopV, Ev_up e1 (Nat.le_succ n)], e2⟩
  exact fun i tm h h0 => this (i + 1) i (by omega) h0
theorem Ev_mono {c : Code} {Q' : PX → T PV → H → Prop} (e : Ev K nt c tm h Q .mk) (hq : ∀ x tm h, Q x tm h → Q' x tm h) : Ev K nt c tm h Q' .mk :=
  let ⟨n, x, t, h1, e1, e2⟩ := e; ⟨n, x, t, h1, e1, hq _ _ _ e2⟩
end

/-- the end of a call -/
def Fin (P : Program) (fn : Func) (R : PV → H → Prop) : PX → T PV → H → Prop
  | .ex _, _, _ => False
  | _, tm, h => ∃ l h', resV P tm fn.results.toList h = some (l, h') ∧ R (one_ l) h'
theorem body_of_Ev {K : Cx} {fn : Func} {c : Code} {args : List PV} {h : H} {R : PV → H → Prop} (hb : fn.body = some c)
    (e : Ev K (max fn.ntmps args.length) c (args_ args 0 .e) h (Fin K.P fn R) .mk) : ∃ n v h', bodyV K.P (callX K n) n fn args h = some (v, h') ∧ R v h' := by
  obtain ⟨n, x, t, h1, e1, e2⟩ := e
  refine ⟨n, ?_⟩
  unfold bodyV
  simp only [hb, e1]
  cases x with
  | nm => obtain ⟨l, h', e3, e4⟩ := e2; exact ⟨_, _, by simp only [e3], e4⟩
  | ex i => exact e2.elim
  | rt => obtain ⟨l, h', e3, e4⟩ := e2; exact ⟨_, _, by simp only [e3], e4⟩
/-- the result, made free -/
def R0 (v : PV) : PV → H → Prop := fun x h => ∃ h', frzM 1000 x h = some (v, h')
def R1 (v : PV) (cs : List PV) : PV → H → Prop := fun x h => ∃ h', unlend x h = some ((v, cs), h')
/-- the law of a function that is given free values alone -/
theorem law0 {K : Cx} {f : FuncId} {fn : Func} {c : Code} {args as : List PV} {v : PV} (hov : K.ov f = none) (hmd : K.md f = true) (hf : K.P.funcs[f]? = some fn) (hb : fn.body = some c) (ha : ∀ h, frzArgs args h = some ((as, none), h))
    (e : Ev K (max fn.ntmps as.length) c (args_ as 0 .e) ⟨1024, K.G⟩ (Fin K.P fn (R0 v)) .mk) (h : H) : CL K f args h = some (v, h) := by
  obtain ⟨n, x, h1, e1, h2, e2⟩ := body_of_Ev hb e
  refine CL_of (n := n + 1) ?_
  simp only [callX, hov, hf, hmd, cond_true, pureC, ha, inner0, e1, e2]
  cases scal v <;> rfl
/-- the law of a function that is lent a block -/
theorem law1 {K : Cx} {f : FuncId} {fn : Func} {c : Code} {args as : List PV} {b : Nat} {v : PV} {cs cs' : List PV} (hov : K.ov f = none) (hmd : K.md f = true) (hf : K.P.funcs[f]? = some fn) (hb : fn.body = some c) (ha : ∀ h, frzArgs args h = some ((as, some b), h))
    (hcs : ∀ h, mapH (frzM 1000) cs h = some (cs, h))
    (e : Ev K (max fn.ntmps as.length) c (args_ as 0 .e) ⟨1025, K.G.set (.cells cs true) 1024⟩ (Fin K.P fn (R1 v cs')) .mk) (x : Nat) (t : T PO) (hg : t.get b = some (.cells cs true)) : CL K f args ⟨x, t⟩ = some (v, ⟨x, t.set (.cells cs' true) b⟩) := by
  obtain ⟨n, y, h1, e1, h2, e2⟩ := body_of_Ev hb e
  refine CL_of (n := n + 1) ?_
  have hl : lendM b ⟨x, t⟩ = some (cs, ⟨x, t⟩) := by
    unfold lendM
    simp only [HM.bnd, HM.rd, H.get, hg, hcs, Nat.beq_refl, cond_true, HM.ret]
  simp only [callX, hov, hf, hmd, cond_true, pureC, ha, hl, inner1, e1, e2, HM.wr, H.get, hg, H.put]
/-- the law of a function that works in its caller's heap -/
theorem law2 {K : Cx} {f : FuncId} {fn : Func} {c : Code} {args : List PV} {h : H} {R : PV → H → Prop} (hov : K.ov f = none) (hmd : K.md f = false) (hf : K.P.funcs[f]? = some fn) (hb : fn.body = some c)
    (e : Ev K (max fn.ntmps args.length) c (args_ args 0 .e) h (Fin K.P fn R) .mk) : ∃ v h', CL K f args h = some (v, h') ∧ R v h' := by
  obtain ⟨n, x, h1, e1, e2⟩ := body_of_Ev hb e
  refine ⟨x, h1, CL_of (n := n + 1) ?_, e2⟩
  simp only [callX, hov, hf, hmd, cond_false]
  exact e1

theorem Fin_rt {P : Program} {fn : Func} {R : PV → H → Prop} {tm : T PV} {h : H} {t : Tmp} {v : PV} (hr : fn.results.toList = [.tmp t]) (hv : tm.get t = some v) (e : R v h) : Fin P fn R .rt tm h := by
  refine ⟨[v], h, ?_, e⟩
  rw [hr]
  simp only [resV, bnd, ret, hv, Option.getD_some]
theorem Fin_2t {P : Program} {fn : Func} {R : PV → H → Prop} {tm : T PV} {h : H} {t1 t2 : Tmp} {v1 v2 : PV} (hr : fn.results.toList = [.tmp t1, .tmp t2]) (h1 : tm.get t1 = some v1) (h2 : tm.get t2 = some v2) (e : R (.tup [v1, v2]) h) : Fin P fn R .rt tm h := by
  refine ⟨[v1, v2], h, ?_, e⟩
  rw [hr]
  simp only [resV, bnd, ret, h1, h2, Option.getD_some]
theorem Fin_3t {P : Program} {fn : Func} {R : PV → H → Prop} {tm : T PV} {h : H} {t1 t2 t3 : Tmp} {v1 v2 v3 : PV} (hr : fn.results.toList = [.tmp t1, .tmp t2, .tmp t3]) (h1 : tm.get t1 = some v1) (h2 : tm.get t2 = some v2) (h3 : tm.get t3 = some v3) (e : R (.tup [v1, v2, v3]) h) : Fin P fn R .rt tm h := by
  refine ⟨[v1, v2, v3], h, ?_, e⟩
  rw [hr]
  simp only [resV, bnd, ret, h1, h2, h3, Option.getD_some]

/-- values that are free as they are -/
def pl1 : PV → Bool
  | .p _ _ | .m _ | .sl _ _ _ _ _ | .agg _ | .tup _ | .ifc _ _ | .fn _ _ => false
  | _ => true
def pl : PV → Bool
  | .agg l => l.all pl1
  | v => pl1 v
theorem frzM_pl1 {n : Nat} {v : PV} {h : H} (hn : 0 < n) (hp : pl1 v = true) : frzM n v h = some (v, h) := by
  cases n with
  | zero => omega
  | succ n => cases v <;> simp only [pl1, Bool.false_eq_true] at hp <;> rfl
theorem mapH_pl1 {n : Nat} {h : H} (hn : 0 < n) : ∀ {l : List PV}, l.all pl1 = true → mapH (frzM n) l h = some (l, h)
  | [], _ => rfl
  | x :: xs, hp => by
    simp only [List.all_cons, Bool.and_eq_true] at hp
    simp only [mapH, bnd, frzM_pl1 hn hp.1, mapH_pl1 hn hp.2, ret]
theorem frzM_pl {n : Nat} {v : PV} {h : H} (hn : 1 < n) (hp : pl v = true) : frzM n v h = some (v, h) := by
  cases n with
  | zero => omega
  | succ n =>
    cases v
    case agg l =>
      simp only [pl] at hp
      simp only [frzM, bnd, mapH_pl1 (show 0 < n by omega) hp, ret]
    all_goals exact frzM_pl1 (by omega) hp
theorem mapH_pl {n : Nat} {h : H} (hn : 1 < n) : ∀ {l : List PV}, l.all pl = true → mapH (frzM n) l h = some (l, h)
  | [], _ => rfl
  | x :: xs, hp => by
    simp only [List.all_cons, Bool.and_eq_true] at hp
    simp only [mapH, bnd, frzM_pl hn hp.1, mapH_pl hn hp.2, ret]
theorem frzArgs_pl {h : H} : ∀ {l : List PV}, l.all pl = true → frzArgs l h = some ((l, none), h)
  | [], _ => rfl
  | x :: xs, hp => by
    simp only [List.all_cons, Bool.and_eq_true] at hp
    have ih := frzArgs_pl (h := h) hp.2
    have hx := frzM_pl (n := 1000) (h := h) (by omega) hp.1
    cases x
    case p b o => cases hp.1
    all_goals (simp only [frzArgs, bnd, hx, ih, ret])
theorem frzArgs_p {h : H} {b : Nat} (hb : 1024 ≤ b) {l : List PV} (hp : l.all pl = true) : frzArgs (.p b 0 :: l) h = some ((.p 1024 0 :: l, some b), h) := by
  have : Nat.blt b 1024 = false := by
    cases hq : Nat.blt b 1024 with
    | false => rfl
    | true => have : b < 1024 := by simpa [Nat.blt_eq] using hq
              omega
  simp only [frzArgs, this, cond_false, Nat.beq_refl, cond_true, bnd, frzArgs_pl hp, ret]
theorem R0_pl {v : PV} {h : H} (hp : pl v = true) : R0 v v h := ⟨h, frzM_pl (by omega) hp⟩
theorem frzM_tup {n : Nat} {l : List PV} {h : H} (hn : 2 < n) (hp : l.all pl = true) : frzM n (.tup l) h = some (.tup l, h) := by
  cases n with
  | zero => omega
  | succ n => simp only [frzM, bnd, mapH_pl (n := n) (by omega) hp, ret]
theorem R0_tup {l : List PV} {h : H} (hp : l.all pl = true) : R0 (.tup l) (.tup l) h := ⟨h, frzM_tup (by omega) hp⟩
theorem R1_pl {v : PV} {x : Nat} {t : T PO} {cs : List PV} (hp : pl v = true) (hc : cs.all pl = true) (hg : t.get 1024 = some (.cells cs true)) : R1 v cs v ⟨x, t⟩ := ⟨⟨x, t⟩, by
  unfold unlend lendM
  simp only [bnd, frzM_pl (n := 1000) (by omega) hp, rd, H.get, hg, mapH_pl (n := 1000) (by omega) hc, Nat.beq_refl, cond_true, ret]⟩

theorem natIx_cast (k : IntKind) (j : Nat) : natIx (.i k (j : Int)) = some j := rfl
theorem natIx_2 (k : IntKind) : natIx (.i k 2) = some 2 := rfl
theorem natIx_3 (k : IntKind) : natIx (.i k 3) = some 3 := rfl
theorem natIx_4 (k : IntKind) : natIx (.i k 4) = some 4 := rfl
theorem natIx_5 (k : IntKind) : natIx (.i k 5) = some 5 := rfl
theorem natIx_6 (k : IntKind) : natIx (.i k 6) = some 6 := rfl
theorem natIx_7 (k : IntKind) : natIx (.i k 7) = some 7 := rfl
theorem natIx_8 (k : IntKind) : natIx (.i k 8) = some 8 := rfl
theorem natIx_9 (k : IntKind) : natIx (.i k 9) = some 9 := rfl
theorem natIx_10 (k : IntKind) : natIx (.i k 10) = some 10 := rfl
theorem natIx_11 (k : IntKind) : natIx (.i k 11) = some 11 := rfl
theorem natIx_12 (k : IntKind) : natIx (.i k 12) = some 12 := rfl
theorem natIx_13 (k : IntKind) : natIx (.i k 13) = some 13 := rfl
theorem natIx_14 (k : IntKind) : natIx (.i k 14) = some 14 := rfl
theorem natIx_15 (k : IntKind) : natIx (.i k 15) = some 15 := rfl
theorem natIx_16 (k : IntKind) : natIx (.i k 16) = some 16 := rfl
theorem natIx_17 (k : IntKind) : natIx (.i k 17) = some 17 := rfl
theorem natIx_18 (k : IntKind) : natIx (.i k 18) = some 18 := rfl
theorem natIx_19 (k : IntKind) : natIx (.i k 19) = some 19 := rfl
theorem natIx_20 (k : IntKind) : natIx (.i k 20) = some 20 := rfl
theorem natIx_21 (k : IntKind) : natIx (.i k 21) = some 21 := rfl
theorem natIx_22 (k : IntKind) : natIx (.i k 22) = some 22 := rfl
theorem natIx_23 (k : IntKind) : natIx (.i k 23) = some 23 := rfl
theorem natIx_24 (k : IntKind) : natIx (.i k 24) = some 24 := rfl
theorem natIx_25 (k : IntKind) : natIx (.i k 25) = some 25 := rfl
theorem natIx_26 (k : IntKind) : natIx (.i k 26) = some 26 := rfl
theorem natIx_27 (k : IntKind) : natIx (.i k 27) = some 27 := rfl
theorem natIx_28 (k : IntKind) : natIx (.i k 28) = some 28 := rfl
theorem natIx_29 (k : IntKind) : natIx (.i k 29) = some 29 := rfl
theorem natIx_30 (k : IntKind) : natIx (.i k 30) = some 30 := rfl
theorem natIx_31 (k : IntKind) : natIx (.i k 31) = some 31 := rfl
theorem natIx_32 (k : IntKind) : natIx (.i k 32) = some 32 := rfl
theorem natIx_33 (k : IntKind) : natIx (.i k 33) = some 33 := rfl
theorem natIx_34 (k : IntKind) : natIx (.i k 34) = some 34 := rfl
theorem natIx_35 (k : IntKind) : natIx (.i k 35) = some 35 := rfl
theorem natIx_36 (k : IntKind) : natIx (.i k 36) = some 36 := rfl
theorem natIx_37 (k : IntKind) : natIx (.i k 37) = some 37 := rfl
theorem natIx_38 (k : IntKind) : natIx (.i k 38) = some 38 := rfl
theorem natIx_39 (k : IntKind) : natIx (.i k 39) = some 39 := rfl
theorem natIx_40 (k : IntKind) : natIx (.i k 40) = some 40 := rfl
theorem natIx_41 (k : IntKind) : natIx (.i k 41) = some 41 := rfl
theorem natIx_42 (k : IntKind) : natIx (.i k 42) = some 42 := rfl
theorem natIx_43 (k : IntKind) : natIx (.i k 43) = some 43 := rfl
theorem natIx_44 (k : IntKind) : natIx (.i k 44) = some 44 := rfl
theorem natIx_45 (k : IntKind) : natIx (.i k 45) = some 45 := rfl
theorem natIx_46 (k : IntKind) : natIx (.i k 46) = some 46 := rfl
theorem natIx_47 (k : IntKind) : natIx (.i k 47) = some 47 := rfl
theorem natIx_48 (k : IntKind) : natIx (.i k 48) = some 48 := rfl
theorem natIx_49 (k : IntKind) : natIx (.i k 49) = some 49 := rfl
theorem natIx_50 (k : IntKind) : natIx (.i k 50) = some 50 := rfl
theorem natIx_51 (k : IntKind) : natIx (.i k 51) = some 51 := rfl
theorem natIx_52 (k : IntKind) : natIx (.i k 52) = some 52 := rfl
theorem natIx_53 (k : IntKind) : natIx (.i k 53) = some 53 := rfl
theorem natIx_54 (k : IntKind) : natIx (.i k 54) = some 54 := rfl
theorem natIx_55 (k : IntKind) : natIx (.i k 55) = some 55 := rfl
theorem natIx_56 (k : IntKind) : natIx (.i k 56) = some 56 := rfl
theorem natIx_57 (k : IntKind) : natIx (.i k 57) = some 57 := rfl
theorem natIx_58 (k : IntKind) : natIx (.i k 58) = some 58 := rfl
theorem natIx_59 (k : IntKind) : natIx (.i k 59) = some 59 := rfl
theorem natIx_60 (k : IntKind) : natIx (.i k 60) = some 60 := rfl
theorem natIx_61 (k : IntKind) : natIx (.i k 61) = some 61 := rfl
theorem natIx_62 (k : IntKind) : natIx (.i k 62) = some 62 := rfl
theorem natIx_63 (k : IntKind) : natIx (.i k 63) = some 63 := rfl
theorem natIx_64 (k : IntKind) : natIx (.i k 64) = some 64 := rfl
theorem natIx_0 (k : IntKind) : natIx (.i k 0) = some 0 := rfl
theorem natIx_1 (k : IntKind) : natIx (.i k 1) = some 1 := rfl
theorem wrap_id {a : Int} (h : -9223372036854775808 ≤ a) (h' : a < 9223372036854775808) : wrapF .i64 a = a := by
  have : inI64 a = true := by simp [inI64, h, h']
  simp [wrapF, this]
theorem wrap_sub1 {j : Nat} (h1 : 1 ≤ j) (h2 : j < 9223372036854775807) : wrapF .i64 ((j : Int) - 1) = ((j - 1 : Nat) : Int) := by rw [wrap_id (by omega) (by omega)]; omega
theorem wrap_add1 {j : Nat} (h2 : j < 9223372036854775806) : wrapF .i64 ((j : Int) + 1) = ((j + 1 : Nat) : Int) := by rw [wrap_id (by omega) (by omega)]; omega
theorem one_b (x : Bool) : (PV.b x).one = true := rfl
theorem cells_b (x : Bool) : (PV.b x).cells = [PV.b x] := rfl
theorem one_i (k : IntKind) (x : Int) : (PV.i k x).one = true := rfl
theorem cells_i (k : IntKind) (x : Int) : (PV.i k x).cells = [PV.i k x] := rfl
theorem one_s (x : List Nat) : (PV.s x).one = true := rfl
theorem cells_s (x : List Nat) : (PV.s x).cells = [PV.s x] := rfl
theorem one_nilp  : (PV.nilp).one = true := rfl
theorem cells_nilp  : (PV.nilp).cells = [PV.nilp] := rfl
theorem one_p (x y : Nat) : (PV.p x y).one = true := rfl
theorem cells_p (x y : Nat) : (PV.p x y).cells = [PV.p x y] := rfl
theorem one_fl (b : Bool) (z : Nat) (es : List PV) : (PV.fl b z es).one = true := rfl
theorem cells_fl (b : Bool) (z : Nat) (es : List PV) : (PV.fl b z es).cells = [PV.fl b z es] := rfl
theorem one_fp (z : Nat) (es : List PV) (i o : Nat) : (PV.fp z es i o).one = true := rfl
theorem cells_fp (z : Nat) (es : List PV) (i o : Nat) : (PV.fp z es i o).cells = [PV.fp z es i o] := rfl
theorem one_sl (a b c d : Nat) (t : Bool) : (PV.sl a b c d t).one = true := rfl
theorem cells_sl (a b c d : Nat) (t : Bool) : (PV.sl a b c d t).cells = [PV.sl a b c d t] := rfl
theorem one_nili  : (PV.nili).one = true := rfl
theorem cells_nili  : (PV.nili).cells = [PV.nili] := rfl
theorem cells_agg (l : List PV) : (PV.agg l).cells = l := rfl
/-- an element of a frozen list -/
theorem rowX_get {es : List PV} {i o n : Nat} {e : PV} (he : es[i]? = some e) : rowX es i o n = takeX n (e.cells.drop o) := by simp only [rowX, he]
end Go.Pe
