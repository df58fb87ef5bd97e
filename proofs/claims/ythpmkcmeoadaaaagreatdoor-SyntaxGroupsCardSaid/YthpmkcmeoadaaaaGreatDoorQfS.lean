/- Rules that walk a region operation by operation, and split where a truth value comes up. -/
import Derived.Test.YthpmkcmeoadaaaaGreatDoorQfR
namespace Go.Pe
open HM
universe u
set_option linter.unusedVariables false
set_option linter.unusedSimpArgs false

def WrO (m : Option (PV × H)) (R : PV → H → Prop) (_ : Tg R) : Prop := match m with
  | some (v, h) => R v h
  | none => False
def WrP (m : Option (T PV)) (R : T PV → Prop) (_ : Tg R) : Prop := match m with
  | some t => R t
  | none => False
def SplitB (e : Bool) (A B : Prop) (_ : Tg A) (_ : Tg B) : Prop := (e = true → A) ∧ (e = false → B)
def SplitP (p A B : Prop) (_ : Tg A) (_ : Tg B) : Prop := (p → A) ∧ (¬ p → B)
theorem SplitB_t {A B : Prop} : SplitB true A B .mk .mk = A := by simp [SplitB]
theorem SplitB_f {A B : Prop} : SplitB false A B .mk .mk = B := by simp [SplitB]
theorem SplitP_t {A B : Prop} : SplitP True A B .mk .mk = A := by simp [SplitP]
theorem SplitP_f {A B : Prop} : SplitP False A B .mk .mk = B := by simp [SplitP]
theorem SplitB_d {p A B : Prop} [Decidable p] : SplitB (decide p) A B .mk .mk = SplitP p A B .mk .mk := by simp [SplitB, SplitP]
theorem SplitB_n {e : Bool} {A B : Prop} : SplitB (!e) A B .mk .mk = SplitB e B A .mk .mk := by cases e <;> simp [SplitB]
theorem SplitB_intro {e : Bool} {A B : Prop} (ha : e = true → A) (hb : e = false → B) : SplitB e A B .mk .mk := ⟨ha, hb⟩
theorem SplitP_intro {p A B : Prop} (ha : p → A) (hb : ¬ p → B) : SplitP p A B .mk .mk := ⟨ha, hb⟩
theorem SplitP_left {p A B : Prop} (h : p) (ha : A) : SplitP p A B .mk .mk := ⟨fun _ => ha, fun h' => absurd h h'⟩
theorem SplitP_right {p A B : Prop} (h : ¬ p) (hb : B) : SplitP p A B .mk .mk := ⟨fun h' => absurd h' h, fun _ => hb⟩
theorem SplitB_left {e : Bool} {A B : Prop} (h : e = true) (ha : A) : SplitB e A B .mk .mk := ⟨fun _ => ha, fun h' => by rw [h] at h'; exact absurd h' (by simp)⟩
theorem SplitB_right {e : Bool} {A B : Prop} (h : e = false) (hb : B) : SplitB e A B .mk .mk := ⟨fun h' => by rw [h] at h'; exact absurd h' (by simp), fun _ => hb⟩
/-- an operation, without what it does not use: where its value goes, what it is, when it is done -/
structure SO where
  dst : Option Tmp
  op : Op
  gd : Option (Option Tmp × Bool)
def dstL : List Oper → Nat → Option Tmp
  | [], _ => none
  | o :: _, 0 => o.dst
  | _ :: os, n + 1 => dstL os n
def prepG (ol : List Oper) : Option (Nat × Bool) → Option (Option Tmp × Bool)
  | none => none
  | some (j, w) => some (dstL ol j, w)
def prepL (ol : List Oper) : List Oper → List SO
  | [] => []
  | o :: os => ⟨o.dst, o.op, prepG ol o.guard⟩ :: prepL ol os
def wantS (tm : T PV) : Option (Option Tmp × Bool) → Bool
  | none => true
  | some (none, _) => false
  | some (some d, w) => match tm.get d with
    | some (.b x) => x == w
    | _ => false
section
variable {P : Program} {call : FuncId → List PV → HM PV} {nt : Nat} {ops : Array Oper} {base : Nat} {ms : List Nat} {tm : T PV} {h : H} {Q : T PV → H → Prop} {R : PV → H → Prop} {S : T PV → Prop}
theorem dstL_get (j : Nat) : ∀ l : List Oper, (l[j]?.bind fun o => o.dst) = dstL l j := by
  induction j with
  | zero => intro l; cases l <;> simp [dstL]
  | succ j ih => intro l; cases l <;> simp [dstL, ih]
theorem wantV_S {o : Oper} : wantV ops tm o = wantS tm (prepG ops.toList o.guard) := by
  unfold wantV
  cases o.guard with
  | none => rfl
  | some g =>
    obtain ⟨j, w⟩ := g
    simp only [prepG, ← dstL_get, yielV]
    rw [Array.getElem?_toList]
    cases ops[j]? with
    | none => rfl
    | some o =>
      simp only [Option.bind_some]
      cases o.dst with
      | none => rfl
      | some d =>
        simp only [wantS]
        cases hq : tm.get d with
        | none => rfl
        | some v => cases v <;> rfl
def runS (P : Program) (call : FuncId → List PV → HM PV) (nt base : Nat) : List SO → Nat → T PV → H → Option (T PV × H)
  | [], _, tm, h => some (tm, h)
  | o :: os, i, tm, h => match (bif wantS tm o.gd then execC P call (opnd tm) (base + i) o.op h else some (.tup [], h)) with
    | some (v, h') => match putT nt tm o.dst v with
      | some tm' => runS P call nt base os (i + 1) tm' h'
      | none => none
    | none => none
theorem runT_S : ∀ {os : List Oper} {i : Nat} {tm : T PV} {h : H}, runT P call nt ops base os i tm h = runS P call nt base (prepL ops.toList os) i tm h
  | [], _, _, _ => rfl
  | o :: os, i, tm, h => by
    simp only [runT, prepL, runS, opStep, opVal, wantV_S]
    cases (bif wantS tm (prepG ops.toList o.guard) then execC P call (opnd tm) (base + i) o.op h else some (.tup [], h)) with
    | none => rfl
    | some r =>
      obtain ⟨v, h'⟩ := r
      simp only
      cases putT nt tm o.dst v with
      | none => rfl
      | some t => exact runT_S
theorem prepL_nil {ol : List Oper} : prepL ol [] = [] := rfl
theorem prepL_none {ol os : List Oper} {d : Option Tmp} {op : Op} {t : TypeId} {p : String} {a : Array Edge} : prepL ol (⟨d, op, t, p, a, none⟩ :: os) = ⟨d, op, none⟩ :: prepL ol os := rfl
theorem prepL_some {ol os : List Oper} {d : Option Tmp} {op : Op} {t : TypeId} {p : String} {a : Array Edge} {j : Nat} {w : Bool} : prepL ol (⟨d, op, t, p, a, some (j, w)⟩ :: os) = ⟨d, op, some (dstL ol j, w)⟩ :: prepL ol os := rfl
theorem dstL_0 {os : List Oper} {d : Option Tmp} {op : Op} {t : TypeId} {p : String} {a : Array Edge} {g : Option (Nat × Bool)} : dstL (⟨d, op, t, p, a, g⟩ :: os) 0 = d := rfl
theorem dstL_s {o : Oper} {os : List Oper} {n : Nat} : dstL (o :: os) (n + 1) = dstL os n := rfl
theorem walk_nil {i : Nat} : Wr (runS P call nt base [] i tm h) Q .mk = Q tm h := rfl
theorem walk_none {d : Option Tmp} {op : Op} {os : List SO} {i : Nat} : Wr (runS P call nt base (⟨d, op, none⟩ :: os) i tm h) Q .mk = WrO (execC P call (opnd tm) (base + i) op h) (fun v h' => WrP (putT nt tm d v) (fun tm' => Wr (runS P call nt base os (i + 1) tm' h') Q .mk) .mk) .mk := by
  simp only [runS, wantS, cond_true]
  cases execC P call (opnd tm) (base + i) op h with
  | none => rfl
  | some r =>
    obtain ⟨v, h'⟩ := r
    simp only [WrO]
    cases putT nt tm d v with
    | none => rfl
    | some t => rfl
theorem walk_some {d : Option Tmp} {op : Op} {g : Option Tmp × Bool} {os : List SO} {i : Nat} : Wr (runS P call nt base (⟨d, op, some g⟩ :: os) i tm h) Q .mk = SplitB (wantS tm (some g)) (WrO (execC P call (opnd tm) (base + i) op h) (fun v h' => WrP (putT nt tm d v) (fun tm' => Wr (runS P call nt base os (i + 1) tm' h') Q .mk) .mk) .mk)
    (WrP (putT nt tm d (.tup [])) (fun tm' => Wr (runS P call nt base os (i + 1) tm' h) Q .mk) .mk) .mk .mk := by
  simp only [runS]
  cases wantS tm (some g) with
  | false =>
    rw [SplitB_f]
    simp only [cond_false]
    cases putT nt tm d (.tup []) with
    | none => rfl
    | some t => rfl
  | true =>
    rw [SplitB_t]
    simp only [cond_true]
    cases execC P call (opnd tm) (base + i) op h with
    | none => rfl
    | some r =>
      obtain ⟨v, h'⟩ := r
      simp only [WrO]
      cases putT nt tm d v with
      | none => rfl
      | some t => rfl
theorem wantS_b {d : Tmp} {w x : Bool} (hg : tm.get d = some (.b x)) : wantS tm (some (some d, w)) = (x == w) := by simp only [wantS, hg]
theorem walkC_nil {sn : List (Nat × H)} : Wr (runC P call nt ops base ms [] tm h sn) Q .mk = Q tm h := rfl
theorem walkC {is : List Nat} {i : Nat} {o : Oper} {sn : List (Nat × H)} (ho : ops[i]? = some o) : Wr (runC P call nt ops base ms (i :: is) tm h sn) Q .mk =
    ((!wantV ops tm o || chk P ops base ms i o tm h sn) = true ∧ WrO (opVal P call ops base i o tm h) (fun v h' => WrP (putT nt tm o.dst v) (fun tm' => Wr (runC P call nt ops base ms is tm' h' (snapAdd P ops i o tm h sn)) Q .mk) .mk) .mk) := by
  simp only [runC, ho]
  cases hc : (!wantV ops tm o || chk P ops base ms i o tm h sn) with
  | false => simp only [cond_false, Wr, Bool.false_eq_true, false_and]
  | true =>
    simp only [cond_true, true_and, opStep]
    cases opVal P call ops base i o tm h with
    | none => rfl
    | some r =>
      obtain ⟨v, h'⟩ := r
      simp only [WrO]
      cases putT nt tm o.dst v with
      | none => rfl
      | some t => rfl
def obnd {α β : Type} (x : Option (α × H)) (f : α → HM β) (_ : Tg f) : Option (β × H) := match x with
  | some (a, h) => f a h
  | none => none
theorem bnd_obnd {α β : Type} {m : HM α} {f : α → HM β} {h : H} : HM.bnd m f h = obnd (m h) f .mk := rfl
theorem obnd_some {α β : Type} {a : α} {h : H} {f : α → HM β} : obnd (some (a, h)) f .mk = f a h := rfl
theorem obnd_none {α β : Type} {f : α → HM β} : obnd (none : Option (α × H)) f .mk = none := rfl
theorem obnd_ite {α β : Type} {p : Prop} [Decidable p] {x y : Option (α × H)} {f : α → HM β} : obnd (if p then x else y) f .mk = if p then obnd x f .mk else obnd y f .mk := by split <;> rfl
theorem ofO_h {α : Type} {a : α} {h : H} : ofO (some a) h = some (a, h) := rfl
theorem ret_h {α : Type} {a : α} {h : H} : ret a h = some (a, h) := rfl
theorem opVal_eq {i : Nat} {o : Oper} : opVal P call ops base i o tm h = bif wantV ops tm o then execC P call (opnd tm) (base + i) o.op h else some (.tup [], h) := rfl
theorem WrP_some {t : T PV} : WrP (some t) S .mk = S t := rfl
theorem WrO_b {e : Bool} : WrO (some (.b e, h)) R .mk = SplitB e (R (.b true) h) (R (.b false) h) .mk .mk := by cases e <;> simp [WrO, SplitB]
theorem WrO_ite {p : Prop} [Decidable p] {a b : PV} : WrO (some (if p then a else b, h)) R .mk = SplitP p (WrO (some (a, h)) R .mk) (WrO (some (b, h)) R .mk) .mk .mk := by by_cases hp : p <;> simp [hp, SplitP]
theorem WrO_iteO {p : Prop} [Decidable p] {a b : Option (PV × H)} : WrO (if p then a else b) R .mk = SplitP p (WrO a R .mk) (WrO b R .mk) .mk .mk := by by_cases hp : p <;> simp [hp, SplitP]
theorem WrO_i {k : IntKind} {n : Int} : WrO (some (.i k n, h)) R .mk = R (.i k n) h := rfl
theorem WrO_s {x : List Nat} : WrO (some (.s x, h)) R .mk = R (.s x) h := rfl
theorem WrO_nilp : WrO (some (.nilp, h)) R .mk = R .nilp h := rfl
theorem WrO_p {a b : Nat} : WrO (some (.p a b, h)) R .mk = R (.p a b) h := rfl
theorem WrO_sl {a b c d : Nat} {t : Bool} : WrO (some (.sl a b c d t, h)) R .mk = R (.sl a b c d t) h := rfl
theorem WrO_agg {l : List PV} : WrO (some (.agg l, h)) R .mk = R (.agg l) h := rfl
theorem WrO_tup {l : List PV} : WrO (some (.tup l, h)) R .mk = R (.tup l) h := rfl
theorem WrO_nilf : WrO (some (.nilf, h)) R .mk = R .nilf h := rfl
theorem WrO_fn {f : FuncId} {l : List PV} : WrO (some (.fn f l, h)) R .mk = R (.fn f l) h := rfl
theorem WrO_nili : WrO (some (.nili, h)) R .mk = R .nili h := rfl
theorem WrO_ifc {t : TypeId} {v : PV} : WrO (some (.ifc t v, h)) R .mk = R (.ifc t v) h := rfl
theorem WrO_nilm : WrO (some (.nilm, h)) R .mk = R .nilm h := rfl
theorem WrO_m {b : Nat} : WrO (some (.m b, h)) R .mk = R (.m b) h := rfl
theorem WrO_fl {b : Bool} {z : Nat} {es : List PV} : WrO (some (.fl b z es, h)) R .mk = R (.fl b z es) h := rfl
theorem WrO_fp {z : Nat} {es : List PV} {i o : Nat} : WrO (some (.fp z es i o, h)) R .mk = R (.fp z es i o) h := rfl
end
theorem Ev_regS {K : Cx} {nt : Nat} {tm : T PV} {h : H} {Q : PX → T PV → H → Prop} {id : Nat} {ol : List Oper} (e : Wr (runS K.P (CL K) nt h.next (prepL ol ol) 0 tm ⟨h.next + ol.length, h.tab⟩) (Q .nm) .mk) : Ev K nt (.region id ol.toArray false) tm h Q .mk := by
  apply Ev_reg
  rw [runT_S]
  simpa using e
section
variable {K : Cx} {nt : Nat} {tm : T PV} {h : H} {Q : PX → T PV → H → Prop}
theorem CL_le (K : Cx) (n : Nat) : CLe (callX K n) (CL K) := fun f l h r e => CL_of e
theorem evE_regS {id : Nat} {ol : List Oper} : Ev K nt (.region id ol.toArray false) tm h Q .mk = Wr (runS K.P (CL K) nt h.next (prepL ol ol) 0 tm ⟨h.next + ol.length, h.tab⟩) (Q .nm) .mk := by
  refine propext ⟨fun e => ?_, Ev_regS⟩
  obtain ⟨n, x, t, h1, e1, e2⟩ := e
  simp only [codeV] at e1
  cases hs : regionV K.P (callX K n) nt ol.toArray false tm h with
  | none => rw [hs] at e1; cases e1
  | some r =>
    obtain ⟨t2, h2⟩ := r
    rw [hs] at e1
    simp only [Option.some.injEq, Prod.mk.injEq] at e1
    obtain ⟨rfl, rfl, rfl⟩ := e1
    have h3 := regionV_le (CL_le K n) hs
    unfold regionV at h3
    simp only [cond_false, runT_S] at h3
    have h4 : runS K.P (CL K) nt h.next (prepL ol ol) 0 tm ⟨h.next + ol.length, h.tab⟩ = some (t2, h2) := by simpa using h3
    rw [h4]
    exact e2
theorem evE_seq {a b : Code} : Ev K nt (.seq a b) tm h Q .mk = Ev K nt a tm h (Thn Q fun tm h => Ev K nt b tm h Q .mk) .mk := by
  refine propext ⟨fun e => ?_, Ev_seq⟩
  obtain ⟨n, x, t, h1, e1, e2⟩ := e
  simp only [codeV] at e1
  cases hs : codeV K.P (callX K n) nt n a tm h with
  | none => rw [hs] at e1; cases e1
  | some r =>
    obtain ⟨y, t2, h2⟩ := r
    rw [hs] at e1
    refine ⟨n, y, t2, h2, hs, ?_⟩
    cases y with
    | nm => exact ⟨n, x, t, h1, e1, e2⟩
    | ex i =>
      simp only [Option.some.injEq, Prod.mk.injEq] at e1
      obtain ⟨rfl, rfl, rfl⟩ := e1
      exact e2
    | rt =>
      simp only [Option.some.injEq, Prod.mk.injEq] at e1
      obtain ⟨rfl, rfl, rfl⟩ := e1
      exact e2
theorem evE_leaf {c : Code} {x : PX} (hc : ∀ n, codeV K.P (callX K n) nt n c tm h = some (x, tm, h)) : Ev K nt c tm h Q .mk = Q x tm h := by
  refine propext ⟨fun e => ?_, fun e => ⟨0, _, _, _, hc 0, e⟩⟩
  obtain ⟨n, y, t, h1, e1, e2⟩ := e
  rw [hc n] at e1
  simp only [Option.some.injEq, Prod.mk.injEq] at e1
  obtain ⟨rfl, rfl, rfl⟩ := e1
  exact e2
theorem evE_skip : Ev K nt .skip tm h Q .mk = Q .nm tm h := evE_leaf fun _ => rfl
theorem evE_ret : Ev K nt .ret tm h Q .mk = Q .rt tm h := evE_leaf fun _ => rfl
theorem evE_exit {i : Nat} : Ev K nt (.exit i) tm h Q .mk = Q (.ex i) tm h := evE_leaf fun _ => rfl
theorem evE_scope {c : Code} : Ev K nt (.scope c) tm h Q .mk = Ev K nt c tm h Q .mk := rfl
theorem evE_block {id : Nat} {c : Code} : Ev K nt (.block id c) tm h Q .mk = Ev K nt c tm h (Blk id Q) .mk := by
  refine propext ⟨fun e => ?_, Ev_block⟩
  obtain ⟨n, x, t, h1, e1, e2⟩ := e
  simp only [codeV] at e1
  cases hs : codeV K.P (callX K n) nt n c tm h with
  | none => rw [hs] at e1; cases e1
  | some r =>
    obtain ⟨y, t2, h2⟩ := r
    rw [hs] at e1
    refine ⟨n, y, t2, h2, hs, ?_⟩
    cases y with
    | nm =>
      simp only [Option.some.injEq, Prod.mk.injEq] at e1
      obtain ⟨rfl, rfl, rfl⟩ := e1
      exact e2
    | ex i =>
      simp only [Blk]
      by_cases hi : i = id
      · subst hi
        simp only [Nat.beq_refl, cond_true, Option.some.injEq, Prod.mk.injEq] at e1
        obtain ⟨rfl, rfl, rfl⟩ := e1
        rw [if_pos rfl]; exact e2
      · have : Nat.beq i id = false := by
          cases hb : Nat.beq i id with
          | false => rfl
          | true => exact absurd (Nat.eq_of_beq_eq_true hb) hi
        simp only [this, cond_false, Option.some.injEq, Prod.mk.injEq] at e1
        obtain ⟨rfl, rfl, rfl⟩ := e1
        rw [if_neg hi]; exact e2
    | rt =>
      simp only [Option.some.injEq, Prod.mk.injEq] at e1
      obtain ⟨rfl, rfl, rfl⟩ := e1
      exact e2
/-- a test -/
def Cnd (v : Option PV) (A B : Prop) (_ : Tg A) (_ : Tg B) : Prop := match v with
  | some (.b true) => A
  | some (.b false) => B
  | _ => False
theorem Cnd_b {e : Bool} {A B : Prop} : Cnd (some (.b e)) A B .mk .mk = SplitB e A B .mk .mk := by cases e <;> simp [Cnd, SplitB]
theorem evE_cond {c : Operand} {x y : Code} : Ev K nt (.cond c x y) tm h Q .mk = Cnd (opnd tm c) (Ev K nt x tm h Q .mk) (Ev K nt y tm h Q .mk) .mk .mk := by
  refine propext ⟨fun e => ?_, fun e => ?_⟩
  · obtain ⟨n, z, t, h1, e1, e2⟩ := e
    simp only [codeV] at e1
    split at e1
    · rename_i hc; rw [hc]; exact ⟨n, z, t, h1, e1, e2⟩
    · rename_i hc; rw [hc]; exact ⟨n, z, t, h1, e1, e2⟩
    · cases e1
  · unfold Cnd at e
    split at e
    · rename_i hc; exact Ev_condT hc e
    · rename_i hc; exact Ev_condF hc e
    · exact e.elim
end
/-- a region that draws its order, in the text's own order -/
structure DO where
  i : Nat
  dst : Option Tmp
  op : Op
  gd : Option (Option Tmp × Bool)
def mskD (ol : List Oper) (_ : Tg ol) (i : Nat) : Nat := (masks ol.toArray).getD i 0
def snapD (P : Program) (base : Nat) (mk : Nat → Nat) (i : Nat) (op : Op) (tm : T PV) (h : H) : List (Nat × H) → Bool
  | [] => true
  | (e, hs) :: sn => ((mk i).testBit e || (match execV P (opnd tm) (base + i) op h, execV P (opnd tm) (base + i) op hs with
      | some (v, _), some (v', _) => eqP v v'
      | _, _ => false)) && snapD P base mk i op tm h sn
def chkD (P : Program) (base n : Nat) (mk : Nat → Nat) (i : Nat) (op : Op) (tm : T PV) (h : H) (sn : List (Nat × H)) : Bool :=
  match kdOf P op with
  | .quiet => match touch (opnd tm) op with
    | none => true
    | some b => (Nat.blt b base || Nat.ble (base + n) b || (mk i).testBit (b - base)) && snapD P base mk i op tm h sn
  | _ => true
def runD (P : Program) (call : FuncId → List PV → HM PV) (nt base n : Nat) (mk : Nat → Nat) : List DO → T PV → H → List (Nat × H) → Option (T PV × H)
  | [], tm, h, _ => some (tm, h)
  | o :: os, tm, h, sn => bif wantS tm o.gd then
      (bif chkD P base n mk o.i o.op tm h sn then match execC P call (opnd tm) (base + o.i) o.op h with
        | some (v, h') => match putT nt tm o.dst v with
          | some tm' => runD P call nt base n mk os tm' h' (bif (kdOf P o.op).isEff then (o.i, h) :: sn else sn)
          | none => none
        | none => none
      else none)
    else match putT nt tm o.dst (.tup []) with
      | some tm' => runD P call nt base n mk os tm' h sn
      | none => none
def prepD (ol : List Oper) : Nat → List Oper → List DO
  | _, [] => []
  | i, o :: os => ⟨i, o.dst, o.op, prepG ol o.guard⟩ :: prepD ol (i + 1) os
section
variable {P : Program} {call : FuncId → List PV → HM PV} {nt base n : Nat} {mk : Nat → Nat} {tm : T PV} {h : H} {Q : T PV → H → Prop}
theorem snapOk_D {ol : List Oper} {i : Nat} {o : Oper} : ∀ sn : List (Nat × H), snapOk P base (masks ol.toArray) i o tm h sn = snapD P base (mskD ol .mk) i o.op tm h sn
  | [] => rfl
  | (e, hs) :: sn => by simp only [snapOk, snapD, snapOk_D sn, mskD]; rfl
theorem chk_D {ol : List Oper} {i : Nat} {o : Oper} {sn : List (Nat × H)} : chk P ol.toArray base (masks ol.toArray) i o tm h sn = chkD P base ol.length (mskD ol .mk) i o.op tm h sn := by
  unfold chk chkD
  cases kdOf P o.op with
  | quiet =>
    simp only
    cases touch (opnd tm) o.op with
    | none => rfl
    | some b => simp only [touchOk, snapOk_D, mskD, List.size_toArray]
  | birth => rfl
  | eff => rfl
theorem runC_D {ol : List Oper} : ∀ {os : List Oper} {i : Nat} {tm : T PV} {h : H} {sn : List (Nat × H)}, ol.drop i = os →
    runC P call nt ol.toArray base (masks ol.toArray) (List.range' i os.length) tm h sn = runD P call nt base ol.length (mskD ol .mk) (prepD ol i os) tm h sn
  | [], i, tm, h, sn, _ => rfl
  | o :: os, i, tm, h, sn, hd => by
    have hi : i < ol.length := by
      rcases Nat.lt_or_ge i ol.length with h | h
      · exact h
      · rw [List.drop_eq_nil_of_le h] at hd; cases hd
    rw [List.drop_eq_getElem_cons hi] at hd
    have ho : ol.toArray[i]? = some o := by
      simp only [List.getElem?_toArray, List.getElem?_eq_getElem hi]
      rw [(List.cons.inj hd).1]
    have ih := fun {tm : T PV} {h : H} {sn : List (Nat × H)} => runC_D (ol := ol) (os := os) (i := i + 1) (tm := tm) (h := h) (sn := sn) (List.cons.inj hd).2
    simp only [List.length_cons, List.range'_succ, runC, ho, prepD, runD, chk_D, wantV_S, snapAdd]
    cases hw : wantS tm (prepG ol o.guard) with
    | false =>
      simp only [opStep, opVal, wantV_S, hw, Bool.not_false, Bool.true_or, cond_true, cond_false, Bool.and_false]
      cases putT nt tm o.dst (.tup []) with
      | none => rfl
      | some t => exact ih
    | true =>
      simp only [opStep, opVal, wantV_S, hw, Bool.not_true, Bool.false_or, cond_true, Bool.and_true]
      cases chkD P base ol.length (mskD ol .mk) i o.op tm h sn with
      | false => rfl
      | true =>
        simp only [cond_true]
        cases execC P call (opnd tm) (base + i) o.op h with
        | none => rfl
        | some r =>
          obtain ⟨v, h'⟩ := r
          simp only
          cases putT nt tm o.dst v with
          | none => rfl
          | some t => exact ih
def Chk (b : Bool) (A : Prop) (_ : Tg A) : Prop := b = true ∧ A
theorem Chk_t {A : Prop} : Chk true A .mk = A := by simp [Chk]
theorem walkD_nil {sn : List (Nat × H)} : Wr (runD P call nt base n mk [] tm h sn) Q .mk = Q tm h := rfl
theorem walkD_none {d : Option Tmp} {op : Op} {os : List DO} {i : Nat} {sn : List (Nat × H)} : Wr (runD P call nt base n mk (⟨i, d, op, none⟩ :: os) tm h sn) Q .mk = Chk (chkD P base n mk i op tm h sn)
    (WrO (execC P call (opnd tm) (base + i) op h) (fun v h' => WrP (putT nt tm d v) (fun tm' => Wr (runD P call nt base n mk os tm' h' (bif (kdOf P op).isEff then (i, h) :: sn else sn)) Q .mk) .mk) .mk) .mk := by
  simp only [runD, wantS, cond_true]
  cases chkD P base n mk i op tm h sn with
  | false => simp [Chk, Wr]
  | true =>
    rw [Chk_t]
    simp only [cond_true]
    cases execC P call (opnd tm) (base + i) op h with
    | none => rfl
    | some r =>
      obtain ⟨v, h'⟩ := r
      simp only [WrO]
      cases putT nt tm d v with
      | none => rfl
      | some t => rfl
theorem walkD_some {d : Option Tmp} {op : Op} {g : Option Tmp × Bool} {os : List DO} {i : Nat} {sn : List (Nat × H)} : Wr (runD P call nt base n mk (⟨i, d, op, some g⟩ :: os) tm h sn) Q .mk = SplitB (wantS tm (some g)) (Chk (chkD P base n mk i op tm h sn)
    (WrO (execC P call (opnd tm) (base + i) op h) (fun v h' => WrP (putT nt tm d v) (fun tm' => Wr (runD P call nt base n mk os tm' h' (bif (kdOf P op).isEff then (i, h) :: sn else sn)) Q .mk) .mk) .mk) .mk)
    (WrP (putT nt tm d (.tup [])) (fun tm' => Wr (runD P call nt base n mk os tm' h sn) Q .mk) .mk) .mk .mk := by
  simp only [runD]
  cases wantS tm (some g) with
  | false =>
    rw [SplitB_f]
    simp only [cond_false]
    cases putT nt tm d (.tup []) with
    | none => rfl
    | some t => rfl
  | true =>
    rw [SplitB_t]
    simp only [cond_true]
    cases chkD P base n mk i op tm h sn with
    | false => simp [Chk, Wr]
    | true =>
      rw [Chk_t]
      simp only [cond_true]
      cases execC P call (opnd tm) (base + i) op h with
      | none => rfl
      | some r =>
        obtain ⟨v, h'⟩ := r
        simp only [WrO]
        cases putT nt tm d v with
        | none => rfl
        | some t => rfl
theorem prepD_nil {ol : List Oper} {i : Nat} : prepD ol i [] = [] := rfl
theorem prepD_none {ol os : List Oper} {i : Nat} {d : Option Tmp} {op : Op} {t : TypeId} {p : String} {a : Array Edge} : prepD ol i (⟨d, op, t, p, a, none⟩ :: os) = ⟨i, d, op, none⟩ :: prepD ol (i + 1) os := rfl
theorem prepD_some {ol os : List Oper} {i : Nat} {d : Option Tmp} {op : Op} {t : TypeId} {p : String} {a : Array Edge} {j : Nat} {w : Bool} : prepD ol i (⟨d, op, t, p, a, some (j, w)⟩ :: os) = ⟨i, d, op, some (dstL ol j, w)⟩ :: prepD ol (i + 1) os := rfl
end
theorem evE_draw {K : Cx} {nt : Nat} {tm : T PV} {h : H} {Q : PX → T PV → H → Prop} {id : Nat} {ol : List Oper} (hc : canon K.P ol (masks ol.toArray) ol.length (List.range ol.length) = List.range ol.length)
    (hok : okR K.P ol.toArray (masks ol.toArray) (List.range ol.length) = true) : Ev K nt (.region id ol.toArray true) tm h Q .mk = Wr (runD K.P (CL K) nt h.next ol.length (mskD ol .mk) (prepD ol 0 ol) tm ⟨h.next + ol.length, h.tab⟩ []) (Q .nm) .mk := by
  have key : ∀ call, regionV K.P call nt ol.toArray true tm h = runD K.P call nt h.next ol.length (mskD ol .mk) (prepD ol 0 ol) tm ⟨h.next + ol.length, h.tab⟩ [] := fun call => by
    unfold regionV
    simp only [cond_true, List.size_toArray, hc, hok]
    rw [List.range_eq_range']; exact runC_D (os := ol) (i := 0) rfl
  refine propext ⟨fun e => ?_, fun e => Ev_region (by rw [key]; exact e)⟩
  obtain ⟨n, x, t, h1, e1, e2⟩ := e
  simp only [codeV] at e1
  cases hs : regionV K.P (callX K n) nt ol.toArray true tm h with
  | none => rw [hs] at e1; cases e1
  | some r =>
    obtain ⟨t2, h2⟩ := r
    rw [hs] at e1
    simp only [Option.some.injEq, Prod.mk.injEq] at e1
    obtain ⟨rfl, rfl, rfl⟩ := e1
    have h3 := regionV_le (CL_le K n) hs
    rw [key] at h3
    rw [h3]
    exact e2
theorem evE_unroll {K : Cx} {nt : Nat} {tm : T PV} {h : H} {Q : PX → T PV → H → Prop} {c : Code} (e : Ev K nt c tm h (Thn Q fun tm h => Ev K nt (.loop c) tm h Q .mk) .mk) : Ev K nt (.loop c) tm h Q .mk := by
  obtain ⟨n, x, t, h1, e1, e2⟩ := e
  cases x with
  | nm =>
    obtain ⟨m, y, t2, h2, e3, e4⟩ := e2
    refine ⟨max n m + 1, y, t2, h2, ?_, e4⟩
    have hn : n ≤ max n m + 1 := by omega
    have hm : m ≤ max n m + 1 := by omega
    simp only [codeV] at e3 ⊢
    simp only [loopV, Ev_up e1 hn]
    exact loopV_le (fun tm h r e => codeV_le (callX_le K hm) hm e) (by omega) e3
  | ex i => exact ⟨n + 1, _, _, _, by simp only [codeV, loopV, Ev_up e1 (Nat.le_succ n)], e2⟩
  | rt => exact ⟨n + 1, _, _, _, by simp only [codeV, loopV, Ev_up e1 (Nat.le_succ n)], e2⟩
def prepP (ol : List Oper) : List Nat → List DO
  | [] => []
  | j :: js => match ol[j]? with
    | some o => ⟨j, o.dst, o.op, prepG ol o.guard⟩ :: prepP ol js
    | none => []
section
variable {P : Program} {call : FuncId → List PV → HM PV} {nt base : Nat}
theorem runC_P {ol : List Oper} : ∀ {c : List Nat} {tm : T PV} {h : H} {sn : List (Nat × H)}, c.all (fun j => Nat.blt j ol.length) = true →
    runC P call nt ol.toArray base (masks ol.toArray) c tm h sn = runD P call nt base ol.length (mskD ol .mk) (prepP ol c) tm h sn
  | [], tm, h, sn, _ => rfl
  | i :: is, tm, h, sn, hd => by
    simp only [List.all_cons, Bool.and_eq_true] at hd
    have hi : i < ol.length := by simpa [Nat.blt_eq] using hd.1
    have ho : ol.toArray[i]? = some ol[i] := by simp only [List.getElem?_toArray, List.getElem?_eq_getElem hi]
    have ho' : ol[i]? = some ol[i] := List.getElem?_eq_getElem hi
    have ih := fun {tm : T PV} {h : H} {sn : List (Nat × H)} => runC_P (c := is) (tm := tm) (h := h) (sn := sn) hd.2
    simp only [runC, ho, prepP, ho', runD, chk_D, wantV_S, snapAdd]
    cases hw : wantS tm (prepG ol ol[i].guard) with
    | false =>
      simp only [opStep, opVal, wantV_S, hw, Bool.not_false, Bool.true_or, cond_true, cond_false, Bool.and_false]
      cases putT nt tm ol[i].dst (.tup []) with
      | none => rfl
      | some t => exact ih
    | true =>
      simp only [opStep, opVal, wantV_S, hw, Bool.not_true, Bool.false_or, cond_true, Bool.and_true]
      cases chkD P base ol.length (mskD ol .mk) i ol[i].op tm h sn with
      | false => rfl
      | true =>
        simp only [cond_true]
        cases execC P call (opnd tm) (base + i) ol[i].op h with
        | none => rfl
        | some r =>
          obtain ⟨v, h'⟩ := r
          simp only
          cases putT nt tm ol[i].dst v with
          | none => rfl
          | some t => exact ih
theorem evE_drawP {K : Cx} {nt : Nat} {tm : T PV} {h : H} {Q : PX → T PV → H → Prop} {ol : List Oper} (id : Nat) (c : List Nat) (hc : canon K.P ol (masks ol.toArray) ol.length (List.range ol.length) = c)
    (hok : okR K.P ol.toArray (masks ol.toArray) c = true) (hb : c.all (fun j => Nat.blt j ol.length) = true) : Ev K nt (.region id ol.toArray true) tm h Q .mk = Wr (runD K.P (CL K) nt h.next ol.length (mskD ol .mk) (prepP ol c) tm ⟨h.next + ol.length, h.tab⟩ []) (Q .nm) .mk := by
  have key : ∀ call, regionV K.P call nt ol.toArray true tm h = runD K.P call nt h.next ol.length (mskD ol .mk) (prepP ol c) tm ⟨h.next + ol.length, h.tab⟩ [] := fun call => by
    unfold regionV
    simp only [cond_true, List.size_toArray, hc, hok]
    exact runC_P hb
  refine propext ⟨fun e => ?_, fun e => Ev_region (by rw [key]; exact e)⟩
  obtain ⟨n, x, t, h1, e1, e2⟩ := e
  simp only [codeV] at e1
  cases hs : regionV K.P (callX K n) nt ol.toArray true tm h with
  | none => rw [hs] at e1; cases e1
  | some r =>
    obtain ⟨t2, h2⟩ := r
    rw [hs] at e1
    simp only [Option.some.injEq, Prod.mk.injEq] at e1
    obtain ⟨rfl, rfl, rfl⟩ := e1
    have h3 := regionV_le (CL_le K n) hs
    rw [key] at h3
    rw [h3]
    exact e2
theorem prepG_none {ol : List Oper} : prepG ol none = none := rfl
theorem prepG_some {ol : List Oper} {j : Nat} {w : Bool} : prepG ol (some (j, w)) = some (dstL ol j, w) := rfl
theorem prepP_nil {ol : List Oper} : prepP ol [] = [] := rfl
end
theorem evE_loop {K : Cx} {nt : Nat} {tm : T PV} {h : H} {Q : PX → T PV → H → Prop} {c : Code} : Ev K nt (.loop c) tm h Q .mk = Ev K nt c tm h (Thn Q fun tm h => Ev K nt (.loop c) tm h Q .mk) .mk := by
  refine propext ⟨fun e => ?_, evE_unroll⟩
  obtain ⟨n, x, t, h1, e1, e2⟩ := e
  simp only [codeV] at e1
  cases n with
  | zero => cases e1
  | succ n =>
    simp only [loopV] at e1
    cases hs : codeV K.P (callX K (n + 1)) nt (n + 1) c tm h with
    | none => rw [hs] at e1; cases e1
    | some r =>
      obtain ⟨y, t2, h2⟩ := r
      rw [hs] at e1
      refine ⟨n + 1, y, t2, h2, hs, ?_⟩
      cases y with
      | nm => exact ⟨n + 1, x, t, h1, by simp only [codeV]; exact loopV_le (fun _ _ _ e => e) (Nat.le_succ n) e1, e2⟩
      | ex i =>
        simp only [Option.some.injEq, Prod.mk.injEq] at e1
        obtain ⟨rfl, rfl, rfl⟩ := e1
        exact e2
      | rt =>
        simp only [Option.some.injEq, Prod.mk.injEq] at e1
        obtain ⟨rfl, rfl, rfl⟩ := e1
        exact e2
/-- the law of a function of which something is told -/
theorem law0ex {K : Cx} {f : FuncId} {fn : Func} {c : Code} {args : List PV} {G : PV → Prop} (nt : Nat) (hmd : K.md f = true) (hf : K.P.funcs[f]? = some fn) (hb : fn.body = some c) (ha : args.all pl = true) (hnt : max fn.ntmps args.length = nt)
    (e : Ev K nt c (args_ args 0 .e) ⟨1024, K.G⟩ (Fin K.P fn fun x h => ∃ v, G v ∧ R0 v x h) .mk) (hov : K.ov f = none := by rfl) : ∃ v, G v ∧ ∀ h, CL K f args h = some (v, h) := by
  subst hnt
  obtain ⟨n, x, h1, e1, v, hG, h2, e2⟩ := body_of_Ev hb e
  refine ⟨v, hG, fun h => CL_of (n := n + 1) ?_⟩
  simp only [callX, hov, hf, hmd, cond_true, pureC, frzArgs_pl ha, inner0, e1, e2]
  cases scal v <;> rfl
theorem SplitP_and {p A B : Prop} : SplitP p A B .mk .mk = ((p → A) ∧ (¬ p → B)) := rfl
theorem SplitB_and {e : Bool} {A B : Prop} : SplitB e A B .mk .mk = ((e = true → A) ∧ (e = false → B)) := rfl
theorem SplitP_leq {p A B : Prop} (h : p) : SplitP p A B .mk .mk = A := propext ⟨fun x => x.1 h, SplitP_left h⟩
theorem SplitP_req {p A B : Prop} (h : ¬ p) : SplitP p A B .mk .mk = B := propext ⟨fun x => x.2 h, SplitP_right h⟩
theorem SplitB_leq {e : Bool} {A B : Prop} (h : e = true) : SplitB e A B .mk .mk = A := propext ⟨fun x => x.1 h, SplitB_left h⟩
theorem SplitB_req {e : Bool} {A B : Prop} (h : e = false) : SplitB e A B .mk .mk = B := propext ⟨fun x => x.2 h, SplitB_right h⟩
theorem Thn_nm {Q : PX → T PV → H → Prop} {R : T PV → H → Prop} {tm : T PV} {h : H} : Thn Q R .nm tm h = R tm h := rfl
theorem Thn_ex {Q : PX → T PV → H → Prop} {R : T PV → H → Prop} {i : Nat} {tm : T PV} {h : H} : Thn Q R (.ex i) tm h = Q (.ex i) tm h := rfl
theorem Thn_rt {Q : PX → T PV → H → Prop} {R : T PV → H → Prop} {tm : T PV} {h : H} : Thn Q R .rt tm h = Q .rt tm h := rfl
theorem Blk_nm {id : Nat} {Q : PX → T PV → H → Prop} {tm : T PV} {h : H} : Blk id Q .nm tm h = Q .nm tm h := rfl
theorem Blk_rt {id : Nat} {Q : PX → T PV → H → Prop} {tm : T PV} {h : H} : Blk id Q .rt tm h = Q .rt tm h := rfl
theorem Blk_eq {id : Nat} {Q : PX → T PV → H → Prop} {tm : T PV} {h : H} : Blk id Q (.ex id) tm h = Q .nm tm h := if_pos rfl
theorem Blk_ne {i id : Nat} {Q : PX → T PV → H → Prop} {tm : T PV} {h : H} (hi : Nat.beq i id = false) : Blk id Q (.ex i) tm h = Q (.ex i) tm h := if_neg fun e => by rw [e, Nat.beq_refl] at hi; cases hi
def FinR (m : Option (List PV × H)) (R : PV → H → Prop) : Prop := match m with
  | some (l, h) => R (one_ l) h
  | none => False
theorem Fin_walk {P : Program} {fn : Func} {R : PV → H → Prop} {tm : T PV} {h : H} : Fin P fn R .rt tm h = FinR (resV P tm fn.results.toList h) R := by
  unfold FinR Fin
  cases hr : resV P tm fn.results.toList h with
  | none => simp [hr]
  | some r =>
    obtain ⟨l, h'⟩ := r
    simp only [hr, Option.some.injEq, Prod.mk.injEq]
    exact propext ⟨fun ⟨_, _, ⟨e1, e2⟩, h⟩ => by rw [e1, e2]; exact h, fun h => ⟨_, _, ⟨rfl, rfl⟩, h⟩⟩
theorem Fin_walkN {P : Program} {fn : Func} {R : PV → H → Prop} {tm : T PV} {h : H} : Fin P fn R .nm tm h = FinR (resV P tm fn.results.toList h) R := by
  unfold FinR Fin
  cases hr : resV P tm fn.results.toList h with
  | none => simp [hr]
  | some r =>
    obtain ⟨l, h'⟩ := r
    simp only [hr, Option.some.injEq, Prod.mk.injEq]
    exact propext ⟨fun ⟨_, _, ⟨e1, e2⟩, h⟩ => by rw [e1, e2]; exact h, fun h => ⟨_, _, ⟨rfl, rfl⟩, h⟩⟩
theorem FinR_some {l : List PV} {h : H} {R : PV → H → Prop} : FinR (some (l, h)) R = R (one_ l) h := rfl
theorem R0_is {s v : PV} {h : H} (hp : pl v = true) : R0 s v h = (v = s) := by
  unfold R0
  rw [frzM_pl (n := 1000) (by omega) hp]
  simp
theorem R0_tup_is {s : PV} {l : List PV} {h : H} (hp : l.all pl = true) : R0 s (.tup l) h = (.tup l = s) := by
  unfold R0
  rw [frzM_tup (n := 1000) (by omega) hp]
  simp
theorem R1_is {s v : PV} {x : Nat} {t : T PO} {cs cs' : List PV} (hp : pl v = true) (hc : cs'.all pl = true) (hg : t.get 1024 = some (.cells cs' true)) : R1 s cs v ⟨x, t⟩ = (v = s ∧ cs' = cs) := by
  unfold R1
  have : unlend v ⟨x, t⟩ = some ((v, cs'), ⟨x, t⟩) := by
    unfold unlend lendM
    simp only [bnd, frzM_pl (n := 1000) (by omega) hp, rd, H.get, hg, mapH_pl (n := 1000) (by omega) hc, Nat.beq_refl, cond_true, ret]
  rw [this]
  simp
theorem R0_b {s : PV} {x : Bool} {h : H} : R0 s (.b x) h = (.b x = s) := R0_is rfl
theorem R0_i {s : PV} {k : IntKind} {x : Int} {h : H} : R0 s (.i k x) h = (.i k x = s) := R0_is rfl
theorem R0_s {s : PV} {x : List Nat} {h : H} : R0 s (.s x) h = (.s x = s) := R0_is rfl
theorem R0_fl {s : PV} {b : Bool} {z : Nat} {es : List PV} {h : H} : R0 s (.fl b z es) h = (.fl b z es = s) := R0_is rfl
/-- the law of a function that is given free values alone -/
theorem law0' {K : Cx} {f : FuncId} {fn : Func} {c : Code} {args : List PV} {v : PV} {h : H} (nt : Nat) (hmd : K.md f = true) (hf : K.P.funcs[f]? = some fn) (hb : fn.body = some c) (ha : args.all pl = true) (hnt : max fn.ntmps args.length = nt)
    (e : Ev K nt c (args_ args 0 .e) ⟨1024, K.G⟩ (Fin K.P fn (R0 v)) .mk) (hov : K.ov f = none := by rfl) : CL K f args h = some (v, h) := by
  subst hnt
  exact law0 hov hmd hf hb (fun h => frzArgs_pl ha) e h
/-- the law of a function that is lent a block by its first argument -/
theorem law1' {K : Cx} {f : FuncId} {fn : Func} {c : Code} {args : List PV} {b : Nat} {v : PV} {cs cs' : List PV} {x : Nat} {t : T PO} (nt : Nat) (hmd : K.md f = true) (hf : K.P.funcs[f]? = some fn) (hb : fn.body = some c) (ha : args.all pl = true) (hcs : cs.all pl = true)
    (hnt : max fn.ntmps (args.length + 1) = nt) (e : Ev K nt c (args_ (.p 1024 0 :: args) 0 .e) ⟨1025, K.G.set (.cells cs true) 1024⟩ (Fin K.P fn (R1 v cs')) .mk) (h1024 : 1024 ≤ b) (hg : t.get b = some (.cells cs true)) (hov : K.ov f = none := by rfl) :
    CL K f (.p b 0 :: args) ⟨x, t⟩ = some (v, ⟨x, t.set (.cells cs' true) b⟩) := by
  subst hnt
  exact law1 hov hmd hf hb (fun h => frzArgs_p h1024 ha) (fun h => mapH_pl (n := 1000) (by omega) hcs) e x t hg
end Go.Pe
