/- Slots, one operation of a region, a region in the text's order. -/
import Derived.Test.YthpmkcmeoadaaaaGreatDoorQeZe
namespace Go.Pe
open HM
variable {G : T PO}
set_option linter.unusedVariables false
set_option linter.unusedSimpArgs false

section
variable {ρ ρ' : Emb G} {P : Program} {h : H} {w w' : World} {nt : Nat}
structure TmR (ρ : Emb G) (nt : Nat) (tm : T PV) (tmps : Array Value) : Prop where
  size : tmps.size = nt
  get : ∀ t, VR ρ ((tm.get t).getD (.tup [])) (tmps.getD t undef)
theorem TmR.mono {tm : T PV} {tmps : Array Value} (h : TmR ρ nt tm tmps) (hle : ELe ρ ρ') : TmR ρ' nt tm tmps := ⟨h.size, fun t => (h.get t).mono hle⟩
theorem TmR.put {tm tm' : T PV} {a : Act} {d : Option Tmp} {v : PV} {rv : Value} (ht : TmR ρ nt tm a.tmps) (hp : putT nt tm d v = some tm') (hv : VR ρ v rv) : TmR ρ nt tm' (a.put d rv).tmps := by
  rcases putT_some hp with ⟨rfl, rfl⟩ | ⟨k, rfl, hk, rfl⟩
  · exact ht
  · refine ⟨by simp only [Act.put, Array.size_setIfInBounds]; exact ht.size, fun t => ?_⟩
    rw [T.get_set]
    simp only [Act.put, Array.getD_eq_getD_getElem?]
    by_cases e : t = k
    · subst e
      rw [if_pos rfl, Array.getElem?_setIfInBounds_self_of_lt (by rw [ht.size]; exact hk)]
      exact hv
    · rw [if_neg e, Array.getElem?_setIfInBounds_ne (Ne.symm e)]
      have := ht.get t
      rwa [Array.getD_eq_getD_getElem?] at this
theorem ev_rel {tm : T PV} {a : Act} (ht : TmR ρ nt tm a.tmps) (hr : Rel ρ h w) : ∀ x v, opnd tm x = some v → VR ρ v (a.eval x) := by
  intro x v e
  cases x with
  | tmp t =>
    simp only [opnd, Option.some.injEq] at e
    subst e
    exact ht.get t
  | const c => exact vr_ofV e
  | func f =>
    simp only [opnd, Option.some.injEq] at e
    subst e
    exact ⟨[], rfl, VRs.nil⟩
  | global g =>
    simp only [opnd] at e
    cases hb : Nat.blt g 1024 with
    | false => rw [hb] at e; simp at e
    | true =>
      rw [hb] at e
      simp only [cond_true, Option.some.injEq] at e
      subst e
      obtain ⟨m, hm⟩ := hr.glob g (by simpa [Nat.blt_eq] using hb)
      exact ⟨g, 0, m, hm, rfl⟩
theorem VR.inv_bool {x : PV} {b : Bool} (h : VR ρ x (.bool b)) : x = .b b := by
  cases x
  case b y => simp only [VR, Value.bool.injEq] at h; rw [h]
  case i => cases h
  case s => obtain ⟨_, h, _⟩ := h; cases h
  case nilp => cases h
  case p => obtain ⟨_, _, _, _, h⟩ := h; cases h
  case sl => obtain ⟨_, _, h, _⟩ := h; cases h
  case agg => obtain ⟨_, h, _⟩ := h; cases h
  case tup => obtain ⟨_, h, _⟩ := h; cases h
  case nilf => cases h
  case fn => obtain ⟨_, h, _⟩ := h; cases h
  case nili => cases h
  case ifc => obtain ⟨_, h, _⟩ := h; cases h
  case nilm => cases h
  case m => obtain ⟨_, _, _, _, h⟩ := h; cases h
  case fl => rcases h with ⟨_, _, h⟩ | ⟨_, _, _, h, _⟩ <;> cases h
  case fp => obtain ⟨_, _, _, _, h, _⟩ := h; cases h
theorem yiel_eq {tm : T PV} {tmps : Array Value} (ht : TmR ρ nt tm tmps) (ops : Array Oper) (j : Nat) : yielV ops tm j = yielded ops tmps j := by
  unfold yielV yielded
  cases ho : ops[j]? with
  | none => rfl
  | some o =>
    simp only [Option.bind_some]
    cases hd : o.dst with
    | none => rfl
    | some d =>
      simp only [Option.bind_some]
      have hg := ht.get d
      rw [Array.getD_eq_getD_getElem?] at hg
      cases hq : tmps[d]? with
      | none =>
        rw [hq] at hg
        simp only [Option.getD_none] at hg
        cases hv : tm.get d with
        | none => rfl
        | some v =>
          rw [hv] at hg
          simp only [Option.getD_some] at hg
          cases v <;> first | rfl | (exfalso; cases hg)
      | some rv =>
        rw [hq] at hg
        simp only [Option.getD_some] at hg
        cases hv : tm.get d with
        | none =>
          rw [hv] at hg
          simp only [Option.getD_none] at hg
          obtain ⟨vs, rfl, _⟩ := hg
          rfl
        | some v =>
          rw [hv] at hg
          simp only [Option.getD_some] at hg
          cases v
          case b x => simp only [VR] at hg; subst hg; rfl
          all_goals
            simp only
            cases rv <;> first | rfl | (exfalso; have := VR.inv_bool hg; cases this)
theorem want_eq {tm : T PV} {tmps : Array Value} (ht : TmR ρ nt tm tmps) (ops : Array Oper) (o : Oper) : wantV ops tm o = Region.wanted o (yielded ops tmps) := by
  unfold wantV Region.wanted
  cases o.guard with
  | none => rfl
  | some gw =>
    obtain ⟨j, wnt⟩ := gw
    simp only
    rw [yiel_eq ht]
    cases yielded ops tmps j with
    | none => rfl
    | some x => simp

/-- calls that the evaluation answers are the world's -/
def CallSim (G : T PO) (P : Program) (call : FuncId → List PV → HM PV) : Prop :=
  ∀ g l h v h', call g l h = some (v, h') → (∃ fn c, P.funcs[g]? = some fn ∧ fn.body = some c ∧ fn.name ≠ "runtime.NumGoroutine") ∧
    ∀ (ρ : Emb G) w (rl : List Value), Rel ρ h w → VRs ρ l rl → Calls P g rl.toArray w fun e w' => ∃ ρ' rv, e = .returned rv ∧ VR ρ' v rv ∧ Rel ρ' h' w' ∧ Stp (fun _ => False) ρ h w ρ' h' w'
variable {call : FuncId → List PV → HM PV} {ops : Array Oper} {base : Nat} {Q : Exit → Act → World → Prop}
theorem sim_opVal (hcs : CallSim G P call) {i : Nat} {o : Oper} (ho : ops[i]? = some o) {tm tm' : T PV} {a : Act} {h' : H} (ht : TmR ρ nt tm a.tmps) (hr : Rel ρ h w) (hid : base + i < h.next) (hρ : ρ (base + i) = none)
    (e : opStep P call nt ops base i o tm h = some (tm', h')) (K : Act → World → Prop)
    (hK : ∀ ρ' (a' : Act) w', TmR ρ' nt tm' a'.tmps → a'.defers = a.defers → Rel ρ' h' w' → Stp (fun b => b = base + i) ρ h w ρ' h' w' → K a' w') : wpOp P ops Q i K a w := by
  obtain ⟨v, ev, hp⟩ := opStep_some e
  have pd : ∀ (d : Option Tmp) (x : Value), (a.put d x).defers = a.defers := fun d x => by cases d <;> rfl
  unfold wpOp
  simp only [ho]
  unfold opVal at ev
  cases hw : wantV ops tm o with
  | false =>
    rw [hw] at ev
    simp only [cond_false, Option.some.injEq, Prod.mk.injEq] at ev
    obtain ⟨rfl, rfl⟩ := ev
    rw [← want_eq ht, hw]
    simp only [Bool.false_eq_true, if_false]
    exact hK ρ _ w (ht.put hp ⟨[], rfl, VRs.nil⟩) (pd _ _) hr (Stp.refl _ _ _ _)
  | true =>
    rw [hw] at ev
    simp only [cond_true] at ev
    rw [← want_eq ht, hw]
    simp only [if_true]
    left
    have hev := ev_rel ht hr
    by_cases hcall : ∃ f args ts, o.op = .call { callee := .value f, args := args, argTypes := ts }
    · obtain ⟨f, args, ts, hop⟩ := hcall
      rw [hop] at ev
      simp only [execC] at ev
      obtain ⟨x, h1, e1, e2⟩ := bnd_some ev
      obtain ⟨e3, rfl⟩ := ofO_some e1
      have hf := hev _ _ e3
      cases x
      case fn g cap =>
        simp only at e2
        obtain ⟨l, h2, e4, e5⟩ := bnd_some e2
        obtain ⟨e6, rfl⟩ := ofO_some e4
        obtain ⟨vs, hre, hvs⟩ := hf
        have hl := vrs_mapO hev e6
        obtain ⟨⟨fn, c, hfn, hbody, hname⟩, hcalls⟩ := hcs _ _ _ _ _ e5
        have hc := hcalls ρ w _ hr (hl.append hvs)
        have hargs : (args.toList.map a.eval ++ vs).toArray = args.map a.eval ++ vs.toArray := by apply Array.ext'; simp
        rw [hargs] at hc
        unfold Oper.wp
        have hrun : (execOp a.eval o).run P w = .ok (.enter g (args.map a.eval ++ vs.toArray)) w := by
          have hn : (fn.name == "runtime.NumGoroutine") = false := by simpa using hname
          simp only [execOp, hop, Sem.run_bind, resolve, hre, Deferred.ofValue, Sem.run_pure, Result.andThen_ok, invoke, callFunc, run_program, hfn, hn, Bool.false_eq_true, if_false, hbody, Option.isNone_some, Array.empty_append]
        rw [hrun]
        simp only [Oper.upon]
        refine hc.mono fun e w' ⟨ρ', rv, he, hv, hr', hst⟩ => ?_
        subst he
        exact hK ρ' _ w' ((ht.mono hst.ext).put hp hv) (pd _ _) hr' (hst.weaken fun b _ hf => hf.elim)
      all_goals exact (no_some e2).elim
    · have hex : execC P call (opnd tm) (base + i) o.op = execV P (opnd tm) (base + i) o.op := by
        unfold execC
        split
        · rename_i f args ts hop
          exact absurd ⟨f, args, ts, hop⟩ hcall
        · rfl
      rw [hex] at ev
      obtain ⟨ρ', w', nx, rv, hrun, hnv, hv, hr', hst⟩ := sim_execV hev hr hid hρ o ev (fun c => rfl)
      unfold Oper.wp
      rw [hrun]
      rcases hnv with rfl | ⟨rfl, rfl⟩
      · simp only [Oper.upon]
        exact hK ρ' _ w' ((ht.mono hst.ext).put hp hv) (pd _ _) hr' hst
      · simp only [Oper.upon]
        exact hK ρ' _ w' ((ht.mono hst.ext).put hp hv) (pd _ _) hr' hst
/-- the text's order -/
theorem sim_runT (hcs : CallSim G P call) : ∀ (os : List Oper) (i : Nat) {ρ : Emb G} {h : H} {w : World} {tm tm' : T PV} {a : Act} {h' : H}, ops.toList.drop i = os → TmR ρ nt tm a.tmps → Rel ρ h w → base + ops.size ≤ h.next →
    (∀ j, i ≤ j → j < ops.size → ρ (base + j) = none) → runT P call nt ops base os i tm h = some (tm', h') →
    (∀ ρ' (a' : Act) w', TmR ρ' nt tm' a'.tmps → a'.defers = a.defers → Rel ρ' h' w' → Stp (fun b => base ≤ b) ρ h w ρ' h' w' → Q .normal a' w') → wpOps P ops Q (List.range' i os.length) a w
  | [], i, ρ, h, w, tm, tm', a, h', hd, ht, hr, hlim, hnone, e, hQ => by
    simp only [runT, Option.some.injEq, Prod.mk.injEq] at e
    obtain ⟨rfl, rfl⟩ := e
    exact hQ ρ a w ht rfl hr (Stp.refl _ _ _ _)
  | o :: os, i, ρ, h, w, tm, tm', a, h', hd, ht, hr, hlim, hnone, e, hQ => by
    have hio : ops[i]? = some o := by
      have : (ops.toList.drop i)[0]? = some o := by rw [hd]; rfl
      rw [List.getElem?_drop] at this
      simpa using this
    have hisz : i < ops.size := by
      rcases Nat.lt_or_ge i ops.size with h | h
      · exact h
      · rw [Array.getElem?_eq_none h] at hio; cases hio
    simp only [runT] at e
    cases hs : opStep P call nt ops base i o tm h with
    | none => rw [hs] at e; simp at e
    | some r =>
      obtain ⟨tm1, h1⟩ := r
      rw [hs] at e
      simp only at e
      rw [List.length_cons, List.range'_succ, wpOps_cons]
      refine sim_opVal hcs hio ht hr (by omega) (hnone i (Nat.le_refl _) hisz) hs _ fun ρ1 a1 w1 ht1 hd1 hr1 hst1 => ?_
      refine sim_runT hcs os (i + 1) ?_ ht1 hr1 (Nat.le_trans hlim hst1.next) (fun j h1' h2' => ?_) e fun ρ' a' w' ht' hd' hr' hst' => ?_
      · have : ops.toList.drop (i + 1) = (ops.toList.drop i).drop 1 := by rw [List.drop_drop]
        rw [this, hd]; rfl
      · rcases hst1.new (base + j) (by omega) (hnone j (by omega) h2') with h3 | h3
        · omega
        · exact h3
      · exact hQ ρ' a' w' ht' (hd'.trans hd1) hr' ((hst1.trans hst').weaken fun b _ hb => by
          rcases hb with rfl | hb
          · omega
          · exact hb)
end
end Go.Pe
