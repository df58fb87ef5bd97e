/- Code, results, calls: the evaluation is the world's. -/
import Derived.Test.YthpmkcmeoadaaaaGreatDoorQeZg
namespace Go.Pe
open HM
variable {G : T PO}
set_option linter.unusedVariables false
set_option linter.unusedSimpArgs false

def PX.exit : PX → Exit
  | .nm => .normal
  | .ex i => .exit i
  | .rt => .ret
def No : Nat → Prop := fun _ => False
theorem Stp.both {ρ ρ1 ρ2 : Emb G} {h h1 h2 : H} {w w1 w2 : World} (s : Stp (fun _ => False) ρ h w ρ1 h1 w1) (t : Stp (fun _ => False) ρ1 h1 w1 ρ2 h2 w2) : Stp (fun _ => False) ρ h w ρ2 h2 w2 :=
  (s.trans t).weaken fun _ _ h => h.elim id id
section
variable {P : Program} {call : FuncId → List PV → HM PV} {nt : Nat}
/-- what the law of a text says of one evaluation -/
def CodeSim (G : T PO) (P : Program) (nt : Nat) (c : Code) (m : T PV → H → Option (PX × T PV × H)) : Prop :=
  ∀ {ρ : Emb G} {h : H} {w : World} {tm tm' : T PV} {a : Act} {h' : H} {x : PX} {Q : Exit → Act → World → Prop}, TmR ρ nt tm a.tmps → Rel ρ h w → m tm h = some (x, tm', h') →
    (∀ ρ' (a' : Act) w', TmR ρ' nt tm' a'.tmps → a'.defers = a.defers → Rel ρ' h' w' → Stp (fun _ => False) ρ h w ρ' h' w' → Q x.exit a' w') → c.wp P Q a w
theorem sim_loopV {c : Code} {m : T PV → H → Option (PX × T PV × H)} (hm : CodeSim G P nt c m) : ∀ (n : Nat) {ρ : Emb G} {h : H} {w : World} {tm tm' : T PV} {a : Act} {h' : H} {x : PX} {Q : Exit → Act → World → Prop}, TmR ρ nt tm a.tmps → Rel ρ h w → loopV m n tm h = some (x, tm', h') →
    (∀ ρ' (a' : Act) w', TmR ρ' nt tm' a'.tmps → a'.defers = a.defers → Rel ρ' h' w' → Stp (fun _ => False) ρ h w ρ' h' w' → Q x.exit a' w') → Code.rounds P c Q n a w
  | 0, _, _, _, _, _, _, _, _, _, _, _, e, _ => by simp [loopV] at e
  | n + 1, ρ, h, w, tm, tm', a, h', x, Q, ht, hr, e, hQ => by
    rw [rounds_succ]
    simp only [loopV] at e
    cases hs : m tm h with
    | none => rw [hs] at e; simp at e
    | some r =>
      obtain ⟨x1, t1, h1⟩ := r
      rw [hs] at e
      refine hm ht hr hs fun ρ1 a1 w1 ht1 hd1 hr1 hst1 => ?_
      cases x1 with
      | nm => exact sim_loopV hm n ht1 hr1 e fun ρ' a' w' ht' hd' hr' hst' => hQ ρ' a' w' ht' (hd'.trans hd1) hr' (hst1.both hst')
      | ex j =>
        simp only [Option.some.injEq, Prod.mk.injEq] at e
        obtain ⟨rfl, rfl, rfl⟩ := e
        exact hQ ρ1 a1 w1 ht1 hd1 hr1 hst1
      | rt =>
        simp only [Option.some.injEq, Prod.mk.injEq] at e
        obtain ⟨rfl, rfl, rfl⟩ := e
        exact hQ ρ1 a1 w1 ht1 hd1 hr1 hst1
theorem sim_codeV (hcs : CallSim G P call) (hmo : ∀ f l, Mono none (call f l)) (F : Nat) : ∀ c : Code, CodeSim G P nt c (codeV P call nt F c) := by
  intro c
  induction c with
  | skip =>
    intro ρ h w tm tm' a h' x Q ht hr e hQ
    simp only [codeV, Option.some.injEq, Prod.mk.injEq] at e
    obtain ⟨rfl, rfl, rfl⟩ := e
    exact wp_skip (hQ ρ a w ht rfl hr (Stp.refl _ _ _ _))
  | label l =>
    intro ρ h w tm tm' a h' x Q ht hr e hQ
    simp only [codeV, Option.some.injEq, Prod.mk.injEq] at e
    obtain ⟨rfl, rfl, rfl⟩ := e
    exact wp_label (hQ ρ a w ht rfl hr (Stp.refl _ _ _ _))
  | exit id =>
    intro ρ h w tm tm' a h' x Q ht hr e hQ
    simp only [codeV, Option.some.injEq, Prod.mk.injEq] at e
    obtain ⟨rfl, rfl, rfl⟩ := e
    exact wp_exit (hQ ρ a w ht rfl hr (Stp.refl _ _ _ _))
  | ret =>
    intro ρ h w tm tm' a h' x Q ht hr e hQ
    simp only [codeV, Option.some.injEq, Prod.mk.injEq] at e
    obtain ⟨rfl, rfl, rfl⟩ := e
    exact wp_ret (hQ ρ a w ht rfl hr (Stp.refl _ _ _ _))
  | goto l => intro ρ h w tm tm' a h' x Q ht hr e hQ; simp [codeV] at e
  | refuse y => intro ρ h w tm tm' a h' x Q ht hr e hQ; simp [codeV] at e
  | rangeFunc f ps a b _ _ => intro ρ h w tm tm' a h' x Q ht hr e hQ; simp [codeV] at e
  | scope c ih =>
    intro ρ h w tm tm' a h' x Q ht hr e hQ
    simp only [codeV] at e
    refine wp_scope_straight (ih ht hr e fun ρ' a' w' ht' hd' hr' hst' => ?_)
    have := hQ ρ' a' w' ht' hd' hr' hst'
    cases x <;> exact this
  | loop c ih =>
    intro ρ h w tm tm' a h' x Q ht hr e hQ
    simp only [codeV] at e
    exact wp_loop_rounds F (sim_loopV ih F ht hr e hQ)
  | region id ops draw =>
    intro ρ h w tm tm' a h' x Q ht hr e hQ
    simp only [codeV] at e
    cases hs : regionV P call nt ops draw tm h with
    | none => rw [hs] at e; simp at e
    | some r =>
      obtain ⟨t1, h1⟩ := r
      rw [hs] at e
      simp only [Option.some.injEq, Prod.mk.injEq] at e
      obtain ⟨rfl, rfl, rfl⟩ := e
      exact sim_regionV hcs hmo ht hr hs hQ
  | cond c a b iha ihb =>
    intro ρ h w tm tm' ac h' x Q ht hr e hQ
    simp only [codeV] at e
    cases hv : opnd tm c with
    | none => rw [hv] at e; simp at e
    | some v =>
      rw [hv] at e
      have hev := ev_rel ht hr c v hv
      cases v
      case b y =>
        cases y
        · exact wp_cond_false hev (ihb ht hr e hQ)
        · exact wp_cond_true hev (iha ht hr e hQ)
      all_goals simp at e
  | seq a b iha ihb =>
    intro ρ h w tm tm' ac h' x Q ht hr e hQ
    simp only [codeV] at e
    cases hs : codeV P call nt F a tm h with
    | none => rw [hs] at e; simp at e
    | some r =>
      obtain ⟨x1, t1, h1⟩ := r
      rw [hs] at e
      refine wp_seq (iha ht hr hs fun ρ1 a1 w1 ht1 hd1 hr1 hst1 => ?_)
      cases x1 with
      | nm => exact ihb ht1 hr1 e fun ρ' a' w' ht' hd' hr' hst' => hQ ρ' a' w' ht' (hd'.trans hd1) hr' (hst1.both hst')
      | ex j =>
        simp only [Option.some.injEq, Prod.mk.injEq] at e
        obtain ⟨rfl, rfl, rfl⟩ := e
        exact hQ ρ1 a1 w1 ht1 hd1 hr1 hst1
      | rt =>
        simp only [Option.some.injEq, Prod.mk.injEq] at e
        obtain ⟨rfl, rfl, rfl⟩ := e
        exact hQ ρ1 a1 w1 ht1 hd1 hr1 hst1
  | block i c ih =>
    intro ρ h w tm tm' ac h' x Q ht hr e hQ
    simp only [codeV] at e
    cases hs : codeV P call nt F c tm h with
    | none => rw [hs] at e; simp at e
    | some r =>
      obtain ⟨x1, t1, h1⟩ := r
      rw [hs] at e
      refine wp_block (ih ht hr hs fun ρ1 a1 w1 ht1 hd1 hr1 hst1 => ?_)
      cases x1 with
      | nm =>
        simp only [Option.some.injEq, Prod.mk.injEq] at e
        obtain ⟨rfl, rfl, rfl⟩ := e
        exact hQ ρ1 a1 w1 ht1 hd1 hr1 hst1
      | ex j =>
        simp only at e
        simp only [PX.exit, Exit.inBlock]
        cases hj : Nat.beq j i with
        | true =>
          rw [hj] at e
          simp only [cond_true, Option.some.injEq, Prod.mk.injEq] at e
          obtain ⟨rfl, rfl, rfl⟩ := e
          rw [if_pos (Nat.eq_of_beq_eq_true hj)]
          exact hQ ρ1 a1 w1 ht1 hd1 hr1 hst1
        | false =>
          rw [hj] at e
          simp only [cond_false, Option.some.injEq, Prod.mk.injEq] at e
          obtain ⟨rfl, rfl, rfl⟩ := e
          rw [if_neg (fun hh => by rw [hh, Nat.beq_refl] at hj; cases hj)]
          exact hQ ρ1 a1 w1 ht1 hd1 hr1 hst1
      | rt =>
        simp only [Option.some.injEq, Prod.mk.injEq] at e
        obtain ⟨rfl, rfl, rfl⟩ := e
        exact hQ ρ1 a1 w1 ht1 hd1 hr1 hst1
end

section
variable {P : Program} {ρ : Emb G} {h h' : H} {w : World} {nt : Nat}
def resOne (tmps : Array Value) : ResultVar → Sem Value
  | .tmp t => pure (tmps.getD t undef)
  | .cell a t => do loadVar t (← asAddr (tmps.getD a undef))
theorem sim_resV {tm : T PV} {tmps : Array Value} (ht : TmR ρ nt tm tmps) (hr : Rel ρ h w) (rs : List ResultVar) : ∀ {l : List PV}, resV P tm rs h = some (l, h') → h' = h ∧ ∃ vs, (rs.mapM (resOne tmps)).run P w = .ok vs w ∧ VRs ρ l vs := by
  induction rs with
  | nil =>
    intro l e
    obtain ⟨rfl, rfl⟩ := ret_some e
    exact ⟨rfl, [], by simp, VRs.nil⟩
  | cons r rs ih =>
    intro l e
    cases r with
    | tmp t =>
      simp only [resV] at e
      obtain ⟨l1, h1, e1, e2⟩ := bnd_some e
      obtain ⟨e3, e4⟩ := ret_some e2
      rw [e4] at e1
      obtain ⟨e5, vs, hrun, hv⟩ := ih e1
      refine ⟨e5, _ :: vs, by simp only [List.mapM_cons, resOne, Sem.run_bind, Sem.run_pure, Result.andThen_ok, hrun]; rfl, ?_⟩
      rw [← e3]
      exact VRs.cons (ht.get t) hv
    | cell a t =>
      simp only [resV] at e
      obtain ⟨v, h1, e1, e2⟩ := bnd_some e
      obtain ⟨l1, h2, e3, e4⟩ := bnd_some e2
      obtain ⟨e5, e6⟩ := ret_some e4
      obtain ⟨e7, rv, hload, hvv⟩ := sim_ldT (P := P) hr e1 (ht.get a)
      rw [e7, e6] at e3
      obtain ⟨e8, vs, hrun, hv⟩ := ih e3
      refine ⟨e8, rv :: vs, ?_, by rw [← e5]; exact VRs.cons hvv hv⟩
      have hp : ∃ ad, tmps.getD a undef = .pointer (some ad) := by
        have hg := ht.get a
        cases hk : (tm.get a).getD (.tup [])
        case p b o =>
          rw [hk] at hg
          obtain ⟨c, d, m, _, hh⟩ := hg
          exact ⟨_, hh⟩
        case fp z es i o =>
          rw [hk] at hg
          obtain ⟨c, d, vs, _, hh, _⟩ := hg
          exact ⟨_, hh⟩
        all_goals
          rw [hk] at e1
          exact (no_some (h := h) e1).elim
      obtain ⟨ad, had⟩ := hp
      rw [had] at hload
      have hload' : (loadVar t ad).run P w = .ok rv w := by
        simpa only [Instr.loadAt, Instr.sureAddr, Sem.run_bind, Sem.run_pure, Result.andThen_ok] using hload
      simp only [List.mapM_cons, resOne, had, asAddr, Sem.run_bind, Sem.run_pure, Result.andThen_ok, hload', hrun]
theorem sim_results {tm : T PV} {tmps : Array Value} (ht : TmR ρ nt tm tmps) (hr : Rel ρ h w) {fn : Func} {l : List PV} (e : resV P tm fn.results.toList h = some (l, h')) :
    h' = h ∧ ∃ v, (results fn tmps).run P w = .ok v w ∧ VR ρ (one_ l) v := by
  obtain ⟨rfl, vs, hrun, hv⟩ := sim_resV ht hr _ e
  refine ⟨rfl, if h : vs.toArray.size = 1 then vs.toArray[0] else .tuple vs.toArray, ?_, ?_⟩
  · have hm : (fn.results.mapM (resOne tmps)).run P w = .ok vs.toArray w := by
      rw [Array.mapM_eq_mapM_toList]
      simp only [Sem.run_map, hrun, Result.andThen_ok]
    have hfun : (results fn tmps) = (do let vs ← fn.results.mapM (resOne tmps); pure (if h : vs.size = 1 then vs[0] else .tuple vs)) := rfl
    rw [hfun]
    simp only [Sem.run_bind, hm, Result.andThen_ok, Sem.run_pure]
  · match l, vs, hv with
    | [], vs, hv =>
      have : vs = [] := hv
      subst this
      exact ⟨[], rfl, VRs.nil⟩
    | [x], vs, hv =>
      obtain ⟨y, ys, rfl, hy, hys⟩ := hv
      have : ys = [] := hys
      subst this
      exact hy
    | x :: y :: l, vs, hv =>
      have hl := hv.length
      have : ¬ vs.toArray.size = 1 := by simp only [List.size_toArray, hl, List.length_cons]; omega
      rw [dif_neg this]
      exact ⟨vs, rfl, hv⟩
theorem args_get : ∀ (l : List PV) (i : Nat) (t : T PV) (k : Nat), (args_ l i t).get k = if i ≤ k ∧ k < i + l.length then l[k - i]? else t.get k
  | [], i, t, k => by
    simp only [args_, List.length_nil]
    rw [if_neg (by omega)]
  | v :: vs, i, t, k => by
    simp only [args_]
    rw [args_get vs (i + 1), T.get_set]
    simp only [List.length_cons]
    by_cases h1 : k = i
    · subst h1
      rw [if_neg (by omega), if_pos rfl, if_pos (by omega)]
      simp
    · rw [if_neg h1]
      by_cases h2 : i + 1 ≤ k ∧ k < i + 1 + vs.length
      · rw [if_pos h2, if_pos (by omega)]
        obtain ⟨j, rfl⟩ : ∃ j, k = i + 1 + j := ⟨k - (i + 1), by omega⟩
        rw [show i + 1 + j - i = j + 1 by omega, show i + 1 + j - (i + 1) = j by omega]
        rfl
      · rw [if_neg h2, if_neg (by omega)]
theorem TmR.args {l : List PV} {rl : List Value} (hl : VRs ρ l rl) (n : Nat) : TmR ρ (max n l.length) (args_ l 0 .e) (rl.toArray ++ Array.replicate (n - rl.toArray.size) undef) := by
  have hlen := hl.length
  refine ⟨by simp; omega, fun t => ?_⟩
  rw [args_get, Array.getD_eq_getD_getElem?]
  by_cases h1 : t < l.length
  · rw [if_pos (by omega), Array.getElem?_append_left (by simp; omega)]
    obtain ⟨x, hx⟩ : ∃ x, l[t]? = some x := ⟨_, List.getElem?_eq_getElem h1⟩
    obtain ⟨v, hv, hxv⟩ := hl.get hx
    simp only [Nat.sub_zero, hx, Option.getD_some, List.getElem?_toArray, hv]
    exact hxv
  · rw [if_neg (by omega), Array.getElem?_append_right (by simp; omega)]
    have he : (T.e : T PV).get t = none := by rfl
    rw [he, Array.getElem?_replicate]
    simp only [Option.getD_none]
    split <;> exact ⟨[], rfl, VRs.nil⟩
theorem sim_bodyV {call : FuncId → List PV → HM PV} (hcs : CallSim G P call) (hmo : ∀ f l, Mono none (call f l)) {F f : Nat} {fn : Func} (hf : P.funcs[f]? = some fn) {args : List PV} {v : PV} (e : bodyV P call F fn args h = some (v, h')) :
    (∃ c, fn.body = some c) ∧ ∀ (ρ : Emb G) w (rl : List Value), Rel ρ h w → VRs ρ args rl → Calls P f rl.toArray w fun e w' => ∃ ρ' rv, e = .returned rv ∧ VR ρ' v rv ∧ Rel ρ' h' w' ∧ Stp (fun _ => False) ρ h w ρ' h' w' := by
  unfold bodyV at e
  cases hb : fn.body with
  | none => rw [hb] at e; simp at e
  | some c =>
    rw [hb] at e
    simp only at e
    refine ⟨⟨c, rfl⟩, fun ρ w rl hr hl => ?_⟩
    cases hs : codeV P call (max fn.ntmps args.length) F c (args_ args 0 .e) h with
    | none => rw [hs] at e; simp at e
    | some r =>
      obtain ⟨x1, t1, h1⟩ := r
      rw [hs] at e
      have hx : ∀ j, x1 ≠ .ex j := fun j hj => by rw [hj] at e; simp at e
      have e' : (match resV P t1 fn.results.toList h1 with
        | some (l, h'') => some (one_ l, h'')
        | none => none) = some (v, h') := by cases x1 <;> first | exact e | exact absurd rfl (hx _)
      cases hres : resV P t1 fn.results.toList h1 with
      | none => rw [hres] at e'; simp at e'
      | some r2 =>
        obtain ⟨l, h2⟩ := r2
        rw [hres] at e'
        simp only [Option.some.injEq, Prod.mk.injEq] at e'
        obtain ⟨rfl, rfl⟩ := e'
        refine calls_of_wp hf hb ?_
        refine sim_codeV hcs hmo F c (a := { tmps := rl.toArray ++ Array.replicate (fn.ntmps - rl.toArray.size) undef, defers := [] }) (TmR.args hl fn.ntmps) hr hs fun ρ' a' w' ht' hd' hr' hst' => ?_
        obtain ⟨rfl, rv, hrun, hv⟩ := sim_results ht' hr' hres
        have : bodyPost P fn (fun e w' => ∃ ρ' rv, e = .returned rv ∧ VR ρ' (one_ l) rv ∧ Rel ρ' h2 w' ∧ Stp (fun _ => False) ρ h w ρ' h2 w') .ret a' w' := ⟨hd', rv, hrun, ρ', rv, rfl, hv, hr', hst'⟩
        cases x1
        · exact this
        · exact absurd rfl (hx _)
        · exact this
theorem sim_callV {ov : FuncId → List PV → HM PV} (hov : CallSim G P ov) (ho : ∀ f l, Mono none (ov f l)) (hn : ∀ f l h id ob, ov f l h = none → id < h.next → h.get id = none → ov f l (h.put id ob) = none)
    (hname : ∀ (f : Nat) (fn : Func), P.funcs[f]? = some fn → fn.name ≠ "runtime.NumGoroutine") (F : Nat) : ∀ n, CallSim G P (callV P ov F n)
  | 0 => fun g l h v h' e => by simp [callV] at e
  | n + 1 => fun g l h v h' e => by
    simp only [callV] at e
    cases hq : ov g l h with
    | some r =>
      rw [hq] at e
      simp only [Option.some.injEq] at e
      subst e
      exact hov g l h v h' hq
    | none =>
      rw [hq] at e
      simp only at e
      cases hf : P.funcs[g]? with
      | none => rw [hf] at e; simp at e
      | some fn =>
        rw [hf] at e
        simp only at e
        obtain ⟨⟨c, hc⟩, hk⟩ := sim_bodyV (sim_callV hov ho hn hname F n) (mono_callV ho hn F n) hf e
        exact ⟨⟨fn, c, rfl, hc, hname g fn hf⟩, hk⟩
end
end Go.Pe
