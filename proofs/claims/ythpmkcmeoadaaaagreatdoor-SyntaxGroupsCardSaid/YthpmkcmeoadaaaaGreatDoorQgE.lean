/- The quick evaluator with known answers; a call without arguments that is evaluated once for all heaps. -/
import Derived.Test.YthpmkcmeoadaaaaGreatDoorQgD
import Derived.Test.YthpmkcmeoadaaaaGreatDoorQfT
namespace Go.Pe
open HM
set_option linter.unusedVariables false
noncomputable def kStep (K : Cx) (F : Nat) (ih : CallT) (f : FuncId) (args : List PV) (h : H) : Option (PV × H) := match K.ov f with
  | some v => (match args with
    | [] => some (v, h)
    | _ :: _ => none)
  | none => Bool.rec (motive := fun _ => Option (PV × H)) ((funF K.P F f).run ih args h) none (K.md f)
noncomputable def callK (K : Cx) (F n : Nat) : CallT :=
  Nat.rec (motive := fun _ => CallT) (fun _ _ _ => none) (fun _ ih f args h => kStep K F ih f args h) n
theorem callK_some {K : Cx} {F : Nat} : ∀ {n : Nat} {f : FuncId} {args : List PV} {h : H} {r : PV × H}, callK K F n f args h = some r → callX K (n + F) f args h = some r
  | 0, _, _, _, _, e => by cases e
  | n + 1, f, args, h, r, e => by
    have e1 : kStep K F (callK K F n) f args h = some r := e
    rw [show n + 1 + F = (n + F) + 1 by omega]
    simp only [callX]
    unfold kStep at e1
    cases ho : K.ov f with
    | some v =>
      rw [ho] at e1
      cases args with
      | nil => exact e1
      | cons a as1 => cases e1
    | none =>
      rw [ho] at e1
      simp only at e1 ⊢
      cases hm : K.md f with
      | true => rw [hm] at e1; cases e1
      | false =>
        rw [hm] at e1
        simp only [cond_false] at e1 ⊢
        unfold funF at e1
        cases hf : K.P.funcs[f]? with
        | none => rw [hf] at e1; cases e1
        | some fn =>
          rw [hf] at e1
          exact bodyV_le (fun f l h r e => callK_some e) (by omega) (bodyF_some e1)
/-- an answer 'true' -/
noncomputable def isT : Option (PV × H) → Bool
  | some (.b true, _) => true
  | _ => false
theorem isT_some {r : Option (PV × H)} (e : isT r = true) : ∃ h', r = some (.b true, h') := by
  unfold isT at e
  split at e
  · exact ⟨_, rfl⟩
  · cases e
/-- what is left of a text is run by the quick way, and ends in 'true' -/
noncomputable def endsT (P : Program) (rs : List ResultVar) : Option (PX × T PV × H) → Bool
  | some (.rt, tm, h) => (match resV P tm rs h with
    | some ([.b true], _) => true
    | _ => false)
  | _ => false
theorem ev_quick {K : Cx} {nt : Nat} {c : Code} {tm : T PV} {h : H} {fn : Func} (F n : Nat) (e : endsT K.P fn.results.toList ((codeF K.P nt F c).run (callK K F n) tm h) = true) : Ev K nt c tm h (Fin K.P fn (R0 (.b true))) .mk := by
  rw [codeF_eq] at e
  cases hs : codeV K.P (callK K F n) nt F c tm h with
  | none => rw [hs] at e; cases e
  | some r =>
    obtain ⟨x, tm', h'⟩ := r
    rw [hs] at e
    have h1 : codeV K.P (callX K (n + F)) nt (n + F) c tm h = some (x, tm', h') := codeV_le (fun f l h r e => callK_some e) (by omega) hs
    refine ⟨n + F, x, tm', h', h1, ?_⟩
    cases x with
    | nm => cases e
    | ex i => cases e
    | rt =>
      simp only [endsT] at e
      cases hr : resV K.P tm' fn.results.toList h' with
      | none => rw [hr] at e; cases e
      | some q =>
        obtain ⟨l, h''⟩ := q
        rw [hr] at e
        refine ⟨l, h'', hr, ?_⟩
        match l, e with
        | [.b true], _ => exact ⟨h'', rfl⟩
/-- a call without arguments, evaluated in a heap of its own -/
theorem ov_pure {K : Cx} (hov : OvSim K) (hname : ∀ (f : Nat) (fn : Func), K.P.funcs[f]? = some fn → fn.name ≠ "runtime.NumGoroutine") {n f : Nat} {fn : Func} (hf : K.P.funcs[f]? = some fn) (hmd : K.md f = false) (ho : K.ov f = none) {h' : H}
    (e : callX K (n + 1) f [] ⟨1024, K.G⟩ = some (.b true, h')) : (∃ fn c, K.P.funcs[f]? = some fn ∧ fn.body = some c ∧ fn.name ≠ "runtime.NumGoroutine") ∧
      ∀ (h : H) (ρ : Emb K.G) w, Rel ρ h w → Calls K.P f #[] w fun e w' => ∃ (ρ' : Emb K.G) (rv : Value), e = .returned rv ∧ VR ρ' (.b true) rv ∧ Rel ρ' h w' ∧ Stp (fun _ => False) ρ h w ρ' h w' := by
  refine ⟨(sim_callX K hov hname (n + 1) f [] _ _ _ e).1, fun h ρ w hr => ?_⟩
  simp only [callX, ho, hf, hmd, cond_false] at e
  have hb : BodySim K.G K.P f (bodyV K.P (callX K n) n fn) := fun l h v h' e ρ w rl hr hl => (sim_bodyV (sim_callX K hov hname n) (mono_callX K n) hf e).2 ρ w rl hr hl
  have hp : pureC K.G (bodyV K.P (callX K n) n fn) [] h = some (.b true, h) := by
    simp only [pureC, frzArgs, ret, inner0, e]
    rfl
  exact sim_pureC hb [] h _ _ hp ρ w [] hr rfl
end Go.Pe
