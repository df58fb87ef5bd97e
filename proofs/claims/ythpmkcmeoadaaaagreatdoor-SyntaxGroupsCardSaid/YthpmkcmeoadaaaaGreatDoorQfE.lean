/- Calls: an evaluation by rounds, and its limit. -/
import Derived.Test.YthpmkcmeoadaaaaGreatDoorQfD
namespace Go.Pe
open HM
set_option linter.unusedVariables false
set_option linter.unusedSimpArgs false

/-- what an evaluation is given: the program, its variables that are known, which functions are called with free values -/
structure Cx where
  P : Program
  G : T PO
  md : FuncId → Bool
  ov : FuncId → Option PV := fun _ => none
def callX (K : Cx) : Nat → FuncId → List PV → HM PV
  | 0, _, _ => no
  | n + 1, f, args => match K.ov f with
    | some v => (match args with
      | [] => ret v
      | _ :: _ => no)
    | none => match K.P.funcs[f]? with
      | some fn => bif K.md f then pureC K.G (bodyV K.P (callX K n) n fn) args else bodyV K.P (callX K n) n fn args
      | none => no

theorem mono_callX (K : Cx) : ∀ n f l, Mono none (callX K n f l)
  | 0, _, _ => Mono.no
  | n + 1, f, l => by
    simp only [callX]
    cases K.ov f with
    | some v => cases l <;> first | exact Mono.ret _ | exact Mono.no
    | none =>
      simp only
      cases K.P.funcs[f]? with
      | none => exact Mono.no
      | some fn => exact Mono.cond (mono_pureC _ _) (mono_bodyV (mono_callX K n) n fn l)
theorem pureC_some {G : T PO} {body : List PV → HM PV} {args : List PV} {h : H} {r : PV × H} (e : pureC G body args h = some r) : ∃ as h0 r0, body as h0 = some r0 := by
  unfold pureC at e
  cases ha : frzArgs args h with
  | none => rw [ha] at e; cases e
  | some q =>
    obtain ⟨⟨as, bo⟩, h1⟩ := q
    rw [ha] at e
    cases bo with
    | none =>
      simp only [inner0] at e
      cases hb : body as ⟨1024, G⟩ with
      | none => rw [hb] at e; cases e
      | some r0 => exact ⟨_, _, _, hb⟩
    | some b =>
      simp only at e
      cases hl : lendM b h1 with
      | none => rw [hl] at e; cases e
      | some q2 =>
        obtain ⟨cs, h2⟩ := q2
        rw [hl] at e
        simp only [inner1] at e
        cases hb : body as ⟨1025, G.set (.cells cs true) 1024⟩ with
        | none => rw [hb] at e; cases e
        | some r0 => exact ⟨_, _, _, hb⟩
/-- functions without arguments whose answers are known -/
def OvSim (K : Cx) : Prop := ∀ f v, K.ov f = some v → (∃ fn c, K.P.funcs[f]? = some fn ∧ fn.body = some c ∧ fn.name ≠ "runtime.NumGoroutine") ∧
  ∀ (h : H) (ρ : Emb K.G) w, Rel ρ h w → Calls K.P f #[] w fun e w' => ∃ (ρ' : Emb K.G) (rv : Value), e = .returned rv ∧ VR ρ' v rv ∧ Rel ρ' h w' ∧ Stp (fun _ => False) ρ h w ρ' h w'
theorem OvSim.none {P : Program} {G : T PO} {md : FuncId → Bool} : OvSim ⟨P, G, md, fun _ => .none⟩ := fun f v e => by cases e
theorem sim_callX (K : Cx) (hov : OvSim K) (hname : ∀ (f : Nat) (fn : Func), K.P.funcs[f]? = some fn → fn.name ≠ "runtime.NumGoroutine") : ∀ n, CallSim K.G K.P (callX K n)
  | 0 => fun g l h v h' e => (no_some e).elim
  | n + 1 => fun g l h v h' e => by
    simp only [callX] at e
    cases ho : K.ov g with
    | some v1 =>
      rw [ho] at e
      cases l with
      | cons a as => exact (no_some e).elim
      | nil =>
        obtain ⟨rfl, rfl⟩ := ret_some e
        obtain ⟨h1, h2⟩ := hov g _ ho
        refine ⟨h1, fun ρ w rl hr hl => ?_⟩
        have : rl = [] := hl
        subst this
        exact h2 h ρ w hr
    | none =>
    rw [ho] at e
    simp only at e
    cases hf : K.P.funcs[g]? with
    | none => rw [hf] at e; exact (no_some e).elim
    | some fn =>
      rw [hf] at e
      simp only at e
      have hb : BodySim K.G K.P g (bodyV K.P (callX K n) n fn) := fun l h v h' e ρ w rl hr hl => (sim_bodyV (sim_callX K hov hname n) (mono_callX K n) hf e).2 ρ w rl hr hl
      rcases cond_some e with ⟨_, e1⟩ | ⟨_, e1⟩
      · obtain ⟨as, h0, r0, e0⟩ := pureC_some e1
        obtain ⟨⟨c, hc⟩, _⟩ := sim_bodyV (G := K.G) (sim_callX K hov hname n) (mono_callX K n) hf e0
        exact ⟨⟨fn, c, rfl, hc, hname g fn hf⟩, fun ρ w rl hr hl => sim_pureC hb l h v h' e1 ρ w rl hr hl⟩
      · obtain ⟨⟨c, hc⟩, _⟩ := sim_bodyV (G := K.G) (sim_callX K hov hname n) (mono_callX K n) hf e1
        exact ⟨⟨fn, c, rfl, hc, hname g fn hf⟩, fun ρ w rl hr hl => hb l h v h' e1 ρ w rl hr hl⟩

/-- the second evaluation of calls answers wherever the first does, and alike -/
def CLe (c1 c2 : FuncId → List PV → HM PV) : Prop := ∀ f l h r, c1 f l h = some r → c2 f l h = some r
section
variable {P : Program} {c1 c2 : FuncId → List PV → HM PV} {nt : Nat} {ops : Array Oper} {base : Nat} {ms : List Nat}
theorem bnd_le {α β : Type} {m : HM α} {f g : α → HM β} {h : H} {r : β × H} (hfg : ∀ a h r, f a h = some r → g a h = some r) (e : HM.bnd m f h = some r) : HM.bnd m g h = some r := by
  obtain ⟨b, h2⟩ := r
  obtain ⟨a, h1, e1, e2⟩ := bnd_some e
  simp only [HM.bnd, e1]
  exact hfg _ _ _ e2
theorem execC_le (hle : CLe c1 c2) {ev : Operand → Option PV} {id : Nat} {op : Op} {h : H} {r : PV × H} (e : execC P c1 ev id op h = some r) : execC P c2 ev id op h = some r := by
  unfold execC at e ⊢
  split at e
  · refine bnd_le (fun a h r e => ?_) e
    split at e
    · exact bnd_le (fun l h r e => hle _ _ _ _ e) e
    · cases e
  · exact e
theorem opVal_le (hle : CLe c1 c2) {i : Nat} {o : Oper} {tm : T PV} {h : H} {r : PV × H} (e : opVal P c1 ops base i o tm h = some r) : opVal P c2 ops base i o tm h = some r := by
  unfold opVal at e ⊢
  cases hw : wantV ops tm o with
  | false => rw [hw] at e; exact e
  | true => rw [hw] at e; exact execC_le hle e
theorem opStep_le (hle : CLe c1 c2) {i : Nat} {o : Oper} {tm : T PV} {h : H} {r : T PV × H} (e : opStep P c1 nt ops base i o tm h = some r) : opStep P c2 nt ops base i o tm h = some r := by
  obtain ⟨tm', h'⟩ := r
  obtain ⟨v, e1, e2⟩ := opStep_some e
  exact opStep_mk (opVal_le hle e1) e2
theorem runT_le (hle : CLe c1 c2) : ∀ {os : List Oper} {i : Nat} {tm : T PV} {h : H} {r : T PV × H}, runT P c1 nt ops base os i tm h = some r → runT P c2 nt ops base os i tm h = some r
  | [], _, _, _, _, e => e
  | o :: os, i, tm, h, r, e => by
    simp only [runT] at e ⊢
    cases hs : opStep P c1 nt ops base i o tm h with
    | none => rw [hs] at e; cases e
    | some q =>
      rw [hs] at e
      rw [opStep_le hle hs]
      exact runT_le hle e
theorem runCk_le (hle : CLe c1 c2) : ∀ {is : List Nat} {tm : T PV} {h : H} {sn : List (Nat × H)} {r : T PV × H}, runC P c1 nt ops base ms is tm h sn = some r → runC P c2 nt ops base ms is tm h sn = some r
  | [], _, _, _, _, e => e
  | i :: is, tm, h, sn, r, e => by
    simp only [runC] at e ⊢
    cases ho : ops[i]? with
    | none => rw [ho] at e; cases e
    | some o =>
      rw [ho] at e
      simp only at e ⊢
      cases hc : (!wantV ops tm o || chk P ops base ms i o tm h sn) with
      | false => rw [hc] at e; cases e
      | true =>
        rw [hc] at e
        simp only [cond_true] at e ⊢
        cases hs : opStep P c1 nt ops base i o tm h with
        | none => rw [hs] at e; cases e
        | some q =>
          rw [hs] at e
          rw [opStep_le hle hs]
          exact runCk_le hle e
theorem regionV_le (hle : CLe c1 c2) {dr : Bool} {tm : T PV} {h : H} {r : T PV × H} (e : regionV P c1 nt ops dr tm h = some r) : regionV P c2 nt ops dr tm h = some r := by
  unfold regionV at e ⊢
  cases dr with
  | false => exact runT_le hle e
  | true =>
    simp only [cond_true] at e ⊢
    cases hk : okR P ops (masks ops) (canon P ops.toList (masks ops) ops.size (List.range ops.size)) with
    | false => rw [hk] at e; cases e
    | true => rw [hk] at e; exact runCk_le hle e
theorem loopV_le {b1 b2 : T PV → H → Option (PX × T PV × H)} (hb : ∀ tm h r, b1 tm h = some r → b2 tm h = some r) : ∀ {F1 F2 : Nat} {tm : T PV} {h : H} {r : PX × T PV × H}, F1 ≤ F2 → loopV b1 F1 tm h = some r → loopV b2 F2 tm h = some r
  | 0, _, _, _, _, _, e => by cases e
  | F1 + 1, 0, _, _, _, hF, _ => by omega
  | F1 + 1, F2 + 1, tm, h, r, hF, e => by
    simp only [loopV] at e ⊢
    cases hs : b1 tm h with
    | none => rw [hs] at e; cases e
    | some q =>
      obtain ⟨x, tm', h'⟩ := q
      rw [hs] at e
      rw [hb _ _ _ hs]
      cases x with
      | nm => exact loopV_le hb (by omega) e
      | ex i => exact e
      | rt => exact e
theorem codeV_le (hle : CLe c1 c2) {F1 F2 : Nat} (hF : F1 ≤ F2) : ∀ {c : Code} {tm : T PV} {h : H} {r : PX × T PV × H}, codeV P c1 nt F1 c tm h = some r → codeV P c2 nt F2 c tm h = some r := by
  intro c
  induction c with
  | skip => intro tm h r e; exact e
  | label l => intro tm h r e; exact e
  | exit id => intro tm h r e; exact e
  | ret => intro tm h r e; exact e
  | goto l => intro tm h r e; simp [codeV] at e
  | refuse w => intro tm h r e; simp [codeV] at e
  | rangeFunc f ps a b _ _ => intro tm h r e; simp [codeV] at e
  | scope c ih => intro tm h r e; simp only [codeV] at e ⊢; exact ih e
  | loop c ih => intro tm h r e; simp only [codeV] at e ⊢; exact loopV_le (fun tm h r e => ih e) hF e
  | region id ops draw =>
    intro tm h r e
    simp only [codeV] at e ⊢
    cases hs : regionV P c1 nt ops draw tm h with
    | none => rw [hs] at e; cases e
    | some q => rw [hs] at e; rw [regionV_le hle hs]; exact e
  | cond c a b iha ihb =>
    intro tm h r e
    simp only [codeV] at e ⊢
    split at e
    · exact iha e
    · exact ihb e
    · cases e
  | seq a b iha ihb =>
    intro tm h r e
    simp only [codeV] at e ⊢
    cases hs : codeV P c1 nt F1 a tm h with
    | none => rw [hs] at e; cases e
    | some q =>
      obtain ⟨x, tm', h'⟩ := q
      rw [hs] at e
      rw [iha hs]
      cases x with
      | nm => exact ihb e
      | ex i => exact e
      | rt => exact e
  | block i c ih =>
    intro tm h r e
    simp only [codeV] at e ⊢
    cases hs : codeV P c1 nt F1 c tm h with
    | none => rw [hs] at e; cases e
    | some q =>
      obtain ⟨x, tm', h'⟩ := q
      rw [hs] at e
      rw [ih hs]
      exact e
theorem bodyV_le (hle : CLe c1 c2) {F1 F2 : Nat} (hF : F1 ≤ F2) {fn : Func} {args : List PV} {h : H} {r : PV × H} (e : bodyV P c1 F1 fn args h = some r) : bodyV P c2 F2 fn args h = some r := by
  unfold bodyV at e ⊢
  cases hb : fn.body with
  | none => rw [hb] at e; cases e
  | some c =>
    rw [hb] at e
    simp only at e ⊢
    cases hs : codeV P c1 (max fn.ntmps args.length) F1 c (args_ args 0 .e) h with
    | none => rw [hs] at e; cases e
    | some q => rw [hs] at e; rw [codeV_le hle hF hs]; exact e
theorem pureC_le {G : T PO} {b1 b2 : List PV → HM PV} (hb : ∀ l h r, b1 l h = some r → b2 l h = some r) {args : List PV} {h : H} {r : PV × H} (e : pureC G b1 args h = some r) : pureC G b2 args h = some r := by
  have h0 : ∀ {as v}, inner0 G b1 as = some v → inner0 G b2 as = some v := fun {as v} e => by
    unfold inner0 at e ⊢
    cases hs : b1 as ⟨1024, G⟩ with
    | none => rw [hs] at e; cases e
    | some q => rw [hs] at e; rw [hb _ _ _ hs]; exact e
  have h1 : ∀ {as cs v}, inner1 G b1 as cs = some v → inner1 G b2 as cs = some v := fun {as cs v} e => by
    unfold inner1 at e ⊢
    cases hs : b1 as ⟨1025, G.set (.cells cs true) 1024⟩ with
    | none => rw [hs] at e; cases e
    | some q => rw [hs] at e; rw [hb _ _ _ hs]; exact e
  unfold pureC at e ⊢
  cases ha : frzArgs args h with
  | none => rw [ha] at e; cases e
  | some q =>
    obtain ⟨⟨as, bo⟩, h2⟩ := q
    rw [ha] at e
    cases bo with
    | none =>
      simp only at e ⊢
      cases hi : inner0 G b1 as with
      | none => rw [hi] at e; cases e
      | some v => rw [hi] at e; rw [h0 hi]; exact e
    | some b =>
      simp only at e ⊢
      cases hl : lendM b h2 with
      | none => rw [hl] at e; cases e
      | some q2 =>
        obtain ⟨cs, h3⟩ := q2
        rw [hl] at e
        simp only at e ⊢
        cases hi : inner1 G b1 as cs with
        | none => rw [hi] at e; cases e
        | some v => rw [hi] at e; rw [h1 hi]; exact e
end
theorem callX_le (K : Cx) : ∀ {n m : Nat}, n ≤ m → CLe (callX K n) (callX K m)
  | 0, _, _ => fun f l h r e => by cases e
  | n + 1, 0, hnm => by omega
  | n + 1, m + 1, hnm => fun f l h r e => by
    simp only [callX] at e ⊢
    have ih := callX_le K (n := n) (m := m) (by omega)
    cases ho : K.ov f with
    | some v1 => rw [ho] at e; exact e
    | none =>
    rw [ho] at e
    simp only at e ⊢
    cases hf : K.P.funcs[f]? with
    | none => rw [hf] at e; cases e
    | some fn =>
      rw [hf] at e
      simp only at e ⊢
      cases hm : K.md f with
      | true => rw [hm] at e; exact pureC_le (fun l h r e => bodyV_le ih (by omega) e) e
      | false => rw [hm] at e; exact bodyV_le ih (by omega) e
open Classical in
/-- the limit -/
noncomputable def CL (K : Cx) : FuncId → List PV → HM PV := fun f args h => if hx : ∃ r n, callX K n f args h = some r then some hx.choose else none
theorem CL_of {K : Cx} {n : Nat} {f : FuncId} {args : List PV} {h : H} {r : PV × H} (e : callX K n f args h = some r) : CL K f args h = some r := by
  have hx : ∃ r n, callX K n f args h = some r := ⟨r, n, e⟩
  unfold CL
  rw [dif_pos hx]
  obtain ⟨m, hm⟩ := hx.choose_spec
  have h1 := callX_le K (Nat.le_max_left n m) _ _ _ _ e
  have h2 := callX_le K (Nat.le_max_right n m) _ _ _ _ hm
  rw [h1] at h2
  exact h2.symm
theorem CL_ex {K : Cx} {f : FuncId} {args : List PV} {h : H} {r : PV × H} (e : CL K f args h = some r) : ∃ n, callX K n f args h = some r := by
  unfold CL at e
  split at e
  · rename_i hx
    obtain ⟨n, hn⟩ := hx.choose_spec
    simp only [Option.some.injEq] at e
    rw [e] at hn
    exact ⟨n, hn⟩
  · cases e

section
variable {K : Cx} {nt : Nat} {ops : Array Oper} {base : Nat} {ms : List Nat}
theorem execC_ex {ev : Operand → Option PV} {id : Nat} {op : Op} {h : H} {r : PV × H} (e : execC K.P (CL K) ev id op h = some r) : ∃ n, execC K.P (callX K n) ev id op h = some r := by
  unfold execC at e ⊢
  split at e
  · rename_i f args ts
    obtain ⟨v, h2⟩ := r
    obtain ⟨a, h1, e1, e2⟩ := bnd_some e
    split at e2
    · rename_i g cap
      obtain ⟨l, h3, e3, e4⟩ := bnd_some e2
      obtain ⟨n, hn⟩ := CL_ex e4
      refine ⟨n, ?_⟩
      simp only [HM.bnd, e1, e3, hn]
    · cases e2
  · exact ⟨0, e⟩
theorem opStep_ex {i : Nat} {o : Oper} {tm : T PV} {h : H} {r : T PV × H} (e : opStep K.P (CL K) nt ops base i o tm h = some r) : ∃ n, opStep K.P (callX K n) nt ops base i o tm h = some r := by
  obtain ⟨tm', h'⟩ := r
  obtain ⟨v, e1, e2⟩ := opStep_some e
  unfold opVal at e1
  cases hw : wantV ops tm o with
  | false => rw [hw] at e1; exact ⟨0, opStep_mk (by unfold opVal; rw [hw]; exact e1) e2⟩
  | true =>
    rw [hw] at e1
    obtain ⟨n, hn⟩ := execC_ex e1
    exact ⟨n, opStep_mk (by unfold opVal; rw [hw]; exact hn) e2⟩
theorem runT_ex : ∀ {os : List Oper} {i : Nat} {tm : T PV} {h : H} {r : T PV × H}, runT K.P (CL K) nt ops base os i tm h = some r → ∃ n, runT K.P (callX K n) nt ops base os i tm h = some r
  | [], _, _, _, _, e => ⟨0, e⟩
  | o :: os, i, tm, h, r, e => by
    simp only [runT] at e ⊢
    cases hs : opStep K.P (CL K) nt ops base i o tm h with
    | none => rw [hs] at e; cases e
    | some q =>
      rw [hs] at e
      obtain ⟨n1, h1⟩ := opStep_ex hs
      obtain ⟨n2, h2⟩ := runT_ex e
      refine ⟨max n1 n2, ?_⟩
      rw [opStep_le (callX_le K (Nat.le_max_left n1 n2)) h1]
      exact runT_le (callX_le K (Nat.le_max_right n1 n2)) h2
theorem runC_ex : ∀ {is : List Nat} {tm : T PV} {h : H} {sn : List (Nat × H)} {r : T PV × H}, runC K.P (CL K) nt ops base ms is tm h sn = some r → ∃ n, runC K.P (callX K n) nt ops base ms is tm h sn = some r
  | [], _, _, _, _, e => ⟨0, e⟩
  | i :: is, tm, h, sn, r, e => by
    simp only [runC] at e ⊢
    cases ho : ops[i]? with
    | none => rw [ho] at e; cases e
    | some o =>
      rw [ho] at e
      simp only at e ⊢
      cases hc : (!wantV ops tm o || chk K.P ops base ms i o tm h sn) with
      | false => rw [hc] at e; cases e
      | true =>
        rw [hc] at e
        simp only [cond_true] at e ⊢
        cases hs : opStep K.P (CL K) nt ops base i o tm h with
        | none => rw [hs] at e; cases e
        | some q =>
          rw [hs] at e
          obtain ⟨n1, h1⟩ := opStep_ex hs
          obtain ⟨n2, h2⟩ := runC_ex e
          refine ⟨max n1 n2, ?_⟩
          rw [opStep_le (callX_le K (Nat.le_max_left n1 n2)) h1]
          exact runCk_le (callX_le K (Nat.le_max_right n1 n2)) h2
theorem regionV_ex {dr : Bool} {tm : T PV} {h : H} {r : T PV × H} (e : regionV K.P (CL K) nt ops dr tm h = some r) : ∃ n, regionV K.P (callX K n) nt ops dr tm h = some r := by
  unfold regionV at e ⊢
  cases dr with
  | false => exact runT_ex e
  | true =>
    simp only [cond_true] at e ⊢
    cases hk : okR K.P ops (masks ops) (canon K.P ops.toList (masks ops) ops.size (List.range ops.size)) with
    | false => rw [hk] at e; cases e
    | true => rw [hk] at e; exact runC_ex e
end
end Go.Pe
