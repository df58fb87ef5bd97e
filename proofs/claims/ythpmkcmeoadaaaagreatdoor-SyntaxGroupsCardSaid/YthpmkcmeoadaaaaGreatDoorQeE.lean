/- Calls commute with a block that is laid ahead. -/
import Derived.Test.YthpmkcmeoadaaaaGreatDoorQeD
namespace Go.Pe
open HM

section
variable {P : Program} {call : FuncId → List PV → HM PV} {nt : Nat} {ops : Array Oper} {base : Nat} {ms : List Nat}
theorem HLe.put {h : H} {id : Nat} {o : PO} (hg : h.get id = none) : HLe h (h.put id o) := fun b o' hb => by
  rw [H.get_put, if_neg (fun e => by rw [e, hg] at hb; simp at hb)]; exact hb
theorem quiet_put {i : Nat} {o : Oper} {tm : T PV} {h : H} {id : Nat} {ob : PO} (hg : h.get id = none) (hq : kdOf P o.op = .quiet) {v : PV} {a : H}
    (hx : execV P (opnd tm) (base + i) o.op h = some (v, a)) : ∃ a', execV P (opnd tm) (base + i) o.op (h.put id ob) = some (v, a') :=
  ⟨_, (quiet_execV (P := P) (ev := opnd tm) (id := base + i) hq _ _ _ hx).2 _ fun b o' _ hb => HLe.put hg b o' hb⟩
theorem chk_le {i : Nat} {o : Oper} {tm : T PV} {h : H} {sn sn' : List (Nat × H)} (hle : SnLe sn sn') (hk : chk P ops base ms i o tm h sn = true) : chk P ops base ms i o tm h sn' = true := by
  unfold chk at hk ⊢
  cases hkd : kdOf P o.op with
  | birth => rfl
  | eff => rfl
  | quiet =>
    rw [hkd] at hk
    simp only at hk ⊢
    cases ht : touch (opnd tm) o.op with
    | none => rfl
    | some b =>
      rw [ht] at hk
      simp only [Bool.and_eq_true] at hk ⊢
      exact ⟨hk.1, snapOk_le hkd hle hk.2⟩
theorem mono_runC (hc : ∀ f l, Mono none (call f l)) : ∀ (is : List Nat) {tm : T PV} {h : H} {sn : List (Nat × H)} {tm' : T PV} {h' : H},
    runC P call nt ops base ms is tm h sn = some (tm', h') → base ≤ h.next →
    h.next ≤ h'.next ∧ ∀ id ob sn', id < base → h.get id = none → SnLe sn sn' → runC P call nt ops base ms is tm (h.put id ob) sn' = some (tm', h'.put id ob) ∧ h'.get id = none
  | [], tm, h, sn, tm', h', e, _ => by
    simp only [runC, Option.some.injEq, Prod.mk.injEq] at e ⊢
    obtain ⟨rfl, rfl⟩ := e
    exact ⟨Nat.le_refl _, fun id ob _ _ hg _ => ⟨⟨rfl, rfl⟩, hg⟩⟩
  | i :: is, tm, h, sn, tm', h', e, hb => by
    cases ho : ops[i]? with
    | none => simp only [runC, ho] at e; simp at e
    | some o =>
      obtain ⟨hck, t1, h1, hs, e1⟩ := runC_cons ho e
      have ⟨n1, p1⟩ := mono_opStep hc i o tm h t1 h1 hs
      have ⟨n2, p2⟩ := mono_runC hc is e1 (Nat.le_trans hb n1)
      refine ⟨Nat.le_trans n1 n2, fun id ob sn' hi hg hle => ?_⟩
      have ⟨q1, g1⟩ := p1 id ob (Nat.lt_of_lt_of_le hi hb) (by omega) hg
      have hle' : SnLe (snapAdd P ops i o tm h sn) (snapAdd P ops i o tm (h.put id ob) sn') := by
        unfold snapAdd
        cases (kdOf P o.op).isEff && wantV ops tm o with
        | false => exact hle
        | true => exact .cons (HLe.put hg) hle
      have ⟨q2, g2⟩ := p2 id ob _ hi g1 hle'
      refine ⟨runC_mk ho ?_ q1 q2, g2⟩
      simp only [Bool.or_eq_true] at hck ⊢
      exact hck.imp (fun x => x) fun hk => chk_congr (tm := tm) (fun _ _ => rfl) (fun hq v a hx => quiet_put hg hq hx) (chk_le hle hk)

theorem mono_regionV (hc : ∀ f l, Mono none (call f l)) (draw : Bool) (tm : T PV) {h : H} {tm' : T PV} {h' : H} (e : regionV P call nt ops draw tm h = some (tm', h')) :
    h.next ≤ h'.next ∧ ∀ id ob, id < h.next → h.get id = none → regionV P call nt ops draw tm (h.put id ob) = some (tm', h'.put id ob) ∧ h'.get id = none := by
  unfold regionV at e ⊢
  cases draw with
  | false =>
    simp only [cond_false] at e ⊢
    have ⟨n, p⟩ := mono_runT hc _ _ _ ⟨h.next + ops.size, h.tab⟩ _ _ e (by simp)
    refine ⟨Nat.le_trans (by simp) n, fun id ob hi hg => p id ob hi hg⟩
  | true =>
    simp only [cond_true] at e ⊢
    cases hk : okR P ops (masks ops) (canon P ops.toList (masks ops) ops.size (List.range ops.size)) with
    | false => rw [hk] at e; simp at e
    | true =>
      rw [hk] at e
      simp only [cond_true] at e ⊢
      have ⟨n, p⟩ := mono_runC hc _ e (by simp)
      refine ⟨Nat.le_trans (by simp) n, fun id ob hi hg => p id ob [] hi hg .nil⟩

/-- the same of code -/
def MonoC (m : T PV → H → Option (PX × T PV × H)) : Prop :=
  ∀ tm h x tm' h', m tm h = some (x, tm', h') → h.next ≤ h'.next ∧ ∀ id ob, id < h.next → h.get id = none → m tm (h.put id ob) = some (x, tm', h'.put id ob) ∧ h'.get id = none
theorem mono_loopV {body : T PV → H → Option (PX × T PV × H)} (hb : MonoC body) : ∀ n, MonoC (loopV body n)
  | 0 => fun _ _ _ _ _ e => by simp [loopV] at e
  | n + 1 => by
    intro tm h x tm' h' e
    simp only [loopV] at e ⊢
    cases hs : body tm h with
    | none => rw [hs] at e; simp at e
    | some r =>
      obtain ⟨x1, t1, h1⟩ := r
      rw [hs] at e
      have ⟨n1, p1⟩ := hb _ _ _ _ _ hs
      cases x1 with
      | nm =>
        simp only at e
        have ⟨n2, p2⟩ := mono_loopV hb n _ _ _ _ _ e
        refine ⟨Nat.le_trans n1 n2, fun id ob hi hg => ?_⟩
        have ⟨q1, g1⟩ := p1 id ob hi hg
        have ⟨q2, g2⟩ := p2 id ob (Nat.lt_of_lt_of_le hi n1) g1
        refine ⟨?_, g2⟩
        rw [q1]; exact q2
      | ex j =>
        simp only [Option.some.injEq, Prod.mk.injEq] at e
        obtain ⟨rfl, rfl, rfl⟩ := e
        refine ⟨n1, fun id ob hi hg => ?_⟩
        have ⟨q1, g1⟩ := p1 id ob hi hg
        refine ⟨?_, g1⟩
        rw [q1]
      | rt =>
        simp only [Option.some.injEq, Prod.mk.injEq] at e
        obtain ⟨rfl, rfl, rfl⟩ := e
        refine ⟨n1, fun id ob hi hg => ?_⟩
        have ⟨q1, g1⟩ := p1 id ob hi hg
        refine ⟨?_, g1⟩
        rw [q1]
theorem mono_codeV (hc : ∀ f l, Mono none (call f l)) (F : Nat) : ∀ c : Code, MonoC (codeV P call nt F c) := by
  intro c
  induction c with
  | skip =>
    intro tm h x tm' h' e
    simp only [codeV, Option.some.injEq, Prod.mk.injEq] at e ⊢
    obtain ⟨rfl, rfl, rfl⟩ := e
    exact ⟨Nat.le_refl _, fun id ob _ hg => ⟨⟨rfl, rfl, rfl⟩, hg⟩⟩
  | label l =>
    intro tm h x tm' h' e
    simp only [codeV, Option.some.injEq, Prod.mk.injEq] at e ⊢
    obtain ⟨rfl, rfl, rfl⟩ := e
    exact ⟨Nat.le_refl _, fun id ob _ hg => ⟨⟨rfl, rfl, rfl⟩, hg⟩⟩
  | exit id =>
    intro tm h x tm' h' e
    simp only [codeV, Option.some.injEq, Prod.mk.injEq] at e ⊢
    obtain ⟨rfl, rfl, rfl⟩ := e
    exact ⟨Nat.le_refl _, fun id ob _ hg => ⟨⟨rfl, rfl, rfl⟩, hg⟩⟩
  | ret =>
    intro tm h x tm' h' e
    simp only [codeV, Option.some.injEq, Prod.mk.injEq] at e ⊢
    obtain ⟨rfl, rfl, rfl⟩ := e
    exact ⟨Nat.le_refl _, fun id ob _ hg => ⟨⟨rfl, rfl, rfl⟩, hg⟩⟩
  | goto l => intro tm h x tm' h' e; simp [codeV] at e
  | refuse w => intro tm h x tm' h' e; simp [codeV] at e
  | rangeFunc f ps a b _ _ => intro tm h x tm' h' e; simp [codeV] at e
  | scope c ih => intro tm h x tm' h' e; simp only [codeV] at e ⊢; exact ih _ _ _ _ _ e
  | loop c ih => intro tm h x tm' h' e; simp only [codeV] at e ⊢; exact mono_loopV ih F _ _ _ _ _ e
  | region id ops draw =>
    intro tm h x tm' h' e
    simp only [codeV] at e ⊢
    cases hs : regionV P call nt ops draw tm h with
    | none => rw [hs] at e; simp at e
    | some r =>
      obtain ⟨t1, h1⟩ := r
      rw [hs] at e
      simp only [Option.some.injEq, Prod.mk.injEq] at e
      obtain ⟨rfl, rfl, rfl⟩ := e
      have ⟨n1, p1⟩ := mono_regionV hc draw tm hs
      refine ⟨n1, fun id ob hi hg => ?_⟩
      have ⟨q1, g1⟩ := p1 id ob hi hg
      refine ⟨?_, g1⟩
      rw [q1]
  | cond c a b iha ihb =>
    intro tm h x tm' h' e
    simp only [codeV] at e ⊢
    cases hv : opnd tm c with
    | none => rw [hv] at e; simp at e
    | some v =>
      rw [hv] at e
      cases v
      case b y =>
        cases y
        · exact ihb _ _ _ _ _ e
        · exact iha _ _ _ _ _ e
      all_goals simp at e
  | seq a b iha ihb =>
    intro tm h x tm' h' e
    simp only [codeV] at e ⊢
    cases hs : codeV P call nt F a tm h with
    | none => rw [hs] at e; simp at e
    | some r =>
      obtain ⟨x1, t1, h1⟩ := r
      rw [hs] at e
      have ⟨n1, p1⟩ := iha _ _ _ _ _ hs
      cases x1 with
      | nm =>
        simp only at e
        have ⟨n2, p2⟩ := ihb _ _ _ _ _ e
        refine ⟨Nat.le_trans n1 n2, fun id ob hi hg => ?_⟩
        have ⟨q1, g1⟩ := p1 id ob hi hg
        have ⟨q2, g2⟩ := p2 id ob (Nat.lt_of_lt_of_le hi n1) g1
        refine ⟨?_, g2⟩
        rw [q1]; exact q2
      | ex j =>
        simp only [Option.some.injEq, Prod.mk.injEq] at e
        obtain ⟨rfl, rfl, rfl⟩ := e
        refine ⟨n1, fun id ob hi hg => ?_⟩
        have ⟨q1, g1⟩ := p1 id ob hi hg
        refine ⟨?_, g1⟩
        rw [q1]
      | rt =>
        simp only [Option.some.injEq, Prod.mk.injEq] at e
        obtain ⟨rfl, rfl, rfl⟩ := e
        refine ⟨n1, fun id ob hi hg => ?_⟩
        have ⟨q1, g1⟩ := p1 id ob hi hg
        refine ⟨?_, g1⟩
        rw [q1]
  | block i c ih =>
    intro tm h x tm' h' e
    simp only [codeV] at e ⊢
    cases hs : codeV P call nt F c tm h with
    | none => rw [hs] at e; simp at e
    | some r =>
      obtain ⟨x1, t1, h1⟩ := r
      rw [hs] at e
      have ⟨n1, p1⟩ := ih _ _ _ _ _ hs
      cases x1 with
      | nm =>
        simp only [Option.some.injEq, Prod.mk.injEq] at e
        obtain ⟨rfl, rfl, rfl⟩ := e
        refine ⟨n1, fun id ob hi hg => ?_⟩
        have ⟨q1, g1⟩ := p1 id ob hi hg
        refine ⟨?_, g1⟩
        rw [q1]
      | ex j =>
        simp only at e
        cases hj : Nat.beq j i with
        | true =>
          rw [hj] at e
          simp only [cond_true, Option.some.injEq, Prod.mk.injEq] at e
          obtain ⟨rfl, rfl, rfl⟩ := e
          refine ⟨n1, fun id ob hi hg => ?_⟩
          have ⟨q1, g1⟩ := p1 id ob hi hg
          refine ⟨?_, g1⟩
          rw [q1]; simp only [hj, cond_true]
        | false =>
          rw [hj] at e
          simp only [cond_false, Option.some.injEq, Prod.mk.injEq] at e
          obtain ⟨rfl, rfl, rfl⟩ := e
          refine ⟨n1, fun id ob hi hg => ?_⟩
          have ⟨q1, g1⟩ := p1 id ob hi hg
          refine ⟨?_, g1⟩
          rw [q1]; simp only [hj, cond_false]
      | rt =>
        simp only [Option.some.injEq, Prod.mk.injEq] at e
        obtain ⟨rfl, rfl, rfl⟩ := e
        refine ⟨n1, fun id ob hi hg => ?_⟩
        have ⟨q1, g1⟩ := p1 id ob hi hg
        refine ⟨?_, g1⟩
        rw [q1]
theorem mono_bodyV (hc : ∀ f l, Mono none (call f l)) (F : Nat) (fn : Func) (args : List PV) : Mono none (bodyV P call F fn args) := by
  intro h v h' e
  unfold bodyV at e ⊢
  cases hb : fn.body with
  | none => rw [hb] at e; simp at e
  | some c =>
    rw [hb] at e
    simp only at e ⊢
    cases hs : codeV P call (max fn.ntmps args.length) F c (args_ args 0 .e) h with
    | none => rw [hs] at e; simp at e
    | some r =>
      obtain ⟨x1, t1, h1⟩ := r
      rw [hs] at e
      have ⟨n1, p1⟩ := mono_codeV hc F c _ _ _ _ _ hs
      have hx : ∀ j, x1 ≠ .ex j := fun j hj => by rw [hj] at e; simp at e
      have e' : (match resV P t1 fn.results.toList h1 with
        | some (l, h'') => some (one_ l, h'')
        | none => none) = some (v, h') := by cases x1 <;> first | exact e | exact absurd rfl (hx _)
      cases hr : resV P t1 fn.results.toList h1 with
      | none => rw [hr] at e'; simp at e'
      | some r2 =>
        obtain ⟨l, h2⟩ := r2
        rw [hr] at e'
        simp only [Option.some.injEq, Prod.mk.injEq] at e'
        obtain ⟨rfl, rfl⟩ := e'
        have ⟨n2, p2⟩ := mono_resV (P := P) (own := none) t1 fn.results.toList _ _ _ hr
        refine ⟨Nat.le_trans n1 n2, fun id ob hi hne hg => ?_⟩
        have ⟨q1, g1⟩ := p1 id ob hi hg
        have ⟨q2, g2⟩ := p2 id ob (Nat.lt_of_lt_of_le hi n1) hne g1
        refine ⟨?_, g2⟩
        rw [q1]
        cases x1 <;> first | exact absurd rfl (hx _) | (simp only [q2])
theorem mono_callV {ov : FuncId → List PV → HM PV} (ho : ∀ f l, Mono none (ov f l)) (hn : ∀ f l h id ob, ov f l h = none → id < h.next → h.get id = none → ov f l (h.put id ob) = none) (F : Nat) :
    ∀ n f l, Mono none (callV P ov F n f l)
  | 0, _, _ => fun _ _ _ e => by simp [callV] at e
  | n + 1, f, l => by
    intro h v h' e
    simp only [callV] at e ⊢
    cases hov : ov f l h with
    | some r =>
      rw [hov] at e
      simp only [Option.some.injEq] at e
      subst e
      have ⟨n1, p1⟩ := ho f l _ _ _ hov
      refine ⟨n1, fun id ob hi hne hg => ?_⟩
      have ⟨q1, g1⟩ := p1 id ob hi hne hg
      refine ⟨?_, g1⟩
      rw [q1]
    | none =>
      rw [hov] at e
      simp only at e
      cases hf : P.funcs[f]? with
      | none => rw [hf] at e; simp at e
      | some fn =>
        rw [hf] at e
        simp only at e
        have ⟨n1, p1⟩ := mono_bodyV (mono_callV ho hn F n) F fn l _ _ _ e
        refine ⟨n1, fun id ob hi hne hg => ?_⟩
        have ⟨q1, g1⟩ := p1 id ob hi hne hg
        refine ⟨?_, g1⟩
        rw [hn f l h id ob hov hi hg]
        simp only [q1]
end
end Go.Pe
