/- Each operation, each region, each piece of code and each call commutes with a block that is laid ahead. -/
import Derived.Test.YthpmkcmeoadaaaaGreatDoorQeM
namespace Go.Pe
open HM

section
variable {own : Option Nat} {P : Program}
theorem mono_rdCells (b o n : Nat) : Mono own (rdCells b o n) := by
  unfold rdCells
  refine Mono.bnd (Mono.rd _) fun a => ?_
  cases a <;> first | exact Mono.ofO _ | exact Mono.no
theorem mono_wrCells (b o : Nat) (vs : List PV) : Mono own (wrCells b o vs) := by
  unfold wrCells
  refine Mono.bnd (Mono.rd _) fun a => ?_
  split
  · exact Mono.cond (Mono.bnd (Mono.ofO _) fun _ => Mono.wr _ _) Mono.no
  · exact Mono.no
theorem mono_ldT (t : TypeId) (v : PV) : Mono own (ldT P t v) := by
  unfold ldT
  repeat' first
    | exact Mono.no
    | exact Mono.ret _
    | exact Mono.ofO _
    | exact mono_rdCells _ _ _
    | refine Mono.bnd ?_ fun _ => ?_
    | split
theorem mono_stT (t : TypeId) (a v : PV) : Mono own (stT P t a v) := by
  unfold stT
  repeat' first
    | exact Mono.no
    | exact Mono.ret _
    | exact mono_wrCells _ _ _
    | refine Mono.cond ?_ ?_
    | refine Mono.bnd ?_ fun _ => ?_
    | split
theorem mono_newCells (z : Nat) (v : PV) : Mono own (newCells z v) := by
  unfold newCells
  repeat' first
    | exact Mono.no
    | exact Mono.ret _
    | exact mono_rdCells _ _ _
    | refine Mono.cond ?_ ?_
    | refine Mono.bnd ?_ fun _ => ?_
    | split
theorem mono_appendV (t : TypeId) (id : Nat) (s x : PV) : Mono (some id) (appendV P t id s x) := by
  unfold appendV
  repeat' first
    | exact Mono.no
    | exact Mono.ret _
    | exact Mono.ofO _
    | exact Mono.rd _
    | exact Mono.kill _
    | exact Mono.new _ _ rfl
    | exact mono_newCells _ _
    | refine Mono.cond ?_ ?_
    | refine Mono.bnd ?_ fun _ => ?_
    | split
theorem mono_copyV (t : TypeId) (d x : PV) : Mono own (copyV P t d x) := by
  unfold copyV
  repeat' first
    | exact Mono.no
    | exact Mono.ret _
    | exact mono_rdCells _ _ _
    | exact mono_wrCells _ _ _
    | refine Mono.cond ?_ ?_
    | refine Mono.bnd ?_ fun _ => ?_
    | split
theorem mono_lenV (t : TypeId) (x : PV) : Mono own (lenV P t x) := by
  unfold lenV
  repeat' first
    | exact Mono.no
    | exact Mono.ret _
    | exact Mono.rd _
    | refine Mono.cond ?_ ?_
    | refine Mono.bnd ?_ fun _ => ?_
    | split
theorem mono_lookupV (t : TypeId) (x k : PV) (ok : Bool) : Mono own (lookupV P t x k ok) := by
  unfold lookupV
  repeat' first
    | exact Mono.no
    | exact Mono.ret _
    | exact Mono.rd _
    | refine Mono.cond ?_ ?_
    | refine Mono.bnd ?_ fun _ => ?_
    | split
theorem mono_updateV (t : TypeId) (x k v : PV) : Mono own (updateV P t x k v) := by
  unfold updateV
  repeat' first
    | exact Mono.no
    | exact Mono.ret _
    | exact Mono.ofO _
    | exact Mono.rd _
    | exact Mono.wr _ _
    | refine Mono.cond ?_ ?_
    | refine Mono.bnd ?_ fun _ => ?_
    | split
theorem mono_deleteV (t : TypeId) (x k : PV) : Mono own (deleteV P t x k) := by
  unfold deleteV
  repeat' first
    | exact Mono.no
    | exact Mono.ret _
    | exact Mono.ofO _
    | exact Mono.rd _
    | exact Mono.wr _ _
    | refine Mono.cond ?_ ?_
    | refine Mono.bnd ?_ fun _ => ?_
    | split
theorem mono_convV (s d : TypeId) (id : Nat) (x : PV) : Mono (some id) (convV P s d id x) := by
  unfold convV
  repeat' first
    | exact Mono.no
    | exact Mono.ret _
    | exact mono_rdCells _ _ _
    | exact Mono.new _ _ rfl
    | refine Mono.cond ?_ ?_
    | refine Mono.bnd ?_ fun _ => ?_
    | split
theorem mono_builtinV (b : Builtin) (ts : List TypeId) (id : Nat) (args : List PV) : Mono (some id) (builtinV P b ts id args) := by
  unfold builtinV
  repeat' first
    | exact Mono.no
    | exact Mono.ofO _
    | exact mono_lenV _ _
    | exact mono_appendV _ _ _ _
    | exact mono_copyV _ _ _
    | exact mono_deleteV _ _ _
    | split
theorem mono_execV (ev : Operand → Option PV) (id : Nat) (op : Op) : Mono (some id) (execV P ev id op) := by
  unfold execV
  split
  all_goals
    repeat' first
      | exact Mono.no
      | exact Mono.ret _
      | exact Mono.ofO _
      | exact Mono.new _ _ rfl
      | exact mono_ldT _ _
      | exact mono_stT _ _ _
      | exact mono_convV _ _ _ _
      | exact mono_lookupV _ _ _ _
      | exact mono_updateV _ _ _ _
      | exact mono_builtinV _ _ _ _
      | refine Mono.cond ?_ ?_
      | refine Mono.bnd ?_ fun _ => ?_
      | split
theorem Mono.weaken {α : Type} {m : HM α} (h : Mono none m) : Mono own m :=
  fun a b c e => ⟨(h a b c e).1, fun id o hi _ hg => (h a b c e).2 id o hi (by simp) hg⟩
variable {call : FuncId → List PV → HM PV}
theorem mono_execC (hc : ∀ f l, Mono none (call f l)) (ev : Operand → Option PV) (id : Nat) (op : Op) : Mono (some id) (execC P call ev id op) := by
  unfold execC
  split
  · refine Mono.bnd (Mono.ofO _) fun _ => ?_
    split
    · exact Mono.bnd (Mono.ofO _) fun _ => (hc _ _).weaken
    · exact Mono.no
  · exact mono_execV _ _ _
theorem mono_resV (tm : T PV) (rs : List ResultVar) : Mono own (resV P tm rs) := by
  induction rs with
  | nil => exact Mono.ret _
  | cons r rs ih =>
    cases r
    · exact Mono.bnd ih fun _ => Mono.ret _
    · exact Mono.bnd (mono_ldT _ _) fun _ => Mono.bnd ih fun _ => Mono.ret _

/-- the same of what has the frame's slots beside the heap: 'lim' bounds the blocks of which it speaks -/
def MonoS {σ : Type} (lim : Nat) (m : H → Option (σ × H)) : Prop :=
  ∀ h a h', m h = some (a, h') → lim ≤ h.next → h.next ≤ h'.next ∧ ∀ id o, id < lim → h.get id = none → m (h.put id o) = some (a, h'.put id o) ∧ h'.get id = none
variable {nt : Nat} {ops : Array Oper} {base : Nat}
theorem mono_opVal (hc : ∀ f l, Mono none (call f l)) (i : Nat) (o : Oper) (tm : T PV) : Mono (some (base + i)) (opVal P call ops base i o tm) := by
  intro h v h' e
  unfold opVal at e ⊢
  cases hw : wantV ops tm o with
  | false =>
    rw [hw] at e
    simp only [cond_false, Option.some.injEq, Prod.mk.injEq] at e ⊢
    obtain ⟨rfl, rfl⟩ := e
    exact ⟨Nat.le_refl _, fun id ob _ _ hg => ⟨⟨rfl, rfl⟩, hg⟩⟩
  | true =>
    rw [hw] at e
    simp only [cond_true] at e ⊢
    exact mono_execC hc (opnd tm) (base + i) o.op _ _ _ e
theorem opStep_some {i : Nat} {o : Oper} {tm : T PV} {h : H} {tm' : T PV} {h' : H} (e : opStep P call nt ops base i o tm h = some (tm', h')) :
    ∃ v, opVal P call ops base i o tm h = some (v, h') ∧ putT nt tm o.dst v = some tm' := by
  unfold opStep at e
  cases hx : opVal P call ops base i o tm h with
  | none => rw [hx] at e; simp at e
  | some r =>
    obtain ⟨v, h1⟩ := r
    rw [hx] at e
    simp only at e
    cases hp : putT nt tm o.dst v with
    | none => rw [hp] at e; simp at e
    | some t1 =>
      rw [hp] at e
      simp only [Option.some.injEq, Prod.mk.injEq] at e
      obtain ⟨rfl, rfl⟩ := e
      exact ⟨v, rfl, hp⟩
theorem opStep_mk {i : Nat} {o : Oper} {tm : T PV} {h : H} {tm' : T PV} {h' : H} {v : PV} (e : opVal P call ops base i o tm h = some (v, h')) (hp : putT nt tm o.dst v = some tm') :
    opStep P call nt ops base i o tm h = some (tm', h') := by
  unfold opStep
  rw [e]; simp only [hp]
theorem mono_opStep (hc : ∀ f l, Mono none (call f l)) (i : Nat) (o : Oper) (tm : T PV) (h : H) (tm' : T PV) (h' : H)
    (e : opStep P call nt ops base i o tm h = some (tm', h')) :
    h.next ≤ h'.next ∧ ∀ id ob, id < h.next → id ≠ base + i → h.get id = none → opStep P call nt ops base i o tm (h.put id ob) = some (tm', h'.put id ob) ∧ h'.get id = none := by
  obtain ⟨v, hv, hp⟩ := opStep_some e
  have ⟨n1, p1⟩ := mono_opVal hc i o tm _ _ _ hv
  refine ⟨n1, fun id ob hi hne hg => ?_⟩
  have ⟨q1, g1⟩ := p1 id ob hi (by simpa using hne) hg
  exact ⟨opStep_mk q1 hp, g1⟩
theorem mono_runT (hc : ∀ f l, Mono none (call f l)) : ∀ (os : List Oper) (i : Nat) (tm : T PV) (h : H) (tm' : T PV) (h' : H),
    runT P call nt ops base os i tm h = some (tm', h') → base ≤ h.next →
    h.next ≤ h'.next ∧ ∀ id ob, id < base → h.get id = none → runT P call nt ops base os i tm (h.put id ob) = some (tm', h'.put id ob) ∧ h'.get id = none := by
  intro os
  induction os with
  | nil =>
    intro i tm h tm' h' e _
    simp only [runT, Option.some.injEq, Prod.mk.injEq] at e ⊢
    obtain ⟨rfl, rfl⟩ := e
    exact ⟨Nat.le_refl _, fun id ob _ hg => ⟨⟨rfl, rfl⟩, hg⟩⟩
  | cons o os ih =>
    intro i tm h tm' h' e hb
    simp only [runT] at e ⊢
    cases hs : opStep P call nt ops base i o tm h with
    | none => rw [hs] at e; simp at e
    | some r =>
      obtain ⟨t1, h1⟩ := r
      rw [hs] at e
      simp only at e
      have ⟨n1, p1⟩ := mono_opStep hc i o tm h t1 h1 hs
      have ⟨n2, p2⟩ := ih _ _ _ _ _ e (Nat.le_trans hb n1)
      refine ⟨Nat.le_trans n1 n2, fun id ob hi hg => ?_⟩
      have ⟨q1, g1⟩ := p1 id ob (Nat.lt_of_lt_of_le hi hb) (by omega) hg
      have ⟨q2, g2⟩ := p2 id ob hi g1
      refine ⟨?_, g2⟩
      rw [q1]; exact q2
end
end Go.Pe
