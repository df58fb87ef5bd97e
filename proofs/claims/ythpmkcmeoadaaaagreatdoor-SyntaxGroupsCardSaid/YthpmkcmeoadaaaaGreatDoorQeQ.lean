/- What looks at one block alone; what makes its own block alone. -/
import Derived.Test.YthpmkcmeoadaaaaGreatDoorQeN
namespace Go.Pe
open HM

def Quiet {α : Type} (t : Option Nat) (m : HM α) : Prop :=
  ∀ h a h', m h = some (a, h') → h' = h ∧ ∀ h2 : H, (∀ b o, t = some b → h.get b = some o → h2.get b = some o) → m h2 = some (a, h2)
def Birth {α : Type} (id : Nat) (m : HM α) : Prop :=
  ∀ h a h', m h = some (a, h') → h.get id = none ∧ ∃ o, h' = h.put id o ∧ ∀ h2 : H, h2.get id = none → m h2 = some (a, h2.put id o)
section
variable {α β : Type} {t : Option Nat} {id : Nat}
theorem Quiet.ret (a : α) : Quiet t (HM.ret a) := by
  intro h a' h' e
  simp only [HM.ret, Option.some.injEq, Prod.mk.injEq] at e
  obtain ⟨rfl, rfl⟩ := e
  exact ⟨rfl, fun _ _ => rfl⟩
theorem Quiet.no : Quiet t (HM.no : HM α) := fun _ _ _ e => by simp [HM.no] at e
theorem Quiet.ofO (x : Option α) : Quiet t (HM.ofO x) := by
  cases x with
  | none => exact Quiet.no
  | some a => exact Quiet.ret a
theorem Quiet.bnd {m : HM α} {f : α → HM β} (hm : Quiet t m) (hf : ∀ a, Quiet t (f a)) : Quiet t (HM.bnd m f) := by
  intro h b h2 e
  simp only [HM.bnd] at e
  cases hmh : m h with
  | none => rw [hmh] at e; simp at e
  | some r =>
    obtain ⟨a, h1⟩ := r
    rw [hmh] at e
    have ⟨n1, p1⟩ := hm _ _ _ hmh
    subst n1
    have ⟨n2, p2⟩ := hf a _ _ _ e
    refine ⟨n2, fun h3 hg => ?_⟩
    simp only [HM.bnd, p1 h3 hg, p2 h3 hg]
theorem Quiet.rd (b : Nat) (hb : t = some b) : Quiet t (HM.rd b) := by
  intro h a h' e
  simp only [HM.rd] at e
  cases hg : h.get b with
  | none => rw [hg] at e; simp at e
  | some o' =>
    rw [hg] at e
    simp only [Option.some.injEq, Prod.mk.injEq] at e
    obtain ⟨rfl, rfl⟩ := e
    refine ⟨rfl, fun h2 hg2 => ?_⟩
    simp only [HM.rd, hg2 b _ hb hg]
theorem Quiet.cond {c : Bool} {x y : HM α} (hx : Quiet t x) (hy : Quiet t y) : Quiet t (bif c then x else y) := by cases c <;> assumption
theorem Birth.no : Birth id (HM.no : HM α) := fun _ _ _ e => by simp [HM.no] at e
theorem Birth.newret (o : PO) (a : α) : Birth id (HM.bnd (HM.new id o) fun _ => HM.ret a) := by
  intro h a' h' e
  simp only [HM.bnd, HM.new] at e
  cases hg : h.get id with
  | some o' => rw [hg] at e; simp at e
  | none =>
    rw [hg] at e
    simp only [HM.ret, Option.some.injEq, Prod.mk.injEq] at e
    obtain ⟨rfl, rfl⟩ := e
    refine ⟨rfl, o, rfl, fun h2 hg2 => ?_⟩
    simp only [HM.bnd, HM.new, hg2, HM.ret]
theorem Birth.bnd {m : HM α} {f : α → HM β} (hm : Quiet none m) (hf : ∀ a, Birth id (f a)) : Birth id (HM.bnd m f) := by
  intro h b h2 e
  simp only [HM.bnd] at e
  cases hmh : m h with
  | none => rw [hmh] at e; simp at e
  | some r =>
    obtain ⟨a, h1⟩ := r
    rw [hmh] at e
    have ⟨n1, p1⟩ := hm _ _ _ hmh
    subst n1
    obtain ⟨n2, o, rfl, p2⟩ := hf a _ _ _ e
    refine ⟨n2, o, rfl, fun h3 hg => ?_⟩
    simp only [HM.bnd, p1 h3 (by simp), p2 h3 hg]
theorem Birth.cond {c : Bool} {x y : HM α} (hx : Birth id x) (hy : Birth id y) : Birth id (bif c then x else y) := by cases c <;> assumption
end

section
variable {P : Program} {ev : Operand → Option PV} {id : Nat}
theorem quiet_rdCells (b o n : Nat) : Quiet (some b) (rdCells b o n) := by
  unfold rdCells
  refine Quiet.bnd (Quiet.rd _ rfl) fun a => ?_
  cases a <;> first | exact Quiet.ofO _ | exact Quiet.no
theorem quiet_ofO_bnd {α β : Type} {t : Option Nat} {x : Option α} {f : α → HM β} (h : ∀ a, x = some a → Quiet t (f a)) : Quiet t (HM.bnd (HM.ofO x) f) := by
  cases x with
  | none => exact Quiet.no
  | some a => exact h a rfl
theorem Quiet.any {α : Type} {t : Option Nat} {m : HM α} (h : Quiet none m) : Quiet t m :=
  fun a b c e => ⟨(h a b c e).1, fun h2 _ => (h a b c e).2 h2 (by simp)⟩
theorem quiet_ldT (t : TypeId) (v : PV) : Quiet (tP v) (ldT P t v) := by
  unfold ldT
  cases v
  case p b o =>
    simp only
    repeat' first
      | exact Quiet.no
      | exact Quiet.ret _
      | exact quiet_rdCells _ _ _
      | refine Quiet.bnd ?_ fun _ => ?_
      | split
  case fp z es i o =>
    simp only
    repeat' first
      | exact Quiet.no
      | exact Quiet.ret _
      | exact Quiet.ofO _
      | refine Quiet.bnd ?_ fun _ => ?_
      | split
  all_goals exact Quiet.no
theorem quiet_lookupV (t : TypeId) (x k : PV) (ok : Bool) : Quiet (tM x) (lookupV P t x k ok) := by
  unfold lookupV
  split
  · refine Quiet.cond (Quiet.bnd ?_ fun es => ?_) Quiet.no
    · split
      · exact Quiet.ret _
      · refine Quiet.bnd (Quiet.rd _ rfl) fun a => ?_
        cases a <;> first | exact Quiet.no | exact Quiet.ret _
      · exact Quiet.no
    · split
      · exact Quiet.ret _
      · split <;> first | exact Quiet.no | exact Quiet.ret _
      · exact Quiet.no
  · exact Quiet.no
theorem quiet_lenV (t : TypeId) (x : PV) : Quiet (tM x) (lenV P t x) := by
  unfold lenV
  split <;> first
    | exact Quiet.no
    | exact Quiet.ret _
    | (refine Quiet.bnd (Quiet.rd _ rfl) fun a => ?_
       cases a <;> first | exact Quiet.no | exact Quiet.ret _)
theorem quiet_convV (s d : TypeId) (x : PV) (hd : ∀ e, P.underlying d ≠ some (.slice e)) : Quiet (tS x) (convV P s d id x) := by
  unfold convV
  split
  · exact Quiet.ret _
  · exact Quiet.ret _
  · rename_i e _ _ h; exact absurd h (hd e)
  · split
    · split
      · refine Quiet.cond (Quiet.ret _) (Quiet.cond (Quiet.bnd (quiet_rdCells _ _ _) fun l => ?_) Quiet.no)
        split <;> first | exact Quiet.no | exact Quiet.ret _
      · refine Quiet.cond (Quiet.ret _) (Quiet.cond ?_ Quiet.no)
        split <;> first | exact Quiet.no | exact Quiet.ret _
      · exact Quiet.no
    · exact Quiet.no
  · exact Quiet.no
theorem birth_convV (s d : TypeId) (x : PV) (e : TypeId) (hd : P.underlying d = some (.slice e)) : Birth id (convV P s d id x) := by
  unfold convV
  rw [hd]
  split
  · rename_i h; simp at h
  · rename_i h; simp at h
  · rename_i h
    split
    · exact Birth.cond Birth.no (Birth.newret _ _)
    · exact Birth.no
  · rename_i h _; simp at h
  · exact Birth.no

theorem quiet_execV {op : Op} (hk : kdOf P op = .quiet) : Quiet (touch ev op) (execV P ev id op) := by
  cases op
  case load t a =>
    simp only [execV, touch]
    refine quiet_ofO_bnd fun v hv => ?_
    rw [hv]
    exact quiet_ldT _ _
  case lookup t x k ok =>
    simp only [execV, touch]
    refine quiet_ofO_bnd fun v hv => ?_
    rw [hv]
    refine quiet_ofO_bnd fun u _ => ?_
    exact quiet_lookupV _ _ _ _
  case convert s d x =>
    have hd : ∀ e, P.underlying d ≠ some (.slice e) := fun e he => by
      simp [kdOf, he] at hk
    simp only [execV, touch]
    refine quiet_ofO_bnd fun v hv => ?_
    rw [hv]
    exact quiet_convV _ _ _ hd
  case call c =>
    obtain ⟨cal, args, ts⟩ := c
    cases cal
    case builtin b =>
      cases b
      case len =>
        simp only [execV, touch]
        refine quiet_ofO_bnd fun l hl => ?_
        cases ha : args.toList with
        | nil =>
          rw [ha] at hl
          simp only [mapO, Option.some.injEq] at hl
          subst hl
          exact Quiet.no
        | cons x xs =>
          rw [ha] at hl
          simp only [mapO] at hl
          cases hx : ev x with
          | none => rw [hx] at hl; simp at hl
          | some v =>
            rw [hx] at hl
            simp only at hl
            cases hy : mapO ev xs with
            | none => rw [hy] at hl; simp at hl
            | some ys =>
              rw [hy] at hl
              simp only [Option.some.injEq] at hl
              subst hl
              simp only [hx]
              unfold builtinV
              cases ys with
              | cons y ys => exact Quiet.no
              | nil =>
                cases hts : ts.toList with
                | nil => exact Quiet.no
                | cons t0 t1 => cases t1 with
                  | nil => exact quiet_lenV _ _
                  | cons _ _ => exact Quiet.no
      all_goals first
        | (simp [kdOf] at hk; done)
        | (simp only [execV, touch]
           refine quiet_ofO_bnd fun l hl => ?_
           unfold builtinV
           repeat' first
             | contradiction
             | exact Quiet.no
             | exact Quiet.ofO _
             | split)
    all_goals (simp [kdOf] at hk)
  all_goals first
    | (simp [kdOf] at hk; done)
    | (simp only [execV, touch]
       repeat' first
         | contradiction
         | exact Quiet.no
         | exact Quiet.ret _
         | exact Quiet.ofO _
         | refine Quiet.cond ?_ ?_
         | refine Quiet.bnd ?_ fun _ => ?_
         | split)
theorem birth_execV {op : Op} (hk : kdOf P op = .birth) : Birth id (execV P ev id op) := by
  cases op
  case convert s d x =>
    simp only [kdOf] at hk
    split at hk
    · rename_i e he
      simp only [execV]
      exact Birth.bnd (Quiet.ofO _) fun v => birth_convV _ _ _ e he
    · simp at hk
  case call c =>
    obtain ⟨cal, args, ts⟩ := c
    cases cal
    case builtin b => cases b <;> simp [kdOf] at hk
    all_goals (simp [kdOf] at hk)
  all_goals first
    | (simp [kdOf] at hk; done)
    | (unfold execV
       repeat' first
         | contradiction
         | exact Birth.no
         | exact Birth.newret _ _
         | refine Birth.cond ?_ ?_
         | refine Birth.bnd (Quiet.ofO _) fun _ => ?_
         | split)
end
end Go.Pe
