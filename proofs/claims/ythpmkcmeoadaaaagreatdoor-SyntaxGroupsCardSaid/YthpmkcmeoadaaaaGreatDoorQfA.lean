/- Values made free of the evaluation's blocks; a call that is given such values alone, and at most one block that is lent to it. -/
import Derived.Test.YthpmkcmeoadaaaaGreatDoorQeZh
namespace Go.Pe
open HM
variable {G : T PO}
set_option linter.unusedVariables false
set_option linter.unusedSimpArgs false

def mapH (f : PV → HM PV) : List PV → HM (List PV)
  | [] => ret []
  | x :: xs => bnd (f x) fun y => bnd (mapH f xs) fun ys => ret (y :: ys)
def rowsL (z : Nat) : Nat → List PV → List PV
  | 0, _ => []
  | k + 1, l => .agg (l.take z) :: rowsL z k (l.drop z)
def rows (z k : Nat) (l : List PV) : List PV := bif Nat.beq z 1 then l else rowsL z k l
/-- a block is given up for writing -/
def demote (b : Nat) : HM Unit := bnd (rd b) fun
  | .cells cs _ => wr b (.cells cs false)
  | .map _ => no
def frzM : Nat → PV → HM PV
  | 0, _ => no
  | n + 1, v => match v with
    | .sl b o k z _ => bif Nat.beq k 0 then ret (.fl false z []) else bnd (rd b) fun
      | .cells cs _ => bnd (ofO (takeX (k * z) (cs.drop o))) fun l => bnd (mapH (frzM n) l) fun l' => bnd (demote b) fun _ => ret (.fl false z (rows z k l'))
      | .map _ => no
    | .agg l => bnd (mapH (frzM n) l) fun l' => ret (.agg l')
    | .tup l => bnd (mapH (frzM n) l) fun l' => ret (.tup l')
    | .ifc t v => bnd (frzM n v) fun v' => ret (.ifc t v')
    | .fn f l => bnd (mapH (frzM n) l) fun l' => ret (.fn f l')
    | .p _ _ => no
    | .m _ => no
    | v => ret v
def frzArgs : List PV → HM (List PV × Option Nat)
  | [] => ret ([], none)
  | a :: as => match a with
    | .p b o => bif Nat.blt b 1024 then bnd (frzArgs as) fun r => ret (.p b o :: r.1, r.2)
      else bif Nat.beq o 0 then bnd (frzArgs as) fun r => match r.2 with
        | none => ret (.p 1024 0 :: r.1, some b)
        | some _ => no
      else no
    | a => bnd (frzM 1000 a) fun a' => bnd (frzArgs as) fun r => ret (a' :: r.1, r.2)
/-- the cells of a block, made free -/
def lendM (b : Nat) : HM (List PV) := bnd (rd b) fun
  | .cells cs _ => bnd (mapH (frzM 1000) cs) fun cs' => bnd (rd b) fun
    | .cells cs2 true => bif Nat.beq cs'.length cs2.length then ret cs' else no
    | _ => no
  | .map _ => no
def inner0 (G : T PO) (body : List PV → HM PV) (args : List PV) : Option PV := match body args ⟨1024, G⟩ with
  | some (v, h) => match frzM 1000 v h with
    | some (v', _) => some v'
    | none => none
  | none => none
def unlend (v : PV) : HM (PV × List PV) := bnd (frzM 1000 v) fun v' => bnd (lendM 1024) fun cs => ret (v', cs)
def inner1 (G : T PO) (body : List PV → HM PV) (args cs : List PV) : Option (PV × List PV) := match body args ⟨1025, G.set (.cells cs true) 1024⟩ with
  | some (v, h) => match unlend v h with
    | some (r, _) => some r
    | none => none
  | none => none
def sca1 : PV → Bool
  | .b _ | .i _ _ | .s _ => true
  | _ => false
def sca2 : PV → Bool
  | .b _ | .i _ _ | .s _ => true
  | .agg l => l.all sca1
  | _ => false
def scal : PV → Bool
  | .b _ | .i _ _ | .s _ => true
  | .agg l => l.all sca1
  | .tup l => l.all sca2
  | _ => false
def pureC (G : T PO) (body : List PV → HM PV) (args : List PV) : HM PV := fun h => match frzArgs args h with
  | none => none
  | some ((as, none), h1) => match inner0 G body as with
    | some v => some (v, bif scal v then h else h1)
    | none => none
  | some ((as, some b), h1) => match lendM b h1 with
    | none => none
    | some (cs, h2) => match inner1 G body as cs with
      | some (v, cs') => match wr b (.cells cs' true) h2 with
        | some (_, h3) => some (v, h3)
        | none => none
      | none => none

section
variable {own : Option Nat}
theorem mono_mapH {f : PV → HM PV} (hf : ∀ v, Mono own (f v)) : ∀ l, Mono own (mapH f l)
  | [] => Mono.ret _
  | x :: xs => Mono.bnd (hf x) fun _ => Mono.bnd (mono_mapH hf xs) fun _ => Mono.ret _
theorem mono_demote (b : Nat) : Mono own (demote b) := by
  unfold demote
  refine Mono.bnd (Mono.rd _) fun a => ?_
  cases a <;> first | exact Mono.wr _ _ | exact Mono.no
theorem mono_frzM : ∀ (n : Nat) (v : PV), Mono own (frzM n v)
  | 0, _ => Mono.no
  | n + 1, v => by
    have ih := mono_frzM n
    unfold frzM
    repeat' first
      | exact Mono.no
      | exact Mono.ret _
      | exact Mono.ofO _
      | exact Mono.rd _
      | exact mono_demote _
      | exact ih _
      | exact mono_mapH ih _
      | refine Mono.cond ?_ ?_
      | refine Mono.bnd ?_ fun _ => ?_
      | split
theorem mono_frzArgs : ∀ l : List PV, Mono own (frzArgs l)
  | [] => Mono.ret _
  | a :: as => by
    have ih := mono_frzArgs as
    unfold frzArgs
    repeat' first
      | exact Mono.no
      | exact Mono.ret _
      | exact ih
      | exact mono_frzM _ _
      | refine Mono.cond ?_ ?_
      | refine Mono.bnd ?_ fun _ => ?_
      | split
theorem mono_lendM (b : Nat) : Mono own (lendM b) := by
  unfold lendM
  repeat' first
    | exact Mono.no
    | exact Mono.ret _
    | exact Mono.rd _
    | exact mono_mapH (mono_frzM _) _
    | refine Mono.cond ?_ ?_
    | refine Mono.bnd ?_ fun _ => ?_
    | split
theorem mono_pureC (body : List PV → HM PV) (args : List PV) : Mono own (pureC G body args) := by
  intro h v h' e
  unfold pureC at e ⊢
  cases ha : frzArgs args h with
  | none => rw [ha] at e; cases e
  | some r =>
    obtain ⟨⟨as, bo⟩, h1⟩ := r
    rw [ha] at e
    have ⟨n1, p1⟩ := mono_frzArgs (own := own) args _ _ _ ha
    cases bo with
    | none =>
      simp only at e
      cases hi : inner0 G body as with
      | none => rw [hi] at e; cases e
      | some v1 =>
        rw [hi] at e
        simp only [Option.some.injEq, Prod.mk.injEq] at e
        obtain ⟨rfl, rfl⟩ := e
        refine ⟨by cases scal v1 <;> simp [n1], fun id ob hid hne hg => ?_⟩
        obtain ⟨q1, g1⟩ := p1 id ob hid hne hg
        rw [q1]
        simp only [hi]
        cases scal v1 <;> simp [g1, hg]
    | some b =>
      simp only at e
      cases hl : lendM b h1 with
      | none => rw [hl] at e; cases e
      | some r2 =>
        obtain ⟨cs, h2⟩ := r2
        rw [hl] at e
        simp only at e
        have ⟨n2, p2⟩ := mono_lendM (own := own) b _ _ _ hl
        cases hi : inner1 G body as cs with
        | none => rw [hi] at e; cases e
        | some r3 =>
          obtain ⟨v1, cs'⟩ := r3
          rw [hi] at e
          simp only at e
          cases hw : wr b (.cells cs' true) h2 with
          | none => rw [hw] at e; cases e
          | some r4 =>
            obtain ⟨u, h3⟩ := r4
            rw [hw] at e
            simp only [Option.some.injEq, Prod.mk.injEq] at e
            obtain ⟨rfl, rfl⟩ := e
            have ⟨n3, p3⟩ := Mono.wr (own := own) b (.cells cs' true) _ _ _ hw
            refine ⟨Nat.le_trans n1 (Nat.le_trans n2 n3), fun id ob hid hne hg => ?_⟩
            obtain ⟨q1, g1⟩ := p1 id ob hid hne hg
            obtain ⟨q2, g2⟩ := p2 id ob (Nat.lt_of_lt_of_le hid n1) hne g1
            obtain ⟨q3, g3⟩ := p3 id ob (Nat.lt_of_lt_of_le hid (Nat.le_trans n1 n2)) hne g2
            rw [q1]
            simp only [q2, hi, q3]
            exact ⟨trivial, g3⟩
end
end Go.Pe
