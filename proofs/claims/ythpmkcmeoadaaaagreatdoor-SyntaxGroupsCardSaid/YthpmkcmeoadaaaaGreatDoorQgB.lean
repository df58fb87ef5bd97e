/- The quick evaluator: operations, made ready once. -/
import Derived.Test.YthpmkcmeoadaaaaGreatDoorQgA
namespace Go.Pe
open HM
set_option linter.unusedVariables false
set_option linter.unusedSimpArgs false

/-- what is reckoned once and kept -/
structure Bx (α : Type) where
  run : α
/-- x, behind a look at n -/
noncomputable def frc {α : Type} (n : Nat) (x : α) : α := Bool.rec (motive := fun _ => α) x x (Nat.beq n 0)
theorem frc_eq {α : Type} (n : Nat) (x : α) : frc n x = x := by
  unfold frc
  cases Nat.beq n 0 <;> rfl
abbrev CallT := FuncId → List PV → HM PV
noncomputable def fTmp (t : Nat) : Bx (T PV → Option PV) :=
  bif Nat.blt t 1099511627776 then ⟨fun tm => Option.rec (motive := fun _ => Option PV) (some (.tup [])) (fun v => some v) (getP (pth 40 t) tm)⟩ else ⟨fun tm => some ((tm.get t).getD (.tup []))⟩
theorem fTmp_eq (t : Nat) (tm : T PV) : (fTmp t).run tm = some ((tm.get t).getD (.tup [])) := by
  unfold fTmp
  cases h : Nat.blt t 1099511627776 with
  | false => rfl
  | true =>
    have : t < 1099511627776 := by simpa [Nat.blt_eq] using h
    simp only [cond_true, getP_eq 40 t tm this]
    cases tm.get t <;> rfl
noncomputable def fOpnd : Operand → Bx (T PV → Option PV)
  | .tmp t => fTmp t
  | .const v => ⟨fun _ => ofV v⟩
  | .func f => ⟨fun _ => some (.fn f [])⟩
  | .global g => bif Nat.blt g 1024 then ⟨fun _ => some (.p g 0)⟩ else ⟨fun _ => none⟩
theorem fOpnd_eq (x : Operand) (tm : T PV) : (fOpnd x).run tm = opnd tm x := by
  cases x with
  | tmp t => exact fTmp_eq t tm
  | const v => rfl
  | func f => rfl
  | global g =>
    show (bif Nat.blt g 1024 then (⟨fun _ => some (.p g 0)⟩ : Bx (T PV → Option PV)) else ⟨fun _ => none⟩).run tm = bif Nat.blt g 1024 then some (.p g 0) else none
    cases Nat.blt g 1024 <;> rfl
noncomputable def fArgs (l : List Operand) : Bx (T PV → Option (List PV)) :=
  List.rec (motive := fun _ => Bx (T PV → Option (List PV))) ⟨fun _ => some []⟩ (fun x _ ih => ⟨fun tm => match (fOpnd x).run tm with
    | some v => (match ih.run tm with
      | some vs => some (v :: vs)
      | none => none)
    | none => none⟩) l
theorem fArgs_eq (tm : T PV) : ∀ l : List Operand, (fArgs l).run tm = mapO (opnd tm) l
  | [] => rfl
  | x :: xs => by
    show (match (fOpnd x).run tm with
    | some v => (match (fArgs xs).run tm with
      | some vs => some (v :: vs)
      | none => none)
    | none => none) = _
    rw [fOpnd_eq, fArgs_eq tm xs, mapO]
    cases opnd tm x with
    | none => rfl
    | some v => simp only; cases mapO (opnd tm) xs <;> rfl

/-- texts -/
noncomputable def bEqQ (l : List Nat) : List Nat → Bool :=
  List.rec (motive := fun _ => List Nat → Bool) (fun m => List.rec (motive := fun _ => Bool) true (fun _ _ _ => false) m)
    (fun a _ ih m => List.rec (motive := fun _ => Bool) false (fun b ys _ => Bool.rec (motive := fun _ => Bool) false (ih ys) (Nat.beq a b)) m) l
theorem bEqQ_eq : ∀ l m : List Nat, bEqQ l m = bEq l m
  | [], [] => rfl
  | [], _ :: _ => rfl
  | _ :: _, [] => rfl
  | a :: x, b :: y => by
    show Bool.rec (motive := fun _ => Bool) false (bEqQ x y) (Nat.beq a b) = (Nat.beq a b && bEq x y)
    rw [bEqQ_eq x y]
    cases Nat.beq a b <;> rfl
def i2 (f : IntKind → Int → Int → Option PV) (g : List Nat → List Nat → Option PV) (e : PV → PV → Option PV) : PV → PV → Option PV := fun a b => match a with
  | .i k m => (match b with
    | .i k' n => bif Nat.beq (kc k) (kc k') then f k m n else none
    | b => e (.i k m) b)
  | .s m => (match b with
    | .s n => g m n
    | b => e (.s m) b)
  | a => e a b
theorem bif_kc {α : Type} (k k' : IntKind) (x : Option α) : (bif Nat.beq (kc k) (kc k') then x else none) = if k = k' then x else none := by
  rw [kc_eq]
  by_cases h : k = k' <;> simp [h]
noncomputable def strQ (op : BinOp) : List Nat → List Nat → Option PV := match op with
  | .add => fun a b => bif Nat.ble (lenQ a + lenQ b) 9223372036854775807 then some (.s (a ++ b)) else none
  | .eql => fun a b => some (.b (bEqQ a b))
  | .neq => fun a b => some (.b (!bEqQ a b))
  | op => fun a b => strV op a b
theorem strQ_eq (op : BinOp) (a b : List Nat) : strQ op a b = strV op a b := by
  cases op <;> simp only [strQ, strV, lenQ_eq, bEqQ_eq]
noncomputable def arithQ (op : BinOp) : IntKind → Int → Int → Option PV := match op with
  | .add => fun k a b => some (.i k (wrapQ k (Int.add a b)))
  | .sub => fun k a b => some (.i k (wrapQ k (Int.sub a b)))
  | .mul => fun k a b => some (.i k (wrapQ k (Int.mul a b)))
  | .eql => fun _ a b => some (.b (ieq a b))
  | .neq => fun _ a b => some (.b (!ieq a b))
  | .lss => fun _ a b => some (.b (ilt a b))
  | .leq => fun _ a b => some (.b (ile a b))
  | .gtr => fun _ a b => some (.b (ilt b a))
  | .geq => fun _ a b => some (.b (ile b a))
  | op => fun k a b => arith op k a b
theorem arithQ_eq (op : BinOp) (k : IntKind) (a b : Int) : arithQ op k a b = arith op k a b := by
  cases op <;> simp only [arithQ, arith, wrapQ_eq, ieq_eq, ilt_eq, ile_eq] <;> rfl
def isSh : BinOp → Bool
  | .shl | .shr => true
  | _ => false
noncomputable def binQ (P : Program) (op : BinOp) (t : TypeId) (x y : Operand) : Bx (PV → PV → Option PV) :=
  bif isSh op then ⟨fun a b => binV P op t x y a b⟩ else match op with
  | .eql => ⟨i2 (arithQ .eql) (strQ .eql) fun a b => binV P .eql t x y a b⟩
  | .neq => ⟨i2 (arithQ .neq) (strQ .neq) fun a b => binV P .neq t x y a b⟩
  | op => ⟨i2 (arithQ op) (strQ op) fun _ _ => none⟩
theorem binQ_eq (P : Program) (op : BinOp) (t : TypeId) (x y : Operand) (a b : PV) : (binQ P op t x y).run a b = binV P op t x y a b := by
  cases op <;> first
    | rfl
    | (simp only [binQ, isSh, cond_false]
       cases a <;> cases b <;> simp only [i2, arithQ_eq, strQ_eq, bif_kc, binV])

/-- the heap -/
noncomputable def H.getQ (h : H) (b : Nat) : Option PO := h.tab.getQ b
noncomputable def rdQ (b : Nat) : HM PO := fun h => match h.tab.getQ b with
  | some o => some (o, h)
  | none => none
noncomputable def wrQ (b : Nat) (o : PO) : HM Unit := fun h => match h.tab.getQ b with
  | some _ => some ((), ⟨h.next, T.setQ o h.tab b⟩)
  | none => none
noncomputable def newQ (b : Nat) (o : PO) : HM Unit := fun h => match h.tab.getQ b with
  | some _ => none
  | none => some ((), ⟨h.next, T.setQ o h.tab b⟩)
noncomputable def killQ (b : Nat) : HM Unit := fun h => match h.tab.getQ b with
  | some _ => some ((), ⟨h.next, h.tab.delQ b⟩)
  | none => none
theorem rdQ_eq (b : Nat) : rdQ b = rd b := by
  funext h
  simp only [rdQ, rd, H.get, T.getQ_eq]
  cases h.tab.get b <;> rfl
theorem wrQ_eq (b : Nat) (o : PO) : wrQ b o = wr b o := by
  funext h
  simp only [wrQ, wr, H.get, T.getQ_eq, T.setQ_eq, H.put]
  cases h.tab.get b <;> rfl
theorem newQ_eq (b : Nat) (o : PO) : newQ b o = new b o := by
  funext h
  simp only [newQ, new, H.get, T.getQ_eq, T.setQ_eq, H.put]
  cases h.tab.get b <;> rfl
theorem killQ_eq (b : Nat) : killQ b = kill b := by
  funext h
  simp only [killQ, kill, H.get, T.getQ_eq, T.delQ_eq, H.del]
  cases h.tab.get b <;> rfl
noncomputable def overQ (vs : List PV) : List PV → Option (List PV) :=
  List.rec (motive := fun _ => List PV → Option (List PV)) (fun c => some c)
    (fun v _ ih c => List.rec (motive := fun _ => Option (List PV)) none (fun _ c _ => Option.rec (motive := fun _ => Option (List PV)) none (fun r => some (v :: r)) (ih c)) c) vs
theorem overQ_eq : ∀ vs c : List PV, overQ vs c = overlay vs c
  | [], c => by cases c <;> rfl
  | v :: vs, [] => rfl
  | v :: vs, x :: c => by
    show Option.rec (motive := fun _ => Option (List PV)) none (fun r => some (v :: r)) (overQ vs c) = _
    rw [overQ_eq vs c, overlay]
    cases overlay vs c <;> rfl
noncomputable def putQ (vs : List PV) (c : List PV) : Nat → Option (List PV) :=
  List.rec (motive := fun _ => Nat → Option (List PV)) (fun o => Bool.rec (motive := fun _ => Option (List PV)) none (overQ vs []) (Nat.beq o 0))
    (fun x xs ih o => Bool.rec (motive := fun _ => Option (List PV)) (Option.rec (motive := fun _ => Option (List PV)) none (fun r => some (x :: r)) (ih (Nat.sub o 1))) (overQ vs (x :: xs)) (Nat.beq o 0)) c
theorem putQ_eq (vs : List PV) : ∀ (c : List PV) (o : Nat), putQ vs c o = putL vs o c
  | [], 0 => by show overQ vs [] = _; rw [overQ_eq]; rfl
  | [], o + 1 => rfl
  | x :: xs, 0 => by show overQ vs (x :: xs) = _; rw [overQ_eq]; rfl
  | x :: xs, o + 1 => by
    show Option.rec (motive := fun _ => Option (List PV)) none (fun r => some (x :: r)) (putQ vs xs o) = _
    rw [putQ_eq vs xs o, putL]
    cases putL vs o xs <;> rfl
noncomputable def allOne (l : List PV) : Bool := List.rec (motive := fun _ => Bool) true (fun x _ ih => Bool.rec (motive := fun _ => Bool) false ih x.one) l
theorem allOne_eq : ∀ l : List PV, allOne l = l.all PV.one
  | [] => rfl
  | x :: xs => by
    show Bool.rec (motive := fun _ => Bool) false (allOne xs) x.one = _
    rw [allOne_eq xs, List.all_cons]
    cases x.one <;> rfl
noncomputable def rdCellsQ (b o n : Nat) : HM (List PV) := fun h => match h.tab.getQ b with
  | some (.cells c _) => (match takeQ (dropQ c o) n with
    | some l => some (l, h)
    | none => none)
  | _ => none
theorem rdCellsQ_eq (b o n : Nat) : rdCellsQ b o n = rdCells b o n := by
  funext h
  simp only [rdCellsQ, rdCells, bnd, rd, H.get, T.getQ_eq, takeQ_eq, dropQ_eq]
  cases h.tab.get b with
  | none => rfl
  | some x =>
    cases x with
    | map es => rfl
    | cells c w =>
      simp only
      cases takeX n (c.drop o) <;> rfl
noncomputable def wrCellsQ (b o : Nat) (vs : List PV) : HM Unit := fun h => match h.tab.getQ b with
  | some (.cells c true) => (bif allOne vs then (match putQ vs c o with
    | some c' => some ((), ⟨h.next, T.setQ (.cells c' true) h.tab b⟩)
    | none => none) else none)
  | _ => none
theorem wrCellsQ_eq (b o : Nat) (vs : List PV) : wrCellsQ b o vs = wrCells b o vs := by
  funext h
  simp only [wrCellsQ, wrCells, bnd, rd, H.get, T.getQ_eq, putQ_eq, allOne_eq, T.setQ_eq]
  cases hg : h.tab.get b with
  | none => rfl
  | some x =>
    cases x with
    | map es => rfl
    | cells c w =>
      cases w with
      | false => rfl
      | true =>
        simp only
        cases vs.all PV.one with
        | false => rfl
        | true =>
          simp only [cond_true, ofO]
          cases putL vs o c with
          | none => rfl
          | some c' => simp only [ret, bnd, wr, H.get, hg, H.put]
noncomputable def ldQ (P : Program) (t : TypeId) : Bx (PV → HM PV) := match isAg P t with
  | some false => ⟨fun v h => match v with
    | .p b o => (match h.tab.getQ b with
      | some (.cells c _) => (match nthQ c o with
        | some u => some (u, h)
        | none => none)
      | _ => none)
    | .fp _ es i o => (match nthQ es i with
      | some e => (match nthQ e.cells o with
        | some u => some (u, h)
        | none => none)
      | none => none)
    | _ => none⟩
  | some true => (match szOf P t with
    | some n => ⟨fun v h => match v with
      | .p b o => (match rdCellsQ b o n h with
        | some (l, _) => some (.agg l, h)
        | none => none)
      | .fp _ es i o => (match nthQ es i with
        | some e => (match takeQ (dropQ e.cells o) n with
          | some l => some (.agg l, h)
          | none => none)
        | none => none)
      | _ => none⟩
    | none => ⟨fun _ _ => none⟩)
  | none => ⟨fun _ _ => none⟩
theorem take1 (l : List PV) (o : Nat) : takeX 1 (l.drop o) = match l[o]? with
    | some v => some [v]
    | none => none := by
  have h : (l.drop o)[0]? = l[o]? := by simp
  cases hd : l.drop o with
  | nil => rw [hd] at h; rw [← h]; rfl
  | cons x xs => rw [hd] at h; rw [← h]; rfl
theorem ldQ_eq (P : Program) (t : TypeId) (v : PV) (h : H) : (ldQ P t).run v h = ldT P t v h := by
  unfold ldQ ldT
  cases ha : isAg P t with
  | none => cases v <;> rfl
  | some a =>
    cases a with
    | false =>
      cases v <;> try rfl
      case p b o =>
        simp only [T.getQ_eq, nthQ_eq, bnd, rdCells, rd, H.get]
        cases h.tab.get b with
        | none => rfl
        | some x =>
          cases x with
          | map es => rfl
          | cells c w =>
            simp only [take1, ofO]
            cases c[o]? <;> rfl
      case fp z es i o =>
        simp only [nthQ_eq, rowX, bnd]
        cases es[i]? with
        | none => rfl
        | some e =>
          simp only [take1]
          cases e.cells[o]? <;> rfl
    | true =>
      cases hs : szOf P t with
      | none => cases v <;> rfl
      | some n =>
        cases v <;> try rfl
        case p b o =>
          simp only [rdCellsQ_eq, bnd]
          simp only [rdCells, bnd, rd, H.get]
          cases h.tab.get b with
          | none => rfl
          | some x =>
            cases x with
            | map es => rfl
            | cells c w =>
              simp only
              cases takeX n (c.drop o) <;> rfl
        case fp z es i o =>
          simp only [nthQ_eq, takeQ_eq, dropQ_eq, rowX, bnd]
          cases es[i]? with
          | none => rfl
          | some e =>
            simp only
            cases takeX n (e.cells.drop o) <;> rfl
noncomputable def stQ (P : Program) (t : TypeId) : Bx (PV → PV → HM PV) := match szOf P t with
  | some n => ⟨fun a v h => match a with
    | .p b o => (bif Nat.beq (lenQ v.cells) n then (match wrCellsQ b o v.cells h with
      | some (_, h') => some (.tup [], h')
      | none => none) else none)
    | _ => none⟩
  | none => ⟨fun _ _ _ => none⟩
theorem stQ_eq (P : Program) (t : TypeId) (a v : PV) (h : H) : (stQ P t).run a v h = stT P t a v h := by
  unfold stQ stT
  cases szOf P t with
  | none => cases a <;> rfl
  | some n =>
    cases a <;> try rfl
    case p b o =>
      simp only [lenQ_eq, wrCellsQ_eq]
      cases Nat.beq v.cells.length n with
      | false => rfl
      | true =>
        simp only [cond_true, bnd]
        cases wrCells b o v.cells h with
        | none => rfl
        | some r => rfl
end Go.Pe
