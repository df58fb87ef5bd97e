/- The quick evaluator: operations and regions. -/
import Derived.Test.YthpmkcmeoadaaaaGreatDoorQgB
namespace Go.Pe
open HM
set_option linter.unusedVariables false
set_option linter.unusedSimpArgs false

/-- an operation, made ready -/
inductive OF where
  | pure (f : T PV → Option PV)
  | eff (f : CallT → Nat → T PV → H → Option (PV × H))
def OF.app (o : OF) (call : CallT) (id : Nat) (tm : T PV) (h : H) : Option (PV × H) := match o with
  | .pure f => (match f tm with
    | some v => some (v, h)
    | none => none)
  | .eff f => f call id tm h
def rest (P : Program) (op : Op) : OF := .eff fun call id tm h => execC P call (opnd tm) id op h
noncomputable def allocF (P : Program) (t : TypeId) : OF := match zeroOf P t with
  | some z => .eff fun _ id _ h => match newQ id (.cells z true) h with
    | some (_, h') => some (.p id 0, h')
    | none => none
  | none => .pure fun _ => none
noncomputable def boxF (x : Operand) : OF := .eff fun _ id tm h => match (fOpnd x).run tm with
  | some v => (bif allOne v.cells then (match newQ id (.cells v.cells true) h with
    | some (_, h') => some (.p id 0, h')
    | none => none) else none)
  | none => none
noncomputable def fieldAddrF (P : Program) (t : TypeId) (x : Operand) (f : Nat) : OF := match fieldOf P t f with
  | some g => (match szOf P g.type with
    | some (_ + 1) => .pure fun tm => match (fOpnd x).run tm with
      | some (.p b o) => some (.p b (o + g.offset))
      | some (.fp z es i o) => some (.fp z es i (o + g.offset))
      | _ => none
    | _ => .pure fun _ => none)
  | none => .pure fun _ => none
noncomputable def partQ (P : Program) (t : TypeId) : Bx (List PV → Nat → Option PV) := match isAg P t with
  | some true => (match szOf P t with
    | some n => ⟨fun c o => match takeQ (dropQ c o) n with
      | some l => some (.agg l)
      | none => none⟩
    | none => ⟨fun _ _ => none⟩)
  | some false => ⟨fun c o => nthQ c o⟩
  | none => ⟨fun _ _ => none⟩
noncomputable def fieldF (P : Program) (t : TypeId) (x : Operand) (f : Nat) : OF := match fieldOf P t f with
  | some g => .pure fun tm => match (fOpnd x).run tm with
    | some (.agg c) => (partQ P g.type).run c g.offset
    | _ => none
  | none => .pure fun _ => none
noncomputable def indexAddrF (P : Program) (t : TypeId) (x y : Operand) : OF := match P.underlying t with
  | some (.slice e) => (match szOf P e with
    | some z => .pure fun tm => match (fOpnd x).run tm with
      | some (.sl b o n _ _) => (match (fOpnd y).run tm with
        | some (.i _ (.ofNat j)) => bif Nat.blt j n then some (.p b (o + j * z)) else none
        | _ => none)
      | some (.fl b z' es) => (match (fOpnd y).run tm with
        | some (.i _ (.ofNat j)) => bif Nat.blt j (lenQ es) then (bif b || Nat.beq z' z then some (.fp z' es j 0) else none) else none
        | _ => none)
      | _ => none
    | none => rest P (.indexAddr t x y))
  | some (.array n e) => (match szOf P e with
    | some z => .pure fun tm => match (fOpnd x).run tm with
      | some (.p b o) => (match (fOpnd y).run tm with
        | some (.i _ (.ofNat j)) => bif Nat.blt j n then some (.p b (o + j * z)) else none
        | _ => none)
      | some (.fp z' es i o) => (match (fOpnd y).run tm with
        | some (.i _ (.ofNat j)) => bif Nat.blt j n then some (.fp z' es i (o + j * z)) else none
        | _ => none)
      | _ => none
    | none => rest P (.indexAddr t x y))
  | _ => rest P (.indexAddr t x y)
noncomputable def indexF (P : Program) (t : TypeId) (x y : Operand) : OF := match P.underlying t with
  | some .string => .pure fun tm => match (fOpnd x).run tm with
    | some (.s l) => (match (fOpnd y).run tm with
      | some (.i _ (.ofNat j)) => (match nthQ l j with
        | some c => some (.i .u8 (Int.ofNat c))
        | none => none)
      | _ => none)
    | _ => none
  | _ => rest P (.index t x y)
noncomputable def lenF (P : Program) (t : TypeId) (x : Operand) : OF := match P.underlying t with
  | some .string => .pure fun tm => match (fOpnd x).run tm with
    | some (.s l) => some (.i .i64 (Int.ofNat (lenQ l)))
    | _ => none
  | some (.slice _) => .pure fun tm => match (fOpnd x).run tm with
    | some (.sl _ _ n _ _) => some (.i .i64 (Int.ofNat n))
    | some (.fl _ _ es) => some (.i .i64 (Int.ofNat (lenQ es)))
    | _ => none
  | _ => rest P (.call { callee := .builtin .len, args := #[x], argTypes := #[t] })
noncomputable def buildSliceF (P : Program) (t : TypeId) (n : Nat) (ps : Array (Nat × Operand)) : OF := match elemT P t with
  | some e => (match szOf P e with
    | some z => .eff fun _ id tm h => match partsO (opnd tm) ps.toList with
      | some l => (match buildS P t n l with
        | some c => (match newQ id (.cells c true) h with
          | some (_, h') => some (.sl id 0 n z true, h')
          | none => none)
        | none => none)
      | none => none
    | none => rest P (.buildSlice t n ps))
  | none => rest P (.buildSlice t n ps)
noncomputable def newCellsQ (z : Nat) : PV → HM (Nat × List PV)
  | .s l => bif Nat.beq z 1 then ret (l.length, l.map fun c => .i .u8 (Int.ofNat c)) else no
  | .sl b o n z' _ => bif Nat.beq n 0 then ret (0, []) else bif Nat.beq z z' then bnd (rdCellsQ b o (n * z)) fun l => ret (n, l) else no
  | .fl b z' es => bif b || Nat.beq z z' then ret (es.length, flatL es) else no
  | _ => no
theorem newCellsQ_eq (z : Nat) (x : PV) : newCellsQ z x = newCells z x := by
  cases x <;> simp only [newCellsQ, newCells, rdCellsQ_eq]
noncomputable def appendQ (P : Program) (t : TypeId) (id : Nat) (s x : PV) : HM PV := match elemT P t with
  | some e => match szOf P e, bytesT P e, zeroOf P e with
    | some z, some by_, some zs => bif Nat.beq z 0 || Nat.beq by_ 0 || !Nat.beq zs.length z then no else bnd (newCellsQ z x) fun r =>
      bif allOne r.2 && Nat.beq (lenQ r.2) (r.1 * z) then (match s with
        | .fl true _ _ => bif Nat.beq r.1 0 then ret (.fl true 0 []) else bif room (r.1 * by_) then bnd (newQ id (.cells r.2 true)) fun _ => ret (.sl id 0 r.1 z false) else no
        | .sl b o n z' tg => bif Nat.beq z z' then (bif Nat.beq r.1 0 then ret (.sl b o n z tg) else
            bif room ((n + r.1) * by_) then
            (bif Nat.beq n 0 && tg then bnd (newQ id (.cells r.2 true)) fun _ => ret (.sl id 0 r.1 z false)
            else bnd (rdQ b) fun
              | .cells c own => bnd (ofO (takeQ (dropQ c o) (n * z))) fun l =>
                bif tg then bnd (newQ id (.cells (l ++ r.2) true)) fun _ => ret (.sl id 0 (n + r.1) z false)
                else bif own then bnd (killQ b) fun _ => bnd (newQ id (.cells (l ++ r.2) true)) fun _ => ret (.sl id 0 (n + r.1) z false) else no
              | .map _ => no) else no) else no
        | _ => no) else no
    | _, _, _ => no
  | none => no
theorem appendQ_eq (P : Program) (t : TypeId) (id : Nat) (s x : PV) : appendQ P t id s x = appendV P t id s x := by
  unfold appendQ appendV
  simp only [newCellsQ_eq, newQ_eq, rdQ_eq, killQ_eq, takeQ_eq, dropQ_eq, allOne_eq, lenQ_eq]
  rfl
noncomputable def appendF (P : Program) (t t' : TypeId) (x y : Operand) : OF := match P.underlying t' with
  | some (.int _) => .pure fun _ => none
  | some _ => .eff fun _ id tm h => match (fOpnd x).run tm with
    | some a => (match (fOpnd y).run tm with
      | some b => appendQ P t id a b h
      | none => none)
    | none => none
  | none => .pure fun _ => none
noncomputable def builtF (P : Program) (b : Builtin) (args : List Operand) (ts : List TypeId) (op : Op) : OF := match b, args, ts with
  | .len, [x], [t] => lenF P t x
  | .append, [x, y], [t, t'] => appendF P t t' x y
  | _, _, _ => rest P op
noncomputable def callF (P : Program) (f : Operand) (args : Array Operand) (op : Op) : OF := match f with
  | .func g => .eff fun call _ tm h => match (fArgs args.toList).run tm with
    | some l => call g l h
    | none => none
  | _ => rest P op
noncomputable def exF (P : Program) : Op → OF
  | .move x => .pure fun tm => (fOpnd x).run tm
  | .assign x => .pure fun tm => (fOpnd x).run tm
  | .pick c a b => .pure fun tm => match (fOpnd c).run tm with
    | some (.b true) => (fOpnd a).run tm
    | some (.b false) => (fOpnd b).run tm
    | _ => none
  | .alloc t => allocF P t
  | .box _ x => boxF x
  | .buildSlice t n ps => buildSliceF P t n ps
  | .load t a => .eff fun _ _ tm h => match (fOpnd a).run tm with
    | some v => (ldQ P t).run v h
    | none => none
  | .store t a x => .eff fun _ _ tm h => match (fOpnd a).run tm with
    | some v => (match (fOpnd x).run tm with
      | some u => (stQ P t).run v u h
      | none => none)
    | none => none
  | .nilCheck x => .pure fun tm => match (fOpnd x).run tm with
    | some (.p b o) => some (.p b o)
    | some (.fp z es i o) => some (.fp z es i o)
    | _ => none
  | .binOp op t x y _ => .pure fun tm => match (fOpnd x).run tm with
    | some a => (match (fOpnd y).run tm with
      | some b => (binQ P op t x y).run a b
      | none => none)
    | none => none
  | .unOp op _ x => .pure fun tm => match (fOpnd x).run tm with
    | some a => unV op a
    | none => none
  | .fieldAddr t x f => fieldAddrF P t x f
  | .field t x f => fieldF P t x f
  | .indexAddr t x y => indexAddrF P t x y
  | .index t x y => indexF P t x y
  | .extract x n => .pure fun tm => match (fOpnd x).run tm with
    | some (.tup l) => nthQ l n
    | _ => none
  | .call { callee := .value f, args, argTypes } => callF P f args (.call { callee := .value f, args, argTypes })
  | .call { callee := .builtin b, args, argTypes } => builtF P b args.toList argTypes.toList (.call { callee := .builtin b, args, argTypes })
  | op => rest P op
section
variable {P : Program} {call : CallT} {id : Nat} {tm : T PV} {h : H}
theorem allocF_eq (t : TypeId) : (allocF P t).app call id tm h = execC P call (opnd tm) id (.alloc t) h := by
  unfold allocF
  simp only [execC, execV, bnd, newQ_eq]
  cases zeroOf P t with
  | none => rfl
  | some z =>
    simp only [OF.app, ofO, ret]
    cases new id (.cells z true) h <;> rfl
theorem boxF_eq (t : TypeId) (x : Operand) : (boxF x).app call id tm h = execC P call (opnd tm) id (.box t x) h := by
  unfold boxF
  simp only [execC, execV, bnd, newQ_eq, OF.app, fOpnd_eq, allOne_eq]
  cases opnd tm x with
  | none => rfl
  | some v =>
    simp only [ofO, ret]
    cases v.cells.all PV.one with
    | false => rfl
    | true =>
      simp only [cond_true, bnd]
      cases new id (.cells v.cells true) h <;> rfl
theorem fieldAddrF_eq (t : TypeId) (x : Operand) (f : Nat) : (fieldAddrF P t x f).app call id tm h = execC P call (opnd tm) id (.fieldAddr t x f) h := by
  unfold fieldAddrF
  simp only [execC, execV, bnd]
  cases hf : fieldOf P t f with
  | none =>
    simp only [OF.app]
    cases opnd tm x with
    | none => rfl
    | some v => cases v <;> rfl
  | some g =>
    simp only
    cases hs : szOf P g.type with
    | none =>
      simp only [OF.app]
      cases opnd tm x with
      | none => rfl
      | some v => cases v <;> rfl
    | some n =>
      cases n with
      | zero =>
        simp only [OF.app]
        cases opnd tm x with
        | none => rfl
        | some v => cases v <;> rfl
      | succ n =>
        simp only [OF.app, fOpnd_eq]
        cases opnd tm x with
        | none => rfl
        | some v => cases v <;> rfl
theorem partQ_eq (t : TypeId) (c : List PV) (o : Nat) : (partQ P t).run c o = partV P t c o := by
  unfold partQ partV
  cases isAg P t with
  | none => rfl
  | some a =>
    cases a with
    | false => exact nthQ_eq c o
    | true =>
      simp only
      cases szOf P t with
      | none => rfl
      | some n =>
        simp only [takeQ_eq, dropQ_eq]
        cases takeX n (c.drop o) <;> rfl
theorem fieldF_eq (t : TypeId) (x : Operand) (f : Nat) : (fieldF P t x f).app call id tm h = execC P call (opnd tm) id (.field t x f) h := by
  unfold fieldF
  simp only [execC, execV, bnd]
  cases hf : fieldOf P t f with
  | none =>
    simp only [OF.app]
    cases opnd tm x with
    | none => rfl
    | some v => cases v <;> rfl
  | some g =>
    simp only [OF.app, fOpnd_eq, partQ_eq]
    cases opnd tm x with
    | none => rfl
    | some v =>
      cases v <;> try rfl
      simp only [ofO, ret]
      rename_i c
      cases partV P g.type c g.offset <;> rfl
theorem rest_eq (op : Op) : (rest P op).app call id tm h = execC P call (opnd tm) id op h := rfl
theorem indexAddrF_eq (t : TypeId) (x y : Operand) : (indexAddrF P t x y).app call id tm h = execC P call (opnd tm) id (.indexAddr t x y) h := by
  unfold indexAddrF
  split
  · rename_i e hu
    split
    · rename_i z hs
      simp only [OF.app, fOpnd_eq, execC, execV, bnd]
      cases opnd tm x with
      | none => rfl
      | some v =>
        cases opnd tm y with
        | none => cases v <;> rfl
        | some w =>
          simp only [ofO, ret, hu]
          cases w
          case i k m =>
            cases m with
            | negSucc j => cases v <;> rfl
            | ofNat j =>
              simp only [natIx]
              cases v
              case sl b o n z' tg =>
                simp only [hs]
                cases Nat.blt j n <;> rfl
              case fl b z' es =>
                simp only [hs, lenQ_eq]
                cases Nat.blt j es.length with
                | false => rfl
                | true =>
                  simp only [cond_true]
                  cases (b || Nat.beq z' z) <;> rfl
              all_goals rfl
          all_goals (cases v <;> rfl)
    · exact rest_eq _
  · rename_i n e hu
    split
    · rename_i z hs
      simp only [OF.app, fOpnd_eq, execC, execV, bnd]
      cases opnd tm x with
      | none => rfl
      | some v =>
        cases opnd tm y with
        | none => cases v <;> rfl
        | some w =>
          simp only [ofO, ret, hu]
          cases w
          case i k m =>
            cases m with
            | negSucc j => cases v <;> rfl
            | ofNat j =>
              simp only [natIx]
              cases v
              case p b o =>
                simp only [hs]
                cases Nat.blt j n <;> rfl
              case fp z' es i o =>
                simp only [hs]
                cases Nat.blt j n <;> rfl
              all_goals rfl
          all_goals (cases v <;> rfl)
    · exact rest_eq _
  · exact rest_eq _
theorem indexF_eq (t : TypeId) (x y : Operand) : (indexF P t x y).app call id tm h = execC P call (opnd tm) id (.index t x y) h := by
  unfold indexF
  split
  · rename_i hu
    simp only [OF.app, fOpnd_eq, execC, execV, bnd]
    cases opnd tm x with
    | none => rfl
    | some v =>
      cases opnd tm y with
      | none => cases v <;> rfl
      | some w =>
        simp only [ofO, ret, hu]
        cases w
        case i k m =>
          cases m with
          | negSucc j => cases v <;> rfl
          | ofNat j =>
            simp only [natIx]
            cases v
            case s l =>
              simp only [nthQ_eq]
              cases l[j]? <;> rfl
            all_goals rfl
        all_goals (cases v <;> rfl)
  · exact rest_eq _
theorem lenF_eq (t : TypeId) (x : Operand) : (lenF P t x).app call id tm h = execC P call (opnd tm) id (.call { callee := .builtin .len, args := #[x], argTypes := #[t] }) h := by
  unfold lenF
  split
  · rename_i hu
    simp only [OF.app, fOpnd_eq, execC, execV, bnd, mapO]
    cases opnd tm x with
    | none => rfl
    | some v =>
      simp only [ofO, ret, builtinV, lenV, hu, lenQ_eq]
      cases v <;> rfl
  · rename_i e hu
    simp only [OF.app, fOpnd_eq, execC, execV, bnd, mapO]
    cases opnd tm x with
    | none => rfl
    | some v =>
      simp only [ofO, ret, builtinV, lenV, hu, lenQ_eq]
      cases v <;> rfl
  · exact rest_eq _
theorem buildSliceF_eq (t : TypeId) (n : Nat) (ps : Array (Nat × Operand)) : (buildSliceF P t n ps).app call id tm h = execC P call (opnd tm) id (.buildSlice t n ps) h := by
  unfold buildSliceF
  split
  · rename_i e he
    split
    · rename_i z hz
      simp only [OF.app, execC, execV, bnd, newQ_eq, he, hz]
      cases partsO (opnd tm) ps.toList with
      | none => rfl
      | some l =>
        simp only [ofO, ret]
        cases buildS P t n l with
        | none => rfl
        | some c =>
          simp only [hz, ret, bnd]
          cases new id (.cells c true) h <;> rfl
    · exact rest_eq _
  · exact rest_eq _
theorem appendF_eq (t t' : TypeId) (x y : Operand) : (appendF P t t' x y).app call id tm h = execC P call (opnd tm) id (.call { callee := .builtin .append, args := #[x, y], argTypes := #[t, t'] }) h := by
  unfold appendF
  have key : ∀ a b, builtinV P .append [t, t'] id [a, b] h = match P.underlying t' with
      | some (.int _) => none
      | some _ => appendV P t id a b h
      | none => none := fun a b => by
    simp only [builtinV]
    cases P.underlying t' with
    | none => rfl
    | some d => cases d <;> rfl
  have e1 : execC P call (opnd tm) id (.call { callee := .builtin .append, args := #[x, y], argTypes := #[t, t'] }) h = match opnd tm x with
      | some a => (match opnd tm y with
        | some b => builtinV P .append [t, t'] id [a, b] h
        | none => none)
      | none => none := by
    simp only [execC, execV, bnd, mapO]
    cases opnd tm x with
    | none => rfl
    | some a => cases opnd tm y <;> rfl
  rw [e1]
  simp only [key]
  cases P.underlying t' with
  | none =>
    simp only [OF.app]
    cases opnd tm x with
    | none => rfl
    | some a => cases opnd tm y <;> rfl
  | some d =>
    cases d
    case int k =>
      simp only [OF.app]
      cases opnd tm x with
      | none => rfl
      | some a => cases opnd tm y <;> rfl
    all_goals simp only [OF.app, fOpnd_eq, appendQ_eq]
theorem arr_list {α : Type} {a : Array α} {l : List α} (h : a.toList = l) : a = l.toArray := by
  cases a
  simp_all
theorem builtF_eq (b : Builtin) (args : Array Operand) (ts : Array TypeId) : (builtF P b args.toList ts.toList (.call { callee := .builtin b, args := args, argTypes := ts })).app call id tm h = execC P call (opnd tm) id (.call { callee := .builtin b, args := args, argTypes := ts }) h := by
  unfold builtF
  split
  · rename_i x t h1 h2
    rw [arr_list h1, arr_list h2]
    exact lenF_eq t x
  · rename_i x y t t' h1 h2
    rw [arr_list h1, arr_list h2]
    exact appendF_eq t t' x y
  · exact rest_eq _
theorem callF_eq (f : Operand) (args : Array Operand) (ts : Array TypeId) : (callF P f args (.call { callee := .value f, args := args, argTypes := ts })).app call id tm h = execC P call (opnd tm) id (.call { callee := .value f, args := args, argTypes := ts }) h := by
  unfold callF
  split
  · rename_i g
    simp only [OF.app, execC, bnd, opnd, ofO, ret, fArgs_eq]
    cases mapO (opnd tm) args.toList with
    | none => rfl
    | some l => simp only [ret, List.append_nil]
  · exact rest_eq _
theorem exF_eq (op : Op) : (exF P op).app call id tm h = execC P call (opnd tm) id op h := by
  cases op
  case move x =>
    simp only [exF, OF.app, fOpnd_eq, execC, execV]
    cases opnd tm x <;> rfl
  case assign x =>
    simp only [exF, OF.app, fOpnd_eq, execC, execV]
    cases opnd tm x <;> rfl
  case pick c a b =>
    simp only [exF, OF.app, fOpnd_eq, execC, execV, bnd]
    cases opnd tm c with
    | none => rfl
    | some v =>
      cases v <;> try rfl
      rename_i x
      cases x
      · simp only [ofO, ret]; cases opnd tm b <;> rfl
      · simp only [ofO, ret]; cases opnd tm a <;> rfl
  case alloc t => exact allocF_eq t
  case box t x => exact boxF_eq t x
  case buildSlice t n ps => exact buildSliceF_eq t n ps
  case load t a =>
    simp only [exF, OF.app, fOpnd_eq, execC, execV, bnd]
    cases opnd tm a with
    | none => rfl
    | some v => exact ldQ_eq P t v h
  case store t a x =>
    simp only [exF, OF.app, fOpnd_eq, execC, execV, bnd]
    cases opnd tm a with
    | none => rfl
    | some v =>
      cases opnd tm x with
      | none => rfl
      | some u => exact stQ_eq P t v u h
  case nilCheck x =>
    simp only [exF, OF.app, fOpnd_eq, execC, execV, bnd]
    cases opnd tm x with
    | none => rfl
    | some v => cases v <;> rfl
  case binOp op t x y t' =>
    simp only [exF, OF.app, fOpnd_eq, execC, execV, bnd, binQ_eq]
    cases opnd tm x with
    | none => rfl
    | some a =>
      cases opnd tm y with
      | none => rfl
      | some b =>
        simp only [ofO, ret]
        cases binV P op t x y a b <;> rfl
  case unOp op t x =>
    simp only [exF, OF.app, fOpnd_eq, execC, execV, bnd]
    cases opnd tm x with
    | none => rfl
    | some a =>
      simp only [ofO, ret]
      cases unV op a <;> rfl
  case fieldAddr t x f => exact fieldAddrF_eq t x f
  case field t x f => exact fieldF_eq t x f
  case indexAddr t x y => exact indexAddrF_eq t x y
  case index t x y => exact indexF_eq t x y
  case extract x n =>
    simp only [exF, OF.app, fOpnd_eq, execC, execV, bnd]
    cases opnd tm x with
    | none => rfl
    | some v =>
      cases v <;> try rfl
      rename_i l
      simp only [ofO, ret, nthQ_eq]
      cases l[n]? <;> rfl
  case call c =>
    obtain ⟨callee, args, ts⟩ := c
    cases callee
    case value f => exact callF_eq f args ts
    case builtin b => exact builtF_eq b args ts
    case invoke r m => exact rest_eq _
  all_goals exact rest_eq _
end
end Go.Pe
