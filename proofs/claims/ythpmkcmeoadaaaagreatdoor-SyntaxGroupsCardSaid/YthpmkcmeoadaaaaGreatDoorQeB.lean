/- The pure evaluator: regions in a fixed order, code, calls. -/
import Derived.Test.YthpmkcmeoadaaaaGreatDoorQeA
namespace Go.Pe
open HM

/-- what an operation does with the heap: nothing but to look at one block (or none), to make its own block, or more -/
inductive Kd where
  | quiet | birth | eff
def kdOf (P : Program) : Op → Kd
  | .move _ | .assign _ | .pick .. | .build .. | .nilCheck _ | .binOp .. | .unOp .. | .makeInterface .. | .makeFunc .. | .slice .. | .fieldAddr .. | .field .. | .indexAddr .. | .index .. | .extract .. | .load .. | .lookup .. => .quiet
  | .alloc _ | .box .. | .buildSlice .. | .makeMap .. | .makeSlice .. => .birth
  | .convert _ d _ => match P.underlying d with
    | some (.slice _) => .birth
    | _ => .quiet
  | .call { callee := .builtin b, .. } => match b with
    | .len | .min | .max => .quiet
    | _ => .eff
  | _ => .eff
def Kd.isEff : Kd → Bool
  | .eff => true
  | _ => false

/-- the block that a quiet operation looks at -/
def tP : PV → Option Nat
  | .p b _ => some b
  | _ => none
def tM : PV → Option Nat
  | .m b => some b
  | _ => none
def tS : PV → Option Nat
  | .sl b _ _ _ _ => some b
  | _ => none
def touch (ev : Operand → Option PV) : Op → Option Nat
  | .load _ a => match ev a with
    | some v => tP v
    | none => none
  | .lookup _ x _ _ => match ev x with
    | some v => tM v
    | none => none
  | .convert _ _ x => match ev x with
    | some v => tS v
    | none => none
  | .call { callee := .builtin .len, args, .. } => match args.toList with
    | x :: _ => match ev x with
      | some v => tM v
      | none => none
    | [] => none
  | _ => none

mutual
def eqP : PV → PV → Bool
  | .b x, .b y => x == y
  | .i k x, .i j y => decide (k = j) && decide (x = y)
  | .s x, .s y => bEq x y
  | .nilp, .nilp => true
  | .p a b, .p c d => Nat.beq a c && Nat.beq b d
  | .sl a b n z t, .sl c d m y u => Nat.beq a c && Nat.beq b d && Nat.beq n m && Nat.beq z y && (t == u)
  | .nilf, .nilf => true
  | .fn f x, .fn g y => Nat.beq f g && eqPs x y
  | .nili, .nili => true
  | .ifc t x, .ifc u y => Nat.beq t u && eqP x y
  | .nilm, .nilm => true
  | .m a, .m b => Nat.beq a b
  | .agg x, .agg y => eqPs x y
  | .tup x, .tup y => eqPs x y
  | .fl a z x, .fl b u y => (a == b) && (Nat.beq z u && eqPs x y)
  | .fp z x a b, .fp u y c d => Nat.beq z u && (eqPs x y && Nat.beq a c && Nat.beq b d)
  | _, _ => false
def eqPs : List PV → List PV → Bool
  | [], [] => true
  | x :: xs, y :: ys => eqP x y && eqPs xs ys
  | _, _ => false
end

def edgesOf (o : Oper) : List Nat := (o.after.toList.filter (Region.binds .any)).map (·.on)
def maskEq (ms : List Nat) (i : Nat) (o : Oper) : Bool :=
  Nat.beq (ms.getD i 0) ((edgesOf o).foldl (fun s e => s ||| (2 ^ e ||| ms.getD e 0)) 0)
def masksOk (ms : List Nat) (n : Nat) : List Oper → Nat → Bool
  | [], _ => true
  | o :: os, i => maskEq ms i o && (edgesOf o).all (fun e => Nat.blt e n && !Nat.beq e i) && masksOk ms n os (i + 1)
/-- the order in which a region that draws is run: before each operation that acts only what it needs -/
def emit (ms : List Nat) (need : Nat) : List Nat → List Nat × List Nat
  | [] => ([], [])
  | j :: js => match emit ms need js with
    | (a, b) => bif need.testBit j then (j :: a, b) else (a, j :: b)
def canon (P : Program) (ops : List Oper) (ms : List Nat) : Nat → List Nat → List Nat
  | 0, rest => rest
  | f + 1, rest => match rest.find? (fun j => (kdOf P ((ops[j]?.map (·.op)).getD (.ready 0))).isEff) with
    | none => rest
    | some e => match emit ms (ms.getD e 0 ||| 2 ^ e) rest with
      | (a, b) => a ++ canon P ops ms f b
def pairOk (P : Program) (ops : Array Oper) (ms : List Nat) (y x : Nat) : Bool :=
  match ops[y]?, ops[x]? with
  | some oy, some ox => !(ms.getD y 0).testBit x && ((ms.getD x 0).testBit y || (Oper.apart ops oy ox && !(kdOf P ox.op).isEff))
  | _, _ => false
def pairsOk (P : Program) (ops : Array Oper) (ms : List Nat) : List Nat → Bool
  | [] => true
  | y :: ys => ys.all (pairOk P ops ms y) && pairsOk P ops ms ys
def nodupB : List Nat → Bool
  | [] => true
  | x :: xs => xs.all (fun y => !Nat.beq x y) && nodupB xs
def memB (x : Nat) : List Nat → Bool
  | [] => false
  | y :: ys => Nat.beq x y || memB x ys
def permOk : List Nat → Nat → Bool
  | c, n => Nat.beq c.length n && nodupB c && c.all (fun j => Nat.blt j n) && (List.range n).all (fun j => memB j c)
def masks (ops : Array Oper) : List Nat := (Region.before ops).toList
def okR (P : Program) (ops : Array Oper) (ms c : List Nat) : Bool :=
  P.follows .mixedOrders && masksOk ms ops.size ops.toList 0 && permOk c ops.size && pairsOk P ops ms c

def yielV (ops : Array Oper) (tm : T PV) (j : Nat) : Option Bool :=
  match ops[j]? with
  | some o => match o.dst with
    | some d => match tm.get d with
      | some (.b x) => some x
      | _ => none
    | none => none
  | none => none
def wantV (ops : Array Oper) (tm : T PV) (o : Oper) : Bool := match o.guard with
  | none => true
  | some (j, w) => match yielV ops tm j with
    | some x => x == w
    | none => false
def putT (nt : Nat) (tm : T PV) (d : Option Tmp) (v : PV) : Option (T PV) := match d with
  | none => some tm
  | some d => bif Nat.blt d nt then some (tm.set v d) else none

section
variable (P : Program) (call : FuncId → List PV → HM PV) (nt : Nat) (ops : Array Oper) (base : Nat)
def opVal (i : Nat) (o : Oper) (tm : T PV) (h : H) : Option (PV × H) :=
  bif wantV ops tm o then execC P call (opnd tm) (base + i) o.op h else some (.tup [], h)
def opStep (i : Nat) (o : Oper) (tm : T PV) (h : H) : Option (T PV × H) :=
  match opVal P call ops base i o tm h with
  | some (v, h') => match putT nt tm o.dst v with
    | some tm' => some (tm', h')
    | none => none
  | none => none
def runT : List Oper → Nat → T PV → H → Option (T PV × H)
  | [], _, tm, h => some (tm, h)
  | o :: os, i, tm, h => match opStep P call nt ops base i o tm h with
    | some (tm', h') => runT os (i + 1) tm' h'
    | none => none
/-- a look at a block stands for each moment at which it may be taken -/
def snapOk (ms : List Nat) (i : Nat) (o : Oper) (tm : T PV) (h : H) : List (Nat × H) → Bool
  | [] => true
  | (e, hs) :: sn => ((ms.getD i 0).testBit e || (match execV P (opnd tm) (base + i) o.op h, execV P (opnd tm) (base + i) o.op hs with
      | some (v, _), some (v', _) => eqP v v'
      | _, _ => false)) && snapOk ms i o tm h sn
def touchOk (ms : List Nat) (i : Nat) (b : Nat) : Bool := Nat.blt b base || Nat.ble (base + ops.size) b || (ms.getD i 0).testBit (b - base)
def chk (ms : List Nat) (i : Nat) (o : Oper) (tm : T PV) (h : H) (sn : List (Nat × H)) : Bool :=
  match kdOf P o.op with
  | .quiet => match touch (opnd tm) o.op with
    | none => true
    | some b => touchOk ops base ms i b && snapOk P base ms i o tm h sn
  | _ => true
def snapAdd (i : Nat) (o : Oper) (tm : T PV) (h : H) (sn : List (Nat × H)) : List (Nat × H) :=
  bif (kdOf P o.op).isEff && wantV ops tm o then (i, h) :: sn else sn
def runC (ms : List Nat) : List Nat → T PV → H → List (Nat × H) → Option (T PV × H)
  | [], tm, h, _ => some (tm, h)
  | i :: is, tm, h, sn => match ops[i]? with
    | none => none
    | some o => bif !wantV ops tm o || chk P ops base ms i o tm h sn then
        match opStep P call nt ops base i o tm h with
        | some (tm', h') => runC ms is tm' h' (snapAdd P ops i o tm h sn)
        | none => none
      else none
end

def regionV (P : Program) (call : FuncId → List PV → HM PV) (nt : Nat) (ops : Array Oper) (draw : Bool) (tm : T PV) (h : H) : Option (T PV × H) :=
  bif draw then
    match masks ops with
    | ms => match canon P ops.toList ms ops.size (List.range ops.size) with
      | c => bif okR P ops ms c then runC P call nt ops h.next ms c tm ⟨h.next + ops.size, h.tab⟩ [] else none
  else runT P call nt ops h.next ops.toList 0 tm ⟨h.next + ops.size, h.tab⟩

inductive PX where
  | nm
  | ex (id : Nat)
  | rt
def loopV (body : T PV → H → Option (PX × T PV × H)) : Nat → T PV → H → Option (PX × T PV × H)
  | 0, _, _ => none
  | n + 1, tm, h => match body tm h with
    | some (.nm, tm', h') => loopV body n tm' h'
    | some (.ex i, tm', h') => some (.ex i, tm', h')
    | some (.rt, tm', h') => some (.rt, tm', h')
    | none => none
def codeV (P : Program) (call : FuncId → List PV → HM PV) (nt F : Nat) : Code → T PV → H → Option (PX × T PV × H)
  | .skip, tm, h => some (.nm, tm, h)
  | .label _, tm, h => some (.nm, tm, h)
  | .region _ ops draw, tm, h => match regionV P call nt ops draw tm h with
    | some (tm', h') => some (.nm, tm', h')
    | none => none
  | .seq a b, tm, h => match codeV P call nt F a tm h with
    | some (.nm, tm', h') => codeV P call nt F b tm' h'
    | some (.ex i, tm', h') => some (.ex i, tm', h')
    | some (.rt, tm', h') => some (.rt, tm', h')
    | none => none
  | .cond c x y, tm, h => match opnd tm c with
    | some (.b true) => codeV P call nt F x tm h
    | some (.b false) => codeV P call nt F y tm h
    | _ => none
  | .block id c, tm, h => match codeV P call nt F c tm h with
    | some (.ex j, tm', h') => bif Nat.beq j id then some (.nm, tm', h') else some (.ex j, tm', h')
    | some (.nm, tm', h') => some (.nm, tm', h')
    | some (.rt, tm', h') => some (.rt, tm', h')
    | none => none
  | .loop c, tm, h => loopV (codeV P call nt F c) F tm h
  | .exit id, tm, h => some (.ex id, tm, h)
  | .scope c, tm, h => codeV P call nt F c tm h
  | .ret, tm, h => some (.rt, tm, h)
  | _, _, _ => none

def resV (P : Program) (tm : T PV) : List ResultVar → HM (List PV)
  | [] => ret []
  | .tmp t :: rs => bnd (resV P tm rs) fun l => ret ((tm.get t).getD (.tup []) :: l)
  | .cell a t :: rs => bnd (ldT P t ((tm.get a).getD (.tup []))) fun v => bnd (resV P tm rs) fun l => ret (v :: l)
def one_ : List PV → PV
  | [v] => v
  | l => .tup l
def args_ : List PV → Nat → T PV → T PV
  | [], _, t => t
  | v :: vs, i, t => args_ vs (i + 1) (t.set v i)
def bodyV (P : Program) (call : FuncId → List PV → HM PV) (F : Nat) (fn : Func) (args : List PV) : HM PV := fun h => match fn.body with
  | some c => match codeV P call (max fn.ntmps args.length) F c (args_ args 0 .e) h with
    | some (.ex _, _, _) => none
    | some (_, tm, h') => match resV P tm fn.results.toList h' with
      | some (l, h'') => some (one_ l, h'')
      | none => none
    | none => none
  | none => none
/-- a call: 'ov' answers for some functions in place of their text -/
def callV (P : Program) (ov : FuncId → List PV → HM PV) (F : Nat) : Nat → FuncId → List PV → HM PV
  | 0, _, _, _ => none
  | n + 1, f, args, h => match ov f args h with
    | some r => some r
    | none => match P.funcs[f]? with
      | some fn => bodyV P (callV P ov F n) F fn args h
      | none => none
end Go.Pe
