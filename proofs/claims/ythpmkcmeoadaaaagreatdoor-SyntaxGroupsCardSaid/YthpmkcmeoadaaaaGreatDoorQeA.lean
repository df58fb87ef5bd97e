/- The pure evaluator: values, a heap of numbered blocks, the operations of the program's code. -/
import Derived.Orders
import Derived.LoopN
import Derived.Scope
namespace Go.Pe

/-- finite maps on numbers -/
inductive T (α : Type) where
  | e : T α
  | n (l : T α) (v : Option α) (r : T α) : T α

def T.get {α : Type} : T α → Nat → Option α
  | .e, _ => none
  | .n l v r, k => bif Nat.beq k 0 then v else bif Nat.beq (Nat.mod k 2) 1 then l.get (Nat.div k 2) else r.get (Nat.pred (Nat.div k 2))

def T.single {α : Type} (v : α) : Nat → Nat → T α
  | 0, _ => .n .e (some v) .e
  | f + 1, k => bif Nat.beq k 0 then .n .e (some v) .e else bif Nat.beq (Nat.mod k 2) 1 then .n (T.single v f (Nat.div k 2)) none .e else .n .e none (T.single v f (Nat.pred (Nat.div k 2)))

def T.set {α : Type} (v : α) : T α → Nat → T α
  | .e, k => T.single v k k
  | .n l u r, k => bif Nat.beq k 0 then .n l (some v) r else bif Nat.beq (Nat.mod k 2) 1 then .n (l.set v (Nat.div k 2)) u r else .n l u (r.set v (Nat.pred (Nat.div k 2)))

def T.del {α : Type} : T α → Nat → T α
  | .e, _ => .e
  | .n l u r, k => bif Nat.beq k 0 then .n l none r else bif Nat.beq (Nat.mod k 2) 1 then .n (l.del (Nat.div k 2)) u r else .n l u (r.del (Nat.pred (Nat.div k 2)))

/-- values -/
inductive PV where
  | b (x : Bool)
  | i (k : IntKind) (n : Int)
  | s (x : List Nat)
  | nilp
  | p (b o : Nat)
  | sl (b o n z : Nat) (tight : Bool)
  | agg (l : List PV)
  | tup (l : List PV)
  | nilf
  | fn (f : FuncId) (l : List PV)
  | nili
  | ifc (t : TypeId) (v : PV)
  | nilm
  | m (b : Nat)
  | fl (nil : Bool) (z : Nat) (es : List PV)
  | fp (z : Nat) (es : List PV) (i o : Nat)
  deriving Inhabited

/-- objects: a row of cells (own: the evaluation may write it), a map -/
inductive PO where
  | cells (c : List PV) (own : Bool)
  | map (es : List (PV × PV))

structure H where
  next : Nat
  tab : T PO

def H.get (h : H) (b : Nat) : Option PO := h.tab.get b
def H.put (h : H) (b : Nat) (o : PO) : H := ⟨h.next, h.tab.set o b⟩
def H.del (h : H) (b : Nat) : H := ⟨h.next, h.tab.del b⟩

def HM (α : Type) : Type := H → Option (α × H)
namespace HM
def ret {α : Type} (a : α) : HM α := fun h => some (a, h)
def bnd {α β : Type} (m : HM α) (f : α → HM β) : HM β := fun h =>
  match m h with
  | some (a, h') => f a h'
  | none => none
def no {α : Type} : HM α := fun _ => none
def ofO {α : Type} : Option α → HM α
  | some a => ret a
  | none => no
def rd (b : Nat) : HM PO := fun h =>
  match h.get b with
  | some o => some (o, h)
  | none => none
def wr (b : Nat) (o : PO) : HM Unit := fun h =>
  match h.get b with
  | some _ => some ((), h.put b o)
  | none => none
def kill (b : Nat) : HM Unit := fun h =>
  match h.get b with
  | some _ => some ((), h.del b)
  | none => none
def new (b : Nat) (o : PO) : HM Unit := fun h =>
  match h.get b with
  | some _ => none
  | none => some ((), h.put b o)
end HM
open HM

def mapO {α β : Type} (f : α → Option β) : List α → Option (List β)
  | [] => some []
  | x :: xs => match f x with
    | some y => match mapO f xs with
      | some ys => some (y :: ys)
      | none => none
    | none => none

def PV.one : PV → Bool
  | .agg _ | .tup _ => false
  | _ => true
def PV.cells : PV → List PV
  | .agg l => l
  | v => [v]

def bytesOf (s : ByteArray) : List Nat := s.data.toList.map UInt8.toNat

def ofV1 : Value → Option PV
  | .bool x => some (.b x)
  | .int k n => some (.i k n)
  | .string s => some (.s (bytesOf s))
  | .pointer none => some .nilp
  | .slice none 0 0 => some (.fl true 0 [])
  | .map none => some .nilm
  | .nilFunc => some .nilf
  | .nilIface => some .nili
  | .func (.func f) a b => bif a.isEmpty && b.isEmpty then some (.fn f []) else none
  | _ => none
def ofV : Value → Option PV
  | .agg cs => match mapO ofV1 cs.toList with
    | some l => some (.agg l)
    | none => none
  | .tuple cs => match cs.toList with
    | [] => some (.tup [])
    | _ => none
  | v => ofV1 v

def opnd (tm : T PV) : Operand → Option PV
  | .tmp t => some ((tm.get t).getD (.tup []))
  | .const v => ofV v
  | .func f => some (.fn f [])
  | .global g => bif Nat.blt g 1024 then some (.p g 0) else none

section
variable (P : Program)
def szOf (t : TypeId) : Option Nat := match P.info? t with
  | some i => some i.size
  | none => none
def bytesT (t : TypeId) : Option Nat := match P.info? t with
  | some i => some i.bytes
  | none => none
def isAg (t : TypeId) : Option Bool := match P.underlying t with
  | some (.struct _) => some true
  | some (.array _ _) => some true
  | some _ => some false
  | none => none
def zeroOf (t : TypeId) : Option (List PV) := match P.info? t with
  | some i => match i.zero with
    | some v => mapO ofV1 v.cells.toList
    | none => none
  | none => none
def fieldOf (t : TypeId) (f : Nat) : Option Field := match P.underlying t with
  | some (.struct fs) => fs[f]?
  | _ => none
def elemT (t : TypeId) : Option TypeId := match P.underlying t with
  | some (.slice e) => some e
  | _ => none

/-- the n cells from o on -/
def takeX (n : Nat) (l : List PV) : Option (List PV) :=
  match n, l with
  | 0, _ => some []
  | n + 1, x :: xs => match takeX n xs with
    | some r => some (x :: r)
    | none => none
  | _ + 1, [] => none
/-- cells of an element of a frozen list -/
def rowX (es : List PV) (i o n : Nat) : Option (List PV) := match es[i]? with
  | some e => takeX n (e.cells.drop o)
  | none => none
def rdCells (b o n : Nat) : HM (List PV) := bnd (rd b) fun
  | .cells c _ => ofO (takeX n (c.drop o))
  | .map _ => no
def overlay : List PV → List PV → Option (List PV)
  | [], c => some c
  | v :: vs, _ :: c => match overlay vs c with
    | some r => some (v :: r)
    | none => none
  | _ :: _, [] => none
def putL (vs : List PV) : Nat → List PV → Option (List PV)
  | 0, c => overlay vs c
  | o + 1, x :: c => match putL vs o c with
    | some r => some (x :: r)
    | none => none
  | _ + 1, [] => none
def wrCells (b o : Nat) (vs : List PV) : HM Unit := bnd (rd b) fun
  | .cells c true => bif vs.all PV.one then bnd (ofO (putL vs o c)) fun c' => wr b (.cells c' true) else no
  | _ => no

def ldT (t : TypeId) : PV → HM PV
  | .p b o => match isAg P t with
    | some true => match szOf P t with
      | some n => bnd (rdCells b o n) fun l => ret (.agg l)
      | none => no
    | some false => bnd (rdCells b o 1) fun
      | [v] => ret v
      | _ => no
    | none => no
  | .fp _ es i o => match isAg P t with
    | some true => match szOf P t with
      | some n => bnd (ofO (rowX es i o n)) fun l => ret (.agg l)
      | none => no
    | some false => bnd (ofO (rowX es i o 1)) fun
      | [v] => ret v
      | _ => no
    | none => no
  | _ => no
def stT (t : TypeId) (a v : PV) : HM PV := match a with
  | .p b o => match szOf P t with
    | some n => bif Nat.beq v.cells.length n then bnd (wrCells b o v.cells) fun _ => ret (.tup []) else no
    | none => no
  | _ => no

def fillL (place : Nat → Option (Nat × Nat)) (c : List PV) : List (Nat × PV) → Option (List PV)
  | [] => some c
  | (i, v) :: rest => match place i with
    | some (o, n) => bif Nat.beq v.cells.length n && v.cells.all PV.one then
        match putL v.cells o c with
        | some c' => fillL place c' rest
        | none => none
      else none
    | none => none
def partF (ev : Operand → Option PV) (x : Nat × Operand) : Option (Nat × PV) := match ev x.2 with
  | some v => some (x.1, v)
  | none => none
def partsO (ev : Operand → Option PV) (l : List (Nat × Operand)) : Option (List (Nat × PV)) := mapO (partF ev) l
def rep (z : List PV) : Nat → List PV
  | 0 => []
  | n + 1 => z ++ rep z n
def placesO (fs : List Field) : Option (List (Nat × Nat)) := mapO (fun f => match szOf P f.type with
  | some n => some (f.offset, n)
  | none => none) fs
def buildV (t : TypeId) (l : List (Nat × PV)) : Option PV := match zeroOf P t with
  | some z => match P.underlying t with
    | some (.struct fs) => match placesO P fs.toList with
      | some pl => match fillL (fun i => pl[i]?) z l with
        | some c => some (.agg c)
        | none => none
      | none => none
    | some (.array _ e) => match szOf P e with
      | some n => match fillL (fun i => some (i * n, n)) z l with
        | some c => some (.agg c)
        | none => none
      | none => none
    | _ => none
  | none => none
def buildS (t : TypeId) (len : Nat) (l : List (Nat × PV)) : Option (List PV) := match elemT P t with
  | some e => match szOf P e with
    | some n => bif Nat.ble (len * n) 16777216 then match zeroOf P e with
      | some z => bif Nat.beq z.length n then fillL (fun i => some (i * n, n)) (rep z len) l else none
      | none => none
      else none
    | none => none
  | none => none

def inI64 (n : Int) : Bool := decide (-9223372036854775808 ≤ n) && decide (n < 9223372036854775808)
def wrapF (k : IntKind) (n : Int) : Int := match k with
  | .i64 => bif inI64 n then n else k.wrap n
  | _ => k.wrap n
def natIx : PV → Option Nat
  | .i _ (.ofNat n) => some n
  | _ => none
def partV (t : TypeId) (c : List PV) (o : Nat) : Option PV := match isAg P t with
  | some true => match szOf P t with
    | some n => match takeX n (c.drop o) with
      | some l => some (.agg l)
      | none => none
    | none => none
  | some false => c[o]?
  | none => none

def bLess : List Nat → List Nat → Bool
  | _, [] => false
  | [], _ :: _ => true
  | a :: x, b :: y => Nat.blt a b || (Nat.beq a b && bLess x y)
def bEq : List Nat → List Nat → Bool
  | [], [] => true
  | a :: x, b :: y => Nat.beq a b && bEq x y
  | _, _ => false
def arith (op : BinOp) (k : IntKind) (a b : Int) : Option PV := match op with
  | .add => some (.i k (wrapF k (a + b)))
  | .sub => some (.i k (wrapF k (a - b)))
  | .mul => some (.i k (wrapF k (a * b)))
  | .quo => bif decide (b = 0) then none else some (.i k (wrapF k (a.tdiv b)))
  | .rem => bif decide (b = 0) then none else some (.i k (a.tmod b))
  | .eql => some (.b (decide (a = b)))
  | .neq => some (.b (!decide (a = b)))
  | .lss => some (.b (decide (a < b)))
  | .leq => some (.b (decide (a ≤ b)))
  | .gtr => some (.b (decide (b < a)))
  | .geq => some (.b (decide (b ≤ a)))
  | .and => some (.i k (k.wrap ((BitVec.ofInt k.bits a &&& BitVec.ofInt k.bits b).toNat)))
  | .or => some (.i k (k.wrap ((BitVec.ofInt k.bits a ||| BitVec.ofInt k.bits b).toNat)))
  | .xor => some (.i k (k.wrap ((BitVec.ofInt k.bits a ^^^ BitVec.ofInt k.bits b).toNat)))
  | .andNot => some (.i k (k.wrap ((BitVec.ofInt k.bits a &&& ~~~(BitVec.ofInt k.bits b)).toNat)))
  | _ => none
def shiftV (op : BinOp) (k : IntKind) (a b : Int) : Option PV := bif decide (b < 0) then none else
  match op with
  | .shl => some (.i k (k.wrap (a * 2 ^ (min b.toNat k.bits))))
  | .shr => some (.i k (a.fdiv (2 ^ (min b.toNat k.bits))))
  | _ => none
def strV (op : BinOp) (a b : List Nat) : Option PV := match op with
  | .add => bif Nat.ble (a.length + b.length) 9223372036854775807 then some (.s (a ++ b)) else none
  | .eql => some (.b (bEq a b))
  | .neq => some (.b (!bEq a b))
  | .lss => some (.b (bLess a b))
  | .leq => some (.b (bLess a b || bEq a b))
  | .gtr => some (.b (!(bLess a b || bEq a b)))
  | .geq => some (.b (!bLess a b))
  | _ => none
def eqFs (eq : TypeId → PV → PV → Option Bool) : List Field → List PV → List PV → Option Bool
  | [], _, _ => some true
  | f :: fs, xs, ys => if f.name = "_" then eqFs eq fs xs ys else
    match partV P f.type xs f.offset, partV P f.type ys f.offset with
    | some a, some b => match eq f.type a b with
      | some true => eqFs eq fs xs ys
      | some false => some false
      | none => none
    | _, _ => none
def eqV : Nat → TypeId → PV → PV → Option Bool
  | 0, _, _, _ => none
  | d + 1, t, x, y => match P.underlying t, x, y with
    | some .bool, .b a, .b b => some (a == b)
    | some (.int _), .i k a, .i k' b => if k = k' then some (decide (a = b)) else none
    | some .string, .s a, .s b => some (bEq a b)
    | some (.pointer _), .nilp, .nilp => some true
    | some (.pointer _), .nilp, .p _ _ => some false
    | some (.pointer _), .p _ _, .nilp => some false
    | some (.interface _), .nili, .ifc _ _ => some false
    | some (.interface _), .ifc _ _, .nili => some false
    | some (.interface _), .nili, .nili => some true
    | some (.slice _), .fl b _ _, .fl true _ _ => some b
    | some (.slice _), .fl true _ _, .sl _ _ _ _ _ => some false
    | some (.slice _), .sl _ _ _ _ _, .fl true _ _ => some false
    | some (.map _ _), .nilm, .nilm => some true
    | some (.map _ _), .nilm, .m _ => some false
    | some (.map _ _), .m _, .nilm => some false
    | some (.func _ _ _), .nilf, .nilf => some true
    | some (.func _ _ _), .nilf, .fn _ _ => some false
    | some (.func _ _ _), .fn _ _, .nilf => some false
    | some (.struct fs), .agg xs, .agg ys => bif P.stoodInHeld t then none else eqFs P (eqV d) fs.toList xs ys
    | some (.slice _), .fl true _ _, .fl b _ _ => some b
    | some (.pointer _), .nilp, .fp _ _ _ _ => some false
    | some (.pointer _), .fp _ _ _ _, .nilp => some false
    | _, _, _ => none
def isC : Operand → Bool
  | .const _ => true
  | _ => false
def eqOk (t : TypeId) (x y : Operand) : PV → PV → Bool
  | .nili, .nili => isC x || isC y
  | .agg _, .agg _ => !P.eqGuardType P.depth t
  | _, _ => true
def binV (op : BinOp) (t : TypeId) (x y : Operand) (a b : PV) : Option PV := match op, a, b with
  | .shl, .i k m, .i _ n => shiftV .shl k m n
  | .shr, .i k m, .i _ n => shiftV .shr k m n
  | _, .i k m, .i k' n => if k = k' then arith op k m n else none
  | _, .s m, .s n => strV op m n
  | .eql, a, b => bif eqOk P t x y a b then match eqV P 10000 t a b with
    | some r => some (.b r)
    | none => none
    else none
  | .neq, a, b => bif eqOk P t x y a b then match eqV P 10000 t a b with
    | some r => some (.b (!r))
    | none => none
    else none
  | _, _, _ => none
def unV (op : UnOp) : PV → Option PV
  | .i k n => match op with
    | .neg => some (.i k (wrapF k (0 - n)))
    | _ => none
  | .b x => match op with
    | .not => some (.b (!x))
    | _ => none
  | _ => none

def bound (ev : Operand → Option PV) (d : Nat) : Option Operand → Option Nat
  | none => some d
  | some x => match ev x with
    | some v => natIx v
    | none => none
def sliceV (t : TypeId) (x : PV) (lo hi mx : Option Nat) : Option PV := match P.underlying t, x with
  | some .string, .s s => match mx with
    | some _ => none
    | none =>
      let h := hi.getD s.length
      let l := lo.getD 0
      bif Nat.ble l h && Nat.ble h s.length then some (.s ((s.take h).drop l)) else none
  | some (.slice e), .sl b o n z tg => match szOf P e with
    | some z' =>
      let h := hi.getD n
      let l := lo.getD 0
      bif Nat.beq z z' then match mx with
        | none => bif Nat.ble l h && Nat.ble h n then some (.sl b (o + l * z) (h - l) z (tg && Nat.beq h n)) else none
        | some m => match hi with
          | some h => bif Nat.ble l h && Nat.ble h m && Nat.ble m n then some (.sl b (o + l * z) (h - l) z (Nat.beq m h)) else none
          | none => none
      else none
    | none => none
  | some (.slice e), .fl b z es => match szOf P e, mx with
    | some z', none =>
      let h := hi.getD es.length
      let l := lo.getD 0
      bif (b || Nat.beq z z') && Nat.ble l h && Nat.ble h es.length then some (.fl b z ((es.take h).drop l)) else none
    | some z', some m => match hi with
      | some h => bif (b || Nat.beq z z') && Nat.beq (lo.getD 0) h && Nat.beq h m && Nat.ble h es.length then some (bif b then .fl true z [] else .sl 0 0 0 z true) else none
      | none => none
    | _, _ => none
  | _, _ => none

/-- what an append brings: how many elements, and their cells -/
def flatL : List PV → List PV
  | [] => []
  | e :: es => e.cells ++ flatL es
def newCells (z : Nat) : PV → HM (Nat × List PV)
  | .s l => bif Nat.beq z 1 then ret (l.length, l.map fun c => .i .u8 (Int.ofNat c)) else no
  | .sl b o n z' _ => bif Nat.beq n 0 then ret (0, []) else bif Nat.beq z z' then bnd (rdCells b o (n * z)) fun l => ret (n, l) else no
  | .fl b z' es => bif b || Nat.beq z z' then ret (es.length, flatL es) else no
  | _ => no
def room (n : Nat) : Bool := Nat.ble n 140737488355328
def appendV (t : TypeId) (id : Nat) (s x : PV) : HM PV := match elemT P t with
  | some e => match szOf P e, bytesT P e, zeroOf P e with
    | some z, some by_, some zs => bif Nat.beq z 0 || Nat.beq by_ 0 || !Nat.beq zs.length z then no else bnd (newCells z x) fun r =>
      bif r.2.all PV.one && Nat.beq r.2.length (r.1 * z) then (match s with
        | .fl true _ _ => bif Nat.beq r.1 0 then ret (.fl true 0 []) else bif room (r.1 * by_) then bnd (new id (.cells r.2 true)) fun _ => ret (.sl id 0 r.1 z false) else no
        | .sl b o n z' tg => bif Nat.beq z z' then (bif Nat.beq r.1 0 then ret (.sl b o n z tg) else
            bif room ((n + r.1) * by_) then
            (bif Nat.beq n 0 && tg then bnd (new id (.cells r.2 true)) fun _ => ret (.sl id 0 r.1 z false)
            else bnd (rd b) fun
              | .cells c own => bnd (ofO (takeX (n * z) (c.drop o))) fun l =>
                bif tg then bnd (new id (.cells (l ++ r.2) true)) fun _ => ret (.sl id 0 (n + r.1) z false)
                else bif own then bnd (kill b) fun _ => bnd (new id (.cells (l ++ r.2) true)) fun _ => ret (.sl id 0 (n + r.1) z false) else no
              | .map _ => no) else no) else no
        | _ => no) else no
    | _, _, _ => no
  | none => no
def copyV (t : TypeId) (d x : PV) : HM PV := match elemT P t with
  | some e => match szOf P e with
    | some z => (match d with
      | .sl b o n z1 _ => bif Nat.beq z z1 then (match x with
        | .s l => bif Nat.beq z 1 then bnd (wrCells b o ((l.take n).map fun c => .i .u8 (Int.ofNat c))) fun _ => ret (.i .i64 (Int.ofNat (min l.length n))) else no
        | .sl b' o' n' z2 _ => bif Nat.beq z z2 then bnd (rdCells b' o' (min n' n * z)) fun l => bnd (wrCells b o l) fun _ => ret (.i .i64 (Int.ofNat (min n' n))) else no
        | .fl nb z2 es => bif nb || Nat.beq z z2 then bnd (wrCells b o (flatL (es.take n))) fun _ => ret (.i .i64 (Int.ofNat (min es.length n))) else no
        | _ => no) else no
      | _ => no)
    | none => no
  | none => no
def lenV (t : TypeId) (x : PV) : HM PV := match P.underlying t, x with
  | some .string, .s l => ret (.i .i64 (Int.ofNat l.length))
  | some (.slice _), .sl _ _ n _ _ => ret (.i .i64 (Int.ofNat n))
  | some (.array n _), _ => ret (.i .i64 (Int.ofNat n))
  | some (.map _ _), .nilm => ret (.i .i64 0)
  | some (.map _ _), .m b => bnd (rd b) fun
    | .map es => ret (.i .i64 (Int.ofNat es.length))
    | .cells _ _ => no
  | some (.slice _), .fl _ _ es => ret (.i .i64 (Int.ofNat es.length))
  | _, _ => no
def minmax (lt : Int → Int → Bool) : PV → List PV → Option PV
  | v, [] => some v
  | .i k x, .i k' y :: rest => if k = k' then minmax lt (.i k (bif lt y x then y else x)) rest else none
  | _, _ => none
/-- the keys of maps -/
def keyEq (t : TypeId) (a b : PV) : Option Bool := match P.underlying t, a, b with
  | some (.int _), .i k x, .i k' y => if k = k' then some (decide (x = y)) else none
  | some .string, .s x, .s y => some (bEq x y)
  | some .bool, .b x, .b y => some (x == y)
  | _, _, _ => none
def findM (t : TypeId) (k : PV) : List (PV × PV) → Option (Option PV)
  | [] => some none
  | (k', v) :: es => match keyEq P t k k' with
    | some true => some (some v)
    | some false => findM t k es
    | none => none
def putM (t : TypeId) (k v : PV) : List (PV × PV) → Option (List (PV × PV))
  | [] => some [(k, v)]
  | (k', v') :: es => match keyEq P t k k' with
    | some true => some ((k, v) :: es)
    | some false => match putM t k v es with
      | some r => some ((k', v') :: r)
      | none => none
    | none => none
def delM (t : TypeId) (k : PV) : List (PV × PV) → Option (List (PV × PV))
  | [] => some []
  | (k', v') :: es => match keyEq P t k k' with
    | some true => some es
    | some false => match delM t k es with
      | some r => some ((k', v') :: r)
      | none => none
    | none => none
def keyKind (t : TypeId) (k : PV) : Bool := match P.underlying t, k with
  | some (.int _), .i _ _ => true
  | some .string, .s _ => true
  | some .bool, .b _ => true
  | _, _ => false
def mapTs (t : TypeId) : Option (TypeId × TypeId) := match P.underlying t with
  | some (.map k e) => some (k, e)
  | _ => none
def zeroV (t : TypeId) : Option PV := match P.info? t with
  | some i => match i.zero with
    | some v => ofV v
    | none => none
  | none => none
def lookupV (t : TypeId) (x k : PV) (ok : Bool) : HM PV := match mapTs P t with
  | some (kt, et) => bif keyKind P kt k then
      bnd (match x with
        | .nilm => ret []
        | .m b => bnd (rd b) fun
          | .map es => ret es
          | .cells _ _ => no
        | _ => no) fun es => match findM P kt k es with
      | some (some v) => ret (bif ok then .tup [v, .b true] else v)
      | some none => match zeroV P et with
        | some z => ret (bif ok then .tup [z, .b false] else z)
        | none => no
      | none => no
    else no
  | none => no
def updateV (t : TypeId) (x k v : PV) : HM PV := match mapTs P t, x with
  | some (kt, _), .m b => bif keyKind P kt k then bnd (rd b) fun
      | .map es => bnd (ofO (putM P kt k v es)) fun es' => bnd (wr b (.map es')) fun _ => ret (.tup [])
      | .cells _ _ => no
    else no
  | _, _ => no
def deleteV (t : TypeId) (x k : PV) : HM PV := match mapTs P t, x with
  | some (kt, _), .m b => bif keyKind P kt k then bnd (rd b) fun
      | .map es => bnd (ofO (delM P kt k es)) fun es' => bnd (wr b (.map es')) fun _ => ret (.tup [])
      | .cells _ _ => no
    else no
  | some (kt, _), .nilm => bif keyKind P kt k then ret (.tup []) else no
  | _, _ => no
def byteOf : PV → Option Nat
  | .i .u8 (.ofNat c) => bif Nat.blt c 256 then some c else none
  | _ => none
def convV (src dst : TypeId) (id : Nat) (x : PV) : HM PV := match P.underlying src, P.underlying dst, x with
  | some _, some (.int k), .i _ n => ret (.i k (wrapF k n))
  | some _, some .string, .s l => ret (.s l)
  | some _, some (.slice e), .s l => (match P.underlying e with
    | some (.int .u8) => bif Nat.beq l.length 0 then no else bnd (new id (.cells (l.map fun c => .i .u8 (Int.ofNat c)) true)) fun _ => ret (.sl id 0 l.length 1 false)
    | _ => no)
  | some (.slice e), some .string, x => (match P.underlying e with
    | some (.int .u8) => (match x with
      | .sl b o n z _ => bif Nat.beq n 0 then ret (.s []) else bif Nat.beq z 1 then bnd (rdCells b o n) fun l => match mapO byteOf l with
        | some r => ret (.s r)
        | none => no else no
      | .fl _ z es => bif Nat.beq es.length 0 then ret (.s []) else bif Nat.beq z 1 then match mapO byteOf (flatL es) with
        | some r => ret (.s r)
        | none => no else no
      | _ => no)
    | _ => no)
  | _, _, _ => no

def optO {α β : Type} (f : α → Option β) : Option α → Option (Option β)
  | none => some none
  | some x => match f x with
    | some y => some (some y)
    | none => none

/-- a builtin function -/
def builtinV (b : Builtin) (ts : List TypeId) (id : Nat) (args : List PV) : HM PV := match b, args, ts with
  | .len, [x], [t] => lenV P t x
  | .append, [s, x], [t, t'] => (match P.underlying t' with
    | some (.int _) => no
    | some _ => appendV P t id s x
    | none => no)
  | .copy, [d, x], [t, _] => copyV P t d x
  | .min, x :: rest, _ => ofO (minmax (fun y x => decide (y < x)) x rest)
  | .max, x :: rest, _ => ofO (minmax (fun y x => decide (x < y)) x rest)
  | .delete, [m, k], [t, _] => deleteV P t m k
  | _, _, _ => no

/-- one operation but a call of a Go function; id: the block that it may make -/
def execV (ev : Operand → Option PV) (id : Nat) : Op → HM PV
  | .move x => ofO (ev x)
  | .assign x => ofO (ev x)
  | .pick c a b => bnd (ofO (ev c)) fun
    | .b true => ofO (ev a)
    | .b false => ofO (ev b)
    | _ => no
  | .alloc t => bnd (ofO (zeroOf P t)) fun z => bnd (new id (.cells z true)) fun _ => ret (.p id 0)
  | .box _ x => bnd (ofO (ev x)) fun v => bif v.cells.all PV.one then bnd (new id (.cells v.cells true)) fun _ => ret (.p id 0) else no
  | .build t ps => bnd (ofO (partsO ev ps.toList)) fun l => ofO (buildV P t l)
  | .buildSlice t n ps => bnd (ofO (partsO ev ps.toList)) fun l => bnd (ofO (buildS P t n l)) fun c => bnd (ofO (elemT P t)) fun e => bnd (ofO (szOf P e)) fun z => bnd (new id (.cells c true)) fun _ => ret (.sl id 0 n z true)
  | .load t a => bnd (ofO (ev a)) fun v => ldT P t v
  | .store t a x => bnd (ofO (ev a)) fun v => bnd (ofO (ev x)) fun u => stT P t v u
  | .nilCheck x => bnd (ofO (ev x)) fun
    | .p b o => ret (.p b o)
    | .fp z es i o => ret (.fp z es i o)
    | _ => no
  | .binOp op t x y _ => bnd (ofO (ev x)) fun a => bnd (ofO (ev y)) fun b => ofO (binV P op t x y a b)
  | .unOp op _ x => bnd (ofO (ev x)) fun a => ofO (unV op a)
  | .convert s d x => bnd (ofO (ev x)) fun v => convV P s d id v
  | .makeInterface t x => bnd (ofO (ev x)) fun v => (match P.underlying t with
    | some (.interface _) => no
    | some _ => ret (.ifc t v)
    | none => no)
  | .makeFunc (.func f) fs cs => bif fs.isEmpty then bnd (ofO (mapO ev cs.toList)) fun l => ret (.fn f l) else no
  | .makeMap _ none => bnd (new id (.map [])) fun _ => ret (.m id)
  | .makeSlice t l c => bnd (ofO (ev l)) fun a => bnd (ofO (ev c)) fun b => (match natIx a, natIx b, elemT P t with
    | some l, some c, some e => (match szOf P e, bytesT P e, zeroOf P e with
      | some z, some by_, some zs => bif Nat.ble l c && Nat.ble (c * by_) 140737488355328 && Nat.beq zs.length z && Nat.ble c 9223372036854775807 then
          bnd (new id (.cells (rep zs c) true)) fun _ => ret (.sl id 0 l z (Nat.beq l c)) else no
      | _, _, _ => no)
    | _, _, _ => no)
  | .slice t x lo hi mx => bnd (ofO (ev x)) fun v => (match optO (fun x => (ev x).bind natIx) lo, optO (fun x => (ev x).bind natIx) hi, optO (fun x => (ev x).bind natIx) mx with
    | some lo, some hi, some mx => ofO (sliceV P t v lo hi mx)
    | _, _, _ => no)
  | .fieldAddr t x f => bnd (ofO (ev x)) fun
    | .p b o => (match fieldOf P t f with
      | some g => (match szOf P g.type with
        | some (_ + 1) => ret (.p b (o + g.offset))
        | _ => no)
      | none => no)
    | .fp z es i o => (match fieldOf P t f with
      | some g => (match szOf P g.type with
        | some (_ + 1) => ret (.fp z es i (o + g.offset))
        | _ => no)
      | none => no)
    | _ => no
  | .field t x f => bnd (ofO (ev x)) fun
    | .agg c => (match fieldOf P t f with
      | some g => ofO (partV P g.type c g.offset)
      | none => no)
    | _ => no
  | .indexAddr t x y => bnd (ofO (ev x)) fun v => bnd (ofO (ev y)) fun k => (match natIx k, P.underlying t, v with
    | some j, some (.slice e), .sl b o n _ _ => bif Nat.blt j n then (match szOf P e with
        | some z => ret (.p b (o + j * z))
        | none => no) else no
    | some j, some (.array n e), .p b o => bif Nat.blt j n then (match szOf P e with
        | some z => ret (.p b (o + j * z))
        | none => no) else no
    | some j, some (.slice e), .fl b z es => bif Nat.blt j es.length then (match szOf P e with
        | some z' => bif b || Nat.beq z z' then ret (.fp z es j 0) else no
        | none => no) else no
    | some j, some (.array n e), .fp z es i o => bif Nat.blt j n then (match szOf P e with
        | some z' => ret (.fp z es i (o + j * z'))
        | none => no) else no
    | _, _, _ => no)
  | .index t x y => bnd (ofO (ev x)) fun v => bnd (ofO (ev y)) fun k => (match natIx k, P.underlying t, v with
    | some j, some .string, .s l => (match l[j]? with
      | some c => ret (.i .u8 (Int.ofNat c))
      | none => no)
    | some j, some (.array n e), .agg c => bif Nat.blt j n then (match szOf P e with
        | some z => ofO (partV P e c (j * z))
        | none => no) else no
    | _, _, _ => no)
  | .lookup t x k ok => bnd (ofO (ev x)) fun v => bnd (ofO (ev k)) fun u => lookupV P t v u ok
  | .mapUpdate t m k x => bnd (ofO (ev m)) fun a => bnd (ofO (ev k)) fun b => bnd (ofO (ev x)) fun c => updateV P t a b c
  | .insert t m k x => bnd (ofO (ev m)) fun a => bnd (ofO (ev k)) fun b => bnd (ofO (ev x)) fun c => updateV P t a b c
  | .extract x n => bnd (ofO (ev x)) fun
    | .tup l => ofO (l[n]?)
    | _ => no
  | .call { callee := .builtin b, args, argTypes } => bnd (ofO (mapO ev args.toList)) fun l => builtinV P b argTypes.toList id l
  | _ => no

/-- calls of Go functions: how a call answers is handed in -/
def execC (call : FuncId → List PV → HM PV) (ev : Operand → Option PV) (id : Nat) : Op → HM PV
  | .call { callee := .value f, args, .. } => bnd (ofO (ev f)) fun
    | .fn g cap => bnd (ofO (mapO ev args.toList)) fun l => call g (l ++ cap)
    | _ => no
  | op => execV P ev id op
end
end Go.Pe
