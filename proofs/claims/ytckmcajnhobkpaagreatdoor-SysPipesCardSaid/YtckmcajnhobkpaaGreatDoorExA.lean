/- The executor: what a closed call computes, whatever the world around it. Data and definitions. -/
import Derived.Orders
import Derived.Scope
import Derived.KernelRfl
set_option linter.unusedVariables false
set_option linter.unusedSimpArgs false
set_option linter.deprecated false
namespace Go.Proofs.YtckmcajnhobkpaaGreatDoor.Zz
open Go

/-- a table by numbers -/
inductive Tr (α : Type) where
  | lf
  | nd (v : Option α) (l r : Tr α)
def Tr.get {α : Type} : Tr α → Nat → Option α
  | .lf, _ => none
  | .nd v l r, n => bif Nat.beq n 0 then v else bif Nat.beq (n % 2) 1 then l.get (n / 2) else r.get (n / 2 - 1)
def Tr.ins {α : Type} (x : α) : Nat → Tr α → Nat → Tr α
  | 0, t, _ => t
  | f + 1, .lf, n => bif Nat.beq n 0 then .nd (some x) .lf .lf else bif Nat.beq (n % 2) 1 then .nd none (Tr.ins x f .lf (n / 2)) .lf else .nd none .lf (Tr.ins x f .lf (n / 2 - 1))
  | f + 1, .nd v l r, n => bif Nat.beq n 0 then .nd (some x) l r else bif Nat.beq (n % 2) 1 then .nd v (Tr.ins x f l (n / 2)) r else .nd v l (Tr.ins x f r (n / 2 - 1))
def Tr.put {α : Type} (t : Tr α) (n : Nat) (x : α) : Tr α := Tr.ins x (n + 1) t n

/-- what a value is, with places by the executor's own numbers -/
inductive AV where
  | int (k : IntKind) (n : Int)
  | bool (b : Bool)
  | str (s : List UInt8)
  | ptr0
  | ptr (A i : Nat)
  | sl0
  | sl (A i len cap sz : Nat) (ex : Bool)
  | map0
  | map (A : Nat)
  | fn (f : Fn) (first cap : List AV)
  | fn0
  | ifc (t : TypeId) (v : AV)
  | ifc0
  | agg (l : List AV)
  | tup (l : List AV)
  | opq (k : Nat)
  | pan (v : AV)
/-- cells: those that were written, and, of the first n others, a row that comes again and again -/
structure CT where
  t : Tr AV
  d : List AV
  z : Nat
  n : Nat
def nthL : List AV → Nat → Option AV
  | [], _ => none
  | a :: l, i => bif Nat.beq i 0 then some a else nthL l (i - 1)
def CT.get (c : CT) (k : Nat) : Option AV := match c.t.get k with
  | some v => some v
  | none => bif Nat.blt k c.n then nthL c.d (k % c.z) else none
def CT.put (c : CT) (k : Nat) (x : AV) : CT := ⟨c.t.put k x, c.d, c.z, c.n⟩
def CT.lf : CT := ⟨.lf, [], 0, 0⟩
/-- a block -/
inductive ABlk where
  | cells (c : CT) (n : Nat) (e : TypeId) (frz : Nat) (odd : Bool)
  | map (es : List (AV × AV × Nat)) (clk : Nat)
  | siter (s : List UInt8) (pos : Nat)
  | miter (a : Option Nat) (since : Nat) (seen : List Nat) (last : Nat)
  | mforce (a : Option Nat) (since : Nat) (seen : List Nat) (last : Nat) (c : Option (AV × AV × Nat)) (clk : Nat)
  | dead
  | abs (k : Nat)
structure ASt where
  heap : Tr ABlk
  next : Nat
  log : List Nat
/-- a step of the executor; 'none': it does not know -/
abbrev M (α : Type) := ASt → Option (α × ASt)
def fail {α : Type} : M α := fun _ => none
def ret {α : Type} (a : α) : M α := fun s => some (a, s)
def bnd {α β : Type} (x : M α) (f : α → M β) : M β := fun s => match x s with
  | none => none
  | some (a, s') => f a s'
def opt {α : Type} : Option α → M α
  | none => fail
  | some a => ret a
def rd (A : Nat) : M ABlk := fun s => match s.heap.get A with
  | some b => some (b, ⟨s.heap, s.next, (2 * A) :: s.log⟩)
  | none => none
def wr (A : Nat) (b : ABlk) : M Unit := fun s => match s.heap.get A with
  | some _ => some ((), ⟨s.heap.put A b, s.next, (2 * A + 1) :: s.log⟩)
  | none => none
def nw (b : ABlk) : M Nat := fun s => some (s.next, ⟨s.heap.put s.next b, s.next + 1, (2 * s.next + 1) :: s.log⟩)

/-! ### values -/
def ofCell : Value → Option AV
  | .int k n => some (.int k n)
  | .bool b => some (.bool b)
  | .string s => some (.str s.data.toList)
  | .pointer none => some .ptr0
  | .slice none 0 0 => some .sl0
  | .map none => some .map0
  | .nilFunc => some .fn0
  | .nilIface => some .ifc0
  | _ => none
def ofCells : List Value → Option (List AV)
  | [] => some []
  | v :: l => match ofCell v with
    | some a => match ofCells l with
      | some r => some (a :: r)
      | none => none
    | none => none
def ofV : Value → Option AV
  | .agg l => match ofCells l.toList with
    | some r => some (.agg r)
    | none => none
  | .tuple l => match ofCells l.toList with
    | some r => some (.tup r)
    | none => none
  | v => ofCell v
def cellsA : AV → List AV
  | .agg l => l
  | v => [v]
def oneA : AV → Bool
  | .agg _ | .tup _ => false
  | _ => true
def allOne : List AV → Bool
  | [] => true
  | v :: l => oneA v && allOne l
def getN (c : CT) : Nat → Nat → Option (List AV)
  | _, 0 => some []
  | i, k + 1 => match c.get i with
    | some v => match getN c (i + 1) k with
      | some l => some (v :: l)
      | none => none
    | none => none
def putL (c : CT) : Nat → List AV → CT
  | _, [] => c
  | i, v :: l => putL (c.put i v) (i + 1) l
def undefA : AV := .tup []
/-- the temporaries ('some none': one that is not known), what is deferred (the last one first), what was panicked with -/
structure Tm where
  t : Tr (Option AV)
  d : List AV
  p : Option AV
def Tm.get (tm : Tm) (n : Nat) : Option (Option AV) := tm.t.get n
def Tm.put (tm : Tm) (n : Nat) (x : Option AV) : Tm := ⟨tm.t.put n x, tm.d, tm.p⟩
/-- no temporary is written, nothing deferred, no panic -/
def Tm.nil : Tm := ⟨.lf, [], none⟩
def aval (tm : Tm) : Operand → Option AV
  | .tmp t => match tm.get t with
    | some x => x
    | none => some undefA
  | .const v => ofV v
  | .global _ => none
  | .func f => some (.fn (.func f) [] [])
def avals (tm : Tm) : List Operand → Option (List AV)
  | [] => some []
  | x :: l => match aval tm x with
    | some a => match avals tm l with
      | some r => some (a :: r)
      | none => none
    | none => none

/-! ### memory -/
def loadC (A i k : Nat) : M (List AV) := bnd (rd A) fun b => match b with
  | .cells c _ _ _ _ => opt (getN c i k)
  | _ => fail
def load1 (A i : Nat) : M AV := bnd (rd A) fun b => match b with
  | .cells c _ _ _ _ => opt (c.get i)
  | _ => fail
def storeC (A i : Nat) (l : List AV) : M Unit := bnd (rd A) fun b => match b with
  | .cells c n e frz odd => bif Nat.ble frz i && Nat.ble (i + l.length) n && allOne l then wr A (.cells (putL c i l) n e frz odd) else fail
  | _ => fail
def newC (e : TypeId) (l : List AV) : M Nat := bif allOne l then nw (.cells (putL .lf 0 l) l.length e 0 false) else fail
/-- so many times the same row -/
def newR (e : TypeId) (d : List AV) (k : Nat) : M Nat := bif allOne d then nw (.cells ⟨.lf, d, d.length, k * d.length⟩ (k * d.length) e 0 false) else fail
def newS (e : TypeId) (l : List AV) : M Nat := bif allOne l then nw (.cells (putL .lf 0 l) l.length e 0 true) else fail
def isAggT (P : Program) (t : TypeId) : Option Bool := match P.underlying t with
  | some (.struct _) | some (.array _ _) => some true
  | some _ => some false
  | none => none
def sizeT (P : Program) (t : TypeId) : Option Nat := match P.info? t with
  | some i => some i.size
  | none => none
def zeroT (P : Program) (t : TypeId) : Option AV := match P.info? t with
  | some i => match i.zero with
    | some v => ofV v
    | none => none
  | none => none
def loadT (P : Program) (t : TypeId) (A i : Nat) : M AV := match isAggT P t with
  | some true => bnd (opt (sizeT P t)) fun n => bnd (loadC A i n) fun l => ret (.agg l)
  | some false => load1 A i
  | none => fail
def storeT (P : Program) (t : TypeId) (A i : Nat) (v : AV) : M Unit := bnd (opt (sizeT P t)) fun n =>
  bif Nat.beq (cellsA v).length n then storeC A i (cellsA v) else fail
def partT (P : Program) (t : TypeId) (l : List AV) (off : Nat) : M AV := match isAggT P t with
  | some true => bnd (opt (sizeT P t)) fun n => ret (.agg ((l.drop off).take n))
  | some false => opt (l[off]?)
  | none => fail

/-! ### arithmetic -/
def inK (k : IntKind) (n : Int) : Bool := match k, n with
  | .i64, .ofNat m => Nat.blt m 9223372036854775808
  | .i64, .negSucc m => Nat.blt m 9223372036854775808
  | .u8, .ofNat m => Nat.blt m 256
  | .i32, .ofNat m => Nat.blt m 2147483648
  | .u64, .ofNat m => Nat.blt m 18446744073709551616
  | .u32, .ofNat m => Nat.blt m 4294967296
  | _, _ => false
def wrapA (k : IntKind) (n : Int) : Int := bif inK k n then n else k.wrap n
def eqB : List UInt8 → List UInt8 → Bool
  | [], [] => true
  | a :: l, b :: r => Nat.beq a.toNat b.toNat && eqB l r
  | _, _ => false
def eqInt : Int → Int → Bool
  | .ofNat a, .ofNat b => Nat.beq a b
  | .negSucc a, .negSucc b => Nat.beq a b
  | _, _ => false
def intA (op : BinOp) (k : IntKind) (x y : Int) : Option AV := match op with
  | .add => some (.int k (wrapA k (x + y)))
  | .sub => some (.int k (wrapA k (x - y)))
  | .mul => some (.int k (wrapA k (x * y)))
  | .quo => bif eqInt y 0 then none else some (.int k (wrapA k (x.tdiv y)))
  | .rem => bif eqInt y 0 then none else some (.int k (x.tmod y))
  | .and => some (.int k (k.wrap (BitVec.ofInt k.bits x &&& BitVec.ofInt k.bits y).toNat))
  | .or => some (.int k (k.wrap (BitVec.ofInt k.bits x ||| BitVec.ofInt k.bits y).toNat))
  | .xor => some (.int k (k.wrap (BitVec.ofInt k.bits x ^^^ BitVec.ofInt k.bits y).toNat))
  | .andNot => some (.int k (k.wrap (BitVec.ofInt k.bits x &&& ~~~ BitVec.ofInt k.bits y).toNat))
  | .eql => some (.bool (x == y))
  | .neq => some (.bool (x != y))
  | .lss => some (.bool (decide (x < y)))
  | .leq => some (.bool (decide (x ≤ y)))
  | .gtr => some (.bool (decide (x > y)))
  | .geq => some (.bool (decide (x ≥ y)))
  | _ => none
def shiftA (op : BinOp) (k : IntKind) (x y : Int) : Option AV := bif decide (y < 0) then none else match op with
  | .shl => some (.int k (k.wrap (x * 2 ^ min y.toNat k.bits)))
  | .shr => some (.int k (x.fdiv (2 ^ min y.toNat k.bits)))
  | _ => none
def strA (op : BinOp) (a b : List UInt8) : Option AV := match op with
  | .add => bif Nat.ble (a.length + b.length) 1000000000 then some (.str (a ++ b)) else none
  | .eql => some (.bool (eqB a b))
  | .neq => some (.bool (!eqB a b))
  | .lss => some (.bool (Op.bytesLess a b))
  | .leq => some (.bool (Op.bytesLess a b || eqB a b))
  | .gtr => some (.bool (!(Op.bytesLess a b || eqB a b)))
  | .geq => some (.bool (!Op.bytesLess a b))
  | _ => none
/-- two blocks of cells that are there and not marked -/
def aliveC (A : Nat) : M Unit := bnd (rd A) fun b => match b with
  | .cells _ _ _ 0 false => ret ()
  | _ => fail
/-- '==' of two values of a type; the places of structs are told by their fields -/
def eqA (P : Program) : Nat → TypeId → AV → AV → M Bool
  | 0, _, _, _ => fail
  | d + 1, t, x, y => match P.underlying t, x, y with
    | some .bool, .bool a, .bool b => ret (a == b)
    | some (.int _), .int k a, .int k' b => bif k == k' then ret (eqInt a b) else fail
    | some .string, .str a, .str b => ret (eqB a b)
    | some (.pointer _), .ptr0, .ptr0 => ret true
    | some (.pointer _), .ptr0, .ptr _ _ => ret false
    | some (.pointer _), .ptr _ _, .ptr0 => ret false
    | some (.pointer e), .ptr A i, .ptr B j => match sizeT P e with
      | some (_ + 1) => bif Nat.beq A B then ret (Nat.beq i j) else bnd (aliveC A) fun _ => bnd (aliveC B) fun _ => ret false
      | _ => fail
    | some (.interface _), .ifc0, .ifc0 => ret true
    | some (.interface _), .ifc0, .ifc _ _ => ret false
    | some (.interface _), .ifc _ _, .ifc0 => ret false
    | some (.interface _), .ifc tx vx, .ifc ty vy => bif Nat.beq tx ty then (match P.info? tx with
        | some i => bif i.comparable then eqA P d tx vx vy else fail
        | none => fail) else ret false
    | some (.struct fs), .agg xs, .agg ys => bif P.stoodInHeld t then fail else
        fs.toList.foldr (fun f k => bif f.name == "_" then fail else
          bnd (partT P f.type xs f.offset) fun a => bnd (partT P f.type ys f.offset) fun b => bnd (eqA P d f.type a b) fun r => bif r then k else ret false) (ret true)
    | some (.slice _), .sl0, .sl0 => ret true
    | some (.slice _), .sl0, .sl .. => ret false
    | some (.slice _), .sl .., .sl0 => ret false
    | some (.map _ _), .map0, .map0 => ret true
    | some (.map _ _), .map0, .map _ => ret false
    | some (.map _ _), .map _, .map0 => ret false
    | some (.func _ _ _), .fn0, .fn0 => ret true
    | some (.func _ _ _), .fn0, .fn .. => ret false
    | some (.func _ _ _), .fn .., .fn0 => ret false
    | _, _, _ => fail
def isConstO : Operand → Bool
  | .const _ => true
  | _ => false
/-- the guard ahead of '==': nothing where no two nil interface values of a type with methods meet -/
def guardB (P : Program) (t : TypeId) (x y : Operand) (a b : AV) : Bool := match a, b with
  | .ifc0, .ifc0 => isConstO x || isConstO y
  | .agg _, .agg _ => !P.eqGuardType P.depth t
  | .opq _, _ => false
  | _, .opq _ => false
  | _, _ => true
def guardA (P : Program) (op : BinOp) (t : TypeId) (x y : Operand) (a b : AV) : Bool := match op with
  | .eql | .neq => guardB P t x y a b
  | _ => true
def binA (P : Program) (op : BinOp) (t : TypeId) (a b : AV) : M AV := match op, a, b with
  | .shl, .int k x, .int _ y => opt (shiftA .shl k x y)
  | .shr, .int k x, .int _ y => opt (shiftA .shr k x y)
  | op, .int k x, .int k' y => bif k == k' then opt (intA op k x y) else fail
  | op, .str x, .str y => opt (strA op x y)
  | .eql, x, y => bnd (eqA P 10000 t x y) fun r => ret (.bool r)
  | .neq, x, y => bnd (eqA P 10000 t x y) fun r => ret (.bool (!r))
  | _, _, _ => fail
def unA (op : UnOp) (x : AV) : M AV := match op, x with
  | .neg, .int k n => ret (.int k (wrapA k (0 - n)))
  | .not, .bool b => ret (.bool (!b))
  | .xor, .int k n => opt (intA .xor k (if k.signed then -1 else k.max) n)
  | _, _ => fail
end Go.Proofs.YtckmcajnhobkpaaGreatDoor.Zz
