/- The executor: operations, regions, code, calls. -/
import Derived.Test.YtckmcajnhobkpaaGreatDoorExM
set_option linter.unusedVariables false
set_option linter.unusedSimpArgs false
set_option linter.deprecated false
namespace Go.Proofs.YtckmcajnhobkpaaGreatDoor.Zz
open Go

/-- what is asked of a value that is not known -/
inductive Q where
  | len (t : TypeId) (k : Nat)
  | bin (op : BinOp) (a b : AV)
  | idx (t : TypeId) (k j : Nat)
  | load (t : TypeId) (k : Nat)
structure Hooks where
  fn : FuncId → Option (List AV → M AV)
  ora : Q → Option AV
/-- how a frame stands while a deferred call of it runs -/
inductive MA where
  | rtn
  | pan (v : AV) (rec : Bool)
structure Ex where
  call : FuncId → List AV → M AV
  loop : Nat → Code → Tm → M (Exit × Tm)
  callD : FuncId → List AV → MA → M MA

def asInt : AV → M Int
  | .int _ n => ret n
  | _ => fail
def asNat : AV → M Nat
  | .int _ (.ofNat n) => ret n
  | _ => fail
def ints (l : List UInt8) : List AV := l.map fun b => .int .u8 b.toNat
def bytesOf : List AV → Option (List UInt8)
  | [] => some []
  | .int .u8 n :: l => match bytesOf l with
    | some r => some (UInt8.ofNat n.toNat :: r)
    | none => none
  | _ => none
def natOf : AV → Option Nat
  | .int _ (.ofNat n) => some n
  | _ => none
def boundP (v : Option AV) (y d : Nat) : Option Nat := match v with
  | none => some d
  | some a => match natOf a with
    | some n => bif Nat.ble n y then some n else none
    | none => none
/-- [low:high:max] within (length, capacity) -/
def boundsP (len cap : Nat) (lo hi mx : Option AV) : Option (Nat × Nat × Nat) := bif mx.isSome && hi.isNone then none else
  (boundP mx cap cap).bind fun m => (boundP hi m len).bind fun h => (boundP lo h 0).bind fun l => some (l, h, m)
def oAval (tm : Tm) : Option Operand → Option (Option AV)
  | none => some none
  | some x => match aval tm x with
    | some a => some (some a)
    | none => none
def sliceA (P : Program) (t : TypeId) (x : AV) (lo hi mx : Option AV) : M AV := match P.underlying t, x with
  | some .string, .str s => (match mx with
    | some _ => fail
    | none => bnd (opt (boundsP s.length s.length lo hi none)) fun (l, h, _) => ret (.str ((s.drop l).take (h - l))))
  | some (.slice e), .sl A i len cap sz ex => bnd (opt (boundsP len cap lo hi mx)) fun (l, h, m) =>
      bnd (opt (sizeT P e)) fun n => bif Nat.beq n sz then ret (.sl A (i + l * sz) (h - l) (m - l) sz (ex || mx.isSome)) else fail
  | some (.slice e), .sl0 => bnd (opt (boundsP 0 0 lo hi mx)) fun _ => bnd (opt (sizeT P e)) fun _ => ret .sl0
  | some (.array n e), .ptr A i => bnd (opt (boundsP n n lo hi mx)) fun (l, h, m) => bnd (opt (sizeT P e)) fun z =>
      bnd (rd A) fun b => match b with
        | .cells _ k _ _ _ => bif Nat.ble (i + n * z) k then ret (.sl A (i + l * z) (h - l) (m - l) z true) else fail
        | _ => fail
  | _, _ => fail
/-- the slice is made anew, with more room; what lies in its old block is forgotten, where the new one may be the old one -/
def growA (A j len sz k : Nat) (ex : Bool) (cap : Nat) (e : TypeId) (new : List AV) : M AV := bnd (rd A) fun b => match b with
  | .cells c _ e' frz odd => bnd (opt (getN c j (len * sz))) fun old =>
      bif allOne old && (bif Nat.beq cap 0 then Nat.beq frz 0 else Nat.ble frz (j + len * sz)) && Nat.beq e' e then
        bnd (bif ex then ret () else wr A .dead) fun _ =>
        bnd (nw (.cells (putL .lf 0 (old ++ new)) (old ++ new).length e (bif ex then 0 else (frz - j)) true)) fun B => ret (.sl B 0 (len + k) (len + k) sz false)
      else fail
  | _ => fail
/-- 'append(s, ..)' of cells that have been read -/
def appendA (P : Program) (e : TypeId) (s : AV) (k : Nat) (new : List AV) : M AV := match P.info? e with
  | none => fail
  | some i => match i.zero with
    | none => fail
    | some z => bif Nat.ble i.bytes 4096 && Nat.ble 1 i.bytes && Nat.ble 1 i.size && Nat.beq new.length (k * i.size) && allOne new && Nat.beq z.cells.size i.size then
      (match s with
      | .sl0 => bif Nat.beq k 0 then ret .sl0 else bif Nat.ble k 1000000 then bnd (newS e new) fun A => ret (.sl A 0 k k i.size false) else fail
      | .sl A j len cap sz ex =>
        bif Nat.beq k 0 then ret (.sl A j len cap sz ex) else
        bif Nat.beq sz i.size && Nat.ble (len + k) 1000000 then
          (bif Nat.ble (len + k) cap then bnd (storeC A (j + len * sz) new) fun _ => ret (.sl A j (len + k) cap sz ex)
          else growA A j len sz k ex cap e new)
        else fail
      | _ => fail)
    else fail
/-- the cells of a slice, or of a string's bytes -/
def cellsIn (size : Nat) : AV → M (Nat × List AV)
  | .sl0 => ret (0, [])
  | .sl A i len _ sz _ => bif Nat.beq sz size then (bif Nat.beq len 0 then ret (0, []) else bnd (loadC A i (len * sz)) fun l => ret (len, l)) else fail
  | .str s => bif Nat.beq size 1 then ret (s.length, ints s) else fail
  | _ => fail
def fillA : List AV → List (Nat × List AV) → Option (List AV)
  | cs, [] => some cs
  | cs, (off, l) :: r => bif Nat.ble (off + l.length) cs.length then fillA (cs.take off ++ l ++ cs.drop (off + l.length)) r else none
def sameKey : AV → AV → Option Bool
  | .int k a, .int k' b => bif k == k' then some (eqInt a b) else none
  | .str a, .str b => some (eqB a b)
  | .bool a, .bool b => some (a == b)
  | _, _ => none
def findA (k : AV) : List (AV × AV × Nat) → Nat → Option (Option (Nat × AV))
  | [], _ => some none
  | (k', v, _) :: l, i => match sameKey k k' with
    | some true => some (some (i, v))
    | some false => findA k l (i + 1)
    | none => none
def keyOk (P : Program) (t : TypeId) (k : AV) : Bool := match P.underlying t, k with
  | some (.int _), .int _ _ => true
  | some .string, .str _ => true
  | some .bool, .bool _ => true
  | _, _ => false
def setAt {α : Type} : List α → Nat → α → List α
  | [], _, _ => []
  | _ :: l, 0, x => x :: l
  | y :: l, i + 1, x => y :: setAt l i x
def lookFin (P : Program) (et : TypeId) (k : AV) (ok : Bool) (es : List (AV × AV × Nat)) : M AV := match findA k es 0 with
  | none => fail
  | some (some (_, v)) => ret (if ok then .tup [v, .bool true] else v)
  | some none => match zeroT P et with
    | none => fail
    | some z => ret (if ok then .tup [z, .bool false] else z)
def lookA (P : Program) (t : TypeId) (x k : AV) (ok : Bool) : M AV := match P.underlying t, x with
  | some (.map kt et), .map0 => bif keyOk P kt k then lookFin P et k ok [] else fail
  | some (.map kt et), .map A => bif keyOk P kt k then bnd (rd A) fun b => (match b with
      | .map es _ => lookFin P et k ok es
      | _ => fail) else fail
  | _, _ => fail
def mapUpA (P : Program) (t : TypeId) (x k v : AV) : M Unit := match P.underlying t, x with
  | some (.map kt _), .map A => bif keyOk P kt k then bnd (rd A) fun b => match b with
      | .map es clk => bnd (opt (findA k es 0)) fun r => (match r with
        | some (i, _) => (match es[i]? with
          | some (k', _, b) => wr A (.map (setAt es i (k', v, b)) clk)
          | none => fail)
        | none => wr A (.map (es ++ [(k, v, clk)]) (clk + 1)))
      | _ => fail
    else fail
  | _, _ => fail
def assertA (P : Program) (x : AV) (asserted : TypeId) (ok : Bool) : M AV := match P.underlying asserted, x with
  | some (.interface want), .ifc t v => (match P.info? t with
    | some i => (match Instr.missingMethod want i.methods with
      | none => ret (if ok then .tup [.ifc t v, .bool true] else .ifc t v)
      | some _ => bif ok then bnd (opt (zeroT P asserted)) fun z => ret (.tup [z, .bool false]) else fail)
    | none => fail)
  | some (.interface _), .ifc0 => bif ok then bnd (opt (zeroT P asserted)) fun z => ret (.tup [z, .bool false]) else fail
  | some _, .ifc0 => bif ok then bnd (opt (zeroT P asserted)) fun z => ret (.tup [z, .bool false]) else fail
  | some _, .ifc t v => bif Nat.beq t asserted then ret (if ok then .tup [v, .bool true] else v) else bif ok then bnd (opt (zeroT P asserted)) fun z => ret (.tup [z, .bool false]) else fail
  | _, _ => fail
/-- the method of a dynamic type, and its receiver -/
inductive Pl where
  | val (v : AV)
  | var (A i : Nat)
def getP (P : Program) (t : TypeId) : Pl → M AV
  | .val v => ret v
  | .var A i => loadT P t A i
def followA (P : Program) : List FieldStep → TypeId → Pl → M (TypeId × Pl)
  | [], t, x => ret (t, x)
  | s :: r, t, x => match P.underlying s.struct with
    | some (.struct fs) => (match fs[s.index]? with
      | some f => (match sizeT P f.type with
        | some (_ + 1) => bif s.deref then bnd (getP P t x) fun v => (match v with
            | .ptr A i => followA P r f.type (.var A (i + f.offset))
            | _ => fail)
          else (match x with
            | .var A i => followA P r f.type (.var A (i + f.offset))
            | .val (.agg l) => bnd (partT P f.type l f.offset) fun v => followA P r f.type (.val v)
            | _ => fail)
        | _ => fail)
      | none => fail)
    | _ => fail
def recvA (P : Program) (t : TypeId) (x : Pl) (pr : Bool) : M AV := match P.underlying t, pr with
  | some (.pointer _), true => getP P t x
  | some (.pointer e), false => bnd (getP P t x) fun v => (match v with
    | .ptr A i => loadT P e A i
    | _ => fail)
  | some _, true => (match x with
    | .var A i => ret (.ptr A i)
    | _ => fail)
  | some _, false => getP P t x
  | none, _ => fail
def methN (P : Program) : Nat → TypeId → AV → String → M (FuncId × AV)
  | 0, _, _, _ => fail
  | n + 1, t, v, name => match P.info? t with
    | none => fail
    | some i => match i.methods.find? (·.name == name) with
      | none => fail
      | some m => bnd (followA P m.path.toList t (.val v)) fun (xt, x) => (match m.func with
        | none => bnd (getP P xt x) fun y => (match y with
          | .ifc t' v' => methN P n t' v' name
          | _ => fail)
        | some (f, pr) => bnd (recvA P xt x pr) fun r => ret (f, r))
def methA (P : Program) (t : TypeId) (v : AV) (name : String) : M (FuncId × AV) := methN P 4 t v name
def funcA (P : Program) (H : Hooks) (e : Ex) (f : FuncId) (args : List AV) : M AV := match H.fn f with
  | some h => h args
  | none => match P.funcs[f]? with
    | some fn => bif fn.name == "runtime.NumGoroutine" || fn.body.isNone then fail else e.call f args
    | none => fail
def copyFin (d : AV) (n : Nat) (p : Nat × List AV) : M AV := match d with
  | .sl0 => ret (.int .i64 0)
  | .sl A i len _ sz _ => bif Nat.beq len 0 then ret (.int .i64 0) else bif Nat.beq sz n then bnd (storeC A i (p.2.take (min p.1 len * n))) fun _ => ret (.int .i64 (min p.1 len : Nat)) else fail
  | _ => fail
def copyA (P : Program) (t : TypeId) (d x : AV) : M AV := match P.underlying t with
  | some (.slice e) => bnd (opt (sizeT P e)) fun n => bnd (cellsIn n x) fun p => copyFin d n p
  | _ => fail
def deleteA (P : Program) (t : TypeId) (x k : AV) : M AV := match P.underlying t, x with
  | some (.map kt _), .map A => bif keyOk P kt k then bnd (rd A) fun b => (match b with
    | .map es clk => bnd (opt (findA k es 0)) fun r => (match r with
      | some (i, _) => bnd (wr A (.map (es.eraseIdx i) clk)) fun _ => ret undefA
      | none => bnd (wr A (.map es clk)) fun _ => ret undefA)
    | _ => fail) else fail
  | _, _ => fail
def builtA (P : Program) (b : Builtin) (ts : List TypeId) (args : List AV) : M AV := match b, ts, args with
  | .append, t :: t' :: [], [s, x] => (match P.underlying t, P.underlying t' with
    | some (.slice e), some (.slice _) => bnd (opt (sizeT P e)) fun n => bnd (cellsIn n x) fun p => appendA P e s p.1 p.2
    | some (.slice e), some .string => bnd (opt (sizeT P e)) fun n => bnd (cellsIn n x) fun p => appendA P e s p.1 p.2
    | _, _ => fail)
  | .len, t :: _, [x] => (match P.underlying t, x with
    | some .string, .str s => ret (.int .i64 s.length)
    | some (.array n _), _ => ret (.int .i64 n)
    | some (.pointer a), _ => (match P.underlying a with | some (.array n _) => ret (.int .i64 n) | _ => fail)
    | some (.slice _), .sl0 => ret (.int .i64 0)
    | some (.slice _), .sl _ _ n _ _ _ => ret (.int .i64 n)
    | some (.map _ _), .map0 => ret (.int .i64 0)
    | some (.map _ _), .map A => bnd (rd A) fun b => (match b with | .map es _ => ret (.int .i64 es.length) | _ => fail)
    | _, _ => fail)
  | .copy, t :: _, [d, x] => copyA P t d x
  | .delete, t :: _, [x, k] => deleteA P t x k
  | .min, _, [.int k a, .int k' b] => bif k == k' then ret (.int k (if b < a then b else a)) else fail
  | .max, _, [.int k a, .int k' b] => bif k == k' then ret (.int k (if b > a then b else a)) else fail
  | _, _, _ => fail
def placesA (pls : List (Nat × Nat)) : List (Nat × Operand) → Option (List (Nat × Nat × Operand))
  | [] => some []
  | (i, x) :: r => match pls[i]? with
    | some (off, z) => match placesA pls r with
      | some l => some ((off, z, x) :: l)
      | none => none
    | none => none
def arrPlaces (n : Nat) : List (Nat × Operand) → List (Nat × Nat × Operand)
  | [] => []
  | (i, x) :: r => (i * n, n, x) :: arrPlaces n r
def partsA (tm : Tm) : List (Nat × Nat × Operand) → Option (List (Nat × List AV))
  | [] => some []
  | (off, z, x) :: r => match aval tm x with
    | some v => bif Nat.beq (cellsA v).length z then (match partsA tm r with
      | some l => some ((off, cellsA v) :: l)
      | none => none) else none
    | none => none
def repeatL (z : List AV) : Nat → List AV
  | 0 => []
  | n + 1 => z ++ repeatL z n
def cvtA (P : Program) (src dst : TypeId) (x : AV) : M AV := match P.underlying src, P.underlying dst, x with
  | some _, some (.int k), .int _ n => ret (.int k (wrapA k n))
  | some _, some .string, .str s => ret (.str s)
  | some _, some .string, .int _ n => ret (.str (Utf8.encode n).data.toList)
  | some _, some (.slice e), .str s => (match P.underlying e with
    | some (.int .u8) => bnd (nw (.cells (putL .lf 0 (ints s)) (ints s).length e 0 true)) fun A => ret (.sl A 0 s.length s.length 1 false)
    | _ => fail)
  | some (.slice e), some .string, .sl0 => (match P.underlying e with
    | some (.int .u8) => ret (.str [])
    | _ => fail)
  | some (.slice e), some .string, .sl A i len cap sz ex => (match P.underlying e with
    | some (.int .u8) => bnd (cellsIn 1 (.sl A i len cap sz ex)) fun p => bnd (opt (bytesOf p.2)) fun s => ret (.str s)
    | _ => fail)
  | _, _, _ => fail
/-- one operation that stands in a region -/
def lastN : List Nat → Option Nat
  | [] => none
  | [x] => some x
  | _ :: l => lastN l
def bornA (n : Option Nat) (es : List (AV × AV × Nat)) : Option (AV × AV) := match n with
  | none => none
  | some n => match es with
    | [] => none
    | (k, u, b) :: l => bif Nat.beq b n then some (k, u) else bornA (some n) l
def elemN (x : Nat) : List Nat → Bool
  | [] => false
  | y :: l => Nat.beq x y || elemN x l
/-- the entries that have not come yet -/
def leftA (seen : List Nat) : List (AV × AV × Nat) → List (AV × AV × Nat)
  | [] => []
  | (k, u, b) :: l => bif elemN b seen then leftA seen l else (k, u, b) :: leftA seen l
def allBefore (since : Nat) : List (AV × AV × Nat) → Bool
  | [] => true
  | (_, _, b) :: l => Nat.blt b since && allBefore since l
def opA (P : Program) (H : Hooks) (e : Ex) (o : Oper) (tm : Tm) : M AV := match o.op with
  | .move x | .assign x => opt (aval tm x)
  | .pick c a b => bnd (opt (aval tm c)) fun c => (match c with
    | .bool true => opt (aval tm a)
    | .bool false => opt (aval tm b)
    | _ => fail)
  | .alloc t => bnd (opt (zeroT P t)) fun z => bnd (newC t (cellsA z)) fun A => ret (.ptr A 0)
  | .box t x => bnd (opt (aval tm x)) fun v => bnd (newC t (cellsA v)) fun A => ret (.ptr A 0)
  | .build t ps => bnd (opt (zeroT P t)) fun z => (match P.underlying t with
    | some (.struct fs) => bnd (opt (fs.toList.mapM fun f => (P.info? f.type).map fun i => (f.offset, i.size))) fun pls => bnd (opt (placesA pls ps.toList)) fun pl => bnd (opt (partsA tm pl)) fun l => bnd (opt (fillA (cellsA z) l)) fun cs => ret (.agg cs)
    | some (.array _ el) => bnd (opt (sizeT P el)) fun n => bnd (opt (partsA tm (arrPlaces n ps.toList))) fun l => bnd (opt (fillA (cellsA z) l)) fun cs => ret (.agg cs)
    | _ => fail)
  | .buildSlice t len ps => (match P.underlying t with
    | some (.slice el) => bnd (opt (sizeT P el)) fun n => bnd (opt (zeroT P el)) fun z =>
        bif Nat.ble 1 n && Nat.beq (cellsA z).length n && Nat.ble (len * n) 16777216 then
          bnd (opt (partsA tm (arrPlaces n ps.toList))) fun l => bnd (opt (fillA (repeatL (cellsA z) len) l)) fun cs =>
          bnd (newC el cs) fun A => ret (.sl A 0 len len n true)
        else fail
    | _ => fail)
  | .load t x => bnd (opt (aval tm x)) fun v => (match v with
    | .ptr A i => loadT P t A i
    | _ => fail)
  | .store t x y => bnd (opt (aval tm x)) fun v => bnd (opt (aval tm y)) fun u => (match v with
    | .ptr A i => bnd (storeT P t A i u) fun _ => ret undefA
    | _ => fail)
  | .nilCheck x => bnd (opt (aval tm x)) fun v => (match v with
    | .ptr A i => ret (.ptr A i)
    | .ifc t u => ret (.ifc t u)
    | .fn (.func f) a b => ret (.fn (.func f) a b)
    | _ => fail)
  | .binOp op t x y _ => bnd (opt (aval tm x)) fun a => bnd (opt (aval tm y)) fun b => bif guardA P op t x y a b then binA P op t a b else fail
  | .unOp op _ x => bnd (opt (aval tm x)) fun a => unA op a
  | .convert src dst x => bnd (opt (aval tm x)) fun a => cvtA P src dst a
  | .makeInterface t x => bnd (opt (aval tm x)) fun a => (match P.underlying t with
    | some (.interface _) => fail
    | some _ => ret (.ifc t a)
    | none => fail)
  | .makeFunc f a b => bnd (opt (avals tm a.toList)) fun x => bnd (opt (avals tm b.toList)) fun y => ret (.fn f x y)
  | .makeMap t r => (match r with
    | none => bnd (nw (.map [] 0)) fun A => ret (.map A)
    | some x => bnd (opt (aval tm x)) fun v => (match P.underlying t, v with
      | some (.map _ _), .int _ _ => bnd (nw (.map [] 0)) fun A => ret (.map A)
      | _, _ => fail))
  | .makeSlice t l c => bnd (opt (aval tm l)) fun l => bnd (opt (aval tm c)) fun c => bnd (asNat l) fun l => bnd (asNat c) fun c => (match P.underlying t with
    | some (.slice el) => bnd (opt (sizeT P el)) fun n => bnd (opt (zeroT P el)) fun z =>
        bif Nat.ble 1 n && Nat.beq (cellsA z).length n && Nat.ble l c && Nat.ble c 65536 && Nat.ble (P.bytesOf el) 65536 then
          bnd (newR el (cellsA z) c) fun A => ret (.sl A 0 l c n true)
        else fail
    | _ => fail)
  | .slice t x lo hi mx => bnd (opt (aval tm x)) fun v => bnd (opt (oAval tm lo)) fun l => bnd (opt (oAval tm hi)) fun h => bnd (opt (oAval tm mx)) fun m => sliceA P t v l h m
  | .fieldAddr t x f => bnd (opt (aval tm x)) fun v => (match P.underlying t, v with
    | some (.struct fs), .ptr A i => (match fs[f]? with
      | some fd => (match sizeT P fd.type with
        | some (_ + 1) => ret (.ptr A (i + fd.offset))
        | _ => fail)
      | none => fail)
    | _, _ => fail)
  | .field t x f => bnd (opt (aval tm x)) fun v => (match P.underlying t, v with
    | some (.struct fs), .agg l => (match fs[f]? with
      | some fd => partT P fd.type l fd.offset
      | none => fail)
    | _, _ => fail)
  | .indexAddr t x y => bnd (opt (aval tm x)) fun v => bnd (opt (aval tm y)) fun j => bnd (asNat j) fun j => (match P.underlying t, v with
    | some (.array n el), .ptr A i => bnd (opt (sizeT P el)) fun z => bif Nat.blt j n then ret (.ptr A (i + j * z)) else fail
    | some (.slice el), .sl A i len _ sz _ => bnd (opt (sizeT P el)) fun z => bif Nat.blt j len && Nat.beq z sz then ret (.ptr A (i + j * sz)) else fail
    | _, _ => fail)
  | .index t x y => bnd (opt (aval tm x)) fun v => bnd (opt (aval tm y)) fun j => bnd (asNat j) fun j => (match P.underlying t, v with
    | some (.array n el), .agg l => bnd (opt (sizeT P el)) fun z => bif Nat.blt j n then partT P el l (j * z) else fail
    | some .string, .str s => (match s[j]? with
      | some b => ret (.int .u8 b.toNat)
      | none => fail)
    | _, _ => fail)
  | .lookup t x y ok => bnd (opt (aval tm x)) fun v => bnd (opt (aval tm y)) fun k => lookA P t v k ok
  | .mapUpdate t x y z | .insert t x y z => bnd (opt (aval tm x)) fun v => bnd (opt (aval tm y)) fun k => bnd (opt (aval tm z)) fun u => bnd (mapUpA P t v k u) fun _ => ret undefA
  | .range t x => bnd (opt (aval tm x)) fun v => (match P.underlying t, v with
    | some .string, .str s => bnd (nw (.siter s 0)) fun A => ret (.ptr A 0)
    | some (.map _ _), .map0 => bnd (nw (.miter none 0 [] 0)) fun A => ret (.ptr A 0)
    | some (.map _ _), .map mA => bnd (rd mA) fun b => (match b with
      | .map _ clk => bnd (nw (.miter (some mA) clk [] clk)) fun A => ret (.ptr A 0)
      | _ => fail)
    | _, _ => fail)
  | .next x true => bnd (opt (aval tm x)) fun v => (match v with
    | .ptr A 0 => bnd (rd A) fun b => (match b with
      | .siter s pos => (match s[pos]? with
        | some c => bif Nat.blt c.toNat 128 then bnd (wr A (.siter s (pos + 1))) fun _ => ret (.tup [.bool true, .int .i64 pos, .int .i32 c.toNat]) else fail
        | none => ret (.tup [.bool false]))
      | _ => fail)
    | _ => fail)
  | .next x false => bnd (opt (aval tm x)) fun v => (match v with
    | .ptr A 0 => bnd (rd A) fun b => (match b with
      | .mforce a since seen last c clk => (match c with
        | none => bnd (wr A (.miter a since seen last)) fun _ => ret (.tup [.bool false])
        | some (k, u, n) => bnd (wr A (.miter a since (seen ++ [n]) clk)) fun _ => ret (.tup [.bool true, k, u]))
      | _ => fail)
    | _ => fail)
  | .entry x => bnd (opt (aval tm x)) fun v => (match v with
    | .ptr A 0 => bnd (rd A) fun b => (match b with
      | .miter (some mA) _ seen last => bnd (rd mA) fun b => (match b with
        | .map es clk => bif Nat.beq clk last then bnd (opt (bornA (lastN seen) es)) fun (k, u) => ret (.tup [k, u]) else fail
        | _ => fail)
      | _ => fail)
    | _ => fail)
  | .typeAssert x _ t ok => bnd (opt (aval tm x)) fun v => assertA P v t ok
  | .extract x i => bnd (opt (aval tm x)) fun v => (match v with
    | .tup l => opt (l[i]?)
    | _ => fail)
  | .call c => bnd (opt (avals tm c.args.toList)) fun args => (match c.callee with
    | .builtin b => builtA P b c.argTypes.toList args
    | .invoke r name => bnd (opt (aval tm r)) fun v => (match v with
      | .ifc t u => bnd (methA P t u name) fun (f, rc) => funcA P H e f (rc :: args)
      | _ => fail)
    | .value f => bnd (opt (aval tm f)) fun v => (match v with
      | .fn (.func f) first cap => funcA P H e f (first ++ args ++ cap)
      | .fn (.method name) first cap => (match first ++ args, cap with
        | .ifc t u :: rest, _ => bnd (methA P t u name) fun (f, rc) => funcA P H e f (rc :: rest)
        | _, _ => fail)
      | _ => fail))
  | _ => fail
def isOpq : AV → Bool
  | .opq _ => true
  | _ => false
def oraKey (tm : Tm) (op : Op) : Option Q := match op with
  | .call c => (match c.callee, c.args.toList, c.argTypes.toList with
    | .builtin .len, [x], t :: _ => (match aval tm x with
      | some (.opq k) => some (.len t k)
      | _ => none)
    | _, _, _ => none)
  | .binOp op _ x y _ => (match aval tm x, aval tm y with
    | some a, some b => bif isOpq a || isOpq b then some (.bin op a b) else none
    | _, _ => none)
  | .indexAddr t x y => (match aval tm x, aval tm y with
    | some (.opq k), some (.int _ (.ofNat j)) => some (.idx t k j)
    | _, _ => none)
  | .load t x => (match aval tm x with
    | some (.opq k) => some (.load t k)
    | _ => none)
  | _ => none
/-- an operation on a value that is not known: what is said of it, if anything is -/
def askA (H : Hooks) (tm : Tm) (op : Op) (x : M AV) : M AV := match oraKey tm op with
  | none => x
  | some q => match H.ora q with
    | none => x
    | some r => ret r
/-- is the guarded operation wanted? -/
def wantA (ops : Array Oper) (o : Oper) (tm : Tm) : Option Bool := match o.guard with
  | none => some true
  | some (j, want) => match ops[j]? with
    | none => some false
    | some g => match g.dst with
      | none => some false
      | some d => match tm.get d with
        | some (some (.bool b)) => some (b == want)
        | some (some (.opq _)) => none
        | some none => none
        | _ => some false
def putA (N : Nat) (tm : Tm) (dst : Option Tmp) (v : AV) : M Tm := match dst with
  | none => ret tm
  | some d => bif Nat.blt d N then ret (tm.put d (some v)) else fail
def operA (P : Program) (H : Hooks) (e : Ex) (N : Nat) (ops : Array Oper) (o : Oper) (tm : Tm) : M Tm := match wantA ops o tm with
  | some true => bnd (askA H tm o.op (opA P H e o tm)) fun v => (match v with
    | .pan _ => fail
    | v => putA N tm o.dst v)
  | some false => putA N tm o.dst undefA
  | none => fail
/-- a call that is deferred -/
def deferA (P : Program) (tm : Tm) (c : Call) : M AV := bnd (opt (avals tm c.args.toList)) fun args => (match c.callee with
  | .value f => bnd (opt (aval tm f)) fun v => (match v with
    | .fn (.func g) first cap => (match P.funcs[g]? with
      | some fn => bif fn.name == "runtime.NumGoroutine" || fn.body.isNone then fail else ret (.fn (.func g) (first ++ args ++ cap) [])
      | none => fail)
    | _ => fail)
  | _ => fail)
/-- an operation of a region that is not drawn: it may defer, and panic -/
def operP (P : Program) (H : Hooks) (e : Ex) (N : Nat) (ops : Array Oper) (o : Oper) (tm : Tm) : M Tm := match o.op with
  | .defer c => (match wantA ops o tm with
    | some true => bnd (deferA P tm c) fun x => bnd (putA N tm o.dst undefA) fun tm' => ret ⟨tm'.t, x :: tm'.d, tm'.p⟩
    | some false => putA N tm o.dst undefA
    | none => fail)
  | .panic x => (match wantA ops o tm with
    | some true => bnd (opt (aval tm x)) fun v => (match v with
      | .ifc t u => ret ⟨tm.t, tm.d, some (.ifc t u)⟩
      | _ => fail)
    | some false => putA N tm o.dst undefA
    | none => fail)
  | .call _ => (match wantA ops o tm with
    | some true => bnd (askA H tm o.op (opA P H e o tm)) fun v => (match v with
      | .pan x => ret ⟨tm.t, tm.d, some x⟩
      | v => putA N tm o.dst v)
    | some false => putA N tm o.dst undefA
    | none => fail)
  | _ => operA P H e N ops o tm
def opsP (P : Program) (H : Hooks) (e : Ex) (N : Nat) (ops : Array Oper) : List Oper → Tm → M Tm
  | [], tm => ret tm
  | o :: r, tm => bnd (operP P H e N ops o tm) fun tm' => (match tm'.p with
    | some _ => ret tm'
    | none => opsP P H e N ops r tm')
/-- what a region comes to -/
def endP (tm : Tm) : M (Exit × Tm) := match tm.p with
  | some _ => ret (.panic [], tm)
  | none => ret (.normal, tm)
/-- ran, with what it touched -/
def capt {α : Type} (x : M α) : M (α × List Nat) := fun s => match x ⟨s.heap, s.next, []⟩ with
  | some (a, s') => some ((a, s'.log), ⟨s'.heap, s'.next, s'.log ++ s.log⟩)
  | none => none
def drawA (P : Program) (H : Hooks) (e : Ex) (N : Nat) (ops : Array Oper) : List Oper → Tm → M (Tm × List (List Nat))
  | [], tm => ret (tm, [])
  | o :: r, tm => bnd (capt (operA P H e N ops o tm)) fun (tm', l) => bnd (drawA P H e N ops r tm') fun (tm'', ls) => ret (tm'', l :: ls)
/-- the numbers of blocks that a log wrote -/
def wrote (l : List Nat) : Tr Unit := l.foldr (fun x t => bif Nat.beq (x % 2) 1 then t.put (x / 2) () else t) .lf
def meets (t : Tr Unit) : List Nat → Bool
  | [] => false
  | x :: l => (match t.get (x / 2) with | some _ => true | none => false) || meets t l
def hits (x : Nat) : List Nat → Bool
  | [] => false
  | y :: l => bif Nat.beq (x / 2) (y / 2) && (Nat.beq (x % 2) 1 || Nat.beq (y % 2) 1) then true else hits x l
def hitsAny : List Nat → List Nat → Bool
  | [], _ => false
  | x :: l, b => bif hits x b then true else hitsAny l b
def shortN : Nat → List Nat → Bool
  | _, [] => true
  | 0, _ :: _ => false
  | n + 1, _ :: l => shortN n l
/-- neither wrote what the other one touched -/
def noMeet (a b : List Nat) : Bool := bif shortN 6 b then !hitsAny b a else bif shortN 6 a then !hitsAny a b else !meets (wrote a) b && !meets (wrote b) a
/-- what comes ahead of number j, by its edges -/
def ancs (ops : List Oper) : List (List Nat) :=
  ops.foldl (fun acc o => acc ++ [o.after.toList.foldr (fun ed l => bif Region.binds .any ed then ed.on :: ((acc[ed.on]?).getD [] ++ l) else l) []]) []
def pairOk (ops : Array Oper) (i j : Nat) (x y : Oper) (ay : List Nat) (lx ly : List Nat) : Bool :=
  elemN i ay || (noMeet lx ly && Oper.apart ops x y)
/-- number j against all ahead of it -/
def rowOk (ops : Array Oper) (j : Nat) (y : Oper) (ay ly : List Nat) : Nat → List Oper → List (List Nat) → Bool
  | i, x :: r, lx :: ls => bif Nat.blt i j then pairOk ops i j x y ay lx ly && rowOk ops j y ay ly (i + 1) r ls else true
  | _, _, _ => true
/-- what it waits for stands ahead of it -/
def edgeOk (j : Nat) (y : Oper) : Bool := y.after.toList.all fun ed => !Region.binds .any ed || Nat.blt ed.on j
def allOk (ops : Array Oper) (all : List Oper) (logs : List (List Nat)) : Nat → List Oper → List (List Nat) → List (List Nat) → Bool
  | _, [], _, _ => true
  | j, y :: r, ay :: as, ly :: ls => edgeOk j y && rowOk ops j y ay ly 0 all logs && allOk ops all logs (j + 1) r as ls
  | _, _, _, _ => false
/-- does a loop's round begin with the next entry of a map? -/
def rangeOf : Code → Option Operand
  | .seq (.region _ ops false) _ => match ops.toList with
    | o :: _ => match o.op, o.guard with
      | .next x false, none => some x
      | _, _ => none
    | [] => none
  | _ => none
/-- a round of a loop; of one over a map: with each entry that has not come yet -/
def rangeA (r : Option Operand) (tm : Tm) (round : M Unit → M (Exit × Tm)) : M (Exit × Tm) := match r with
  | none => round (ret ())
  | some x => bnd (opt (aval tm x)) fun v => (match v with
    | .ptr A 0 => bnd (rd A) fun b => (match b with
      | .miter none since seen last => round (wr A (.mforce none since seen last none 0))
      | .miter (some mA) since seen last => bnd (rd mA) fun b => (match b with
        | .map es clk => bif allBefore since es && Nat.ble since last then (match leftA seen es with
          | [] => round (wr A (.mforce (some mA) since seen last none clk))
          | c :: l => joinAll (round (wr A (.mforce (some mA) since seen last (some c) clk))) (l.map fun c => round (wr A (.mforce (some mA) since seen last (some c) clk)))) else fail
        | _ => fail)
      | _ => fail)
    | _ => fail)
def codeA (P : Program) (H : Hooks) (e : Ex) (N : Nat) : Code → Tm → M (Exit × Tm)
  | .skip, tm => ret (.normal, tm)
  | .label _, tm => ret (.normal, tm)
  | .region _ ops false, tm => (match tm.p with
    | some _ => fail
    | none => bnd (opsP P H e N ops ops.toList tm) fun tm' => endP tm')
  | .region _ ops true, tm => bnd (drawA P H e N ops ops.toList tm) fun (tm', logs) => bif allOk ops ops.toList logs 0 ops.toList (ancs ops.toList) logs then ret (.normal, tm') else fail
  | .seq a b, tm => bnd (codeA P H e N a tm) fun (x, tm') => (match x with
    | .normal => codeA P H e N b tm'
    | x => ret (x, tm'))
  | .cond c a b, tm => bnd (opt (aval tm c)) fun v => (match v with
    | .bool true => codeA P H e N a tm
    | .bool false => codeA P H e N b tm
    | _ => fail)
  | .block id b, tm => bnd (codeA P H e N b tm) fun (x, tm') => (match x with
    | .exit id' => bif Nat.beq id' id then ret (.normal, tm') else ret (.exit id', tm')
    | x => ret (x, tm'))
  | .loop b, tm => rangeA (rangeOf b) tm (fun F => bnd F fun _ => bnd (codeA P H e N b tm) fun (x, tm') => (match x with
    | .normal => e.loop N b tm'
    | x => ret (x, tm')))
  | .scope b, tm => bnd (codeA P H e N b tm) fun (x, tm') => (match x with
    | .goto _ => fail
    | x => ret (x, tm'))
  | .exit id, tm => ret (.exit id, tm)
  | .ret, tm => ret (.ret, tm)
  | _, _ => fail
def resultA (P : Program) (tm : Tm) : List ResultVar → M (List AV)
  | [] => ret []
  | .tmp t :: r => bnd (opt (aval tm (.tmp t))) fun v => bnd (resultA P tm r) fun l => ret (v :: l)
  | .cell a t :: r => bnd (opt (aval tm (.tmp a))) fun v => (match v with
    | .ptr A i => bnd (loadT P t A i) fun x => bnd (resultA P tm r) fun l => ret (x :: l)
    | _ => fail)
def tmOf : Nat → List AV → Tm → Tm
  | _, [], tm => tm
  | i, v :: l, tm => tmOf (i + 1) l (tm.put i (some v))
/-- a panic that was recovered is none -/
def settleA : MA → MA
  | .pan _ true => .rtn
  | u => u
/-- the deferred calls, the last one first; then the results, or the panic -/
def leaveA (P : Program) (e : Ex) (fn : Func) (tm : Tm) : List AV → MA → M AV
  | [], .rtn => bnd (resultA P tm fn.results.toList) fun l => (match l with
    | [v] => ret v
    | l => ret (.tup l))
  | [], .pan v false => ret (.pan v)
  | [], .pan _ true => fail
  | .fn (.func f) l [] :: ds, u => bnd (e.callD f l u) fun u' => leaveA P e fn tm ds (settleA u')
  | _ :: _, _ => fail
def callA (P : Program) (H : Hooks) (e : Ex) (f : FuncId) (args : List AV) : M AV := match P.funcs[f]? with
  | none => fail
  | some fn => match fn.body with
    | none => fail
    | some c => bnd (codeA P H e (args.length + (fn.ntmps - args.length)) c (tmOf 0 args Tm.nil)) fun (x, tm) => (match x with
      | .normal | .ret => leaveA P e fn tm tm.d .rtn
      | .panic _ => (match tm.p with
        | some v => leaveA P e fn tm tm.d (.pan v false)
        | none => fail)
      | _ => fail)
/-- an operation of a deferred call: it may recover -/
def isRecover : Op → Bool
  | .call c => (match c.callee with
    | .builtin .recover => true
    | _ => false)
  | _ => false
def operS (P : Program) (H : Hooks) (e : Ex) (N : Nat) (ops : Array Oper) (o : Oper) (tm : Tm) (u : MA) : M (Tm × MA) := bif isRecover o.op then
    (match wantA ops o tm with
    | some true => (match u with
      | .pan v false => bnd (putA N tm o.dst v) fun tm' => ret (tm', .pan v true)
      | u => bnd (putA N tm o.dst .ifc0) fun tm' => ret (tm', u))
    | some false => bnd (putA N tm o.dst undefA) fun tm' => ret (tm', u)
    | none => fail)
  else bnd (operA P H e N ops o tm) fun tm' => ret (tm', u)
def opsS (P : Program) (H : Hooks) (e : Ex) (N : Nat) (ops : Array Oper) : List Oper → Tm → MA → M (Tm × MA)
  | [], tm, u => ret (tm, u)
  | o :: r, tm, u => bnd (operS P H e N ops o tm u) fun (tm', u') => opsS P H e N ops r tm' u'
def codeS (P : Program) (H : Hooks) (e : Ex) (N : Nat) : Code → Tm → MA → M (Exit × Tm × MA)
  | .seq a b, tm, u => bnd (codeS P H e N a tm u) fun (x, tm', u') => (match x with
    | .normal => codeS P H e N b tm' u'
    | x => ret (x, tm', u'))
  | .region _ ops false, tm, u => bnd (opsS P H e N ops ops.toList tm u) fun (tm', u') => ret (.normal, tm', u')
  | .cond c a b, tm, u => bnd (opt (aval tm c)) fun v => (match v with
    | .bool true => codeS P H e N a tm u
    | .bool false => codeS P H e N b tm u
    | _ => fail)
  | c, tm, u => bnd (codeA P H e N c tm) fun (x, tm') => (match x with
    | .panic _ => fail
    | x => ret (x, tm', u))
/-- a deferred call: how the frame below stands behind it -/
def callDA (P : Program) (H : Hooks) (e : Ex) (f : FuncId) (args : List AV) (u : MA) : M MA := match P.funcs[f]? with
  | none => fail
  | some fn => match fn.body with
    | none => fail
    | some c => bnd (codeS P H e (args.length + (fn.ntmps - args.length)) c (tmOf 0 args Tm.nil) u) fun (x, tm, u') => (match x with
      | .normal | .ret => (match tm.d with
        | [] => bnd (resultA P tm fn.results.toList) fun _ => ret u'
        | _ => fail)
      | _ => fail)
def exec (P : Program) (H : Hooks) : Nat → Ex
  | 0 => ⟨fun _ _ => fail, fun _ _ _ => fail, fun _ _ _ => fail⟩
  | n + 1 => ⟨callA P H (exec P H n), fun N b tm => codeA P H (exec P H n) N (.loop b) tm, callDA P H (exec P H n)⟩
end Go.Proofs.YtckmcajnhobkpaaGreatDoor.Zz
