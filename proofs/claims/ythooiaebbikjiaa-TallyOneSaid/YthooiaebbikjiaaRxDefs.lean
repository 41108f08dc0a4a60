/-
  RX, the definitions: Go code over abstract data. Nothing here is trusted: RxRel, RxOps, RxRun prove it against the kit's model.
-/
import Derived.Orders
import Derived.Tactics
import Derived.KernelRfl
namespace Go.RX

/-- Abstract data: scalars, immutable slices as rows of cells ('sl'), pointers to local blocks ('ptr', 'msl'), pointers into immutable memory ('iptr'). -/
inductive D where
  | undef
  | bool (b : Bool)
  | int (k : IntKind) (n : Int)
  | str (s : List UInt8)
  | nilp
  | ptr (b i o : Nat)
  | iptr (sz : Nat) (rows : List (List D)) (i o : Nat)
  | sl (nl : Bool) (sz : Nat) (rows : List (List D))
  | msl (b i len lo : Nat) (ex : Bool)
  | fn (f : FuncId) (first caps : List D)
  | nilfn
  | agg (cs : List D)
  | tup (vs : List D)
  | iface (t : TypeId) (v : D)
  | nili
  deriving Inhabited

structure Blk where
  sz : Nat
  deep : Bool
  rows : List (List D)

abbrev Sto := List (Option Blk)
abbrev Fr := List (Nat × D)

def fget : Fr → Nat → D
  | [], _ => .undef
  | x :: r, t => bif Nat.beq x.1 t then x.2 else fget r t

def fset (fr : Fr) (t : Nat) (d : D) : Fr := (t, d) :: fr

def sget (σ : Sto) (b : Nat) : Option Blk := match σ[b]? with | some (some B) => some B | _ => none

/-- A scalar (what one cell holds). -/
def scal : D → Bool
  | .undef | .agg _ | .tup _ => false
  | _ => true

/-- May it name a local block? -/
def hasRef1 : D → Bool
  | .ptr .. | .msl .. => true
  | .fn _ first caps => !(first.isEmpty && caps.isEmpty)
  | .iface .. => true
  | _ => false

def ofScal : Value → D
  | .bool b => .bool b
  | .int k n => .int k n
  | .string s => .str s.data.toList
  | .pointer none => .nilp
  | .slice none 0 0 => .sl true 0 []
  | .func (.func f) first caps => if first.size = 0 ∧ caps.size = 0 then .fn f [] [] else .undef
  | .nilFunc => .nilfn
  | .nilIface => .nili
  | _ => .undef

def ofConst : Value → D
  | .agg cs => .agg (cs.toList.map ofScal)
  | v => ofScal v

def evalD (fr : Fr) : Operand → D
  | .tmp t => fget fr t
  | .const v => ofConst v
  | .global _ => .undef
  | .func f => .fn f [] []

def cellsD : D → Option (List D)
  | .agg cs => some cs
  | .undef | .tup _ => none
  | d => some [d]

inductive ARes where
  | ok (d : D) (σ : Sto)
  | need (b : Bool) (k : ARes)
  | split (b : Bool) (k : Bool → ARes)
  | row (r : Option (List D)) (k : List D → ARes)
  | str (r : Option (List UInt8)) (k : List UInt8 → ARes)
  | call (f : FuncId) (args : List D)
  | bad

def ARes.opt (o : Option D) (σ : Sto) : ARes := match o with | some d => .ok d σ | none => .bad

section
variable (P : Program)

def szOf (t : TypeId) : Option Nat := (P.info? t).map (·.size)
def byOf (t : TypeId) : Option Nat := (P.info? t).map (·.bytes)
def rowT : TypeDesc → Bool
  | .struct _ => true
  | .array _ _ => true
  | _ => false
/-- A type's size in cells, and whether it is a struct or an array. -/
def tyOf (t : TypeId) : Option (Nat × Bool) := match szOf P t, P.underlying t with | some n, some d => some (n, rowT d) | _, _ => none
def zeroD (t : TypeId) : Option D := match (P.info? t).bind (·.zero) with | some v => some (ofConst v) | none => none
/-- The size of a row of a variable of type t: an array's element, else the whole. -/
def rowSz (t : TypeId) : Option Nat := match P.underlying t with | some (.array _ e) => szOf P e | _ => szOf P t

def chunk (sz : Nat) : Nat → List D → List (List D)
  | 0, _ => []
  | n + 1, cs => cs.take sz :: chunk sz n (cs.drop sz)

def newBlk (t : TypeId) (d : D) : Option Blk :=
  match cellsD d, szOf P t, rowSz P t with
  | some cs, some n, some sz =>
    if cs.length = n ∧ cs.all scal = true ∧ 0 < sz ∧ n = n / sz * sz then some ⟨sz, cs.any hasRef1, chunk sz (n / sz) cs⟩ else none
  | _, _, _ => none

def allocD (t : TypeId) (d : D) (σ : Sto) : ARes :=
  match newBlk P t d with
  | some B => .ok (.ptr σ.length 0 0) (σ ++ [some B])
  | none => .bad

/-! loads and stores -/
def readRow (rows : List (List D)) (sz i o n : Nat) (ag : Bool) (σ : Sto) : ARes :=
  if o + n ≤ sz then
    .row rows[i]? fun r => if ag then (if r.length = sz then .ok (.agg ((r.drop o).take n)) σ else .bad) else (if n = 1 then .opt r[o]? σ else .bad)
  else if o = 0 ∧ ag = true ∧ 0 < sz ∧ n = n / sz * sz then
    .need (Nat.ble (i + n / sz) rows.length) (.ok (.agg ((rows.drop i).take (n / sz)).flatten) σ)
  else .bad

def loadD (t : TypeId) (p : D) (σ : Sto) : ARes :=
  match tyOf P t with
  | none => .bad
  | some (n, ag) =>
    match p with
    | .ptr b i o => match sget σ b with
      | some B => readRow B.rows B.sz i o n ag σ
      | none => .bad
    | .iptr sz rows i o => readRow rows sz i o n ag σ
    | _ => .bad

def storeD (t : TypeId) (p v : D) (σ : Sto) : ARes :=
  match szOf P t, cellsD v, p with
  | some n, some cs, .ptr b i o =>
    match sget σ b with
    | some B =>
      if cs.length = n ∧ cs.all scal = true then
        if o + n ≤ B.sz then
          .row B.rows[i]? fun r => .ok .undef (σ.set b (some ⟨B.sz, B.deep || cs.any hasRef1, B.rows.set i (r.take o ++ cs ++ r.drop (o + n))⟩))
        else if o = 0 ∧ 0 < B.sz ∧ n = n / B.sz * B.sz then
          .need (Nat.ble (i + n / B.sz) B.rows.length)
            (.ok .undef (σ.set b (some ⟨B.sz, B.deep || cs.any hasRef1, B.rows.take i ++ chunk B.sz (n / B.sz) cs ++ B.rows.drop (i + n / B.sz)⟩)))
        else .bad
      else .bad
    | none => .bad
  | _, _, _ => .bad

/-! integers -/
def iop (op : BinOp) (k : IntKind) (x y : Int) : Option D :=
  match op with
  | .add => some (.int k (k.wrap (x + y)))
  | .sub => some (.int k (k.wrap (x - y)))
  | .mul => some (.int k (k.wrap (x * y)))
  | .and => some (.int k (k.wrap ((BitVec.ofInt k.bits x &&& BitVec.ofInt k.bits y).toNat : Int)))
  | .or => some (.int k (k.wrap ((BitVec.ofInt k.bits x ||| BitVec.ofInt k.bits y).toNat : Int)))
  | .xor => some (.int k (k.wrap ((BitVec.ofInt k.bits x ^^^ BitVec.ofInt k.bits y).toNat : Int)))
  | .andNot => some (.int k (k.wrap ((BitVec.ofInt k.bits x &&& ~~~ BitVec.ofInt k.bits y).toNat : Int)))
  | .eql => some (.bool (x == y))
  | .neq => some (.bool (x != y))
  | .lss => some (.bool (decide (x < y)))
  | .leq => some (.bool (decide (x ≤ y)))
  | .gtr => some (.bool (decide (x > y)))
  | .geq => some (.bool (decide (x ≥ y)))
  | _ => none

def intBin (op : BinOp) (k k' : IntKind) (x y : Int) (σ : Sto) : ARes :=
  match op with
  | .shl => .need (!decide (y < 0)) (.ok (.int k (k.wrap (x * 2 ^ (min y.toNat k.bits)))) σ)
  | .shr => .need (!decide (y < 0)) (.ok (.int k (x.fdiv (2 ^ (min y.toNat k.bits)))) σ)
  | .quo => if k = k' then .need (!decide (y = 0)) (.ok (.int k (k.wrap (x.tdiv y))) σ) else .bad
  | .rem => if k = k' then .need (!decide (y = 0)) (.ok (.int k (x.tmod y)) σ) else .bad
  | op => if k = k' then .opt (iop op k x y) σ else .bad

def partD (t : TypeId) (cs : List D) (off : Nat) : Option D :=
  match tyOf P t with
  | some (n, ag) => if ag then some (.agg ((cs.drop off).take n)) else cs[off]?
  | none => none

/-- A part of an array, asked for. -/
def partA (t : TypeId) (cs : List D) (off : Nat) (σ : Sto) : ARes :=
  match tyOf P t with
  | some (n, ag) => if ag then .ok (.agg ((cs.drop off).take n)) σ else .row ((cs[off]?).map fun d => [d]) fun r => .opt r[0]? σ
  | none => .bad

def allB : List (Option Bool) → Option Bool
  | [] => some true
  | some b :: r => match allB r with | some c => some (b && c) | none => none
  | none :: _ => none

/-- == of scalars, and of structs and arrays of these. -/
def deq : Nat → TypeId → D → D → Option Bool
  | 0, _, _, _ => none
  | n + 1, t, x, y =>
    match P.underlying t, x, y with
    | some .bool, .bool a, .bool b => some (a == b)
    | some (.int _), .int k a, .int k' b => if k = k' then some (a == b) else none
    | some .string, .str a, .str b => some (a == b)
    | some (.struct fields), .agg xs, .agg ys =>
      if P.stoodInHeld t then none
      else allB (fields.toList.map fun f => if f.name ≠ "_" then (match partD P f.type xs f.offset, partD P f.type ys f.offset with | some a, some b => deq n f.type a b | _, _ => none) else some true)
    | some (.array len e), .agg xs, .agg ys =>
      match szOf P e with
      | some m => allB ((List.range len).map fun i => match partD P e xs (i * m), partD P e ys (i * m) with | some a, some b => deq n e a b | _, _ => none)
      | none => none
    | _, _, _ => none

def isNilD : D → Option Bool
  | .sl nl _ _ => some nl
  | .msl .. => some false
  | .nilp => some true
  | .ptr .. | .iptr .. => some false
  | .fn .. => some false
  | .nilfn => some true
  | .iface .. => some false
  | .nili => some true
  | _ => none

/-- The kind of a thing that is held against nil: 0 slice, 1 pointer, 2 function, 3 interface. -/
def nilKind : D → Nat
  | .sl .. | .msl .. => 0
  | .nilp | .ptr .. | .iptr .. => 1
  | .fn .. | .nilfn => 2
  | .iface .. | .nili => 3
  | _ => 4

def bytesLessD : List UInt8 → List UInt8 → Bool := Op.bytesLess

def aggGuard (t : TypeId) : D → Bool
  | .agg _ => P.eqGuardType P.depth t
  | _ => false

def eqlD (t : TypeId) (x y : D) : Option Bool :=
  match y with
  | .sl true _ _ => (match x, P.underlying t with | .sl n _ _, some (.slice _) => some n | .msl .., some (.slice _) => some false | _, _ => none)
  | .nilp => (match x, P.underlying t with | .nilp, some (.pointer _) => some true | .ptr .., some (.pointer _) => some false | .iptr .., some (.pointer _) => some false | _, _ => none)
  | .nilfn => (match x, P.underlying t with | .nilfn, some (.func _ _ _) => some true | .fn .., some (.func _ _ _) => some false | _, _ => none)
  | .nili => (match x, P.underlying t with | .iface .., some (.interface _) => some false | _, _ => none)
  | y => bif aggGuard P t x then none else deq P 8 t x y

def binD (op : BinOp) (t : TypeId) (x y : D) (σ : Sto) : ARes :=
  match x, y with
  | .int k a, .int k' b => intBin op k k' a b σ
  | .str a, .str b =>
    (match op with
     | .eql => .ok (.bool (a == b)) σ
     | .neq => .ok (.bool (!(a == b))) σ
     | .lss => .ok (.bool (Op.bytesLess a b)) σ
     | .add => .need (decide (((a.length + b.length : Nat) : Int) ≤ IntKind.i64.max)) (.ok (.str (a ++ b)) σ)
     | _ => .bad)
  | x, y =>
    match op with
    | .eql => .opt ((eqlD P t x y).map .bool) σ
    | .neq => .opt ((eqlD P t x y).map fun b => .bool (!b)) σ
    | _ => .bad

def unD (op : UnOp) (x : D) : Option D :=
  match op, x with
  | .not, .bool b => some (.bool (!b))
  | .neg, .int k n => some (.int k (k.wrap (0 - n)))
  | .xor, .int k n => iop .xor k (if k.signed then -1 else k.max) n
  | _, _ => none

/-! slices -/
def lenD : D → Option Nat
  | .sl _ _ rows => some rows.length
  | .msl _ _ len _ _ => some len
  | .str s => some s.length
  | _ => none

/-- The rows that a slice reads as: the size of a row, whether names of blocks may stand there, how many there must be (if that is not sure), the rows. -/
def rowsD (σ : Sto) : D → Option (Nat × Bool × Option Nat × List (List D))
  | .sl _ sz rows => some (sz, false, none, rows)
  | .msl b i len _ _ => (match sget σ b with | some B => some (B.sz, B.deep, some len, (B.rows.drop i).take len) | none => none)
  | .str s => some (1, false, none, s.map fun c => [.int .u8 (c.toNat : Int)])
  | _ => none

def srcKind : D → Nat
  | .sl .. | .msl .. => 0
  | .str _ => 1
  | _ => 2

def isStr : D → Bool
  | .str _ => true
  | _ => false

def needN (n : Option Nat) (k : Nat) (r : ARes) : ARes := match n with | none => r | some m => .need (Nat.beq k m) r

/-- Bytes, out of rows. -/
def rowsStr : List (List D) → Option (List UInt8)
  | [] => some []
  | r :: rows => match r with
    | [.int .u8 n] => (match rowsStr rows with | some s => some (UInt8.ofNat n.toNat :: s) | none => none)
    | _ => none

def indexAddrD (t : TypeId) (x : D) (i : Int) (σ : Sto) : ARes :=
  match P.underlying t with
  | some (.slice e) =>
    (match szOf P e with
     | none => .bad
     | some n =>
       match x with
       | .sl false sz rows => if sz = n ∧ 0 < n then .need (decide (0 ≤ i) && decide (i < (rows.length : Int))) (.ok (.iptr sz rows i.toNat 0) σ) else .bad
       | .sl true _ _ => .bad
       | .msl b j len _ _ => (match sget σ b with
         | some B => if B.sz = n ∧ 0 < n then .need (decide (0 ≤ i) && decide (i < (len : Int))) (.ok (.ptr b (j + i.toNat) 0) σ) else .bad
         | none => .bad)
       | _ => .bad)
  | some (.array len e) =>
    (match szOf P e, x with
     | some n, .ptr b j o => (match sget σ b with
       | some B => if B.sz = n ∧ 0 < n ∧ o = 0 then .need (decide (0 ≤ i) && decide (i < (len : Int))) (.ok (.ptr b (j + i.toNat) 0) σ) else .bad
       | none => .bad)
     | _, _ => .bad)
  | _ => .bad

def indexD (t : TypeId) (x : D) (i : Int) (σ : Sto) : ARes :=
  match P.underlying t, x with
  | some (.array len e), .agg cs =>
    (match szOf P e with
     | some n => .need (decide (0 ≤ i) && decide (i < (len : Int))) (partA P e cs (i.toNat * n) σ)
     | none => .bad)
  | some .string, .str s => .need (decide (0 ≤ i) && decide (i < (s.length : Int))) (.row ((s[i.toNat]?).map fun c => [.int .u8 (c.toNat : Int)]) fun r => .opt r[0]? σ)
  | _, _ => .bad

def intArg : Option D → Option (Option Int)
  | none => some none
  | some (.int _ n) => some (some n)
  | some _ => none

def inB (lo hi : Nat) (x : Int) : Bool := decide ((lo : Int) ≤ x) && decide (x ≤ (hi : Int))

/-- s[l:h:m], 'n' its length, 'c' a bound of what may be reached. -/
def sliceB (n c : Nat) (lo hi mx : Option Int) (k : (l h : Nat) → (m : Option Nat) → ARes) : ARes :=
  match lo, hi, mx with
  | none, none, none => k 0 n none
  | some l, none, none => .need (inB 0 n l) (k l.toNat n none)
  | none, some h, none => .need (inB 0 c h) (k 0 h.toNat none)
  | some l, some h, none => .need (inB 0 c h) (.need (inB 0 h.toNat l) (k l.toNat h.toNat none))
  | none, some h, some m => .need (inB 0 c m) (.need (inB 0 m.toNat h) (k 0 h.toNat (some m.toNat)))
  | some l, some h, some m => .need (inB 0 c m) (.need (inB 0 m.toNat h) (.need (inB 0 h.toNat l) (k l.toNat h.toNat (some m.toNat))))
  | _, _, _ => .bad

def sliceD (t : TypeId) (x : D) (lo hi mx : Option Int) (σ : Sto) : ARes :=
  match P.underlying t, x with
  | some .string, .str s => (match mx with | none => sliceB s.length s.length lo hi none fun l h _ => .ok (.str ((s.take h).drop l)) σ | some _ => .bad)
  | some (.slice e), .sl true sz _ => (match szOf P e with | some _ => sliceB 0 0 lo hi mx fun _ _ _ => .ok (.sl true sz []) σ | none => .bad)
  | some (.slice e), .sl false sz rows =>
    (match szOf P e with
     | some n => if sz = n then sliceB rows.length rows.length lo hi mx fun l h _ => .ok (.sl false sz ((rows.take h).drop l)) σ else .bad
     | none => .bad)
  | some (.slice e), .msl b i len lob ex =>
    (match szOf P e, sget σ b with
     | some n, some B => if B.sz = n then sliceB len lob lo hi mx fun l h m => .ok (match m with | none => .msl b (i + l) (h - l) (lob - l) ex | some m => .msl b (i + l) (h - l) (m - l) true) σ else .bad
     | _, _ => .bad)
  | some (.array n e), .ptr b i o =>
    (match szOf P e, sget σ b with
     | some sz, some B => if B.sz = sz ∧ o = 0 ∧ i + n ≤ B.rows.length then sliceB n n lo hi mx fun l h m => .ok (.msl b (i + l) (h - l) (m.getD n - l) true) σ else .bad
     | _, _ => .bad)
  | _, _ => .bad

def bytesLim : Nat := 140737488355328

def makeSliceD (t : TypeId) (len cap : Int) (σ : Sto) : ARes :=
  match P.underlying t with
  | some (.slice e) =>
    (match szOf P e, byOf P e, (zeroD P e).bind cellsD with
     | some n, some by_, some zs =>
       if zs.length = n ∧ 0 < n ∧ zs.all scal = true then
         .need (decide (0 ≤ len) && (decide (len ≤ cap) && (decide (cap ≤ 9223372036854775807) && decide (cap.toNat * by_ ≤ bytesLim))))
           (.ok (.msl σ.length 0 len.toNat cap.toNat true) (σ ++ [some ⟨n, zs.any hasRef1, List.replicate cap.toNat zs⟩]))
       else .bad
     | _, _, _ => .bad)
  | _ => .bad

def setParts (rows : List (List D)) (n : Nat) : List (Nat × D) → Option (List (List D))
  | [] => some rows
  | (i, d) :: r => match cellsD d with
    | some cs => if cs.length = n ∧ i < rows.length ∧ cs.all scal = true then setParts (rows.set i cs) n r else none
    | none => none

def buildSliceD (t : TypeId) (len : Nat) (parts : List (Nat × D)) (σ : Sto) : ARes :=
  match P.underlying t with
  | some (.slice e) =>
    (match szOf P e, (zeroD P e).bind cellsD with
     | some n, some zs =>
       if zs.length = n ∧ 0 < n ∧ zs.all scal = true ∧ len * n ≤ 16777216 then
         (match setParts (List.replicate len zs) n parts with
          | some rows => .ok (.msl σ.length 0 len len true) (σ ++ [some ⟨n, rows.any (fun r => r.any hasRef1), rows⟩])
          | none => .bad)
       else .bad
     | _, _ => .bad)
  | _ => .bad

def fillD (place : Nat → Option (Nat × Nat)) (cells : List D) : List (Nat × D) → Option (List D)
  | [] => some cells
  | (i, d) :: r => match cellsD d, place i with
    | some cs, some (off, size) => if cs.length = size ∧ off + size ≤ cells.length then fillD place (cells.take off ++ cs ++ cells.drop (off + size)) r else none
    | _, _ => none

def buildD (t : TypeId) (parts : List (Nat × D)) : Option D :=
  match P.info? t, P.underlying t with
  | some it, some (.array _ e) =>
    (match it.zero, P.info? e with
     | some z, some ie => (match cellsD (ofConst z) with | some zc => (fillD (fun i => some (i * ie.size, ie.size)) zc parts).map .agg | none => none)
     | _, _ => none)
  | some it, some (.struct fields) =>
    (match it.zero, fields.toList.mapM (fun f => (P.info? f.type).map fun i => (f.offset, i.size)) with
     | some z, some places => (match cellsD (ofConst z) with | some zc => (fillD (places.toArray[·]?) zc parts).map .agg | none => none)
     | _, _ => none)
  | _, _ => none

def fieldAddrD (s : TypeId) (p : D) (f : Nat) : Option D :=
  match P.underlying s with
  | some (.struct fields) =>
    (match fields[f]? with
     | some fd => (match szOf P fd.type with
       | some n => if n = 0 then none else (match p with
         | .ptr b i o => some (.ptr b i (o + fd.offset))
         | .iptr sz rows i o => some (.iptr sz rows i (o + fd.offset))
         | _ => none)
       | none => none)
     | none => none)
  | _ => none

def fieldD (s : TypeId) (x : D) (f : Nat) : Option D :=
  match P.underlying s, x with
  | some (.struct fields), .agg cs => (match fields[f]? with | some fd => partD P fd.type cs fd.offset | none => none)
  | _, _ => none

def convD (src dst : TypeId) (x : D) (σ : Sto) : ARes :=
  match P.underlying src, P.underlying dst, x with
  | some (.int _), some (.int k), .int _ n => .ok (.int k (k.wrap n)) σ
  | some .string, some .string, .str s => .ok (.str s) σ
  | some .string, some (.slice e), .str s =>
    (match P.underlying e with
     | some (.int .u8) => .ok (.msl σ.length 0 s.length s.length false) (σ ++ [some ⟨1, false, s.map fun c => [.int .u8 (c.toNat : Int)]⟩])
     | _ => .bad)
  | some (.slice e), some .string, x =>
    (match P.underlying e, szOf P e, rowsD σ x with
     | some (.int .u8), some 1, some (sz, _, n, rows) => if (sz = 1 ∨ (rows.isEmpty = true ∧ isStr x = false)) ∧ isStr x = false then needN n rows.length (.str (rowsStr rows) fun s => .ok (.str s) σ) else .bad
     | _, _, _ => .bad)
  | _, _, _ => .bad

def appendD (t : TypeId) (s x : D) (σ : Sto) : ARes :=
  match P.underlying t with
  | some (.slice e) =>
    (match szOf P e, byOf P e, (zeroD P e).bind cellsD, rowsD σ x with
     | some n, some by_, some zs, some (sz, dp, cnt, new) =>
       if (sz = n ∨ (new.isEmpty = true ∧ isStr x = false)) ∧ 0 < n ∧ 0 < by_ ∧ zs.length = n then
         needN cnt new.length (match s with
         | .sl true sz' _ =>
           .split new.isEmpty fun b => if b then .ok (.sl true sz' []) σ else
             .need (decide (new.length * by_ ≤ bytesLim)) (.ok (.msl σ.length 0 new.length new.length false) (σ ++ [some ⟨n, dp, new⟩]))
         | .msl b i len lo ex =>
           (match sget σ b with
            | some B =>
              if B.sz = n then
                .split (Nat.ble (len + new.length) lo) fun c => if c then
                  .need (Nat.ble (i + lo) B.rows.length) (.ok (.msl b i (len + new.length) lo ex) (σ.set b (some ⟨n, B.deep || dp, B.rows.take (i + len) ++ new ++ B.rows.drop (i + len + new.length)⟩)))
                else .need (decide ((len + new.length) * by_ ≤ bytesLim)) (.need (Nat.ble (i + len) B.rows.length)
                  (.ok (.msl σ.length 0 (len + new.length) (len + new.length) false)
                    ((if ex then σ else σ.set b none) ++ [some ⟨n, B.deep || dp, (B.rows.drop i).take len ++ new⟩])))
              else .bad
            | none => .bad)
         | _ => .bad)
       else .bad
     | _, _, _, _ => .bad)
  | _ => .bad

def copyD (t : TypeId) (dst src : D) (σ : Sto) : ARes :=
  match P.underlying t with
  | some (.slice e) =>
    (match szOf P e, rowsD σ src, dst with
     | some n, some (sz, dp, cnt, rows), .msl b i len _ _ =>
       (match sget σ b with
        | some B => if (sz = n ∨ (rows.isEmpty = true ∧ isStr src = false)) ∧ B.sz = n ∧ 0 < n then
            needN cnt rows.length (.need (Nat.ble (i + len) B.rows.length)
              (.ok (.int .i64 ((min rows.length len : Nat) : Int)) (σ.set b (some ⟨n, B.deep || dp, B.rows.take i ++ rows.take (min rows.length len) ++ B.rows.drop (i + min rows.length len)⟩))))
          else .bad
        | none => .bad)
     | _, _, _ => .bad)
  | _ => .bad

def clearD (t : TypeId) (s : D) (σ : Sto) : ARes :=
  match P.underlying t, s with
  | some (.slice _), .sl true _ _ => .ok (.tup []) σ
  | some (.slice e), .msl b i len _ _ =>
    (match szOf P e, (zeroD P e).bind cellsD, sget σ b with
     | some n, some zs, some B =>
       if zs.length = n ∧ 0 < n ∧ B.sz = n ∧ zs.all scal = true then
         .need (Nat.ble (i + len) B.rows.length) (.ok (.tup []) (σ.set b (some ⟨n, B.deep || zs.any hasRef1, B.rows.take i ++ List.replicate len zs ++ B.rows.drop (i + len)⟩)))
       else .bad
     | _, _, _ => .bad)
  | _, _ => .bad

def mnStep (a : Option D) (d : D) : Option D := match a, d with | some (.int k x), .int _ y => some (.int k (if y < x then y else x)) | _, _ => none
def mxStep (a : Option D) (d : D) : Option D := match a, d with | some (.int k x), .int _ y => some (.int k (if x < y then y else x)) | _, _ => none
def mnD (ds : List D) : Option D := match ds with
  | .int k x :: r => r.foldl mnStep (some (.int k x))
  | _ => none
def mxD (ds : List D) : Option D := match ds with
  | .int k x :: r => r.foldl mxStep (some (.int k x))
  | _ => none

def lenOp (t : TypeId) (x : D) (σ : Sto) : ARes := match P.underlying t, x with
  | some (.array n _), _ => .ok (.int .i64 n) σ
  | some (.slice _), .sl _ _ rows => .ok (.int .i64 (rows.length : Int)) σ
  | some (.slice _), .msl _ _ len _ _ => .ok (.int .i64 (len : Int)) σ
  | some .string, .str s => .ok (.int .i64 (s.length : Int)) σ
  | _, _ => .bad
def capOp (t : TypeId) (x : D) (σ : Sto) : ARes := match P.underlying t, x with
  | some (.slice _), .sl true _ _ => .ok (.int .i64 0) σ
  | some (.slice _), .msl _ _ _ lo true => .ok (.int .i64 (lo : Int)) σ
  | _, _ => .bad

def builtinD (b : Builtin) (ts : List TypeId) (args : List D) (σ : Sto) : ARes :=
  match b, args, ts with
  | .len, [x], [t] => lenOp P t x σ
  | .cap, [x], [t] => capOp P t x σ
  | .append, [s, x], [t, t'] => (match P.underlying t', srcKind x with | some (.slice _), 0 => appendD P t s x σ | some .string, 1 => appendD P t s x σ | _, _ => .bad)
  | .copy, [d, s], [t, _] => copyD P t d s σ
  | .clear, [s], [t] => clearD P t s σ
  | .min, ds, _ => .opt (mnD ds) σ
  | .max, ds, _ => .opt (mxD ds) σ
  | _, _, _ => .bad

/-- A function with a body of its own. -/
def callable (f : FuncId) : Bool := match P.funcs[f]? with
  | some fn => fn.body.isSome && !(fn.name == "runtime.NumGoroutine")
  | none => false

def callD (c : Call) (ρ : Operand → D) (σ : Sto) : ARes :=
  match c.callee with
  | .builtin b => builtinD P b c.argTypes.toList (c.args.toList.map ρ) σ
  | .value f => (match ρ f with
    | .fn g first caps => if callable P g = true then .call g (first ++ c.args.toList.map ρ ++ caps) else .bad
    | _ => .bad)
  | .invoke .. => .bad

def aop (ρ : Operand → D) (o : Oper) (σ : Sto) : ARes :=
  match o.op with
  | .move x => .ok (ρ x) σ
  | .assign x => .ok (ρ x) σ
  | .pick c a b => (match ρ c with | .bool x => .split x fun y => .ok (if y then ρ a else ρ b) σ | _ => .bad)
  | .alloc t => (match zeroD P t with | some z => allocD P t z σ | none => .bad)
  | .box t x => allocD P t (ρ x) σ
  | .build t parts => .opt (buildD P t (parts.toList.map fun p => (p.1, ρ p.2))) σ
  | .buildSlice t len parts => buildSliceD P t len (parts.toList.map fun p => (p.1, ρ p.2)) σ
  | .load t a => loadD P t (ρ a) σ
  | .store t a x => storeD P t (ρ a) (ρ x) σ
  | .nilCheck x => (match ρ x with | .ptr b i o => .ok (.ptr b i o) σ | .iptr z r i o => .ok (.iptr z r i o) σ | .fn f a b => .ok (.fn f a b) σ | .iface t v => .ok (.iface t v) σ | _ => .bad)
  | .binOp op t x y _ => binD P op t (ρ x) (ρ y) σ
  | .unOp op _ x => .opt (unD op (ρ x)) σ
  | .convert s d x => convD P s d (ρ x) σ
  | .makeFunc (.func f) first caps => .ok (.fn f (first.toList.map ρ) (caps.toList.map ρ)) σ
  | .makeSlice t l c => (match ρ l, ρ c with | .int _ a, .int _ b => makeSliceD P t a b σ | _, _ => .bad)
  | .slice t x lo hi mx => (match intArg (lo.map ρ), intArg (hi.map ρ), intArg (mx.map ρ) with | some l, some h, some m => sliceD P t (ρ x) l h m σ | _, _, _ => .bad)
  | .fieldAddr t x f => .opt (fieldAddrD P t (ρ x) f) σ
  | .field t x f => .opt (fieldD P t (ρ x) f) σ
  | .indexAddr t x i => (match ρ i with | .int _ n => indexAddrD P t (ρ x) n σ | _ => .bad)
  | .index t x i => (match ρ i with | .int _ n => indexD P t (ρ x) n σ | _ => .bad)
  | .extract x i => (match ρ x with | .tup vs => .opt vs[i]? σ | _ => .bad)
  | .makeInterface t x => (match P.underlying t with | some (.interface _) => .bad | some _ => (match ρ x with | .undef => .bad | .tup _ => .bad | d => .ok (.iface t d) σ) | none => .bad)
  | .call c => callD P c ρ σ
  | _ => .bad

end
end Go.RX
