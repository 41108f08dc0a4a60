/-
  Words and walks for FenceWrites. No condition.
-/
import Derived.Orders
import Derived.Tactics
import Derived.KernelRfl
import Derived.Laws.IdiomCopy
import Derived.Laws.NewBlocks
import Derived.Deep.AppendSrc
import Derived.Room.Entries
import Derived.Deep.MidRow
import Derived.Laws.StructEq
import Derived.Laws.Slices
import Derived.Great.BuildSlice
import Derived.Laws.Tables
import Derived.IntWalk
set_option linter.unusedSectionVars false
set_option linter.unnecessarySimpa false
namespace Go.RX
/-- Abstract data: scalars, immutable slices as rows of cells ('sl'), pointers to local blocks ('ptr', 'msl'), pointers into immutable memory ('iptr'). -/
inductive D where
  | undef
  | bool (b : Bool)
  | int (k : IntKind) (n : Int)
  | str (s : List UInt8)
  | nilp
  | ptr (b i o : Nat)
  | iptr (sz : Nat) (rows : List (List D)) (i o : Nat)
  | sl (nl : Bool) (sz : Nat) (rows : List (List D))
  | msl (b i len lo : Nat) (ex : Bool)
  | fn (f : FuncId) (first caps : List D)
  | nilfn
  | agg (cs : List D)
  | tup (vs : List D)
  | iface (t : TypeId) (v : D)
  | nili
  | yld (l : Nat)
  deriving Inhabited
structure Blk where
  sz : Nat
  deep : Bool
  rows : List (List D)
abbrev Sto := List (Option Blk)
abbrev Fr := List (Nat × D)
def fget : Fr → Nat → D
  | [], _ => .undef
  | x :: r, t => bif Nat.beq x.1 t then x.2 else fget r t
def fset (fr : Fr) (t : Nat) (d : D) : Fr := (t, d) :: fr
def sget (σ : Sto) (b : Nat) : Option Blk := match σ[b]? with | some (some B) => some B | _ => none
def scal : D → Bool
  | .undef | .agg _ | .tup _ => false
  | _ => true
def hasRef1 : D → Bool
  | .ptr .. | .msl .. => true
  | .fn _ first caps => !(first.isEmpty && caps.isEmpty)
  | .iface .. => true
  | _ => false
def ofScal : Value → D
  | .bool b => .bool b
  | .int k n => .int k n
  | .string s => .str s.data.toList
  | .pointer none => .nilp
  | .slice none 0 0 => .sl true 0 []
  | .func (.func f) first caps => if first.size = 0 ∧ caps.size = 0 then .fn f [] [] else .undef
  | .nilFunc => .nilfn
  | .nilIface => .nili
  | _ => .undef
def ofConst : Value → D
  | .agg cs => .agg (cs.toList.map ofScal)
  | v => ofScal v
def evalD (gl : Nat → D) (fr : Fr) : Operand → D
  | .tmp t => fget fr t
  | .const v => ofConst v
  | .global g => gl g
  | .func f => .fn f [] []
def cellsD : D → Option (List D)
  | .agg cs => some cs
  | .undef | .tup _ => none
  | d => some [d]
inductive ARes where
  | ok (d : D) (σ : Sto)
  | need (b : Bool) (k : ARes)
  | split (b : Bool) (k : Bool → ARes)
  | row (r : Option (List D)) (k : List D → ARes)
  | rows (r : List (List D)) (k : List (List D) → ARes)
  | str (r : Option (List UInt8)) (k : List UInt8 → ARes)
  | any (p : Bool) (k : Bool → ARes)
  | call (f : FuncId) (args : List D)
  | yld (l : Nat) (args : List D)
  | bad
def ARes.opt (o : Option D) (σ : Sto) : ARes := match o with | some d => .ok d σ | none => .bad
section
variable (P : Program)
def szOf (t : TypeId) : Option Nat := (P.info? t).map (·.size)
def byOf (t : TypeId) : Option Nat := (P.info? t).map (·.bytes)
def rowT : TypeDesc → Bool
  | .struct _ => true
  | .array _ _ => true
  | _ => false
def tyOf (t : TypeId) : Option (Nat × Bool) := match szOf P t, P.underlying t with | some n, some d => some (n, rowT d) | _, _ => none
def zeroD (t : TypeId) : Option D := match (P.info? t).bind (·.zero) with | some v => some (ofConst v) | none => none
def rowSz (t : TypeId) : Option Nat := match P.underlying t with | some (.array _ e) => szOf P e | _ => szOf P t
def chunk (sz : Nat) : Nat → List D → List (List D)
  | 0, _ => []
  | n + 1, cs => cs.take sz :: chunk sz n (cs.drop sz)
def newBlk (t : TypeId) (d : D) : Option Blk :=
  match cellsD d, szOf P t, rowSz P t with
  | some cs, some n, some sz =>
    if cs.length = n ∧ cs.all scal = true ∧ 0 < sz ∧ n = n / sz * sz then some ⟨sz, cs.any hasRef1, chunk sz (n / sz) cs⟩ else none
  | _, _, _ => none
def allocD (t : TypeId) (d : D) (σ : Sto) : ARes :=
  match newBlk P t d with
  | some B => .ok (.ptr σ.length 0 0) (σ ++ [some B])
  | none => .bad
/-! loads and stores -/
def readRow (rows : List (List D)) (sz i o n : Nat) (ag : Bool) (σ : Sto) : ARes :=
  if o + n ≤ sz then
    .row rows[i]? fun r => if ag then (if r.length = sz then .ok (.agg ((r.drop o).take n)) σ else .bad) else (if n = 1 then .opt r[o]? σ else .bad)
  else if o = 0 ∧ ag = true ∧ 0 < sz ∧ n = n / sz * sz then
    .need (Nat.ble (i + n / sz) rows.length) (.rows ((rows.drop i).take (n / sz)) fun rs => .ok (.agg rs.flatten) σ)
  else .bad
def loadD (t : TypeId) (p : D) (σ : Sto) : ARes :=
  match tyOf P t with
  | none => .bad
  | some (n, ag) =>
    match p with
    | .ptr b i o => match sget σ b with
      | some B => readRow B.rows B.sz i o n ag σ
      | none => .bad
    | .iptr sz rows i o => readRow rows sz i o n ag σ
    | _ => .bad
def storeD (t : TypeId) (p v : D) (σ : Sto) : ARes :=
  match szOf P t, cellsD v, p with
  | some n, some cs, .ptr b i o =>
    match sget σ b with
    | some B =>
      if cs.length = n ∧ cs.all scal = true then
        if o + n ≤ B.sz then
          .row B.rows[i]? fun r => .rows (B.rows.set i (r.take o ++ cs ++ r.drop (o + n))) fun rs => .ok .undef (σ.set b (some ⟨B.sz, B.deep || cs.any hasRef1, rs⟩))
        else if o = 0 ∧ 0 < B.sz ∧ n = n / B.sz * B.sz then
          .need (Nat.ble (i + n / B.sz) B.rows.length)
            (.rows (B.rows.take i ++ chunk B.sz (n / B.sz) cs ++ B.rows.drop (i + n / B.sz)) fun rs => .ok .undef (σ.set b (some ⟨B.sz, B.deep || cs.any hasRef1, rs⟩)))
        else .bad
      else .bad
    | none => .bad
  | _, _, _ => .bad
/-! integers -/
def iop (op : BinOp) (k : IntKind) (x y : Int) : Option D :=
  match op with
  | .add => some (.int k (k.wrap (x + y)))
  | .sub => some (.int k (k.wrap (x - y)))
  | .mul => some (.int k (k.wrap (x * y)))
  | .and => some (.int k (k.wrap ((BitVec.ofInt k.bits x &&& BitVec.ofInt k.bits y).toNat : Int)))
  | .or => some (.int k (k.wrap ((BitVec.ofInt k.bits x ||| BitVec.ofInt k.bits y).toNat : Int)))
  | .xor => some (.int k (k.wrap ((BitVec.ofInt k.bits x ^^^ BitVec.ofInt k.bits y).toNat : Int)))
  | .andNot => some (.int k (k.wrap ((BitVec.ofInt k.bits x &&& ~~~ BitVec.ofInt k.bits y).toNat : Int)))
  | .eql => some (.bool (x == y))
  | .neq => some (.bool (x != y))
  | .lss => some (.bool (decide (x < y)))
  | .leq => some (.bool (decide (x ≤ y)))
  | .gtr => some (.bool (decide (x > y)))
  | .geq => some (.bool (decide (x ≥ y)))
  | _ => none
def intBin (op : BinOp) (k k' : IntKind) (x y : Int) (σ : Sto) : ARes :=
  match op with
  | .shl => .need (!decide (y < 0)) (.ok (.int k (k.wrap (x * 2 ^ (min y.toNat k.bits)))) σ)
  | .shr => .need (!decide (y < 0)) (.ok (.int k (x.fdiv (2 ^ (min y.toNat k.bits)))) σ)
  | .quo => if k = k' then .need (!decide (y = 0)) (.ok (.int k (k.wrap (x.tdiv y))) σ) else .bad
  | .rem => if k = k' then .need (!decide (y = 0)) (.ok (.int k (x.tmod y)) σ) else .bad
  | op => if k = k' then .opt (iop op k x y) σ else .bad
def partD (t : TypeId) (cs : List D) (off : Nat) : Option D :=
  match tyOf P t with
  | some (n, ag) => if ag then some (.agg ((cs.drop off).take n)) else cs[off]?
  | none => none
def partA (t : TypeId) (cs : List D) (off : Nat) (σ : Sto) : ARes :=
  match tyOf P t with
  | some (n, ag) => if ag then .ok (.agg ((cs.drop off).take n)) σ else .row ((cs[off]?).map fun d => [d]) fun r => .opt r[0]? σ
  | none => .bad
def allB : List (Option Bool) → Option Bool
  | [] => some true
  | some b :: r => match allB r with | some c => some (b && c) | none => none
  | none :: _ => none
def deq : Nat → TypeId → D → D → Option Bool
  | 0, _, _, _ => none
  | n + 1, t, x, y =>
    match P.underlying t, x, y with
    | some .bool, .bool a, .bool b => some (a == b)
    | some (.int _), .int k a, .int k' b => if k = k' then some (a == b) else none
    | some .string, .str a, .str b => some (a == b)
    | some (.struct fields), .agg xs, .agg ys =>
      if P.stoodInHeld t then none
      else allB (fields.toList.map fun f => if f.name ≠ "_" then (match partD P f.type xs f.offset, partD P f.type ys f.offset with | some a, some b => deq n f.type a b | _, _ => none) else some true)
    | some (.array len e), .agg xs, .agg ys =>
      match szOf P e with
      | some m => allB ((List.range len).map fun i => match partD P e xs (i * m), partD P e ys (i * m) with | some a, some b => deq n e a b | _, _ => none)
      | none => none
    | _, _, _ => none
def aggGuard (t : TypeId) : D → Bool
  | .agg _ => P.eqGuardType P.depth t
  | _ => false
def eqlD (t : TypeId) (x y : D) : Option Bool :=
  match y with
  | .sl true _ _ => (match x, P.underlying t with | .sl true _ _, some (.slice _) => some true | _, _ => none)
  | .nilp => (match x, P.underlying t with | .nilp, some (.pointer _) => some true | .ptr .., some (.pointer _) => some false | .iptr .., some (.pointer _) => some false | _, _ => none)
  | .nilfn => (match x, P.underlying t with | .nilfn, some (.func _ _ _) => some true | .fn .., some (.func _ _ _) => some false | _, _ => none)
  | .nili => (match x, P.underlying t with | .iface .., some (.interface _) => some false | _, _ => none)
  | y => bif aggGuard P t x then none else deq P 8 t x y
def nilCmp (t : TypeId) (x y : D) : Option Bool :=
  match y with
  | .sl true _ _ => (match x, P.underlying t with
    | .sl false _ rows, some (.slice _) => some rows.isEmpty
    | .msl _ _ len _ _, some (.slice _) => some (Nat.beq len 0)
    | _, _ => none)
  | _ => none
def eqQ (t : TypeId) (x y : D) (k : Bool → ARes) : ARes :=
  match nilCmp P t x y with
  | some p => .any p k
  | none => (match eqlD P t x y with | some b => k b | none => .bad)
def binD (op : BinOp) (t : TypeId) (x y : D) (σ : Sto) : ARes :=
  match x, y with
  | .int k a, .int k' b => intBin op k k' a b σ
  | .str a, .str b =>
    (match op with
     | .eql => .ok (.bool (a == b)) σ
     | .neq => .ok (.bool (!(a == b))) σ
     | .lss => .ok (.bool (Op.bytesLess a b)) σ
     | .add => .need (decide (((a.length + b.length : Nat) : Int) ≤ IntKind.i64.max)) (.ok (.str (a ++ b)) σ)
     | _ => .bad)
  | x, y =>
    match op with
    | .eql => eqQ P t x y fun b => .ok (.bool b) σ
    | .neq => eqQ P t x y fun b => .ok (.bool (!b)) σ
    | _ => .bad
def unD (op : UnOp) (x : D) : Option D :=
  match op, x with
  | .not, .bool b => some (.bool (!b))
  | .neg, .int k n => some (.int k (k.wrap (0 - n)))
  | .xor, .int k n => iop .xor k (if k.signed then -1 else k.max) n
  | _, _ => none
/-! slices -/
def rowsD (σ : Sto) : D → Option (Nat × Bool × Option Nat × List (List D))
  | .sl _ sz rows => some (sz, false, none, rows)
  | .msl b i len _ _ => (match sget σ b with | some B => some (B.sz, B.deep, some len, (B.rows.drop i).take len) | none => none)
  | .str s => some (1, false, none, s.map fun c => [.int .u8 (c.toNat : Int)])
  | _ => none
def srcKind : D → Nat
  | .sl .. | .msl .. => 0
  | .str _ => 1
  | _ => 2
def isStr : D → Bool
  | .str _ => true
  | _ => false
def needN (n : Option Nat) (k : Nat) (r : ARes) : ARes := match n with | none => r | some m => .need (Nat.beq k m) r
def rowsStr : List (List D) → Option (List UInt8)
  | [] => some []
  | r :: rows => match r with
    | [.int .u8 n] => (match rowsStr rows with | some s => some (UInt8.ofNat n.toNat :: s) | none => none)
    | _ => none
def indexAddrD (t : TypeId) (x : D) (i : Int) (σ : Sto) : ARes :=
  match P.underlying t with
  | some (.slice e) =>
    (match szOf P e with
     | none => .bad
     | some n =>
       match x with
       | .sl false sz rows => if sz = n ∧ 0 < n then .need (decide (0 ≤ i) && decide (i < (rows.length : Int))) (.ok (.iptr sz rows i.toNat 0) σ) else .bad
       | .sl true _ _ => .bad
       | .msl b j len _ _ => (match sget σ b with
         | some B => if B.sz = n ∧ 0 < n then .need (decide (0 ≤ i) && decide (i < (len : Int))) (.ok (.ptr b (j + i.toNat) 0) σ) else .bad
         | none => .bad)
       | _ => .bad)
  | some (.array len e) =>
    (match szOf P e, x with
     | some n, .ptr b j o => (match sget σ b with
       | some B => if B.sz = n ∧ 0 < n ∧ o = 0 then .need (decide (0 ≤ i) && decide (i < (len : Int))) (.ok (.ptr b (j + i.toNat) 0) σ) else .bad
       | none => .bad)
     | some n, .iptr sz rows j o => if sz = n ∧ 0 < n ∧ o = 0 then .need (decide (0 ≤ i) && decide (i < (len : Int))) (.ok (.iptr sz rows (j + i.toNat) 0) σ) else .bad
     | _, _ => .bad)
  | _ => .bad
def indexD (t : TypeId) (x : D) (i : Int) (σ : Sto) : ARes :=
  match P.underlying t, x with
  | some (.array len e), .agg cs =>
    (match szOf P e with
     | some n => .need (decide (0 ≤ i) && decide (i < (len : Int))) (partA P e cs (i.toNat * n) σ)
     | none => .bad)
  | some .string, .str s => .need (decide (0 ≤ i) && decide (i < (s.length : Int))) (.row ((s[i.toNat]?).map fun c => [.int .u8 (c.toNat : Int)]) fun r => .opt r[0]? σ)
  | _, _ => .bad
def intArg : Option D → Option (Option Int)
  | none => some none
  | some (.int _ n) => some (some n)
  | some _ => none
def inB (lo hi : Nat) (x : Int) : Bool := decide ((lo : Int) ≤ x) && decide (x ≤ (hi : Int))
def sliceB (n c : Nat) (lo hi mx : Option Int) (k : (l h : Nat) → (m : Option Nat) → ARes) : ARes :=
  match lo, hi, mx with
  | none, none, none => k 0 n none
  | some l, none, none => .need (inB 0 n l) (k l.toNat n none)
  | none, some h, none => .need (inB 0 c h) (k 0 h.toNat none)
  | some l, some h, none => .need (inB 0 c h) (.need (inB 0 h.toNat l) (k l.toNat h.toNat none))
  | none, some h, some m => .need (inB 0 c m) (.need (inB 0 m.toNat h) (k 0 h.toNat (some m.toNat)))
  | some l, some h, some m => .need (inB 0 c m) (.need (inB 0 m.toNat h) (.need (inB 0 h.toNat l) (k l.toNat h.toNat (some m.toNat))))
  | _, _, _ => .bad
def sliceD (t : TypeId) (x : D) (lo hi mx : Option Int) (σ : Sto) : ARes :=
  match P.underlying t, x with
  | some .string, .str s => (match mx with | none => sliceB s.length s.length lo hi none fun l h _ => .ok (.str ((s.take h).drop l)) σ | some _ => .bad)
  | some (.slice e), .sl true sz _ => (match szOf P e with | some _ => sliceB 0 0 lo hi mx fun _ _ _ => .ok (.sl true sz []) σ | none => .bad)
  | some (.slice e), .sl false sz rows =>
    (match szOf P e with
     | some n => if sz = n then sliceB rows.length rows.length lo hi mx fun l h _ => .rows ((rows.take h).drop l) fun rs => .ok (.sl false sz rs) σ else .bad
     | none => .bad)
  | some (.slice e), .msl b i len lob ex =>
    (match szOf P e, sget σ b with
     | some n, some B => if B.sz = n then sliceB len lob lo hi mx fun l h m => .ok (match m with | none => .msl b (i + l) (h - l) (lob - l) ex | some m => .msl b (i + l) (h - l) (m - l) true) σ else .bad
     | _, _ => .bad)
  | some (.array n e), .ptr b i o =>
    (match szOf P e, sget σ b with
     | some sz, some B => if B.sz = sz ∧ o = 0 ∧ i + n ≤ B.rows.length then sliceB n n lo hi mx fun l h m => .ok (.msl b (i + l) (h - l) (m.getD n - l) true) σ else .bad
     | _, _ => .bad)
  | _, _ => .bad
def bytesLim : Nat := 140737488355328
def cellSz : Nat → TypeId → List (Option Nat)
  | 0, _ => [none]
  | n + 1, t => match P.underlying t with
    | some (.struct fields) => fields.toList.flatMap fun f => cellSz n f.type
    | some (.slice e) => [szOf P e]
    | some (.array k e) => (List.replicate k (cellSz n e)).flatten
    | _ => [none]
def fixZ : List D → List (Option Nat) → List D
  | [], _ => []
  | .sl true _ [] :: r, some n :: q => .sl false n [] :: fixZ r q
  | z :: r, _ :: q => z :: fixZ r q
  | z :: r, [] => z :: r
def zrow (t : TypeId) : Option (List D) := match (zeroD P t).bind cellsD with
  | some zs => some (fixZ zs (cellSz P 8 t))
  | none => none
def makeSliceD (t : TypeId) (same : Bool) (len cap : Int) (σ : Sto) : ARes :=
  match P.underlying t with
  | some (.slice e) =>
    (match szOf P e, byOf P e, zrow P e with
     | some n, some by_, some zs =>
       if zs.length = n ∧ 0 < n ∧ zs.all scal = true then
         .need (decide (0 ≤ len) && (decide (len ≤ cap) && (decide (cap ≤ 9223372036854775807) && decide (cap.toNat * by_ ≤ bytesLim))))
           (.rows (List.replicate cap.toNat zs) fun rs => bif same then .ok (.msl σ.length 0 rs.length rs.length true) (σ ++ [some ⟨n, zs.any hasRef1, rs⟩]) else .ok (.msl σ.length 0 len.toNat cap.toNat true) (σ ++ [some ⟨n, zs.any hasRef1, rs⟩]))
       else .bad
     | _, _, _ => .bad)
  | _ => .bad
def setParts (rows : List (List D)) (n : Nat) : List (Nat × D) → Option (List (List D))
  | [] => some rows
  | (i, d) :: r => match cellsD d with
    | some cs => if cs.length = n ∧ i < rows.length ∧ cs.all scal = true then setParts (rows.set i cs) n r else none
    | none => none
def buildSliceD (t : TypeId) (len : Nat) (parts : List (Nat × D)) (σ : Sto) : ARes :=
  match P.underlying t with
  | some (.slice e) =>
    (match szOf P e, (zeroD P e).bind cellsD with
     | some n, some zs =>
       if zs.length = n ∧ 0 < n ∧ zs.all scal = true ∧ len * n ≤ 16777216 then
         (match setParts (List.replicate len zs) n parts with
          | some rows => .ok (.msl σ.length 0 len len true) (σ ++ [some ⟨n, rows.any (fun r => r.any hasRef1), rows⟩])
          | none => .bad)
       else .bad
     | _, _ => .bad)
  | _ => .bad
def fillD (place : Nat → Option (Nat × Nat)) (cells : List D) : List (Nat × D) → Option (List D)
  | [] => some cells
  | (i, d) :: r => match cellsD d, place i with
    | some cs, some (off, size) => if cs.length = size ∧ off + size ≤ cells.length then fillD place (cells.take off ++ cs ++ cells.drop (off + size)) r else none
    | _, _ => none
def buildD (t : TypeId) (parts : List (Nat × D)) : Option D :=
  match P.info? t, P.underlying t with
  | some it, some (.array _ e) =>
    (match it.zero, P.info? e with
     | some z, some ie => (match cellsD (ofConst z) with | some zc => (fillD (fun i => some (i * ie.size, ie.size)) zc parts).map .agg | none => none)
     | _, _ => none)
  | some it, some (.struct fields) =>
    (match it.zero, fields.toList.mapM (fun f => (P.info? f.type).map fun i => (f.offset, i.size)) with
     | some z, some places => (match cellsD (ofConst z) with | some zc => (fillD (places.toArray[·]?) zc parts).map .agg | none => none)
     | _, _ => none)
  | _, _ => none
def fieldAddrD (s : TypeId) (p : D) (f : Nat) : Option D :=
  match P.underlying s with
  | some (.struct fields) =>
    (match fields[f]? with
     | some fd => (match szOf P fd.type with
       | some n => if n = 0 then none else (match p with
         | .ptr b i o => some (.ptr b i (o + fd.offset))
         | .iptr sz rows i o => some (.iptr sz rows i (o + fd.offset))
         | _ => none)
       | none => none)
     | none => none)
  | _ => none
def fieldD (s : TypeId) (x : D) (f : Nat) : Option D :=
  match P.underlying s, x with
  | some (.struct fields), .agg cs => (match fields[f]? with | some fd => partD P fd.type cs fd.offset | none => none)
  | _, _ => none
def convD (src dst : TypeId) (x : D) (σ : Sto) : ARes :=
  match P.underlying src, P.underlying dst, x with
  | some (.int _), some (.int k), .int _ n => .ok (.int k (k.wrap n)) σ
  | some .string, some .string, .str s => .ok (.str s) σ
  | some .string, some (.slice e), .str s =>
    (match P.underlying e with
     | some (.int .u8) => .rows (s.map fun c => [.int .u8 (c.toNat : Int)]) fun rs => .ok (.msl σ.length 0 rs.length rs.length false) (σ ++ [some ⟨1, false, rs⟩])
     | _ => .bad)
  | some (.slice _), some (.slice e), .msl b i len lo ex =>
    (match P.underlying e, sget σ b with
     | some (.int .u8), some B => if src = dst ∧ 0 < B.sz then .need (Nat.blt 0 len) (.ok (.msl b i len lo ex) σ) else .bad
     | _, _ => .bad)
  | some (.slice e), some .string, x =>
    (match P.underlying e, szOf P e, rowsD σ x with
     | some (.int .u8), some 1, some (sz, _, n, rows) => if (sz = 1 ∨ (rows.isEmpty = true ∧ isStr x = false)) ∧ isStr x = false then needN n rows.length (.str (rowsStr rows) fun s => .ok (.str s) σ) else .bad
     | _, _, _ => .bad)
  | _, _, _ => .bad
def appendD (t : TypeId) (s x : D) (σ : Sto) : ARes :=
  match P.underlying t with
  | some (.slice e) =>
    (match szOf P e, byOf P e, (zeroD P e).bind cellsD, rowsD σ x with
     | some n, some by_, some zs, some (sz, dp, cnt, new) =>
       if (sz = n ∨ (new.isEmpty = true ∧ isStr x = false)) ∧ 0 < n ∧ 0 < by_ ∧ zs.length = n then
         needN cnt new.length (match s with
         | .sl true _ _ =>
           .need (decide (new.length * by_ ≤ bytesLim)) (.rows new fun rs => .ok (.msl σ.length 0 rs.length rs.length false) (σ ++ [some ⟨n, dp, rs⟩]))
         | .msl b i len _ _ =>
           (match sget σ b with
            | some B =>
              if B.sz = n then
                .need (decide ((len + new.length) * by_ ≤ bytesLim)) (.need (Nat.ble (i + len) B.rows.length)
                  (.rows ((B.rows.drop i).take len ++ new) fun rs => .ok (.msl σ.length 0 rs.length rs.length false)
                    (σ.set b none ++ [some ⟨n, B.deep || dp, rs⟩])))
              else .bad
            | none => .bad)
         | _ => .bad)
       else .bad
     | _, _, _, _ => .bad)
  | _ => .bad
def appendZ (t : TypeId) (s x : D) (σ : Sto) : ARes :=
  match P.underlying t with
  | some (.slice e) =>
    (match szOf P e, byOf P e, zrow P e, s, x with
     | some n, some by_, some zs, .sl true _ _, .int _ m =>
       if zs.length = n ∧ 0 < n ∧ 0 < by_ ∧ zs.all scal = true then
         .need (decide (1 ≤ m) && decide (m.toNat * by_ ≤ bytesLim))
           (.rows (List.replicate m.toNat zs) fun rs => .ok (.msl σ.length 0 rs.length rs.length false) (σ ++ [some ⟨n, zs.any hasRef1, rs⟩]))
       else .bad
     | _, _, _, _, _ => .bad)
  | _ => .bad
def copyD (t : TypeId) (dst src : D) (σ : Sto) : ARes :=
  match P.underlying t with
  | some (.slice e) =>
    (match szOf P e, rowsD σ src, dst with
     | some n, some (sz, dp, cnt, rows), .msl b i len _ _ =>
       (match sget σ b with
        | some B => if (sz = n ∨ (rows.isEmpty = true ∧ isStr src = false)) ∧ B.sz = n ∧ 0 < n then
            needN cnt rows.length (.need (Nat.ble (i + len) B.rows.length)
              (.rows (B.rows.take i ++ rows.take (min rows.length len) ++ B.rows.drop (i + min rows.length len)) fun rs => .ok (.int .i64 ((min rows.length len : Nat) : Int)) (σ.set b (some ⟨n, B.deep || dp, rs⟩))))
          else .bad
        | none => .bad)
     | _, _, _ => .bad)
  | _ => .bad
def clearD (t : TypeId) (s : D) (σ : Sto) : ARes :=
  match P.underlying t, s with
  | some (.slice _), .sl true _ _ => .ok (.tup []) σ
  | some (.slice e), .msl b i len _ _ =>
    (match szOf P e, zrow P e, sget σ b with
     | some n, some zs, some B =>
       if zs.length = n ∧ 0 < n ∧ B.sz = n ∧ zs.all scal = true then
         .need (Nat.ble (i + len) B.rows.length) (.rows (B.rows.take i ++ List.replicate len zs ++ B.rows.drop (i + len)) fun rs => .ok (.tup []) (σ.set b (some ⟨n, B.deep || zs.any hasRef1, rs⟩)))
       else .bad
     | _, _, _ => .bad)
  | _, _ => .bad
def mnStep (a : Option D) (d : D) : Option D := match a, d with | some (.int k x), .int _ y => some (.int k (if y < x then y else x)) | _, _ => none
def mxStep (a : Option D) (d : D) : Option D := match a, d with | some (.int k x), .int _ y => some (.int k (if x < y then y else x)) | _, _ => none
def mnD (ds : List D) : Option D := match ds with
  | .int k x :: r => r.foldl mnStep (some (.int k x))
  | _ => none
def mxD (ds : List D) : Option D := match ds with
  | .int k x :: r => r.foldl mxStep (some (.int k x))
  | _ => none
def lenOp (t : TypeId) (x : D) (σ : Sto) : ARes := match P.underlying t, x with
  | some (.array n _), _ => .ok (.int .i64 n) σ
  | some (.slice _), .sl _ _ rows => .ok (.int .i64 (rows.length : Int)) σ
  | some (.slice _), .msl _ _ len _ _ => .ok (.int .i64 (len : Int)) σ
  | some .string, .str s => .ok (.int .i64 (s.length : Int)) σ
  | _, _ => .bad
def capOp (t : TypeId) (x : D) (σ : Sto) : ARes := match P.underlying t, x with
  | some (.slice _), .sl true _ _ => .ok (.int .i64 0) σ
  | some (.slice _), .msl _ _ _ lo true => .ok (.int .i64 (lo : Int)) σ
  | _, _ => .bad
def builtinD (b : Builtin) (ts : List TypeId) (args : List D) (σ : Sto) : ARes :=
  match b, args, ts with
  | .len, [x], [t] => lenOp P t x σ
  | .cap, [x], [t] => capOp P t x σ
  | .append, [s, x], [t, t'] => (match P.underlying t', srcKind x with | some (.slice _), 0 => appendD P t s x σ | some .string, 1 => appendD P t s x σ | some (.int _), 2 => appendZ P t s x σ | _, _ => .bad)
  | .copy, [d, s], [t, _] => copyD P t d s σ
  | .clear, [s], [t] => clearD P t s σ
  | .min, ds, _ => .opt (mnD ds) σ
  | .max, ds, _ => .opt (mxD ds) σ
  | _, _, _ => .bad
def callable (f : FuncId) : Bool := match P.funcs[f]? with
  | some fn => fn.body.isSome && !(fn.name == "runtime.NumGoroutine")
  | none => false
def callD (c : Call) (ρ : Operand → D) (σ : Sto) : ARes :=
  match c.callee with
  | .builtin b => builtinD P b c.argTypes.toList (c.args.toList.map ρ) σ
  | .value f => (match ρ f with
    | .fn g first caps => if callable P g = true then .call g (first ++ c.args.toList.map ρ ++ caps) else .bad
    | .yld l => .yld l (c.args.toList.map ρ)
    | _ => .bad)
  | .invoke .. => .bad
def sameOp : Operand → Operand → Bool
  | .tmp x, .tmp y => Nat.beq x y
  | _, _ => false
def aop (ρ : Operand → D) (o : Oper) (σ : Sto) : ARes :=
  match o.op with
  | .move x => .ok (ρ x) σ
  | .assign x => .ok (ρ x) σ
  | .pick c a b => (match ρ c with | .bool x => .split x fun y => .ok (if y then ρ a else ρ b) σ | _ => .bad)
  | .alloc t => (match zeroD P t with | some z => allocD P t z σ | none => .bad)
  | .box t x => allocD P t (ρ x) σ
  | .build t parts => .opt (buildD P t (parts.toList.map fun p => (p.1, ρ p.2))) σ
  | .buildSlice t len parts => buildSliceD P t len (parts.toList.map fun p => (p.1, ρ p.2)) σ
  | .load t a => loadD P t (ρ a) σ
  | .store t a x => storeD P t (ρ a) (ρ x) σ
  | .nilCheck x => (match ρ x with | .ptr b i o => .ok (.ptr b i o) σ | .iptr z r i o => .ok (.iptr z r i o) σ | .fn f a b => .ok (.fn f a b) σ | .iface t v => .ok (.iface t v) σ | _ => .bad)
  | .binOp op t x y _ => binD P op t (ρ x) (ρ y) σ
  | .unOp op _ x => .opt (unD op (ρ x)) σ
  | .convert s d x => convD P s d (ρ x) σ
  | .makeFunc (.func f) first caps => .ok (.fn f (first.toList.map ρ) (caps.toList.map ρ)) σ
  | .makeSlice t l c => (match ρ l, ρ c with | .int _ a, .int _ b => makeSliceD P t (sameOp l c) a b σ | _, _ => .bad)
  | .slice t x lo hi mx => (match intArg (lo.map ρ), intArg (hi.map ρ), intArg (mx.map ρ) with | some l, some h, some m => sliceD P t (ρ x) l h m σ | _, _, _ => .bad)
  | .fieldAddr t x f => .opt (fieldAddrD P t (ρ x) f) σ
  | .field t x f => .opt (fieldD P t (ρ x) f) σ
  | .indexAddr t x i => (match ρ i with | .int _ n => indexAddrD P t (ρ x) n σ | _ => .bad)
  | .index t x i => (match ρ i with | .int _ n => indexD P t (ρ x) n σ | _ => .bad)
  | .extract x i => (match ρ x with | .tup vs => .opt vs[i]? σ | _ => .bad)
  | .makeInterface t x => (match P.underlying t with | some (.interface _) => .bad | some _ => (match ρ x with | .undef => .bad | .tup _ => .bad | d => .ok (.iface t d) σ) | none => .bad)
  | .call c => callD P c ρ σ
  | _ => .bad
end
end Go.RX

namespace Go.RX
/-! ### going through a datum -/
def mapO (f : D → Option D) : List D → Option (List D)
  | [] => some []
  | d :: r => match f d, mapO f r with | some e, some s => some (e :: s) | _, _ => none
def mapR (f : D → Option D) : List (List D) → Option (List (List D))
  | [] => some []
  | d :: r => match mapO f d, mapR f r with | some e, some s => some (e :: s) | _, _ => none
def tr (h : D → Option D) : Nat → D → Option D
  | 0, _ => none
  | n + 1, d => match d with
    | .ptr b i o => h (.ptr b i o)
    | .msl b i len lo ex => h (.msl b i len lo ex)
    | .fn f a c => (match mapO (tr h n) a, mapO (tr h n) c with | some a, some c => some (.fn f a c) | _, _ => none)
    | .agg cs => (mapO (tr h n) cs).map .agg
    | .tup cs => (mapO (tr h n) cs).map .tup
    | .iface t v => (tr h n v).map (.iface t)
    | d => some d
def trFuel : Nat := 6
def refs : Nat → D → List Nat
  | 0, _ => []
  | n + 1, d => match d with
    | .ptr b _ _ => [b]
    | .msl b _ _ _ _ => [b]
    | .fn _ a c => a.flatMap (refs n) ++ c.flatMap (refs n)
    | .agg cs => cs.flatMap (refs n)
    | .tup cs => cs.flatMap (refs n)
    | .iface _ v => refs n v
    | _ => []
def renH (ρ : Nat → Option Nat) : D → Option D
  | .ptr b i o => (ρ b).map fun c => .ptr c i o
  | .msl b i len lo ex => (ρ b).map fun c => .msl c i len lo ex
  | d => some d
def idxOf : List Nat → Nat → Nat → Option Nat
  | [], _, _ => none
  | x :: r, b, k => bif Nat.beq x b then some k else idxOf r b (k + 1)
def frzH (σ : Sto) (m : Nat) (strict : Bool) : Nat → D → Option D
  | 0, _ => none
  | n + 1, d => match d with
    | .ptr b i o => bif Nat.blt b m then (bif strict then none else some (.ptr b i o)) else (match sget σ b with
      | some B => bif B.deep then (match mapR (tr (frzH σ m true n) trFuel) B.rows with | some rows => some (.iptr B.sz rows i o) | none => none) else some (.iptr B.sz B.rows i o)
      | none => none)
    | .msl b i len lo ex => bif Nat.blt b m then (bif strict then none else some (.msl b i len lo ex)) else (match sget σ b with
      | some B => bif Nat.ble (i + len) B.rows.length then
          (bif B.deep then (match mapR (tr (frzH σ m true n) trFuel) ((B.rows.drop i).take len) with | some rows => some (.sl false B.sz rows) | none => none) else some (.sl false B.sz ((B.rows.drop i).take len)))
        else none
      | none => none)
    | _ => none
def frz (σ : Sto) (m : Nat) (d : D) : Option D := tr (frzH σ m false 6) trFuel d
def frzHU (σ : Sto) (m : Nat) (strict : Bool) : Nat → D → Option D
  | 0, _ => none
  | n + 1, d => match d with
    | .ptr b i o => bif Nat.blt b m then (bif strict then none else some (.ptr b i o)) else (match sget σ b with
      | some B => bif B.deep then (match mapR (tr (frzHU σ m true n) trFuel) B.rows with | some rows => some (.iptr B.sz rows i o) | none => none) else some (.iptr B.sz B.rows i o)
      | none => none)
    | .msl b i len lo ex => bif Nat.blt b m then (bif strict then none else some (.msl b i len lo ex)) else (match sget σ b with
      | some B => (bif B.deep then (match mapR (tr (frzHU σ m true n) trFuel) ((B.rows.drop i).take len) with | some rows => some (.sl false B.sz rows) | none => none) else some (.sl false B.sz ((B.rows.drop i).take len)))
      | none => none)
    | _ => none
def frzU (σ : Sto) (m : Nat) (d : D) : Option D := tr (frzHU σ m false 6) trFuel d
def gat (c : D → List Bool) : Nat → D → List Bool
  | 0, _ => []
  | n + 1, d => match d with
    | .ptr b i o => c (.ptr b i o)
    | .msl b i len lo ex => c (.msl b i len lo ex)
    | .fn _ a b => a.flatMap (gat c n) ++ b.flatMap (gat c n)
    | .agg cs => cs.flatMap (gat c n)
    | .tup cs => cs.flatMap (gat c n)
    | .iface _ v => gat c n v
    | _ => []
def frzC (σ : Sto) (m : Nat) : Nat → D → List Bool
  | 0, _ => []
  | n + 1, d => match d with
    | .ptr b _ _ => bif Nat.blt b m then [] else (match sget σ b with
      | some B => bif B.deep then B.rows.flatMap (fun r => r.flatMap (gat (frzC σ m n) trFuel)) else []
      | none => [])
    | .msl b i len _ _ => bif Nat.blt b m then [] else (match sget σ b with
      | some B => Nat.ble (i + len) B.rows.length :: (bif B.deep then ((B.rows.drop i).take len).flatMap (fun r => r.flatMap (gat (frzC σ m n) trFuel)) else [])
      | none => [])
    | _ => []
def frzN (σ : Sto) (m : Nat) (d : D) : List Bool := gat (frzC σ m 6) trFuel d
def blkN (c : D → List Bool) : Option Blk → List Bool
  | none => []
  | some B => bif B.deep then B.rows.flatMap (fun r => r.flatMap c) else []
def noRef : D → Option D := fun _ => none
def mapBlk (f : D → Option D) : Option Blk → Option (Option Blk)
  | none => some none
  | some B => if B.deep then (mapR f B.rows).map fun rows => some ⟨B.sz, true, rows⟩ else some (some B)
def mapSto (f : D → Option D) : Sto → Option Sto
  | [] => some []
  | b :: r => match mapBlk f b, mapSto f r with | some b, some r => some (b :: r) | _, _ => none
def mapFr (f : D → Option D) : Fr → Option Fr
  | [] => some []
  | x :: r => match f x.2, mapFr f r with | some d, some r => some ((x.1, d) :: r) | _, _ => none
def reach (σ : Sto) : Nat → List Nat → List Nat → List Nat
  | 0, seen, _ => seen
  | _, seen, [] => seen
  | n + 1, seen, b :: todo =>
    bif seen.contains b then reach σ n seen todo else
      (match sget σ b with
       | some B => reach σ n (seen ++ [b]) (todo ++ (if B.deep then B.rows.flatMap (fun r => r.flatMap (refs trFuel)) else []))
       | none => reach σ n (seen ++ [b]) todo)
def pickSto (σ : Sto) (ids : List Nat) : Sto := ids.map fun b => match σ[b]? with | some B => B | none => none
def nodupB : List Nat → Bool
  | [] => true
  | x :: r => !(r.contains x) && nodupB r
def okIds (m : Nat) (ids : List Nat) : Bool := (ids.take m == List.range m) && nodupB ids
def compact (m : Nat) (fr : Fr) (σ : Sto) : Option (Fr × Sto) :=
  let ids := reach σ 200 [] (List.range m ++ fr.flatMap fun x => refs trFuel x.2)
  let f := tr (renH fun b => idxOf ids b 0) trFuel
  match okIds m ids, mapFr f fr, mapSto f (pickSto σ ids) with
  | true, some fr', some s => some (fr', s)
  | _, _, _ => none
/-! ### what is still read -/
def bit (t : Nat) : Nat := 1 <<< t
def clr (m t : Nat) : Nat := bif m.testBit t then m - bit t else m
def usesOp (o : Oper) : Nat := o.op.operands.toList.foldl (fun m x => match x with | .tmp t => m ||| bit t | _ => m) 0
def guardSlot (all : List Oper) (o : Oper) : Option Nat := match o.guard with | some (j, _) => (match all[j]? with | some g => g.dst | none => none) | none => none
def liveOps (all : List Oper) : List Oper → Nat → Nat
  | [], out => out
  | o :: l, out =>
    let r := liveOps all l out
    let r := match o.dst with | some t => clr r t | none => r
    let r := match guardSlot all o with | some s => r ||| bit s | none => r
    r ||| usesOp o
def exOf : List (Nat × Nat) → Nat → Nat
  | [], _ => 0
  | x :: r, id => bif Nat.beq x.1 id then x.2 else exOf r id
def operBit : Operand → Nat | .tmp t => bit t | _ => 0
def liveC (rm : Nat) : Code → Nat → List (Nat × Nat) → Nat
  | .skip, out, _ => out
  | .region _ ops _, out, _ => liveOps ops.toList ops.toList out
  | .seq a b, out, ex => liveC rm a (liveC rm b out ex) ex
  | .cond c a b, out, ex => operBit c ||| liveC rm a out ex ||| liveC rm b out ex
  | .block id c, out, ex => liveC rm c out ((id, out) :: ex)
  | .loop c, _, ex => liveC rm c (liveC rm c 0 ex) ex
  | .rangeFunc f _ a b, out, ex => operBit f ||| liveC rm a (liveC rm b out ex) ex ||| out
  | .exit id, _, ex => exOf ex id
  | .scope c, out, ex => liveC rm c out ex
  | .label _, out, _ => out
  | .goto _, _, _ => 0
  | .ret, _, _ => rm
  | .refuse _, _, _ => 0
/-! ### the machine -/
inductive It where
  | code (c : Code)
  | blk (id : Nat)
  | sc
  | lp (c : Code) (live : Nat)
  | lpc (c : Code) (live : Nat)
  | ops (all l : List Oper)
structure M where
  td : List It
  fr : Fr
  st : Sto
inductive Qy where
  | go (m : M)
  | need (b : Bool) (q : Qy)
  | split (b : Bool) (k : Bool → Qy)
  | row (r : Option (List D)) (k : List D → Qy)
  | rows (r : List (List D)) (k : List (List D) → Qy)
  | str (r : Option (List UInt8)) (k : List UInt8 → Qy)
  | any (p : Bool) (k : Bool → Qy)
  | call (f : FuncId) (args : List D) (sub : Sto) (k : D → Sto → Qy)
  | callD (f : FuncId) (args : List D) (k : D → Qy)
  | callS (f : FuncId) (args : List D) (sub : Sto) (k : D → Sto → Qy)
  | callR (f : FuncId) (args : List D) (sub σ : Sto) (bk : D → Sto → Option (D × Sto)) (k : D → Sto → Qy)
  | yld (l : Nat) (y : List D) (s : Sto) (k : Bool → Qy)
  | rng (m : Nat) (g : FuncId) (caps : List D) (sub σ : Sto) (ids : List Nat) (rnd : List D → Sto → Qy) (aft : Nat → Sto → Qy)
  | ret (d : D) (σ : Sto)
  | bad
def needs : List Bool → Qy → Qy
  | [], q => q
  | b :: r, q => .need b (needs r q)
/-- How a call is made: 'keep': what the callee made is handed over as blocks, not frozen; 'pass': the blocks that the arguments name go with them; 'lend' (of an iterator): the blocks that it names are the loop's still, as they were, in each round and behind it; 'ro': it leaves the blocks that are passed as they are. -/
structure Pol where
  keep : Bool := false
  pass : Bool := false
  lend : Bool := false
  ro : Bool := false
structure Env where
  P : Program
  pol : FuncId → Pol
  gl : Nat → D
/-- Where a block lies. -/
structure Loc where
  blk : Nat
  base : Nat
  sz : Nat
  size : Nat
abbrev Phi := List Loc
/-- Where a text runs: a function ('it': an iterator, whose loop's record is lp; Y is what it has still to tell, none: it is not asked for more; J is what holds of its loop's other side); 'rb': a round of such a loop. -/
structure Cx where
  fn : Func
  keep : Bool
  m : Nat
  rb : Bool
  it : Bool
  lp : Nat
  Y : Option (List (List D))
  J : Option (List (List D)) → World → (Nat → Prop) → (Nat → Prop) → Prop
  ln : Sto
  lp0 : Phi
def Cx.of (fn : Func) (keep : Bool) (m : Nat) : Cx := ⟨fn, keep, m, false, false, 0, none, fun _ _ _ _ => True, [], []⟩
def Cx.round (C : Cx) (m : Nat) : Cx := ⟨C.fn, true, m, true, false, 0, none, fun _ _ _ _ => True, [], []⟩
def Cx.tell (C : Cx) (Y : Option (List (List D))) : Cx := ⟨C.fn, C.keep, C.m, C.rb, C.it, C.lp, Y, C.J, C.ln, C.lp0⟩
def Cx.seq (fn : Func) (m : Nat) (ln : Sto) (l : Nat) (lp0 : Phi) (J : Option (List (List D)) → World → (Nat → Prop) → (Nat → Prop) → Prop) (Y : Option (List (List D))) : Cx := ⟨fn, false, m, false, true, l, Y, J, ln, lp0⟩
def retMask (fn : Func) : Nat := fn.results.toList.foldl (fun m r => match r with | .tmp t => m ||| bit t | .cell a _ => m ||| bit a) 0
def liveT (rm : Nat) : List It → Nat × List (Nat × Nat)
  | [] => (rm, [])
  | .code c :: t => let r := liveT rm t; (liveC rm c r.1 r.2, r.2)
  | .blk id :: t => let r := liveT rm t; (r.1, (id, r.1) :: r.2)
  | .sc :: t => liveT rm t
  | .lp _ k :: t => (k, (liveT rm t).2)
  | .lpc _ k :: t => (k, (liveT rm t).2)
  | .ops all l :: t => let r := liveT rm t; (liveOps all l r.1, r.2)
def keepL (mask : Nat) (fr : Fr) : List Nat → Fr
  | [] => []
  | t :: l => bif mask.testBit t then (match fget fr t with | .undef => keepL mask fr l | d => (t, d) :: keepL mask fr l) else keepL mask fr l
def keepFr (n : Nat) (mask : Nat) (fr : Fr) : Fr := keepL mask fr (List.range n)
def popTo (id : Nat) : List It → Option (List It)
  | [] => none
  | .blk j :: t => bif Nat.beq j id then some t else popTo id t
  | _ :: t => popTo id t
def put (fr : Fr) (dst : Option Nat) (d : D) : Fr := match dst with | some t => fset fr t d | none => fr
section
variable (E : Env) (C : Cx)
def plainD : Nat → D → Bool
  | 0, _ => false
  | n + 1, d => match d with
    | .bool _ | .int .. | .str _ => true
    | .agg cs => cs.all (plainD n)
    | .tup cs => cs.all (plainD n)
    | _ => false
def backN (ids : List Nat) (len : Nat) (j : Nat) : Option Nat := bif Nat.blt j ids.length then ids[j]? else some (len + (j - ids.length))
def setAll : List Nat → Sto → Sto → Sto
  | b :: ids, x :: xs, σ => (setAll ids xs σ).set b x
  | _, _, σ => σ
def selB (p : Nat → Bool) : Nat → Sto → Sto
  | _, [] => []
  | i, B :: r => (bif p i then B else none) :: selB p (i + 1) r
def joinR (d : D) (s : Sto) (σ : Sto) : Option (D × Sto) :=
  match s with
  | [] => some (d, σ)
  | _ =>
    let g := tr (renH fun j => some (σ.length + j)) trFuel
    (match g d, mapSto g s with
     | some d', some s' => some (d', σ ++ s')
     | _, _ => none)
/-- How a call is made: with which data, which blocks; what must hold; what comes of its answer. -/
structure CallP where
  args : List D
  sub : Sto
  ns : List Bool
  back : D → Sto → Option (D × Sto)
def callP (f : FuncId) (args : List D) (σ : Sto) : Option CallP :=
  match mapO (tr noRef trFuel) args with
  | some args' => some ⟨args', [], [], fun d s => joinR d s σ⟩
  | none =>
    bif (E.pol f).pass then
      let ids := reach σ 200 [] (args.flatMap (refs trFuel))
      let g := tr (renH fun b => idxOf ids b 0) trFuel
      match okIds 0 ids && ids.all (fun b => Nat.blt b σ.length), mapO g args, mapSto g (pickSto σ ids) with
      | true, some args', some sub =>
        some ⟨args', sub, [], fun d s =>
          let n := ids.length
          let back := tr (renH (backN ids σ.length)) trFuel
          (match back d, mapSto back s with
           | some d', some s' => bif Nat.ble n s'.length then some (d', setAll ids s' σ ++ s'.drop n) else none
           | _, _ => none)⟩
      | _, _, _ => none
    else
      let ids := reach σ 200 [] (args.flatMap (refs trFuel))
      let σr := selB (fun i => ids.contains i) 0 σ
      match mapO (frzU σr 0) args with
      | some args' => some ⟨args', [], args.flatMap (frzN σr 0), fun d s =>
          bif s.isEmpty && plainD 4 d then some (d, σ) else joinR d s (selB (fun i => !(ids.contains i)) 0 σ)⟩
      | none => none
def callQ (f : FuncId) (args : List D) (σ : Sto) (k : D → Sto → Qy) : Qy :=
  match callP E f args σ with
  | some p => needs p.ns (.call f p.args p.sub fun d s => match p.back d s with | some x => k x.1 x.2 | none => .bad)
  | none => .bad
def callRQ (f : FuncId) (args : List D) (σ : Sto) (k : D → Sto → Qy) : Qy :=
  match callP E f args σ with
  | some p => needs p.ns (.callR f p.args p.sub σ p.back k)
  | none => .bad
def callSQ (f : FuncId) (args : List D) (σ : Sto) (k : D → Sto → Qy) : Qy :=
  match callP E f args σ with
  | some p => needs p.ns (.callS f p.args p.sub fun d s => match p.back d s with | some x => k x.1 x.2 | none => .bad)
  | none => .bad
def callDQ (f : FuncId) (args : List D) (σ : Sto) (k : D → Sto → Qy) : Qy :=
  match mapO (tr noRef trFuel) args with
  | some args' => .callD f args' fun d => k d σ
  | none =>
    match mapO (frzU σ 0) args with
    | some args' => needs (args.flatMap (frzN σ 0)) (.callD f args' fun d => bif plainD 4 d then k d σ else .bad)
    | none => .bad
def conv (dr ks : Bool) (k : D → Sto → Qy) (σ : Sto) : ARes → Qy
  | .ok d s => k d s
  | .need b q => .need b (conv dr ks k σ q)
  | .split b q => .split b fun y => conv dr ks k σ (q y)
  | .row r q => .row r fun x => conv dr ks k σ (q x)
  | .rows r q => .rows r fun x => conv dr ks k σ (q x)
  | .any p q => bif dr then .bad else .any p fun x => conv dr ks k σ (q x)
  | .str r q => .str r fun x => conv dr ks k σ (q x)
  | .call f args => bif dr then (bif ks then (bif (E.pol f).ro then callRQ E f args σ k else callSQ E f args σ k) else callDQ f args σ k) else callQ E f args σ k
  | .yld l args => bif dr then .bad else (match mapO (tr noRef trFuel) args with | some a => .yld l a σ fun b => k (.bool b) σ | none => .bad)
  | .bad => .bad
def kOp (K : FuncId → Nat) : Op → Bool
  | .call c => (match c.callee with | .value (.func f) => Nat.ble 1 (K f) | _ => false)
  | _ => false
def Env.kp (E : Env) (f : FuncId) : Nat := bif (E.pol f).ro then 2 else bif (E.pol f).keep || (E.pol f).pass then 1 else 0
def dstOk (n : Nat) : Option Nat → Bool
  | some t => Nat.blt t n
  | none => true
def litOp (all : List Oper) (o : Oper) : Bool := o.guard.isNone && (match o.op, o.dst with
  | .buildSlice .., some t => all.any fun p => (match p.op with
    | .call c => (match c.callee, c.args.toList with
      | .builtin .append, [_, .tmp s] => Nat.beq s t
      | _, _ => false)
    | _ => false)
  | _, _ => false)
def litS (P : Program) (o : Oper) : List (Option Nat) := match o.op with
  | .buildSlice t .. => (match P.underlying t with | some (.slice e) => cellSz P 8 e | _ => [])
  | _ => []
def bareD (ss : List (Option Nat)) (d : D) : D := match tr noRef trFuel d with | some (.agg cs) => .agg (fixZ cs ss) | some d => d | none => .undef
def litD (P : Program) (ρ : Operand → D) (o : Oper) : Option D :=
  match aop P (fun x => bareD (litS P o) (ρ x)) o [] with
  | .ok (.msl 0 0 l _ _) [some B] => bif B.deep then none else bif Nat.ble (0 + l) B.rows.length then some (.sl false B.sz ((B.rows.drop 0).take l)) else none
  | _ => none
def blkD : D → Option Nat
  | .ptr b _ _ => some b
  | .msl b _ _ _ _ => some b
  | _ => none
def soloOf (K : FuncId → Nat) : Op → Option Operand
  | .call c => (match c.callee, c.args.toList with
    | .value (.func f), [s] => bif Nat.beq (K f) 3 then some s else none
    | _, _ => none)
  | _ => none
def soloB (σ : Sto) (d : D) : Bool := match blkD d with
  | some b => (match sget σ b with | some B => !B.deep | none => false)
  | none => (refs trFuel d).isEmpty
def soloOk (fr : Fr) (σ : Sto) (o : Oper) : Bool := match soloOf E.kp o.op with
  | some a => soloB σ (evalD E.gl fr a)
  | none => true
def stepOp (dr : Bool) (n : Nat) (all : List Oper) (o : Oper) (fr : Fr) (σ : Sto) (k : Fr → Sto → Qy) : Qy :=
  bif dstOk n o.dst then
    bif dr && litOp all o then (match litD E.P (evalD E.gl fr) o with | some d => k (put fr o.dst d) σ | none => .bad) else
    bif dr && !(soloOk E fr σ o) then .bad else
    match o.guard with
    | none => conv E dr (kOp E.kp o.op) (fun d s => k (put fr o.dst d) s) σ (aop E.P (evalD E.gl fr) o σ)
    | some (j, want) =>
      match (match all[j]? with | some g => g.dst | none => none) with
      | none => .bad
      | some s =>
        match fget fr s with
        | .bool b => .split b fun y =>
            bif y == want then conv E dr (kOp E.kp o.op) (fun d st => k (put (fset fr s (.bool y)) o.dst d) st) σ (aop E.P (evalD E.gl (fset fr s (.bool y))) o σ)
            else k (put (fset fr s (.bool y)) o.dst (.tup [])) σ
        | .tup _ => k (put fr o.dst (.tup [])) σ
        | _ => .bad
  else .bad
def kindOp : Op → Nat
  | .move _ | .assign _ | .pick .. | .build .. | .nilCheck _ | .binOp .. | .unOp .. | .makeFunc .. | .fieldAddr .. | .field .. | .index .. | .extract .. | .makeInterface .. => 0
  | .load .. | .indexAddr .. | .slice .. => 1
  | .alloc _ | .box .. | .buildSlice .. | .makeSlice .. => 2
  | .convert .. => 4
  | .store .. => 3
  | .call c => (match c.callee with
    | .builtin .len | .builtin .cap | .builtin .min | .builtin .max => 0
    | .value _ => 1
    | _ => 3)
  | _ => 3
def kindOf (P : Program) (op : Op) : Nat := match kindOp op with
  | 4 => (match op with | .convert _ d _ => (match P.underlying d with | some (.slice _) => 2 | some (.int _) => 0 | _ => 1) | _ => 3)
  | k => k
def noArgs (K : FuncId → Nat) : Op → Bool
  | .call c => c.args.toList.isEmpty || (match c.callee with | .value (.func f) => Nat.beq (K f) 2 | _ => false)
  | _ => false
def kindK (P : Program) (K : FuncId → Nat) (op : Op) : Nat := bif kOp K op then (bif noArgs K op then 2 else 3) else kindOf P op
def kindT (P : Program) (K : FuncId → Nat) (all : List Oper) (o : Oper) : Nat := bif litOp all o then 0 else kindK P K o.op
def clash (k j : Nat) : Bool := (Nat.ble 2 k && Nat.ble 2 j) || (Nat.beq k 3 && Nat.ble 1 j) || (Nat.ble 1 k && Nat.beq j 3)
def hasSlot (l : List Nat) : Option Nat → Bool
  | some t => l.contains t
  | none => false
def softOf : Op → Option Operand
  | .load _ a => some a
  | .indexAddr _ x _ => some x
  | .store _ a _ => some a
  | .call c => (match c.callee, c.args.toList with
    | .builtin .append, [s, _] => some s
    | _, _ => none)
  | _ => none
def softK (K : FuncId → Nat) (op : Op) : Option Operand := match softOf op with | some a => some a | none => soloOf K op
structure OpTab where
  looks : List Nat
  dst : Option Nat
  kind : Nat
  before : Nat
  soft : Option Operand
def softPair (a b : OpTab) : Bool := (a.soft.isSome && Nat.beq a.kind 1 && Nat.beq b.kind 3) || (Nat.beq a.kind 3 && b.soft.isSome && Nat.beq b.kind 1)
def disL (x : Option Nat) (soft : Bool) (y : Option Nat) : Bool := match x with
  | none => true
  | some a => soft && (match y with | none => true | some b => !(Nat.beq a b))
def dis (a b : OpTab) (x y : Option Nat) : Bool := bif Nat.beq a.kind 1 then disL x b.soft.isSome y else disL y a.soft.isSome x
def sameSlot : Option Nat → Option Nat → Bool
  | some a, some b => Nat.beq a b
  | _, _ => false
def pairOk (j : Nat) (tj ti : OpTab) : Bool :=
  ti.before.testBit j || !(hasSlot ti.looks tj.dst || hasSlot tj.looks ti.dst || sameSlot ti.dst tj.dst || (clash ti.kind tj.kind && !(softPair ti tj)))
def pairsOk (ti : OpTab) : Nat → List OpTab → Bool
  | _, [] => true
  | j, tj :: r => pairOk j tj ti && pairsOk ti (j + 1) r
def tabsOk : List OpTab → List OpTab → Bool
  | _, [] => true
  | pre, t :: r => pairsOk t 0 pre && tabsOk (pre ++ [t]) r
def beforeOf (o : Oper) (masks : List Nat) : Nat := o.after.toList.foldl (fun s e => bif Region.binds .any e then s ||| (2 ^ e.on) ||| masks.getD e.on 0 else s) 0
def masksOf : List Oper → List Nat → List Nat
  | [], acc => acc
  | o :: l, acc => masksOf l (acc ++ [beforeOf o acc])
def tabOf (P : Program) (K : FuncId → Nat) (ops : Array Oper) : List OpTab :=
  let ms := masksOf ops.toList []
  (ops.toList.zip ms).map fun x => ⟨x.1.looksAt ops, x.1.dst, kindT P K ops.toList x.1, x.2, softK K x.1.op⟩
def edgesOkL : Nat → List Oper → Bool
  | _, [] => true
  | i, o :: l => (o.after.toList.all fun e => !Region.binds .any e || Nat.blt e.on i) && edgesOkL (i + 1) l
def histGet (mask : Nat) (σ : Sto) : List (Nat × Sto) → Sto
  | [] => σ
  | x :: r => bif mask.testBit x.1 then x.2 else histGet mask σ r
def lastSt (σ : Sto) : List (Nat × Sto) → Sto
  | [] => σ
  | x :: _ => x.2
def blkOf (gl : Nat → D) (s : Option Operand) (fr : Fr) : Option Nat := match s with | some a => blkD (evalD gl fr a) | none => none
def softOk (t : OpTab) (b : Option Nat) : List (Nat × OpTab × Option Nat) → Bool
  | [] => true
  | x :: r => (t.before.testBit x.1 || !(softPair t x.2.1) || dis t x.2.1 b x.2.2) && softOk t b r
def regionL (n : Nat) (all : List Oper) (σ0 : Sto) (k : Fr → Sto → Qy) : Nat → List Oper → List OpTab → Fr → List (Nat × Sto) → List (Nat × OpTab × Option Nat) → Qy
  | i, o :: l, t :: ts, fr, hist, bl => bif softOk t (blkOf E.gl t.soft fr) bl then stepOp E true n all o fr (histGet t.before σ0 hist) fun fr' σ' => regionL n all σ0 k (i + 1) l ts fr' (bif Nat.ble 2 t.kind then (i, σ') :: hist else hist) ((i, t, blkOf E.gl t.soft fr) :: bl) else .bad
  | _, [], [], fr, hist, _ => k fr (lastSt σ0 hist)
  | _, _, _, _, _, _ => .bad
def regionQ (n : Nat) (ops : Array Oper) (fr : Fr) (σ : Sto) (k : Fr → Sto → Qy) : Qy :=
  bif edgesOkL 0 ops.toList && tabsOk [] (tabOf E.P E.kp ops) then regionL E n ops.toList σ k 0 ops.toList (tabOf E.P E.kp ops) fr [] [] else .bad
def resQ : List ResultVar → List D → Fr → Sto → (List D → Qy) → Qy
  | [], acc, _, _, k => k acc
  | .tmp t :: r, acc, fr, σ, k => resQ r (acc ++ [fget fr t]) fr σ k
  | .cell a t :: r, acc, fr, σ, k => conv E true false (fun d _ => resQ r (acc ++ [d]) fr σ k) σ (loadD E.P t (fget fr a) σ)
def tupD : List D → D
  | [d] => d
  | ds => .tup ds
def sealD (d : D) (σ : Sto) : Qy :=
  bif C.keep then
    (match compact C.m [(0, d)] σ with
     | some ([x], s) => bif Nat.beq x.1 0 then .ret x.2 s else .bad
     | _ => .bad)
  else
    match frzU σ C.m d, mapSto (frzU σ C.m) (σ.take C.m) with
    | some d', some s => needs (frzN σ C.m d ++ (σ.take C.m).flatMap (blkN (frzN σ C.m))) (.ret d' s)
    | _, _ => .bad
def finish (fr : Fr) (σ : Sto) : Qy := resQ E C.fn.results.toList [] fr σ fun ds => sealD C (tupD ds) σ
def endR (n : Nat) (σ : Sto) : Qy := match compact C.m [] σ with | some x => .ret (.int .i64 (n : Int)) x.2 | none => .bad
def detR : ARes → Option (D × Sto)
  | .ok d s => some (d, s)
  | .need b q => (match b with | true => detR q | false => none)
  | .row r k => (match r with | some x => detR (k x) | none => none)
  | .rows r k => detR (k r)
  | _ => none
def asgOps (n : Nat) : List Oper → Fr → Sto → Option (Fr × Sto)
  | [], fr, σ => some (fr, σ)
  | o :: l, fr, σ => match o.guard, dstOk n o.dst, detR (aop E.P (evalD E.gl fr) o σ) with
    | none, true, some x => asgOps n l (put fr o.dst x.1) x.2
    | _, _, _ => none
def asgC (n : Nat) : Code → Fr → Sto → Option (Fr × Sto)
  | .skip, fr, σ => some (fr, σ)
  | .region _ ops false, fr, σ => asgOps E n ops.toList fr σ
  | .seq a b, fr, σ => (match asgC n a fr σ with | some x => asgC n b x.1 x.2 | none => none)
  | _, _, _ => none
def setPs : List Nat → List D → Fr → Fr
  | p :: ps, y :: ys, fr => setPs ps ys (fset fr p y)
  | _, _, fr => fr
def rndQ (n : Nat) (ps : Array Nat) (a b : Code) (fr : Fr) (y : List D) (s : Sto) : Qy :=
  bif Nat.beq y.length ps.size then (match asgC E n a (setPs ps.toList y fr) s with | some x => .go ⟨[.code b], x.1, x.2⟩ | none => .bad) else .bad
def aftT (t : List It) : Nat → List It
  | 0 => t
  | 1 => .code .ret :: t
  | n + 2 => .code (.exit n) :: t
def aftQ (t : List It) (fr : Fr) (n : Nat) (s : Sto) : Qy := .go ⟨aftT t n, fr, s⟩
def upTo (m : Nat) : List Nat → Nat
  | [] => m
  | b :: l => upTo (bif Nat.blt b m then m else b + 1) l
def idH (m : Nat) (b : Nat) : Option Nat := bif Nat.blt b m then some b else none
def rngQ (t : List It) (fr : Fr) (σ : Sto) (d : D) (ps : Array Nat) (a b : Code) : Qy :=
  match d with
  | .fn g [] caps =>
    let ids := reach σ 200 [] (caps.flatMap (refs trFuel))
    let f := tr (renH fun b => idxOf ids b 0) trFuel
    let le := (E.pol g).lend
    let m := upTo (bif le then upTo C.m ids else C.m) (fr.flatMap fun x => refs trFuel x.2)
    (match okIds 0 ids && ids.all (fun b => Nat.blt b σ.length) && callable E.P g && ps.toList.all (fun p => Nat.blt p C.fn.ntmps) && Nat.ble C.m m && Nat.ble m σ.length, mapO f caps, mapSto f (pickSto σ ids), mapFr (tr (renH (idH m)) trFuel) fr with
     | true, some caps', some sub, some fr' => (bif le then .rng m g caps' sub σ ids (rndQ E C.fn.ntmps ps a b fr') (aftQ t fr') else .rng m g caps' sub (selB (fun i => !(ids.contains i)) 0 σ) [] (rndQ E C.fn.ntmps ps a b fr') (aftQ t fr'))
     | _, _, _, _ => .bad)
  | _ => .bad
def look (m : M) : Qy :=
  match m.td with
  | [] => bif C.rb then endR C 0 m.st else finish E C m.fr m.st
  | .blk _ :: t => .go ⟨t, m.fr, m.st⟩
  | .sc :: t => .go ⟨t, m.fr, m.st⟩
  | .lp c k :: t => (match compact C.m (keepFr C.fn.ntmps k m.fr) m.st with
    | some (fr, st) => .go ⟨.lpc c k :: t, fr, st⟩
    | none => .bad)
  | .lpc c k :: t => .go ⟨.code c :: .lp c k :: t, m.fr, m.st⟩
  | .ops _ [] :: t => .go ⟨t, m.fr, m.st⟩
  | .ops all (o :: l) :: t => stepOp E false C.fn.ntmps all o m.fr m.st fun fr st => .go ⟨.ops all l :: t, fr, st⟩
  | .code c :: t => match c with
    | .skip => .go ⟨t, m.fr, m.st⟩
    | .label _ => .go ⟨t, m.fr, m.st⟩
    | .scope c => .go ⟨.code c :: .sc :: t, m.fr, m.st⟩
    | .seq a b => .go ⟨.code a :: .code b :: t, m.fr, m.st⟩
    | .block id c => .go ⟨.code c :: .blk id :: t, m.fr, m.st⟩
    | .loop c => let r := liveT (retMask C.fn) t; .go ⟨.lp c (liveC (retMask C.fn) (.loop c) r.1 r.2) :: t, m.fr, m.st⟩
    | .cond c x y => (match evalD E.gl m.fr c with
      | .bool b => .split b fun z => .go ⟨.code (if z then x else y) :: t, m.fr, m.st⟩
      | _ => .bad)
    | .exit id => (match popTo id t with | some t' => .go ⟨t', m.fr, m.st⟩ | none => bif C.rb then endR C (id + 2) m.st else .bad)
    | .ret => bif C.rb then endR C 1 m.st else finish E C m.fr m.st
    | .rangeFunc f ps a b => bif C.rb || C.it then .bad else rngQ E C t m.fr m.st (evalD E.gl m.fr f) ps a b
    | .region _ ops false => .go ⟨.ops ops.toList ops.toList :: t, m.fr, m.st⟩
    | .region _ ops true => regionQ E C.fn.ntmps ops m.fr m.st fun fr st => .go ⟨t, fr, st⟩
    | _ => .bad
def adv : Nat → Qy → Qy
  | 0, q => q
  | n + 1, q => match q with
    | .go m => adv n (look E C m)
    | .need b q => (match b with | true => adv n q | false => .bad)
    | .split b k => adv n (k b)
    | .row r k => (match r with | some x => adv n (k x) | none => .bad)
    | .rows r k => adv n (k r)
    | .any p k => (match p with | false => adv n (k false) | true => .any true k)
    | .str r k => (match r with | some x => adv n (k x) | none => .bad)
    | q => q
end
def start (f : Func) (args : List D) (σ : Sto) : Option M :=
  match f.body with
  | some c => bif Nat.ble args.length f.ntmps then some ⟨[.code c], (List.range args.length).zip args, σ⟩ else none
  | none => none
end Go.RX

namespace Go.RX
def RowOk (sz : Nat) (r : List D) : Prop := r.length = sz ∧ r.all scal = true
/-- A datum stands for a value: 'Im' the blocks that nobody writes to, 'φ' where the local blocks lie. -/
inductive Rel (w : World) (Im : Nat → Prop) : Phi → D → Value → Prop
  | undef {φ} (v : Value) : Rel w Im φ .undef v
  | bool {φ} (b : Bool) : Rel w Im φ (.bool b) (.bool b)
  | int {φ} (k : IntKind) (n : Int) : Rel w Im φ (.int k n) (.int k n)
  | str {φ} (s : ByteArray) (l : List UInt8) : s.data.toList = l → Rel w Im φ (.str l) (.string s)
  | nilp {φ} : Rel w Im φ .nilp (.pointer none)
  | ptr {φ} (b i o : Nat) (l : Loc) : φ[b]? = some l → Rel w Im φ (.ptr b i o) (.pointer (some ⟨l.blk, l.base + i * l.sz + o, none⟩))
  | iptr {φ} (sz : Nat) (rows : List (List D)) (i o c base : Nat) (vf : Nat → Nat → Value) : (rows ≠ [] → Im c) → (∀ r ∈ rows, RowOk sz r) →
      (∀ (i j : Nat) (r : List D) (d : D), rows[i]? = some r → r[j]? = some d → w.cell? ⟨c, base + i * sz + j, none⟩ = some (vf i j)) →
      (∀ (i j : Nat) (r : List D) (d : D), rows[i]? = some r → r[j]? = some d → Rel w Im [] d (vf i j)) →
      Rel w Im φ (.iptr sz rows i o) (.pointer (some ⟨c, base + i * sz + o, none⟩))
  | nilsl {φ} (sz : Nat) : Rel w Im φ (.sl true sz []) (.slice none 0 0)
  | nilsl2 {φ} (sz : Nat) : Rel w Im φ (.sl false sz []) (.slice none 0 0)
  | mnil {φ} (b i : Nat) (ex : Bool) (l : Loc) : φ[b]? = some l → Rel w Im φ (.msl b i 0 0 ex) (.slice none 0 0)
  | sl {φ} (sz : Nat) (rows : List (List D)) (c base cap : Nat) (vf : Nat → Nat → Value) (a : Addr) : (rows ≠ [] → a = ⟨c, base, none⟩) → (rows ≠ [] → Im c) → (∀ r ∈ rows, RowOk sz r) → rows.length ≤ cap →
      (∀ (i j : Nat) (r : List D) (d : D), rows[i]? = some r → r[j]? = some d → w.cell? ⟨c, base + i * sz + j, none⟩ = some (vf i j)) →
      (∀ (i j : Nat) (r : List D) (d : D), rows[i]? = some r → r[j]? = some d → Rel w Im [] d (vf i j)) →
      Rel w Im φ (.sl false sz rows) (.slice (some a) rows.length cap)
  | msl {φ} (b i len lo : Nat) (ex : Bool) (l : Loc) (cap : Nat) (a : Addr) : φ[b]? = some l → len ≤ lo → lo ≤ cap → (ex = true → cap = lo) → l.base + (i + cap) * l.sz ≤ l.size → a.spot = none →
      (cap ≠ 0 → a = ⟨l.blk, l.base + i * l.sz, none⟩) → Rel w Im φ (.msl b i len lo ex) (.slice (some a) len cap)
  | fn {φ} (f : FuncId) (first caps : List D) (vf vc : Array Value) : first.length = vf.size → caps.length = vc.size →
      (∀ (i : Nat) (d : D) (v : Value), first[i]? = some d → vf[i]? = some v → Rel w Im φ d v) → (∀ (i : Nat) (d : D) (v : Value), caps[i]? = some d → vc[i]? = some v → Rel w Im φ d v) →
      Rel w Im φ (.fn f first caps) (.func (.func f) vf vc)
  | nilfn {φ} : Rel w Im φ .nilfn .nilFunc
  | agg {φ} (cs : List D) (vs : Array Value) : cs.length = vs.size → (∀ (i : Nat) (d : D) (v : Value), cs[i]? = some d → vs[i]? = some v → Rel w Im φ d v) → Rel w Im φ (.agg cs) (.agg vs)
  | tup {φ} (cs : List D) (vs : Array Value) : cs.length = vs.size → (∀ (i : Nat) (d : D) (v : Value), cs[i]? = some d → vs[i]? = some v → Rel w Im φ d v) → Rel w Im φ (.tup cs) (.tuple vs)
  | iface {φ} (t : TypeId) (d : D) (v : Value) : Rel w Im φ d v → Rel w Im φ (.iface t d) (.iface t v)
  | nili {φ} : Rel w Im φ .nili .nilIface
  | yld {φ} (l : Nat) : Rel w Im φ (.yld l) (.func (.yield l) #[] #[])
def PhiLe (φ φ' : Phi) : Prop := ∀ (b : Nat) (l : Loc), φ[b]? = some l → φ'[b]? = some l
theorem PhiLe.refl (φ : Phi) : PhiLe φ φ := fun _ _ h => h
theorem PhiLe.trans {a b c : Phi} (h : PhiLe a b) (h' : PhiLe b c) : PhiLe a c := fun _ _ x => h' _ _ (h _ _ x)
theorem PhiLe.nil (φ : Phi) : PhiLe [] φ := fun b l h => by simp at h
theorem PhiLe.append (φ ψ : Phi) : PhiLe φ (φ ++ ψ) := fun b l h => by
  have := (List.getElem?_eq_some_iff.1 h).1
  rw [List.getElem?_append_left this]; exact h
theorem cell_of_heap {w w' : World} {a : Addr} (h : w'.heap[a.block]? = w.heap[a.block]?) : w'.cell? a = w.cell? a := by
  simp only [World.cell?, h]
theorem frozen_of_heap {w w' : World} {a : Addr} (h : w'.heap[a.block]? = w.heap[a.block]?) : w'.frozen? a = w.frozen? a := by
  simp only [World.frozen?, h]
theorem Rel.mono {w w' : World} {Im Im' : Nat → Prop} {φ φ' : Phi} {d : D} {v : Value} (h : Rel w Im φ d v)
    (hIm : ∀ c, Im c → Im' c) (hw : ∀ c, Im c → w'.heap[c]? = w.heap[c]?) (hφ : PhiLe φ φ') : Rel w' Im' φ' d v := by
  induction h generalizing φ' with
  | undef v => exact .undef v
  | bool b => exact .bool b
  | int k n => exact .int k n
  | str s l h => exact .str s l h
  | nilp => exact .nilp
  | ptr b i o l h => exact .ptr b i o l (hφ _ _ h)
  | iptr sz rows i o c base vf hc hr hcell _ ih =>
    exact .iptr sz rows i o c base vf (fun h => hIm _ (hc h)) hr (fun i j r d h1 h2 => by rw [cell_of_heap (hw _ (hc (fun e => by rw [e] at h1; simp at h1)))]; exact hcell i j r d h1 h2) (fun i j r d h1 h2 => ih i j r d h1 h2 (PhiLe.refl _))
  | nilsl sz => exact .nilsl sz
  | nilsl2 sz => exact .nilsl2 sz
  | mnil b i ex l h => exact .mnil b i ex l (hφ _ _ h)
  | sl sz rows c base cap vf a ha hc hr hl hcell _ ih =>
    exact .sl sz rows c base cap vf a ha (fun h => hIm _ (hc h)) hr hl (fun i j r d h1 h2 => by rw [cell_of_heap (hw _ (hc (fun e => by rw [e] at h1; simp at h1)))]; exact hcell i j r d h1 h2) (fun i j r d h1 h2 => ih i j r d h1 h2 (PhiLe.refl _))
  | msl b i len lo ex l cap a h h1 h2 h3 h4 h5 h6 => exact .msl b i len lo ex l cap a (hφ _ _ h) h1 h2 h3 h4 h5 h6
  | fn f first caps vf vc h1 h2 _ _ ih1 ih2 => exact .fn f first caps vf vc h1 h2 (fun i d v a b => ih1 i d v a b hφ) (fun i d v a b => ih2 i d v a b hφ)
  | nilfn => exact .nilfn
  | agg cs vs h _ ih => exact .agg cs vs h (fun i d v a b => ih i d v a b hφ)
  | tup cs vs h _ ih => exact .tup cs vs h (fun i d v a b => ih i d v a b hφ)
  | iface t d v _ ih => exact .iface t d v (ih hφ)
  | nili => exact .nili
  | yld l => exact .yld l
theorem Rel.one {w : World} {Im : Nat → Prop} {φ : Phi} {d : D} {v : Value} (h : Rel w Im φ d v) (hs : scal d = true) : v.oneCell' = true := by
  cases h <;> first | rfl | simp [scal] at hs
theorem Rel.closed {w : World} {Im : Nat → Prop} {φ : Phi} {d : D} {v : Value} (h : Rel w Im φ d v) (hs : scal d = true) (hr : hasRef1 d = false) : Rel w Im [] d v := by
  cases h with
  | undef => simp [scal] at hs
  | bool b => exact .bool b
  | int k n => exact .int k n
  | str s l h => exact .str s l h
  | nilp => exact .nilp
  | ptr b i o l h => simp [hasRef1] at hr
  | iptr sz rows i o c base vf hc hq hcell ih => exact .iptr sz rows i o c base vf hc hq hcell ih
  | nilsl sz => exact .nilsl sz
  | nilsl2 sz => exact .nilsl2 sz
  | mnil => simp [hasRef1] at hr
  | sl sz rows c base cap vf a ha hc hq hl hcell ih => exact .sl sz rows c base cap vf a ha hc hq hl hcell ih
  | msl => simp [hasRef1] at hr
  | fn f first caps vf vc h1 h2 h3 h4 =>
    simp [hasRef1] at hr
    obtain ⟨rfl, rfl⟩ := hr
    exact .fn f [] [] vf vc h1 h2 (fun i d v a => by simp at a) (fun i d v a => by simp at a)
  | nilfn => exact .nilfn
  | agg => simp [scal] at hs
  | tup => simp [scal] at hs
  | iface => simp [hasRef1] at hr
  | nili => exact .nili
  | yld l => exact .yld l
/-! ### stores -/
structure BlkOk (w : World) (Im : Nat → Prop) (φ : Phi) (B : Blk) (l : Loc) : Prop where
  pos : 0 < B.sz
  sz : l.sz = B.sz
  len : ∀ r ∈ B.rows, RowOk B.sz r
  fit : l.base + B.rows.length * B.sz ≤ l.size
  mem : ∀ o, o < l.size → (w.cell? ⟨l.blk, o, none⟩).isSome = true ∧ w.frozen? ⟨l.blk, o, none⟩ = false
  lt : 0 < l.size → l.blk < w.heap.size
  fz : 0 < l.size → ∀ (cs : Array Value) (e : TypeId) (lo hi : Nat), w.heap[l.blk]? = some (.cells cs e (lo, hi)) → lo = hi ∨ l.size ≤ lo
  rel : ∀ (i j : Nat) (r : List D) (d : D), B.rows[i]? = some r → r[j]? = some d → ∃ v, w.cell? ⟨l.blk, l.base + i * B.sz + j, none⟩ = some v ∧ Rel w Im (if B.deep then φ else []) d v
theorem BlkOk.pos' {w : World} {Im : Nat → Prop} {φ : Phi} {B : Blk} {l : Loc} (h : BlkOk w Im φ B l) {i j : Nat} {r : List D} {d : D} (h1 : B.rows[i]? = some r) (h2 : r[j]? = some d) : 0 < l.size := by
  have a := (List.getElem?_eq_some_iff.1 h1).1
  have b := (List.getElem?_eq_some_iff.1 h2).1
  rw [(h.len r (List.mem_of_getElem? h1)).1] at b
  have c := Nat.mul_le_mul_right B.sz (show i + 1 ≤ B.rows.length from a)
  rw [Nat.add_mul] at c
  have := h.fit
  omega
theorem BlkOk.size {w : World} {Im : Nat → Prop} {φ : Phi} {B : Blk} {l : Loc} (h : BlkOk w Im φ B l) (h1 : B.rows ≠ []) : 0 < l.size := by
  have a := List.length_pos_iff.2 h1
  have c := Nat.mul_le_mul_right B.sz (show 1 ≤ B.rows.length from a)
  have := h.fit
  have := h.pos
  omega
theorem sget_some {σ : Sto} {b : Nat} {B : Blk} : sget σ b = some B ↔ σ[b]? = some (some B) := by
  unfold sget; split <;> simp_all
theorem sget_lt {σ : Sto} {b : Nat} {B : Blk} (h : sget σ b = some B) : b < σ.length := (List.getElem?_eq_some_iff.1 (sget_some.1 h)).1
def Own (φ : Phi) (σ : Sto) (c : Nat) : Prop := ∃ (b : Nat) (B : Blk) (l : Loc), φ[b]? = some l ∧ sget σ b = some B ∧ l.blk = c ∧ 0 < l.size
structure Inv (w : World) (Im : Nat → Prop) (φ : Phi) (σ : Sto) : Prop where
  len : φ.length = σ.length
  blk : ∀ (b : Nat) (B : Blk) (l : Loc), sget σ b = some B → φ[b]? = some l → BlkOk w Im φ B l
  inj : ∀ (b b' : Nat) (B B' : Blk) (l l' : Loc), b ≠ b' → φ[b]? = some l → φ[b']? = some l' → sget σ b = some B → sget σ b' = some B' → 0 < l.size → 0 < l'.size → l.blk ≠ l'.blk
  sep : ∀ c, Im c → ¬ Own φ σ c
  im : ∀ c, Im c → c < w.heap.size
theorem Inv.loc {w : World} {Im : Nat → Prop} {φ : Phi} {σ : Sto} (h : Inv w Im φ σ) {b : Nat} {B : Blk} (hb : sget σ b = some B) : ∃ l, φ[b]? = some l ∧ BlkOk w Im φ B l := by
  have := sget_lt hb
  rw [← h.len] at this
  exact ⟨φ[b], List.getElem?_eq_getElem this, h.blk b B _ hb (List.getElem?_eq_getElem this)⟩
theorem Inv.own_lt {w : World} {Im : Nat → Prop} {φ : Phi} {σ : Sto} (h : Inv w Im φ σ) {c : Nat} (hc : Own φ σ c) : c < w.heap.size := by
  obtain ⟨b, B, l, h1, h2, rfl, hp⟩ := hc
  exact (h.blk b B l h2 h1).lt hp
theorem Inv.nil {w : World} {Im : Nat → Prop} (h : ∀ c, Im c → c < w.heap.size) : Inv w Im [] [] where
  len := rfl
  blk := fun b B l h => by simp [sget] at h
  inj := fun b b' B B' l l' _ h => by simp at h
  sep := fun c _ ⟨b, B, l, h, _⟩ => by simp at h
  im := h
def Io (w w' : World) : Prop := w'.os = w.os ∧ w'.tape = w.tape ∧ w'.output = w.output
theorem Io.refl (w : World) : Io w w := ⟨rfl, rfl, rfl⟩
theorem Io.trans {a b c : World} (h : Io a b) (k : Io b c) : Io a c := ⟨k.1.trans h.1, k.2.1.trans h.2.1, k.2.2.trans h.2.2⟩
structure Ext (w w' : World) (O : Nat → Prop) : Prop where
  size : w.heap.size ≤ w'.heap.size
  same : ∀ c, c < w.heap.size → ¬ O c → w'.heap[c]? = w.heap[c]?
  io : Io w w'
/-- From one state to a later one: the first m blocks keep their places. -/
structure Tr (m : Nat) (w : World) (Im : Nat → Prop) (φ : Phi) (σ : Sto) (w' : World) (Im' : Nat → Prop) (φ' : Phi) (σ' : Sto) : Prop where
  ext : Ext w w' (Own φ σ)
  own : ∀ c, Own φ' σ' c → Own φ σ c ∨ w.heap.size ≤ c
  pre : ∀ (b : Nat), b < m → φ'[b]? = φ[b]?
  im : ∀ c, Im c → Im' c
  imN : ∀ c, Im' c → Im c ∨ Own φ σ c ∨ w.heap.size ≤ c
theorem Tr.refl (m : Nat) (w : World) (Im : Nat → Prop) (φ : Phi) (σ : Sto) : Tr m w Im φ σ w Im φ σ :=
  ⟨⟨Nat.le_refl _, fun _ _ _ => rfl, ⟨rfl, rfl, rfl⟩⟩, fun _ h => .inl h, fun _ _ => rfl, fun _ h => h, fun _ h => .inl h⟩
theorem Tr.trans {m : Nat} {w1 w2 w3 : World} {I1 I2 I3 : Nat → Prop} {φ1 φ2 φ3 : Phi} {σ1 σ2 σ3 : Sto}
    (a : Tr m w1 I1 φ1 σ1 w2 I2 φ2 σ2) (b : Tr m w2 I2 φ2 σ2 w3 I3 φ3 σ3) : Tr m w1 I1 φ1 σ1 w3 I3 φ3 σ3 where
  ext := ⟨Nat.le_trans a.ext.size b.ext.size, fun c hc ho => by
    rw [b.ext.same c (Nat.lt_of_lt_of_le hc a.ext.size) (fun h => by rcases a.own c h with h | h; exact ho h; omega)]
    exact a.ext.same c hc ho, a.ext.io.trans b.ext.io⟩
  own := fun c h => by
    rcases b.own c h with h | h
    · exact a.own c h
    · exact .inr (Nat.le_trans a.ext.size h)
  pre := fun i hi => by rw [b.pre i hi, a.pre i hi]
  im := fun c h => b.im c (a.im c h)
  imN := fun c h => by
    rcases b.imN c h with h | h | h
    · exact a.imN c h
    · rcases a.own c h with h | h
      · exact .inr (.inl h)
      · exact .inr (.inr h)
    · exact .inr (.inr (Nat.le_trans a.ext.size h))
theorem Tr.le {m n : Nat} {w w' : World} {I I' : Nat → Prop} {φ φ' : Phi} {σ σ' : Sto} (h : Tr m w I φ σ w' I' φ' σ') (hn : n ≤ m) : Tr n w I φ σ w' I' φ' σ' :=
  ⟨h.ext, h.own, fun b hb => h.pre b (by omega), h.im, h.imN⟩
theorem Tr.keeps {m : Nat} {w w' : World} {I I' : Nat → Prop} {φ φ' : Phi} {σ σ' : Sto} (h : Tr m w I φ σ w' I' φ' σ') (hi : Inv w I φ σ) (c : Nat) (hc : I c) : w'.heap[c]? = w.heap[c]? :=
  h.ext.same c (hi.im c hc) (hi.sep c hc)
theorem Tr.rel {m : Nat} {w w' : World} {I I' : Nat → Prop} {φ φ' : Phi} {σ σ' : Sto} (h : Tr m w I φ σ w' I' φ' σ') (hi : Inv w I φ σ) (hφ : PhiLe φ φ') {d : D} {v : Value}
    (hr : Rel w I φ d v) : Rel w' I' φ' d v := hr.mono h.im (h.keeps hi) hφ
theorem Tr.drew (m : Nat) (w : World) (Im : Nat → Prop) (φ : Phi) (σ : Sto) : Tr m w Im φ σ w.drew Im φ σ :=
  ⟨⟨Nat.le_refl _, fun _ _ _ => rfl, ⟨rfl, rfl, rfl⟩⟩, fun _ h => .inl h, fun _ _ => rfl, fun _ h => h, fun _ h => .inl h⟩
theorem BlkOk.of_heap {w w' : World} {Im Im' : Nat → Prop} {φ φ' : Phi} {B : Blk} {l : Loc} (h : BlkOk w Im φ B l) (hh : 0 < l.size → w'.heap[l.blk]? = w.heap[l.blk]?) (hsz : w.heap.size ≤ w'.heap.size)
    (hIm : ∀ c, Im c → Im' c) (hw : ∀ c, Im c → w'.heap[c]? = w.heap[c]?) (hφ : PhiLe φ φ') : BlkOk w' Im' φ' B l where
  pos := h.pos
  sz := h.sz
  len := h.len
  fit := h.fit
  mem := fun o ho => by rw [cell_of_heap (a := ⟨l.blk, o, none⟩) (hh (by omega)), frozen_of_heap (a := ⟨l.blk, o, none⟩) (hh (by omega))]; exact h.mem o ho
  lt := fun hp => Nat.lt_of_lt_of_le (h.lt hp) hsz
  fz := fun hp cs e lo hi hx => h.fz hp cs e lo hi (by rw [← hh hp]; exact hx)
  rel := fun i j r d h1 h2 => by
    obtain ⟨v, hv, hr⟩ := h.rel i j r d h1 h2
    refine ⟨v, by rw [cell_of_heap (a := ⟨l.blk, _, none⟩) (hh (h.pos' h1 h2))]; exact hv, hr.mono hIm hw ?_⟩
    split
    · exact hφ
    · exact PhiLe.refl _
theorem Inv.drew {w : World} {Im : Nat → Prop} {φ : Phi} {σ : Sto} (h : Inv w Im φ σ) : Inv w.drew Im φ σ :=
  ⟨h.len, fun b B l h1 h2 => (h.blk b B l h1 h2).of_heap (fun _ => rfl) (Nat.le_refl _) (fun _ h => h) (fun _ _ => rfl) (PhiLe.refl _), h.inj, h.sep, h.im⟩
theorem sget_append_left {σ τ : Sto} {b : Nat} (h : b < σ.length) : sget (σ ++ τ) b = sget σ b := by
  unfold sget; rw [List.getElem?_append_left h]
theorem sget_append_self {σ : Sto} {B : Option Blk} : sget (σ ++ [B]) σ.length = B := by
  unfold sget; simp; cases B <;> rfl
theorem sget_append_cases {σ : Sto} {B : Option Blk} {b : Nat} {B' : Blk} (h : sget (σ ++ [B]) b = some B') : (b < σ.length ∧ sget σ b = some B') ∨ (b = σ.length ∧ B = some B') := by
  have hl := sget_lt h
  simp at hl
  by_cases hb : b < σ.length
  · rw [sget_append_left hb] at h; exact .inl ⟨hb, h⟩
  · have : b = σ.length := by omega
    subst this
    rw [sget_append_self] at h; exact .inr ⟨rfl, h⟩
theorem phi_append_cases {φ : Phi} {l l' : Loc} {b : Nat} (h : (φ ++ [l])[b]? = some l') : (b < φ.length ∧ φ[b]? = some l') ∨ (b = φ.length ∧ l' = l) := by
  have hl := (List.getElem?_eq_some_iff.1 h).1
  simp at hl
  by_cases hb : b < φ.length
  · rw [List.getElem?_append_left hb] at h; exact .inl ⟨hb, h⟩
  · have : b = φ.length := by omega
    subst this
    simp at h; exact .inr ⟨rfl, h.symm⟩
theorem Inv.alloc {w : World} {Im : Nat → Prop} {φ : Phi} {σ : Sto} (h : Inv w Im φ σ) (cs : Array Value) (e : TypeId) (fz : Nat × Nat) (B : Blk) (hpos : 0 < B.sz)
    (hfz0 : fz.1 = fz.2 ∨ cs.size ≤ fz.1) (hlen : ∀ r ∈ B.rows, RowOk B.sz r) (hfit : B.rows.length * B.sz ≤ cs.size)
    (hrel : ∀ (i j : Nat) (r : List D) (d : D), B.rows[i]? = some r → r[j]? = some d → ∃ v, cs[i * B.sz + j]? = some v ∧ Rel w Im (if B.deep then φ else []) d v) :
    Inv (w.alloc (.cells cs e fz)) Im (φ ++ [⟨w.heap.size, 0, B.sz, cs.size⟩]) (σ ++ [some B]) ∧
    Tr φ.length w Im φ σ (w.alloc (.cells cs e fz)) Im (φ ++ [⟨w.heap.size, 0, B.sz, cs.size⟩]) (σ ++ [some B]) := by
  have hfz : ∀ o, o < cs.size → ¬ (fz.1 ≤ o ∧ o < fz.2) := fun o ho => by omega
  have hsame : ∀ c, c < w.heap.size → (w.alloc (.cells cs e fz)).heap[c]? = w.heap[c]? := fun c hc => by
    rw [show (w.alloc (.cells cs e fz)).heap = w.heap.push (.cells cs e fz) from rfl, Array.getElem?_push]; simp [Nat.ne_of_lt hc]
  have hnew : (w.alloc (.cells cs e fz)).heap[w.heap.size]? = some (.cells cs e fz) := by rw [show (w.alloc (.cells cs e fz)).heap = w.heap.push (.cells cs e fz) from rfl]; simp
  have hφ : PhiLe φ (φ ++ [⟨w.heap.size, 0, B.sz, cs.size⟩]) := PhiLe.append _ _
  have hw : ∀ c, Im c → (w.alloc (.cells cs e fz)).heap[c]? = w.heap[c]? := fun c hc => hsame c (h.im c hc)
  have hown : ∀ c, Own (φ ++ [⟨w.heap.size, 0, B.sz, cs.size⟩]) (σ ++ [some B]) c → Own φ σ c ∨ w.heap.size ≤ c := by
    rintro c ⟨b, B', l, h1, h2, rfl, hp⟩
    rcases sget_append_cases h2 with ⟨hb, h2⟩ | ⟨hb, _⟩
    · rcases phi_append_cases h1 with ⟨_, h1⟩ | ⟨hb', _⟩
      · exact .inl ⟨b, B', l, h1, h2, rfl, hp⟩
      · have := h.len; omega
    · rcases phi_append_cases h1 with ⟨hb', _⟩ | ⟨_, rfl⟩
      · have := h.len; omega
      · exact .inr (Nat.le_refl _)
  refine ⟨⟨by simp [h.len], ?_, ?_, ?_, fun c hc => by have := h.im c hc; simp; omega⟩, ⟨⟨by simp, fun c hc _ => hsame c hc, ⟨rfl, rfl, rfl⟩⟩, hown, fun b hb => by rw [List.getElem?_append_left hb], fun _ h => h, fun _ h => .inl h⟩⟩
  · intro b B' l h1 h2
    rcases sget_append_cases h1 with ⟨hb, h1⟩ | ⟨hb, hB⟩
    · rcases phi_append_cases h2 with ⟨_, h2⟩ | ⟨hb', _⟩
      · have hk := h.blk b B' l h1 h2
        exact hk.of_heap (fun hp => hsame _ (hk.lt hp)) (by simp) (fun _ h => h) hw hφ
      · have := h.len; omega
    · rcases phi_append_cases h2 with ⟨hb', _⟩ | ⟨_, rfl⟩
      · have := h.len; omega
      · obtain rfl := Option.some.inj hB
        refine ⟨hpos, rfl, hlen, by simpa using hfit, fun o ho => ?_, fun _ => by simp, fun _ cs' e' lo hi hx => ?_, fun i j r d h3 h4 => ?_⟩
        · simp only at ho
          refine ⟨by simp only [World.cell?, hnew]; simp [ho], ?_⟩
          have := hfz o ho
          simp only [World.frozen?, hnew]
          rw [Bool.and_eq_false_iff]
          simp only [decide_eq_false_iff_not]
          by_cases h5 : fz.1 ≤ o
          · exact .inr (fun h6 => this ⟨h5, h6⟩)
          · exact .inl h5
        · simp only [hnew, Option.some.injEq, Obj.cells.injEq] at hx
          obtain ⟨-, -, rfl⟩ := hx
          exact hfz0
        · obtain ⟨v, hv, hr⟩ := hrel i j r d h3 h4
          refine ⟨v, by simp only [World.cell?, hnew]; simpa using hv, hr.mono (fun _ h => h) hw ?_⟩
          split
          · exact hφ
          · exact PhiLe.refl _
  · intro b b' B1 B2 l l' hne h1 h2 h3 h4 p1 p2
    rcases sget_append_cases h3 with ⟨hb, h3⟩ | ⟨hb, _⟩ <;> rcases sget_append_cases h4 with ⟨hb', h4⟩ | ⟨hb', _⟩
    · rw [List.getElem?_append_left (by rw [h.len]; exact hb)] at h1
      rw [List.getElem?_append_left (by rw [h.len]; exact hb')] at h2
      exact h.inj b b' B1 B2 l l' hne h1 h2 h3 h4 p1 p2
    · rw [List.getElem?_append_left (by rw [h.len]; exact hb)] at h1
      rw [hb', ← h.len] at h2
      simp at h2
      have := (h.blk b B1 l h3 h1).lt p1
      rw [← h2]; simp; omega
    · rw [List.getElem?_append_left (by rw [h.len]; exact hb')] at h2
      rw [hb, ← h.len] at h1
      simp at h1
      have := (h.blk b' B2 l' h4 h2).lt p2
      rw [← h1]; simp; omega
    · omega
  · intro c hc ho
    rcases hown c ho with ho | ho
    · exact h.sep c hc ho
    · have := h.im c hc; omega
theorem heap_setCells (b : Nat) : ∀ (vs : List Value) (o : Nat) (w : World) (c : Nat), c ≠ b → (w.setCells b o vs).heap[c]? = w.heap[c]?
  | [], _, _, _, _ => rfl
  | v :: r, o, w, c, h => by
    rw [World.setCells, heap_setCells b r (o + 1) _ c h]
    simp [World.setCell, Array.getElem?_modify, Ne.symm h]
theorem size_setCells (b : Nat) : ∀ (vs : List Value) (o : Nat) (w : World), (w.setCells b o vs).heap.size = w.heap.size
  | [], _, _ => rfl
  | v :: r, o, w => by rw [World.setCells, size_setCells b r (o + 1)]; simp
theorem io_setCells (b : Nat) : ∀ (vs : List Value) (o : Nat) (w : World), Io w (w.setCells b o vs)
  | [], _, w => Io.refl w
  | v :: r, o, w => (show Io w (w.setCell ⟨b, o, none⟩ v) from ⟨rfl, rfl, rfl⟩).trans (io_setCells b r (o + 1) _)
theorem sget_set_self {σ : Sto} {b : Nat} {B : Option Blk} (h : b < σ.length) : sget (σ.set b B) b = B := by
  unfold sget; simp [h]; cases B <;> rfl
theorem sget_set_ne {σ : Sto} {b c : Nat} {B : Option Blk} (h : b ≠ c) : sget (σ.set b B) c = sget σ c := by
  unfold sget; rw [List.getElem?_set_ne h]
theorem fz_setCells (b : Nat) : ∀ (vs : List Value) (o : Nat) (w : World) {cs : Array Value} {e : TypeId} {f : Nat × Nat}, (w.setCells b o vs).heap[b]? = some (.cells cs e f) → ∃ cs', w.heap[b]? = some (.cells cs' e f)
  | [], _, _, cs, _, _, h => ⟨cs, h⟩
  | v :: r, o, w, cs, e, f, h => by
    rw [World.setCells] at h
    obtain ⟨cs', h'⟩ := fz_setCells b r (o + 1) _ h
    simp only [World.setCell, Array.getElem?_modify, if_true] at h'
    cases hb : w.heap[b]? with
    | none => rw [hb] at h'; cases h'
    | some x =>
      rw [hb] at h'
      cases x <;> simp at h'
      obtain ⟨-, rfl, rfl⟩ := h'
      exact ⟨_, rfl⟩
theorem Inv.write {w : World} {Im : Nat → Prop} {φ : Phi} {σ : Sto} (h : Inv w Im φ σ) {b : Nat} {B B' : Blk} {l : Loc} (hb : sget σ b = some B) (hl : φ[b]? = some l)
    (o : Nat) (vs : List Value) (ho : o + vs.length ≤ l.size) (hsz : B'.sz = B.sz) (hlen : ∀ r ∈ B'.rows, RowOk B.sz r) (hfit : l.base + B'.rows.length * B.sz ≤ l.size)
    (hrel : ∀ (i j : Nat) (r : List D) (d : D), B'.rows[i]? = some r → r[j]? = some d →
      (o ≤ l.base + i * B.sz + j ∧ l.base + i * B.sz + j < o + vs.length ∧ ∃ v, vs[l.base + i * B.sz + j - o]? = some v ∧ Rel w Im (if B'.deep then φ else []) d v) ∨
      ((l.base + i * B.sz + j < o ∨ o + vs.length ≤ l.base + i * B.sz + j) ∧ ∃ r', B.rows[i]? = some r' ∧ r'[j]? = some d))
    (hdeep : B.deep = true → B'.deep = true) :
    Inv (w.setCells l.blk o vs) Im φ (σ.set b (some B')) ∧ Tr φ.length w Im φ σ (w.setCells l.blk o vs) Im φ (σ.set b (some B')) := by
  have hk := h.blk b B l hb hl
  have hblt := sget_lt hb
  have hsame : ∀ c, c ≠ l.blk → (w.setCells l.blk o vs).heap[c]? = w.heap[c]? := fun c hc => heap_setCells _ _ _ _ _ hc
  have hcase : vs = [] ∨ 0 < l.size := by
    cases vs with
    | nil => exact .inl rfl
    | cons a r => exact .inr (by simp at ho; omega)
  have hown0 : 0 < l.size → Own φ σ l.blk := fun hp => ⟨b, B, l, hl, hb, rfl, hp⟩
  have hw : ∀ c, Im c → (w.setCells l.blk o vs).heap[c]? = w.heap[c]? := fun c hc => by
    rcases hcase with rfl | hp
    · rfl
    · exact hsame c (fun e => h.sep c hc (e ▸ hown0 hp))
  have hown : ∀ c, Own φ (σ.set b (some B')) c → Own φ σ c := by
    rintro c ⟨b1, B1, l1, h1, h2, rfl, hp⟩
    by_cases hbb : b = b1
    · subst hbb; exact ⟨b, B, l1, h1, hb, rfl, hp⟩
    · rw [sget_set_ne hbb] at h2; exact ⟨b1, B1, l1, h1, h2, rfl, hp⟩
  refine ⟨⟨by simp [h.len], ?_, ?_, fun c hc ho => h.sep c hc (hown c ho), fun c hc => by rw [size_setCells]; exact h.im c hc⟩,
    ⟨⟨by rw [size_setCells]; exact Nat.le_refl _, fun c _ hno => by (rcases hcase with rfl | hp; rfl; exact hsame c (fun e => hno (e ▸ hown0 hp))), io_setCells _ _ _ _⟩, fun c hc => .inl (hown c hc), fun _ _ => rfl, fun _ h => h, fun _ h => .inl h⟩⟩
  · intro b1 B1 l1 h1 h2
    by_cases hbb : b = b1
    · subst hbb
      rw [sget_set_self hblt] at h1
      obtain rfl := Option.some.inj h1
      obtain rfl := Option.some.inj (hl.symm.trans h2)
      refine ⟨by rw [hsz]; exact hk.pos, by rw [hk.sz, hsz], by rw [hsz]; exact hlen, by rw [hsz]; exact hfit, fun p hp => ?_, fun hp => by rw [size_setCells]; exact hk.lt hp, fun hp cs e lo hi hx => (let ⟨cs', hx'⟩ := fz_setCells _ _ _ _ hx; hk.fz hp cs' e lo hi hx'), fun i j r d h3 h4 => ?_⟩
      · rw [World.frozen?_setCells]
        refine ⟨?_, (hk.mem p hp).2⟩
        by_cases hin : o ≤ p ∧ p < o + vs.length
        · have := World.cell?_setCells_in l.blk vs o w (fun j hj => (hk.mem (o + j) (by omega)).1) (p - o) (by omega)
          rw [show o + (p - o) = p by omega] at this
          simp [this]
        · rw [World.cell?_setCells_out _ _ _ _ _ (fun _ _ => by simp only; omega)]
          exact (hk.mem p hp).1
      · rw [hsz]
        rcases hrel i j r d h3 h4 with ⟨h5, h6, v, hv, hr⟩ | ⟨h5, r', h6, h7⟩
        · refine ⟨v, ?_, hr.mono (fun _ h => h) hw (PhiLe.refl _)⟩
          have := World.cell?_setCells_in l.blk vs o w (fun j hj => (hk.mem (o + j) (by omega)).1) (l.base + i * B.sz + j - o) (by omega)
          rw [show o + (l.base + i * B.sz + j - o) = l.base + i * B.sz + j by omega] at this
          rw [this]
          rw [List.getElem?_eq_getElem (by omega)] at hv
          exact hv
        · obtain ⟨v, hv, hr⟩ := hk.rel i j r' d h6 h7
          refine ⟨v, ?_, ?_⟩
          · rw [World.cell?_setCells_out _ _ _ _ _ (fun _ _ => by simp only; exact h5)]; exact hv
          · refine hr.mono (fun _ h => h) hw ?_
            cases hd : B.deep
            · exact PhiLe.nil _
            · simp only [hdeep hd, if_true]; exact PhiLe.refl _
    · rw [sget_set_ne hbb] at h1
      have hk1 := h.blk b1 B1 l1 h1 h2
      have hne : 0 < l1.size → (w.setCells l.blk o vs).heap[l1.blk]? = w.heap[l1.blk]? := fun p1 => by
        rcases hcase with rfl | hp
        · rfl
        · exact hsame _ (h.inj b1 b B1 B l1 l (Ne.symm hbb) h2 hl h1 hb p1 hp)
      exact hk1.of_heap hne (by rw [size_setCells]; exact Nat.le_refl _) (fun _ h => h) hw (PhiLe.refl _)
  · intro b1 b2 B1 B2 l1 l2 hne h1 h2 h3 h4
    obtain ⟨B1', h3'⟩ : ∃ B1', sget σ b1 = some B1' := by
      by_cases hbb : b = b1
      · subst hbb; exact ⟨B, hb⟩
      · rw [sget_set_ne hbb] at h3; exact ⟨B1, h3⟩
    obtain ⟨B2', h4'⟩ : ∃ B2', sget σ b2 = some B2' := by
      by_cases hbb : b = b2
      · subst hbb; exact ⟨B, hb⟩
      · rw [sget_set_ne hbb] at h4; exact ⟨B2, h4⟩
    exact h.inj b1 b2 B1' B2' l1 l2 hne h1 h2 h3' h4'
theorem Inv.mark {w : World} {Im : Nat → Prop} {φ : Phi} {σ : Sto} (h : Inv w Im φ σ) {b : Nat} {B : Blk} {l : Loc} (hb : sget σ b = some B) (hl : φ[b]? = some l) (hp : 0 < l.size) {n : Nat} (hn : l.size ≤ n) :
    Inv (w.freeze ⟨l.blk, n, none⟩ 1) Im φ σ ∧ Tr φ.length w Im φ σ (w.freeze ⟨l.blk, n, none⟩ 1) Im φ σ := by
  have hk := h.blk b B l hb hl
  have hown0 : Own φ σ l.blk := ⟨b, B, l, hl, hb, rfl, hp⟩
  have hsize : (w.freeze ⟨l.blk, n, none⟩ 1).heap.size = w.heap.size := by simp [World.freeze]
  have hsame : ∀ c, c ≠ l.blk → (w.freeze ⟨l.blk, n, none⟩ 1).heap[c]? = w.heap[c]? := fun c hc => by
    simp [World.freeze, Array.getElem?_modify, Ne.symm hc]
  have hw : ∀ c, Im c → (w.freeze ⟨l.blk, n, none⟩ 1).heap[c]? = w.heap[c]? := fun c hc => hsame c (fun e => h.sep c hc (e ▸ hown0))
  have hnew : ∀ x, (w.freeze ⟨l.blk, n, none⟩ 1).heap[l.blk]? = some x → ∃ y, w.heap[l.blk]? = some y ∧ (match y with
      | .cells c elem (lo, hi) => x = .cells c elem (if lo == hi then (n, n + 1) else (min lo n, max hi (n + 1)))
      | o => x = o) := fun x hx => by
    simp only [World.freeze, Nat.one_ne_zero, if_false, Array.getElem?_modify, if_true] at hx
    cases hy : w.heap[l.blk]? with
    | none => rw [hy] at hx; cases hx
    | some y =>
      rw [hy] at hx
      refine ⟨y, rfl, ?_⟩
      cases y <;> (simp only [Option.map_some, Option.some.injEq] at hx; exact hx.symm)
  have hcell : ∀ o, (w.freeze ⟨l.blk, n, none⟩ 1).cell? ⟨l.blk, o, none⟩ = w.cell? ⟨l.blk, o, none⟩ := fun o => by
    cases hy : (w.freeze ⟨l.blk, n, none⟩ 1).heap[l.blk]? with
    | none =>
      have : w.heap[l.blk]? = none := by
        rw [Array.getElem?_eq_none_iff] at hy ⊢
        omega
      simp only [World.cell?, hy, this]
    | some x =>
      obtain ⟨y, h1, h2⟩ := hnew x hy
      simp only [World.cell?, hy, h1]
      cases y <;> (simp only at h2; subst h2; rfl)
  refine ⟨⟨h.len, fun b1 B1 l1 h1 h2 => ?_, h.inj, h.sep, fun c hc => by rw [hsize]; exact h.im c hc⟩, ⟨⟨by rw [hsize]; exact Nat.le_refl _, fun c _ hno => hsame c (fun e => hno (e ▸ hown0)), ⟨rfl, rfl, rfl⟩⟩, fun c hc => .inl hc, fun _ _ => rfl, fun _ h => h, fun _ h => .inl h⟩⟩
  by_cases hbb : b = b1
  · subst hbb
    obtain rfl := Option.some.inj (hb.symm.trans h1)
    obtain rfl := Option.some.inj (hl.symm.trans h2)
    have hfz : ∀ cs e lo hi, (w.freeze ⟨l.blk, n, none⟩ 1).heap[l.blk]? = some (.cells cs e (lo, hi)) → l.size ≤ lo := fun cs e lo hi hx => by
      obtain ⟨y, q1, q2⟩ := hnew _ hx
      cases y with
      | cells c' e' f' =>
        obtain ⟨lo', hi'⟩ := f'
        simp only [Obj.cells.injEq] at q2
        obtain ⟨-, -, q3⟩ := q2
        by_cases hlh : lo' = hi'
        · rw [if_pos (by simpa using hlh)] at q3
          obtain ⟨rfl, -⟩ := Prod.mk.inj q3
          exact hn
        · rw [if_neg (by simpa using hlh)] at q3
          obtain ⟨rfl, -⟩ := Prod.mk.inj q3
          have := (hk.fz hp c' e' lo' hi' q1).resolve_left hlh
          omega
      | _ => cases q2
    refine ⟨hk.pos, hk.sz, hk.len, hk.fit, fun o ho => ⟨by rw [hcell]; exact (hk.mem o ho).1, ?_⟩, fun hp => by rw [hsize]; exact hk.lt hp, fun _ cs e lo hi hx => .inr (hfz cs e lo hi hx), fun i j r d h3 h4 => ?_⟩
    · simp only [World.frozen?]
      split
      · rename_i cs e lo hi hx
        have := hfz cs e lo hi hx
        simp; omega
      · rfl
    · obtain ⟨v, hv, hr⟩ := hk.rel i j r d h3 h4
      exact ⟨v, by rw [hcell]; exact hv, hr.mono (fun _ h => h) hw (PhiLe.refl _)⟩
  · exact (h.blk b1 B1 l1 h1 h2).of_heap (fun p1 => hsame _ (h.inj b1 b B1 B l1 l (Ne.symm hbb) h2 hl h1 hb p1 hp)) (by rw [hsize]; exact Nat.le_refl _) (fun _ h => h) hw (PhiLe.refl _)
theorem Inv.drop {w : World} {Im : Nat → Prop} {φ : Phi} {σ : Sto} (h : Inv w Im φ σ) (b : Nat) : Inv w Im φ (σ.set b none) ∧ Tr φ.length w Im φ σ w Im φ (σ.set b none) := by
  have hg : ∀ c B, sget (σ.set b none) c = some B → sget σ c = some B := fun c B hc => by
    by_cases hbb : b = c
    · subst hbb
      have hl := sget_lt hc
      rw [sget_set_self (by simpa using hl)] at hc
      cases hc
    · rwa [sget_set_ne hbb] at hc
  have hown : ∀ c, Own φ (σ.set b none) c → Own φ σ c := fun c ⟨b1, B1, l1, h1, h2, h3⟩ => ⟨b1, B1, l1, h1, hg _ _ h2, h3⟩
  exact ⟨⟨by simp [h.len], fun c B l h1 h2 => h.blk c B l (hg _ _ h1) h2, fun b1 b2 B1 B2 l1 l2 hne h1 h2 h3 h4 p1 p2 => h.inj b1 b2 B1 B2 l1 l2 hne h1 h2 (hg _ _ h3) (hg _ _ h4) p1 p2,
      fun c hc ho => h.sep c hc (hown c ho), h.im⟩,
    ⟨⟨Nat.le_refl _, fun _ _ _ => rfl, ⟨rfl, rfl, rfl⟩⟩, fun c hc => .inl (hown c hc), fun _ _ => rfl, fun _ h => h, fun _ h => .inl h⟩⟩
theorem Inv.nothing {w : World} {Im : Nat → Prop} {φ : Phi} {σ : Sto} (h : Inv w Im φ σ) {sz : Nat} (hpos : 0 < sz) (dp : Bool) :
    Inv w Im (φ ++ [⟨0, 0, sz, 0⟩]) (σ ++ [some ⟨sz, dp, []⟩]) ∧ Tr φ.length w Im φ σ w Im (φ ++ [⟨0, 0, sz, 0⟩]) (σ ++ [some ⟨sz, dp, []⟩]) := by
  have hφ : PhiLe φ (φ ++ [⟨0, 0, sz, 0⟩]) := PhiLe.append _ _
  have e1 : ∀ b1 B1 l1, sget (σ ++ [some ⟨sz, dp, []⟩]) b1 = some B1 → (φ ++ [⟨0, 0, sz, 0⟩])[b1]? = some l1 →
      (sget σ b1 = some B1 ∧ φ[b1]? = some l1) ∨ (B1 = ⟨sz, dp, []⟩ ∧ l1 = ⟨0, 0, sz, 0⟩) := fun b1 B1 l1 h1 h2 => by
    rcases sget_append_cases h1 with ⟨hb1, h1⟩ | ⟨hb1, hB⟩
    · rw [List.getElem?_append_left (by rw [h.len]; exact hb1)] at h2
      exact .inl ⟨h1, h2⟩
    · rw [hb1, ← h.len] at h2
      simp at h2
      exact .inr ⟨(Option.some.inj hB).symm, h2.symm⟩
  have hown : ∀ c, Own (φ ++ [⟨0, 0, sz, 0⟩]) (σ ++ [some ⟨sz, dp, []⟩]) c → Own φ σ c := by
    rintro c ⟨b1, B1, l1, h1, h2, rfl, hp⟩
    rcases e1 b1 B1 l1 h2 h1 with ⟨a, b⟩ | ⟨_, rfl⟩
    · exact ⟨b1, B1, l1, b, a, rfl, hp⟩
    · simp at hp
  refine ⟨⟨by simp [h.len], fun b1 B1 l1 h1 h2 => ?_, fun b1 b2 B1 B2 l1 l2 hne h1 h2 h3 h4 p1 p2 => ?_, fun c hc ho => h.sep c hc (hown c ho), h.im⟩,
    ⟨⟨Nat.le_refl _, fun _ _ _ => rfl, ⟨rfl, rfl, rfl⟩⟩, fun c hc => .inl (hown c hc), fun c hc => by rw [List.getElem?_append_left hc], fun _ h => h, fun _ h => .inl h⟩⟩
  · rcases e1 b1 B1 l1 h1 h2 with ⟨a, b⟩ | ⟨rfl, rfl⟩
    · exact (h.blk b1 B1 l1 a b).of_heap (fun _ => rfl) (Nat.le_refl _) (fun _ h => h) (fun _ _ => rfl) hφ
    · exact ⟨hpos, rfl, fun r hr => by simp at hr, by simp, fun o ho => by simp at ho, fun hp => by simp at hp, fun hp => by simp at hp, fun i j r d h3 => by simp at h3⟩
  · rcases e1 b1 B1 l1 h3 h1 with ⟨a, b⟩ | ⟨_, rfl⟩
    · rcases e1 b2 B2 l2 h4 h2 with ⟨c, d⟩ | ⟨_, rfl⟩
      · exact h.inj b1 b2 B1 B2 l1 l2 hne b d a c p1 p2
      · simp at p2
    · simp at p1
end Go.RX

namespace Go.RX
open Go
structure Good (w : World) (Im : Nat → Prop) (φ : Phi) (σ : Sto) (w' : World) (φ' : Phi) (σ' : Sto) (d : D) (v : Value) : Prop where
  le : PhiLe φ φ'
  tr : Tr φ.length w Im φ σ w' Im φ' σ'
  inv : Inv w' Im φ' σ'
  rel : Rel w' Im φ' d v
section
variable {P : Program} {w : World} {Im : Nat → Prop} {φ : Phi} {σ : Sto}
theorem Good.refl (hi : Inv w Im φ σ) {d : D} {v : Value} (h : Rel w Im φ d v) : Good w Im φ σ w φ σ d v :=
  ⟨PhiLe.refl _, Tr.refl _ _ _ _ _, hi, h⟩
variable (P w Im φ σ) in
def SatV (s : Sem Value) : ARes → Prop
  | .ok d σ' => ∃ v w' φ', s.run P w = .ok v w' ∧ Good w Im φ σ w' φ' σ' d v
  | .need b k => b = true → SatV s k
  | .split b k => SatV s (k b)
  | .row r k => ∀ x, r = some x → SatV s (k x)
  | .rows r k => SatV s (k r)
  | .any p k => ∃ b, (b = true → p = true) ∧ SatV s (k b)
  | .str r k => ∀ x, r = some x → SatV s (k x)
  | .call _ _ => False
  | .yld _ _ => False
  | .bad => True
variable (P w Im φ σ) in
def SatA (s : Sem Next) : ARes → Prop
  | .ok d σ' => ∃ v w' φ', (s.run P w = .ok (.value v) w' ∨ (s.run P w = .ok .skip w' ∧ v = undef)) ∧ Good w Im φ σ w' φ' σ' d v
  | .need b k => b = true → SatA s k
  | .split b k => SatA s (k b)
  | .row r k => ∀ x, r = some x → SatA s (k x)
  | .rows r k => SatA s (k r)
  | .any p k => ∃ b, (b = true → p = true) ∧ SatA s (k b)
  | .str r k => ∀ x, r = some x → SatA s (k x)
  | .call f args => ∃ vs : Array Value, s.run P w = .ok (.enter f vs) w ∧ args.length = vs.size ∧ ∀ (i : Nat) (d : D) (v : Value), args[i]? = some d → vs[i]? = some v → Rel w Im φ d v
  | .yld l args => ∃ vs : Array Value, s.run P w = (Instr.yield l vs).run P w ∧ args.length = vs.size ∧ ∀ (i : Nat) (d : D) (v : Value), args[i]? = some d → vs[i]? = some v → Rel w Im φ d v
  | .bad => True
variable (P w Im φ) in
/-- Only looked at: neither world nor blocks turn. -/
def SatP (s : Sem Value) : ARes → Prop
  | .ok d _ => ∃ v, s.run P w = .ok v w ∧ Rel w Im φ d v
  | .need b k => b = true → SatP s k
  | .split b k => SatP s (k b)
  | .row r k => ∀ x, r = some x → SatP s (k x)
  | .rows r k => SatP s (k r)
  | .any p k => ∃ b, (b = true → p = true) ∧ SatP s (k b)
  | .str r k => ∀ x, r = some x → SatP s (k x)
  | .call _ _ => False
  | .yld _ _ => False
  | .bad => True
def Keeps (σ : Sto) : ARes → Prop
  | .ok _ σ' => σ' = σ
  | .need _ k => Keeps σ k
  | .split _ k => ∀ b, Keeps σ (k b)
  | .row _ k => ∀ x, Keeps σ (k x)
  | .rows _ k => ∀ x, Keeps σ (k x)
  | .any _ k => ∀ x, Keeps σ (k x)
  | .str _ k => ∀ x, Keeps σ (k x)
  | .call _ _ => True
  | .yld _ _ => True
  | .bad => True
theorem SatP.toV (hi : Inv w Im φ σ) {s : Sem Value} : ∀ {r : ARes}, SatP P w Im φ s r → Keeps σ r → SatV P w Im φ σ s r
  | .ok d σ', ⟨v, h1, h2⟩, hk => by
    have hk' : σ' = σ := hk
    subst hk'
    exact ⟨v, w, φ, h1, Good.refl hi h2⟩
  | .need b k, h, hk => fun hb => SatP.toV hi (h hb) hk
  | .split b k, h, hk => SatP.toV hi (r := k b) h (hk b)
  | .row r k, h, hk => fun x hx => SatP.toV hi (h x hx) (hk x)
  | .rows r k, h, hk => SatP.toV hi (r := k r) h (hk r)
  | .any p k, h, hk => let ⟨b, hb, h'⟩ := h; ⟨b, hb, SatP.toV hi (r := k b) h' (hk b)⟩
  | .str r k, h, hk => fun x hx => SatP.toV hi (h x hx) (hk x)
  | .call _ _, h, _ => h.elim
  | .yld _ _, h, _ => h.elim
  | .bad, _, _ => trivial
theorem SatP.opt {s : Sem Value} {o : Option D} (h : ∀ d, o = some d → ∃ v, s.run P w = .ok v w ∧ Rel w Im φ d v) : SatP P w Im φ s (ARes.opt o σ) := by
  cases o with
  | none => trivial
  | some d => exact h d rfl
theorem Keeps.opt (o : Option D) : Keeps σ (ARes.opt o σ) := by
  cases o with
  | none => trivial
  | some d => exact rfl
theorem SatV.toA {s : Sem Value} : ∀ {r : ARes}, SatV P w Im φ σ s r → SatA P w Im φ σ (do pure (.value (← s))) r
  | .ok d σ', ⟨v, w', φ', h1, h2⟩ => ⟨v, w', φ', .inl (by simp [h1]), h2⟩
  | .need b k, h => fun hb => SatV.toA (h hb)
  | .split b k, h => SatV.toA (r := k b) h
  | .row r k, h => fun x hx => SatV.toA (h x hx)
  | .rows r k, h => SatV.toA (r := k r) h
  | .any p k, h => let ⟨b, hb, h'⟩ := h; ⟨b, hb, SatV.toA (r := k b) h'⟩
  | .str r k, h => fun x hx => SatV.toA (h x hx)
  | .call _ _, h => h.elim
  | .yld _ _, h => h.elim
  | .bad, _ => trivial
theorem SatV.opt {s : Sem Value} {o : Option D} (hi : Inv w Im φ σ) (h : ∀ d, o = some d → ∃ v, s.run P w = .ok v w ∧ Rel w Im φ d v) : SatV P w Im φ σ s (ARes.opt o σ) := by
  cases o with
  | none => trivial
  | some d => obtain ⟨v, h1, h2⟩ := h d rfl; exact ⟨v, w, φ, h1, Good.refl hi h2⟩
theorem rel_ofScal (v : Value) : Rel w Im φ (ofScal v) v := by
  unfold ofScal
  split
  · exact .bool _
  · exact .int _ _
  · exact .str _ _ rfl
  · exact .nilp
  · exact .nilsl _
  · split
    · rename_i h
      exact .fn _ _ _ _ _ h.1.symm h.2.symm (fun i d v a => by simp at a) (fun i d v a => by simp at a)
    · exact .undef _
  · exact .nilfn
  · exact .nili
  · exact .undef _
theorem rel_ofConst (v : Value) : Rel w Im φ (ofConst v) v := by
  unfold ofConst
  split
  · rename_i cs
    refine .agg _ _ (by simp) (fun i d v h1 h2 => ?_)
    simp only [List.getElem?_map, Array.getElem?_toList, h2, Option.map_some, Option.some.injEq] at h1
    rw [← h1]; exact rel_ofScal v
  · exact rel_ofScal _
theorem cells_one {v : Value} (h : v.oneCell' = true) : v.cells = #[v] := by
  cases v <;> first | rfl | simp [Value.oneCell'] at h
theorem rel_cells {d : D} {v : Value} (h : Rel w Im φ d v) {cs : List D} (hc : cellsD d = some cs) :
    cs.length = v.cells.size ∧ ∀ (i : Nat) (d' : D) (v' : Value), cs[i]? = some d' → v.cells[i]? = some v' → Rel w Im φ d' v' := by
  by_cases hs : scal d = true
  · have h1 : cs = [d] := by cases d <;> simp_all [cellsD, scal]
    subst h1
    rw [cells_one (h.one hs)]
    refine ⟨by simp, fun i d' v' h1 h2 => ?_⟩
    cases i with
    | zero => simp at h1 h2; subst h1; subst h2; exact h
    | succ i => simp at h1
  · cases h <;> simp [scal] at hs
    · simp [cellsD] at hc
    · rename_i cs' vs h1 h2
      simp [cellsD] at hc
      subst hc
      exact ⟨h1, h2⟩
    · simp [cellsD] at hc
theorem chunk_length (sz : Nat) : ∀ (n : Nat) (cs : List D), (chunk sz n cs).length = n
  | 0, _ => rfl
  | n + 1, cs => by simp [chunk, chunk_length sz n]
theorem chunk_rows (sz : Nat) : ∀ (n : Nat) (cs : List D), n * sz ≤ cs.length → ∀ r ∈ chunk sz n cs, r.length = sz
  | 0, _, _, r, hr => by simp [chunk] at hr
  | n + 1, cs, h, r, hr => by
    have h1 : sz + n * sz ≤ cs.length := by rw [Nat.add_mul] at h; omega
    simp only [chunk, List.mem_cons] at hr
    rcases hr with rfl | hr
    · simp; omega
    · exact chunk_rows sz n (cs.drop sz) (by simp; omega) r hr
theorem chunk_get (sz : Nat) : ∀ (n : Nat) (cs : List D) (i j : Nat) (r : List D) (d : D), (chunk sz n cs)[i]? = some r → r[j]? = some d → cs[i * sz + j]? = some d ∧ j < sz
  | 0, _, i, j, r, d, h, _ => by simp [chunk] at h
  | n + 1, cs, 0, j, r, d, h, h2 => by
    simp only [chunk, List.getElem?_cons_zero, Option.some.injEq] at h
    subst h
    rw [List.getElem?_take] at h2
    split at h2
    · rename_i hj; simp only [Nat.zero_mul, Nat.zero_add]; exact ⟨h2, hj⟩
    · cases h2
  | n + 1, cs, i + 1, j, r, d, h, h2 => by
    simp only [chunk, List.getElem?_cons_succ] at h
    obtain ⟨h3, h4⟩ := chunk_get sz n (cs.drop sz) i j r d h h2
    rw [List.getElem?_drop] at h3
    rw [show (i + 1) * sz + j = sz + (i * sz + j) by rw [Nat.add_mul]; omega]
    exact ⟨h3, h4⟩
theorem chunk_ok {sz n : Nat} {cs : List D} (h : n * sz ≤ cs.length) (hs : cs.all scal = true) : ∀ r ∈ chunk sz n cs, RowOk sz r := fun r hr => by
  refine ⟨chunk_rows sz n cs h r hr, List.all_eq_true.2 fun d hd => ?_⟩
  obtain ⟨i, hi⟩ := List.getElem?_of_mem hr
  obtain ⟨j, hj⟩ := List.getElem?_of_mem hd
  exact List.all_eq_true.1 hs d (List.mem_of_getElem? (chunk_get sz n cs i j r d hi hj).1)
theorem any_false {cs : List D} (h : cs.any hasRef1 = false) {i : Nat} {d : D} (hd : cs[i]? = some d) : hasRef1 d = false := by
  rw [List.any_eq_false] at h
  simpa using h d (List.mem_of_getElem? hd)
theorem all_scal {cs : List D} (h : cs.all scal = true) {i : Nat} {d : D} (hd : cs[i]? = some d) : scal d = true :=
  List.all_eq_true.1 h d (List.mem_of_getElem? hd)
theorem rel_flag {b : Bool} {cs : List D} (hs : cs.all scal = true) (hb : cs.any hasRef1 = true → b = true) {i : Nat} {d : D} {v : Value} (hd : cs[i]? = some d) (h : Rel w Im φ d v) : Rel w Im (if b then φ else []) d v := by
  cases b with
  | true => exact h
  | false =>
    have hf : cs.any hasRef1 = false := by cases hh : cs.any hasRef1 with | false => rfl | true => exact absurd (hb hh) (by simp)
    exact h.closed (all_scal hs hd) (any_false hf hd)
theorem szOf_some {t : TypeId} {n : Nat} (h : szOf P t = some n) (w : World) : (sizeOf t).run P w = .ok n w := by
  unfold szOf at h
  cases hi : P.info? t with
  | none => simp [hi] at h
  | some i => simp [hi] at h; subst h; simp [sizeOf, typeInfo, hi]
theorem zeroD_some {t : TypeId} {z : D} (h : zeroD P t = some z) : ∃ i v, P.info? t = some i ∧ i.zero = some v ∧ z = ofConst v := by
  unfold zeroD at h
  cases hi : P.info? t with
  | none => simp [hi] at h
  | some i =>
    cases hz : i.zero with
    | none => simp [hi, hz] at h
    | some v => simp [hi, hz] at h; exact ⟨i, v, rfl, hz, h.symm⟩
theorem tyOf_some {t : TypeId} {n : Nat} {ag : Bool} (h : tyOf P t = some (n, ag)) (w : World) : (isAgg t).run P w = .ok ag w ∧ (sizeOf t).run P w = .ok n w := by
  unfold tyOf at h
  cases hs : szOf P t with
  | none => simp [hs] at h
  | some m =>
    cases hd : P.underlying t with
    | none => simp [hs, hd] at h
    | some d =>
      simp only [hs, hd, Option.some.injEq, Prod.mk.injEq] at h
      obtain ⟨rfl, rfl⟩ := h
      refine ⟨?_, szOf_some hs w⟩
      unfold isAgg
      rw [Sem.run_bind, run_underlying hd w]
      cases d <;> simp [rowT]
theorem phi_self (h : φ.length = σ.length) (l : Loc) : (φ ++ [l])[σ.length]? = some l := by rw [← h]; simp
theorem alloc_sat (hi : Inv w Im φ σ) {t : TypeId} {d : D} {v : Value} (hr : Rel w Im φ d v) {s : Sem Value}
    (hs : s.run P w = .ok (.pointer (some ⟨w.heap.size, 0, none⟩)) (w.alloc (.cells v.cells t))) : SatV P w Im φ σ s (allocD P t d σ) := by
  unfold allocD
  cases hB : newBlk P t d with
  | none => trivial
  | some B =>
    unfold newBlk at hB
    split at hB
    · rename_i cs n sz h1 h2 h3
      split at hB
      · rename_i hc
        obtain ⟨hc1, hc2, hc3, hc4⟩ := hc
        obtain rfl := Option.some.inj hB
        obtain ⟨hl, hcell⟩ := rel_cells hr h1
        have hfit : (chunk sz (n / sz) cs).length * sz ≤ v.cells.size := by rw [chunk_length, ← hc4, ← hc1, hl]; exact Nat.le_refl _
        obtain ⟨a1, a2⟩ := hi.alloc v.cells t (0, 0) ⟨sz, cs.any hasRef1, chunk sz (n / sz) cs⟩ hc3 (.inl rfl)
          (chunk_ok (by rw [← hc4, hc1]; exact Nat.le_refl _) hc2) hfit
          (fun i j r d hi' hj' => by
            obtain ⟨g1, g2⟩ := chunk_get sz (n / sz) cs i j r d hi' hj'
            have hlt := (List.getElem?_eq_some_iff.1 g1).1
            rw [hl] at hlt
            refine ⟨v.cells[i * sz + j], by simp [hlt], ?_⟩
            exact rel_flag hc2 (fun h => h) g1 (hcell _ _ _ g1 (by simp [hlt])))
        refine ⟨_, _, _, hs, PhiLe.append _ _, a2, a1, ?_⟩
        have := Rel.ptr (w := w.alloc (.cells v.cells t)) (Im := Im) σ.length 0 0 _ (phi_self hi.len ⟨w.heap.size, 0, sz, v.cells.size⟩)
        simpa using this
      · cases hB
    · cases hB
theorem box_sat (hi : Inv w Im φ σ) {t : TypeId} {d : D} {v : Value} (hr : Rel w Im φ d v) : SatV P w Im φ σ (Instr.box t v) (allocD P t d σ) :=
  alloc_sat hi hr (by simp [Instr.box, newVar, newRow])
theorem allocOp_sat (hi : Inv w Im φ σ) {t : TypeId} : SatV P w Im φ σ (Instr.alloc t true (.tuple #[])) (match zeroD P t with | some z => allocD P t z σ | none => .bad) := by
  cases hz : zeroD P t with
  | none => trivial
  | some z =>
    obtain ⟨i, v, h1, h2, rfl⟩ := zeroD_some hz
    exact alloc_sat hi (rel_ofConst v) (by simp [Instr.alloc, zeroValue, typeInfo, h1, h2, newVar, newRow])
/-! ### loads -/
variable (w Im) in
/-- Rows in memory. -/
def RowsAt (ψ : Phi) (c base sz : Nat) (rows : List (List D)) : Prop :=
  (∀ r ∈ rows, RowOk sz r) ∧ ∀ (i j : Nat) (r : List D) (d : D), rows[i]? = some r → r[j]? = some d → ∃ v, w.cell? ⟨c, base + i * sz + j, none⟩ = some v ∧ Rel w Im ψ d v
theorem BlkOk.rowsAt {B : Blk} {l : Loc} (h : BlkOk w Im φ B l) : RowsAt w Im (if B.deep then φ else []) l.blk l.base B.sz B.rows := ⟨h.len, h.rel⟩
theorem BlkOk.rowsAt' {B : Blk} {l : Loc} (h : BlkOk w Im φ B l) : RowsAt w Im φ l.blk l.base B.sz B.rows :=
  ⟨h.len, fun i j r d h1 h2 => by
    obtain ⟨v, hv, hr⟩ := h.rel i j r d h1 h2
    exact ⟨v, hv, hr.mono (fun _ h => h) (fun _ _ => rfl) (by split; exact PhiLe.refl _; exact PhiLe.nil _)⟩⟩
theorem RowsAt.mono {ψ ψ' : Phi} {c base sz : Nat} {rows : List (List D)} (h : RowsAt w Im ψ c base sz rows) (hp : PhiLe ψ ψ') : RowsAt w Im ψ' c base sz rows :=
  ⟨h.1, fun i j r d h1 h2 => let ⟨v, hv, hr⟩ := h.2 i j r d h1 h2; ⟨v, hv, hr.mono (fun _ h => h) (fun _ _ => rfl) hp⟩⟩
theorem Rel.ptr_inv {b i o : Nat} {v : Value} (h : Rel w Im φ (.ptr b i o) v) : ∃ l, φ[b]? = some l ∧ v = .pointer (some ⟨l.blk, l.base + i * l.sz + o, none⟩) := by
  cases h with | ptr b i o l h => exact ⟨l, h, rfl⟩
theorem Rel.iptr_inv {sz i o : Nat} {rows : List (List D)} {v : Value} (h : Rel w Im φ (.iptr sz rows i o) v) :
    ∃ c base, v = .pointer (some ⟨c, base + i * sz + o, none⟩) ∧ (rows ≠ [] → Im c) ∧ RowsAt w Im [] c base sz rows := by
  cases h with | iptr sz rows i o c base vf h1 h2 h3 h4 => exact ⟨c, base, rfl, h1, h2, fun i j r d a b => ⟨_, h3 i j r d a b, h4 i j r d a b⟩⟩
theorem Rel.sl_inv {sz : Nat} {rows : List (List D)} {v : Value} (h : Rel w Im φ (.sl false sz rows) v) :
    (v = .slice none 0 0 ∧ rows = []) ∨ ∃ c base cap a, v = .slice (some a) rows.length cap ∧ (rows ≠ [] → a = ⟨c, base, none⟩) ∧ rows.length ≤ cap ∧ (rows ≠ [] → Im c) ∧ RowsAt w Im [] c base sz rows := by
  cases h with
  | nilsl2 => exact .inl ⟨rfl, rfl⟩
  | sl sz rows c base cap vf a ha h1 h2 h3 h4 h5 => exact .inr ⟨c, base, cap, a, rfl, ha, h3, h1, h2, fun i j r d a b => ⟨_, h4 i j r d a b, h5 i j r d a b⟩⟩
theorem Rel.nilsl_inv {sz : Nat} {rows : List (List D)} {v : Value} (h : Rel w Im φ (.sl true sz rows) v) : v = .slice none 0 0 ∧ rows = [] := by
  cases h with | nilsl => exact ⟨rfl, rfl⟩
theorem Rel.msl_inv {b i len lo : Nat} {ex : Bool} {v : Value} (h : Rel w Im φ (.msl b i len lo ex) v) :
    ∃ l, φ[b]? = some l ∧ ((v = .slice none 0 0 ∧ len = 0 ∧ lo = 0) ∨
    ∃ cap a, v = .slice (some a) len cap ∧ len ≤ lo ∧ lo ≤ cap ∧ (ex = true → cap = lo) ∧ l.base + (i + cap) * l.sz ≤ l.size ∧ a.spot = none ∧ (cap ≠ 0 → a = ⟨l.blk, l.base + i * l.sz, none⟩)) := by
  cases h with
  | mnil b i ex l h => exact ⟨l, h, .inl ⟨rfl, rfl, rfl⟩⟩
  | msl b i len lo ex l cap a h h1 h2 h3 h4 h5 h6 => exact ⟨l, h, .inr ⟨cap, a, rfl, h1, h2, h3, h4, h5, h6⟩⟩
theorem Rel.int_inv {k : IntKind} {n : Int} {v : Value} (h : Rel w Im φ (.int k n) v) : v = .int k n := by cases h; rfl
theorem Rel.bool_inv {b : Bool} {v : Value} (h : Rel w Im φ (.bool b) v) : v = .bool b := by cases h; rfl
theorem Rel.str_inv {l : List UInt8} {v : Value} (h : Rel w Im φ (.str l) v) : ∃ s : ByteArray, v = .string s ∧ s.data.toList = l := by cases h with | str s l h => exact ⟨s, rfl, h⟩
theorem Rel.agg_inv {cs : List D} {v : Value} (h : Rel w Im φ (.agg cs) v) : ∃ vs : Array Value, v = .agg vs ∧ cs.length = vs.size ∧ ∀ (i : Nat) (d : D) (v : Value), cs[i]? = some d → vs[i]? = some v → Rel w Im φ d v := by
  cases h with | agg cs vs h1 h2 => exact ⟨vs, rfl, h1, h2⟩
theorem Rel.tup_inv {cs : List D} {v : Value} (h : Rel w Im φ (.tup cs) v) : ∃ vs : Array Value, v = .tuple vs ∧ cs.length = vs.size ∧ ∀ (i : Nat) (d : D) (v : Value), cs[i]? = some d → vs[i]? = some v → Rel w Im φ d v := by
  cases h with | tup cs vs h1 h2 => exact ⟨vs, rfl, h1, h2⟩
theorem flatten_get (sz : Nat) : ∀ (rows : List (List D)), (∀ r ∈ rows, r.length = sz) → ∀ (p : Nat) (d : D), rows.flatten[p]? = some d → ∃ i j r, i * sz + j = p ∧ rows[i]? = some r ∧ r[j]? = some d
  | [], _, p, d, h => by simp at h
  | r :: rows, hr, p, d, h => by
    rw [List.flatten_cons] at h
    have hl := hr r (by simp)
    by_cases hp : p < r.length
    · rw [List.getElem?_append_left hp] at h
      exact ⟨0, p, r, by simp, rfl, h⟩
    · rw [List.getElem?_append_right (by omega)] at h
      obtain ⟨i, j, r', h1, h2, h3⟩ := flatten_get sz rows (fun x hx => hr x (by simp [hx])) _ _ h
      exact ⟨i + 1, j, r', by rw [Nat.add_mul]; omega, by simpa using h2, h3⟩
theorem flatten_len (sz : Nat) : ∀ (rows : List (List D)), (∀ r ∈ rows, r.length = sz) → rows.flatten.length = rows.length * sz
  | [], _ => by simp
  | r :: rows, hr => by
    rw [List.flatten_cons, List.length_append, flatten_len sz rows (fun x hx => hr x (by simp [hx])), hr r (by simp), List.length_cons, Nat.add_mul]
    omega
theorem addr_add (c o j : Nat) : (⟨c, o, none⟩ : Addr).add j = ⟨c, o + j, none⟩ := by
  unfold Addr.add; split <;> simp_all
theorem loadCells_rel {ψ : Phi} {c o n : Nat} {ds : List D} (hl : ds.length = n) (h : ∀ (j : Nat) (d : D), ds[j]? = some d → ∃ v, w.cell? ⟨c, o + j, none⟩ = some v ∧ Rel w Im ψ d v) :
    ∃ vs : Array Value, (loadCells ⟨c, o, none⟩ n).run P w = .ok vs w ∧ Rel w Im ψ (.agg ds) (.agg vs) := by
  refine ⟨_, run_loadCells w ⟨c, o, none⟩ n (fun j => (w.cell? ⟨c, o + j, none⟩).getD undef) (fun j hj => ?_), .agg _ _ (by simp [hl]) (fun j d v h1 h2 => ?_)⟩
  · obtain ⟨v, hv, _⟩ := h j ds[j] (by simp [hl, hj])
    rw [addr_add, hv]; rfl
  · obtain ⟨v', hv, hr⟩ := h j d h1
    have hj := (List.getElem?_eq_some_iff.1 h1).1
    rw [hl] at hj
    simp [hj, hv] at h2
    rw [← h2]; exact hr
theorem readRow_satP {t : TypeId} {n : Nat} {ag : Bool} (ht : tyOf P t = some (n, ag)) {c base sz : Nat} {rows : List (List D)} (hrows : RowsAt w Im φ c base sz rows) (i o : Nat) :
    SatP P w Im φ (loadVar t ⟨c, base + i * sz + o, none⟩) (readRow rows sz i o n ag σ) := by
  obtain ⟨ha, hsz⟩ := tyOf_some ht w
  have hagg : ∀ ds : List D, ag = true → ds.length = n → (∀ (j : Nat) (d : D), ds[j]? = some d → ∃ v, w.cell? ⟨c, base + i * sz + o + j, none⟩ = some v ∧ Rel w Im φ d v) →
      ∃ v, (loadVar t ⟨c, base + i * sz + o, none⟩).run P w = .ok v w ∧ Rel w Im φ (.agg ds) v := by
    intro ds h1 h2 h3
    obtain ⟨vs, h4, h5⟩ := loadCells_rel (P := P) h2 h3
    refine ⟨.agg vs, ?_, h5⟩
    subst h1
    simp only [loadVar, Sem.run_bind, ha, Result.andThen_ok, if_true, hsz, h4, Sem.run_pure]
  unfold readRow
  split
  · rename_i hle
    intro r hr
    have hrl := (hrows.1 r (List.mem_of_getElem? hr)).1
    split
    · rename_i hag
      dsimp only
      rw [if_pos hrl]
      · refine hagg _ hag (by simp; omega) (fun j d hj => ?_)
        rw [List.getElem?_take] at hj
        split at hj
        · rw [List.getElem?_drop] at hj
          obtain ⟨v, hv, h5⟩ := hrows.2 i (o + j) r d hr hj
          exact ⟨v, by rw [show base + i * sz + o + j = base + i * sz + (o + j) by omega]; exact hv, h5⟩
        · cases hj
    · rename_i hag
      split
      · rename_i hn
        refine SatP.opt (fun d hd => ?_)
        obtain ⟨v, hv, h5⟩ := hrows.2 i o r d hr hd
        have hag' : ag = false := by cases ag <;> simp_all
        subst hag'
        refine ⟨v, ?_, h5⟩
        simp [loadVar, ha, hv]
      · trivial
  · split
    · rename_i hc
      obtain ⟨h1, h2, h3, h4⟩ := hc
      intro hb
      have hb' := Nat.le_of_ble_eq_true hb
      subst h1
      have hall : ∀ r ∈ (rows.drop i).take (n / sz), r.length = sz := fun r hr => (hrows.1 r (List.mem_of_mem_drop (List.mem_of_mem_take hr))).1
      refine hagg _ h2 ?_ (fun p d hp => ?_)
      · rw [flatten_len sz _ hall, List.length_take, List.length_drop, Nat.min_eq_left (by omega)]; exact h4.symm
      · obtain ⟨i', j, r, g1, g2, g3⟩ := flatten_get sz _ hall p d hp
        rw [List.getElem?_take] at g2
        split at g2
        · rw [List.getElem?_drop] at g2
          obtain ⟨v, hv, h5⟩ := hrows.2 (i + i') j r d g2 g3
          refine ⟨v, ?_, h5⟩
          rw [show base + i * sz + 0 + p = base + (i + i') * sz + j by rw [Nat.add_mul]; omega]; exact hv
        · cases g2
    · trivial
theorem load_satP (hi : Inv w Im φ σ) {t : TypeId} {p : D} {pv : Value} (hp : Rel w Im φ p pv) : SatP P w Im φ (Instr.loadAt t pv) (loadD P t p σ) := by
  unfold loadD
  split
  · trivial
  · rename_i n ag ht
    split
    · rename_i b i o
      split
      · rename_i B hB
        obtain ⟨l, hl, hk⟩ := hi.loc hB
        obtain ⟨l', hl', rfl⟩ := hp.ptr_inv
        obtain rfl := Option.some.inj (hl.symm.trans hl')
        have := readRow_satP (P := P) (σ := σ) ht hk.rowsAt' i o
        rw [hk.sz]
        simpa [Instr.loadAt, Instr.sureAddr] using this
      · trivial
    · rename_i sz rows i o
      obtain ⟨c, base, rfl, _, h2⟩ := hp.iptr_inv
      have := readRow_satP (P := P) (σ := σ) ht (h2.mono (PhiLe.nil φ)) i o
      simpa [Instr.loadAt, Instr.sureAddr] using this
    · trivial
theorem readRow_keeps (rows : List (List D)) (sz i o n : Nat) (ag : Bool) : Keeps σ (readRow rows sz i o n ag σ) := by
  unfold readRow
  split
  · intro x
    dsimp only
    by_cases h1 : ag = true
    · rw [if_pos h1]
      by_cases h2 : x.length = sz
      · rw [if_pos h2]; exact rfl
      · rw [if_neg h2]; trivial
    · rw [if_neg h1]
      by_cases h2 : n = 1
      · rw [if_pos h2]; cases x[o]? <;> exact (by first | exact rfl | trivial)
      · rw [if_neg h2]; trivial
  · split
    · exact fun x => rfl
    · trivial
theorem load_keeps (t : TypeId) (p : D) : Keeps σ (loadD P t p σ) := by
  unfold loadD
  split
  · trivial
  · split
    · split
      · exact readRow_keeps _ _ _ _ _ _
      · trivial
    · exact readRow_keeps _ _ _ _ _ _
    · trivial
theorem load_sat (hi : Inv w Im φ σ) {t : TypeId} {p : D} {pv : Value} (hp : Rel w Im φ p pv) : SatV P w Im φ σ (Instr.loadAt t pv) (loadD P t p σ) := (load_satP hi hp).toV hi (load_keeps t p)
/-! ### stores -/
theorem andThen_ok {α β : Type} {r : Result α} {f : α → World → Result β} {b : β} {w' : World} (h : r.andThen f = .ok b w') : ∃ a w1, r = .ok a w1 ∧ f a w1 = .ok b w' := by
  cases r with
  | ok a w1 => exact ⟨a, w1, rfl, h⟩
  | halt x w1 => cases h
theorem SatU {s : Sem Unit} : ∀ {r : ARes}, (SatV P w Im φ σ (do s; pure undef) r) → SatA P w Im φ σ (do s; pure .skip) r
  | .ok d σ', ⟨v, w', φ', h1, h2⟩ => by
    refine ⟨v, w', φ', .inr ?_, h2⟩
    simp only [Sem.run_bind] at h1 ⊢
    obtain ⟨a, w1, h3, h4⟩ := andThen_ok h1
    simp only [Sem.run_pure, Result.ok.injEq] at h4
    obtain ⟨rfl, rfl⟩ := h4
    exact ⟨by rw [h3]; rfl, rfl⟩
  | .need b k, h => fun hb => SatU (h hb)
  | .split b k, h => SatU (r := k b) h
  | .row r k, h => fun x hx => SatU (h x hx)
  | .rows r k, h => SatU (r := k r) h
  | .any p k, h => let ⟨b, hb, h'⟩ := h; ⟨b, hb, SatU (r := k b) h'⟩
  | .str r k, h => fun x hx => SatU (h x hx)
  | .call _ _, h => h.elim
  | .yld _ _, h => h.elim
  | .bad, _ => trivial
theorem write_good (hi : Inv w Im φ σ) {b : Nat} {B B' : Blk} {l : Loc} (hb : sget σ b = some B) (hl : φ[b]? = some l) (o : Nat) (vs : List Value)
    (ho : l.base + o + vs.length ≤ l.size) (hsz : B'.sz = B.sz) (hlen : ∀ r ∈ B'.rows, RowOk B.sz r) (hfit : l.base + B'.rows.length * B.sz ≤ l.size)
    (hrel : ∀ (i j : Nat) (r : List D) (d : D), B'.rows[i]? = some r → r[j]? = some d →
      (o ≤ i * B.sz + j ∧ i * B.sz + j < o + vs.length ∧ ∃ v, vs[i * B.sz + j - o]? = some v ∧ Rel w Im (if B'.deep then φ else []) d v) ∨
      ((i * B.sz + j < o ∨ o + vs.length ≤ i * B.sz + j) ∧ ∃ r', B.rows[i]? = some r' ∧ r'[j]? = some d))
    (hdeep : B.deep = true → B'.deep = true) :
    Inv (w.setCells l.blk (l.base + o) vs) Im φ (σ.set b (some B')) ∧ Tr φ.length w Im φ σ (w.setCells l.blk (l.base + o) vs) Im φ (σ.set b (some B')) := by
  refine hi.write hb hl (l.base + o) vs ho hsz hlen hfit (fun i j r d h1 h2 => ?_) hdeep
  rcases hrel i j r d h1 h2 with ⟨h3, h4, v, h5, h6⟩ | ⟨h3, h4⟩
  · exact .inl ⟨by omega, by omega, v, by rw [show l.base + i * B.sz + j - (l.base + o) = i * B.sz + j - o by omega]; exact h5, h6⟩
  · exact .inr ⟨by omega, h4⟩
theorem storeVar_run {t : TypeId} {n : Nat} (ht : szOf P t = some n) {v : Value} (hn : v.cells.size = n) (h1 : ∀ u ∈ v.cells.toList, u.oneCell' = true) {c o : Nat}
    (hm : ∀ j, j < n → (w.cell? ⟨c, o + j, none⟩).isSome = true ∧ w.frozen? ⟨c, o + j, none⟩ = false) :
    (storeVar t ⟨c, o, none⟩ v).run P w = .ok () (w.setCells c o v.cells.toList) := by
  have := run_storeCells_cells (P := P) c o v.cells.toList 0 w (fun j hj => by simpa using (hm j (by simpa [hn] using hj)).1) (fun j hj => by simpa using (hm j (by simpa [hn] using hj)).2) h1
  simp only [Nat.add_zero] at this
  simp [storeVar, szOf_some ht, hn, this]
theorem splice_get {r cs : List D} {o n sz : Nat} (hr : r.length = sz) (hn : cs.length = n) (ho : o + n ≤ sz) {j : Nat} {d : D} (h : (r.take o ++ cs ++ r.drop (o + n))[j]? = some d) :
    (o ≤ j ∧ j < o + n ∧ cs[j - o]? = some d) ∨ ((j < o ∨ o + n ≤ j) ∧ r[j]? = some d) := by
  rw [List.append_assoc] at h
  by_cases h1 : j < o
  · rw [List.getElem?_append_left (by simp; omega), List.getElem?_take, if_pos h1] at h
    exact .inr ⟨.inl h1, h⟩
  · rw [List.getElem?_append_right (by simp; omega)] at h
    have ht : (r.take o).length = o := by simp; omega
    rw [ht] at h
    by_cases h2 : j < o + n
    · rw [List.getElem?_append_left (by omega)] at h
      exact .inl ⟨by omega, h2, h⟩
    · rw [List.getElem?_append_right (by omega), List.getElem?_drop] at h
      rw [show o + n + (j - o - cs.length) = j by omega] at h
      exact .inr ⟨.inr (by omega), h⟩
theorem splice_scal {r cs : List D} {o n : Nat} (hr : r.all scal = true) (hc : cs.all scal = true) : (r.take o ++ cs ++ r.drop n).all scal = true := by
  rw [List.all_eq_true] at hr hc ⊢
  intro d hd
  simp only [List.mem_append] at hd
  rcases hd with (hd | hd) | hd
  · exact hr d (List.mem_of_mem_take hd)
  · exact hc d hd
  · exact hr d (List.mem_of_mem_drop hd)
theorem one_cells {d : D} {v : Value} (h : Rel w Im φ d v) {cs : List D} (hc : cellsD d = some cs) (hs : cs.all scal = true) : ∀ u ∈ v.cells.toList, u.oneCell' = true := by
  obtain ⟨h1, h2⟩ := rel_cells h hc
  intro u hu
  obtain ⟨i, hlt, rfl⟩ := List.getElem_of_mem hu
  have hlt' : i < cs.length := by simp at hlt; omega
  exact (h2 i cs[i] _ (by simp [hlt']) (by simp at hlt; simp [hlt])).one (all_scal hs (by simp [hlt'] : cs[i]? = some cs[i]))
theorem row_lt {sz i a j : Nat} (h : i < a) (hj : j < sz) : i * sz + j < a * sz := by
  have := Nat.mul_le_mul_right sz (show i + 1 ≤ a from h)
  rw [Nat.add_mul] at this
  omega
theorem store_sat (hi : Inv w Im φ σ) {t : TypeId} {p d : D} {pv v : Value} (hp : Rel w Im φ p pv) (hv : Rel w Im φ d v) :
    SatV P w Im φ σ (do Instr.storeAt t pv v; pure undef) (storeD P t p d σ) := by
  unfold storeD
  split
  · rename_i n cs b i o hn hcs
    split
    · rename_i B hB
      split
      · rename_i hc
        obtain ⟨hc1, hc2⟩ := hc
        obtain ⟨l, hl, hk⟩ := hi.loc hB
        obtain ⟨l', hl', rfl⟩ := hp.ptr_inv
        obtain rfl := Option.some.inj (hl.symm.trans hl')
        obtain ⟨hcl, hcr⟩ := rel_cells hv hcs
        have hvn : v.cells.size = n := by omega
        have h1 := one_cells hv hcs hc2
        have hfl : ∀ (k : Nat) (e : D) (u : Value), cs[k]? = some e → v.cells.toList[k]? = some u → Rel w Im (if B.deep || cs.any hasRef1 then φ else []) e u := fun k e u h2 h3 =>
          rel_flag hc2 (fun h => by simp [h]) h2 (hcr k e u h2 (by simpa using h3))
        have hcv : ∀ (k : Nat) (e : D), cs[k]? = some e → ∃ u, v.cells.toList[k]? = some u ∧ Rel w Im (if B.deep || cs.any hasRef1 then φ else []) e u := fun k e h2 => by
          have := (List.getElem?_eq_some_iff.1 h2).1
          exact ⟨v.cells.toList[k]'(by simp; omega), by simp, hfl k e _ h2 (by simp)⟩
        split
        · rename_i hle
          intro r hr
          have hrl := (hk.len r (List.mem_of_getElem? hr)).1
          have hrs := (hk.len r (List.mem_of_getElem? hr)).2
          have hilt := (List.getElem?_eq_some_iff.1 hr).1
          have hin : i * B.sz + o + n ≤ B.rows.length * B.sz := by
            have := Nat.mul_le_mul_right B.sz (show i + 1 ≤ B.rows.length from hilt)
            rw [Nat.add_mul] at this
            omega
          have hfit := hk.fit
          have hrun := storeVar_run (P := P) (w := w) (c := l.blk) (o := l.base + i * l.sz + o) hn hvn h1 (fun j hj => hk.mem _ (by rw [hk.sz]; omega))
          obtain ⟨a1, a2⟩ := write_good hi (B' := ⟨B.sz, B.deep || cs.any hasRef1, B.rows.set i (r.take o ++ cs ++ r.drop (o + n))⟩) hB hl (i * B.sz + o) v.cells.toList
            (by simp [hvn]; omega) rfl (fun x hx => by
              rcases List.mem_or_eq_of_mem_set hx with hx | rfl
              · exact hk.len x hx
              · exact ⟨by simp; omega, splice_scal hrs hc2⟩) (by simpa using hfit) (fun i' j x e g1 g2 => by
              simp only [Array.length_toList, hvn]
              simp only [List.getElem?_set] at g1
              by_cases hii : i = i'
              · subst hii
                simp only [if_true, hilt, Option.some.injEq] at g1
                subst g1
                rcases splice_get hrl hc1 hle g2 with ⟨g3, g4, g5⟩ | ⟨g3, g4⟩
                · obtain ⟨u, hu, hur⟩ := hcv _ _ g5
                  exact .inl ⟨by omega, by omega, u, by rw [show i * B.sz + j - (i * B.sz + o) = j - o by omega]; exact hu, hur⟩
                · exact .inr ⟨by omega, r, hr, g4⟩
              · simp only [if_neg hii] at g1
                refine .inr ⟨?_, x, g1, g2⟩
                have hxl := (hk.len x (List.mem_of_getElem? g1)).1
                have hj := (List.getElem?_eq_some_iff.1 g2).1
                rcases Nat.lt_or_ge i' i with hlt | hge
                · have := row_lt (sz := B.sz) (j := j) hlt (by omega); omega
                · have := Nat.mul_le_mul_right B.sz (show i + 1 ≤ i' by omega)
                  rw [Nat.add_mul] at this
                  omega) (fun h => by simp [h])
          refine ⟨undef, _, φ, ?_, PhiLe.refl _, a2, a1, .undef _⟩
          rw [hk.sz] at hrun ⊢
          simp only [Nat.add_assoc] at hrun
          simp [Instr.storeAt, Instr.sureAddr, hrun, Nat.add_assoc]
        · split
          · rename_i hc'
            obtain ⟨rfl, h2, h3⟩ := hc'
            intro hb
            have hb' := Nat.le_of_ble_eq_true hb
            have hfit := hk.fit
            have hin : i * B.sz + n ≤ B.rows.length * B.sz := by
              have := Nat.mul_le_mul_right B.sz hb'
              rw [Nat.add_mul] at this
              omega
            have hrun := storeVar_run (P := P) (w := w) (c := l.blk) (o := l.base + i * l.sz + 0) hn hvn h1 (fun j hj => hk.mem _ (by rw [hk.sz]; omega))
            have hcl' := chunk_length B.sz (n / B.sz) cs
            obtain ⟨a1, a2⟩ := write_good hi (B' := ⟨B.sz, B.deep || cs.any hasRef1, B.rows.take i ++ chunk B.sz (n / B.sz) cs ++ B.rows.drop (i + n / B.sz)⟩) hB hl (i * B.sz) v.cells.toList
              (by simp [hvn]; omega) rfl (fun x hx => by
                simp only [List.mem_append] at hx
                rcases hx with (hx | hx) | hx
                · exact hk.len x (List.mem_of_mem_take hx)
                · exact chunk_ok (by omega) hc2 x hx
                · exact hk.len x (List.mem_of_mem_drop hx)) (by
                  simp only [List.length_append, List.length_take, List.length_drop, hcl']
                  rw [show min i B.rows.length + n / B.sz + (B.rows.length - (i + n / B.sz)) = B.rows.length by omega]
                  exact hfit) (fun i' j x e g1 g2 => by
                simp only [Array.length_toList, hvn]
                rw [List.append_assoc] at g1
                by_cases q1 : i' < i
                · rw [List.getElem?_append_left (by simp; omega), List.getElem?_take, if_pos q1] at g1
                  have hj := (List.getElem?_eq_some_iff.1 g2).1
                  have hxl := (hk.len x (List.mem_of_getElem? g1)).1
                  have := row_lt (sz := B.sz) (j := j) q1 (by omega)
                  exact .inr ⟨by omega, x, g1, g2⟩
                · rw [List.getElem?_append_right (by simp; omega)] at g1
                  have ht : (B.rows.take i).length = i := by simp; omega
                  rw [ht] at g1
                  by_cases q2 : i' < i + n / B.sz
                  · rw [List.getElem?_append_left (by omega)] at g1
                    obtain ⟨g3, g4⟩ := chunk_get _ _ _ _ _ _ _ g1 g2
                    have g5 := (List.getElem?_eq_some_iff.1 g3).1
                    obtain ⟨u, hu, hur⟩ := hcv _ _ g3
                    have e1 : i' * B.sz = i * B.sz + (i' - i) * B.sz := by rw [← Nat.add_mul]; congr 1; omega
                    exact .inl ⟨by omega, by omega, u, by rw [show i' * B.sz + j - i * B.sz = (i' - i) * B.sz + j by omega]; exact hu, hur⟩
                  · rw [List.getElem?_append_right (by omega), List.getElem?_drop] at g1
                    rw [hcl', show i + n / B.sz + (i' - i - n / B.sz) = i' by omega] at g1
                    have := Nat.mul_le_mul_right B.sz (show i + n / B.sz ≤ i' by omega)
                    rw [Nat.add_mul] at this
                    exact .inr ⟨by omega, x, g1, g2⟩) (fun h => by simp [h])
            refine ⟨undef, _, φ, ?_, PhiLe.refl _, a2, a1, .undef _⟩
            rw [hk.sz] at hrun ⊢
            simp [Instr.storeAt, Instr.sureAddr] at hrun ⊢
            simp [hrun]
          · trivial
      · trivial
    · trivial
  · trivial
end
end Go.RX

set_option linter.unusedSimpArgs false
set_option linter.unusedVariables false
namespace Go.RX
open Go
section
variable {P : Program} {w : World} {Im : Nat → Prop} {φ : Phi} {σ : Sto}
theorem SatV.pure (hi : Inv w Im φ σ) {s : Sem Value} {d : D} (h : ∃ v, s.run P w = .ok v w ∧ Rel w Im φ d v) : SatV P w Im φ σ s (.ok d σ) :=
  let ⟨v, h1, h2⟩ := h; ⟨v, w, φ, h1, Good.refl hi h2⟩
/-! ### integers -/
theorem iop_run {t : TypeId} {op : BinOp} {k : IntKind} {x y : Int} {d : D} (h : iop op k x y = some d) (hop : op ≠ .shl ∧ op ≠ .shr ∧ op ≠ .quo ∧ op ≠ .rem) :
    ∃ v, (binOp op t (.int k x) (.int k y)).run P w = .ok v w ∧ Rel w Im φ d v := by
  obtain ⟨h1, h2, h3, h4⟩ := hop
  cases op <;> simp_all [iop] <;> subst h <;>
    first
      | exact ⟨_, by simp [binOp, Op.intArith, Op.intBits, Op.intCmp], .int _ _⟩
      | exact ⟨_, by simp [binOp, Op.intArith, Op.intBits, Op.intCmp], .bool _⟩
theorem intBin_sat (hi : Inv w Im φ σ) (op : BinOp) (t : TypeId) (k k' : IntKind) (x y : Int) : SatV P w Im φ σ (binOp op t (.int k x) (.int k' y)) (intBin op k k' x y σ) := by
  have hgen : (op ≠ .shl ∧ op ≠ .shr ∧ op ≠ .quo ∧ op ≠ .rem) → SatV P w Im φ σ (binOp op t (.int k x) (.int k' y)) (if k = k' then ARes.opt (iop op k x y) σ else .bad) := by
    intro hop
    split
    · rename_i hk
      subst hk
      exact SatV.opt hi fun d hd => iop_run hd hop
    · trivial
  unfold intBin
  split
  · intro hb
    have hy : ¬ y < 0 := by simpa using hb
    exact SatV.pure hi ⟨_, by simp [binOp, Op.shift, hy], .int _ _⟩
  · intro hb
    have hy : ¬ y < 0 := by simpa using hb
    exact SatV.pure hi ⟨_, by simp [binOp, Op.shift, hy], .int _ _⟩
  · split
    · rename_i hk
      subst hk
      intro hb
      have hy : ¬ y = 0 := by simpa using hb
      exact SatV.pure hi ⟨_, by simp [binOp, Op.intDiv, hy], .int _ _⟩
    · trivial
  · split
    · rename_i hk
      subst hk
      intro hb
      have hy : ¬ y = 0 := by simpa using hb
      exact SatV.pure hi ⟨_, by simp [binOp, Op.intDiv, hy], .int _ _⟩
    · trivial
  · rename_i h1 h2 h3 h4
    exact hgen ⟨fun h => h1 h, fun h => h2 h, fun h => h3 h, fun h => h4 h⟩
theorem un_sat (hi : Inv w Im φ σ) (op : UnOp) {x : D} {v : Value} (hx : Rel w Im φ x v) : SatV P w Im φ σ (Op.unary op v) (ARes.opt (unD op x) σ) := by
  refine SatV.opt hi fun d hd => ?_
  unfold unD at hd
  split at hd
  · obtain rfl := hx.bool_inv
    obtain rfl := Option.some.inj hd
    exact ⟨_, by simp [Op.unary], .bool _⟩
  · obtain rfl := hx.int_inv
    obtain rfl := Option.some.inj hd
    exact ⟨_, by simp [Op.unary, Op.intArith], .int _ _⟩
  · rename_i k n
    obtain rfl := hx.int_inv
    simp [iop] at hd
    subst hd
    exact ⟨_, by simp [Op.unary, Op.intBits], .int _ _⟩
  · cases hd
/-! ### parts, equality -/
theorem part_run {t : TypeId} {cs : List D} {vs : Array Value} {off : Nat} {d : D} (hl : cs.length = vs.size) (hr : ∀ (i : Nat) (d : D) (v : Value), cs[i]? = some d → vs[i]? = some v → Rel w Im φ d v)
    (h : partD P t cs off = some d) : ∃ v, (part t vs off).run P w = .ok v w ∧ Rel w Im φ d v := by
  unfold partD at h
  split at h
  · rename_i n ag ht
    obtain ⟨h1, h2⟩ := tyOf_some ht w
    split at h
    · rename_i hag
      subst hag
      obtain rfl := Option.some.inj h
      refine ⟨.agg (vs.extract off (off + n)), by simp [part, h1, h2], .agg _ _ (by simp; omega) (fun i d v h3 h4 => ?_)⟩
      rw [List.getElem?_take] at h3
      split at h3
      · rw [List.getElem?_drop] at h3
        rw [Array.getElem?_extract] at h4
        split at h4
        · exact hr _ _ _ h3 h4
        · cases h4
      · cases h3
    · rename_i hag
      have hag' : ag = false := by cases ag <;> simp_all
      subst hag'
      have hlt := (List.getElem?_eq_some_iff.1 h).1
      rw [hl] at hlt
      refine ⟨vs[off], by simp [part, h1, hlt], hr _ _ _ h (by simp [hlt])⟩
  · cases h
theorem field_run {s : TypeId} {x : D} {v : Value} (hx : Rel w Im φ x v) {f : Nat} {d : D} (h : fieldD P s x f = some d) : ∃ u, (Instr.field s v f).run P w = .ok u w ∧ Rel w Im φ d u := by
  unfold fieldD at h
  split at h
  · rename_i fields cs hu
    obtain ⟨vs, rfl, h1, h2⟩ := hx.agg_inv
    split at h
    · rename_i fd hf
      obtain ⟨u, h3, h4⟩ := part_run (P := P) h1 h2 h
      exact ⟨u, by simp [Instr.field, run_underlying hu, hf, asAgg, h3], h4⟩
    · cases h
  · cases h
theorem allB_cons {o : Option Bool} {r : List (Option Bool)} {b : Bool} (h : allB (o :: r) = some b) : ∃ x y, o = some x ∧ allB r = some y ∧ b = (x && y) := by
  cases o with
  | none => cases h
  | some x =>
    simp only [allB] at h
    cases hr : allB r with
    | none => simp [hr] at h
    | some y => simp [hr] at h; exact ⟨x, y, rfl, rfl, h.symm⟩
theorem toList_data (s : ByteArray) : s.toList = s.data.toList := ByteArray.toList_eq s
theorem deq_run : ∀ (n d : Nat) (t : TypeId) (x y : D) (vx vy : Value) (b : Bool), Rel w Im φ x vx → Rel w Im φ y vy → deq P n t x y = some b → n ≤ d → (Op.equalIn d t vx vy).run P w = .ok b w
  | 0, _, _, _, _, _, _, _, _, _, h, _ => by simp [deq] at h
  | n + 1, d, t, x, y, vx, vy, b, hx, hy, h, hd => by
    obtain ⟨d, rfl⟩ : ∃ e, d = e + 1 := ⟨d - 1, by omega⟩
    have IH := deq_run n d
    unfold deq at h
    split at h
    · rename_i a c hu
      obtain rfl := hx.bool_inv
      obtain rfl := hy.bool_inv
      obtain rfl := Option.some.inj h
      exact run_equalIn_bool' w d t a c hu
    · rename_i k' k a k2 c hu
      obtain rfl := hx.int_inv
      obtain rfl := hy.int_inv
      split at h
      · rename_i hk
        subst hk
        obtain rfl := Option.some.inj h
        exact run_equalIn_int w d t k _ a c hu
      · cases h
    · rename_i a c hu
      obtain ⟨s1, rfl, rfl⟩ := hx.str_inv
      obtain ⟨s2, rfl, rfl⟩ := hy.str_inv
      obtain rfl := Option.some.inj h
      rw [run_equalIn_string w d t s1 s2 hu, toList_data, toList_data]
    · rename_i fields xs ys hu
      obtain ⟨vs1, rfl, h1, h2⟩ := hx.agg_inv
      obtain ⟨vs2, rfl, h3, h4⟩ := hy.agg_inv
      split at h
      · cases h
      · rename_i hst
        have hff : P.fieldsOf t = fields := by simp [Program.fieldsOf, hu]
        rw [run_equalIn_struct w d t vs1 vs2 (by rw [hff]; exact hu) (by simpa using hst), hff]
        generalize fields.toList = fs at h
        clear hff hu hst
        induction fs generalizing b with
        | nil => simp [allB] at h; subst h; simp [Op.eqFields]
        | cons f fs ih =>
          simp only [List.map_cons] at h
          obtain ⟨r, c, g1, g2, rfl⟩ := allB_cons h
          have IHf := ih c g2
          simp only [Op.eqFields]
          split at g1
          · rename_i hn
            rw [if_pos hn]
            split at g1
            · rename_i a e g3 g4
              obtain ⟨va, g5, g6⟩ := part_run (P := P) (w := w) (Im := Im) (φ := φ) h1 h2 g3
              obtain ⟨ve, g7, g8⟩ := part_run (P := P) (w := w) (Im := Im) (φ := φ) h3 h4 g4
              have g9 := IH f.type a e va ve r g6 g8 g1 (by omega)
              simp only [Sem.run_bind, g5, g7, g9, Result.andThen_ok]
              cases r <;> simp [IHf]
            · cases g1
          · rename_i hn
            rw [if_neg hn]
            obtain rfl := Option.some.inj g1
            simpa using IHf
    · rename_i len e xs ys hu
      obtain ⟨vs1, rfl, h1, h2⟩ := hx.agg_inv
      obtain ⟨vs2, rfl, h3, h4⟩ := hy.agg_inv
      split at h
      · rename_i m hm
        rw [Op.equalIn]
        simp only [Sem.run_bind, run_underlying hu, Result.andThen_ok, szOf_some hm]
        simp only [Std.Legacy.Range.forIn_eq_forIn_range', Std.Legacy.Range.size, Nat.sub_zero, Nat.add_one_sub_one, Nat.div_one]
        rw [List.range_eq_range'] at h
        generalize List.range' 0 len = is at h
        induction is generalizing b with
        | nil => simp [allB] at h; subst h; simp
        | cons i is ih =>
          simp only [List.map_cons] at h
          obtain ⟨r, c, g1, g2, rfl⟩ := allB_cons h
          have IHf := ih c g2
          split at g1
          · rename_i a f g3 g4
            obtain ⟨va, g5, g6⟩ := part_run (P := P) (w := w) (Im := Im) (φ := φ) h1 h2 g3
            obtain ⟨vf, g7, g8⟩ := part_run (P := P) (w := w) (Im := Im) (φ := φ) h3 h4 g4
            have g9 := IH e a f va vf r g6 g8 g1 (by omega)
            simp only [List.forIn_cons, Sem.run_bind, g5, g7, g9, Result.andThen_ok]
            cases r
            · simp
            · simpa using IHf
          · cases g1
      · cases h
    · cases h
theorem eqGuard_run {op : BinOp} {t : TypeId} {x y : Operand} {vx vy : Value} (h1 : ∀ a, vx = .agg a → P.eqGuardType P.depth t = false) (h2 : vx = .nilIface → vy ≠ .nilIface) : (eqGuard op t x y vx vy).run P w = .ok () w := by
  cases vx with
  | agg a =>
    cases vy with
    | agg b => exact run_eqGuard_agg w op t x y a b (h1 _ rfl)
    | _ => cases op <;> simp [eqGuard]
  | nilIface =>
    cases vy with
    | nilIface => exact absurd rfl (h2 rfl)
    | _ => cases op <;> simp [eqGuard]
  | _ => cases op <;> simp [eqGuard]
def IsEq (P : Program) (w : World) (t : TypeId) (vx vy : Value) (b : Bool) : Prop :=
  (binOp .eql t vx vy).run P w = .ok (.bool b) w ∧ (binOp .neq t vx vy).run P w = .ok (.bool (!b)) w ∧ (∀ a, vx = .agg a → P.eqGuardType P.depth t = false) ∧ (vx = .nilIface → vy ≠ .nilIface)
theorem isEq_of {t : TypeId} {vx vy : Value} {b : Bool} (h : (Op.equalIn 10000 t vx vy).run P w = .ok b w) (h0 : (binOp .eql t vx vy).run P w = ((Op.equalIn 10000 t vx vy).run P w).andThen fun b w' => .ok (.bool b) w')
    (h1 : (binOp .neq t vx vy).run P w = ((Op.equalIn 10000 t vx vy).run P w).andThen fun b w' => .ok (.bool (!b)) w') (h2 : ∀ a, vx = .agg a → P.eqGuardType P.depth t = false) (h3 : vx = .nilIface → vy ≠ .nilIface) : IsEq P w t vx vy b :=
  ⟨by rw [h0, h]; rfl, by rw [h1, h]; rfl, h2, h3⟩
section
variable (d : Nat) {t : TypeId}
theorem eqIn_nilsl {e : TypeId} (hu : P.underlying t = some (.slice e)) (b : Option Addr) (n c : Nat) : (Op.equalIn (d + 1) t (.slice none 0 0) (.slice b n c)).run P w = .ok b.isNone w := by simp [Op.equalIn, run_underlying hu]
theorem eqIn_slnil {e : TypeId} (hu : P.underlying t = some (.slice e)) (a : Addr) (n c : Nat) : (Op.equalIn (d + 1) t (.slice (some a) n c) (.slice none 0 0)).run P w = .ok false w := by simp [Op.equalIn, run_underlying hu]
theorem eqIn_nilp {e : TypeId} (hu : P.underlying t = some (.pointer e)) : (Op.equalIn (d + 1) t (.pointer none) (.pointer none)).run P w = .ok true w := by simp [Op.equalIn, run_underlying hu]
theorem eqIn_pnil {e : TypeId} (hu : P.underlying t = some (.pointer e)) (a : Addr) : (Op.equalIn (d + 1) t (.pointer (some a)) (.pointer none)).run P w = .ok false w := by simp [Op.equalIn, run_underlying hu]
theorem eqIn_nilf {p1 p2 : Array TypeId} {p3 : Bool} (hu : P.underlying t = some (.func p1 p2 p3)) : (Op.equalIn (d + 1) t .nilFunc .nilFunc).run P w = .ok true w := by simp [Op.equalIn, run_underlying hu]
theorem eqIn_fnil {p1 p2 : Array TypeId} {p3 : Bool} (hu : P.underlying t = some (.func p1 p2 p3)) (f : Fn) (a b : Array Value) : (Op.equalIn (d + 1) t (.func f a b) .nilFunc).run P w = .ok false w := by simp [Op.equalIn, run_underlying hu]
theorem eqIn_inil {ms : Array (String × TypeId)} (hu : P.underlying t = some (.interface ms)) (u : TypeId) (v : Value) : (Op.equalIn (d + 1) t (.iface u v) .nilIface).run P w = .ok false w := by simp [Op.equalIn, run_underlying hu]
end
def plainEq : Value → Bool
  | .int .. | .float .. | .complex .. | .string _ => false
  | _ => true
theorem binEq_run {t : TypeId} {vx vy : Value} (h : plainEq vx = true) : (binOp .eql t vx vy).run P w = ((Op.equalIn 10000 t vx vy).run P w).andThen fun b w' => .ok (.bool b) w' := by
  cases vx <;> first | (simp [plainEq] at h; done) | (simp only [binOp, Op.equal, Op.maxDepth]; simp only [Sem.run_bind, Sem.run_pure])
theorem binNe_run {t : TypeId} {vx vy : Value} (h : plainEq vx = true) : (binOp .neq t vx vy).run P w = ((Op.equalIn 10000 t vx vy).run P w).andThen fun b w' => .ok (.bool (!b)) w' := by
  cases vx <;> first | (simp [plainEq] at h; done) | (simp only [binOp, Op.equal, Op.maxDepth]; simp only [Sem.run_bind, Sem.run_pure])
theorem isEq_mk {t : TypeId} {vx vy : Value} {b : Bool} (h : (Op.equalIn (9999 + 1) t vx vy).run P w = .ok b w) (hp : plainEq vx = true) (h2 : ∀ a, vx = .agg a → P.eqGuardType P.depth t = false) (h3 : vx = .nilIface → vy ≠ .nilIface) : IsEq P w t vx vy b :=
  isEq_of h (binEq_run hp) (binNe_run hp) h2 h3
theorem eql_run {t : TypeId} {x y : D} {vx vy : Value} (hx : Rel w Im φ x vx) (hy : Rel w Im φ y vy) {b : Bool} (h : eqlD P t x y = some b)
    (hint : ∀ k n k' m, ¬ (x = .int k n ∧ y = .int k' m)) (hstr : ∀ l m, ¬ (x = .str l ∧ y = .str m)) : IsEq P w t vx vy b := by
  unfold eqlD at h
  split at h
  · rename_i sz rows
    obtain ⟨rfl, -⟩ := hy.nilsl_inv
    split at h
    · rename_i sz' rows' e hu
      obtain rfl := Option.some.inj h
      obtain ⟨rfl, -⟩ := hx.nilsl_inv
      exact isEq_mk (eqIn_nilsl 9999 hu none 0 0) rfl (fun a ha => by cases ha) (fun ha => by cases ha)
    · cases h
  · obtain rfl : vy = .pointer none := by cases hy; rfl
    split at h
    · rename_i e hu
      obtain rfl := Option.some.inj h
      obtain rfl : vx = .pointer none := by cases hx; rfl
      exact isEq_mk (eqIn_nilp 9999 hu) rfl (fun a ha => by cases ha) (fun ha => by cases ha)
    · rename_i e hu
      obtain rfl := Option.some.inj h
      obtain ⟨l, -, rfl⟩ := hx.ptr_inv
      exact isEq_mk (eqIn_pnil 9999 hu _) rfl (fun a ha => by cases ha) (fun ha => by cases ha)
    · rename_i e hu
      obtain rfl := Option.some.inj h
      obtain ⟨c, base, rfl, -⟩ := hx.iptr_inv
      exact isEq_mk (eqIn_pnil 9999 hu _) rfl (fun a ha => by cases ha) (fun ha => by cases ha)
    · cases h
  · obtain rfl : vy = .nilFunc := by cases hy; rfl
    split at h
    · rename_i p1 p2 p3 hu
      obtain rfl := Option.some.inj h
      obtain rfl : vx = .nilFunc := by cases hx; rfl
      exact isEq_mk (eqIn_nilf 9999 hu) rfl (fun a ha => by cases ha) (fun ha => by cases ha)
    · rename_i p1 p2 p3 hu
      obtain rfl := Option.some.inj h
      obtain ⟨a1, a2, a3, rfl⟩ : ∃ a1 a2 a3, vx = .func a1 a2 a3 := by cases hx; exact ⟨_, _, _, rfl⟩
      exact isEq_mk (eqIn_fnil 9999 hu _ _ _) rfl (fun a ha => by cases ha) (fun ha => by cases ha)
    · cases h
  · obtain rfl : vy = .nilIface := by cases hy; rfl
    split at h
    · rename_i ms hu
      obtain rfl := Option.some.inj h
      obtain ⟨a1, a2, rfl⟩ : ∃ a1 a2, vx = .iface a1 a2 := by cases hx; exact ⟨_, _, rfl⟩
      exact isEq_mk (eqIn_inil 9999 hu _ _) rfl (fun a ha => by cases ha) (fun ha => by cases ha)
    · cases h
  · cases hg : aggGuard P t x with
    | true => simp [hg] at h
    | false =>
      simp only [hg, cond_false] at h
      have hr := deq_run (P := P) (w := w) (Im := Im) (φ := φ) 8 10000 t x y vx vy b hx hy h (by omega)
      unfold deq at h
      split at h
      · obtain rfl := hx.bool_inv
        obtain rfl := hy.bool_inv
        exact isEq_mk hr rfl (fun a ha => by cases ha) (fun ha => by cases ha)
      · exact absurd ⟨rfl, rfl⟩ (hint _ _ _ _)
      · exact absurd ⟨rfl, rfl⟩ (hstr _ _)
      · obtain ⟨vs1, rfl, h1, h2⟩ := hx.agg_inv
        obtain ⟨vs2, rfl, h3, h4⟩ := hy.agg_inv
        exact isEq_mk hr rfl (fun a ha => by simpa [aggGuard] using hg) (fun ha => by cases ha)
      · obtain ⟨vs1, rfl, h1, h2⟩ := hx.agg_inv
        obtain ⟨vs2, rfl, h3, h4⟩ := hy.agg_inv
        exact isEq_mk hr rfl (fun a ha => by simpa [aggGuard] using hg) (fun ha => by cases ha)
      · cases h
theorem nil_run {t : TypeId} {x y : D} {vx vy : Value} (hx : Rel w Im φ x vx) (hy : Rel w Im φ y vy) (p : Bool) (h : nilCmp P t x y = some p) : ∃ b, (b = true → p = true) ∧ IsEq P w t vx vy b := by
  unfold nilCmp at h
  split at h
  · obtain ⟨rfl, -⟩ := hy.nilsl_inv
    split at h
    · rename_i sz' rows e hu
      obtain rfl := Option.some.inj h
      rcases hx.sl_inv with ⟨rfl, rfl⟩ | ⟨c, base, cap, a, rfl, -⟩
      · exact ⟨true, fun _ => rfl, isEq_mk (eqIn_nilsl 9999 hu none 0 0) rfl (fun a ha => by cases ha) (fun ha => by cases ha)⟩
      · exact ⟨false, (fun h => by cases h), isEq_mk (eqIn_slnil 9999 hu _ _ _) rfl (fun a ha => by cases ha) (fun ha => by cases ha)⟩
    · rename_i e hu
      obtain rfl := Option.some.inj h
      obtain ⟨l, -, ⟨rfl, rfl, -⟩ | ⟨cap, ad, rfl, -⟩⟩ := hx.msl_inv
      · exact ⟨true, fun _ => rfl, isEq_mk (eqIn_nilsl 9999 hu none 0 0) rfl (fun a ha => by cases ha) (fun ha => by cases ha)⟩
      · exact ⟨false, (fun h => by cases h), isEq_mk (eqIn_slnil 9999 hu _ _ _) rfl (fun a ha => by cases ha) (fun ha => by cases ha)⟩
    · cases h
  · cases h
theorem bin_sat (hi : Inv w Im φ σ) (op : BinOp) (t : TypeId) (ox oy : Operand) {x y : D} {vx vy : Value} (hx : Rel w Im φ x vx) (hy : Rel w Im φ y vy) :
    SatV P w Im φ σ (do eqGuard op t ox oy vx vy; binOp op t vx vy) (binD P op t x y σ) := by
  have lift : ∀ (r : ARes), (∀ a, vx = .agg a → P.eqGuardType P.depth t = false) → (vx = .nilIface → vy ≠ .nilIface) → SatV P w Im φ σ (binOp op t vx vy) r → SatV P w Im φ σ (do eqGuard op t ox oy vx vy; binOp op t vx vy) r := by
    intro r h1 h2
    have hg := eqGuard_run (P := P) (w := w) (op := op) (t := t) (x := ox) (y := oy) h1 h2
    have key : ∀ {u : World} , (do eqGuard op t ox oy vx vy; binOp op t vx vy : Sem Value).run P w = (binOp op t vx vy).run P w := by simp [hg]
    induction r with
    | ok d s => rintro ⟨v, w', φ', h3, h4⟩; exact ⟨v, w', φ', by rw [key (u := w)]; exact h3, h4⟩
    | need b k ih => exact fun h hb => ih (h hb)
    | split b k ih => exact fun h => ih _ h
    | row r k ih => exact fun h x hx => ih x (h x hx)
    | rows r k ih => exact fun h => ih r h
    | any p k ih => exact fun h => let ⟨b, hb, h'⟩ := h; ⟨b, hb, ih b h'⟩
    | str r k ih => exact fun h x hx => ih x (h x hx)
    | call => exact fun h => h
    | yld => exact fun h => h
    | bad => exact fun h => h
  have hEq0 : (∀ k n k' m, ¬ (x = .int k n ∧ y = .int k' m)) → (∀ l m, ¬ (x = .str l ∧ y = .str m)) → ∀ op', op' = op →
      SatV P w Im φ σ (do eqGuard op t ox oy vx vy; binOp op t vx vy) (match op' with | .eql => eqQ P t x y fun b => .ok (.bool b) σ | .neq => eqQ P t x y fun b => .ok (.bool (!b)) σ | _ => .bad) := by
    intro h1 h2 op' hop
    have nc : ∀ p, nilCmp P t x y = some p → ∃ b, (b = true → p = true) ∧ IsEq P w t vx vy b := nil_run hx hy
    unfold eqQ
    cases op' <;> first | trivial | skip
    · subst hop
      cases hn : nilCmp P t x y with
      | some p =>
        obtain ⟨b, hb, g1, g2, g3, g4⟩ := nc p hn
        exact ⟨b, hb, lift _ g3 g4 (SatV.pure hi ⟨_, g1, .bool _⟩)⟩
      | none =>
        cases hq : eqlD P t x y with
        | none => trivial
        | some b =>
          obtain ⟨g1, g2, g3, g4⟩ := eql_run hx hy hq h1 h2
          exact lift _ g3 g4 (SatV.pure hi ⟨_, g1, .bool _⟩)
    · subst hop
      cases hn : nilCmp P t x y with
      | some p =>
        obtain ⟨b, hb, g1, g2, g3, g4⟩ := nc p hn
        exact ⟨b, hb, lift _ g3 g4 (SatV.pure hi ⟨_, g2, .bool _⟩)⟩
      | none =>
        cases hq : eqlD P t x y with
        | none => trivial
        | some b =>
          obtain ⟨g1, g2, g3, g4⟩ := eql_run hx hy hq h1 h2
          exact lift _ g3 g4 (SatV.pure hi ⟨_, g2, .bool _⟩)
  unfold binD
  split
  · rename_i k a k' b
    obtain rfl := hx.int_inv
    obtain rfl := hy.int_inv
    exact lift _ (fun a ha => by cases ha) (fun ha => by cases ha) (intBin_sat hi op t k k' a b)
  · rename_i a b
    obtain ⟨s1, rfl, rfl⟩ := hx.str_inv
    obtain ⟨s2, rfl, rfl⟩ := hy.str_inv
    refine lift _ (fun a ha => by cases ha) (fun ha => by cases ha) ?_
    split
    · exact SatV.pure hi ⟨_, by simp [binOp, Op.stringOp, toList_data], .bool _⟩
    · exact SatV.pure hi ⟨_, by simp [binOp, Op.stringOp, toList_data], .bool _⟩
    · exact SatV.pure hi ⟨_, by simp [binOp, Op.stringOp, toList_data], .bool _⟩
    · intro hb
      have hb' : ¬ (((s1.size + s2.size : Nat) : Int) > IntKind.i64.max) := by
        have := of_decide_eq_true hb
        simp only [Array.length_toList] at this
        have e1 : s1.data.size = s1.size := rfl
        have e2 : s2.data.size = s2.size := rfl
        rw [e1, e2] at this
        omega
      refine SatV.pure hi ⟨_, by simp only [binOp, Op.stringOp, if_neg hb']; rfl, .str _ _ (by simp)⟩
    · trivial
  · rename_i h1 h2
    exact hEq0 (fun k n k' m ⟨e1, e2⟩ => h1 _ _ _ _ e1 e2) (fun l m ⟨e1, e2⟩ => h2 _ _ e1 e2) op rfl
end
end Go.RX

namespace Go.RX
open Go
section
variable {P : Program} {w : World} {Im : Nat → Prop} {φ : Phi} {σ : Sto}
theorem SatV.congr {s s' : Sem Value} (h : s.run P w = s'.run P w) : ∀ {r : ARes}, SatV P w Im φ σ s r → SatV P w Im φ σ s' r
  | .ok d σ', ⟨v, w', φ', h1, h2⟩ => ⟨v, w', φ', by rw [← h]; exact h1, h2⟩
  | .need b k, h' => fun hb => SatV.congr h (h' hb)
  | .split b k, h' => SatV.congr h (r := k b) h'
  | .row r k, h' => fun x hx => SatV.congr h (h' x hx)
  | .rows r k, h' => SatV.congr (r := k r) h h'
  | .any p k, h' => let ⟨b, hb, h2⟩ := h'; ⟨b, hb, SatV.congr (r := k b) h h2⟩
  | .str r k, h' => fun x hx => SatV.congr h (h' x hx)
  | .call _ _, h' => h'.elim
  | .yld _ _, h' => h'.elim
  | .bad, _ => trivial
theorem addr_mul (c o n sz : Nat) : (⟨c, o, none⟩ : Addr).add (n * sz) = ⟨c, o + n * sz, none⟩ := addr_add _ _ _
theorem fieldAddr_sat (hi : Inv w Im φ σ) {s : TypeId} {p : D} {pv : Value} (hp : Rel w Im φ p pv) (f : Nat) : SatV P w Im φ σ (Instr.fieldAt s pv f) (ARes.opt (fieldAddrD P s p f) σ) := by
  refine SatV.opt hi fun d hd => ?_
  unfold fieldAddrD at hd
  split at hd
  · rename_i fields hu
    split at hd
    · rename_i fd hf
      split at hd
      · rename_i n hn
        split at hd
        · cases hd
        · rename_i hn0
          split at hd
          · rename_i b i o
            obtain ⟨l, hl, rfl⟩ := hp.ptr_inv
            obtain rfl := Option.some.inj hd
            refine ⟨_, by simp [Instr.fieldAt, run_underlying hu, hf, Instr.sureAddr, fieldPlace, szOf_some hn, hn0, addr_add]; rfl, ?_⟩
            have := Rel.ptr (w := w) (Im := Im) b i (o + fd.offset) l hl
            simpa [Nat.add_assoc] using this
          · rename_i sz rows i o
            obtain rfl := Option.some.inj hd
            cases hp with
            | iptr _ _ _ _ c base vf h1 h2 h3 h4 =>
              refine ⟨_, by simp [Instr.fieldAt, run_underlying hu, hf, Instr.sureAddr, fieldPlace, szOf_some hn, hn0, addr_add]; rfl, ?_⟩
              have := Rel.iptr (w := w) (Im := Im) (φ := φ) sz rows i (o + fd.offset) c base vf h1 h2 h3 h4
              simpa [Nat.add_assoc] using this
          · cases hd
      · cases hd
    · cases hd
  · cases hd
theorem inRange {i : Int} {n : Nat} (h : (decide (0 ≤ i) && decide (i < (n : Int))) = true) : 0 ≤ i ∧ i < (n : Int) := by simpa using h
theorem indexAddr_sat (hi : Inv w Im φ σ) {t : TypeId} {x : D} {xv : Value} (hx : Rel w Im φ x xv) (k : IntKind) (i : Int) : SatV P w Im φ σ (Instr.indexAt t xv (.int k i)) (indexAddrD P t x i σ) := by
  unfold indexAddrD
  split
  · rename_i e hu
    split
    · trivial
    · rename_i n hn
      split
      · rename_i sz rows
        split
        · rename_i hc
          obtain ⟨rfl, hpos⟩ := hc
          intro hb
          obtain ⟨h0, h1⟩ := inRange hb
          cases hx with
          | nilsl2 => exact absurd h1 (by simp; omega)
          | sl _ _ c base cap vf a ha a1 a2 a3 a4 a5 =>
            obtain rfl := ha (fun e => by rw [e] at h1; simp at h1; omega)
            refine SatV.pure hi ⟨.pointer (some ⟨c, base + i.toNat * sz, none⟩), ?_, ?_⟩
            · simp [Instr.indexAt, asIntOf, run_underlying hu, h0, h1, szOf_some hn, addr_mul]
            · have := Rel.iptr (w := w) (Im := Im) (φ := φ) sz rows i.toNat 0 c base vf a1 a2 a4 a5
              simpa using this
        · trivial
      · trivial
      · rename_i b j len lo ex
        split
        · rename_i B hB
          split
          · rename_i hc
            obtain ⟨rfl, hpos⟩ := hc
            intro hb
            obtain ⟨h0, h1⟩ := inRange hb
            obtain ⟨l, hl, ⟨rfl, z1, z2⟩ | ⟨cap, ad, rfl, a1, a2, a3, a4, a6, a5⟩⟩ := hx.msl_inv
            · omega
            obtain rfl := a5 (by omega)
            obtain ⟨l', hl', hk⟩ := hi.loc hB
            obtain rfl := Option.some.inj (hl.symm.trans hl')
            refine SatV.pure hi ⟨.pointer (some ⟨l.blk, l.base + j * l.sz + i.toNat * B.sz, none⟩), ?_, ?_⟩
            · simp [Instr.indexAt, asIntOf, run_underlying hu, h0, h1, szOf_some hn, addr_mul]
            · have := Rel.ptr (w := w) (Im := Im) b (j + i.toNat) 0 l hl
              rw [hk.sz] at this ⊢
              rw [Nat.add_mul] at this
              simpa [Nat.add_assoc] using this
          · trivial
        · trivial
      · trivial
  · rename_i len e hu
    split
    · rename_i n b j o hn
      split
      · rename_i B hB
        split
        · rename_i hc
          obtain ⟨rfl, hpos, rfl⟩ := hc
          intro hb
          obtain ⟨h0, h1⟩ := inRange hb
          obtain ⟨l, hl, rfl⟩ := hx.ptr_inv
          obtain ⟨l', hl', hk⟩ := hi.loc hB
          obtain rfl := Option.some.inj (hl.symm.trans hl')
          refine SatV.pure hi ⟨.pointer (some ⟨l.blk, l.base + j * l.sz + 0 + i.toNat * B.sz, none⟩), ?_, ?_⟩
          · simp [Instr.indexAt, asIntOf, run_underlying hu, h0, h1, szOf_some hn, addr_mul, Instr.sureAddr]
          · have := Rel.ptr (w := w) (Im := Im) b (j + i.toNat) 0 l hl
            rw [hk.sz] at this ⊢
            rw [Nat.add_mul] at this
            simpa [Nat.add_assoc] using this
        · trivial
      · trivial
    · rename_i n sz rows j o hn
      split
      · rename_i hc
        obtain ⟨rfl, hpos, rfl⟩ := hc
        intro hb
        obtain ⟨h0, h1⟩ := inRange hb
        cases hx with
        | iptr _ _ _ _ c base vf a1 a2 a3 a4 =>
          refine SatV.pure hi ⟨.pointer (some ⟨c, base + j * sz + 0 + i.toNat * sz, none⟩), ?_, ?_⟩
          · simp [Instr.indexAt, asIntOf, run_underlying hu, h0, h1, szOf_some hn, addr_mul, Instr.sureAddr]
          · have := Rel.iptr (w := w) (Im := Im) (φ := φ) sz rows (j + i.toNat) 0 c base vf a1 a2 a3 a4
            rw [Nat.add_mul] at this
            simpa [Nat.add_assoc] using this
      · trivial
    · trivial
  · trivial
theorem index_sat (hi : Inv w Im φ σ) {t : TypeId} {x : D} {xv : Value} (hx : Rel w Im φ x xv) (k : IntKind) (i : Int) : SatV P w Im φ σ (Instr.index t xv (.int k i)) (indexD P t x i σ) := by
  unfold indexD
  split
  · rename_i len e cs hu
    split
    · rename_i n hn
      intro hb
      obtain ⟨h0, h1⟩ := inRange hb
      obtain ⟨vs, rfl, h2, h3⟩ := hx.agg_inv
      have fin : ∀ d, partD P e cs (i.toNat * n) = some d → ∃ v, (Instr.index t (.agg vs) (.int k i)).run P w = .ok v w ∧ Rel w Im φ d v := fun d hd => by
        obtain ⟨v, h4, h5⟩ := part_run (P := P) h2 h3 hd
        exact ⟨v, by simp [Instr.index, asIntOf, run_underlying hu, h0, h1, szOf_some hn, h4], h5⟩
      unfold partA
      split
      · rename_i m ag hty
        split
        · rename_i hag
          exact SatV.pure hi (fin _ (by unfold partD; rw [hty]; simp [hag]))
        · rename_i hag
          intro r hr
          simp only [Option.map_eq_some_iff] at hr
          obtain ⟨d0, hd0, rfl⟩ := hr
          refine SatV.opt hi fun d hd => fin d ?_
          simp only [List.getElem?_cons_zero] at hd
          unfold partD
          rw [hty]
          simp only
          rw [if_neg hag, hd0, hd]
      · trivial
    · trivial
  · rename_i s hu
    intro hb r hr
    obtain ⟨h0, h1⟩ := inRange hb
    obtain ⟨b, rfl, rfl⟩ := hx.str_inv
    refine SatV.opt hi fun d hd => ?_
    simp only [Option.map_eq_some_iff] at hr
    obtain ⟨c, hc, rfl⟩ := hr
    simp at hd
    subst hd
    refine ⟨.int .u8 c.toNat, ?_, .int _ _⟩
    have hc' : b[i.toNat]? = some c := by
      rw [← hc]
      simp only [Array.getElem?_toList]
      rfl
    simp [Instr.index, asIntOf, run_underlying hu, h0, hc']
  · trivial
/-! ### slicing -/
def ArgIs (x : Option Int) (v : Option Value) : Prop := match x with
  | none => v = none
  | some n => ∃ k, v = some (.int k n)
theorem argIs_of {o : Option Operand} {ρ : Operand → D} {ρc : Operand → Value} (hρ : ∀ x, Rel w Im φ (ρ x) (ρc x)) {x : Option Int} (h : intArg (o.map ρ) = some x) : ArgIs x (o.map ρc) := by
  cases o with
  | none => simp [intArg] at h; subst h; rfl
  | some y =>
    have := hρ y
    simp only [Option.map_some] at h ⊢
    cases hd : ρ y <;> rw [hd] at h this <;> simp [intArg] at h
    subst h
    rw [this.int_inv]
    exact ⟨_, rfl⟩
theorem inB_iff {lo hi : Nat} {x : Int} : inB lo hi x = true ↔ (lo : Int) ≤ x ∧ x ≤ (hi : Int) := by simp [inB]
theorem sliceB_sat {isSlice : Bool} {n c cap : Nat} (hc : c ≤ cap) (hn : n ≤ c) {lo hi mx : Option Int} {vl vh vm : Option Value} (h1 : ArgIs lo vl) (h2 : ArgIs hi vh) (h3 : ArgIs mx vm)
    {K : Nat → Nat → Option Nat → ARes} {s : Sem Value}
    (h : ∀ l h m, l ≤ h → h ≤ c → (∀ x, m = some x → h ≤ x ∧ x ≤ c) → (m = none ↔ mx = none) → ((Instr.sliceBounds isSlice n cap vl vh vm).run P w = .ok (l, h, m.getD cap) w) → SatV P w Im φ σ s (K l h m)) :
    SatV P w Im φ σ s (sliceB n c lo hi mx K) := by
  unfold sliceB
  split
  · simp only [ArgIs] at h1 h2 h3
    subst h1; subst h2; subst h3
    exact h 0 n none (by omega) (by omega) (fun x hx => by cases hx) (by simp) (by simp [Instr.sliceBounds])
  · simp only [ArgIs] at h1 h2 h3
    obtain ⟨k1, rfl⟩ := h1; subst h2; subst h3
    intro hb
    rw [inB_iff] at hb
    exact h _ n none (by omega) (by omega) (fun x hx => by cases hx) (by simp) (by simp [Instr.sliceBounds]; rw [run_sliceBound _ _ _ _ _ (by omega) (by omega)]; simp)
  · simp only [ArgIs] at h1 h2 h3
    subst h1; obtain ⟨k2, rfl⟩ := h2; subst h3
    intro hb
    rw [inB_iff] at hb
    exact h 0 _ none (by omega) (by omega) (fun x hx => by cases hx) (by simp) (by simp [Instr.sliceBounds]; rw [run_sliceBound _ _ _ _ _ (by omega) (by omega)]; simp)
  · simp only [ArgIs] at h1 h2 h3
    obtain ⟨k1, rfl⟩ := h1; obtain ⟨k2, rfl⟩ := h2; subst h3
    intro hb hb2
    rw [inB_iff] at hb hb2
    exact h _ _ none (by omega) (by omega) (fun x hx => by cases hx) (by simp) (by simp [Instr.sliceBounds]; rw [run_sliceBound _ _ _ _ _ (by omega) (by omega)]; simp; rw [run_sliceBound _ _ _ _ _ (by omega) (by omega)]; simp)
  · simp only [ArgIs] at h1 h2 h3
    subst h1; obtain ⟨k2, rfl⟩ := h2; obtain ⟨k3, rfl⟩ := h3
    intro hb hb2
    rw [inB_iff] at hb hb2
    exact h 0 _ (some _) (by omega) (by omega) (fun x hx => by cases hx; omega) (by simp) (by simp [Instr.sliceBounds]; rw [run_sliceBound _ _ _ _ _ (by omega) (by omega)]; simp; rw [run_sliceBound _ _ _ _ _ (by omega) (by omega)]; simp)
  · simp only [ArgIs] at h1 h2 h3
    obtain ⟨k1, rfl⟩ := h1; obtain ⟨k2, rfl⟩ := h2; obtain ⟨k3, rfl⟩ := h3
    intro hb hb2 hb3
    rw [inB_iff] at hb hb2 hb3
    exact h _ _ (some _) (by omega) (by omega) (fun x hx => by cases hx; omega) (by simp) (by simp [Instr.sliceBounds]; rw [run_sliceBound _ _ _ _ _ (by omega) (by omega)]; simp; rw [run_sliceBound _ _ _ _ _ (by omega) (by omega)]; simp; rw [run_sliceBound _ _ _ _ _ (by omega) (by omega)]; simp)
  · trivial
theorem data_extract (s : ByteArray) (l h : Nat) : (s.extract l h).data.toList = (s.data.toList.take h).drop l := by
  rw [ByteArray.data_extract, Array.toList_extract, List.extract_eq_take_drop, List.drop_take]
theorem slice_sat (hi : Inv w Im φ σ) {t : TypeId} {x : D} {xv : Value} (hx : Rel w Im φ x xv) {lo hh mx : Option Int} {vl vh vm : Option Value} (h1 : ArgIs lo vl) (h2 : ArgIs hh vh) (h3 : ArgIs mx vm) :
    SatV P w Im φ σ (Instr.sliceAt t xv vl vh vm) (sliceD P t x lo hh mx σ) := by
  unfold sliceD
  split
  · rename_i s hu
    obtain ⟨b, rfl, rfl⟩ := hx.str_inv
    split
    · simp only [ArgIs] at h3
      subst h3
      refine sliceB_sat (P := P) (isSlice := false) (cap := b.data.toList.length) (mx := none) (vm := none) (Nat.le_refl _) (Nat.le_refl _) h1 h2 rfl (fun l h m g1 g2 g3 g4 g5 => ?_)
      obtain rfl : m = none := g4.2 rfl
      have hs : b.data.toList.length = b.size := by simp
      rw [hs] at g5
      exact SatV.pure hi ⟨.string (b.extract l h), by simp [Instr.sliceAt, Instr.slice, run_underlying hu, g5], .str _ _ (data_extract b l h)⟩
    · trivial
  · rename_i e sz rows hu
    obtain ⟨rfl, rfl⟩ := hx.nilsl_inv
    split
    · rename_i n hn
      refine sliceB_sat (P := P) (isSlice := true) (cap := 0) (Nat.le_refl _) (Nat.le_refl _) h1 h2 h3 (fun l h m g1 g2 g3 g4 g5 => ?_)
      obtain rfl : h = 0 := by omega
      obtain rfl : l = 0 := by omega
      have hm : m.getD 0 = 0 := by cases m with | none => rfl | some x => have := g3 x rfl; simp; omega
      rw [hm] at g5
      exact SatV.pure hi ⟨.slice none 0 0, by simp [Instr.sliceAt, Instr.slice, run_underlying hu, g5, szOf_some hn], .nilsl _⟩
    · trivial
  · rename_i e sz rows hu
    split
    · rename_i n hn
      split
      · rename_i hsz
        subst hsz
        cases hx with
        | nilsl2 =>
          refine sliceB_sat (P := P) (isSlice := true) (cap := 0) (Nat.le_refl _) (Nat.le_refl _) h1 h2 h3 (fun l h m g1 g2 g3 g4 g5 => ?_)
          obtain rfl : h = 0 := by omega
          obtain rfl : l = 0 := by omega
          have hm : m.getD 0 = 0 := by cases m with | none => rfl | some x => have := g3 x rfl; simp; omega
          rw [hm] at g5
          show SatV P w Im φ σ _ (.ok (.sl false sz ((([] : List (List D)).take 0).drop 0)) σ)
          exact SatV.pure hi ⟨.slice none 0 0, by simp [Instr.sliceAt, Instr.slice, run_underlying hu, g5, szOf_some hn], .nilsl2 _⟩
        | sl _ _ c base cap vf a ha a1 a2 a3 a4 a5 =>
          refine sliceB_sat (P := P) (isSlice := true) (cap := cap) a3 (Nat.le_refl _) h1 h2 h3 (fun l h m g1 g2 g3 g4 g5 => ?_)
          have hlen : ((rows.take h).drop l).length = h - l := by simp; omega
          have hm : h ≤ m.getD cap := by cases m with | none => simp; omega | some x => have := g3 x rfl; simp; omega
          show SatV P w Im φ σ _ (.ok (.sl false sz ((rows.take h).drop l)) σ)
          refine SatV.pure hi ⟨.slice (some (if m.getD cap = l then a else a.add (l * sz))) ((rows.take h).drop l).length (m.getD cap - l), ?_, ?_⟩
          · rw [hlen]
            by_cases hq : m.getD cap = l
            · simp [Instr.sliceAt, Instr.slice, run_underlying hu, g5, szOf_some hn, hq]
            · simp [Instr.sliceAt, Instr.slice, run_underlying hu, g5, szOf_some hn, hq]
          · have hget : ∀ (i : Nat) (r : List D), ((rows.take h).drop l)[i]? = some r → m.getD cap ≠ l ∧ rows[l + i]? = some r := fun i r hr => by
              have hlt := (List.getElem?_eq_some_iff.1 hr).1
              rw [hlen] at hlt
              rw [List.getElem?_drop, List.getElem?_take, if_pos (by omega)] at hr
              exact ⟨by omega, hr⟩
            refine .sl sz _ c (base + l * sz) _ (fun i j => vf (l + i) j) _ (fun hne => ?_) (fun hne => a1 (fun e => hne (by rw [e]; simp))) (fun r hr => a2 r (List.mem_of_mem_take (List.mem_of_mem_drop hr))) (by rw [hlen]; omega) (fun i j r d b1 b2 => ?_) (fun i j r d b1 b2 => ?_)
            · have h8 := List.length_pos_iff.2 hne
              rw [hlen] at h8
              rw [if_neg (by omega), ha (fun e => hne (by rw [e]; simp)), addr_mul]
            · obtain ⟨c1, c2⟩ := hget i r b1
              have := a4 (l + i) j r d c2 b2
              rw [Nat.add_mul] at this
              rw [show base + l * sz + i * sz + j = base + (l * sz + i * sz) + j by omega]; exact this
            · obtain ⟨c1, c2⟩ := hget i r b1
              exact a5 (l + i) j r d c2 b2
      · trivial
    · trivial
  · rename_i e b i len lob ex hu
    split
    · rename_i n B hn hB
      split
      · rename_i hsz
        obtain ⟨l, hl, ⟨rfl, rfl, rfl⟩ | ⟨cap, ad, rfl, a1, a2, a3, a4, a6, a5⟩⟩ := hx.msl_inv
        · refine sliceB_sat (P := P) (isSlice := true) (cap := 0) (Nat.le_refl _) (Nat.le_refl _) h1 h2 h3 (fun lo' h m g1 g2 g3 g4 g5 => ?_)
          obtain rfl : h = 0 := by omega
          obtain rfl : lo' = 0 := by omega
          have hm : m.getD 0 = 0 := by cases m with | none => rfl | some x => have := g3 x rfl; simp; omega
          have hm' : m = none ∨ m = some 0 := by cases m with | none => exact .inl rfl | some x => simp at hm; exact .inr (by rw [hm])
          rw [hm] at g5
          refine SatV.pure hi ⟨.slice none 0 0, by simp [Instr.sliceAt, Instr.slice, run_underlying hu, g5, szOf_some hn], ?_⟩
          rcases hm' with rfl | rfl
          · exact .mnil _ _ _ l hl
          · exact .mnil _ _ _ l hl
        obtain ⟨l', hl', hk⟩ := hi.loc hB
        obtain rfl := Option.some.inj (hl.symm.trans hl')
        have hls : l.sz = n := by rw [hk.sz, hsz]
        refine sliceB_sat (P := P) (isSlice := true) (cap := cap) a2 a1 h1 h2 h3 (fun lo' h m g1 g2 g3 g4 g5 => ?_)
        have hm : h ≤ m.getD cap ∧ m.getD cap ≤ cap := by cases m with | none => simp; omega | some x => have := g3 x rfl; simp; omega
        refine SatV.pure hi ⟨.slice (some (if m.getD cap = lo' then ad else ad.add (lo' * n))) (h - lo') (m.getD cap - lo'), ?_, ?_⟩
        · by_cases hq : m.getD cap = lo'
          · simp [Instr.sliceAt, Instr.slice, run_underlying hu, g5, szOf_some hn, hq]
          · simp [Instr.sliceAt, Instr.slice, run_underlying hu, g5, szOf_some hn, hq]
        · have hspot : (if m.getD cap = lo' then ad else ad.add (lo' * n)).spot = none := by split; exact a6; unfold Addr.add; split; exact a6; rfl
          have had : m.getD cap - lo' ≠ 0 → (if m.getD cap = lo' then ad else ad.add (lo' * n)) = ⟨l.blk, l.base + (i + lo') * l.sz, none⟩ := fun hne => by
            rw [if_neg (by omega), a5 (by omega), addr_mul, hls, Nat.add_mul, Nat.add_assoc]
          cases m with
          | none =>
            refine .msl b (i + lo') (h - lo') (lob - lo') ex l _ _ hl (by omega) (by simp; omega) (fun he => by have := a3 he; simp; omega) ?_ ?_ had
            simp only [Option.getD_none]
            rw [show i + lo' + (cap - lo') = i + cap by simp at hm; omega]; exact a4
            exact hspot
          | some x =>
            have := g3 x rfl
            refine .msl b (i + lo') (h - lo') (x - lo') true l _ _ hl (by omega) (by simp) (fun he => by simp) ?_ hspot had
            simp only [Option.getD_some] at hm ⊢
            have h9 := Nat.mul_le_mul_right l.sz (show i + lo' + (x - lo') ≤ i + cap by omega)
            omega
      · trivial
    · trivial
  · rename_i n e b i o hu
    split
    · rename_i sz B hn hB
      split
      · rename_i hc
        obtain ⟨hsz, rfl, hin⟩ := hc
        obtain ⟨l, hl, rfl⟩ := hx.ptr_inv
        obtain ⟨l', hl', hk⟩ := hi.loc hB
        obtain rfl := Option.some.inj (hl.symm.trans hl')
        have hls : l.sz = sz := by rw [hk.sz, hsz]
        refine sliceB_sat (P := P) (isSlice := false) (cap := n) (Nat.le_refl _) (Nat.le_refl _) h1 h2 h3 (fun lo' h m g1 g2 g3 g4 g5 => ?_)
        have hm : h ≤ m.getD n ∧ m.getD n ≤ n := by cases m with | none => simp; omega | some x => have := g3 x rfl; simp; omega
        refine SatV.pure hi ⟨.slice (some (if m.getD n = lo' then ⟨l.blk, l.base + i * l.sz + 0, none⟩ else (⟨l.blk, l.base + i * l.sz + 0, none⟩ : Addr).add (lo' * sz))) (h - lo') (m.getD n - lo'), ?_, ?_⟩
        · by_cases hq : m.getD n = lo'
          · simp [Instr.sliceAt, Instr.sureAddr, run_underlying hu, g5, szOf_some hn, hq]
          · simp [Instr.sliceAt, Instr.sureAddr, run_underlying hu, g5, szOf_some hn, hq]
        · refine .msl b (i + lo') (h - lo') (m.getD n - lo') true l _ _ hl (by omega) (Nat.le_refl _) (fun _ => rfl) ?_ (by split; rfl; rw [addr_mul]) (fun hne => ?_)
          · have h8 := hk.fit
            have h9 := Nat.mul_le_mul_right l.sz (show i + lo' + (m.getD n - lo') ≤ B.rows.length by omega)
            rw [hk.sz] at h9 ⊢
            omega
          · rw [if_neg (by omega), addr_mul, hls, Nat.add_mul, Nat.add_zero, Nat.add_assoc]
      · trivial
    · trivial
  · trivial
end
end Go.RX

namespace Go.RX
open Go
section
variable {P : Program} {w : World} {Im : Nat → Prop} {φ : Phi} {σ : Sto}
theorem foldl_set (off : Nat) : ∀ (l : List Value) (k : Nat) (cs : Array Value), off + k + l.length ≤ cs.size →
    ((l.zipIdx k).foldl (fun cs (x : Value × Nat) => cs.setIfInBounds (off + x.2) x.1) cs).size = cs.size ∧
    ∀ p, ((l.zipIdx k).foldl (fun cs (x : Value × Nat) => cs.setIfInBounds (off + x.2) x.1) cs)[p]? = if off + k ≤ p ∧ p < off + k + l.length then l[p - off - k]? else cs[p]?
  | [], k, cs, h => ⟨rfl, fun p => by simp; intro h1 h2; omega⟩
  | v :: l, k, cs, h => by
    simp only [List.length_cons] at h
    obtain ⟨h1, h2⟩ := foldl_set off l (k + 1) (cs.setIfInBounds (off + k) v) (by rw [Array.size_setIfInBounds]; omega)
    simp only [List.zipIdx_cons, List.foldl_cons, List.length_cons]
    refine ⟨by rw [h1]; simp, fun p => ?_⟩
    rw [h2]
    by_cases hp : p = off + k
    · subst hp
      rw [if_neg (by omega), if_pos (by omega)]
      rw [show off + k - off - k = 0 by omega]
      simp [show off + k < cs.size by omega]
    · by_cases hq : off + k ≤ p ∧ p < off + k + (l.length + 1)
      · rw [if_pos (by omega), if_pos hq, show p - off - k = (p - off - (k + 1)) + 1 by omega]
        simp
      · rw [if_neg (by omega), if_neg hq]
        rw [Array.getElem?_setIfInBounds_ne (by omega)]
theorem fold_cells (off : Nat) (v cs : Array Value) (h : off + v.size ≤ cs.size) :
    (v.zipIdx.foldl (fun cs (x : Value × Nat) => cs.setIfInBounds (off + x.2) x.1) cs).size = cs.size ∧
    ∀ p, (v.zipIdx.foldl (fun cs (x : Value × Nat) => cs.setIfInBounds (off + x.2) x.1) cs)[p]? = if off ≤ p ∧ p < off + v.size then v[p - off]? else cs[p]? := by
  have := foldl_set off v.toList 0 cs (by simpa using h)
  rw [← Array.foldl_toList]
  simpa using this
variable (w Im φ) in
def CellsRel (ds : List D) (vs : Array Value) : Prop := ds.length = vs.size ∧ ∀ (i : Nat) (d : D) (v : Value), ds[i]? = some d → vs[i]? = some v → Rel w Im φ d v
theorem fill_run (place : Nat → Option (Nat × Nat)) :
    ∀ (parts : List (Nat × D)) (vparts : List (Nat × Value)) (ds : List D) (vs : Array Value) (ds' : List D), parts.length = vparts.length →
      (∀ (i : Nat) (x : Nat × D) (y : Nat × Value), parts[i]? = some x → vparts[i]? = some y → x.1 = y.1 ∧ Rel w Im φ x.2 y.2) → CellsRel w Im φ ds vs → fillD place ds parts = some ds' →
      ∃ vs', Instr.fill place vs vparts = some vs' ∧ CellsRel w Im φ ds' vs'
  | [], [], ds, vs, ds', _, _, hc, h => by simp [fillD] at h; subst h; exact ⟨vs, rfl, hc⟩
  | (i, d) :: parts, (i', v) :: vparts, ds, vs, ds', hl, hr, hc, h => by
    obtain ⟨h0, hdv⟩ := hr 0 (i, d) (i', v) rfl rfl
    simp only at h0 hdv
    subst h0
    simp only [fillD] at h
    split at h
    · rename_i cs off size h1 h2
      split at h
      · rename_i hcond
        obtain ⟨hc1, hc2⟩ := hcond
        obtain ⟨g1, g2⟩ := rel_cells hdv h1
        have hvs : v.cells.size = size := by omega
        have hds := hc.1
        obtain ⟨g3, g4⟩ := fold_cells off v.cells vs (by omega)
        have hrec := fill_run place parts vparts (ds.take off ++ cs ++ ds.drop (off + size)) (v.cells.zipIdx.foldl (fun cs (x : Value × Nat) => cs.setIfInBounds (off + x.2) x.1) vs) ds'
          (by simpa using hl) (fun k x y a b => hr (k + 1) x y (by simpa using a) (by simpa using b)) ⟨by rw [g3]; simp; omega, fun k e u a b => by
            rw [g4] at b
            rcases splice_get rfl hc1 hc2 a with ⟨q1, q2, q3⟩ | ⟨q1, q2⟩
            · rw [if_pos (by omega)] at b
              exact g2 _ _ _ q3 b
            · rw [if_neg (by omega)] at b
              exact hc.2 _ _ _ q2 b⟩ h
        obtain ⟨vs', q1, q2⟩ := hrec
        refine ⟨vs', ?_, q2⟩
        simp only [Instr.fill, h2]
        rw [if_neg (by simp; omega)]
        exact q1
      · cases h
    · cases h
  | [], _ :: _, _, _, _, hl, _, _, _ => by simp at hl
  | _ :: _, [], _, _, _, hl, _, _, _ => by simp at hl
theorem zero_rel {t : TypeId} {z : D} (h : zeroD P t = some z) : ∃ i v, P.info? t = some i ∧ i.zero = some v ∧ Rel w Im φ z v := by
  obtain ⟨i, v, h1, h2, rfl⟩ := zeroD_some h
  exact ⟨i, v, h1, h2, rel_ofConst v⟩
theorem parts_rel {ρ : Operand → D} {ρc : Operand → Value} (hρ : ∀ x, Rel w Im φ (ρ x) (ρc x)) (parts : Array (Nat × Operand)) :
    (parts.toList.map fun p => (p.1, ρ p.2)).length = (parts.map fun (i, x) => (i, ρc x)).toList.length ∧
    ∀ (i : Nat) (x : Nat × D) (y : Nat × Value), (parts.toList.map fun p => (p.1, ρ p.2))[i]? = some x → (parts.map fun (i, x) => (i, ρc x)).toList[i]? = some y → x.1 = y.1 ∧ Rel w Im φ x.2 y.2 := by
  refine ⟨by simp, fun i x y h1 h2 => ?_⟩
  simp only [Array.toList_map, List.getElem?_map, Option.map_eq_some_iff] at h1 h2
  obtain ⟨p, hp, rfl⟩ := h1
  obtain ⟨q, hq, rfl⟩ := h2
  obtain rfl := Option.some.inj (hp.symm.trans hq)
  exact ⟨rfl, hρ _⟩
theorem build_sat (hi : Inv w Im φ σ) {t : TypeId} {parts : List (Nat × D)} {vparts : Array (Nat × Value)} (hl : parts.length = vparts.toList.length)
    (hr : ∀ (i : Nat) (x : Nat × D) (y : Nat × Value), parts[i]? = some x → vparts.toList[i]? = some y → x.1 = y.1 ∧ Rel w Im φ x.2 y.2) :
    SatV P w Im φ σ (Instr.build t vparts) (ARes.opt (buildD P t parts) σ) := by
  refine SatV.opt hi fun d hd => ?_
  unfold buildD at hd
  split at hd
  · rename_i it n e h1 h2
    split at hd
    · rename_i z ie h3 h4
      split at hd
      · rename_i zc h5
        simp only [Option.map_eq_some_iff] at hd
        obtain ⟨ds', hf, rfl⟩ := hd
        obtain ⟨vs', q1, q2⟩ := fill_run _ parts vparts.toList zc z.cells ds' hl hr (rel_cells (rel_ofConst z) h5) hf
        exact ⟨.agg vs', run_build w t vparts vs' (by simp [Program.built, h1, h2, h3, h4, q1]), .agg _ _ q2.1 q2.2⟩
      · cases hd
    · cases hd
  · rename_i it fields h1 h2
    split at hd
    · rename_i z places h3 h4
      split at hd
      · rename_i zc h5
        simp only [Option.map_eq_some_iff] at hd
        obtain ⟨ds', hf, rfl⟩ := hd
        obtain ⟨vs', q1, q2⟩ := fill_run _ parts vparts.toList zc z.cells ds' hl hr (rel_cells (rel_ofConst z) h5) hf
        refine ⟨.agg vs', run_build w t vparts vs' ?_, .agg _ _ q2.1 q2.2⟩
        unfold Program.built
        simp only [h1, h2, h3, h4]
        exact q1
      · cases hd
    · cases hd
  · cases hd
/-! ### buildSlice, makeSlice -/
variable (w Im φ) in
def RowsRel (n : Nat) (rows : List (List D)) (cs : Array Value) : Prop :=
  (∀ r ∈ rows, r.length = n) ∧ cs.size = rows.length * n ∧ ∀ (i j : Nat) (r : List D) (d : D), rows[i]? = some r → r[j]? = some d → ∃ v, cs[i * n + j]? = some v ∧ Rel w Im φ d v
theorem repl_rows (n len : Nat) (zs : List D) (z : Array Value) (hz : CellsRel w Im φ zs z) (hn : zs.length = n) (hpos : 0 < n) :
    RowsRel w Im φ n (List.replicate len zs) ((Array.range (len * n)).map (z[· % z.size]!)) := by
  have hzs : z.size = n := by rw [← hz.1, hn]
  refine ⟨fun r hr => by rw [(List.mem_replicate.1 hr).2, hn], by simp, fun i j r d h1 h2 => ?_⟩
  rw [List.getElem?_replicate] at h1
  split at h1
  · rename_i hi
    obtain rfl := Option.some.inj h1
    have hj := (List.getElem?_eq_some_iff.1 h2).1
    rw [hn] at hj
    have hlt : i * n + j < len * n := row_lt hi hj
    have hm : (i * n + j) % n = j := by rw [Nat.add_comm, Nat.add_mul_mod_self_right, Nat.mod_eq_of_lt hj]
    refine ⟨z[j]'(by omega), ?_, hz.2 j d _ h2 (by simp)⟩
    rw [Array.getElem?_map, Array.getElem?_range, if_pos hlt]
    simp only [Option.map_some, hzs, hm, Option.some.injEq]
    exact getElem!_pos z j (by omega)
  · cases h1
theorem setParts_run (n : Nat) (hpos : 0 < n) : ∀ (parts : List (Nat × D)) (vparts : List (Nat × Value)) (rows : List (List D)) (vs : Array Value) (rows' : List (List D)), parts.length = vparts.length →
      (∀ (i : Nat) (x : Nat × D) (y : Nat × Value), parts[i]? = some x → vparts[i]? = some y → x.1 = y.1 ∧ Rel w Im φ x.2 y.2) → RowsRel w Im φ n rows vs → (∀ r ∈ rows, r.all scal = true) → setParts rows n parts = some rows' →
      (∃ vs', Instr.fill (fun i => some (i * n, n)) vs vparts = some vs' ∧ RowsRel w Im φ n rows' vs') ∧ rows'.length = rows.length ∧ ∀ r ∈ rows', r.all scal = true
  | [], [], rows, vs, rows', _, _, hc, hsc, h => by simp [setParts] at h; subst h; exact ⟨⟨vs, rfl, hc⟩, rfl, hsc⟩
  | (i, d) :: parts, (i', v) :: vparts, rows, vs, rows', hl, hr, hc, hsc, h => by
    obtain ⟨h0, hdv⟩ := hr 0 (i, d) (i', v) rfl rfl
    simp only at h0 hdv
    subst h0
    simp only [setParts] at h
    split at h
    · rename_i cs h1
      split at h
      · rename_i hcond
        obtain ⟨hc1, hc2, hc3⟩ := hcond
        obtain ⟨g1, g2⟩ := rel_cells hdv h1
        have hin : i * n + n ≤ rows.length * n := by
          have := Nat.mul_le_mul_right n (show i + 1 ≤ rows.length from hc2)
          rw [Nat.add_mul] at this; omega
        have hsz := hc.2.1
        obtain ⟨g3, g4⟩ := fold_cells (i * n) v.cells vs (by omega)
        have hrec := setParts_run n hpos parts vparts (rows.set i cs) (v.cells.zipIdx.foldl (fun cs (x : Value × Nat) => cs.setIfInBounds (i * n + x.2) x.1) vs) rows'
          (by simpa using hl) (fun k x y a b => hr (k + 1) x y (by simpa using a) (by simpa using b)) ⟨fun r hr => by
              rcases List.mem_or_eq_of_mem_set hr with hr | rfl
              · exact hc.1 r hr
              · exact hc1, by rw [g3]; simp; omega, fun k j r e a b => by
            rw [g4]
            rw [List.getElem?_set] at a
            have hj := (List.getElem?_eq_some_iff.1 b).1
            by_cases hik : i = k
            · subst hik
              rw [if_pos rfl, if_pos hc2] at a
              obtain rfl := Option.some.inj a
              refine ⟨v.cells[j]'(by omega), ?_, g2 j e _ b (by simp)⟩
              rw [if_pos (by omega), show i * n + j - i * n = j by omega]
              simp
            · rw [if_neg hik] at a
              have hrl := hc.1 r (List.mem_of_getElem? a)
              obtain ⟨u, hu, hur⟩ := hc.2.2 k j r e a b
              refine ⟨u, ?_, hur⟩
              rw [if_neg ?_]
              · exact hu
              · rintro ⟨q1, q2⟩
                rcases Nat.lt_or_ge k i with hlt | hge
                · have := row_lt (sz := n) (j := j) hlt (by omega); omega
                · have := Nat.mul_le_mul_right n (show i + 1 ≤ k by omega)
                  rw [Nat.add_mul] at this; omega⟩ (fun r hr => by
              rcases List.mem_or_eq_of_mem_set hr with hr | rfl
              · exact hsc r hr
              · exact hc3) h
        obtain ⟨⟨vs', q1, q2⟩, q3, q4⟩ := hrec
        refine ⟨⟨vs', ?_, q2⟩, by rw [q3]; simp, q4⟩
        simp only [Instr.fill]
        rw [if_neg (by simp; omega)]
        exact q1
      · cases h
    · cases h
  | [], _ :: _, _, _, _, hl, _, _, _, _ => by simp at hl
  | _ :: _, [], _, _, _, hl, _, _, _, _ => by simp at hl
theorem newRow_good (hi : Inv w Im φ σ) {n : Nat} (hn : 0 < n) {rows : List (List D)} {cs : Array Value} {e : TypeId} (fz : Nat × Nat) (hfz : fz.1 = fz.2 ∨ cs.size ≤ fz.1)
    (hlen : ∀ r ∈ rows, r.length = n) (hfit : rows.length * n ≤ cs.size)
    (hrel : ∀ (i j : Nat) (r : List D) (d : D), rows[i]? = some r → r[j]? = some d → ∃ v, cs[i * n + j]? = some v ∧ Rel w Im φ d v)
    (hsc : ∀ r ∈ rows, r.all scal = true) (dp : Bool) (hdp : ∀ r ∈ rows, r.any hasRef1 = true → dp = true) (len cap lo : Nat) (ex : Bool) (h1 : len ≤ lo) (h2 : lo ≤ cap) (h3 : ex = true → cap = lo) (h4 : cap * n ≤ cs.size) :
    Good w Im φ σ (w.alloc (.cells cs e fz)) (φ ++ [⟨w.heap.size, 0, n, cs.size⟩]) (σ ++ [some ⟨n, dp, rows⟩]) (.msl σ.length 0 len lo ex) (.slice (some ⟨w.heap.size, 0, none⟩) len cap) := by
  obtain ⟨a1, a2⟩ := hi.alloc cs e fz ⟨n, dp, rows⟩ hn hfz (fun r hr => ⟨hlen r hr, hsc r hr⟩) hfit (fun i j r d h5 h6 => by
    obtain ⟨v, hv, hr⟩ := hrel i j r d h5 h6
    have hm := List.mem_of_getElem? h5
    exact ⟨v, hv, rel_flag (hsc r hm) (hdp r hm) h6 hr⟩)
  exact ⟨PhiLe.append _ _, a2, a1, .msl _ _ _ _ _ _ _ _ (phi_self hi.len _) h1 h2 h3 (by simpa using h4) rfl (fun _ => by simp)⟩
theorem buildSlice_sat (hi : Inv w Im φ σ) {t : TypeId} {len : Nat} {parts : List (Nat × D)} {vparts : Array (Nat × Value)} (hl : parts.length = vparts.toList.length)
    (hr : ∀ (i : Nat) (x : Nat × D) (y : Nat × Value), parts[i]? = some x → vparts.toList[i]? = some y → x.1 = y.1 ∧ Rel w Im φ x.2 y.2) :
    SatV P w Im φ σ (Instr.buildSlice t len vparts) (buildSliceD P t len parts σ) := by
  unfold buildSliceD
  split
  · rename_i e hu
    split
    · rename_i n zs hn hzs
      split
      · rename_i hc
        obtain ⟨hc1, hc2, hc3, hc4⟩ := hc
        cases hz : zeroD P e with
        | none => simp [hz] at hzs
        | some z =>
          obtain ⟨ie, zv, g1, g2, g3⟩ := zero_rel (w := w) (Im := Im) (φ := φ) hz
          simp only [hz, Option.bind_some] at hzs
          have hzr := rel_cells g3 hzs
          have hien : ie.size = n := by unfold szOf at hn; simpa [g1] using hn
          split
          · rename_i rows hrows
            have hrep : ∀ r ∈ List.replicate len zs, r.all scal = true := fun r hr => by rw [(List.mem_replicate.1 hr).2]; exact hc3
            obtain ⟨⟨vs', q1, q2⟩, q3, q4⟩ := setParts_run n hc2 parts vparts.toList (List.replicate len zs) _ rows hl hr (repl_rows n len zs zv.cells hzr hc1 hc2) hrep hrows
            have hrl : rows.length = len := by rw [q3]; simp
            have hvs : vs'.size = len * n := by rw [q2.2.1, hrl]
            refine ⟨_, _, _, ?_, newRow_good (e := e) hi (by omega) (0, 0) (.inl rfl) q2.1 (by rw [q2.2.1]; exact Nat.le_refl _) q2.2.2 q4 _ (fun r hr h => List.any_eq_true.2 ⟨r, hr, h⟩) len len len true (Nat.le_refl _) (Nat.le_refl _) (fun _ => rfl) (by rw [hvs]; exact Nat.le_refl _)⟩
            · by_cases h0 : len = 0
              · subst h0
                have : vs' = #[] := by
                  apply Array.eq_empty_of_size_eq_zero
                  rw [hvs]; simp
                subst this
                have q1' : Instr.fill (fun i => some (i * n, n)) #[] vparts.toList = some #[] := by simpa [show Array.range 0 = #[] from rfl] using q1
                simp [Instr.buildSlice, run_underlying hu, szOf_some hn, newRow, q1', show Array.range 0 = #[] from rfl]
              · exact run_buildSlice w t e len vparts vs' ie zv hu g1 g2 (by rw [hien]; omega) (by rw [hien]; exact Nat.mul_ne_zero h0 (by omega)) (by rw [hien]; exact q1)
          · trivial
      · trivial
    · trivial
  · trivial
theorem wrap_nat {n : Int} (h0 : 0 ≤ n) (h1 : n ≤ 9223372036854775807) : IntKind.i64.wrap n = n := IntWalk.i64_in n (by omega)
theorem byOf_some {t : TypeId} {n : Nat} (h : byOf P t = some n) : ∃ i, P.info? t = some i ∧ i.bytes = n := by
  unfold byOf at h
  cases hi : P.info? t with
  | none => simp [hi] at h
  | some i => simp [hi] at h; exact ⟨i, rfl, h⟩
theorem fixZ_rel {zs : List D} {vs : Array Value} (ss : List (Option Nat)) (h : CellsRel w Im φ zs vs) : CellsRel w Im φ (fixZ zs ss) vs := by
  have key : ∀ (zs : List D) (ss : List (Option Nat)), (fixZ zs ss).length = zs.length ∧ ∀ (i : Nat) (d' : D), (fixZ zs ss)[i]? = some d' → ∃ d, zs[i]? = some d ∧ (d' = d ∨ ∃ a n, d = .sl true a [] ∧ d' = .sl false n []) := by
    intro zs ss
    fun_induction fixZ zs ss with
    | case1 => exact ⟨rfl, fun i d' h => by simp at h⟩
    | case2 sz r n q ih =>
      refine ⟨by simp [ih.1], fun i d' h => ?_⟩
      cases i with
      | zero => simp at h; exact ⟨_, rfl, .inr ⟨_, _, rfl, h.symm⟩⟩
      | succ i => simpa using ih.2 i d' (by simpa using h)
    | case3 z r s q _ ih =>
      refine ⟨by simp [ih.1], fun i d' h => ?_⟩
      cases i with
      | zero => simp at h; exact ⟨_, rfl, .inl h.symm⟩
      | succ i => simpa using ih.2 i d' (by simpa using h)
    | case4 z r => exact ⟨rfl, fun i d' h => ⟨d', h, .inl rfl⟩⟩
  refine ⟨by rw [(key zs ss).1]; exact h.1, fun i d' v h1 h2 => ?_⟩
  obtain ⟨d, h3, h4⟩ := (key zs ss).2 i d' h1
  have hr := h.2 i d v h3 h2
  rcases h4 with rfl | ⟨a, n, rfl, rfl⟩
  · exact hr
  · obtain ⟨hv, _⟩ := hr.nilsl_inv
    subst hv
    exact .nilsl2 _
theorem zrow_rel {t : TypeId} {zs : List D} (h : zrow P t = some zs) : ∃ i v, P.info? t = some i ∧ i.zero = some v ∧ CellsRel w Im φ zs v.cells := by
  unfold zrow at h
  split at h
  · rename_i zs0 h0
    obtain rfl := Option.some.inj h
    cases hz : zeroD P t with
    | none => simp [hz] at h0
    | some z =>
      obtain ⟨i, v, g1, g2, g3⟩ := zero_rel (w := w) (Im := Im) (φ := φ) hz
      simp only [hz, Option.bind_some] at h0
      exact ⟨i, v, g1, g2, fixZ_rel _ (rel_cells g3 h0)⟩
  · cases h
theorem makeSlice_sat (hi : Inv w Im φ σ) {t : TypeId} {k k' : IntKind} {len cap : Int} {same : Bool} (hsame : same = true → len = cap) : SatV P w Im φ σ (Instr.makeSlice t (.int k len) (.int k' cap)) (makeSliceD P t same len cap σ) := by
  unfold makeSliceD
  split
  · rename_i e hu
    split
    · rename_i n by_ zs hn hb hzs
      split
      · rename_i hc
        obtain ⟨hc1, hc2, hc3⟩ := hc
        intro hcond
        simp only [Bool.and_eq_true, decide_eq_true_eq] at hcond
        obtain ⟨p1, p2, p3, p4⟩ := hcond
        have p4 : cap.toNat * by_ ≤ 140737488355328 := p4
        cases hz : zrow P e with
        | none => rw [hz] at hzs; cases hzs
        | some z =>
          obtain ⟨ie, zv, g1, g2, hzr⟩ := zrow_rel (w := w) (Im := Im) (φ := φ) hz
          have hzz : zs = z := Option.some.inj (hzs.symm.trans hz)
          subst hzz
          obtain ⟨ie', g4, g5⟩ := byOf_some hb
          obtain rfl := Option.some.inj (g1.symm.trans g4)
          have hrows := repl_rows (w := w) (Im := Im) (φ := φ) n cap.toNat zs zv.cells hzr hc1 hc2
          have hsize : ((Array.range (cap.toNat * n)).map (zv.cells[· % zv.cells.size]!)).size = cap.toNat * n := by simp
          have hien : ie.size = n := by unfold szOf at hn; simpa [g1] using hn
          have hbb : (ie.bytes : Int) * cap ≤ 140737488355328 := by
            have e1 : (ie.bytes : Int) * cap = ((cap.toNat * by_ : Nat) : Int) := by
              rw [g5, Int.natCast_mul, Int.toNat_of_nonneg (by omega : 0 ≤ cap), Int.mul_comm]
            rw [e1]; omega
          have fin : SatV P w Im φ σ (Instr.makeSlice t (.int k len) (.int k' cap)) (.ok (.msl σ.length 0 len.toNat cap.toNat true) (σ ++ [some ⟨n, zs.any hasRef1, List.replicate cap.toNat zs⟩])) → SatV P w Im φ σ (Instr.makeSlice t (.int k len) (.int k' cap)) (bif same then .ok (.msl σ.length 0 (List.replicate cap.toNat zs).length (List.replicate cap.toNat zs).length true) (σ ++ [some ⟨n, zs.any hasRef1, List.replicate cap.toNat zs⟩]) else .ok (.msl σ.length 0 len.toNat cap.toNat true) (σ ++ [some ⟨n, zs.any hasRef1, List.replicate cap.toNat zs⟩])) := fun h => by
            cases same with
            | false => exact h
            | true => rw [hsame rfl] at h ⊢; simpa using h
          refine fin ?_
          refine ⟨_, _, _, ?_, newRow_good (e := e) hi (by omega) (0, 0) (.inl rfl) hrows.1 (by rw [hsize]; simp) hrows.2.2 (fun r hr => by rw [(List.mem_replicate.1 hr).2]; exact hc3) (zs.any hasRef1)
            (fun r hr h => by rw [(List.mem_replicate.1 hr).2] at h; exact h) len.toNat cap.toNat cap.toNat true (by omega) (Nat.le_refl _) (fun _ => rfl) (by rw [hsize]; exact Nat.le_refl _)⟩
          have hw1 := wrap_nat p1 (by omega : len ≤ 9223372036854775807)
          have hw2 := wrap_nat (by omega : 0 ≤ cap) p3
          have hbl : (ie.bytes : Int) * len ≤ 140737488355328 := Int.le_trans (Int.mul_le_mul_of_nonneg_left p2 (by omega)) hbb
          have t1 : ¬ (ie.bytes : Int) * cap > 281474976710656 := by omega
          have t3 : ¬ cap.toNat * ie.bytes > 140737488355328 := by rw [g5]; omega
          have c1 : ¬ cap < 0 := by omega
          have c2 : ¬ len < 0 := by omega
          have c3 : ¬ len > cap := by omega
          simp only [Instr.makeSlice, Sem.run_bind, run_underlying hu, Result.andThen_ok, asInt, asIntOf, Sem.run_pure, typeInfo, g1, run_program, hw1, hw2]
          by_cases h0 : cap.toNat * n = 0
          · simp [t1, t3, c1, c2, c3, askRoom, roomBytes, sizeOf, typeInfo, g1, hien, h0, newRow, show Array.range 0 = #[] from rfl]
          · simp [t1, t3, c1, c2, c3, askRoom, roomBytes, sizeOf, typeInfo, g1, hien, h0, newRow, zeroValue, g2]
      · trivial
    · trivial
  · trivial
end
end Go.RX
