/-
  Words and walks for LeaseOne. No condition.
-/
import Derived.Orders
import Derived.Tactics
import Derived.KernelRfl
import Derived.Laws.IdiomCopy
import Derived.Laws.NewBlocks
import Derived.Deep.AppendSrc
import Derived.Room.Entries
import Derived.Deep.MidRow
import Derived.Laws.StructEq
import Derived.Laws.Slices
import Derived.Great.BuildSlice
import Derived.Laws.Tables
import Derived.IntWalk
import Derived.Laws.BytesString
import Derived.Laws.Small
import Derived.Deep.Upon
set_option linter.unusedSectionVars false
set_option linter.unnecessarySimpa false
namespace Go.RX
/-- Abstract data: scalars, immutable slices as rows of cells ('sl'), pointers to local blocks ('ptr', 'msl'), pointers into immutable memory ('iptr'). -/
inductive D where
  | undef
  | bool (b : Bool)
  | int (k : IntKind) (n : Int)
  | str (s : List UInt8)
  | nilp
  | ptr (b i o : Nat)
  | iptr (sz : Nat) (rows : List (List D)) (i o : Nat)
  | sl (nl : Bool) (sz : Nat) (rows : List (List D))
  | msl (b i len lo : Nat) (ex : Bool)
  | fn (f : FuncId) (first caps : List D)
  | nilfn
  | agg (cs : List D)
  | tup (vs : List D)
  | iface (t : TypeId) (v : D)
  | nili
  | yld (l : Nat)
  | arr (cs : List D)
  deriving Inhabited
structure A5 where
 sz:Nat
 deep:Bool
 rows:List (List D)
abbrev i4:=List (Option A5)
abbrev Fr:=List (Nat×D)
def o5:Fr→Nat→D
 | [],_=> .undef
 | x::r,t=>bif Nat.beq x.1 t then x.2 else o5 r t
def ai4 (fr:Fr) (t:Nat) (d:D):Fr:=(t,d)::fr
def sget (σ:i4) (b:Nat):Option A5:=match σ[b]? with | some (some B)=>some B | _=>none
def t9:D→Bool
 | .undef | .agg _ | .tup _ | .arr _=>false
 | _=>true
def r6:D→Bool
 | .ptr .. | .msl .. =>true
 | .fn _ first caps=> !(first.isEmpty&&caps.isEmpty)
 | .iface .. =>true
 | _=>false
def bI6:Value→D
 | .bool b=> .bool b
 | .int k n=> .int k n
 | .string s=> .str s.data.toList
 | .pointer none=> .nilp
 | .slice none 0 0=> .sl true 0 []
 | .func (.func f) first caps=>if first.size=0∧caps.size=0 then .fn f [] [] else .undef
 | .nilFunc=> .nilfn
 | .nilIface=> .nili
 | _=> .undef
def aD1:Value→D
 | .agg cs=> .agg (cs.toList.map bI6)
 | v=>bI6 v
def C4 (gl:Nat→D) (fr:Fr):Operand→D
 | .tmp t=>o5 fr t
 | .const v=>aD1 v
 | .global g=>gl g
 | .func f=> .fn f [] []
def U7:D→Option (List D)
 | .agg cs=>some cs
 | .undef | .tup _ | .arr _=>none
 | d=>some [d]
inductive p9 where
 | ok (d:D) (σ:i4)
 | need (b:Bool) (k:p9)
 | split (b:Bool) (k:Bool→p9)
 | row (r:Option (List D)) (k:List D→p9)
 | rows (r:List (List D)) (k:List (List D)→p9)
 | str (r:Option (List UInt8)) (k:List UInt8→p9)
 | any (p:Bool) (k:Bool→p9)
 | call (f:FuncId) (args:List D)
 | yld (l:Nat) (args:List D)
 | bad
def p9.opt (o:Option D) (σ:i4):p9:=match o with | some d=> .ok d σ | none=> .bad
section
variable (P : Program)
def K7 (t:TypeId):Option Nat:=(P.info? t).map (·.size)
def ci7 (t:TypeId):Option Nat:=(P.info? t).map (·.bytes)
def cU8:TypeDesc→Bool
 | .struct _=>true
 | .array _ _=>true
 | _=>false
def bP8 (t:TypeId):Option (Nat×Bool):=match K7 P t,P.underlying t with | some n,some d=>some (n,cU8 d) | _,_=>none
def ar9 (t:TypeId):Option D:=match (P.info? t).bind (·.zero) with | some v=>some (aD1 v) | none=>none
def da2 (t:TypeId):Option Nat:=match P.underlying t with | some (.array _ e)=>K7 P e | _=>K7 P t
def ae1 (sz:Nat):Nat→List D→List (List D)
 | 0,_=> []
 | n+1,cs=>cs.take sz::ae1 sz n (cs.drop sz)
def ce9 (t:TypeId) (d:D):Option A5:=
 match U7 d,K7 P t,da2 P t with
 | some cs,some n,some sz=>
  if cs.length=n∧cs.all t9=true∧0<sz∧n=n/sz*sz then some ⟨sz,cs.any r6,ae1 sz (n/sz) cs⟩ else none
 | _,_,_=>none
def aI8 (t:TypeId) (d:D) (σ:i4):p9:=
 match ce9 P t d with
 | some B=> .ok (.ptr σ.length 0 0) (σ++ [some B])
 | none=> .bad
/-! loads and stores -/
def as3 (rows:List (List D)) (sz i o n:Nat) (ag:Bool) (σ:i4):p9:=
 if o+n≤sz then
  .row rows[i]? fun r=>if ag then (if r.length=sz then .ok (.agg ((r.drop o).take n)) σ else .bad) else (if n=1 then .opt r[o]? σ else .bad)
 else if o=0∧ag=true∧0<sz∧n=n/sz*sz then
  .need (Nat.ble (i+n/sz) rows.length) (.rows ((rows.drop i).take (n/sz)) fun rs=> .ok (.agg rs.flatten) σ)
 else .bad
def aq9 (t:TypeId) (p:D) (σ:i4):p9:=
 match bP8 P t with
 | none=> .bad
 | some (n,ag)=>
  match p with
  | .ptr b i o=>match sget σ b with
   | some B=>as3 B.rows B.sz i o n ag σ
   | none=> .bad
  | .iptr sz rows i o=>as3 rows sz i o n ag σ
  | _=> .bad
def bG7 (t:TypeId) (p v:D) (σ:i4):p9:=
 match K7 P t,U7 v,p with
 | some n,some cs,.ptr b i o=>
  match sget σ b with
  | some B=>
   if cs.length=n∧cs.all t9=true then
    if o+n≤B.sz then
     .row B.rows[i]? fun r=> .rows (B.rows.set i (r.take o++cs++r.drop (o+n))) fun rs=> .ok .undef (σ.set b (some ⟨B.sz,B.deep || cs.any r6,rs⟩))
    else if o=0∧0<B.sz∧n=n/B.sz*B.sz then
     .need (Nat.ble (i+n/B.sz) B.rows.length)
      (.rows (B.rows.take i++ae1 B.sz (n/B.sz) cs++B.rows.drop (i+n/B.sz)) fun rs=> .ok .undef (σ.set b (some ⟨B.sz,B.deep || cs.any r6,rs⟩)))
    else .bad
   else .bad
  | none=> .bad
 | _,_,_=> .bad
/-! integers -/
def iop (op:BinOp) (k:IntKind) (x y:Int):Option D:=
 match op with
 | .add=>some (.int k (k.wrap (x+y)))
 | .sub=>some (.int k (k.wrap (x-y)))
 | .mul=>some (.int k (k.wrap (x*y)))
 | .and=>some (.int k (k.wrap ((BitVec.ofInt k.bits x&&&BitVec.ofInt k.bits y).toNat:Int)))
 | .or=>some (.int k (k.wrap ((BitVec.ofInt k.bits x ||| BitVec.ofInt k.bits y).toNat:Int)))
 | .xor=>some (.int k (k.wrap ((BitVec.ofInt k.bits x^^^BitVec.ofInt k.bits y).toNat:Int)))
 | .andNot=>some (.int k (k.wrap ((BitVec.ofInt k.bits x&&&~~~ BitVec.ofInt k.bits y).toNat:Int)))
 | .eql=>some (.bool (x==y))
 | .neq=>some (.bool (x !=y))
 | .lss=>some (.bool (decide (x<y)))
 | .leq=>some (.bool (decide (x≤y)))
 | .gtr=>some (.bool (decide (x>y)))
 | .geq=>some (.bool (decide (x≥y)))
 | _=>none
def bb6 (op:BinOp) (k k' :IntKind) (x y:Int) (σ:i4):p9:=
 match op with
 | .shl=> .need (!decide (y<0)) (.ok (.int k (k.wrap (x*2^(min y.toNat k.bits)))) σ)
 | .shr=> .need (!decide (y<0)) (.ok (.int k (x.fdiv (2^(min y.toNat k.bits)))) σ)
 | .quo=>if k=k' then .need (!decide (y=0)) (.ok (.int k (k.wrap (x.tdiv y))) σ) else .bad
 | .rem=>if k=k' then .need (!decide (y=0)) (.ok (.int k (x.tmod y)) σ) else .bad
 | op=>if k=k' then .opt (iop op k x y) σ else .bad
def aH0 (t:TypeId) (cs:List D) (off:Nat):Option D:=
 match bP8 P t with
 | some (n,ag)=>if ag then some (.agg ((cs.drop off).take n)) else cs[off]?
 | none=>none
def bs6 (t:TypeId) (cs:List D) (off:Nat) (σ:i4):p9:=
 match bP8 P t with
 | some (n,ag)=>if ag then .ok (.agg ((cs.drop off).take n)) σ else .row ((cs[off]?).map fun d=> [d]) fun r=> .opt r[0]? σ
 | none=> .bad
def bf0:List (Option Bool)→Option Bool
 | []=>some true
 | some b::r=>match bf0 r with | some c=>some (b&&c) | none=>none
 | none::_=>none
def deq : Nat → TypeId → D → D → Option Bool
  | 0, _, _, _ => none
  | n + 1, t, x, y =>
    match P.underlying t, x, y with
    | some .bool, .bool a, .bool b => some (a == b)
    | some (.int _), .int k a, .int k' b => if k = k' then some (a == b) else none
    | some .string, .str a, .str b => some (a == b)
    | some (.struct fields), .agg xs, .agg ys =>
      if P.stoodInHeld t then none
      else bf0 (fields.toList.map fun f => if f.name ≠ "_" then (match aH0 P f.type xs f.offset, aH0 P f.type ys f.offset with | some a, some b => deq n f.type a b | _, _ => none) else some true)
    | some (.array len e), .agg xs, .agg ys =>
      match K7 P e with
      | some m => bf0 ((List.range len).map fun i => match aH0 P e xs (i * m), aH0 P e ys (i * m) with | some a, some b => deq n e a b | _, _ => none)
      | none => none
    | _, _, _ => none
def bd7 (t:TypeId):D→Bool
 | .agg _=>P.eqGuardType P.depth t
 | _=>false
def ch0 (t:TypeId) (x y:D):Option Bool:=
 match y with
 | .sl true _ _=>(match x,P.underlying t with | .sl true _ _,some (.slice _)=>some true | _,_=>none)
 | .nilp=>(match x,P.underlying t with | .nilp,some (.pointer _)=>some true | .ptr ..,some (.pointer _)=>some false | .iptr ..,some (.pointer _)=>some false | _,_=>none)
 | .nilfn=>(match x,P.underlying t with | .nilfn,some (.func _ _ _)=>some true | .fn ..,some (.func _ _ _)=>some false | _,_=>none)
 | .nili=>(match x,P.underlying t with | .iface ..,some (.interface _)=>some false | _,_=>none)
 | y=>bif bd7 P t x then none else deq P 8 t x y
def bb7 (t:TypeId) (x y:D):Option Bool:=
 match y with
 | .sl true _ _=>(match x,P.underlying t with
  | .sl false _ rows,some (.slice _)=>some rows.isEmpty
  | .msl _ _ len _ _,some (.slice _)=>some (Nat.beq len 0)
  | _,_=>none)
 | _=>none
def eqQ (t:TypeId) (x y:D) (k:Bool→p9):p9:=
 match bb7 P t x y with
 | some p=> .any p k
 | none=>(match ch0 P t x y with | some b=>k b | none=> .bad)
def bN5 (op:BinOp) (t:TypeId) (x y:D) (σ:i4):p9:=
 match x,y with
 | .int k a,.int k' b=>bb6 op k k' a b σ
 | .str a,.str b=>
  (match op with
   | .eql=> .ok (.bool (a==b)) σ
   | .neq=> .ok (.bool (!(a==b))) σ
   | .lss=> .ok (.bool (Op.bytesLess a b)) σ
   | .add=> .need (decide (((a.length+b.length:Nat):Int)≤IntKind.i64.max)) (.ok (.str (a++b)) σ)
   | _=> .bad)
 | x,y=>
  match op with
  | .eql=>eqQ P t x y fun b=> .ok (.bool b) σ
  | .neq=>eqQ P t x y fun b=> .ok (.bool (!b)) σ
  | _=> .bad
def unD (op:UnOp) (x:D):Option D:=
 match op,x with
 | .not,.bool b=>some (.bool (!b))
 | .neg,.int k n=>some (.int k (k.wrap (0-n)))
 | .xor,.int k n=>iop .xor k (if k.signed then-1 else k.max) n
 | _,_=>none
/-! slices -/
def aM4 (σ:i4):D→Option (Nat×Bool×Option Nat×List (List D))
 | .sl _ sz rows=>some (sz,false,none,rows)
 | .msl b i len _ _=>(match sget σ b with | some B=>some (B.sz,B.deep,some len,(B.rows.drop i).take len) | none=>none)
 | .str s=>some (1,false,none,s.map fun c=> [.int .u8 (c.toNat:Int)])
 | _=>none
def bK8:D→Nat
 | .sl .. | .msl .. =>0
 | .str _=>1
 | _=>2
def bf6:D→Bool
 | .str _=>true
 | _=>false
def aU0 (n:Option Nat) (k:Nat) (r:p9):p9:=match n with | none=>r | some m=> .need (Nat.beq k m) r
def aP0:List (List D)→Option (List UInt8)
 | []=>some []
 | r::rows=>match r with
  | [.int .u8 n]=>(match aP0 rows with | some s=>some (UInt8.ofNat n.toNat::s) | none=>none)
  | _=>none
def V6 (t:TypeId) (x:D) (i:Int) (σ:i4):p9:=
 match P.underlying t with
 | some (.slice e)=>
  (match K7 P e with
   | none=> .bad
   | some n=>
    match x with
    | .sl false sz rows=>if sz=n∧0<n then .need (decide (0≤i)&&decide (i<(rows.length:Int))) (.ok (.iptr sz rows i.toNat 0) σ) else .bad
    | .sl true _ _=> .bad
    | .msl b j len _ _=>(match sget σ b with
     | some B=>if B.sz=n∧0<n then .need (decide (0≤i)&&decide (i<(len:Int))) (.ok (.ptr b (j+i.toNat) 0) σ) else .bad
     | none=> .bad)
    | _=> .bad)
 | some (.array len e)=>
  (match K7 P e,x with
   | some n,.ptr b j o=>(match sget σ b with
    | some B=>if B.sz=n∧0<n∧o=0 then .need (decide (0≤i)&&decide (i<(len:Int))) (.ok (.ptr b (j+i.toNat) 0) σ) else .bad
    | none=> .bad)
   | some n,.iptr sz rows j o=>if sz=n∧0<n∧o=0 then .need (decide (0≤i)&&decide (i<(len:Int))) (.ok (.iptr sz rows (j+i.toNat) 0) σ) else .bad
   | _,_=> .bad)
 | _=> .bad
def am9 (t:TypeId) (x:D) (i:Int) (σ:i4):p9:=
 match P.underlying t,x with
 | some (.array len e),.agg cs=>
  (match K7 P e with
   | some n=> .need (decide (0≤i)&&decide (i<(len:Int))) (bs6 P e cs (i.toNat*n) σ)
   | none=> .bad)
 | some (.array len e),.arr cs=>
  (match K7 P e with
   | some n=> .need (decide (0≤i)&&decide (i<(len:Int))) (bs6 P e cs (i.toNat*n) σ)
   | none=> .bad)
 | some .string,.str s=> .need (decide (0≤i)&&decide (i<(s.length:Int))) (.row ((s[i.toNat]?).map fun c=> [.int .u8 (c.toNat:Int)]) fun r=> .opt r[0]? σ)
 | _,_=> .bad
def aZ5:Option D→Option (Option Int)
 | none=>some none
 | some (.int _ n)=>some (some n)
 | some _=>none
def inB (lo hi:Nat) (x:Int):Bool:=decide ((lo:Int)≤x)&&decide (x≤(hi:Int))
def au1 (n c:Nat) (lo hi mx:Option Int) (k:(l h:Nat)→(m:Option Nat)→p9):p9:=
 match lo,hi,mx with
 | none,none,none=>k 0 n none
 | some l,none,none=> .need (inB 0 n l) (k l.toNat n none)
 | none,some h,none=> .need (inB 0 c h) (k 0 h.toNat none)
 | some l,some h,none=> .need (inB 0 c h) (.need (inB 0 h.toNat l) (k l.toNat h.toNat none))
 | none,some h,some m=> .need (inB 0 c m) (.need (inB 0 m.toNat h) (k 0 h.toNat (some m.toNat)))
 | some l,some h,some m=> .need (inB 0 c m) (.need (inB 0 m.toNat h) (.need (inB 0 h.toNat l) (k l.toNat h.toNat (some m.toNat))))
 | _,_,_=> .bad
def aY8 (t:TypeId) (x:D) (lo hi mx:Option Int) (σ:i4):p9:=
 match P.underlying t,x with
 | some .string,.str s=>(match mx with | none=>au1 s.length s.length lo hi none fun l h _=> .ok (.str ((s.take h).drop l)) σ | some _=> .bad)
 | some (.slice e),.sl true sz _=>(match K7 P e with | some _=>au1 0 0 lo hi mx fun _ _ _=> .ok (.sl true sz []) σ | none=> .bad)
 | some (.slice e),.sl false sz rows=>
  (match K7 P e with
   | some n=>if sz=n then au1 rows.length rows.length lo hi mx fun l h _=> .rows ((rows.take h).drop l) fun rs=> .ok (.sl false sz rs) σ else .bad
   | none=> .bad)
 | some (.slice e),.msl b i len lob ex=>
  (match K7 P e,sget σ b with
   | some n,some B=>if B.sz=n then au1 len lob lo hi mx fun l h m=> .ok (match m with | none=> .msl b (i+l) (h-l) (lob-l) ex | some m=> .msl b (i+l) (h-l) (m-l) true) σ else .bad
   | _,_=> .bad)
 | some (.array n e),.ptr b i o=>
  (match K7 P e,sget σ b with
   | some sz,some B=>if B.sz=sz∧o=0∧i+n≤B.rows.length then au1 n n lo hi mx fun l h m=> .ok (.msl b (i+l) (h-l) (m.getD n-l) true) σ else .bad
   | _,_=> .bad)
 | _,_=> .bad
def n4:Nat:=140737488355328
def bF6:Nat→TypeId→List (Option Nat)
 | 0,_=> [none]
 | n+1,t=>match P.underlying t with
  | some (.struct fields)=>fields.toList.flatMap fun f=>bF6 n f.type
  | some (.slice e)=> [K7 P e]
  | some (.array k e)=>(List.replicate k (bF6 n e)).flatten
  | _=> [none]
def bl6:List D→List (Option Nat)→List D
 | [],_=> []
 | .sl true _ []::r,some n::q=> .sl false n []::bl6 r q
 | z::r,_::q=>z::bl6 r q
 | z::r,[]=>z::r
def br0 (t:TypeId):Option (List D):=match (ar9 P t).bind U7 with
 | some zs=>some (bl6 zs (bF6 P 8 t))
 | none=>none
def aO5 (t:TypeId) (same:Bool) (len cap:Int) (σ:i4):p9:=
 match P.underlying t with
 | some (.slice e)=>
  (match K7 P e,ci7 P e,br0 P e with
   | some n,some by_,some zs=>
    if zs.length=n∧0<n∧zs.all t9=true then
     .need (decide (0≤len)&&(decide (len≤cap)&&(decide (cap≤9223372036854775807)&&decide (cap.toNat*by_≤n4))))
      (.rows (List.replicate cap.toNat zs) fun rs=>bif same then .ok (.msl σ.length 0 rs.length rs.length true) (σ++ [some ⟨n,zs.any r6,rs⟩]) else .ok (.msl σ.length 0 len.toNat cap.toNat true) (σ++ [some ⟨n,zs.any r6,rs⟩]))
    else .bad
   | _,_,_=> .bad)
 | _=> .bad
def aR4 (rows:List (List D)) (n:Nat):List (Nat×D)→Option (List (List D))
 | []=>some rows
 | (i,d)::r=>match U7 d with
  | some cs=>if cs.length=n∧i<rows.length∧cs.all t9=true then aR4 (rows.set i cs) n r else none
  | none=>none
def aG1 (t:TypeId) (len:Nat) (parts:List (Nat×D)) (σ:i4):p9:=
 match P.underlying t with
 | some (.slice e)=>
  (match K7 P e,(ar9 P e).bind U7 with
   | some n,some zs=>
    if zs.length=n∧0<n∧zs.all t9=true∧len*n≤16777216 then
     (match aR4 (List.replicate len zs) n parts with
      | some rows=> .ok (.msl σ.length 0 len len true) (σ++ [some ⟨n,rows.any (fun r=>r.any r6),rows⟩])
      | none=> .bad)
    else .bad
   | _,_=> .bad)
 | _=> .bad
def br3 (place:Nat→Option (Nat×Nat)) (cells:List D):List (Nat×D)→Option (List D)
 | []=>some cells
 | (i,d)::r=>match U7 d,place i with
  | some cs,some (off,size)=>if cs.length=size∧off+size≤cells.length then br3 place (cells.take off++cs++cells.drop (off+size)) r else none
  | _,_=>none
def cd8 (t:TypeId) (parts:List (Nat×D)):Option D:=
 match P.info? t,P.underlying t with
 | some it,some (.array _ e)=>
  (match it.zero,P.info? e with
   | some z,some ie=>(match U7 (aD1 z) with | some zc=>(br3 (fun i=>some (i*ie.size,ie.size)) zc parts).map .agg | none=>none)
   | _,_=>none)
 | some it,some (.struct fields)=>
  (match it.zero,fields.toList.mapM (fun f=>(P.info? f.type).map fun i=>(f.offset,i.size)) with
   | some z,some places=>(match U7 (aD1 z) with | some zc=>(br3 (places.toArray[·]?) zc parts).map .agg | none=>none)
   | _,_=>none)
 | _,_=>none
def be3 (s:TypeId) (p:D) (f:Nat):Option D:=
 match P.underlying s with
 | some (.struct fields)=>
  (match fields[f]? with
   | some fd=>(match K7 P fd.type with
    | some n=>if n=0 then none else (match p with
     | .ptr b i o=>some (.ptr b i (o+fd.offset))
     | .iptr sz rows i o=>some (.iptr sz rows i (o+fd.offset))
     | _=>none)
    | none=>none)
   | none=>none)
 | _=>none
def cg6 (s:TypeId) (x:D) (f:Nat):Option D:=
 match P.underlying s,x with
 | some (.struct fields),.agg cs=>(match fields[f]? with | some fd=>aH0 P fd.type cs fd.offset | none=>none)
 | _,_=>none
def aV0 (src dst:TypeId) (x:D) (σ:i4):p9:=
 match P.underlying src,P.underlying dst,x with
 | some (.int _),some (.int k),.int _ n=> .ok (.int k (k.wrap n)) σ
 | some .string,some .string,.str s=> .ok (.str s) σ
 | some .string,some (.slice e),.str s=>
  (match P.underlying e with
   | some (.int .u8)=> .rows (s.map fun c=> [.int .u8 (c.toNat:Int)]) fun rs=> .ok (.msl σ.length 0 rs.length rs.length false) (σ++ [some ⟨1,false,rs⟩])
   | _=> .bad)
 | some (.slice _),some (.slice e),.msl b i len lo ex=>
  (match P.underlying e,sget σ b with
   | some (.int .u8),some B=>if src=dst∧0<B.sz then .need (Nat.blt 0 len) (.ok (.msl b i len lo ex) σ) else .bad
   | _,_=> .bad)
 | some (.slice e),some .string,x=>
  (match P.underlying e,K7 P e,aM4 σ x with
   | some (.int .u8),some 1,some (sz,_,n,rows)=>if (sz=1∨(rows.isEmpty=true∧bf6 x=false))∧bf6 x=false then aU0 n rows.length (.str (aP0 rows) fun s=> .ok (.str s) σ) else .bad
   | _,_,_=> .bad)
 | _,_,_=> .bad
def aO8 (t:TypeId) (s x:D) (σ:i4):p9:=
 match P.underlying t with
 | some (.slice e)=>
  (match K7 P e,ci7 P e,(ar9 P e).bind U7,aM4 σ x with
   | some n,some by_,some zs,some (sz,dp,cnt,new)=>
    if (sz=n∨(new.isEmpty=true∧bf6 x=false))∧0<n∧0<by_∧zs.length=n then
     aU0 cnt new.length (match s with
     | .sl true _ _=>
      .need (decide (new.length*by_≤n4)) (.rows new fun rs=> .ok (.msl σ.length 0 rs.length rs.length false) (σ++ [some ⟨n,dp,rs⟩]))
     | .msl b i len _ _=>
      (match sget σ b with
       | some B=>
        if B.sz=n then
         .need (decide ((len+new.length)*by_≤n4)) (.need (Nat.ble (i+len) B.rows.length)
          (.rows ((B.rows.drop i).take len++new) fun rs=> .ok (.msl σ.length 0 rs.length rs.length false)
           (σ.set b none++ [some ⟨n,B.deep || dp,rs⟩])))
        else .bad
       | none=> .bad)
     | _=> .bad)
    else .bad
   | _,_,_,_=> .bad)
 | _=> .bad
def bs2 (t:TypeId) (s x:D) (σ:i4):p9:=
 match P.underlying t with
 | some (.slice e)=>
  (match K7 P e,ci7 P e,br0 P e,s,x with
   | some n,some by_,some zs,.sl true _ _,.int _ m=>
    if zs.length=n∧0<n∧0<by_∧zs.all t9=true then
     .need (decide (1≤m)&&decide (m.toNat*by_≤n4))
      (.rows (List.replicate m.toNat zs) fun rs=> .ok (.msl σ.length 0 rs.length rs.length false) (σ++ [some ⟨n,zs.any r6,rs⟩]))
    else .bad
   | _,_,_,_,_=> .bad)
 | _=> .bad
def cq6 (t:TypeId) (dst src:D) (σ:i4):p9:=
 match P.underlying t with
 | some (.slice e)=>
  (match K7 P e,aM4 σ src,dst with
   | some n,some (sz,dp,cnt,rows),.msl b i len _ _=>
    (match sget σ b with
     | some B=>if (sz=n∨(rows.isEmpty=true∧bf6 src=false))∧B.sz=n∧0<n then
       aU0 cnt rows.length (.need (Nat.ble (i+len) B.rows.length)
        (.rows (B.rows.take i++rows.take (min rows.length len)++B.rows.drop (i+min rows.length len)) fun rs=> .ok (.int .i64 ((min rows.length len:Nat):Int)) (σ.set b (some ⟨n,B.deep || dp,rs⟩))))
      else .bad
     | none=> .bad)
   | _,_,_=> .bad)
 | _=> .bad
def cb5 (t:TypeId) (s:D) (σ:i4):p9:=
 match P.underlying t,s with
 | some (.slice _),.sl true _ _=> .ok (.tup []) σ
 | some (.slice e),.msl b i len _ _=>
  (match K7 P e,br0 P e,sget σ b with
   | some n,some zs,some B=>
    if zs.length=n∧0<n∧B.sz=n∧zs.all t9=true then
     .need (Nat.ble (i+len) B.rows.length) (.rows (B.rows.take i++List.replicate len zs++B.rows.drop (i+len)) fun rs=> .ok (.tup []) (σ.set b (some ⟨n,B.deep || zs.any r6,rs⟩)))
    else .bad
   | _,_,_=> .bad)
 | _,_=> .bad
def bI7 (a:Option D) (d:D):Option D:=match a,d with | some (.int k x),.int _ y=>some (.int k (if y<x then y else x)) | _,_=>none
def bG8 (a:Option D) (d:D):Option D:=match a,d with | some (.int k x),.int _ y=>some (.int k (if x<y then y else x)) | _,_=>none
def mnD (ds:List D):Option D:=match ds with
 | .int k x::r=>r.foldl bI7 (some (.int k x))
 | _=>none
def mxD (ds:List D):Option D:=match ds with
 | .int k x::r=>r.foldl bG8 (some (.int k x))
 | _=>none
def bY6 (t:TypeId) (x:D) (σ:i4):p9:=match P.underlying t,x with
 | some (.array n _),_=> .ok (.int .i64 n) σ
 | some (.slice _),.sl _ _ rows=> .ok (.int .i64 (rows.length:Int)) σ
 | some (.slice _),.msl _ _ len _ _=> .ok (.int .i64 (len:Int)) σ
 | some .string,.str s=> .ok (.int .i64 (s.length:Int)) σ
 | _,_=> .bad
def bZ5 (t:TypeId) (x:D) (σ:i4):p9:=match P.underlying t,x with
 | some (.slice _),.sl true _ _=> .ok (.int .i64 0) σ
 | some (.slice _),.msl _ _ _ lo true=> .ok (.int .i64 (lo:Int)) σ
 | _,_=> .bad
def ao0 (b:Builtin) (ts:List TypeId) (args:List D) (σ:i4):p9:=
 match b,args,ts with
 | .len,[x],[t]=>bY6 P t x σ
 | .cap,[x],[t]=>bZ5 P t x σ
 | .append,[s,x],[t,t']=>(match P.underlying t',bK8 x with | some (.slice _),0=>aO8 P t s x σ | some .string,1=>aO8 P t s x σ | some (.int _),2=>bs2 P t s x σ | _,_=> .bad)
 | .copy,[d,s],[t,_]=>cq6 P t d s σ
 | .clear,[s],[t]=>cb5 P t s σ
 | .min,ds,_=> .opt (mnD ds) σ
 | .max,ds,_=> .opt (mxD ds) σ
 | _,_,_=> .bad
def be1 (f : FuncId) : Bool := match P.funcs[f]? with
  | some fn => fn.body.isSome && !(fn.name == "runtime.NumGoroutine")
  | none => false
def callD (c:Call) (ρ:Operand→D) (σ:i4):p9:=
 match c.callee with
 | .builtin b=>ao0 P b c.argTypes.toList (c.args.toList.map ρ) σ
 | .value f=>(match ρ f with
  | .fn g first caps=>if be1 P g=true then .call g (first++c.args.toList.map ρ++caps) else .bad
  | .yld l=> .yld l (c.args.toList.map ρ)
  | _=> .bad)
 | .invoke .. => .bad
def cc8:Operand→Operand→Bool
 | .tmp x,.tmp y=>Nat.beq x y
 | _,_=>false
def R8 (ρ:Operand→D) (o:Oper) (σ:i4):p9:=
 match o.op with
 | .move x=> .ok (ρ x) σ
 | .assign x=> .ok (ρ x) σ
 | .pick c a b=>(match ρ c with | .bool x=> .split x fun y=> .ok (if y then ρ a else ρ b) σ | _=> .bad)
 | .alloc t=>(match ar9 P t with | some z=>aI8 P t z σ | none=> .bad)
 | .box t x=>aI8 P t (ρ x) σ
 | .build t parts=> .opt (cd8 P t (parts.toList.map fun p=>(p.1,ρ p.2))) σ
 | .buildSlice t len parts=>aG1 P t len (parts.toList.map fun p=>(p.1,ρ p.2)) σ
 | .load t a=>aq9 P t (ρ a) σ
 | .store t a x=>bG7 P t (ρ a) (ρ x) σ
 | .nilCheck x=>(match ρ x with | .ptr b i o=> .ok (.ptr b i o) σ | .iptr z r i o=> .ok (.iptr z r i o) σ | .fn f a b=> .ok (.fn f a b) σ | .iface t v=> .ok (.iface t v) σ | _=> .bad)
 | .binOp op t x y _=>bN5 P op t (ρ x) (ρ y) σ
 | .unOp op _ x=> .opt (unD op (ρ x)) σ
 | .convert s d x=>aV0 P s d (ρ x) σ
 | .makeFunc (.func f) first caps=> .ok (.fn f (first.toList.map ρ) (caps.toList.map ρ)) σ
 | .makeSlice t l c=>(match ρ l,ρ c with | .int _ a,.int _ b=>aO5 P t (cc8 l c) a b σ | _,_=> .bad)
 | .slice t x lo hi mx=>(match aZ5 (lo.map ρ),aZ5 (hi.map ρ),aZ5 (mx.map ρ) with | some l,some h,some m=>aY8 P t (ρ x) l h m σ | _,_,_=> .bad)
 | .fieldAddr t x f=> .opt (be3 P t (ρ x) f) σ
 | .field t x f=> .opt (cg6 P t (ρ x) f) σ
 | .indexAddr t x i=>(match ρ i with | .int _ n=>V6 P t (ρ x) n σ | _=> .bad)
 | .index t x i=>(match ρ i with | .int _ n=>am9 P t (ρ x) n σ | _=> .bad)
 | .extract x i=>(match ρ x with | .tup vs=> .opt vs[i]? σ | _=> .bad)
 | .makeInterface t x=>(match P.underlying t with | some (.interface _)=> .bad | some _=>(match ρ x with | .undef=> .bad | .tup _=> .bad | d=> .ok (.iface t d) σ) | none=> .bad)
 | .call c=>callD P c ρ σ
 | _=> .bad
end
/-! ### going through a datum -/
def L2 (f:D→Option D):List D→Option (List D)
 | []=>some []
 | d::r=>match f d,L2 f r with | some e,some s=>some (e::s) | _,_=>none
def an1 (f:D→Option D):List (List D)→Option (List (List D))
 | []=>some []
 | d::r=>match L2 f d,an1 f r with | some e,some s=>some (e::s) | _,_=>none
def tr (h:D→Option D):Nat→D→Option D
 | 0,_=>none
 | n+1,d=>match d with
  | .ptr b i o=>h (.ptr b i o)
  | .msl b i len lo ex=>h (.msl b i len lo ex)
  | .fn f a c=>(match L2 (tr h n) a,L2 (tr h n) c with | some a,some c=>some (.fn f a c) | _,_=>none)
  | .agg cs=>(L2 (tr h n) cs).map .agg
  | .tup cs=>(L2 (tr h n) cs).map .tup
  | .iface t v=>(tr h n v).map (.iface t)
  | d=>some d
def l8:Nat:=6
def ae7:Nat→D→List Nat
 | 0,_=> []
 | n+1,d=>match d with
  | .ptr b _ _=> [b]
  | .msl b _ _ _ _=> [b]
  | .fn _ a c=>a.flatMap (ae7 n)++c.flatMap (ae7 n)
  | .agg cs=>cs.flatMap (ae7 n)
  | .tup cs=>cs.flatMap (ae7 n)
  | .iface _ v=>ae7 n v
  | _=> []
def M8 (ρ:Nat→Option Nat):D→Option D
 | .ptr b i o=>(ρ b).map fun c=> .ptr c i o
 | .msl b i len lo ex=>(ρ b).map fun c=> .msl c i len lo ex
 | d=>some d
def aB6:List Nat→Nat→Nat→Option Nat
 | [],_,_=>none
 | x::r,b,k=>bif Nat.beq x b then some k else aB6 r b (k+1)
def W3 (σ:i4) (m:Nat) (strict:Bool):Nat→D→Option D
 | 0,_=>none
 | n+1,d=>match d with
  | .ptr b i o=>bif Nat.blt b m then (bif strict then none else some (.ptr b i o)) else (match sget σ b with
   | some B=>bif B.deep then (match an1 (tr (W3 σ m true n) l8) B.rows with | some rows=>some (.iptr B.sz rows i o) | none=>none) else some (.iptr B.sz B.rows i o)
   | none=>none)
  | .msl b i len lo ex=>bif Nat.blt b m then (bif strict then none else some (.msl b i len lo ex)) else (match sget σ b with
   | some B=>bif Nat.ble (i+len) B.rows.length then
     (bif B.deep then (match an1 (tr (W3 σ m true n) l8) ((B.rows.drop i).take len) with | some rows=>some (.sl false B.sz rows) | none=>none) else some (.sl false B.sz ((B.rows.drop i).take len)))
    else none
   | none=>none)
  | _=>none
def frz (σ:i4) (m:Nat) (d:D):Option D:=tr (W3 σ m false 6) l8 d
def bs4 (σ:i4) (m:Nat) (strict:Bool):Nat→D→Option D
 | 0,_=>none
 | n+1,d=>match d with
  | .ptr b i o=>bif Nat.blt b m then (bif strict then none else some (.ptr b i o)) else (match sget σ b with
   | some B=>bif B.deep then (match an1 (tr (bs4 σ m true n) l8) B.rows with | some rows=>some (.iptr B.sz rows i o) | none=>none) else some (.iptr B.sz B.rows i o)
   | none=>none)
  | .msl b i len lo ex=>bif Nat.blt b m then (bif strict then none else some (.msl b i len lo ex)) else (match sget σ b with
   | some B=>(bif B.deep then (match an1 (tr (bs4 σ m true n) l8) ((B.rows.drop i).take len) with | some rows=>some (.sl false B.sz rows) | none=>none) else some (.sl false B.sz ((B.rows.drop i).take len)))
   | none=>none)
  | _=>none
def bL8 (σ:i4) (m:Nat) (d:D):Option D:=tr (bs4 σ m false 6) l8 d
def gat (c:D→List Bool):Nat→D→List Bool
 | 0,_=> []
 | n+1,d=>match d with
  | .ptr b i o=>c (.ptr b i o)
  | .msl b i len lo ex=>c (.msl b i len lo ex)
  | .fn _ a b=>a.flatMap (gat c n)++b.flatMap (gat c n)
  | .agg cs=>cs.flatMap (gat c n)
  | .tup cs=>cs.flatMap (gat c n)
  | .iface _ v=>gat c n v
  | _=> []
def cd1 (σ:i4) (m:Nat):Nat→D→List Bool
 | 0,_=> []
 | n+1,d=>match d with
  | .ptr b _ _=>bif Nat.blt b m then [] else (match sget σ b with
   | some B=>bif B.deep then B.rows.flatMap (fun r=>r.flatMap (gat (cd1 σ m n) l8)) else []
   | none=> [])
  | .msl b i len _ _=>bif Nat.blt b m then [] else (match sget σ b with
   | some B=>Nat.ble (i+len) B.rows.length::(bif B.deep then ((B.rows.drop i).take len).flatMap (fun r=>r.flatMap (gat (cd1 σ m n) l8)) else [])
   | none=> [])
  | _=> []
def bK9 (σ:i4) (m:Nat) (d:D):List Bool:=gat (cd1 σ m 6) l8 d
def cr4 (c:D→List Bool):Option A5→List Bool
 | none=> []
 | some B=>bif B.deep then B.rows.flatMap (fun r=>r.flatMap c) else []
def aN0:D→Option D:=fun _=>none
def az8 (f:D→Option D):Option A5→Option (Option A5)
 | none=>some none
 | some B=>if B.deep then (an1 f B.rows).map fun rows=>some ⟨B.sz,true,rows⟩ else some (some B)
def C6 (f:D→Option D):i4→Option i4
 | []=>some []
 | b::r=>match az8 f b,C6 f r with | some b,some r=>some (b::r) | _,_=>none
def be8 (f:D→Option D):Fr→Option Fr
 | []=>some []
 | x::r=>match f x.2,be8 f r with | some d,some r=>some ((x.1,d)::r) | _,_=>none
def ai5 (σ:i4):Nat→List Nat→List Nat→List Nat
 | 0,seen,_=>seen
 | _,seen,[]=>seen
 | n+1,seen,b::todo=>
  bif seen.contains b then ai5 σ n seen todo else
   (match sget σ b with
    | some B=>ai5 σ n (seen++ [b]) (todo++(if B.deep then B.rows.flatMap (fun r=>r.flatMap (ae7 l8)) else []))
    | none=>ai5 σ n (seen++ [b]) todo)
def x7 (σ:i4) (ids:List Nat):i4:=ids.map fun b=>match σ[b]? with | some B=>B | none=>none
def ay3:List Nat→Bool
 | []=>true
 | x::r=> !(r.contains x)&&ay3 r
def bK2 (m:Nat) (ids:List Nat):Bool:=(ids.take m==List.range m)&&ay3 ids
def aP1 (m:Nat) (fr:Fr) (σ:i4):Option (Fr×i4):=
 let ids:=ai5 σ 200 [] (List.range m++fr.flatMap fun x=>ae7 l8 x.2)
 let f:=tr (M8 fun b=>aB6 ids b 0) l8
 match bK2 m ids,be8 f fr,C6 f (x7 σ ids) with
 | true,some fr',some s=>some (fr',s)
 | _,_,_=>none
/-! ### what is still read -/
def bit (t:Nat):Nat:=1<<<t
def clr (m t:Nat):Nat:=bif m.testBit t then m-bit t else m
def cV6 (o:Oper):Nat:=o.op.operands.toList.foldl (fun m x=>match x with | .tmp t=>m ||| bit t | _=>m) 0
def cv2 (all:List Oper) (o:Oper):Option Nat:=match o.guard with | some (j,_)=>(match all[j]? with | some g=>g.dst | none=>none) | none=>none
def bP9 (all:List Oper):List Oper→Nat→Nat
 | [],m9=>m9
 | o::l,m9=>
  let r:=bP9 all l m9
  let r:=match o.dst with | some t=>clr r t | none=>r
  let r:=match cv2 all o with | some s=>r ||| bit s | none=>r
  r ||| cV6 o
def cV1:List (Nat×Nat)→Nat→Nat
 | [],_=>0
 | x::r,id=>bif Nat.beq x.1 id then x.2 else cV1 r id
def cn1:Operand→Nat | .tmp t=>bit t | _=>0
def au3 (rm:Nat):Code→Nat→List (Nat×Nat)→Nat
 | .skip,m9,_=>m9
 | .region _ ops _,m9,_=>bP9 ops.toList ops.toList m9
 | .seq a b,m9,ex=>au3 rm a (au3 rm b m9 ex) ex
 | .cond c a b,m9,ex=>cn1 c ||| au3 rm a m9 ex ||| au3 rm b m9 ex
 | .block id c,m9,ex=>au3 rm c m9 ((id,m9)::ex)
 | .loop c,_,ex=>au3 rm c (au3 rm c 0 ex) ex
 | .rangeFunc f _ a b,m9,ex=>cn1 f ||| au3 rm a (au3 rm b m9 ex) ex ||| m9
 | .exit id,_,ex=>cV1 ex id
 | .scope c,m9,ex=>au3 rm c m9 ex
 | .label _,m9,_=>m9
 | .goto _,_,_=>0
 | .ret,_,_=>rm
 | .refuse _,_,_=>0
/-! ### the machine -/
inductive It where
 | code (c:Code)
 | blk (id:Nat)
 | sc
 | lp (c:Code) (live:Nat)
 | lpc (c:Code) (live:Nat)
 | ops (all l:List Oper)
structure M where
 td:List It
 fr:Fr
 st:i4
inductive Qy where
 | go (m:M)
 | need (b:Bool) (q:Qy)
 | split (b:Bool) (k:Bool→Qy)
 | row (r:Option (List D)) (k:List D→Qy)
 | rows (r:List (List D)) (k:List (List D)→Qy)
 | str (r:Option (List UInt8)) (k:List UInt8→Qy)
 | any (p:Bool) (k:Bool→Qy)
 | call (f:FuncId) (args:List D) (sub:i4) (k:D→i4→Qy)
 | callD (f:FuncId) (args:List D) (k:D→Qy)
 | callS (f:FuncId) (args:List D) (sub:i4) (k:D→i4→Qy)
 | callR (f:FuncId) (args:List D) (sub σ:i4) (bk:D→i4→Option (D×i4)) (k:D→i4→Qy)
 | yld (l:Nat) (y:List D) (s:i4) (k:Bool→Qy)
 | rng (m:Nat) (g:FuncId) (caps:List D) (sub σ:i4) (ids:List Nat) (rnd:List D→i4→Qy) (aft:Nat→i4→Qy)
 | ret (d:D) (σ:i4)
 | bad
def bd8:List Bool→Qy→Qy
 | [],q=>q
 | b::r,q=> .need b (bd8 r q)
/-- How a call is made: 'keep': what the callee made is handed over as blocks, not frozen; 'pass': the blocks that the arguments name go with them; 'lend' (of an iterator): the blocks that it names are the loop's still, as they were, in each round and v9 it; 'ro': it leaves the blocks that are passed as they are. -/
structure Pol where
  keep : Bool := false
  pass : Bool := false
  lend : Bool := false
  ro : Bool := false
structure E7 where
 P:Program
 pol:FuncId→Pol
 gl:Nat→D
/-- Where a block lies. -/
structure Q3 where
  blk : Nat
  base : Nat
  sz : Nat
  size : Nat
abbrev o8:=List Q3
/-- Where a text runs: a function ('it': an iterator, whose loop's H2 is lp; Y is what it has still to tell, none: it is not asked for more; J is what holds of its loop's other side); 'rb': a round of such a loop. -/
structure Cx where
  fn : Func
  keep : Bool
  m : Nat
  rb : Bool
  it : Bool
  lp : Nat
  Y : Option (List (List D))
  J : Option (List (List D)) → World → (Nat → Prop) → (Nat → Prop) → Prop
  ln : i4
  lp0 : o8
def Cx.of (fn:Func) (keep:Bool) (m:Nat):Cx:=⟨fn,keep,m,false,false,0,none,fun _ _ _ _=>True,[],[]⟩
def Cx.round (C:Cx) (m:Nat):Cx:=⟨C.fn,true,m,true,false,0,none,fun _ _ _ _=>True,[],[]⟩
def Cx.tell (C:Cx) (Y:Option (List (List D))):Cx:=⟨C.fn,C.keep,C.m,C.rb,C.it,C.lp,Y,C.J,C.ln,C.lp0⟩
def Cx.seq (fn:Func) (m:Nat) (ln:i4) (l:Nat) (lp0:o8) (J:Option (List (List D))→World→(Nat→Prop)→(Nat→Prop)→Prop) (Y:Option (List (List D))):Cx:=⟨fn,false,m,false,true,l,Y,J,ln,lp0⟩
def co7 (fn:Func):Nat:=fn.results.toList.foldl (fun m r=>match r with | .tmp t=>m ||| bit t | .cell a _=>m ||| bit a) 0
def bh2 (rm:Nat):List It→Nat×List (Nat×Nat)
 | []=>(rm,[])
 | .code c::t=>let r:=bh2 rm t;(au3 rm c r.1 r.2,r.2)
 | .blk id::t=>let r:=bh2 rm t;(r.1,(id,r.1)::r.2)
 | .sc::t=>bh2 rm t
 | .lp _ k::t=>(k,(bh2 rm t).2)
 | .lpc _ k::t=>(k,(bh2 rm t).2)
 | .ops all l::t=>let r:=bh2 rm t;(bP9 all l r.1,r.2)
def bg6 (mask:Nat) (fr:Fr):List Nat→Fr
 | []=> []
 | t::l=>bif mask.testBit t then (match o5 fr t with | .undef=>bg6 mask fr l | d=>(t,d)::bg6 mask fr l) else bg6 mask fr l
def bc2 (n:Nat) (mask:Nat) (fr:Fr):Fr:=bg6 mask fr (List.range n)
def aT5 (id:Nat):List It→Option (List It)
 | []=>none
 | .blk j::t=>bif Nat.beq j id then some t else aT5 id t
 | _::t=>aT5 id t
def put (fr:Fr) (dst:Option Nat) (d:D):Fr:=match dst with | some t=>ai4 fr t d | none=>fr
section
variable (E : E7) (C : Cx)
def ap5:Nat→D→Bool
 | 0,_=>false
 | n+1,d=>match d with
  | .bool _ | .int .. | .str _=>true
  | .agg cs=>cs.all (ap5 n)
  | .tup cs=>cs.all (ap5 n)
  | _=>false
def au6 (ids:List Nat) (len:Nat) (j:Nat):Option Nat:=bif Nat.blt j ids.length then ids[j]? else some (len+(j-ids.length))
def O3:List Nat→i4→i4→i4
 | b::ids,x::xs,σ=>(O3 ids xs σ).set b x
 | _,_,σ=>σ
def u9 (p:Nat→Bool):Nat→i4→i4
 | _,[]=> []
 | i,B::r=>(bif p i then B else none)::u9 p (i+1) r
def bg8 (d:D) (s:i4) (σ:i4):Option (D×i4):=
 match s with
 | []=>some (d,σ)
 | _=>
  let g:=tr (M8 fun j=>some (σ.length+j)) l8
  (match g d,C6 g s with
   | some d',some s' =>some (d',σ++s')
   | _,_=>none)
/-- How a call is made: with which data, which blocks; what must hold; what comes of its answer. -/
structure bZ7 where
  args : List D
  sub : i4
  ns : List Bool
  back : D → i4 → Option (D × i4)
def aO1 (f:FuncId) (args:List D) (σ:i4):Option bZ7:=
 match L2 (tr aN0 l8) args with
 | some args' =>some ⟨args',[],[],fun d s=>bg8 d s σ⟩
 | none=>
  bif (E.pol f).pass then
   let ids:=ai5 σ 200 [] (args.flatMap (ae7 l8))
   let g:=tr (M8 fun b=>aB6 ids b 0) l8
   match bK2 0 ids&&ids.all (fun b=>Nat.blt b σ.length),L2 g args,C6 g (x7 σ ids) with
   | true,some args',some sub=>
    some ⟨args',sub,[],fun d s=>
     let n:=ids.length
     let back:=tr (M8 (au6 ids σ.length)) l8
     (match back d,C6 back s with
      | some d',some s' =>bif Nat.ble n s'.length then some (d',O3 ids s' σ++s'.drop n) else none
      | _,_=>none)⟩
   | _,_,_=>none
  else
   let ids:=ai5 σ 200 [] (args.flatMap (ae7 l8))
   let σr:=u9 (fun i=>ids.contains i) 0 σ
   match L2 (bL8 σr 0) args with
   | some args' =>some ⟨args',[],args.flatMap (bK9 σr 0),fun d s=>
     bif s.isEmpty&&ap5 4 d then some (d,σ) else bg8 d s (u9 (fun i=> !(ids.contains i)) 0 σ)⟩
   | none=>none
def cs2 (f:FuncId) (args:List D) (σ:i4) (k:D→i4→Qy):Qy:=
 match aO1 E f args σ with
 | some p=>bd8 p.ns (.call f p.args p.sub fun d s=>match p.back d s with | some x=>k x.1 x.2 | none=> .bad)
 | none=> .bad
def cu2 (f:FuncId) (args:List D) (σ:i4) (k:D→i4→Qy):Qy:=
 match aO1 E f args σ with
 | some p=>bd8 p.ns (.callR f p.args p.sub σ p.back k)
 | none=> .bad
def cA0 (f:FuncId) (args:List D) (σ:i4) (k:D→i4→Qy):Qy:=
 match aO1 E f args σ with
 | some p=>bd8 p.ns (.callS f p.args p.sub fun d s=>match p.back d s with | some x=>k x.1 x.2 | none=> .bad)
 | none=> .bad
def cB4 (f:FuncId) (args:List D) (σ:i4) (k:D→i4→Qy):Qy:=
 match L2 (tr aN0 l8) args with
 | some args' => .callD f args' fun d=>k d σ
 | none=>
  match L2 (bL8 σ 0) args with
  | some args' =>bd8 (args.flatMap (bK9 σ 0)) (.callD f args' fun d=>bif ap5 4 d then k d σ else .bad)
  | none=> .bad
def conv (dr ks:Bool) (k:D→i4→Qy) (σ:i4):p9→Qy
 | .ok d s=>k d s
 | .need b q=> .need b (conv dr ks k σ q)
 | .split b q=> .split b fun y=>conv dr ks k σ (q y)
 | .row r q=> .row r fun x=>conv dr ks k σ (q x)
 | .rows r q=> .rows r fun x=>conv dr ks k σ (q x)
 | .any p q=>bif dr then .bad else .any p fun x=>conv dr ks k σ (q x)
 | .str r q=> .str r fun x=>conv dr ks k σ (q x)
 | .call f args=>bif dr then (bif ks then (bif (E.pol f).ro then cu2 E f args σ k else cA0 E f args σ k) else cB4 f args σ k) else cs2 E f args σ k
 | .yld l args=>bif dr then .bad else (match L2 (tr aN0 l8) args with | some a=> .yld l a σ fun b=>k (.bool b) σ | none=> .bad)
 | .bad=> .bad
def kOp (K:FuncId→Nat):Op→Bool
 | .call c=>(match c.callee with | .value (.func f)=>Nat.ble 1 (K f) | _=>false)
 | _=>false
def E7.kp (E:E7) (f:FuncId):Nat:=bif (E.pol f).ro then 2 else bif (E.pol f).keep || (E.pol f).pass then 1 else 0
def aU4 (n:Nat):Option Nat→Bool
 | some t=>Nat.blt t n
 | none=>true
def au2 (all:List Oper) (o:Oper):Bool:=o.guard.isNone&&(match o.op,o.dst with
 | .buildSlice ..,some t=>all.any fun p=>(match p.op with
  | .call c=>(match c.callee,c.args.toList with
   | .builtin .append,[_,.tmp s]=>Nat.beq s t
   | _,_=>false)
  | _=>false)
 | _,_=>false)
def ch1 (P:Program) (o:Oper):List (Option Nat):=match o.op with
 | .buildSlice t .. =>(match P.underlying t with | some (.slice e)=>bF6 P 8 e | _=> [])
 | _=> []
def bC8 (ss:List (Option Nat)) (d:D):D:=match tr aN0 l8 d with | some (.agg cs)=> .agg (bl6 cs ss) | some d=>d | none=> .undef
def bA3 (P:Program) (ρ:Operand→D) (o:Oper):Option D:=
 match R8 P (fun x=>bC8 (ch1 P o) (ρ x)) o [] with
 | .ok (.msl 0 0 l _ _) [some B]=>bif B.deep then none else bif Nat.ble (0+l) B.rows.length then some (.sl false B.sz ((B.rows.drop 0).take l)) else none
 | _=>none
def av5:D→Option Nat
 | .ptr b _ _=>some b
 | .msl b _ _ _ _=>some b
 | _=>none
def aR1 (K:FuncId→Nat):Op→Option Operand
 | .call c=>(match c.callee,c.args.toList with
  | .value (.func f),[s]=>bif Nat.beq (K f) 3 then some s else none
  | _,_=>none)
 | _=>none
def bJ4 (σ:i4) (d:D):Bool:=match av5 d with
 | some b=>(match sget σ b with | some B=> !B.deep | none=>false)
 | none=>(ae7 l8 d).isEmpty
def bF3 (fr:Fr) (σ:i4) (o:Oper):Bool:=match aR1 E.kp o.op with
 | some a=>bJ4 σ (C4 E.gl fr a)
 | none=>true
def aX9 (dr:Bool) (n:Nat) (all:List Oper) (o:Oper) (fr:Fr) (σ:i4) (k:Fr→i4→Qy):Qy:=
 bif aU4 n o.dst then
  bif dr&&au2 all o then (match bA3 E.P (C4 E.gl fr) o with | some d=>k (put fr o.dst d) σ | none=> .bad) else
  bif dr&& !(bF3 E fr σ o) then .bad else
  match o.guard with
  | none=>conv E dr (kOp E.kp o.op) (fun d s=>k (put fr o.dst d) s) σ (R8 E.P (C4 E.gl fr) o σ)
  | some (j,want)=>
   match (match all[j]? with | some g=>g.dst | none=>none) with
   | none=> .bad
   | some s=>
    match o5 fr s with
    | .bool b=> .split b fun y=>
     bif y==want then conv E dr (kOp E.kp o.op) (fun d st=>k (put (ai4 fr s (.bool y)) o.dst d) st) σ (R8 E.P (C4 E.gl (ai4 fr s (.bool y))) o σ)
     else k (put (ai4 fr s (.bool y)) o.dst (.tup [])) σ
    | .tup _=>k (put fr o.dst (.tup [])) σ
    | _=> .bad
 else .bad
def K5:Op→Nat
 | .move _ | .assign _ | .pick .. | .build .. | .nilCheck _ | .binOp .. | .unOp .. | .makeFunc .. | .fieldAddr .. | .field .. | .index .. | .extract .. | .makeInterface .. =>0
 | .load .. | .indexAddr .. | .slice .. =>1
 | .alloc _ | .box .. | .buildSlice .. | .makeSlice .. =>2
 | .convert .. =>4
 | .store .. =>3
 | .call c=>(match c.callee with
  | .builtin .len | .builtin .cap | .builtin .min | .builtin .max=>0
  | .value _=>1
  | _=>3)
 | _=>3
def E6 (P:Program) (op:Op):Nat:=match K5 op with
 | 4=>(match op with | .convert _ d _=>(match P.underlying d with | some (.slice _)=>2 | some (.int _)=>0 | _=>1) | _=>3)
 | k=>k
def aX7 (K:FuncId→Nat):Op→Bool
 | .call c=>c.args.toList.isEmpty || (match c.callee with | .value (.func f)=>Nat.beq (K f) 2 | _=>false)
 | _=>false
def aj1 (P:Program) (K:FuncId→Nat) (op:Op):Nat:=bif kOp K op then (bif aX7 K op then 2 else 3) else E6 P op
def T4 (P:Program) (K:FuncId→Nat) (all:List Oper) (o:Oper):Nat:=bif au2 all o then 0 else aj1 P K o.op
def aN6 (k j:Nat):Bool:=(Nat.ble 2 k&&Nat.ble 2 j) || (Nat.beq k 3&&Nat.ble 1 j) || (Nat.ble 1 k&&Nat.beq j 3)
def ax3 (l:List Nat):Option Nat→Bool
 | some t=>l.contains t
 | none=>false
def ap0:Op→Option Operand
 | .load _ a=>some a
 | .indexAddr _ x _=>some x
 | .store _ a _=>some a
 | .call c=>(match c.callee,c.args.toList with
  | .builtin .append,[s,_]=>some s
  | _,_=>none)
 | _=>none
def aV2 (K:FuncId→Nat) (op:Op):Option Operand:=match ap0 op with | some a=>some a | none=>aR1 K op
structure x9 where
 looks:List Nat
 dst:Option Nat
 kind:Nat
 before:Nat
 soft:Option Operand
def av3 (a b:x9):Bool:=(a.soft.isSome&&Nat.beq a.kind 1&&Nat.beq b.kind 3) || (Nat.beq a.kind 3&&b.soft.isSome&&Nat.beq b.kind 1)
def cq2 (x:Option Nat) (soft:Bool) (y:Option Nat):Bool:=match x with
 | none=>true
 | some a=>soft&&(match y with | none=>true | some b=> !(Nat.beq a b))
def dis (a b:x9) (x y:Option Nat):Bool:=bif Nat.beq a.kind 1 then cq2 x b.soft.isSome y else cq2 y a.soft.isSome x
def aQ1:Option Nat→Option Nat→Bool
 | some a,some b=>Nat.beq a b
 | _,_=>false
def bE7 (j:Nat) (tj ti:x9):Bool:=
 ti.before.testBit j || !(ax3 ti.looks tj.dst || ax3 tj.looks ti.dst || aQ1 ti.dst tj.dst || (aN6 ti.kind tj.kind&& !(av3 ti tj)))
def br9 (ti:x9):Nat→List x9→Bool
 | _,[]=>true
 | j,tj::r=>bE7 j tj ti&&br9 ti (j+1) r
def ab4:List x9→List x9→Bool
 | _,[]=>true
 | pre,t::r=>br9 t 0 pre&&ab4 (pre++ [t]) r
def be6 (o:Oper) (masks:List Nat):Nat:=o.after.toList.foldl (fun s e=>bif Region.binds .any e then s ||| (2^e.on) ||| masks.getD e.on 0 else s) 0
def X7:List Oper→List Nat→List Nat
 | [],acc=>acc
 | o::l,acc=>X7 l (acc++ [be6 o acc])
def l9 (P:Program) (K:FuncId→Nat) (ops:Array Oper):List x9:=
 let ms:=X7 ops.toList []
 (ops.toList.zip ms).map fun x=>⟨x.1.looksAt ops,x.1.dst,T4 P K ops.toList x.1,x.2,aV2 K x.1.op⟩
def an2:Nat→List Oper→Bool
 | _,[]=>true
 | i,o::l=>(o.after.toList.all fun e=> !Region.binds .any e || Nat.blt e.on i)&&an2 (i+1) l
def ba8 (mask:Nat) (σ:i4):List (Nat×i4)→i4
 | []=>σ
 | x::r=>bif mask.testBit x.1 then x.2 else ba8 mask σ r
def cx8 (σ:i4):List (Nat×i4)→i4
 | []=>σ
 | x::_=>x.2
def bf8 (gl:Nat→D) (s:Option Operand) (fr:Fr):Option Nat:=match s with | some a=>av5 (C4 gl fr a) | none=>none
def bl3 (t:x9) (b:Option Nat):List (Nat×x9×Option Nat)→Bool
 | []=>true
 | x::r=>(t.before.testBit x.1 || !(av3 t x.2.1) || dis t x.2.1 b x.2.2)&&bl3 t b r
def aD0 (n:Nat) (all:List Oper) (σ0:i4) (k:Fr→i4→Qy):Nat→List Oper→List x9→Fr→List (Nat×i4)→List (Nat×x9×Option Nat)→Qy
 | i,o::l,t::ts,fr,hist,bl=>bif bl3 t (bf8 E.gl t.soft fr) bl then aX9 E true n all o fr (ba8 t.before σ0 hist) fun fr' σ' =>aD0 n all σ0 k (i+1) l ts fr' (bif Nat.ble 2 t.kind then (i,σ')::hist else hist) ((i,t,bf8 E.gl t.soft fr)::bl) else .bad
 | _,[],[],fr,hist,_=>k fr (cx8 σ0 hist)
 | _,_,_,_,_,_=> .bad
def bs7 (n:Nat) (ops:Array Oper) (y:Nat) (fr:Fr) (σ:i4) (k:Fr→i4→Qy):Qy:=
 bif an2 0 ops.toList&&ab4 [] (l9 E.P E.kp ops) then aD0 E n ops.toList σ k 0 (ops.toList.take y) ((l9 E.P E.kp ops).take y) fr [] [] else .bad
def cZ9 (o:Oper):Bool:=match o.op with
 | .call c=>(match c.callee with | .value (.tmp _)=>true | _=>false)
 | _=>false
def bC7:Nat→List x9→Bool
 | _,[]=>true
 | i,t::ts=>((List.range i).all fun j=>t.before.testBit j)&&bC7 (i+1) ts
def aS8:Nat→List Oper→List x9→Option Nat
 | i,o::l,t::ts=>bif cZ9 o&&bC7 i (t::ts) then some i else aS8 (i+1) l ts
 | _,_,_=>none
def cb3:List ResultVar→List D→Fr→i4→(List D→Qy)→Qy
 | [],acc,_,_,k=>k acc
 | .tmp t::r,acc,fr,σ,k=>cb3 r (acc++ [o5 fr t]) fr σ k
 | .cell a t::r,acc,fr,σ,k=>conv E true false (fun d _=>cb3 r (acc++ [d]) fr σ k) σ (aq9 E.P t (o5 fr a) σ)
def cE1:List D→D
 | [d]=>d
 | ds=> .tup ds
def cL4 (d:D) (σ:i4):Qy:=
 bif C.keep then
  (match aP1 C.m [(0,d)] σ with
   | some ([x],s)=>bif Nat.beq x.1 0 then .ret x.2 s else .bad
   | _=> .bad)
 else
  match bL8 σ C.m d,C6 (bL8 σ C.m) (σ.take C.m) with
  | some d',some s=>bd8 (bK9 σ C.m d++(σ.take C.m).flatMap (cr4 (bK9 σ C.m))) (.ret d' s)
  | _,_=> .bad
def bk4 (fr:Fr) (σ:i4):Qy:=cb3 E C.fn.results.toList [] fr σ fun ds=>cL4 C (cE1 ds) σ
def bL5 (n:Nat) (σ:i4):Qy:=match aP1 C.m [] σ with | some x=> .ret (.int .i64 (n:Int)) x.2 | none=> .bad
def cg8:p9→Option (D×i4)
 | .ok d s=>some (d,s)
 | .need b q=>(match b with | true=>cg8 q | false=>none)
 | .row r k=>(match r with | some x=>cg8 (k x) | none=>none)
 | .rows r k=>cg8 (k r)
 | _=>none
def bl0 (n:Nat):List Oper→Fr→i4→Option (Fr×i4)
 | [],fr,σ=>some (fr,σ)
 | o::l,fr,σ=>match o.guard,aU4 n o.dst,cg8 (R8 E.P (C4 E.gl fr) o σ) with
  | none,true,some x=>bl0 n l (put fr o.dst x.1) x.2
  | _,_,_=>none
def ch7 (n:Nat):Code→Fr→i4→Option (Fr×i4)
 | .skip,fr,σ=>some (fr,σ)
 | .region _ ops false,fr,σ=>bl0 E n ops.toList fr σ
 | .seq a b,fr,σ=>(match ch7 n a fr σ with | some x=>ch7 n b x.1 x.2 | none=>none)
 | _,_,_=>none
def ct2:List Nat→List D→Fr→Fr
 | p::ps,y::ys,fr=>ct2 ps ys (ai4 fr p y)
 | _,_,fr=>fr
def bg4 (n:Nat) (ps:Array Nat) (a b:Code) (fr:Fr) (y:List D) (s:i4):Qy:=
 bif Nat.beq y.length ps.size then (match ch7 E n a (ct2 ps.toList y fr) s with | some x=> .go ⟨[.code b],x.1,x.2⟩ | none=> .bad) else .bad
def dc5 (t:List It):Nat→List It
 | 0=>t
 | 1=> .code .ret::t
 | n+2=> .code (.exit n)::t
def bl5 (t:List It) (fr:Fr) (n:Nat) (s:i4):Qy:=.go ⟨dc5 t n,fr,s⟩
def bz4 (m:Nat):List Nat→Nat
 | []=>m
 | b::l=>bz4 (bif Nat.blt b m then m else b+1) l
def idH (m:Nat) (b:Nat):Option Nat:=bif Nat.blt b m then some b else none
def cF2 (t:List It) (fr:Fr) (σ:i4) (d:D) (ps:Array Nat) (a b:Code):Qy:=
 match d with
 | .fn g [] caps=>
  let ids:=ai5 σ 200 [] (caps.flatMap (ae7 l8))
  let f:=tr (M8 fun b=>aB6 ids b 0) l8
  let le:=(E.pol g).lend
  let m:=bz4 (bif le then bz4 C.m ids else C.m) (fr.flatMap fun x=>ae7 l8 x.2)
  (match bK2 0 ids&&ids.all (fun b=>Nat.blt b σ.length)&&be1 E.P g&&ps.toList.all (fun p=>Nat.blt p C.fn.ntmps)&&Nat.ble C.m m&&Nat.ble m σ.length,L2 f caps,C6 f (x7 σ ids),be8 (tr (M8 (idH m)) l8) fr with
   | true,some caps',some sub,some fr' =>(bif le then .rng m g caps' sub σ ids (bg4 E C.fn.ntmps ps a b fr') (bl5 t fr') else .rng m g caps' sub (u9 (fun i=> !(ids.contains i)) 0 σ) [] (bg4 E C.fn.ntmps ps a b fr') (bl5 t fr'))
   | _,_,_,_=> .bad)
 | _=> .bad
def bB6 (m:M):Qy:=
 match m.td with
 | []=>bif C.rb then bL5 C 0 m.st else bk4 E C m.fr m.st
 | .blk _::t=> .go ⟨t,m.fr,m.st⟩
 | .sc::t=> .go ⟨t,m.fr,m.st⟩
 | .lp c k::t=>(match aP1 C.m (bc2 C.fn.ntmps k m.fr) m.st with
  | some (fr,st)=> .go ⟨.lpc c k::t,fr,st⟩
  | none=> .bad)
 | .lpc c k::t=> .go ⟨.code c::.lp c k::t,m.fr,m.st⟩
 | .ops _ []::t=> .go ⟨t,m.fr,m.st⟩
 | .ops all (o::l)::t=>aX9 E false C.fn.ntmps all o m.fr m.st fun fr st=> .go ⟨.ops all l::t,fr,st⟩
 | .code c::t=>match c with
  | .skip=> .go ⟨t,m.fr,m.st⟩
  | .label _=> .go ⟨t,m.fr,m.st⟩
  | .scope c=> .go ⟨.code c::.sc::t,m.fr,m.st⟩
  | .seq a b=> .go ⟨.code a::.code b::t,m.fr,m.st⟩
  | .block id c=> .go ⟨.code c::.blk id::t,m.fr,m.st⟩
  | .loop c=>let r:=bh2 (co7 C.fn) t; .go ⟨.lp c (au3 (co7 C.fn) (.loop c) r.1 r.2)::t,m.fr,m.st⟩
  | .cond c x y=>(match C4 E.gl m.fr c with
   | .bool b=> .split b fun z=> .go ⟨.code (if z then x else y)::t,m.fr,m.st⟩
   | _=> .bad)
  | .exit id=>(match aT5 id t with | some t' => .go ⟨t',m.fr,m.st⟩ | none=>bif C.rb then bL5 C (id+2) m.st else .bad)
  | .ret=>bif C.rb then bL5 C 1 m.st else bk4 E C m.fr m.st
  | .rangeFunc f ps a b=>bif C.rb || C.it then .bad else cF2 E C t m.fr m.st (C4 E.gl m.fr f) ps a b
  | .region _ ops false=> .go ⟨.ops ops.toList ops.toList::t,m.fr,m.st⟩
  | .region _ ops true=>(match aS8 0 ops.toList (l9 E.P E.kp ops) with
   | some y=>bs7 E C.fn.ntmps ops y m.fr m.st fun fr st=> .go ⟨.ops ops.toList (ops.toList.drop y)::t,fr,st⟩
   | none=>bs7 E C.fn.ntmps ops ops.size m.fr m.st fun fr st=> .go ⟨t,fr,st⟩)
  | _=> .bad
def G6:Nat→Qy→Qy
 | 0,q=>q
 | n+1,q=>match q with
  | .go m=>G6 n (bB6 E C m)
  | .need b q=>(match b with | true=>G6 n q | false=> .bad)
  | .split b k=>G6 n (k b)
  | .row r k=>(match r with | some x=>G6 n (k x) | none=> .bad)
  | .rows r k=>G6 n (k r)
  | .any p k=>(match p with | false=>G6 n (k false) | true=> .any true k)
  | .str r k=>(match r with | some x=>G6 n (k x) | none=> .bad)
  | q=>q
end
def be5 (f:Func) (args:List D) (σ:i4):Option M:=
 match f.body with
 | some c=>bif Nat.ble args.length f.ntmps then some ⟨[.code c],(List.range args.length).zip args,σ⟩ else none
 | none=>none
def S8 (sz:Nat) (r:List D):Prop:=r.length=sz∧r.all t9=true
/-- A datum stands for a value: 'Im' the blocks that nobody writes to, 'φ' where the local blocks lie. -/
inductive i7 (w : World) (Im : Nat → Prop) : o8 → D → Value → Prop
  | undef {φ} (v : Value) : i7 w Im φ .undef v
  | bool {φ} (b : Bool) : i7 w Im φ (.bool b) (.bool b)
  | int {φ} (k : IntKind) (n : Int) : i7 w Im φ (.int k n) (.int k n)
  | str {φ} (s : ByteArray) (l : List UInt8) : s.data.toList = l → i7 w Im φ (.str l) (.string s)
  | nilp {φ} : i7 w Im φ .nilp (.pointer none)
  | ptr {φ} (b i o : Nat) (l : Q3) : φ[b]? = some l → i7 w Im φ (.ptr b i o) (.pointer (some ⟨l.blk, l.base + i * l.sz + o, none⟩))
  | iptr {φ} (sz : Nat) (rows : List (List D)) (i o c base : Nat) (vf : Nat → Nat → Value) : (rows ≠ [] → Im c) → (∀ r ∈ rows, S8 sz r) →
      (∀ (i j : Nat) (r : List D) (d : D), rows[i]? = some r → r[j]? = some d → w.cell? ⟨c, base + i * sz + j, none⟩ = some (vf i j)) →
      (∀ (i j : Nat) (r : List D) (d : D), rows[i]? = some r → r[j]? = some d → i7 w Im [] d (vf i j)) →
      i7 w Im φ (.iptr sz rows i o) (.pointer (some ⟨c, base + i * sz + o, none⟩))
  | nilsl {φ} (sz : Nat) : i7 w Im φ (.sl true sz []) (.slice none 0 0)
  | nilsl2 {φ} (sz : Nat) : i7 w Im φ (.sl false sz []) (.slice none 0 0)
  | mnil {φ} (b i : Nat) (ex : Bool) (l : Q3) : φ[b]? = some l → i7 w Im φ (.msl b i 0 0 ex) (.slice none 0 0)
  | sl {φ} (sz : Nat) (rows : List (List D)) (c base cap : Nat) (vf : Nat → Nat → Value) (a : Addr) : (rows ≠ [] → a = ⟨c, base, none⟩) → (rows ≠ [] → Im c) → (∀ r ∈ rows, S8 sz r) → rows.length ≤ cap →
      (∀ (i j : Nat) (r : List D) (d : D), rows[i]? = some r → r[j]? = some d → w.cell? ⟨c, base + i * sz + j, none⟩ = some (vf i j)) →
      (∀ (i j : Nat) (r : List D) (d : D), rows[i]? = some r → r[j]? = some d → i7 w Im [] d (vf i j)) →
      i7 w Im φ (.sl false sz rows) (.slice (some a) rows.length cap)
  | msl {φ} (b i len lo : Nat) (ex : Bool) (l : Q3) (cap : Nat) (a : Addr) : φ[b]? = some l → len ≤ lo → lo ≤ cap → (ex = true → cap = lo) → l.base + (i + cap) * l.sz ≤ l.size → a.spot = none →
      (cap ≠ 0 → a = ⟨l.blk, l.base + i * l.sz, none⟩) → i7 w Im φ (.msl b i len lo ex) (.slice (some a) len cap)
  | fn {φ} (f : FuncId) (first caps : List D) (vf vc : Array Value) : first.length = vf.size → caps.length = vc.size →
      (∀ (i : Nat) (d : D) (v : Value), first[i]? = some d → vf[i]? = some v → i7 w Im φ d v) → (∀ (i : Nat) (d : D) (v : Value), caps[i]? = some d → vc[i]? = some v → i7 w Im φ d v) →
      i7 w Im φ (.fn f first caps) (.func (.func f) vf vc)
  | nilfn {φ} : i7 w Im φ .nilfn .nilFunc
  | agg {φ} (cs : List D) (vs : Array Value) : cs.length = vs.size → (∀ (i : Nat) (d : D) (v : Value), cs[i]? = some d → vs[i]? = some v → i7 w Im φ d v) → i7 w Im φ (.agg cs) (.agg vs)
  | tup {φ} (cs : List D) (vs : Array Value) : cs.length = vs.size → (∀ (i : Nat) (d : D) (v : Value), cs[i]? = some d → vs[i]? = some v → i7 w Im φ d v) → i7 w Im φ (.tup cs) (.tuple vs)
  | iface {φ} (t : TypeId) (d : D) (v : Value) : i7 w Im φ d v → i7 w Im φ (.iface t d) (.iface t v)
  | nili {φ} : i7 w Im φ .nili .nilIface
  | yld {φ} (l : Nat) : i7 w Im φ (.yld l) (.func (.yield l) #[] #[])
  | arr {φ} (cs : List D) (vs : Array Value) : cs.length = vs.size → (∀ (i : Nat) (d : D) (v : Value), cs[i]? = some d → vs[i]? = some v → i7 w Im [] d v) → i7 w Im φ (.arr cs) (.agg vs)
def l5 (φ φ' :o8):Prop:=∀(b:Nat) (l:Q3),φ[b]? =some l→φ'[b]? =some l
theorem l5.refl (φ:o8):l5 φ φ:=fun _ _ h=>h
theorem l5.trans {a b c:o8} (h:l5 a b) (h' :l5 b c):l5 a c:=fun _ _ x=>h' _ _ (h _ _ x)
theorem l5.nil (φ:o8):l5 [] φ:=fun b l h=>by simp at h
theorem l5.append (φ ψ:o8):l5 φ (φ++ψ):=fun b l h=>by
 have:=(List.getElem?_eq_some_iff.1 h).1
 rw[List.getElem?_append_left this];exact h
theorem aB0 {w w' :World}{a:Addr} (h:w'.heap[a.block]? =w.heap[a.block]?):w'.cell? a=w.cell? a:=by
 simp only[World.cell?,h]
theorem bO3 {w w' :World}{a:Addr} (h:w'.heap[a.block]? =w.heap[a.block]?):w'.frozen? a=w.frozen? a:=by
 simp only[World.frozen?,h]
theorem i7.mono {w w' :World}{Im Im' :Nat→Prop}{φ φ' :o8}{d:D}{v:Value} (h:i7 w Im φ d v)
  (hIm:∀c,Im c→Im' c) (hw:∀c,Im c→w'.heap[c]? =w.heap[c]?) (hφ:l5 φ φ'):i7 w' Im' φ' d v:=by
 induction h generalizing φ' with
 | undef v=>exact .undef v
 | bool b=>exact .bool b
 | int k n=>exact .int k n
 | str s l h=>exact .str s l h
 | nilp=>exact .nilp
 | ptr b i o l h=>exact .ptr b i o l (hφ _ _ h)
 | iptr sz rows i o c base vf hc hr hcell _ ih=>
  exact .iptr sz rows i o c base vf (fun h=>hIm _ (hc h)) hr (fun i j r d h1 h2=>by rw[aB0 (hw _ (hc (fun e=>by rw[e] at h1;simp at h1)))];exact hcell i j r d h1 h2) (fun i j r d h1 h2=>ih i j r d h1 h2 (l5.refl _))
 | nilsl sz=>exact .nilsl sz
 | nilsl2 sz=>exact .nilsl2 sz
 | mnil b i ex l h=>exact .mnil b i ex l (hφ _ _ h)
 | sl sz rows c base cap vf a ha hc hr hl hcell _ ih=>
  exact .sl sz rows c base cap vf a ha (fun h=>hIm _ (hc h)) hr hl (fun i j r d h1 h2=>by rw[aB0 (hw _ (hc (fun e=>by rw[e] at h1;simp at h1)))];exact hcell i j r d h1 h2) (fun i j r d h1 h2=>ih i j r d h1 h2 (l5.refl _))
 | msl b i len lo ex l cap a h h1 h2 h3 h4 h5 h6=>exact .msl b i len lo ex l cap a (hφ _ _ h) h1 h2 h3 h4 h5 h6
 | fn f first caps vf vc h1 h2 _ _ ih1 ih2=>exact .fn f first caps vf vc h1 h2 (fun i d v a b=>ih1 i d v a b hφ) (fun i d v a b=>ih2 i d v a b hφ)
 | nilfn=>exact .nilfn
 | agg cs vs h _ ih=>exact .agg cs vs h (fun i d v a b=>ih i d v a b hφ)
 | tup cs vs h _ ih=>exact .tup cs vs h (fun i d v a b=>ih i d v a b hφ)
 | iface t d v _ ih=>exact .iface t d v (ih hφ)
 | nili=>exact .nili
 | yld l=>exact .yld l
 | arr cs vs h _ ih=>exact .arr cs vs h (fun i d v a b=>ih i d v a b (l5.refl _))
theorem i7.one {w:World}{Im:Nat→Prop}{φ:o8}{d:D}{v:Value} (h:i7 w Im φ d v) (hs:t9 d=true):v.oneCell' =true:=by
 cases h<;>first | rfl | simp[t9] at hs
theorem i7.arr_agg {w:World}{Im:Nat→Prop}{φ:o8}{cs:List D}{v:Value} (h:i7 w Im φ (.arr cs) v):i7 w Im φ (.agg cs) v:=by
 cases h with
 | arr cs vs h1 h2=>exact .agg cs vs h1 fun i d v a b=>(h2 i d v a b).mono (fun _ h=>h) (fun _ _=>rfl) (l5.nil _)
theorem i7.closed {w:World}{Im:Nat→Prop}{φ:o8}{d:D}{v:Value} (h:i7 w Im φ d v) (hs:t9 d=true) (hr:r6 d=false):i7 w Im [] d v:=by
 cases h with
 | undef=>simp[t9] at hs
 | bool b=>exact .bool b
 | int k n=>exact .int k n
 | str s l h=>exact .str s l h
 | nilp=>exact .nilp
 | ptr b i o l h=>simp[r6] at hr
 | iptr sz rows i o c base vf hc hq hcell ih=>exact .iptr sz rows i o c base vf hc hq hcell ih
 | nilsl sz=>exact .nilsl sz
 | nilsl2 sz=>exact .nilsl2 sz
 | mnil=>simp[r6] at hr
 | sl sz rows c base cap vf a ha hc hq hl hcell ih=>exact .sl sz rows c base cap vf a ha hc hq hl hcell ih
 | msl=>simp[r6] at hr
 | fn f first caps vf vc h1 h2 h3 h4=>
  simp[r6] at hr
  obtain⟨rfl,rfl⟩:=hr
  exact .fn f [] [] vf vc h1 h2 (fun i d v a=>by simp at a) (fun i d v a=>by simp at a)
 | nilfn=>exact .nilfn
 | agg=>simp[t9] at hs
 | tup=>simp[t9] at hs
 | iface=>simp[r6] at hr
 | nili=>exact .nili
 | yld l=>exact .yld l
 | arr=>simp[t9] at hs
/-! ### stores -/
structure W6 (w:World) (Im:Nat→Prop) (φ:o8) (B:A5) (l:Q3):Prop where
 pos:0<B.sz
 sz:l.sz=B.sz
 len:∀r∈B.rows,S8 B.sz r
 fit:l.base+B.rows.length*B.sz≤l.size
 mem:∀o,o<l.size→(w.cell? ⟨l.blk,o,none⟩).isSome=true∧w.frozen? ⟨l.blk,o,none⟩=false
 lt:0<l.size→l.blk<w.heap.size
 fz:0<l.size→∀(cs:Array Value) (e:TypeId) (lo hi:Nat),w.heap[l.blk]? =some (.cells cs e (lo,hi))→lo=hi∨l.size≤lo
 rel:∀(i j:Nat) (r:List D) (d:D),B.rows[i]? =some r→r[j]? =some d→∃v,w.cell? ⟨l.blk,l.base+i*B.sz+j,none⟩=some v∧i7 w Im (if B.deep then φ else []) d v
theorem W6.pos' {w:World}{Im:Nat→Prop}{φ:o8}{B:A5}{l:Q3} (h:W6 w Im φ B l) {i j:Nat}{r:List D}{d:D} (h1:B.rows[i]? =some r) (h2:r[j]? =some d):0<l.size:=by
 have a:=(List.getElem?_eq_some_iff.1 h1).1
 have b:=(List.getElem?_eq_some_iff.1 h2).1
 rw[(h.len r (List.mem_of_getElem? h1)).1] at b
 have c:=Nat.mul_le_mul_right B.sz (show i+1≤B.rows.length from a)
 rw[Nat.add_mul] at c
 have:=h.fit
 omega
theorem W6.size {w:World}{Im:Nat→Prop}{φ:o8}{B:A5}{l:Q3} (h:W6 w Im φ B l) (h1:B.rows≠ []):0<l.size:=by
 have a:=List.length_pos_iff.2 h1
 have c:=Nat.mul_le_mul_right B.sz (show 1≤B.rows.length from a)
 have:=h.fit
 have:=h.pos
 omega
theorem J5 {σ:i4}{b:Nat}{B:A5}:sget σ b=some B↔σ[b]? =some (some B):=by
 unfold sget;split<;>simp_all
theorem I7 {σ:i4}{b:Nat}{B:A5} (h:sget σ b=some B):b<σ.length:=(List.getElem?_eq_some_iff.1 (J5.1 h)).1
def m8 (φ:o8) (σ:i4) (c:Nat):Prop:=∃(b:Nat) (B:A5) (l:Q3),φ[b]? =some l∧sget σ b=some B∧l.blk=c∧0<l.size
structure Inv (w:World) (Im:Nat→Prop) (φ:o8) (σ:i4):Prop where
 len:φ.length=σ.length
 blk:∀(b:Nat) (B:A5) (l:Q3),sget σ b=some B→φ[b]? =some l→W6 w Im φ B l
 inj:∀(b b' :Nat) (B B' :A5) (l l' :Q3),b≠b' →φ[b]? =some l→φ[b']? =some l' →sget σ b=some B→sget σ b' =some B' →0<l.size→0<l'.size→l.blk≠l'.blk
 sep:∀c,Im c→¬m8 φ σ c
 im:∀c,Im c→c<w.heap.size
theorem Inv.loc {w:World}{Im:Nat→Prop}{φ:o8}{σ:i4} (h:Inv w Im φ σ) {b:Nat}{B:A5} (hb:sget σ b=some B):∃l,φ[b]? =some l∧W6 w Im φ B l:=by
 have:=I7 hb
 rw[←h.len] at this
 exact⟨φ[b],List.getElem?_eq_getElem this,h.blk b B _ hb (List.getElem?_eq_getElem this)⟩
theorem Inv.own_lt {w:World}{Im:Nat→Prop}{φ:o8}{σ:i4} (h:Inv w Im φ σ) {c:Nat} (hc:m8 φ σ c):c<w.heap.size:=by
 obtain⟨b,B,l,h1,h2,rfl,hp⟩:=hc
 exact(h.blk b B l h2 h1).lt hp
theorem Inv.nil {w:World}{Im:Nat→Prop} (h:∀c,Im c→c<w.heap.size):Inv w Im [] [] where
 len:=rfl
 blk:=fun b B l h=>by simp[sget] at h
 inj:=fun b b' B B' l l' _ h=>by simp at h
 sep:=fun c _ ⟨b,B,l,h,_⟩=>by simp at h
 im:=h
def Io (w w' :World):Prop:=w'.os=w.os∧w'.tape=w.tape∧w'.output=w.output
theorem Io.refl (w:World):Io w w:=⟨rfl,rfl,rfl⟩
theorem Io.trans {a b c:World} (h:Io a b) (k:Io b c):Io a c:=⟨k.1.trans h.1,k.2.1.trans h.2.1,k.2.2.trans h.2.2⟩
structure Ext (w w' :World) (O:Nat→Prop):Prop where
 size:w.heap.size≤w'.heap.size
 same:∀c,c<w.heap.size→¬O c→w'.heap[c]? =w.heap[c]?
 io:Io w w'
/-- From one state to a later one: the first m blocks keep their places. -/
structure Tr (m : Nat) (w : World) (Im : Nat → Prop) (φ : o8) (σ : i4) (w' : World) (Im' : Nat → Prop) (φ' : o8) (σ' : i4) : Prop where
  ext : Ext w w' (m8 φ σ)
  own : ∀ c, m8 φ' σ' c → m8 φ σ c ∨ w.heap.size ≤ c
  pre : ∀ (b : Nat), b < m → φ'[b]? = φ[b]?
  im : ∀ c, Im c → Im' c
  imN : ∀ c, Im' c → Im c ∨ m8 φ σ c ∨ w.heap.size ≤ c
theorem Tr.refl (m:Nat) (w:World) (Im:Nat→Prop) (φ:o8) (σ:i4):Tr m w Im φ σ w Im φ σ:=
 ⟨⟨Nat.le_refl _,fun _ _ _=>rfl,⟨rfl,rfl,rfl⟩⟩,fun _ h=> .inl h,fun _ _=>rfl,fun _ h=>h,fun _ h=> .inl h⟩
theorem Tr.trans {m:Nat}{w1 w2 w3:World}{I1 I2 I3:Nat→Prop}{φ1 φ2 φ3:o8}{σ1 σ2 σ3:i4}
  (a:Tr m w1 I1 φ1 σ1 w2 I2 φ2 σ2) (b:Tr m w2 I2 φ2 σ2 w3 I3 φ3 σ3):Tr m w1 I1 φ1 σ1 w3 I3 φ3 σ3 where
 ext:=⟨Nat.le_trans a.ext.size b.ext.size,fun c hc ho=>by
  rw[b.ext.same c (Nat.lt_of_lt_of_le hc a.ext.size) (fun h=>by rcases a.own c h with h | h;exact ho h;omega)]
  exact a.ext.same c hc ho,a.ext.io.trans b.ext.io⟩
 own:=fun c h=>by
  rcases b.own c h with h | h
  ·exact a.own c h
  ·exact .inr (Nat.le_trans a.ext.size h)
 pre:=fun i hi=>by rw[b.pre i hi,a.pre i hi]
 im:=fun c h=>b.im c (a.im c h)
 imN:=fun c h=>by
  rcases b.imN c h with h | h | h
  ·exact a.imN c h
  ·rcases a.own c h with h | h
   ·exact .inr (.inl h)
   ·exact .inr (.inr h)
  ·exact .inr (.inr (Nat.le_trans a.ext.size h))
theorem Tr.le {m n:Nat}{w w' :World}{I I' :Nat→Prop}{φ φ' :o8}{σ σ' :i4} (h:Tr m w I φ σ w' I' φ' σ') (hn:n≤m):Tr n w I φ σ w' I' φ' σ' :=
 ⟨h.ext,h.own,fun b hb=>h.pre b (by omega),h.im,h.imN⟩
theorem Tr.keeps {m:Nat}{w w' :World}{I I' :Nat→Prop}{φ φ' :o8}{σ σ' :i4} (h:Tr m w I φ σ w' I' φ' σ') (hi:Inv w I φ σ) (c:Nat) (hc:I c):w'.heap[c]? =w.heap[c]? :=
 h.ext.same c (hi.im c hc) (hi.sep c hc)
theorem Tr.rel {m:Nat}{w w' :World}{I I' :Nat→Prop}{φ φ' :o8}{σ σ' :i4} (h:Tr m w I φ σ w' I' φ' σ') (hi:Inv w I φ σ) (hφ:l5 φ φ') {d:D}{v:Value}
 (hr:i7 w I φ d v):i7 w' I' φ' d v:=hr.mono h.im (h.keeps hi) hφ
theorem Tr.drew (m:Nat) (w:World) (Im:Nat→Prop) (φ:o8) (σ:i4):Tr m w Im φ σ w.drew Im φ σ:=
 ⟨⟨Nat.le_refl _,fun _ _ _=>rfl,⟨rfl,rfl,rfl⟩⟩,fun _ h=> .inl h,fun _ _=>rfl,fun _ h=>h,fun _ h=> .inl h⟩
theorem W6.of_heap {w w' :World}{Im Im' :Nat→Prop}{φ φ' :o8}{B:A5}{l:Q3} (h:W6 w Im φ B l) (hh:0<l.size→w'.heap[l.blk]? =w.heap[l.blk]?) (hsz:w.heap.size≤w'.heap.size)
  (hIm:∀c,Im c→Im' c) (hw:∀c,Im c→w'.heap[c]? =w.heap[c]?) (hφ:l5 φ φ'):W6 w' Im' φ' B l where
 pos:=h.pos
 sz:=h.sz
 len:=h.len
 fit:=h.fit
 mem:=fun o ho=>by rw[aB0 (a:=⟨l.blk,o,none⟩) (hh (by omega)),bO3 (a:=⟨l.blk,o,none⟩) (hh (by omega))];exact h.mem o ho
 lt:=fun hp=>Nat.lt_of_lt_of_le (h.lt hp) hsz
 fz:=fun hp cs e lo hi hx=>h.fz hp cs e lo hi (by rw[←hh hp];exact hx)
 rel:=fun i j r d h1 h2=>by
  obtain⟨v,hv,hr⟩:=h.rel i j r d h1 h2
  refine⟨v,by rw[aB0 (a:=⟨l.blk,_,none⟩) (hh (h.pos' h1 h2))];exact hv,hr.mono hIm hw ?_⟩
  split
  ·exact hφ
  ·exact l5.refl _
theorem Inv.drew {w:World}{Im:Nat→Prop}{φ:o8}{σ:i4} (h:Inv w Im φ σ):Inv w.drew Im φ σ:=
 ⟨h.len,fun b B l h1 h2=>(h.blk b B l h1 h2).of_heap (fun _=>rfl) (Nat.le_refl _) (fun _ h=>h) (fun _ _=>rfl) (l5.refl _),h.inj,h.sep,h.im⟩
theorem z7 {σ τ:i4}{b:Nat} (h:b<σ.length):sget (σ++τ) b=sget σ b:=by
 unfold sget;rw[List.getElem?_append_left h]
theorem bB8 {σ:i4}{B:Option A5}:sget (σ++ [B]) σ.length=B:=by
 unfold sget;simp;cases B<;>rfl
theorem K9 {σ:i4}{B:Option A5}{b:Nat}{B' :A5} (h:sget (σ++ [B]) b=some B'):(b<σ.length∧sget σ b=some B')∨(b=σ.length∧B=some B'):=by
 have hl:=I7 h
 simp at hl
 by_cases hb:b<σ.length
 ·rw[z7 hb] at h;exact .inl ⟨hb,h⟩
 ·have:b=σ.length:=by omega
  subst this
  rw[bB8] at h;exact .inr ⟨rfl,h⟩
theorem aj2 {φ:o8}{l l' :Q3}{b:Nat} (h:(φ++ [l])[b]? =some l'):(b<φ.length∧φ[b]? =some l')∨(b=φ.length∧l' =l):=by
 have hl:=(List.getElem?_eq_some_iff.1 h).1
 simp at hl
 by_cases hb:b<φ.length
 ·rw[List.getElem?_append_left hb] at h;exact .inl ⟨hb,h⟩
 ·have:b=φ.length:=by omega
  subst this
  simp at h;exact .inr ⟨rfl,h.symm⟩
theorem Inv.alloc {w:World}{Im:Nat→Prop}{φ:o8}{σ:i4} (h:Inv w Im φ σ) (cs:Array Value) (e:TypeId) (fz:Nat×Nat) (B:A5) (hpos:0<B.sz)
  (hfz0:fz.1=fz.2∨cs.size≤fz.1) (hlen:∀r∈B.rows,S8 B.sz r) (hfit:B.rows.length*B.sz≤cs.size)
  (hrel:∀(i j:Nat) (r:List D) (d:D),B.rows[i]? =some r→r[j]? =some d→∃v,cs[i*B.sz+j]? =some v∧i7 w Im (if B.deep then φ else []) d v):
  Inv (w.alloc (.cells cs e fz)) Im (φ++ [⟨w.heap.size,0,B.sz,cs.size⟩]) (σ++ [some B])∧
  Tr φ.length w Im φ σ (w.alloc (.cells cs e fz)) Im (φ++ [⟨w.heap.size,0,B.sz,cs.size⟩]) (σ++ [some B]):=by
 have hfz:∀o,o<cs.size→¬(fz.1≤o∧o<fz.2):=fun o ho=>by omega
 have hsame:∀c,c<w.heap.size→(w.alloc (.cells cs e fz)).heap[c]? =w.heap[c]? :=fun c hc=>by
  rw[show(w.alloc (.cells cs e fz)).heap=w.heap.push (.cells cs e fz) from rfl,Array.getElem?_push];simp[Nat.ne_of_lt hc]
 have hnew:(w.alloc (.cells cs e fz)).heap[w.heap.size]? =some (.cells cs e fz):=by rw[show(w.alloc (.cells cs e fz)).heap=w.heap.push (.cells cs e fz) from rfl];simp
 have hφ:l5 φ (φ++ [⟨w.heap.size,0,B.sz,cs.size⟩]):=l5.append _ _
 have hw:∀c,Im c→(w.alloc (.cells cs e fz)).heap[c]? =w.heap[c]? :=fun c hc=>hsame c (h.im c hc)
 have hown:∀c,m8 (φ++ [⟨w.heap.size,0,B.sz,cs.size⟩]) (σ++ [some B]) c→m8 φ σ c∨w.heap.size≤c:=by
  rintro c ⟨b,B',l,h1,h2,rfl,hp⟩
  rcases K9 h2 with⟨hb,h2⟩ | ⟨hb,_⟩
  ·rcases aj2 h1 with⟨_,h1⟩ | ⟨hb',_⟩
   ·exact .inl ⟨b,B',l,h1,h2,rfl,hp⟩
   ·have:=h.len;omega
  ·rcases aj2 h1 with⟨hb',_⟩ | ⟨_,rfl⟩
   ·have:=h.len;omega
   ·exact .inr (Nat.le_refl _)
 refine⟨⟨by simp[h.len],?_,?_,?_,fun c hc=>by have:=h.im c hc;simp;omega⟩,⟨⟨by simp,fun c hc _=>hsame c hc,⟨rfl,rfl,rfl⟩⟩,hown,fun b hb=>by rw[List.getElem?_append_left hb],fun _ h=>h,fun _ h=> .inl h⟩⟩
 ·intro b B' l h1 h2
  rcases K9 h1 with⟨hb,h1⟩ | ⟨hb,hB⟩
  ·rcases aj2 h2 with⟨_,h2⟩ | ⟨hb',_⟩
   ·have hk:=h.blk b B' l h1 h2
    exact hk.of_heap (fun hp=>hsame _ (hk.lt hp)) (by simp) (fun _ h=>h) hw hφ
   ·have:=h.len;omega
  ·rcases aj2 h2 with⟨hb',_⟩ | ⟨_,rfl⟩
   ·have:=h.len;omega
   ·obtain rfl:=Option.some.inj hB
    refine⟨hpos,rfl,hlen,by simpa using hfit,fun o ho=> ?_,fun _=>by simp,fun _ cs' e' lo hi hx=> ?_,fun i j r d h3 h4=> ?_⟩
    ·simp only at ho
     refine⟨by simp only[World.cell?,hnew];simp[ho],?_⟩
     have:=hfz o ho
     simp only[World.frozen?,hnew]
     rw[Bool.and_eq_false_iff]
     simp only[decide_eq_false_iff_not]
     by_cases h5:fz.1≤o
     ·exact .inr (fun h6=>this ⟨h5,h6⟩)
     ·exact .inl h5
    ·simp only[hnew,Option.some.injEq,Obj.cells.injEq] at hx
     obtain⟨-,-,rfl⟩:=hx
     exact hfz0
    ·obtain⟨v,hv,hr⟩:=hrel i j r d h3 h4
     refine⟨v,by simp only[World.cell?,hnew];simpa using hv,hr.mono (fun _ h=>h) hw ?_⟩
     split
     ·exact hφ
     ·exact l5.refl _
 ·intro b b' B1 B2 l l' hne h1 h2 h3 h4 p1 p2
  rcases K9 h3 with⟨hb,h3⟩ | ⟨hb,_⟩<;>rcases K9 h4 with⟨hb',h4⟩ | ⟨hb',_⟩
  ·rw[List.getElem?_append_left (by rw[h.len];exact hb)] at h1
   rw[List.getElem?_append_left (by rw[h.len];exact hb')] at h2
   exact h.inj b b' B1 B2 l l' hne h1 h2 h3 h4 p1 p2
  ·rw[List.getElem?_append_left (by rw[h.len];exact hb)] at h1
   rw[hb',←h.len] at h2
   simp at h2
   have:=(h.blk b B1 l h3 h1).lt p1
   rw[←h2];simp;omega
  ·rw[List.getElem?_append_left (by rw[h.len];exact hb')] at h2
   rw[hb,←h.len] at h1
   simp at h1
   have:=(h.blk b' B2 l' h4 h2).lt p2
   rw[←h1];simp;omega
  ·omega
 ·intro c hc ho
  rcases hown c ho with ho | ho
  ·exact h.sep c hc ho
  ·have:=h.im c hc;omega
theorem bi4 (b:Nat):∀(vs:List Value) (o:Nat) (w:World) (c:Nat),c≠b→(w.setCells b o vs).heap[c]? =w.heap[c]?
 | [],_,_,_,_=>rfl
 | v::r,o,w,c,h=>by
  rw[World.setCells,bi4 b r (o+1) _ c h]
  simp[World.setCell,Array.getElem?_modify,Ne.symm h]
theorem ak0 (b:Nat):∀(vs:List Value) (o:Nat) (w:World),(w.setCells b o vs).heap.size=w.heap.size
 | [],_,_=>rfl
 | v::r,o,w=>by rw[World.setCells,ak0 b r (o+1)];simp
theorem bv6 (b:Nat):∀(vs:List Value) (o:Nat) (w:World),Io w (w.setCells b o vs)
 | [],_,w=>Io.refl w
 | v::r,o,w=>(show Io w (w.setCell ⟨b,o,none⟩ v) from⟨rfl,rfl,rfl⟩).trans (bv6 b r (o+1) _)
theorem P1 {σ:i4}{b:Nat}{B:Option A5} (h:b<σ.length):sget (σ.set b B) b=B:=by
 unfold sget;simp[h];cases B<;>rfl
theorem z5 {σ:i4}{b c:Nat}{B:Option A5} (h:b≠c):sget (σ.set b B) c=sget σ c:=by
 unfold sget;rw[List.getElem?_set_ne h]
theorem bv7 (b:Nat):∀(vs:List Value) (o:Nat) (w:World) {cs:Array Value}{e:TypeId}{f:Nat×Nat},(w.setCells b o vs).heap[b]? =some (.cells cs e f)→∃cs',w.heap[b]? =some (.cells cs' e f)
 | [],_,_,cs,_,_,h=>⟨cs,h⟩
 | v::r,o,w,cs,e,f,h=>by
  rw[World.setCells] at h
  obtain⟨cs',h'⟩:=bv7 b r (o+1) _ h
  simp only[World.setCell,Array.getElem?_modify,if_true] at h'
  cases hb:w.heap[b]? with
  | none=>rw[hb] at h';cases h'
  | some x=>
   rw[hb] at h'
   cases x<;>simp at h'
   obtain⟨-,rfl,rfl⟩:=h'
   exact⟨_,rfl⟩
theorem Inv.write {w:World}{Im:Nat→Prop}{φ:o8}{σ:i4} (h:Inv w Im φ σ) {b:Nat}{B B' :A5}{l:Q3} (hb:sget σ b=some B) (hl:φ[b]? =some l)
  (o:Nat) (vs:List Value) (ho:o+vs.length≤l.size) (hsz:B'.sz=B.sz) (hlen:∀r∈B'.rows,S8 B.sz r) (hfit:l.base+B'.rows.length*B.sz≤l.size)
  (hrel:∀(i j:Nat) (r:List D) (d:D),B'.rows[i]? =some r→r[j]? =some d→
   (o≤l.base+i*B.sz+j∧l.base+i*B.sz+j<o+vs.length∧∃v,vs[l.base+i*B.sz+j-o]? =some v∧i7 w Im (if B'.deep then φ else []) d v)∨
   ((l.base+i*B.sz+j<o∨o+vs.length≤l.base+i*B.sz+j)∧∃r',B.rows[i]? =some r' ∧r'[j]? =some d))
  (hdeep:B.deep=true→B'.deep=true):
  Inv (w.setCells l.blk o vs) Im φ (σ.set b (some B'))∧Tr φ.length w Im φ σ (w.setCells l.blk o vs) Im φ (σ.set b (some B')):=by
 have hk:=h.blk b B l hb hl
 have hblt:=I7 hb
 have hsame:∀c,c≠l.blk→(w.setCells l.blk o vs).heap[c]? =w.heap[c]? :=fun c hc=>bi4 _ _ _ _ _ hc
 have hcase:vs= []∨0<l.size:=by
  cases vs with
  | nil=>exact .inl rfl
  | cons a r=>exact .inr (by simp at ho;omega)
 have hown0:0<l.size→m8 φ σ l.blk:=fun hp=>⟨b,B,l,hl,hb,rfl,hp⟩
 have hw:∀c,Im c→(w.setCells l.blk o vs).heap[c]? =w.heap[c]? :=fun c hc=>by
  rcases hcase with rfl | hp
  ·rfl
  ·exact hsame c (fun e=>h.sep c hc (e▸hown0 hp))
 have hown:∀c,m8 φ (σ.set b (some B')) c→m8 φ σ c:=by
  rintro c ⟨b1,B1,l1,h1,h2,rfl,hp⟩
  by_cases hbb:b=b1
  ·subst hbb;exact⟨b,B,l1,h1,hb,rfl,hp⟩
  ·rw[z5 hbb] at h2;exact⟨b1,B1,l1,h1,h2,rfl,hp⟩
 refine⟨⟨by simp[h.len],?_,?_,fun c hc ho=>h.sep c hc (hown c ho),fun c hc=>by rw[ak0];exact h.im c hc⟩,
  ⟨⟨by rw[ak0];exact Nat.le_refl _,fun c _ hno=>by(rcases hcase with rfl | hp;rfl;exact hsame c (fun e=>hno (e▸hown0 hp))),bv6 _ _ _ _⟩,fun c hc=> .inl (hown c hc),fun _ _=>rfl,fun _ h=>h,fun _ h=> .inl h⟩⟩
 ·intro b1 B1 l1 h1 h2
  by_cases hbb:b=b1
  ·subst hbb
   rw[P1 hblt] at h1
   obtain rfl:=Option.some.inj h1
   obtain rfl:=Option.some.inj (hl.symm.trans h2)
   refine⟨by rw[hsz];exact hk.pos,by rw[hk.sz,hsz],by rw[hsz];exact hlen,by rw[hsz];exact hfit,fun p hp=> ?_,fun hp=>by rw[ak0];exact hk.lt hp,fun hp cs e lo hi hx=>(let ⟨cs',hx'⟩:=bv7 _ _ _ _ hx;hk.fz hp cs' e lo hi hx'),fun i j r d h3 h4=> ?_⟩
   ·rw[World.frozen?_setCells]
    refine⟨?_,(hk.mem p hp).2⟩
    by_cases hin:o≤p∧p<o+vs.length
    ·have:=World.cell?_setCells_in l.blk vs o w (fun j hj=>(hk.mem (o+j) (by omega)).1) (p-o) (by omega)
     rw[show o+(p-o)=p by omega] at this
     simp[this]
    ·rw[World.cell?_setCells_out _ _ _ _ _ (fun _ _=>by simp only;omega)]
     exact(hk.mem p hp).1
   ·rw[hsz]
    rcases hrel i j r d h3 h4 with⟨h5,h6,v,hv,hr⟩ | ⟨h5,r',h6,h7⟩
    ·refine⟨v,?_,hr.mono (fun _ h=>h) hw (l5.refl _)⟩
     have:=World.cell?_setCells_in l.blk vs o w (fun j hj=>(hk.mem (o+j) (by omega)).1) (l.base+i*B.sz+j-o) (by omega)
     rw[show o+(l.base+i*B.sz+j-o)=l.base+i*B.sz+j by omega] at this
     rw[this]
     rw[List.getElem?_eq_getElem (by omega)] at hv
     exact hv
    ·obtain⟨v,hv,hr⟩:=hk.rel i j r' d h6 h7
     refine⟨v,?_,?_⟩
     ·rw[World.cell?_setCells_out _ _ _ _ _ (fun _ _=>by simp only;exact h5)];exact hv
     ·refine hr.mono (fun _ h=>h) hw ?_
      cases hd:B.deep
      ·exact l5.nil _
      ·simp only[hdeep hd,if_true];exact l5.refl _
  ·rw[z5 hbb] at h1
   have hk1:=h.blk b1 B1 l1 h1 h2
   have hne:0<l1.size→(w.setCells l.blk o vs).heap[l1.blk]? =w.heap[l1.blk]? :=fun p1=>by
    rcases hcase with rfl | hp
    ·rfl
    ·exact hsame _ (h.inj b1 b B1 B l1 l (Ne.symm hbb) h2 hl h1 hb p1 hp)
   exact hk1.of_heap hne (by rw[ak0];exact Nat.le_refl _) (fun _ h=>h) hw (l5.refl _)
 ·intro b1 b2 B1 B2 l1 l2 hne h1 h2 h3 h4
  obtain⟨B1',h3'⟩:∃B1',sget σ b1=some B1' :=by
   by_cases hbb:b=b1
   ·subst hbb;exact⟨B,hb⟩
   ·rw[z5 hbb] at h3;exact⟨B1,h3⟩
  obtain⟨B2',h4'⟩:∃B2',sget σ b2=some B2' :=by
   by_cases hbb:b=b2
   ·subst hbb;exact⟨B,hb⟩
   ·rw[z5 hbb] at h4;exact⟨B2,h4⟩
  exact h.inj b1 b2 B1' B2' l1 l2 hne h1 h2 h3' h4'
theorem Inv.mark {w:World}{Im:Nat→Prop}{φ:o8}{σ:i4} (h:Inv w Im φ σ) {b:Nat}{B:A5}{l:Q3} (hb:sget σ b=some B) (hl:φ[b]? =some l) (hp:0<l.size) {n:Nat} (hn:l.size≤n):
  Inv (w.freeze ⟨l.blk,n,none⟩ 1) Im φ σ∧Tr φ.length w Im φ σ (w.freeze ⟨l.blk,n,none⟩ 1) Im φ σ:=by
 have hk:=h.blk b B l hb hl
 have hown0:m8 φ σ l.blk:=⟨b,B,l,hl,hb,rfl,hp⟩
 have hsize:(w.freeze ⟨l.blk,n,none⟩ 1).heap.size=w.heap.size:=by simp[World.freeze]
 have hsame:∀c,c≠l.blk→(w.freeze ⟨l.blk,n,none⟩ 1).heap[c]? =w.heap[c]? :=fun c hc=>by
  simp[World.freeze,Array.getElem?_modify,Ne.symm hc]
 have hw:∀c,Im c→(w.freeze ⟨l.blk,n,none⟩ 1).heap[c]? =w.heap[c]? :=fun c hc=>hsame c (fun e=>h.sep c hc (e▸hown0))
 have hnew:∀x,(w.freeze ⟨l.blk,n,none⟩ 1).heap[l.blk]? =some x→∃y,w.heap[l.blk]? =some y∧(match y with
   | .cells c elem (lo,hi)=>x=.cells c elem (if lo==hi then (n,n+1) else (min lo n,max hi (n+1)))
   | o=>x=o):=fun x hx=>by
  simp only[World.freeze,Nat.one_ne_zero,if_false,Array.getElem?_modify,if_true] at hx
  cases hy:w.heap[l.blk]? with
  | none=>rw[hy] at hx;cases hx
  | some y=>
   rw[hy] at hx
   refine⟨y,rfl,?_⟩
   cases y<;>(simp only[Option.map_some,Option.some.injEq] at hx;exact hx.symm)
 have hcell:∀o,(w.freeze ⟨l.blk,n,none⟩ 1).cell? ⟨l.blk,o,none⟩=w.cell? ⟨l.blk,o,none⟩:=fun o=>by
  cases hy:(w.freeze ⟨l.blk,n,none⟩ 1).heap[l.blk]? with
  | none=>
   have:w.heap[l.blk]? =none:=by
    rw[Array.getElem?_eq_none_iff] at hy ⊢
    omega
   simp only[World.cell?,hy,this]
  | some x=>
   obtain⟨y,h1,h2⟩:=hnew x hy
   simp only[World.cell?,hy,h1]
   cases y<;>(simp only at h2;subst h2;rfl)
 refine⟨⟨h.len,fun b1 B1 l1 h1 h2=> ?_,h.inj,h.sep,fun c hc=>by rw[hsize];exact h.im c hc⟩,⟨⟨by rw[hsize];exact Nat.le_refl _,fun c _ hno=>hsame c (fun e=>hno (e▸hown0)),⟨rfl,rfl,rfl⟩⟩,fun c hc=> .inl hc,fun _ _=>rfl,fun _ h=>h,fun _ h=> .inl h⟩⟩
 by_cases hbb:b=b1
 ·subst hbb
  obtain rfl:=Option.some.inj (hb.symm.trans h1)
  obtain rfl:=Option.some.inj (hl.symm.trans h2)
  have hfz:∀cs e lo hi,(w.freeze ⟨l.blk,n,none⟩ 1).heap[l.blk]? =some (.cells cs e (lo,hi))→l.size≤lo:=fun cs e lo hi hx=>by
   obtain⟨y,q1,q2⟩:=hnew _ hx
   cases y with
   | cells c' e' f' =>
    obtain⟨lo',hi'⟩:=f'
    simp only[Obj.cells.injEq] at q2
    obtain⟨-,-,q3⟩:=q2
    by_cases hlh:lo' =hi'
    ·rw[if_pos (by simpa using hlh)] at q3
     obtain⟨rfl,-⟩:=Prod.mk.inj q3
     exact hn
    ·rw[if_neg (by simpa using hlh)] at q3
     obtain⟨rfl,-⟩:=Prod.mk.inj q3
     have:=(hk.fz hp c' e' lo' hi' q1).resolve_left hlh
     omega
   | _=>cases q2
  refine⟨hk.pos,hk.sz,hk.len,hk.fit,fun o ho=>⟨by rw[hcell];exact(hk.mem o ho).1,?_⟩,fun hp=>by rw[hsize];exact hk.lt hp,fun _ cs e lo hi hx=> .inr (hfz cs e lo hi hx),fun i j r d h3 h4=> ?_⟩
  ·simp only[World.frozen?]
   split
   ·rename_i cs e lo hi hx
    have:=hfz cs e lo hi hx
    simp;omega
   ·rfl
  ·obtain⟨v,hv,hr⟩:=hk.rel i j r d h3 h4
   exact⟨v,by rw[hcell];exact hv,hr.mono (fun _ h=>h) hw (l5.refl _)⟩
 ·exact(h.blk b1 B1 l1 h1 h2).of_heap (fun p1=>hsame _ (h.inj b1 b B1 B l1 l (Ne.symm hbb) h2 hl h1 hb p1 hp)) (by rw[hsize];exact Nat.le_refl _) (fun _ h=>h) hw (l5.refl _)
theorem Inv.drop {w:World}{Im:Nat→Prop}{φ:o8}{σ:i4} (h:Inv w Im φ σ) (b:Nat):Inv w Im φ (σ.set b none)∧Tr φ.length w Im φ σ w Im φ (σ.set b none):=by
 have hg:∀c B,sget (σ.set b none) c=some B→sget σ c=some B:=fun c B hc=>by
  by_cases hbb:b=c
  ·subst hbb
   have hl:=I7 hc
   rw[P1 (by simpa using hl)] at hc
   cases hc
  ·rwa [z5 hbb] at hc
 have hown:∀c,m8 φ (σ.set b none) c→m8 φ σ c:=fun c ⟨b1,B1,l1,h1,h2,h3⟩=>⟨b1,B1,l1,h1,hg _ _ h2,h3⟩
 exact⟨⟨by simp[h.len],fun c B l h1 h2=>h.blk c B l (hg _ _ h1) h2,fun b1 b2 B1 B2 l1 l2 hne h1 h2 h3 h4 p1 p2=>h.inj b1 b2 B1 B2 l1 l2 hne h1 h2 (hg _ _ h3) (hg _ _ h4) p1 p2,
   fun c hc ho=>h.sep c hc (hown c ho),h.im⟩,
  ⟨⟨Nat.le_refl _,fun _ _ _=>rfl,⟨rfl,rfl,rfl⟩⟩,fun c hc=> .inl (hown c hc),fun _ _=>rfl,fun _ h=>h,fun _ h=> .inl h⟩⟩
theorem Inv.nothing {w:World}{Im:Nat→Prop}{φ:o8}{σ:i4} (h:Inv w Im φ σ) {sz:Nat} (hpos:0<sz) (dp:Bool):
  Inv w Im (φ++ [⟨0,0,sz,0⟩]) (σ++ [some ⟨sz,dp,[]⟩])∧Tr φ.length w Im φ σ w Im (φ++ [⟨0,0,sz,0⟩]) (σ++ [some ⟨sz,dp,[]⟩]):=by
 have hφ:l5 φ (φ++ [⟨0,0,sz,0⟩]):=l5.append _ _
 have e1:∀b1 B1 l1,sget (σ++ [some ⟨sz,dp,[]⟩]) b1=some B1→(φ++ [⟨0,0,sz,0⟩])[b1]? =some l1→
   (sget σ b1=some B1∧φ[b1]? =some l1)∨(B1=⟨sz,dp,[]⟩∧l1=⟨0,0,sz,0⟩):=fun b1 B1 l1 h1 h2=>by
  rcases K9 h1 with⟨hb1,h1⟩ | ⟨hb1,hB⟩
  ·rw[List.getElem?_append_left (by rw[h.len];exact hb1)] at h2
   exact .inl ⟨h1,h2⟩
  ·rw[hb1,←h.len] at h2
   simp at h2
   exact .inr ⟨(Option.some.inj hB).symm,h2.symm⟩
 have hown:∀c,m8 (φ++ [⟨0,0,sz,0⟩]) (σ++ [some ⟨sz,dp,[]⟩]) c→m8 φ σ c:=by
  rintro c ⟨b1,B1,l1,h1,h2,rfl,hp⟩
  rcases e1 b1 B1 l1 h2 h1 with⟨a,b⟩ | ⟨_,rfl⟩
  ·exact⟨b1,B1,l1,b,a,rfl,hp⟩
  ·simp at hp
 refine⟨⟨by simp[h.len],fun b1 B1 l1 h1 h2=> ?_,fun b1 b2 B1 B2 l1 l2 hne h1 h2 h3 h4 p1 p2=> ?_,fun c hc ho=>h.sep c hc (hown c ho),h.im⟩,
  ⟨⟨Nat.le_refl _,fun _ _ _=>rfl,⟨rfl,rfl,rfl⟩⟩,fun c hc=> .inl (hown c hc),fun c hc=>by rw[List.getElem?_append_left hc],fun _ h=>h,fun _ h=> .inl h⟩⟩
 ·rcases e1 b1 B1 l1 h1 h2 with⟨a,b⟩ | ⟨rfl,rfl⟩
  ·exact(h.blk b1 B1 l1 a b).of_heap (fun _=>rfl) (Nat.le_refl _) (fun _ h=>h) (fun _ _=>rfl) hφ
  ·exact⟨hpos,rfl,fun r hr=>by simp at hr,by simp,fun o ho=>by simp at ho,fun hp=>by simp at hp,fun hp=>by simp at hp,fun i j r d h3=>by simp at h3⟩
 ·rcases e1 b1 B1 l1 h3 h1 with⟨a,b⟩ | ⟨_,rfl⟩
  ·rcases e1 b2 B2 l2 h4 h2 with⟨c,d⟩ | ⟨_,rfl⟩
   ·exact h.inj b1 b2 B1 B2 l1 l2 hne b d a c p1 p2
   ·simp at p2
  ·simp at p1
open Go
structure T9 (w:World) (Im:Nat→Prop) (φ:o8) (σ:i4) (w' :World) (φ' :o8) (σ' :i4) (d:D) (v:Value):Prop where
 le:l5 φ φ'
 tr:Tr φ.length w Im φ σ w' Im φ' σ'
 inv:Inv w' Im φ' σ'
 rel:i7 w' Im φ' d v
section
variable {P : Program} {w : World} {Im : Nat → Prop} {φ : o8} {σ : i4}
theorem T9.refl (hi:Inv w Im φ σ) {d:D}{v:Value} (h:i7 w Im φ d v):T9 w Im φ σ w φ σ d v:=
 ⟨l5.refl _,Tr.refl _ _ _ _ _,hi,h⟩
variable (P w Im φ σ) in
def l7 (s:Sem Value):p9→Prop
 | .ok d σ' =>∃v w' φ',s.run P w=.ok v w' ∧T9 w Im φ σ w' φ' σ' d v
 | .need b k=>b=true→l7 s k
 | .split b k=>l7 s (k b)
 | .row r k=>∀x,r=some x→l7 s (k x)
 | .rows r k=>l7 s (k r)
 | .any p k=>∃b,(b=true→p=true)∧l7 s (k b)
 | .str r k=>∀x,r=some x→l7 s (k x)
 | .call _ _=>False
 | .yld _ _=>False
 | .bad=>True
variable (P w Im φ σ) in
def aq2 (s:Sem Next):p9→Prop
 | .ok d σ' =>∃v w' φ',(s.run P w=.ok (.value v) w' ∨(s.run P w=.ok .skip w' ∧v=undef))∧T9 w Im φ σ w' φ' σ' d v
 | .need b k=>b=true→aq2 s k
 | .split b k=>aq2 s (k b)
 | .row r k=>∀x,r=some x→aq2 s (k x)
 | .rows r k=>aq2 s (k r)
 | .any p k=>∃b,(b=true→p=true)∧aq2 s (k b)
 | .str r k=>∀x,r=some x→aq2 s (k x)
 | .call f args=>∃vs:Array Value,s.run P w=.ok (.enter f vs) w∧args.length=vs.size∧∀(i:Nat) (d:D) (v:Value),args[i]? =some d→vs[i]? =some v→i7 w Im φ d v
 | .yld l args=>∃vs:Array Value,s.run P w=(Instr.yield l vs).run P w∧args.length=vs.size∧∀(i:Nat) (d:D) (v:Value),args[i]? =some d→vs[i]? =some v→i7 w Im φ d v
 | .bad=>True
variable (P w Im φ) in
/-- Only looked at: neither world nor blocks turn. -/
def af4 (s : Sem Value) : p9 → Prop
  | .ok d _ => ∃ v, s.run P w = .ok v w ∧ i7 w Im φ d v
  | .need b k => b = true → af4 s k
  | .split b k => af4 s (k b)
  | .row r k => ∀ x, r = some x → af4 s (k x)
  | .rows r k => af4 s (k r)
  | .any p k => ∃ b, (b = true → p = true) ∧ af4 s (k b)
  | .str r k => ∀ x, r = some x → af4 s (k x)
  | .call _ _ => False
  | .yld _ _ => False
  | .bad => True
def az0 (σ:i4):p9→Prop
 | .ok _ σ' =>σ' =σ
 | .need _ k=>az0 σ k
 | .split _ k=>∀b,az0 σ (k b)
 | .row _ k=>∀x,az0 σ (k x)
 | .rows _ k=>∀x,az0 σ (k x)
 | .any _ k=>∀x,az0 σ (k x)
 | .str _ k=>∀x,az0 σ (k x)
 | .call _ _=>True
 | .yld _ _=>True
 | .bad=>True
theorem af4.toV (hi:Inv w Im φ σ) {s:Sem Value}:∀{r:p9},af4 P w Im φ s r→az0 σ r→l7 P w Im φ σ s r
 | .ok d σ',⟨v,h1,h2⟩,hk=>by
  have hk' :σ' =σ:=hk
  subst hk'
  exact⟨v,w,φ,h1,T9.refl hi h2⟩
 | .need b k,h,hk=>fun hb=>af4.toV hi (h hb) hk
 | .split b k,h,hk=>af4.toV hi (r:=k b) h (hk b)
 | .row r k,h,hk=>fun x hx=>af4.toV hi (h x hx) (hk x)
 | .rows r k,h,hk=>af4.toV hi (r:=k r) h (hk r)
 | .any p k,h,hk=>let ⟨b,hb,h'⟩:=h;⟨b,hb,af4.toV hi (r:=k b) h' (hk b)⟩
 | .str r k,h,hk=>fun x hx=>af4.toV hi (h x hx) (hk x)
 | .call _ _,h,_=>h.elim
 | .yld _ _,h,_=>h.elim
 | .bad,_,_=>trivial
theorem af4.opt {s:Sem Value}{o:Option D} (h:∀d,o=some d→∃v,s.run P w=.ok v w∧i7 w Im φ d v):af4 P w Im φ s (p9.opt o σ):=by
 cases o with
 | none=>trivial
 | some d=>exact h d rfl
theorem az0.opt (o:Option D):az0 σ (p9.opt o σ):=by
 cases o with
 | none=>trivial
 | some d=>exact rfl
theorem l7.toA {s:Sem Value}:∀{r:p9},l7 P w Im φ σ s r→aq2 P w Im φ σ (do pure (.value (←s))) r
 | .ok d σ',⟨v,w',φ',h1,h2⟩=>⟨v,w',φ',.inl (by simp[h1]),h2⟩
 | .need b k,h=>fun hb=>l7.toA (h hb)
 | .split b k,h=>l7.toA (r:=k b) h
 | .row r k,h=>fun x hx=>l7.toA (h x hx)
 | .rows r k,h=>l7.toA (r:=k r) h
 | .any p k,h=>let ⟨b,hb,h'⟩:=h;⟨b,hb,l7.toA (r:=k b) h'⟩
 | .str r k,h=>fun x hx=>l7.toA (h x hx)
 | .call _ _,h=>h.elim
 | .yld _ _,h=>h.elim
 | .bad,_=>trivial
theorem l7.opt {s:Sem Value}{o:Option D} (hi:Inv w Im φ σ) (h:∀d,o=some d→∃v,s.run P w=.ok v w∧i7 w Im φ d v):l7 P w Im φ σ s (p9.opt o σ):=by
 cases o with
 | none=>trivial
 | some d=>obtain⟨v,h1,h2⟩:=h d rfl;exact⟨v,w,φ,h1,T9.refl hi h2⟩
theorem bH1 (v:Value):i7 w Im φ (bI6 v) v:=by
 unfold bI6
 split
 ·exact .bool _
 ·exact .int _ _
 ·exact .str _ _ rfl
 ·exact .nilp
 ·exact .nilsl _
 ·split
  ·rename_i h
   exact .fn _ _ _ _ _ h.1.symm h.2.symm (fun i d v a=>by simp at a) (fun i d v a=>by simp at a)
  ·exact .undef _
 ·exact .nilfn
 ·exact .nili
 ·exact .undef _
theorem as9 (v:Value):i7 w Im φ (aD1 v) v:=by
 unfold aD1
 split
 ·rename_i cs
  refine .agg _ _ (by simp) (fun i d v h1 h2=> ?_)
  simp only[List.getElem?_map,Array.getElem?_toList,h2,Option.map_some,Option.some.injEq] at h1
  rw[←h1];exact bH1 v
 ·exact bH1 _
theorem ct9 {v:Value} (h:v.oneCell' =true):v.cells= #[v]:=by
 cases v<;>first | rfl | simp[Value.oneCell'] at h
theorem W9 {d:D}{v:Value} (h:i7 w Im φ d v) {cs:List D} (hc:U7 d=some cs):
  cs.length=v.cells.size∧∀(i:Nat) (d' :D) (v' :Value),cs[i]? =some d' →v.cells[i]? =some v' →i7 w Im φ d' v' :=by
 by_cases hs:t9 d=true
 ·have h1:cs= [d]:=by cases d<;>simp_all [U7,t9]
  subst h1
  rw[ct9 (h.one hs)]
  refine⟨by simp,fun i d' v' h1 h2=> ?_⟩
  cases i with
  | zero=>simp at h1 h2;subst h1;subst h2;exact h
  | succ i=>simp at h1
 ·cases h<;>simp[t9] at hs
  ·simp[U7] at hc
  ·rename_i cs' vs h1 h2
   simp[U7] at hc
   subst hc
   exact⟨h1,h2⟩
  ·simp[U7] at hc
  ·simp[U7] at hc
theorem aP8 (sz:Nat):∀(n:Nat) (cs:List D),(ae1 sz n cs).length=n
 | 0,_=>rfl
 | n+1,cs=>by simp[ae1,aP8 sz n]
theorem bH9 (sz:Nat):∀(n:Nat) (cs:List D),n*sz≤cs.length→∀r∈ae1 sz n cs,r.length=sz
 | 0,_,_,r,hr=>by simp[ae1] at hr
 | n+1,cs,h,r,hr=>by
  have h1:sz+n*sz≤cs.length:=by rw[Nat.add_mul] at h;omega
  simp only[ae1,List.mem_cons] at hr
  rcases hr with rfl | hr
  ·simp;omega
  ·exact bH9 sz n (cs.drop sz) (by simp;omega) r hr
theorem aU5 (sz:Nat):∀(n:Nat) (cs:List D) (i j:Nat) (r:List D) (d:D),(ae1 sz n cs)[i]? =some r→r[j]? =some d→cs[i*sz+j]? =some d∧j<sz
 | 0,_,i,j,r,d,h,_=>by simp[ae1] at h
 | n+1,cs,0,j,r,d,h,h2=>by
  simp only[ae1,List.getElem?_cons_zero,Option.some.injEq] at h
  subst h
  rw[List.getElem?_take] at h2
  split at h2
  ·rename_i hj;simp only[Nat.zero_mul,Nat.zero_add];exact⟨h2,hj⟩
  ·cases h2
 | n+1,cs,i+1,j,r,d,h,h2=>by
  simp only[ae1,List.getElem?_cons_succ] at h
  obtain⟨h3,h4⟩:=aU5 sz n (cs.drop sz) i j r d h h2
  rw[List.getElem?_drop] at h3
  rw[show(i+1)*sz+j=sz+(i*sz+j) by rw[Nat.add_mul];omega]
  exact⟨h3,h4⟩
theorem ca2 {sz n:Nat}{cs:List D} (h:n*sz≤cs.length) (hs:cs.all t9=true):∀r∈ae1 sz n cs,S8 sz r:=fun r hr=>by
 refine⟨bH9 sz n cs h r hr,List.all_eq_true.2 fun d hd=> ?_⟩
 obtain⟨i,hi⟩:=List.getElem?_of_mem hr
 obtain⟨j,hj⟩:=List.getElem?_of_mem hd
 exact List.all_eq_true.1 hs d (List.mem_of_getElem? (aU5 sz n cs i j r d hi hj).1)
theorem cA9 {cs:List D} (h:cs.any r6=false) {i:Nat}{d:D} (hd:cs[i]? =some d):r6 d=false:=by
 rw[List.any_eq_false] at h
 simpa using h d (List.mem_of_getElem? hd)
theorem ci2 {cs:List D} (h:cs.all t9=true) {i:Nat}{d:D} (hd:cs[i]? =some d):t9 d=true:=
 List.all_eq_true.1 h d (List.mem_of_getElem? hd)
theorem aE5 {b:Bool}{cs:List D} (hs:cs.all t9=true) (hb:cs.any r6=true→b=true) {i:Nat}{d:D}{v:Value} (hd:cs[i]? =some d) (h:i7 w Im φ d v):i7 w Im (if b then φ else []) d v:=by
 cases b with
 | true=>exact h
 | false=>
  have hf:cs.any r6=false:=by cases hh:cs.any r6 with | false=>rfl | true=>exact absurd (hb hh) (by simp)
  exact h.closed (ci2 hs hd) (cA9 hf hd)
theorem A3 {t:TypeId}{n:Nat} (h:K7 P t=some n) (w:World):(sizeOf t).run P w=.ok n w:=by
 unfold K7 at h
 cases hi:P.info? t with
 | none=>simp[hi] at h
 | some i=>simp[hi] at h;subst h;simp[sizeOf,typeInfo,hi]
theorem bc8 {t:TypeId}{z:D} (h:ar9 P t=some z):∃i v,P.info? t=some i∧i.zero=some v∧z=aD1 v:=by
 unfold ar9 at h
 cases hi:P.info? t with
 | none=>simp[hi] at h
 | some i=>
  cases hz:i.zero with
  | none=>simp[hi,hz] at h
  | some v=>simp[hi,hz] at h;exact⟨i,v,rfl,hz,h.symm⟩
theorem bT5 {t:TypeId}{n:Nat}{ag:Bool} (h:bP8 P t=some (n,ag)) (w:World):(isAgg t).run P w=.ok ag w∧(sizeOf t).run P w=.ok n w:=by
 unfold bP8 at h
 cases hs:K7 P t with
 | none=>simp[hs] at h
 | some m=>
  cases hd:P.underlying t with
  | none=>simp[hs,hd] at h
  | some d=>
   simp only[hs,hd,Option.some.injEq,Prod.mk.injEq] at h
   obtain⟨rfl,rfl⟩:=h
   refine⟨?_,A3 hs w⟩
   unfold isAgg
   rw[Sem.run_bind,run_underlying hd w]
   cases d<;>simp[cU8]
theorem ac8 (h:φ.length=σ.length) (l:Q3):(φ++ [l])[σ.length]? =some l:=by rw[←h];simp
theorem bU1 (hi:Inv w Im φ σ) {t:TypeId}{d:D}{v:Value} (hr:i7 w Im φ d v) {s:Sem Value}
  (hs:s.run P w=.ok (.pointer (some ⟨w.heap.size,0,none⟩)) (w.alloc (.cells v.cells t))):l7 P w Im φ σ s (aI8 P t d σ):=by
 unfold aI8
 cases hB:ce9 P t d with
 | none=>trivial
 | some B=>
  unfold ce9 at hB
  split at hB
  ·rename_i cs n sz h1 h2 h3
   split at hB
   ·rename_i hc
    obtain⟨hc1,hc2,hc3,hc4⟩:=hc
    obtain rfl:=Option.some.inj hB
    obtain⟨hl,hcell⟩:=W9 hr h1
    have hfit:(ae1 sz (n/sz) cs).length*sz≤v.cells.size:=by rw[aP8,←hc4,←hc1,hl];exact Nat.le_refl _
    obtain⟨a1,a2⟩:=hi.alloc v.cells t (0,0) ⟨sz,cs.any r6,ae1 sz (n/sz) cs⟩ hc3 (.inl rfl)
     (ca2 (by rw[←hc4,hc1];exact Nat.le_refl _) hc2) hfit
     (fun i j r d hi' hj' =>by
      obtain⟨g1,g2⟩:=aU5 sz (n/sz) cs i j r d hi' hj'
      have hlt:=(List.getElem?_eq_some_iff.1 g1).1
      rw[hl] at hlt
      refine⟨v.cells[i*sz+j],by simp[hlt],?_⟩
      exact aE5 hc2 (fun h=>h) g1 (hcell _ _ _ g1 (by simp[hlt])))
    refine⟨_,_,_,hs,l5.append _ _,a2,a1,?_⟩
    have:=i7.ptr (w:=w.alloc (.cells v.cells t)) (Im:=Im) σ.length 0 0 _ (ac8 hi.len ⟨w.heap.size,0,sz,v.cells.size⟩)
    simpa using this
   ·cases hB
  ·cases hB
theorem cQ7 (hi:Inv w Im φ σ) {t:TypeId}{d:D}{v:Value} (hr:i7 w Im φ d v):l7 P w Im φ σ (Instr.box t v) (aI8 P t d σ):=
 bU1 hi hr (by simp[Instr.box,newVar,newRow])
theorem ck6 (hi:Inv w Im φ σ) {t:TypeId}:l7 P w Im φ σ (Instr.alloc t true (.tuple #[])) (match ar9 P t with | some z=>aI8 P t z σ | none=> .bad):=by
 cases hz:ar9 P t with
 | none=>trivial
 | some z=>
  obtain⟨i,v,h1,h2,rfl⟩:=bc8 hz
  exact bU1 hi (as9 v) (by simp[Instr.alloc,zeroValue,typeInfo,h1,h2,newVar,newRow])
/-! ### loads -/
variable (w Im) in
/-- Rows in memory. -/
def H0 (ψ : o8) (c base sz : Nat) (rows : List (List D)) : Prop :=
  (∀ r ∈ rows, S8 sz r) ∧ ∀ (i j : Nat) (r : List D) (d : D), rows[i]? = some r → r[j]? = some d → ∃ v, w.cell? ⟨c, base + i * sz + j, none⟩ = some v ∧ i7 w Im ψ d v
theorem W6.rowsAt {B:A5}{l:Q3} (h:W6 w Im φ B l):H0 w Im (if B.deep then φ else []) l.blk l.base B.sz B.rows:=⟨h.len,h.rel⟩
theorem W6.rowsAt' {B:A5}{l:Q3} (h:W6 w Im φ B l):H0 w Im φ l.blk l.base B.sz B.rows:=
 ⟨h.len,fun i j r d h1 h2=>by
  obtain⟨v,hv,hr⟩:=h.rel i j r d h1 h2
  exact⟨v,hv,hr.mono (fun _ h=>h) (fun _ _=>rfl) (by split;exact l5.refl _;exact l5.nil _)⟩⟩
theorem H0.mono {ψ ψ' :o8}{c base sz:Nat}{rows:List (List D)} (h:H0 w Im ψ c base sz rows) (hp:l5 ψ ψ'):H0 w Im ψ' c base sz rows:=
 ⟨h.1,fun i j r d h1 h2=>let ⟨v,hv,hr⟩:=h.2 i j r d h1 h2;⟨v,hv,hr.mono (fun _ h=>h) (fun _ _=>rfl) hp⟩⟩
theorem i7.ptr_inv {b i o:Nat}{v:Value} (h:i7 w Im φ (.ptr b i o) v):∃l,φ[b]? =some l∧v=.pointer (some ⟨l.blk,l.base+i*l.sz+o,none⟩):=by
 cases h with | ptr b i o l h=>exact⟨l,h,rfl⟩
theorem i7.iptr_inv {sz i o:Nat}{rows:List (List D)}{v:Value} (h:i7 w Im φ (.iptr sz rows i o) v):
  ∃c base,v=.pointer (some ⟨c,base+i*sz+o,none⟩)∧(rows≠ []→Im c)∧H0 w Im [] c base sz rows:=by
 cases h with | iptr sz rows i o c base vf h1 h2 h3 h4=>exact⟨c,base,rfl,h1,h2,fun i j r d a b=>⟨_,h3 i j r d a b,h4 i j r d a b⟩⟩
theorem i7.sl_inv {sz:Nat}{rows:List (List D)}{v:Value} (h:i7 w Im φ (.sl false sz rows) v):
  (v=.slice none 0 0∧rows= [])∨∃c base cap a,v=.slice (some a) rows.length cap∧(rows≠ []→a=⟨c,base,none⟩)∧rows.length≤cap∧(rows≠ []→Im c)∧H0 w Im [] c base sz rows:=by
 cases h with
 | nilsl2=>exact .inl ⟨rfl,rfl⟩
 | sl sz rows c base cap vf a ha h1 h2 h3 h4 h5=>exact .inr ⟨c,base,cap,a,rfl,ha,h3,h1,h2,fun i j r d a b=>⟨_,h4 i j r d a b,h5 i j r d a b⟩⟩
theorem i7.nilsl_inv {sz:Nat}{rows:List (List D)}{v:Value} (h:i7 w Im φ (.sl true sz rows) v):v=.slice none 0 0∧rows= []:=by
 cases h with | nilsl=>exact⟨rfl,rfl⟩
theorem i7.msl_inv {b i len lo:Nat}{ex:Bool}{v:Value} (h:i7 w Im φ (.msl b i len lo ex) v):
  ∃l,φ[b]? =some l∧((v=.slice none 0 0∧len=0∧lo=0)∨
  ∃cap a,v=.slice (some a) len cap∧len≤lo∧lo≤cap∧(ex=true→cap=lo)∧l.base+(i+cap)*l.sz≤l.size∧a.spot=none∧(cap≠0→a=⟨l.blk,l.base+i*l.sz,none⟩)):=by
 cases h with
 | mnil b i ex l h=>exact⟨l,h,.inl ⟨rfl,rfl,rfl⟩⟩
 | msl b i len lo ex l cap a h h1 h2 h3 h4 h5 h6=>exact⟨l,h,.inr ⟨cap,a,rfl,h1,h2,h3,h4,h5,h6⟩⟩
theorem i7.int_inv {k:IntKind}{n:Int}{v:Value} (h:i7 w Im φ (.int k n) v):v=.int k n:=by cases h;rfl
theorem i7.bool_inv {b:Bool}{v:Value} (h:i7 w Im φ (.bool b) v):v=.bool b:=by cases h;rfl
theorem i7.str_inv {l:List UInt8}{v:Value} (h:i7 w Im φ (.str l) v):∃s:ByteArray,v=.string s∧s.data.toList=l:=by cases h with | str s l h=>exact⟨s,rfl,h⟩
theorem i7.agg_inv {cs:List D}{v:Value} (h:i7 w Im φ (.agg cs) v):∃vs:Array Value,v=.agg vs∧cs.length=vs.size∧∀(i:Nat) (d:D) (v:Value),cs[i]? =some d→vs[i]? =some v→i7 w Im φ d v:=by
 cases h with | agg cs vs h1 h2=>exact⟨vs,rfl,h1,h2⟩
theorem i7.tup_inv {cs:List D}{v:Value} (h:i7 w Im φ (.tup cs) v):∃vs:Array Value,v=.tuple vs∧cs.length=vs.size∧∀(i:Nat) (d:D) (v:Value),cs[i]? =some d→vs[i]? =some v→i7 w Im φ d v:=by
 cases h with | tup cs vs h1 h2=>exact⟨vs,rfl,h1,h2⟩
theorem bv4 (sz:Nat):∀(rows:List (List D)),(∀r∈rows,r.length=sz)→∀(p:Nat) (d:D),rows.flatten[p]? =some d→∃i j r,i*sz+j=p∧rows[i]? =some r∧r[j]? =some d
 | [],_,p,d,h=>by simp at h
 | r::rows,hr,p,d,h=>by
  rw[List.flatten_cons] at h
  have hl:=hr r (by simp)
  by_cases hp:p<r.length
  ·rw[List.getElem?_append_left hp] at h
   exact⟨0,p,r,by simp,rfl,h⟩
  ·rw[List.getElem?_append_right (by omega)] at h
   obtain⟨i,j,r',h1,h2,h3⟩:=bv4 sz rows (fun x hx=>hr x (by simp[hx])) _ _ h
   exact⟨i+1,j,r',by rw[Nat.add_mul];omega,by simpa using h2,h3⟩
theorem bx5 (sz:Nat):∀(rows:List (List D)),(∀r∈rows,r.length=sz)→rows.flatten.length=rows.length*sz
 | [],_=>by simp
 | r::rows,hr=>by
  rw[List.flatten_cons,List.length_append,bx5 sz rows (fun x hx=>hr x (by simp[hx])),hr r (by simp),List.length_cons,Nat.add_mul]
  omega
theorem aw4 (c o j:Nat):(⟨c,o,none⟩:Addr).add j=⟨c,o+j,none⟩:=by
 unfold Addr.add;split<;>simp_all
theorem bW0 {ψ:o8}{c o n:Nat}{ds:List D} (hl:ds.length=n) (h:∀(j:Nat) (d:D),ds[j]? =some d→∃v,w.cell? ⟨c,o+j,none⟩=some v∧i7 w Im ψ d v):
  ∃vs:Array Value,(loadCells ⟨c,o,none⟩ n).run P w=.ok vs w∧i7 w Im ψ (.agg ds) (.agg vs):=by
 refine⟨_,run_loadCells w ⟨c,o,none⟩ n (fun j=>(w.cell? ⟨c,o+j,none⟩).getD undef) (fun j hj=> ?_),.agg _ _ (by simp[hl]) (fun j d v h1 h2=> ?_)⟩
 ·obtain⟨v,hv,_⟩:=h j ds[j] (by simp[hl,hj])
  rw[aw4,hv];rfl
 ·obtain⟨v',hv,hr⟩:=h j d h1
  have hj:=(List.getElem?_eq_some_iff.1 h1).1
  rw[hl] at hj
  simp[hj,hv] at h2
  rw[←h2];exact hr
theorem bq8 {t:TypeId}{n:Nat}{ag:Bool} (ht:bP8 P t=some (n,ag)) {c base sz:Nat}{rows:List (List D)} (hrows:H0 w Im φ c base sz rows) (i o:Nat):
  af4 P w Im φ (loadVar t ⟨c,base+i*sz+o,none⟩) (as3 rows sz i o n ag σ):=by
 obtain⟨ha,hsz⟩:=bT5 ht w
 have hagg:∀ds:List D,ag=true→ds.length=n→(∀(j:Nat) (d:D),ds[j]? =some d→∃v,w.cell? ⟨c,base+i*sz+o+j,none⟩=some v∧i7 w Im φ d v)→
   ∃v,(loadVar t ⟨c,base+i*sz+o,none⟩).run P w=.ok v w∧i7 w Im φ (.agg ds) v:=by
  intro ds h1 h2 h3
  obtain⟨vs,h4,h5⟩:=bW0 (P:=P) h2 h3
  refine⟨.agg vs,?_,h5⟩
  subst h1
  simp only[loadVar,Sem.run_bind,ha,Result.andThen_ok,if_true,hsz,h4,Sem.run_pure]
 unfold as3
 split
 ·rename_i hle
  intro r hr
  have hrl:=(hrows.1 r (List.mem_of_getElem? hr)).1
  split
  ·rename_i hag
   dsimp only
   rw[if_pos hrl]
   ·refine hagg _ hag (by simp;omega) (fun j d hj=> ?_)
    rw[List.getElem?_take] at hj
    split at hj
    ·rw[List.getElem?_drop] at hj
     obtain⟨v,hv,h5⟩:=hrows.2 i (o+j) r d hr hj
     exact⟨v,by rw[show base+i*sz+o+j=base+i*sz+(o+j) by omega];exact hv,h5⟩
    ·cases hj
  ·rename_i hag
   split
   ·rename_i hn
    refine af4.opt (fun d hd=> ?_)
    obtain⟨v,hv,h5⟩:=hrows.2 i o r d hr hd
    have hag' :ag=false:=by cases ag<;>simp_all
    subst hag'
    refine⟨v,?_,h5⟩
    simp[loadVar,ha,hv]
   ·trivial
 ·split
  ·rename_i hc
   obtain⟨h1,h2,h3,h4⟩:=hc
   intro hb
   have hb' :=Nat.le_of_ble_eq_true hb
   subst h1
   have hall:∀r∈(rows.drop i).take (n/sz),r.length=sz:=fun r hr=>(hrows.1 r (List.mem_of_mem_drop (List.mem_of_mem_take hr))).1
   refine hagg _ h2 ?_ (fun p d hp=> ?_)
   ·rw[bx5 sz _ hall,List.length_take,List.length_drop,Nat.min_eq_left (by omega)];exact h4.symm
   ·obtain⟨i',j,r,g1,g2,g3⟩:=bv4 sz _ hall p d hp
    rw[List.getElem?_take] at g2
    split at g2
    ·rw[List.getElem?_drop] at g2
     obtain⟨v,hv,h5⟩:=hrows.2 (i+i') j r d g2 g3
     refine⟨v,?_,h5⟩
     rw[show base+i*sz+0+p=base+(i+i')*sz+j by rw[Nat.add_mul];omega];exact hv
    ·cases g2
  ·trivial
theorem bQ6 (hi:Inv w Im φ σ) {t:TypeId}{p:D}{pv:Value} (hp:i7 w Im φ p pv):af4 P w Im φ (Instr.loadAt t pv) (aq9 P t p σ):=by
 unfold aq9
 split
 ·trivial
 ·rename_i n ag ht
  split
  ·rename_i b i o
   split
   ·rename_i B hB
    obtain⟨l,hl,hk⟩:=hi.loc hB
    obtain⟨l',hl',rfl⟩:=hp.ptr_inv
    obtain rfl:=Option.some.inj (hl.symm.trans hl')
    have:=bq8 (P:=P) (σ:=σ) ht hk.rowsAt' i o
    rw[hk.sz]
    simpa[Instr.loadAt,Instr.sureAddr] using this
   ·trivial
  ·rename_i sz rows i o
   obtain⟨c,base,rfl,_,h2⟩:=hp.iptr_inv
   have:=bq8 (P:=P) (σ:=σ) ht (h2.mono (l5.nil φ)) i o
   simpa[Instr.loadAt,Instr.sureAddr] using this
  ·trivial
theorem bi3 (rows:List (List D)) (sz i o n:Nat) (ag:Bool):az0 σ (as3 rows sz i o n ag σ):=by
 unfold as3
 split
 ·intro x
  dsimp only
  by_cases h1:ag=true
  ·rw[if_pos h1]
   by_cases h2:x.length=sz
   ·rw[if_pos h2];exact rfl
   ·rw[if_neg h2];trivial
  ·rw[if_neg h1]
   by_cases h2:n=1
   ·rw[if_pos h2];cases x[o]? <;>exact(by first | exact rfl | trivial)
   ·rw[if_neg h2];trivial
 ·split
  ·exact fun x=>rfl
  ·trivial
theorem cr1 (t:TypeId) (p:D):az0 σ (aq9 P t p σ):=by
 unfold aq9
 split
 ·trivial
 ·split
  ·split
   ·exact bi3 _ _ _ _ _ _
   ·trivial
  ·exact bi3 _ _ _ _ _ _
  ·trivial
theorem cI8 (hi:Inv w Im φ σ) {t:TypeId}{p:D}{pv:Value} (hp:i7 w Im φ p pv):l7 P w Im φ σ (Instr.loadAt t pv) (aq9 P t p σ):=(bQ6 hi hp).toV hi (cr1 t p)
/-! ### stores -/
theorem andThen_ok {α β:Type}{r:Result α}{f:α→World→Result β}{b:β}{w' :World} (h:r.andThen f=.ok b w'):∃a w1,r=.ok a w1∧f a w1=.ok b w' :=by
 cases r with
 | ok a w1=>exact⟨a,w1,rfl,h⟩
 | halt x w1=>cases h
theorem by9 {s:Sem Unit}:∀{r:p9},(l7 P w Im φ σ (do s;pure undef) r)→aq2 P w Im φ σ (do s;pure .skip) r
 | .ok d σ',⟨v,w',φ',h1,h2⟩=>by
  refine⟨v,w',φ',.inr ?_,h2⟩
  simp only[Sem.run_bind] at h1 ⊢
  obtain⟨a,w1,h3,h4⟩:=andThen_ok h1
  simp only[Sem.run_pure,Result.ok.injEq] at h4
  obtain⟨rfl,rfl⟩:=h4
  exact⟨by rw[h3];rfl,rfl⟩
 | .need b k,h=>fun hb=>by9 (h hb)
 | .split b k,h=>by9 (r:=k b) h
 | .row r k,h=>fun x hx=>by9 (h x hx)
 | .rows r k,h=>by9 (r:=k r) h
 | .any p k,h=>let ⟨b,hb,h'⟩:=h;⟨b,hb,by9 (r:=k b) h'⟩
 | .str r k,h=>fun x hx=>by9 (h x hx)
 | .call _ _,h=>h.elim
 | .yld _ _,h=>h.elim
 | .bad,_=>trivial
theorem bh4 (hi:Inv w Im φ σ) {b:Nat}{B B' :A5}{l:Q3} (hb:sget σ b=some B) (hl:φ[b]? =some l) (o:Nat) (vs:List Value)
  (ho:l.base+o+vs.length≤l.size) (hsz:B'.sz=B.sz) (hlen:∀r∈B'.rows,S8 B.sz r) (hfit:l.base+B'.rows.length*B.sz≤l.size)
  (hrel:∀(i j:Nat) (r:List D) (d:D),B'.rows[i]? =some r→r[j]? =some d→
   (o≤i*B.sz+j∧i*B.sz+j<o+vs.length∧∃v,vs[i*B.sz+j-o]? =some v∧i7 w Im (if B'.deep then φ else []) d v)∨
   ((i*B.sz+j<o∨o+vs.length≤i*B.sz+j)∧∃r',B.rows[i]? =some r' ∧r'[j]? =some d))
  (hdeep:B.deep=true→B'.deep=true):
  Inv (w.setCells l.blk (l.base+o) vs) Im φ (σ.set b (some B'))∧Tr φ.length w Im φ σ (w.setCells l.blk (l.base+o) vs) Im φ (σ.set b (some B')):=by
 refine hi.write hb hl (l.base+o) vs ho hsz hlen hfit (fun i j r d h1 h2=> ?_) hdeep
 rcases hrel i j r d h1 h2 with⟨h3,h4,v,h5,h6⟩ | ⟨h3,h4⟩
 ·exact .inl ⟨by omega,by omega,v,by rw[show l.base+i*B.sz+j-(l.base+o)=i*B.sz+j-o by omega];exact h5,h6⟩
 ·exact .inr ⟨by omega,h4⟩
theorem bp5 {t:TypeId}{n:Nat} (ht:K7 P t=some n) {v:Value} (hn:v.cells.size=n) (h1:∀u∈v.cells.toList,u.oneCell' =true) {c o:Nat}
  (hm:∀j,j<n→(w.cell? ⟨c,o+j,none⟩).isSome=true∧w.frozen? ⟨c,o+j,none⟩=false):
  (storeVar t ⟨c,o,none⟩ v).run P w=.ok () (w.setCells c o v.cells.toList):=by
 have:=run_storeCells_cells (P:=P) c o v.cells.toList 0 w (fun j hj=>by simpa using(hm j (by simpa[hn] using hj)).1) (fun j hj=>by simpa using(hm j (by simpa[hn] using hj)).2) h1
 simp only[Nat.add_zero] at this
 simp[storeVar,A3 ht,hn,this]
theorem bD7 {r cs:List D}{o n sz:Nat} (hr:r.length=sz) (hn:cs.length=n) (ho:o+n≤sz) {j:Nat}{d:D} (h:(r.take o++cs++r.drop (o+n))[j]? =some d):
  (o≤j∧j<o+n∧cs[j-o]? =some d)∨((j<o∨o+n≤j)∧r[j]? =some d):=by
 rw[List.append_assoc] at h
 by_cases h1:j<o
 ·rw[List.getElem?_append_left (by simp;omega),List.getElem?_take,if_pos h1] at h
  exact .inr ⟨.inl h1,h⟩
 ·rw[List.getElem?_append_right (by simp;omega)] at h
  have ht:(r.take o).length=o:=by simp;omega
  rw[ht] at h
  by_cases h2:j<o+n
  ·rw[List.getElem?_append_left (by omega)] at h
   exact .inl ⟨by omega,h2,h⟩
  ·rw[List.getElem?_append_right (by omega),List.getElem?_drop] at h
   rw[show o+n+(j-o-cs.length)=j by omega] at h
   exact .inr ⟨.inr (by omega),h⟩
theorem ck0 {r cs:List D}{o n:Nat} (hr:r.all t9=true) (hc:cs.all t9=true):(r.take o++cs++r.drop n).all t9=true:=by
 rw[List.all_eq_true] at hr hc ⊢
 intro d hd
 simp only[List.mem_append] at hd
 rcases hd with(hd | hd) | hd
 ·exact hr d (List.mem_of_mem_take hd)
 ·exact hc d hd
 ·exact hr d (List.mem_of_mem_drop hd)
theorem cz0 {d:D}{v:Value} (h:i7 w Im φ d v) {cs:List D} (hc:U7 d=some cs) (hs:cs.all t9=true):∀u∈v.cells.toList,u.oneCell' =true:=by
 obtain⟨h1,h2⟩:=W9 h hc
 intro u hu
 obtain⟨i,hlt,rfl⟩:=List.getElem_of_mem hu
 have hlt' :i<cs.length:=by simp at hlt;omega
 exact(h2 i cs[i] _ (by simp[hlt']) (by simp at hlt;simp[hlt])).one (ci2 hs (by simp[hlt']:cs[i]? =some cs[i]))
theorem az2 {sz i a j:Nat} (h:i<a) (hj:j<sz):i*sz+j<a*sz:=by
 have:=Nat.mul_le_mul_right sz (show i+1≤a from h)
 rw[Nat.add_mul] at this
 omega
theorem cx7 (hi:Inv w Im φ σ) {t:TypeId}{p d:D}{pv v:Value} (hp:i7 w Im φ p pv) (hv:i7 w Im φ d v):
  l7 P w Im φ σ (do Instr.storeAt t pv v;pure undef) (bG7 P t p d σ):=by
 unfold bG7
 split
 ·rename_i n cs b i o hn hcs
  split
  ·rename_i B hB
   split
   ·rename_i hc
    obtain⟨hc1,hc2⟩:=hc
    obtain⟨l,hl,hk⟩:=hi.loc hB
    obtain⟨l',hl',rfl⟩:=hp.ptr_inv
    obtain rfl:=Option.some.inj (hl.symm.trans hl')
    obtain⟨hcl,hcr⟩:=W9 hv hcs
    have hvn:v.cells.size=n:=by omega
    have h1:=cz0 hv hcs hc2
    have hfl:∀(k:Nat) (e:D) (u:Value),cs[k]? =some e→v.cells.toList[k]? =some u→i7 w Im (if B.deep || cs.any r6 then φ else []) e u:=fun k e u h2 h3=>
     aE5 hc2 (fun h=>by simp[h]) h2 (hcr k e u h2 (by simpa using h3))
    have hcv:∀(k:Nat) (e:D),cs[k]? =some e→∃u,v.cells.toList[k]? =some u∧i7 w Im (if B.deep || cs.any r6 then φ else []) e u:=fun k e h2=>by
     have:=(List.getElem?_eq_some_iff.1 h2).1
     exact⟨v.cells.toList[k]'(by simp;omega),by simp,hfl k e _ h2 (by simp)⟩
    split
    ·rename_i hle
     intro r hr
     have hrl:=(hk.len r (List.mem_of_getElem? hr)).1
     have hrs:=(hk.len r (List.mem_of_getElem? hr)).2
     have hilt:=(List.getElem?_eq_some_iff.1 hr).1
     have hin:i*B.sz+o+n≤B.rows.length*B.sz:=by
      have:=Nat.mul_le_mul_right B.sz (show i+1≤B.rows.length from hilt)
      rw[Nat.add_mul] at this
      omega
     have hfit:=hk.fit
     have hrun:=bp5 (P:=P) (w:=w) (c:=l.blk) (o:=l.base+i*l.sz+o) hn hvn h1 (fun j hj=>hk.mem _ (by rw[hk.sz];omega))
     obtain⟨a1,a2⟩:=bh4 hi (B' :=⟨B.sz,B.deep || cs.any r6,B.rows.set i (r.take o++cs++r.drop (o+n))⟩) hB hl (i*B.sz+o) v.cells.toList
      (by simp[hvn];omega) rfl (fun x hx=>by
       rcases List.mem_or_eq_of_mem_set hx with hx | rfl
       ·exact hk.len x hx
       ·exact⟨by simp;omega,ck0 hrs hc2⟩) (by simpa using hfit) (fun i' j x e g1 g2=>by
       simp only[Array.length_toList,hvn]
       simp only[List.getElem?_set] at g1
       by_cases hii:i=i'
       ·subst hii
        simp only[if_true,hilt,Option.some.injEq] at g1
        subst g1
        rcases bD7 hrl hc1 hle g2 with⟨g3,g4,g5⟩ | ⟨g3,g4⟩
        ·obtain⟨u,hu,hur⟩:=hcv _ _ g5
         exact .inl ⟨by omega,by omega,u,by rw[show i*B.sz+j-(i*B.sz+o)=j-o by omega];exact hu,hur⟩
        ·exact .inr ⟨by omega,r,hr,g4⟩
       ·simp only[if_neg hii] at g1
        refine .inr ⟨?_,x,g1,g2⟩
        have hxl:=(hk.len x (List.mem_of_getElem? g1)).1
        have hj:=(List.getElem?_eq_some_iff.1 g2).1
        rcases Nat.lt_or_ge i' i with hlt | hge
        ·have:=az2 (sz:=B.sz) (j:=j) hlt (by omega);omega
        ·have:=Nat.mul_le_mul_right B.sz (show i+1≤i' by omega)
         rw[Nat.add_mul] at this
         omega) (fun h=>by simp[h])
     refine⟨undef,_,φ,?_,l5.refl _,a2,a1,.undef _⟩
     rw[hk.sz] at hrun ⊢
     simp only[Nat.add_assoc] at hrun
     simp[Instr.storeAt,Instr.sureAddr,hrun,Nat.add_assoc]
    ·split
     ·rename_i hc'
      obtain⟨rfl,h2,h3⟩:=hc'
      intro hb
      have hb' :=Nat.le_of_ble_eq_true hb
      have hfit:=hk.fit
      have hin:i*B.sz+n≤B.rows.length*B.sz:=by
       have:=Nat.mul_le_mul_right B.sz hb'
       rw[Nat.add_mul] at this
       omega
      have hrun:=bp5 (P:=P) (w:=w) (c:=l.blk) (o:=l.base+i*l.sz+0) hn hvn h1 (fun j hj=>hk.mem _ (by rw[hk.sz];omega))
      have hcl' :=aP8 B.sz (n/B.sz) cs
      obtain⟨a1,a2⟩:=bh4 hi (B' :=⟨B.sz,B.deep || cs.any r6,B.rows.take i++ae1 B.sz (n/B.sz) cs++B.rows.drop (i+n/B.sz)⟩) hB hl (i*B.sz) v.cells.toList
       (by simp[hvn];omega) rfl (fun x hx=>by
        simp only[List.mem_append] at hx
        rcases hx with(hx | hx) | hx
        ·exact hk.len x (List.mem_of_mem_take hx)
        ·exact ca2 (by omega) hc2 x hx
        ·exact hk.len x (List.mem_of_mem_drop hx)) (by
         simp only[List.length_append,List.length_take,List.length_drop,hcl']
         rw[show min i B.rows.length+n/B.sz+(B.rows.length-(i+n/B.sz))=B.rows.length by omega]
         exact hfit) (fun i' j x e g1 g2=>by
        simp only[Array.length_toList,hvn]
        rw[List.append_assoc] at g1
        by_cases q1:i' <i
        ·rw[List.getElem?_append_left (by simp;omega),List.getElem?_take,if_pos q1] at g1
         have hj:=(List.getElem?_eq_some_iff.1 g2).1
         have hxl:=(hk.len x (List.mem_of_getElem? g1)).1
         have:=az2 (sz:=B.sz) (j:=j) q1 (by omega)
         exact .inr ⟨by omega,x,g1,g2⟩
        ·rw[List.getElem?_append_right (by simp;omega)] at g1
         have ht:(B.rows.take i).length=i:=by simp;omega
         rw[ht] at g1
         by_cases q2:i' <i+n/B.sz
         ·rw[List.getElem?_append_left (by omega)] at g1
          obtain⟨g3,g4⟩:=aU5 _ _ _ _ _ _ _ g1 g2
          have g5:=(List.getElem?_eq_some_iff.1 g3).1
          obtain⟨u,hu,hur⟩:=hcv _ _ g3
          have e1:i' *B.sz=i*B.sz+(i' -i)*B.sz:=by rw[←Nat.add_mul];congr 1;omega
          exact .inl ⟨by omega,by omega,u,by rw[show i' *B.sz+j-i*B.sz=(i' -i)*B.sz+j by omega];exact hu,hur⟩
         ·rw[List.getElem?_append_right (by omega),List.getElem?_drop] at g1
          rw[hcl',show i+n/B.sz+(i' -i-n/B.sz)=i' by omega] at g1
          have:=Nat.mul_le_mul_right B.sz (show i+n/B.sz≤i' by omega)
          rw[Nat.add_mul] at this
          exact .inr ⟨by omega,x,g1,g2⟩) (fun h=>by simp[h])
      refine⟨undef,_,φ,?_,l5.refl _,a2,a1,.undef _⟩
      rw[hk.sz] at hrun ⊢
      simp[Instr.storeAt,Instr.sureAddr] at hrun ⊢
      simp[hrun]
     ·trivial
   ·trivial
  ·trivial
 ·trivial
end
end Go.RX

set_option linter.unusedSimpArgs false
set_option linter.unusedVariables false
namespace Go.RX
open Go
section
variable {P : Program} {w : World} {Im : Nat → Prop} {φ : o8} {σ : i4}
theorem l7.pure (hi:Inv w Im φ σ) {s:Sem Value}{d:D} (h:∃v,s.run P w=.ok v w∧i7 w Im φ d v):l7 P w Im φ σ s (.ok d σ):=
 let ⟨v,h1,h2⟩:=h;⟨v,w,φ,h1,T9.refl hi h2⟩
/-! ### integers -/
theorem cQ1 {t:TypeId}{op:BinOp}{k:IntKind}{x y:Int}{d:D} (h:iop op k x y=some d) (hop:op≠.shl∧op≠.shr∧op≠.quo∧op≠.rem):
  ∃v,(binOp op t (.int k x) (.int k y)).run P w=.ok v w∧i7 w Im φ d v:=by
 obtain⟨h1,h2,h3,h4⟩:=hop
 cases op<;>simp_all [iop]<;>subst h<;>
  first
   | exact⟨_,by simp[binOp,Op.intArith,Op.intBits,Op.intCmp],.int _ _⟩
   | exact⟨_,by simp[binOp,Op.intArith,Op.intBits,Op.intCmp],.bool _⟩
theorem cq1 (hi:Inv w Im φ σ) (op:BinOp) (t:TypeId) (k k' :IntKind) (x y:Int):l7 P w Im φ σ (binOp op t (.int k x) (.int k' y)) (bb6 op k k' x y σ):=by
 have hgen:(op≠.shl∧op≠.shr∧op≠.quo∧op≠.rem)→l7 P w Im φ σ (binOp op t (.int k x) (.int k' y)) (if k=k' then p9.opt (iop op k x y) σ else .bad):=by
  intro hop
  split
  ·rename_i hk
   subst hk
   exact l7.opt hi fun d hd=>cQ1 hd hop
  ·trivial
 unfold bb6
 split
 ·intro hb
  have hy:¬y<0:=by simpa using hb
  exact l7.pure hi ⟨_,by simp[binOp,Op.shift,hy],.int _ _⟩
 ·intro hb
  have hy:¬y<0:=by simpa using hb
  exact l7.pure hi ⟨_,by simp[binOp,Op.shift,hy],.int _ _⟩
 ·split
  ·rename_i hk
   subst hk
   intro hb
   have hy:¬y=0:=by simpa using hb
   exact l7.pure hi ⟨_,by simp[binOp,Op.intDiv,hy],.int _ _⟩
  ·trivial
 ·split
  ·rename_i hk
   subst hk
   intro hb
   have hy:¬y=0:=by simpa using hb
   exact l7.pure hi ⟨_,by simp[binOp,Op.intDiv,hy],.int _ _⟩
  ·trivial
 ·rename_i h1 h2 h3 h4
  exact hgen ⟨fun h=>h1 h,fun h=>h2 h,fun h=>h3 h,fun h=>h4 h⟩
theorem cY7 (hi:Inv w Im φ σ) (op:UnOp) {x:D}{v:Value} (hx:i7 w Im φ x v):l7 P w Im φ σ (Op.unary op v) (p9.opt (unD op x) σ):=by
 refine l7.opt hi fun d hd=> ?_
 unfold unD at hd
 split at hd
 ·obtain rfl:=hx.bool_inv
  obtain rfl:=Option.some.inj hd
  exact⟨_,by simp[Op.unary],.bool _⟩
 ·obtain rfl:=hx.int_inv
  obtain rfl:=Option.some.inj hd
  exact⟨_,by simp[Op.unary,Op.intArith],.int _ _⟩
 ·rename_i k n
  obtain rfl:=hx.int_inv
  simp[iop] at hd
  subst hd
  exact⟨_,by simp[Op.unary,Op.intBits],.int _ _⟩
 ·cases hd
/-! ### parts, equality -/
theorem aD6 {t:TypeId}{cs:List D}{vs:Array Value}{off:Nat}{d:D} (hl:cs.length=vs.size) (hr:∀(i:Nat) (d:D) (v:Value),cs[i]? =some d→vs[i]? =some v→i7 w Im φ d v)
  (h:aH0 P t cs off=some d):∃v,(part t vs off).run P w=.ok v w∧i7 w Im φ d v:=by
 unfold aH0 at h
 split at h
 ·rename_i n ag ht
  obtain⟨h1,h2⟩:=bT5 ht w
  split at h
  ·rename_i hag
   subst hag
   obtain rfl:=Option.some.inj h
   refine⟨.agg (vs.extract off (off+n)),by simp[part,h1,h2],.agg _ _ (by simp;omega) (fun i d v h3 h4=> ?_)⟩
   rw[List.getElem?_take] at h3
   split at h3
   ·rw[List.getElem?_drop] at h3
    rw[Array.getElem?_extract] at h4
    split at h4
    ·exact hr _ _ _ h3 h4
    ·cases h4
   ·cases h3
  ·rename_i hag
   have hag' :ag=false:=by cases ag<;>simp_all
   subst hag'
   have hlt:=(List.getElem?_eq_some_iff.1 h).1
   rw[hl] at hlt
   refine⟨vs[off],by simp[part,h1,hlt],hr _ _ _ h (by simp[hlt])⟩
 ·cases h
theorem cx5 {s:TypeId}{x:D}{v:Value} (hx:i7 w Im φ x v) {f:Nat}{d:D} (h:cg6 P s x f=some d):∃u,(Instr.field s v f).run P w=.ok u w∧i7 w Im φ d u:=by
 unfold cg6 at h
 split at h
 ·rename_i fields cs hu
  obtain⟨vs,rfl,h1,h2⟩:=hx.agg_inv
  split at h
  ·rename_i fd hf
   obtain⟨u,h3,h4⟩:=aD6 (P:=P) h1 h2 h
   exact⟨u,by simp[Instr.field,run_underlying hu,hf,asAgg,h3],h4⟩
  ·cases h
 ·cases h
theorem bQ3 {o:Option Bool}{r:List (Option Bool)}{b:Bool} (h:bf0 (o::r)=some b):∃x y,o=some x∧bf0 r=some y∧b=(x&&y):=by
 cases o with
 | none=>cases h
 | some x=>
  simp only[bf0] at h
  cases hr:bf0 r with
  | none=>simp[hr] at h
  | some y=>simp[hr] at h;exact⟨x,y,rfl,rfl,h.symm⟩
theorem at0 (s:ByteArray):s.toList=s.data.toList:=ByteArray.toList_eq s
theorem cm9:∀(n d:Nat) (t:TypeId) (x y:D) (vx vy:Value) (b:Bool),i7 w Im φ x vx→i7 w Im φ y vy→deq P n t x y=some b→n≤d→(Op.equalIn d t vx vy).run P w=.ok b w
 | 0,_,_,_,_,_,_,_,_,_,h,_=>by simp[deq] at h
 | n+1,d,t,x,y,vx,vy,b,hx,hy,h,hd=>by
  obtain⟨d,rfl⟩:∃e,d=e+1:=⟨d-1,by omega⟩
  have IH:=cm9 n d
  unfold deq at h
  split at h
  ·rename_i a c hu
   obtain rfl:=hx.bool_inv
   obtain rfl:=hy.bool_inv
   obtain rfl:=Option.some.inj h
   exact run_equalIn_bool' w d t a c hu
  ·rename_i k' k a k2 c hu
   obtain rfl:=hx.int_inv
   obtain rfl:=hy.int_inv
   split at h
   ·rename_i hk
    subst hk
    obtain rfl:=Option.some.inj h
    exact run_equalIn_int w d t k _ a c hu
   ·cases h
  ·rename_i a c hu
   obtain⟨s1,rfl,rfl⟩:=hx.str_inv
   obtain⟨s2,rfl,rfl⟩:=hy.str_inv
   obtain rfl:=Option.some.inj h
   rw[run_equalIn_string w d t s1 s2 hu,at0,at0]
  ·rename_i fields xs ys hu
   obtain⟨vs1,rfl,h1,h2⟩:=hx.agg_inv
   obtain⟨vs2,rfl,h3,h4⟩:=hy.agg_inv
   split at h
   ·cases h
   ·rename_i hst
    have hff:P.fieldsOf t=fields:=by simp[Program.fieldsOf,hu]
    rw[run_equalIn_struct w d t vs1 vs2 (by rw[hff];exact hu) (by simpa using hst),hff]
    generalize fields.toList=fs at h
    clear hff hu hst
    induction fs generalizing b with
    | nil=>simp[bf0] at h;subst h;simp[Op.eqFields]
    | cons f fs ih=>
     simp only[List.map_cons] at h
     obtain⟨r,c,g1,g2,rfl⟩:=bQ3 h
     have IHf:=ih c g2
     simp only[Op.eqFields]
     split at g1
     ·rename_i hn
      rw[if_pos hn]
      split at g1
      ·rename_i a e g3 g4
       obtain⟨va,g5,g6⟩:=aD6 (P:=P) (w:=w) (Im:=Im) (φ:=φ) h1 h2 g3
       obtain⟨ve,g7,g8⟩:=aD6 (P:=P) (w:=w) (Im:=Im) (φ:=φ) h3 h4 g4
       have g9:=IH f.type a e va ve r g6 g8 g1 (by omega)
       simp only[Sem.run_bind,g5,g7,g9,Result.andThen_ok]
       cases r<;>simp[IHf]
      ·cases g1
     ·rename_i hn
      rw[if_neg hn]
      obtain rfl:=Option.some.inj g1
      simpa using IHf
  ·rename_i len e xs ys hu
   obtain⟨vs1,rfl,h1,h2⟩:=hx.agg_inv
   obtain⟨vs2,rfl,h3,h4⟩:=hy.agg_inv
   split at h
   ·rename_i m hm
    rw[Op.equalIn]
    simp only[Sem.run_bind,run_underlying hu,Result.andThen_ok,A3 hm]
    simp only[Std.Legacy.Range.forIn_eq_forIn_range',Std.Legacy.Range.size,Nat.sub_zero,Nat.add_one_sub_one,Nat.div_one]
    rw[List.range_eq_range'] at h
    generalize List.range' 0 len=is at h
    induction is generalizing b with
    | nil=>simp[bf0] at h;subst h;simp
    | cons i is ih=>
     simp only[List.map_cons] at h
     obtain⟨r,c,g1,g2,rfl⟩:=bQ3 h
     have IHf:=ih c g2
     split at g1
     ·rename_i a f g3 g4
      obtain⟨va,g5,g6⟩:=aD6 (P:=P) (w:=w) (Im:=Im) (φ:=φ) h1 h2 g3
      obtain⟨vf,g7,g8⟩:=aD6 (P:=P) (w:=w) (Im:=Im) (φ:=φ) h3 h4 g4
      have g9:=IH e a f va vf r g6 g8 g1 (by omega)
      simp only[List.forIn_cons,Sem.run_bind,g5,g7,g9,Result.andThen_ok]
      cases r
      ·simp
      ·simpa using IHf
     ·cases g1
   ·cases h
  ·cases h
theorem cj6 {op:BinOp}{t:TypeId}{x y:Operand}{vx vy:Value} (h1:∀a,vx=.agg a→P.eqGuardType P.depth t=false) (h2:vx=.nilIface→vy≠.nilIface):(eqGuard op t x y vx vy).run P w=.ok () w:=by
 cases vx with
 | agg a=>
  cases vy with
  | agg b=>exact run_eqGuard_agg w op t x y a b (h1 _ rfl)
  | _=>cases op<;>simp[eqGuard]
 | nilIface=>
  cases vy with
  | nilIface=>exact absurd rfl (h2 rfl)
  | _=>cases op<;>simp[eqGuard]
 | _=>cases op<;>simp[eqGuard]
def ca5 (P:Program) (w:World) (t:TypeId) (vx vy:Value) (b:Bool):Prop:=
 (binOp .eql t vx vy).run P w=.ok (.bool b) w∧(binOp .neq t vx vy).run P w=.ok (.bool (!b)) w∧(∀a,vx=.agg a→P.eqGuardType P.depth t=false)∧(vx=.nilIface→vy≠.nilIface)
theorem cR4 {t:TypeId}{vx vy:Value}{b:Bool} (h:(Op.equalIn 10000 t vx vy).run P w=.ok b w) (h0:(binOp .eql t vx vy).run P w=((Op.equalIn 10000 t vx vy).run P w).andThen fun b w' => .ok (.bool b) w')
  (h1:(binOp .neq t vx vy).run P w=((Op.equalIn 10000 t vx vy).run P w).andThen fun b w' => .ok (.bool (!b)) w') (h2:∀a,vx=.agg a→P.eqGuardType P.depth t=false) (h3:vx=.nilIface→vy≠.nilIface):ca5 P w t vx vy b:=
 ⟨by rw[h0,h];rfl,by rw[h1,h];rfl,h2,h3⟩
section
variable (d : Nat) {t : TypeId}
theorem bd6 {e:TypeId} (hu:P.underlying t=some (.slice e)) (b:Option Addr) (n c:Nat):(Op.equalIn (d+1) t (.slice none 0 0) (.slice b n c)).run P w=.ok b.isNone w:=by simp[Op.equalIn,run_underlying hu]
theorem bG9 {e:TypeId} (hu:P.underlying t=some (.slice e)) (a:Addr) (n c:Nat):(Op.equalIn (d+1) t (.slice (some a) n c) (.slice none 0 0)).run P w=.ok false w:=by simp[Op.equalIn,run_underlying hu]
theorem cx6 {e:TypeId} (hu:P.underlying t=some (.pointer e)):(Op.equalIn (d+1) t (.pointer none) (.pointer none)).run P w=.ok true w:=by simp[Op.equalIn,run_underlying hu]
theorem bT4 {e:TypeId} (hu:P.underlying t=some (.pointer e)) (a:Addr):(Op.equalIn (d+1) t (.pointer (some a)) (.pointer none)).run P w=.ok false w:=by simp[Op.equalIn,run_underlying hu]
theorem cz7 {p1 p2:Array TypeId}{p3:Bool} (hu:P.underlying t=some (.func p1 p2 p3)):(Op.equalIn (d+1) t .nilFunc .nilFunc).run P w=.ok true w:=by simp[Op.equalIn,run_underlying hu]
theorem cv0 {p1 p2:Array TypeId}{p3:Bool} (hu:P.underlying t=some (.func p1 p2 p3)) (f:Fn) (a b:Array Value):(Op.equalIn (d+1) t (.func f a b) .nilFunc).run P w=.ok false w:=by simp[Op.equalIn,run_underlying hu]
theorem cy5 {ms:Array (String×TypeId)} (hu:P.underlying t=some (.interface ms)) (u:TypeId) (v:Value):(Op.equalIn (d+1) t (.iface u v) .nilIface).run P w=.ok false w:=by simp[Op.equalIn,run_underlying hu]
end
def bc3:Value→Bool
 | .int .. | .float .. | .complex .. | .string _=>false
 | _=>true
theorem cx2 {t:TypeId}{vx vy:Value} (h:bc3 vx=true):(binOp .eql t vx vy).run P w=((Op.equalIn 10000 t vx vy).run P w).andThen fun b w' => .ok (.bool b) w' :=by
 cases vx<;>first | (simp[bc3] at h;done) | (simp only[binOp,Op.equal,Op.maxDepth];simp only[Sem.run_bind,Sem.run_pure])
theorem cB9 {t:TypeId}{vx vy:Value} (h:bc3 vx=true):(binOp .neq t vx vy).run P w=((Op.equalIn 10000 t vx vy).run P w).andThen fun b w' => .ok (.bool (!b)) w' :=by
 cases vx<;>first | (simp[bc3] at h;done) | (simp only[binOp,Op.equal,Op.maxDepth];simp only[Sem.run_bind,Sem.run_pure])
theorem S0 {t:TypeId}{vx vy:Value}{b:Bool} (h:(Op.equalIn (9999+1) t vx vy).run P w=.ok b w) (hp:bc3 vx=true) (h2:∀a,vx=.agg a→P.eqGuardType P.depth t=false) (h3:vx=.nilIface→vy≠.nilIface):ca5 P w t vx vy b:=
 cR4 h (cx2 hp) (cB9 hp) h2 h3
theorem co4 {t:TypeId}{x y:D}{vx vy:Value} (hx:i7 w Im φ x vx) (hy:i7 w Im φ y vy) {b:Bool} (h:ch0 P t x y=some b)
  (hint:∀k n k' m,¬(x=.int k n∧y=.int k' m)) (hstr:∀l m,¬(x=.str l∧y=.str m)):ca5 P w t vx vy b:=by
 unfold ch0 at h
 split at h
 ·rename_i sz rows
  obtain⟨rfl,-⟩:=hy.nilsl_inv
  split at h
  ·rename_i sz' rows' e hu
   obtain rfl:=Option.some.inj h
   obtain⟨rfl,-⟩:=hx.nilsl_inv
   exact S0 (bd6 9999 hu none 0 0) rfl (fun a ha=>by cases ha) (fun ha=>by cases ha)
  ·cases h
 ·obtain rfl:vy=.pointer none:=by cases hy;rfl
  split at h
  ·rename_i e hu
   obtain rfl:=Option.some.inj h
   obtain rfl:vx=.pointer none:=by cases hx;rfl
   exact S0 (cx6 9999 hu) rfl (fun a ha=>by cases ha) (fun ha=>by cases ha)
  ·rename_i e hu
   obtain rfl:=Option.some.inj h
   obtain⟨l,-,rfl⟩:=hx.ptr_inv
   exact S0 (bT4 9999 hu _) rfl (fun a ha=>by cases ha) (fun ha=>by cases ha)
  ·rename_i e hu
   obtain rfl:=Option.some.inj h
   obtain⟨c,base,rfl,-⟩:=hx.iptr_inv
   exact S0 (bT4 9999 hu _) rfl (fun a ha=>by cases ha) (fun ha=>by cases ha)
  ·cases h
 ·obtain rfl:vy=.nilFunc:=by cases hy;rfl
  split at h
  ·rename_i p1 p2 p3 hu
   obtain rfl:=Option.some.inj h
   obtain rfl:vx=.nilFunc:=by cases hx;rfl
   exact S0 (cz7 9999 hu) rfl (fun a ha=>by cases ha) (fun ha=>by cases ha)
  ·rename_i p1 p2 p3 hu
   obtain rfl:=Option.some.inj h
   obtain⟨a1,a2,a3,rfl⟩:∃a1 a2 a3,vx=.func a1 a2 a3:=by cases hx;exact⟨_,_,_,rfl⟩
   exact S0 (cv0 9999 hu _ _ _) rfl (fun a ha=>by cases ha) (fun ha=>by cases ha)
  ·cases h
 ·obtain rfl:vy=.nilIface:=by cases hy;rfl
  split at h
  ·rename_i ms hu
   obtain rfl:=Option.some.inj h
   obtain⟨a1,a2,rfl⟩:∃a1 a2,vx=.iface a1 a2:=by cases hx;exact⟨_,_,rfl⟩
   exact S0 (cy5 9999 hu _ _) rfl (fun a ha=>by cases ha) (fun ha=>by cases ha)
  ·cases h
 ·cases hg:bd7 P t x with
  | true=>simp[hg] at h
  | false=>
   simp only[hg,cond_false] at h
   have hr:=cm9 (P:=P) (w:=w) (Im:=Im) (φ:=φ) 8 10000 t x y vx vy b hx hy h (by omega)
   unfold deq at h
   split at h
   ·obtain rfl:=hx.bool_inv
    obtain rfl:=hy.bool_inv
    exact S0 hr rfl (fun a ha=>by cases ha) (fun ha=>by cases ha)
   ·exact absurd ⟨rfl,rfl⟩ (hint _ _ _ _)
   ·exact absurd ⟨rfl,rfl⟩ (hstr _ _)
   ·obtain⟨vs1,rfl,h1,h2⟩:=hx.agg_inv
    obtain⟨vs2,rfl,h3,h4⟩:=hy.agg_inv
    exact S0 hr rfl (fun a ha=>by simpa[bd7] using hg) (fun ha=>by cases ha)
   ·obtain⟨vs1,rfl,h1,h2⟩:=hx.agg_inv
    obtain⟨vs2,rfl,h3,h4⟩:=hy.agg_inv
    exact S0 hr rfl (fun a ha=>by simpa[bd7] using hg) (fun ha=>by cases ha)
   ·cases h
theorem cN3 {t:TypeId}{x y:D}{vx vy:Value} (hx:i7 w Im φ x vx) (hy:i7 w Im φ y vy) (p:Bool) (h:bb7 P t x y=some p):∃b,(b=true→p=true)∧ca5 P w t vx vy b:=by
 unfold bb7 at h
 split at h
 ·obtain⟨rfl,-⟩:=hy.nilsl_inv
  split at h
  ·rename_i sz' rows e hu
   obtain rfl:=Option.some.inj h
   rcases hx.sl_inv with⟨rfl,rfl⟩ | ⟨c,base,cap,a,rfl,-⟩
   ·exact⟨true,fun _=>rfl,S0 (bd6 9999 hu none 0 0) rfl (fun a ha=>by cases ha) (fun ha=>by cases ha)⟩
   ·exact⟨false,(fun h=>by cases h),S0 (bG9 9999 hu _ _ _) rfl (fun a ha=>by cases ha) (fun ha=>by cases ha)⟩
  ·rename_i e hu
   obtain rfl:=Option.some.inj h
   obtain⟨l,-,⟨rfl,rfl,-⟩ | ⟨cap,ad,rfl,-⟩⟩:=hx.msl_inv
   ·exact⟨true,fun _=>rfl,S0 (bd6 9999 hu none 0 0) rfl (fun a ha=>by cases ha) (fun ha=>by cases ha)⟩
   ·exact⟨false,(fun h=>by cases h),S0 (bG9 9999 hu _ _ _) rfl (fun a ha=>by cases ha) (fun ha=>by cases ha)⟩
  ·cases h
 ·cases h
theorem cR0 (hi:Inv w Im φ σ) (op:BinOp) (t:TypeId) (ox oy:Operand) {x y:D}{vx vy:Value} (hx:i7 w Im φ x vx) (hy:i7 w Im φ y vy):
  l7 P w Im φ σ (do eqGuard op t ox oy vx vy;binOp op t vx vy) (bN5 P op t x y σ):=by
 have lift:∀(r:p9),(∀a,vx=.agg a→P.eqGuardType P.depth t=false)→(vx=.nilIface→vy≠.nilIface)→l7 P w Im φ σ (binOp op t vx vy) r→l7 P w Im φ σ (do eqGuard op t ox oy vx vy;binOp op t vx vy) r:=by
  intro r h1 h2
  have hg:=cj6 (P:=P) (w:=w) (op:=op) (t:=t) (x:=ox) (y:=oy) h1 h2
  have key:∀{u:World},(do eqGuard op t ox oy vx vy;binOp op t vx vy:Sem Value).run P w=(binOp op t vx vy).run P w:=by simp[hg]
  induction r with
  | ok d s=>rintro ⟨v,w',φ',h3,h4⟩;exact⟨v,w',φ',by rw[key (u:=w)];exact h3,h4⟩
  | need b k ih=>exact fun h hb=>ih (h hb)
  | split b k ih=>exact fun h=>ih _ h
  | row r k ih=>exact fun h x hx=>ih x (h x hx)
  | rows r k ih=>exact fun h=>ih r h
  | any p k ih=>exact fun h=>let ⟨b,hb,h'⟩:=h;⟨b,hb,ih b h'⟩
  | str r k ih=>exact fun h x hx=>ih x (h x hx)
  | call=>exact fun h=>h
  | yld=>exact fun h=>h
  | bad=>exact fun h=>h
 have hEq0:(∀k n k' m,¬(x=.int k n∧y=.int k' m))→(∀l m,¬(x=.str l∧y=.str m))→∀op',op' =op→
   l7 P w Im φ σ (do eqGuard op t ox oy vx vy;binOp op t vx vy) (match op' with | .eql=>eqQ P t x y fun b=> .ok (.bool b) σ | .neq=>eqQ P t x y fun b=> .ok (.bool (!b)) σ | _=> .bad):=by
  intro h1 h2 op' hop
  have nc:∀p,bb7 P t x y=some p→∃b,(b=true→p=true)∧ca5 P w t vx vy b:=cN3 hx hy
  unfold eqQ
  cases op' <;>first | trivial | skip
  ·subst hop
   cases hn:bb7 P t x y with
   | some p=>
    obtain⟨b,hb,g1,g2,g3,g4⟩:=nc p hn
    exact⟨b,hb,lift _ g3 g4 (l7.pure hi ⟨_,g1,.bool _⟩)⟩
   | none=>
    cases hq:ch0 P t x y with
    | none=>trivial
    | some b=>
     obtain⟨g1,g2,g3,g4⟩:=co4 hx hy hq h1 h2
     exact lift _ g3 g4 (l7.pure hi ⟨_,g1,.bool _⟩)
  ·subst hop
   cases hn:bb7 P t x y with
   | some p=>
    obtain⟨b,hb,g1,g2,g3,g4⟩:=nc p hn
    exact⟨b,hb,lift _ g3 g4 (l7.pure hi ⟨_,g2,.bool _⟩)⟩
   | none=>
    cases hq:ch0 P t x y with
    | none=>trivial
    | some b=>
     obtain⟨g1,g2,g3,g4⟩:=co4 hx hy hq h1 h2
     exact lift _ g3 g4 (l7.pure hi ⟨_,g2,.bool _⟩)
 unfold bN5
 split
 ·rename_i k a k' b
  obtain rfl:=hx.int_inv
  obtain rfl:=hy.int_inv
  exact lift _ (fun a ha=>by cases ha) (fun ha=>by cases ha) (cq1 hi op t k k' a b)
 ·rename_i a b
  obtain⟨s1,rfl,rfl⟩:=hx.str_inv
  obtain⟨s2,rfl,rfl⟩:=hy.str_inv
  refine lift _ (fun a ha=>by cases ha) (fun ha=>by cases ha) ?_
  split
  ·exact l7.pure hi ⟨_,by simp[binOp,Op.stringOp,at0],.bool _⟩
  ·exact l7.pure hi ⟨_,by simp[binOp,Op.stringOp,at0],.bool _⟩
  ·exact l7.pure hi ⟨_,by simp[binOp,Op.stringOp,at0],.bool _⟩
  ·intro hb
   have hb' :¬(((s1.size+s2.size:Nat):Int)>IntKind.i64.max):=by
    have:=of_decide_eq_true hb
    simp only[Array.length_toList] at this
    have e1:s1.data.size=s1.size:=rfl
    have e2:s2.data.size=s2.size:=rfl
    rw[e1,e2] at this
    omega
   refine l7.pure hi ⟨_,by simp only[binOp,Op.stringOp,if_neg hb'];rfl,.str _ _ (by simp)⟩
  ·trivial
 ·rename_i h1 h2
  exact hEq0 (fun k n k' m ⟨e1,e2⟩=>h1 _ _ _ _ e1 e2) (fun l m ⟨e1,e2⟩=>h2 _ _ e1 e2) op rfl
end
section
variable {P : Program} {w : World} {Im : Nat → Prop} {φ : o8} {σ : i4}
theorem l7.congr {s s' :Sem Value} (h:s.run P w=s'.run P w):∀{r:p9},l7 P w Im φ σ s r→l7 P w Im φ σ s' r
 | .ok d σ',⟨v,w',φ',h1,h2⟩=>⟨v,w',φ',by rw[←h];exact h1,h2⟩
 | .need b k,h' =>fun hb=>l7.congr h (h' hb)
 | .split b k,h' =>l7.congr h (r:=k b) h'
 | .row r k,h' =>fun x hx=>l7.congr h (h' x hx)
 | .rows r k,h' =>l7.congr (r:=k r) h h'
 | .any p k,h' =>let ⟨b,hb,h2⟩:=h';⟨b,hb,l7.congr (r:=k b) h h2⟩
 | .str r k,h' =>fun x hx=>l7.congr h (h' x hx)
 | .call _ _,h' =>h'.elim
 | .yld _ _,h' =>h'.elim
 | .bad,_=>trivial
theorem ao7 (c o n sz:Nat):(⟨c,o,none⟩:Addr).add (n*sz)=⟨c,o+n*sz,none⟩:=aw4 _ _ _
theorem bU7 (hi:Inv w Im φ σ) {s:TypeId}{p:D}{pv:Value} (hp:i7 w Im φ p pv) (f:Nat):l7 P w Im φ σ (Instr.fieldAt s pv f) (p9.opt (be3 P s p f) σ):=by
 refine l7.opt hi fun d hd=> ?_
 unfold be3 at hd
 split at hd
 ·rename_i fields hu
  split at hd
  ·rename_i fd hf
   split at hd
   ·rename_i n hn
    split at hd
    ·cases hd
    ·rename_i hn0
     split at hd
     ·rename_i b i o
      obtain⟨l,hl,rfl⟩:=hp.ptr_inv
      obtain rfl:=Option.some.inj hd
      refine⟨_,by simp[Instr.fieldAt,run_underlying hu,hf,Instr.sureAddr,fieldPlace,A3 hn,hn0,aw4];rfl,?_⟩
      have:=i7.ptr (w:=w) (Im:=Im) b i (o+fd.offset) l hl
      simpa[Nat.add_assoc] using this
     ·rename_i sz rows i o
      obtain rfl:=Option.some.inj hd
      cases hp with
      | iptr _ _ _ _ c base vf h1 h2 h3 h4=>
       refine⟨_,by simp[Instr.fieldAt,run_underlying hu,hf,Instr.sureAddr,fieldPlace,A3 hn,hn0,aw4];rfl,?_⟩
       have:=i7.iptr (w:=w) (Im:=Im) (φ:=φ) sz rows i (o+fd.offset) c base vf h1 h2 h3 h4
       simpa[Nat.add_assoc] using this
     ·cases hd
   ·cases hd
  ·cases hd
 ·cases hd
theorem aP3 {i:Int}{n:Nat} (h:(decide (0≤i)&&decide (i<(n:Int)))=true):0≤i∧i<(n:Int):=by simpa using h
theorem bW8 (hi:Inv w Im φ σ) {t:TypeId}{x:D}{xv:Value} (hx:i7 w Im φ x xv) (k:IntKind) (i:Int):l7 P w Im φ σ (Instr.indexAt t xv (.int k i)) (V6 P t x i σ):=by
 unfold V6
 split
 ·rename_i e hu
  split
  ·trivial
  ·rename_i n hn
   split
   ·rename_i sz rows
    split
    ·rename_i hc
     obtain⟨rfl,hpos⟩:=hc
     intro hb
     obtain⟨h0,h1⟩:=aP3 hb
     cases hx with
     | nilsl2=>exact absurd h1 (by simp;omega)
     | sl _ _ c base cap vf a ha a1 a2 a3 a4 a5=>
      obtain rfl:=ha (fun e=>by rw[e] at h1;simp at h1;omega)
      refine l7.pure hi ⟨.pointer (some ⟨c,base+i.toNat*sz,none⟩),?_,?_⟩
      ·simp[Instr.indexAt,asIntOf,run_underlying hu,h0,h1,A3 hn,ao7]
      ·have:=i7.iptr (w:=w) (Im:=Im) (φ:=φ) sz rows i.toNat 0 c base vf a1 a2 a4 a5
       simpa using this
    ·trivial
   ·trivial
   ·rename_i b j len lo ex
    split
    ·rename_i B hB
     split
     ·rename_i hc
      obtain⟨rfl,hpos⟩:=hc
      intro hb
      obtain⟨h0,h1⟩:=aP3 hb
      obtain⟨l,hl,⟨rfl,z1,z2⟩ | ⟨cap,ad,rfl,a1,a2,a3,a4,a6,a5⟩⟩:=hx.msl_inv
      ·omega
      obtain rfl:=a5 (by omega)
      obtain⟨l',hl',hk⟩:=hi.loc hB
      obtain rfl:=Option.some.inj (hl.symm.trans hl')
      refine l7.pure hi ⟨.pointer (some ⟨l.blk,l.base+j*l.sz+i.toNat*B.sz,none⟩),?_,?_⟩
      ·simp[Instr.indexAt,asIntOf,run_underlying hu,h0,h1,A3 hn,ao7]
      ·have:=i7.ptr (w:=w) (Im:=Im) b (j+i.toNat) 0 l hl
       rw[hk.sz] at this ⊢
       rw[Nat.add_mul] at this
       simpa[Nat.add_assoc] using this
     ·trivial
    ·trivial
   ·trivial
 ·rename_i len e hu
  split
  ·rename_i n b j o hn
   split
   ·rename_i B hB
    split
    ·rename_i hc
     obtain⟨rfl,hpos,rfl⟩:=hc
     intro hb
     obtain⟨h0,h1⟩:=aP3 hb
     obtain⟨l,hl,rfl⟩:=hx.ptr_inv
     obtain⟨l',hl',hk⟩:=hi.loc hB
     obtain rfl:=Option.some.inj (hl.symm.trans hl')
     refine l7.pure hi ⟨.pointer (some ⟨l.blk,l.base+j*l.sz+0+i.toNat*B.sz,none⟩),?_,?_⟩
     ·simp[Instr.indexAt,asIntOf,run_underlying hu,h0,h1,A3 hn,ao7,Instr.sureAddr]
     ·have:=i7.ptr (w:=w) (Im:=Im) b (j+i.toNat) 0 l hl
      rw[hk.sz] at this ⊢
      rw[Nat.add_mul] at this
      simpa[Nat.add_assoc] using this
    ·trivial
   ·trivial
  ·rename_i n sz rows j o hn
   split
   ·rename_i hc
    obtain⟨rfl,hpos,rfl⟩:=hc
    intro hb
    obtain⟨h0,h1⟩:=aP3 hb
    cases hx with
    | iptr _ _ _ _ c base vf a1 a2 a3 a4=>
     refine l7.pure hi ⟨.pointer (some ⟨c,base+j*sz+0+i.toNat*sz,none⟩),?_,?_⟩
     ·simp[Instr.indexAt,asIntOf,run_underlying hu,h0,h1,A3 hn,ao7,Instr.sureAddr]
     ·have:=i7.iptr (w:=w) (Im:=Im) (φ:=φ) sz rows (j+i.toNat) 0 c base vf a1 a2 a3 a4
      rw[Nat.add_mul] at this
      simpa[Nat.add_assoc] using this
   ·trivial
  ·trivial
 ·trivial
theorem bG2 (hi:Inv w Im φ σ) {t:TypeId}{x:D} (hna:∀cs,x≠.arr cs) {xv:Value} (hx:i7 w Im φ x xv) (k:IntKind) (i:Int):l7 P w Im φ σ (Instr.index t xv (.int k i)) (am9 P t x i σ):=by
 unfold am9
 split
 ·rename_i len e cs hu
  split
  ·rename_i n hn
   intro hb
   obtain⟨h0,h1⟩:=aP3 hb
   obtain⟨vs,rfl,h2,h3⟩:=hx.agg_inv
   have fin:∀d,aH0 P e cs (i.toNat*n)=some d→∃v,(Instr.index t (.agg vs) (.int k i)).run P w=.ok v w∧i7 w Im φ d v:=fun d hd=>by
    obtain⟨v,h4,h5⟩:=aD6 (P:=P) h2 h3 hd
    exact⟨v,by simp[Instr.index,asIntOf,run_underlying hu,h0,h1,A3 hn,h4],h5⟩
   unfold bs6
   split
   ·rename_i m ag hty
    split
    ·rename_i hag
     exact l7.pure hi (fin _ (by unfold aH0;rw[hty];simp[hag]))
    ·rename_i hag
     intro r hr
     simp only[Option.map_eq_some_iff] at hr
     obtain⟨d0,hd0,rfl⟩:=hr
     refine l7.opt hi fun d hd=>fin d ?_
     simp only[List.getElem?_cons_zero] at hd
     unfold aH0
     rw[hty]
     simp only
     rw[if_neg hag,hd0,hd]
   ·trivial
  ·trivial
 ·rename_i cs hu
  exact absurd rfl (hna cs)
 ·rename_i s hu
  intro hb r hr
  obtain⟨h0,h1⟩:=aP3 hb
  obtain⟨b,rfl,rfl⟩:=hx.str_inv
  refine l7.opt hi fun d hd=> ?_
  simp only[Option.map_eq_some_iff] at hr
  obtain⟨c,hc,rfl⟩:=hr
  simp at hd
  subst hd
  refine⟨.int .u8 c.toNat,?_,.int _ _⟩
  have hc' :b[i.toNat]? =some c:=by
   rw[←hc]
   simp only[Array.getElem?_toList]
   rfl
  simp[Instr.index,asIntOf,run_underlying hu,h0,hc']
 ·trivial
theorem cz2 (hi:Inv w Im φ σ) {t:TypeId}{x:D}{xv:Value} (hx:i7 w Im φ x xv) (k:IntKind) (i:Int):l7 P w Im φ σ (Instr.index t xv (.int k i)) (am9 P t x i σ):=by
 by_cases h:∃cs,x=.arr cs
 ·obtain⟨cs,rfl⟩:=h
  have h1:=bG2 (P:=P) (t:=t) hi (x:=.agg cs) (fun _ h=>by cases h) hx.arr_agg k i
  have h2:am9 P t (.arr cs) i σ=am9 P t (.agg cs) i σ∨am9 P t (.arr cs) i σ=.bad:=by
   unfold am9
   cases P.underlying t with
   | none=>exact .inr rfl
   | some y=>cases y<;>first | exact .inl rfl | exact .inr rfl
  rcases h2 with h2 | h2<;>rw[h2]
  ·exact h1
  ·trivial
 ·exact bG2 hi (fun cs e=>h ⟨cs,e⟩) hx k i
/-! ### slicing -/
def am5 (x:Option Int) (v:Option Value):Prop:=match x with
 | none=>v=none
 | some n=>∃k,v=some (.int k n)
theorem bB3 {o:Option Operand}{ρ:Operand→D}{ρc:Operand→Value} (hρ:∀x,i7 w Im φ (ρ x) (ρc x)) {x:Option Int} (h:aZ5 (o.map ρ)=some x):am5 x (o.map ρc):=by
 cases o with
 | none=>simp[aZ5] at h;subst h;rfl
 | some y=>
  have:=hρ y
  simp only[Option.map_some] at h ⊢
  cases hd:ρ y<;>rw[hd] at h this<;>simp[aZ5] at h
  subst h
  rw[this.int_inv]
  exact⟨_,rfl⟩
theorem bb0 {lo hi:Nat}{x:Int}:inB lo hi x=true↔(lo:Int)≤x∧x≤(hi:Int):=by simp[inB]
theorem ai1 {isSlice:Bool}{n c cap:Nat} (hc:c≤cap) (hn:n≤c) {lo hi mx:Option Int}{vl vh vm:Option Value} (h1:am5 lo vl) (h2:am5 hi vh) (h3:am5 mx vm)
  {K:Nat→Nat→Option Nat→p9}{s:Sem Value}
  (h:∀l h m,l≤h→h≤c→(∀x,m=some x→h≤x∧x≤c)→(m=none↔mx=none)→((Instr.sliceBounds isSlice n cap vl vh vm).run P w=.ok (l,h,m.getD cap) w)→l7 P w Im φ σ s (K l h m)):
  l7 P w Im φ σ s (au1 n c lo hi mx K):=by
 unfold au1
 split
 ·simp only[am5] at h1 h2 h3
  subst h1;subst h2;subst h3
  exact h 0 n none (by omega) (by omega) (fun x hx=>by cases hx) (by simp) (by simp[Instr.sliceBounds])
 ·simp only[am5] at h1 h2 h3
  obtain⟨k1,rfl⟩:=h1;subst h2;subst h3
  intro hb
  rw[bb0] at hb
  exact h _ n none (by omega) (by omega) (fun x hx=>by cases hx) (by simp) (by simp[Instr.sliceBounds];rw[run_sliceBound _ _ _ _ _ (by omega) (by omega)];simp)
 ·simp only[am5] at h1 h2 h3
  subst h1;obtain⟨k2,rfl⟩:=h2;subst h3
  intro hb
  rw[bb0] at hb
  exact h 0 _ none (by omega) (by omega) (fun x hx=>by cases hx) (by simp) (by simp[Instr.sliceBounds];rw[run_sliceBound _ _ _ _ _ (by omega) (by omega)];simp)
 ·simp only[am5] at h1 h2 h3
  obtain⟨k1,rfl⟩:=h1;obtain⟨k2,rfl⟩:=h2;subst h3
  intro hb hb2
  rw[bb0] at hb hb2
  exact h _ _ none (by omega) (by omega) (fun x hx=>by cases hx) (by simp) (by simp[Instr.sliceBounds];rw[run_sliceBound _ _ _ _ _ (by omega) (by omega)];simp;rw[run_sliceBound _ _ _ _ _ (by omega) (by omega)];simp)
 ·simp only[am5] at h1 h2 h3
  subst h1;obtain⟨k2,rfl⟩:=h2;obtain⟨k3,rfl⟩:=h3
  intro hb hb2
  rw[bb0] at hb hb2
  exact h 0 _ (some _) (by omega) (by omega) (fun x hx=>by cases hx;omega) (by simp) (by simp[Instr.sliceBounds];rw[run_sliceBound _ _ _ _ _ (by omega) (by omega)];simp;rw[run_sliceBound _ _ _ _ _ (by omega) (by omega)];simp)
 ·simp only[am5] at h1 h2 h3
  obtain⟨k1,rfl⟩:=h1;obtain⟨k2,rfl⟩:=h2;obtain⟨k3,rfl⟩:=h3
  intro hb hb2 hb3
  rw[bb0] at hb hb2 hb3
  exact h _ _ (some _) (by omega) (by omega) (fun x hx=>by cases hx;omega) (by simp) (by simp[Instr.sliceBounds];rw[run_sliceBound _ _ _ _ _ (by omega) (by omega)];simp;rw[run_sliceBound _ _ _ _ _ (by omega) (by omega)];simp;rw[run_sliceBound _ _ _ _ _ (by omega) (by omega)];simp)
 ·trivial
theorem data_extract (s:ByteArray) (l h:Nat):(s.extract l h).data.toList=(s.data.toList.take h).drop l:=by
 rw[ByteArray.data_extract,Array.toList_extract,List.extract_eq_take_drop,List.drop_take]
theorem cx0 (hi:Inv w Im φ σ) {t:TypeId}{x:D}{xv:Value} (hx:i7 w Im φ x xv) {lo hh mx:Option Int}{vl vh vm:Option Value} (h1:am5 lo vl) (h2:am5 hh vh) (h3:am5 mx vm):
  l7 P w Im φ σ (Instr.sliceAt t xv vl vh vm) (aY8 P t x lo hh mx σ):=by
 unfold aY8
 split
 ·rename_i s hu
  obtain⟨b,rfl,rfl⟩:=hx.str_inv
  split
  ·simp only[am5] at h3
   subst h3
   refine ai1 (P:=P) (isSlice:=false) (cap:=b.data.toList.length) (mx:=none) (vm:=none) (Nat.le_refl _) (Nat.le_refl _) h1 h2 rfl (fun l h m g1 g2 g3 g4 g5=> ?_)
   obtain rfl:m=none:=g4.2 rfl
   have hs:b.data.toList.length=b.size:=by simp
   rw[hs] at g5
   exact l7.pure hi ⟨.string (b.extract l h),by simp[Instr.sliceAt,Instr.slice,run_underlying hu,g5],.str _ _ (data_extract b l h)⟩
  ·trivial
 ·rename_i e sz rows hu
  obtain⟨rfl,rfl⟩:=hx.nilsl_inv
  split
  ·rename_i n hn
   refine ai1 (P:=P) (isSlice:=true) (cap:=0) (Nat.le_refl _) (Nat.le_refl _) h1 h2 h3 (fun l h m g1 g2 g3 g4 g5=> ?_)
   obtain rfl:h=0:=by omega
   obtain rfl:l=0:=by omega
   have hm:m.getD 0=0:=by cases m with | none=>rfl | some x=>have:=g3 x rfl;simp;omega
   rw[hm] at g5
   exact l7.pure hi ⟨.slice none 0 0,by simp[Instr.sliceAt,Instr.slice,run_underlying hu,g5,A3 hn],.nilsl _⟩
  ·trivial
 ·rename_i e sz rows hu
  split
  ·rename_i n hn
   split
   ·rename_i hsz
    subst hsz
    cases hx with
    | nilsl2=>
     refine ai1 (P:=P) (isSlice:=true) (cap:=0) (Nat.le_refl _) (Nat.le_refl _) h1 h2 h3 (fun l h m g1 g2 g3 g4 g5=> ?_)
     obtain rfl:h=0:=by omega
     obtain rfl:l=0:=by omega
     have hm:m.getD 0=0:=by cases m with | none=>rfl | some x=>have:=g3 x rfl;simp;omega
     rw[hm] at g5
     show l7 P w Im φ σ _ (.ok (.sl false sz ((([]:List (List D)).take 0).drop 0)) σ)
     exact l7.pure hi ⟨.slice none 0 0,by simp[Instr.sliceAt,Instr.slice,run_underlying hu,g5,A3 hn],.nilsl2 _⟩
    | sl _ _ c base cap vf a ha a1 a2 a3 a4 a5=>
     refine ai1 (P:=P) (isSlice:=true) (cap:=cap) a3 (Nat.le_refl _) h1 h2 h3 (fun l h m g1 g2 g3 g4 g5=> ?_)
     have hlen:((rows.take h).drop l).length=h-l:=by simp;omega
     have hm:h≤m.getD cap:=by cases m with | none=>simp;omega | some x=>have:=g3 x rfl;simp;omega
     show l7 P w Im φ σ _ (.ok (.sl false sz ((rows.take h).drop l)) σ)
     refine l7.pure hi ⟨.slice (some (if m.getD cap=l then a else a.add (l*sz))) ((rows.take h).drop l).length (m.getD cap-l),?_,?_⟩
     ·rw[hlen]
      by_cases hq:m.getD cap=l
      ·simp[Instr.sliceAt,Instr.slice,run_underlying hu,g5,A3 hn,hq]
      ·simp[Instr.sliceAt,Instr.slice,run_underlying hu,g5,A3 hn,hq]
     ·have hget:∀(i:Nat) (r:List D),((rows.take h).drop l)[i]? =some r→m.getD cap≠l∧rows[l+i]? =some r:=fun i r hr=>by
       have hlt:=(List.getElem?_eq_some_iff.1 hr).1
       rw[hlen] at hlt
       rw[List.getElem?_drop,List.getElem?_take,if_pos (by omega)] at hr
       exact⟨by omega,hr⟩
      refine .sl sz _ c (base+l*sz) _ (fun i j=>vf (l+i) j) _ (fun hne=> ?_) (fun hne=>a1 (fun e=>hne (by rw[e];simp))) (fun r hr=>a2 r (List.mem_of_mem_take (List.mem_of_mem_drop hr))) (by rw[hlen];omega) (fun i j r d b1 b2=> ?_) (fun i j r d b1 b2=> ?_)
      ·have h8:=List.length_pos_iff.2 hne
       rw[hlen] at h8
       rw[if_neg (by omega),ha (fun e=>hne (by rw[e];simp)),ao7]
      ·obtain⟨c1,c2⟩:=hget i r b1
       have:=a4 (l+i) j r d c2 b2
       rw[Nat.add_mul] at this
       rw[show base+l*sz+i*sz+j=base+(l*sz+i*sz)+j by omega];exact this
      ·obtain⟨c1,c2⟩:=hget i r b1
       exact a5 (l+i) j r d c2 b2
   ·trivial
  ·trivial
 ·rename_i e b i len lob ex hu
  split
  ·rename_i n B hn hB
   split
   ·rename_i hsz
    obtain⟨l,hl,⟨rfl,rfl,rfl⟩ | ⟨cap,ad,rfl,a1,a2,a3,a4,a6,a5⟩⟩:=hx.msl_inv
    ·refine ai1 (P:=P) (isSlice:=true) (cap:=0) (Nat.le_refl _) (Nat.le_refl _) h1 h2 h3 (fun lo' h m g1 g2 g3 g4 g5=> ?_)
     obtain rfl:h=0:=by omega
     obtain rfl:lo' =0:=by omega
     have hm:m.getD 0=0:=by cases m with | none=>rfl | some x=>have:=g3 x rfl;simp;omega
     have hm' :m=none∨m=some 0:=by cases m with | none=>exact .inl rfl | some x=>simp at hm;exact .inr (by rw[hm])
     rw[hm] at g5
     refine l7.pure hi ⟨.slice none 0 0,by simp[Instr.sliceAt,Instr.slice,run_underlying hu,g5,A3 hn],?_⟩
     rcases hm' with rfl | rfl
     ·exact .mnil _ _ _ l hl
     ·exact .mnil _ _ _ l hl
    obtain⟨l',hl',hk⟩:=hi.loc hB
    obtain rfl:=Option.some.inj (hl.symm.trans hl')
    have hls:l.sz=n:=by rw[hk.sz,hsz]
    refine ai1 (P:=P) (isSlice:=true) (cap:=cap) a2 a1 h1 h2 h3 (fun lo' h m g1 g2 g3 g4 g5=> ?_)
    have hm:h≤m.getD cap∧m.getD cap≤cap:=by cases m with | none=>simp;omega | some x=>have:=g3 x rfl;simp;omega
    refine l7.pure hi ⟨.slice (some (if m.getD cap=lo' then ad else ad.add (lo' *n))) (h-lo') (m.getD cap-lo'),?_,?_⟩
    ·by_cases hq:m.getD cap=lo'
     ·simp[Instr.sliceAt,Instr.slice,run_underlying hu,g5,A3 hn,hq]
     ·simp[Instr.sliceAt,Instr.slice,run_underlying hu,g5,A3 hn,hq]
    ·have hspot:(if m.getD cap=lo' then ad else ad.add (lo' *n)).spot=none:=by split;exact a6;unfold Addr.add;split;exact a6;rfl
     have had:m.getD cap-lo' ≠0→(if m.getD cap=lo' then ad else ad.add (lo' *n))=⟨l.blk,l.base+(i+lo')*l.sz,none⟩:=fun hne=>by
      rw[if_neg (by omega),a5 (by omega),ao7,hls,Nat.add_mul,Nat.add_assoc]
     cases m with
     | none=>
      refine .msl b (i+lo') (h-lo') (lob-lo') ex l _ _ hl (by omega) (by simp;omega) (fun he=>by have:=a3 he;simp;omega) ?_ ?_ had
      simp only[Option.getD_none]
      rw[show i+lo' +(cap-lo')=i+cap by simp at hm;omega];exact a4
      exact hspot
     | some x=>
      have:=g3 x rfl
      refine .msl b (i+lo') (h-lo') (x-lo') true l _ _ hl (by omega) (by simp) (fun he=>by simp) ?_ hspot had
      simp only[Option.getD_some] at hm ⊢
      have h9:=Nat.mul_le_mul_right l.sz (show i+lo' +(x-lo')≤i+cap by omega)
      omega
   ·trivial
  ·trivial
 ·rename_i n e b i o hu
  split
  ·rename_i sz B hn hB
   split
   ·rename_i hc
    obtain⟨hsz,rfl,hin⟩:=hc
    obtain⟨l,hl,rfl⟩:=hx.ptr_inv
    obtain⟨l',hl',hk⟩:=hi.loc hB
    obtain rfl:=Option.some.inj (hl.symm.trans hl')
    have hls:l.sz=sz:=by rw[hk.sz,hsz]
    refine ai1 (P:=P) (isSlice:=false) (cap:=n) (Nat.le_refl _) (Nat.le_refl _) h1 h2 h3 (fun lo' h m g1 g2 g3 g4 g5=> ?_)
    have hm:h≤m.getD n∧m.getD n≤n:=by cases m with | none=>simp;omega | some x=>have:=g3 x rfl;simp;omega
    refine l7.pure hi ⟨.slice (some (if m.getD n=lo' then ⟨l.blk,l.base+i*l.sz+0,none⟩ else (⟨l.blk,l.base+i*l.sz+0,none⟩:Addr).add (lo' *sz))) (h-lo') (m.getD n-lo'),?_,?_⟩
    ·by_cases hq:m.getD n=lo'
     ·simp[Instr.sliceAt,Instr.sureAddr,run_underlying hu,g5,A3 hn,hq]
     ·simp[Instr.sliceAt,Instr.sureAddr,run_underlying hu,g5,A3 hn,hq]
    ·refine .msl b (i+lo') (h-lo') (m.getD n-lo') true l _ _ hl (by omega) (Nat.le_refl _) (fun _=>rfl) ?_ (by split;rfl;rw[ao7]) (fun hne=> ?_)
     ·have h8:=hk.fit
      have h9:=Nat.mul_le_mul_right l.sz (show i+lo' +(m.getD n-lo')≤B.rows.length by omega)
      rw[hk.sz] at h9 ⊢
      omega
     ·rw[if_neg (by omega),ao7,hls,Nat.add_mul,Nat.add_zero,Nat.add_assoc]
   ·trivial
  ·trivial
 ·trivial
end
section
variable {P : Program} {w : World} {Im : Nat → Prop} {φ : o8} {σ : i4}
theorem bT7 (off:Nat):∀(l:List Value) (k:Nat) (cs:Array Value),off+k+l.length≤cs.size→
  ((l.zipIdx k).foldl (fun cs (x:Value×Nat)=>cs.setIfInBounds (off+x.2) x.1) cs).size=cs.size∧
  ∀p,((l.zipIdx k).foldl (fun cs (x:Value×Nat)=>cs.setIfInBounds (off+x.2) x.1) cs)[p]? =if off+k≤p∧p<off+k+l.length then l[p-off-k]? else cs[p]?
 | [],k,cs,h=>⟨rfl,fun p=>by simp;intro h1 h2;omega⟩
 | v::l,k,cs,h=>by
  simp only[List.length_cons] at h
  obtain⟨h1,h2⟩:=bT7 off l (k+1) (cs.setIfInBounds (off+k) v) (by rw[Array.size_setIfInBounds];omega)
  simp only[List.zipIdx_cons,List.foldl_cons,List.length_cons]
  refine⟨by rw[h1];simp,fun p=> ?_⟩
  rw[h2]
  by_cases hp:p=off+k
  ·subst hp
   rw[if_neg (by omega),if_pos (by omega)]
   rw[show off+k-off-k=0 by omega]
   simp[show off+k<cs.size by omega]
  ·by_cases hq:off+k≤p∧p<off+k+(l.length+1)
   ·rw[if_pos (by omega),if_pos hq,show p-off-k=(p-off-(k+1))+1 by omega]
    simp
   ·rw[if_neg (by omega),if_neg hq]
    rw[Array.getElem?_setIfInBounds_ne (by omega)]
theorem bF8 (off:Nat) (v cs:Array Value) (h:off+v.size≤cs.size):
  (v.zipIdx.foldl (fun cs (x:Value×Nat)=>cs.setIfInBounds (off+x.2) x.1) cs).size=cs.size∧
  ∀p,(v.zipIdx.foldl (fun cs (x:Value×Nat)=>cs.setIfInBounds (off+x.2) x.1) cs)[p]? =if off≤p∧p<off+v.size then v[p-off]? else cs[p]? :=by
 have:=bT7 off v.toList 0 cs (by simpa using h)
 rw[←Array.foldl_toList]
 simpa using this
variable (w Im φ) in
def aE8 (ds:List D) (vs:Array Value):Prop:=ds.length=vs.size∧∀(i:Nat) (d:D) (v:Value),ds[i]? =some d→vs[i]? =some v→i7 w Im φ d v
theorem bz6 (place:Nat→Option (Nat×Nat)):
  ∀(parts:List (Nat×D)) (vparts:List (Nat×Value)) (ds:List D) (vs:Array Value) (ds' :List D),parts.length=vparts.length→
   (∀(i:Nat) (x:Nat×D) (y:Nat×Value),parts[i]? =some x→vparts[i]? =some y→x.1=y.1∧i7 w Im φ x.2 y.2)→aE8 w Im φ ds vs→br3 place ds parts=some ds' →
   ∃vs',Instr.fill place vs vparts=some vs' ∧aE8 w Im φ ds' vs'
 | [],[],ds,vs,ds',_,_,hc,h=>by simp[br3] at h;subst h;exact⟨vs,rfl,hc⟩
 | (i,d)::parts,(i',v)::vparts,ds,vs,ds',hl,hr,hc,h=>by
  obtain⟨h0,hdv⟩:=hr 0 (i,d) (i',v) rfl rfl
  simp only at h0 hdv
  subst h0
  simp only[br3] at h
  split at h
  ·rename_i cs off size h1 h2
   split at h
   ·rename_i hcond
    obtain⟨hc1,hc2⟩:=hcond
    obtain⟨g1,g2⟩:=W9 hdv h1
    have hvs:v.cells.size=size:=by omega
    have hds:=hc.1
    obtain⟨g3,g4⟩:=bF8 off v.cells vs (by omega)
    have hrec:=bz6 place parts vparts (ds.take off++cs++ds.drop (off+size)) (v.cells.zipIdx.foldl (fun cs (x:Value×Nat)=>cs.setIfInBounds (off+x.2) x.1) vs) ds'
     (by simpa using hl) (fun k x y a b=>hr (k+1) x y (by simpa using a) (by simpa using b)) ⟨by rw[g3];simp;omega,fun k e u a b=>by
      rw[g4] at b
      rcases bD7 rfl hc1 hc2 a with⟨q1,q2,q3⟩ | ⟨q1,q2⟩
      ·rw[if_pos (by omega)] at b
       exact g2 _ _ _ q3 b
      ·rw[if_neg (by omega)] at b
       exact hc.2 _ _ _ q2 b⟩ h
    obtain⟨vs',q1,q2⟩:=hrec
    refine⟨vs',?_,q2⟩
    simp only[Instr.fill,h2]
    rw[if_neg (by simp;omega)]
    exact q1
   ·cases h
  ·cases h
 | [],_::_,_,_,_,hl,_,_,_=>by simp at hl
 | _::_,[],_,_,_,hl,_,_,_=>by simp at hl
theorem bz8 {t:TypeId}{z:D} (h:ar9 P t=some z):∃i v,P.info? t=some i∧i.zero=some v∧i7 w Im φ z v:=by
 obtain⟨i,v,h1,h2,rfl⟩:=bc8 h
 exact⟨i,v,h1,h2,as9 v⟩
theorem bQ1 {ρ:Operand→D}{ρc:Operand→Value} (hρ:∀x,i7 w Im φ (ρ x) (ρc x)) (parts:Array (Nat×Operand)):
  (parts.toList.map fun p=>(p.1,ρ p.2)).length=(parts.map fun(i,x)=>(i,ρc x)).toList.length∧
  ∀(i:Nat) (x:Nat×D) (y:Nat×Value),(parts.toList.map fun p=>(p.1,ρ p.2))[i]? =some x→(parts.map fun(i,x)=>(i,ρc x)).toList[i]? =some y→x.1=y.1∧i7 w Im φ x.2 y.2:=by
 refine⟨by simp,fun i x y h1 h2=> ?_⟩
 simp only[Array.toList_map,List.getElem?_map,Option.map_eq_some_iff] at h1 h2
 obtain⟨p,hp,rfl⟩:=h1
 obtain⟨q,hq,rfl⟩:=h2
 obtain rfl:=Option.some.inj (hp.symm.trans hq)
 exact⟨rfl,hρ _⟩
theorem cC5 (hi:Inv w Im φ σ) {t:TypeId}{parts:List (Nat×D)}{vparts:Array (Nat×Value)} (hl:parts.length=vparts.toList.length)
  (hr:∀(i:Nat) (x:Nat×D) (y:Nat×Value),parts[i]? =some x→vparts.toList[i]? =some y→x.1=y.1∧i7 w Im φ x.2 y.2):
  l7 P w Im φ σ (Instr.build t vparts) (p9.opt (cd8 P t parts) σ):=by
 refine l7.opt hi fun d hd=> ?_
 unfold cd8 at hd
 split at hd
 ·rename_i it n e h1 h2
  split at hd
  ·rename_i z ie h3 h4
   split at hd
   ·rename_i zc h5
    simp only[Option.map_eq_some_iff] at hd
    obtain⟨ds',hf,rfl⟩:=hd
    obtain⟨vs',q1,q2⟩:=bz6 _ parts vparts.toList zc z.cells ds' hl hr (W9 (as9 z) h5) hf
    exact⟨.agg vs',run_build w t vparts vs' (by simp[Program.built,h1,h2,h3,h4,q1]),.agg _ _ q2.1 q2.2⟩
   ·cases hd
  ·cases hd
 ·rename_i it fields h1 h2
  split at hd
  ·rename_i z places h3 h4
   split at hd
   ·rename_i zc h5
    simp only[Option.map_eq_some_iff] at hd
    obtain⟨ds',hf,rfl⟩:=hd
    obtain⟨vs',q1,q2⟩:=bz6 _ parts vparts.toList zc z.cells ds' hl hr (W9 (as9 z) h5) hf
    refine⟨.agg vs',run_build w t vparts vs' ?_,.agg _ _ q2.1 q2.2⟩
    unfold Program.built
    simp only[h1,h2,h3,h4]
    exact q1
   ·cases hd
  ·cases hd
 ·cases hd
/-! ### buildSlice, makeSlice -/
variable (w Im φ) in
def bL6 (n:Nat) (rows:List (List D)) (cs:Array Value):Prop:=
 (∀r∈rows,r.length=n)∧cs.size=rows.length*n∧∀(i j:Nat) (r:List D) (d:D),rows[i]? =some r→r[j]? =some d→∃v,cs[i*n+j]? =some v∧i7 w Im φ d v
theorem aV5 (n len:Nat) (zs:List D) (z:Array Value) (hz:aE8 w Im φ zs z) (hn:zs.length=n) (hpos:0<n):
  bL6 w Im φ n (List.replicate len zs) ((Array.range (len*n)).map (z[· %z.size]!)):=by
 have hzs:z.size=n:=by rw[←hz.1,hn]
 refine⟨fun r hr=>by rw[(List.mem_replicate.1 hr).2,hn],by simp,fun i j r d h1 h2=> ?_⟩
 rw[List.getElem?_replicate] at h1
 split at h1
 ·rename_i hi
  obtain rfl:=Option.some.inj h1
  have hj:=(List.getElem?_eq_some_iff.1 h2).1
  rw[hn] at hj
  have hlt:i*n+j<len*n:=az2 hi hj
  have hm:(i*n+j)%n=j:=by rw[Nat.add_comm,Nat.add_mul_mod_self_right,Nat.mod_eq_of_lt hj]
  refine⟨z[j]'(by omega),?_,hz.2 j d _ h2 (by simp)⟩
  rw[Array.getElem?_map,Array.getElem?_range,if_pos hlt]
  simp only[Option.map_some,hzs,hm,Option.some.injEq]
  exact getElem!_pos z j (by omega)
 ·cases h1
theorem bo5 (n:Nat) (hpos:0<n):∀(parts:List (Nat×D)) (vparts:List (Nat×Value)) (rows:List (List D)) (vs:Array Value) (rows' :List (List D)),parts.length=vparts.length→
   (∀(i:Nat) (x:Nat×D) (y:Nat×Value),parts[i]? =some x→vparts[i]? =some y→x.1=y.1∧i7 w Im φ x.2 y.2)→bL6 w Im φ n rows vs→(∀r∈rows,r.all t9=true)→aR4 rows n parts=some rows' →
   (∃vs',Instr.fill (fun i=>some (i*n,n)) vs vparts=some vs' ∧bL6 w Im φ n rows' vs')∧rows'.length=rows.length∧∀r∈rows',r.all t9=true
 | [],[],rows,vs,rows',_,_,hc,hsc,h=>by simp[aR4] at h;subst h;exact⟨⟨vs,rfl,hc⟩,rfl,hsc⟩
 | (i,d)::parts,(i',v)::vparts,rows,vs,rows',hl,hr,hc,hsc,h=>by
  obtain⟨h0,hdv⟩:=hr 0 (i,d) (i',v) rfl rfl
  simp only at h0 hdv
  subst h0
  simp only[aR4] at h
  split at h
  ·rename_i cs h1
   split at h
   ·rename_i hcond
    obtain⟨hc1,hc2,hc3⟩:=hcond
    obtain⟨g1,g2⟩:=W9 hdv h1
    have hin:i*n+n≤rows.length*n:=by
     have:=Nat.mul_le_mul_right n (show i+1≤rows.length from hc2)
     rw[Nat.add_mul] at this;omega
    have hsz:=hc.2.1
    obtain⟨g3,g4⟩:=bF8 (i*n) v.cells vs (by omega)
    have hrec:=bo5 n hpos parts vparts (rows.set i cs) (v.cells.zipIdx.foldl (fun cs (x:Value×Nat)=>cs.setIfInBounds (i*n+x.2) x.1) vs) rows'
     (by simpa using hl) (fun k x y a b=>hr (k+1) x y (by simpa using a) (by simpa using b)) ⟨fun r hr=>by
       rcases List.mem_or_eq_of_mem_set hr with hr | rfl
       ·exact hc.1 r hr
       ·exact hc1,by rw[g3];simp;omega,fun k j r e a b=>by
      rw[g4]
      rw[List.getElem?_set] at a
      have hj:=(List.getElem?_eq_some_iff.1 b).1
      by_cases hik:i=k
      ·subst hik
       rw[if_pos rfl,if_pos hc2] at a
       obtain rfl:=Option.some.inj a
       refine⟨v.cells[j]'(by omega),?_,g2 j e _ b (by simp)⟩
       rw[if_pos (by omega),show i*n+j-i*n=j by omega]
       simp
      ·rw[if_neg hik] at a
       have hrl:=hc.1 r (List.mem_of_getElem? a)
       obtain⟨u,hu,hur⟩:=hc.2.2 k j r e a b
       refine⟨u,?_,hur⟩
       rw[if_neg ?_]
       ·exact hu
       ·rintro ⟨q1,q2⟩
        rcases Nat.lt_or_ge k i with hlt | hge
        ·have:=az2 (sz:=n) (j:=j) hlt (by omega);omega
        ·have:=Nat.mul_le_mul_right n (show i+1≤k by omega)
         rw[Nat.add_mul] at this;omega⟩ (fun r hr=>by
       rcases List.mem_or_eq_of_mem_set hr with hr | rfl
       ·exact hsc r hr
       ·exact hc3) h
    obtain⟨⟨vs',q1,q2⟩,q3,q4⟩:=hrec
    refine⟨⟨vs',?_,q2⟩,by rw[q3];simp,q4⟩
    simp only[Instr.fill]
    rw[if_neg (by simp;omega)]
    exact q1
   ·cases h
  ·cases h
 | [],_::_,_,_,_,hl,_,_,_,_=>by simp at hl
 | _::_,[],_,_,_,hl,_,_,_,_=>by simp at hl
theorem aW6 (hi:Inv w Im φ σ) {n:Nat} (hn:0<n) {rows:List (List D)}{cs:Array Value}{e:TypeId} (fz:Nat×Nat) (hfz:fz.1=fz.2∨cs.size≤fz.1)
  (hlen:∀r∈rows,r.length=n) (hfit:rows.length*n≤cs.size)
  (hrel:∀(i j:Nat) (r:List D) (d:D),rows[i]? =some r→r[j]? =some d→∃v,cs[i*n+j]? =some v∧i7 w Im φ d v)
  (hsc:∀r∈rows,r.all t9=true) (dp:Bool) (hdp:∀r∈rows,r.any r6=true→dp=true) (len cap lo:Nat) (ex:Bool) (h1:len≤lo) (h2:lo≤cap) (h3:ex=true→cap=lo) (h4:cap*n≤cs.size):
  T9 w Im φ σ (w.alloc (.cells cs e fz)) (φ++ [⟨w.heap.size,0,n,cs.size⟩]) (σ++ [some ⟨n,dp,rows⟩]) (.msl σ.length 0 len lo ex) (.slice (some ⟨w.heap.size,0,none⟩) len cap):=by
 obtain⟨a1,a2⟩:=hi.alloc cs e fz ⟨n,dp,rows⟩ hn hfz (fun r hr=>⟨hlen r hr,hsc r hr⟩) hfit (fun i j r d h5 h6=>by
  obtain⟨v,hv,hr⟩:=hrel i j r d h5 h6
  have hm:=List.mem_of_getElem? h5
  exact⟨v,hv,aE5 (hsc r hm) (hdp r hm) h6 hr⟩)
 exact⟨l5.append _ _,a2,a1,.msl _ _ _ _ _ _ _ _ (ac8 hi.len _) h1 h2 h3 (by simpa using h4) rfl (fun _=>by simp)⟩
theorem bO6 (hi:Inv w Im φ σ) {t:TypeId}{len:Nat}{parts:List (Nat×D)}{vparts:Array (Nat×Value)} (hl:parts.length=vparts.toList.length)
  (hr:∀(i:Nat) (x:Nat×D) (y:Nat×Value),parts[i]? =some x→vparts.toList[i]? =some y→x.1=y.1∧i7 w Im φ x.2 y.2):
  l7 P w Im φ σ (Instr.buildSlice t len vparts) (aG1 P t len parts σ):=by
 unfold aG1
 split
 ·rename_i e hu
  split
  ·rename_i n zs hn hzs
   split
   ·rename_i hc
    obtain⟨hc1,hc2,hc3,hc4⟩:=hc
    cases hz:ar9 P e with
    | none=>simp[hz] at hzs
    | some z=>
     obtain⟨ie,zv,g1,g2,g3⟩:=bz8 (w:=w) (Im:=Im) (φ:=φ) hz
     simp only[hz,Option.bind_some] at hzs
     have hzr:=W9 g3 hzs
     have hien:ie.size=n:=by unfold K7 at hn;simpa[g1] using hn
     split
     ·rename_i rows hrows
      have hrep:∀r∈List.replicate len zs,r.all t9=true:=fun r hr=>by rw[(List.mem_replicate.1 hr).2];exact hc3
      obtain⟨⟨vs',q1,q2⟩,q3,q4⟩:=bo5 n hc2 parts vparts.toList (List.replicate len zs) _ rows hl hr (aV5 n len zs zv.cells hzr hc1 hc2) hrep hrows
      have hrl:rows.length=len:=by rw[q3];simp
      have hvs:vs'.size=len*n:=by rw[q2.2.1,hrl]
      refine⟨_,_,_,?_,aW6 (e:=e) hi (by omega) (0,0) (.inl rfl) q2.1 (by rw[q2.2.1];exact Nat.le_refl _) q2.2.2 q4 _ (fun r hr h=>List.any_eq_true.2 ⟨r,hr,h⟩) len len len true (Nat.le_refl _) (Nat.le_refl _) (fun _=>rfl) (by rw[hvs];exact Nat.le_refl _)⟩
      ·by_cases h0:len=0
       ·subst h0
        have:vs' = #[]:=by
         apply Array.eq_empty_of_size_eq_zero
         rw[hvs];simp
        subst this
        have q1' :Instr.fill (fun i=>some (i*n,n)) #[] vparts.toList=some #[]:=by simpa[show Array.range 0= #[] from rfl] using q1
        simp[Instr.buildSlice,run_underlying hu,A3 hn,newRow,q1',show Array.range 0= #[] from rfl]
       ·exact run_buildSlice w t e len vparts vs' ie zv hu g1 g2 (by rw[hien];omega) (by rw[hien];exact Nat.mul_ne_zero h0 (by omega)) (by rw[hien];exact q1)
     ·trivial
   ·trivial
  ·trivial
 ·trivial
theorem bA7 {n:Int} (h0:0≤n) (h1:n≤9223372036854775807):IntKind.i64.wrap n=n:=IntWalk.i64_in n (by omega)
theorem bn6 {t:TypeId}{n:Nat} (h:ci7 P t=some n):∃i,P.info? t=some i∧i.bytes=n:=by
 unfold ci7 at h
 cases hi:P.info? t with
 | none=>simp[hi] at h
 | some i=>simp[hi] at h;exact⟨i,rfl,h⟩
theorem cd2 {zs:List D}{vs:Array Value} (ss:List (Option Nat)) (h:aE8 w Im φ zs vs):aE8 w Im φ (bl6 zs ss) vs:=by
 have key:∀(zs:List D) (ss:List (Option Nat)),(bl6 zs ss).length=zs.length∧∀(i:Nat) (d' :D),(bl6 zs ss)[i]? =some d' →∃d,zs[i]? =some d∧(d' =d∨∃a n,d=.sl true a []∧d' =.sl false n []):=by
  intro zs ss
  fun_induction bl6 zs ss with
  | case1=>exact⟨rfl,fun i d' h=>by simp at h⟩
  | case2 sz r n q ih=>
   refine⟨by simp[ih.1],fun i d' h=> ?_⟩
   cases i with
   | zero=>simp at h;exact⟨_,rfl,.inr ⟨_,_,rfl,h.symm⟩⟩
   | succ i=>simpa using ih.2 i d' (by simpa using h)
  | case3 z r s q _ ih=>
   refine⟨by simp[ih.1],fun i d' h=> ?_⟩
   cases i with
   | zero=>simp at h;exact⟨_,rfl,.inl h.symm⟩
   | succ i=>simpa using ih.2 i d' (by simpa using h)
  | case4 z r=>exact⟨rfl,fun i d' h=>⟨d',h,.inl rfl⟩⟩
 refine⟨by rw[(key zs ss).1];exact h.1,fun i d' v h1 h2=> ?_⟩
 obtain⟨d,h3,h4⟩:=(key zs ss).2 i d' h1
 have hr:=h.2 i d v h3 h2
 rcases h4 with rfl | ⟨a,n,rfl,rfl⟩
 ·exact hr
 ·obtain⟨hv,_⟩:=hr.nilsl_inv
  subst hv
  exact .nilsl2 _
theorem bA6 {t:TypeId}{zs:List D} (h:br0 P t=some zs):∃i v,P.info? t=some i∧i.zero=some v∧aE8 w Im φ zs v.cells:=by
 unfold br0 at h
 split at h
 ·rename_i zs0 h0
  obtain rfl:=Option.some.inj h
  cases hz:ar9 P t with
  | none=>simp[hz] at h0
  | some z=>
   obtain⟨i,v,g1,g2,g3⟩:=bz8 (w:=w) (Im:=Im) (φ:=φ) hz
   simp only[hz,Option.bind_some] at h0
   exact⟨i,v,g1,g2,cd2 _ (W9 g3 h0)⟩
 ·cases h
theorem bY2 (hi:Inv w Im φ σ) {t:TypeId}{k k' :IntKind}{len cap:Int}{same:Bool} (hsame:same=true→len=cap):l7 P w Im φ σ (Instr.makeSlice t (.int k len) (.int k' cap)) (aO5 P t same len cap σ):=by
 unfold aO5
 split
 ·rename_i e hu
  split
  ·rename_i n by_ zs hn hb hzs
   split
   ·rename_i hc
    obtain⟨hc1,hc2,hc3⟩:=hc
    intro hcond
    simp only[Bool.and_eq_true,decide_eq_true_eq] at hcond
    obtain⟨p1,p2,p3,p4⟩:=hcond
    have p4:cap.toNat*by_≤140737488355328:=p4
    cases hz:br0 P e with
    | none=>rw[hz] at hzs;cases hzs
    | some z=>
     obtain⟨ie,zv,g1,g2,hzr⟩:=bA6 (w:=w) (Im:=Im) (φ:=φ) hz
     have hzz:zs=z:=Option.some.inj (hzs.symm.trans hz)
     subst hzz
     obtain⟨ie',g4,g5⟩:=bn6 hb
     obtain rfl:=Option.some.inj (g1.symm.trans g4)
     have hrows:=aV5 (w:=w) (Im:=Im) (φ:=φ) n cap.toNat zs zv.cells hzr hc1 hc2
     have hsize:((Array.range (cap.toNat*n)).map (zv.cells[· %zv.cells.size]!)).size=cap.toNat*n:=by simp
     have hien:ie.size=n:=by unfold K7 at hn;simpa[g1] using hn
     have hbb:(ie.bytes:Int)*cap≤140737488355328:=by
      have e1:(ie.bytes:Int)*cap=((cap.toNat*by_:Nat):Int):=by
       rw[g5,Int.natCast_mul,Int.toNat_of_nonneg (by omega:0≤cap),Int.mul_comm]
      rw[e1];omega
     have fin:l7 P w Im φ σ (Instr.makeSlice t (.int k len) (.int k' cap)) (.ok (.msl σ.length 0 len.toNat cap.toNat true) (σ++ [some ⟨n,zs.any r6,List.replicate cap.toNat zs⟩]))→l7 P w Im φ σ (Instr.makeSlice t (.int k len) (.int k' cap)) (bif same then .ok (.msl σ.length 0 (List.replicate cap.toNat zs).length (List.replicate cap.toNat zs).length true) (σ++ [some ⟨n,zs.any r6,List.replicate cap.toNat zs⟩]) else .ok (.msl σ.length 0 len.toNat cap.toNat true) (σ++ [some ⟨n,zs.any r6,List.replicate cap.toNat zs⟩])):=fun h=>by
      cases same with
      | false=>exact h
      | true=>rw[hsame rfl] at h ⊢;simpa using h
     refine fin ?_
     refine⟨_,_,_,?_,aW6 (e:=e) hi (by omega) (0,0) (.inl rfl) hrows.1 (by rw[hsize];simp) hrows.2.2 (fun r hr=>by rw[(List.mem_replicate.1 hr).2];exact hc3) (zs.any r6)
      (fun r hr h=>by rw[(List.mem_replicate.1 hr).2] at h;exact h) len.toNat cap.toNat cap.toNat true (by omega) (Nat.le_refl _) (fun _=>rfl) (by rw[hsize];exact Nat.le_refl _)⟩
     have hw1:=bA7 p1 (by omega:len≤9223372036854775807)
     have hw2:=bA7 (by omega:0≤cap) p3
     have hbl:(ie.bytes:Int)*len≤140737488355328:=Int.le_trans (Int.mul_le_mul_of_nonneg_left p2 (by omega)) hbb
     have t1:¬(ie.bytes:Int)*cap>281474976710656:=by omega
     have t3:¬cap.toNat*ie.bytes>140737488355328:=by rw[g5];omega
     have c1:¬cap<0:=by omega
     have c2:¬len<0:=by omega
     have c3:¬len>cap:=by omega
     simp only[Instr.makeSlice,Sem.run_bind,run_underlying hu,Result.andThen_ok,asInt,asIntOf,Sem.run_pure,typeInfo,g1,run_program,hw1,hw2]
     by_cases h0:cap.toNat*n=0
     ·simp[t1,t3,c1,c2,c3,askRoom,roomBytes,sizeOf,typeInfo,g1,hien,h0,newRow,show Array.range 0= #[] from rfl]
     ·simp[t1,t3,c1,c2,c3,askRoom,roomBytes,sizeOf,typeInfo,g1,hien,h0,newRow,zeroValue,g2]
   ·trivial
  ·trivial
 ·trivial
end
section
variable {P : Program} {w : World} {Im : Nat → Prop} {φ : o8} {σ : i4}
variable (w Im φ) in
structure bZ1 (xv:Value) (size:Nat) (dp:Bool) (new:List (List D)) (news:List Value):Prop where
 len:news.length=new.length*size
 rows:∀r∈new,S8 size r
 rel:∀(i j:Nat) (r:List D) (d:D),new[i]? =some r→r[j]? =some d→∃u,news[i*size+j]? =some u∧i7 w Im (if dp then φ else []) d u
 one:∀u∈news,u.oneCell' =true
 kind:(∃a c,xv=.slice (some a) new.length c∧∀(j:Nat) (u:Value),news[j]? =some u→w.cell? (a.add j)=some u)∨(xv=.slice none 0 0∧new= []∧news= [])∨
  (∃s,xv=.string s∧size=1∧news=byteCells s∧new.length=s.size)
theorem bl2 {ψ:o8}{c base sz:Nat}{rows:List (List D)} (h:H0 w Im ψ c base sz rows) (hs:0<sz):
  ∃news:List Value,news.length=rows.length*sz∧(∀(i j:Nat) (r:List D) (d:D),rows[i]? =some r→r[j]? =some d→∃u,news[i*sz+j]? =some u∧i7 w Im ψ d u)∧
   (∀u∈news,u.oneCell' =true)∧∀(p:Nat) (u:Value),news[p]? =some u→w.cell? ⟨c,base+p,none⟩=some u:=by
 have hat:∀p,p<rows.length*sz→∃r d,rows[p/sz]? =some r∧r[p%sz]? =some d∧t9 d=true∧p/sz*sz+p%sz=p:=fun p hp=>by
  have h1:p/sz<rows.length:=(Nat.div_lt_iff_lt_mul hs).2 hp
  have h2:p%sz<sz:=Nat.mod_lt _ hs
  have h3:=h.1 rows[p/sz] (List.getElem_mem h1)
  have h4:p%sz<(rows[p/sz]).length:=by rw[h3.1];exact h2
  refine⟨rows[p/sz],(rows[p/sz])[p%sz],by simp[h1],by simp[h4],List.all_eq_true.1 h3.2 _ (List.getElem_mem h4),?_⟩
  rw[Nat.mul_comm];exact Nat.div_add_mod p sz
 refine⟨(List.range (rows.length*sz)).map fun p=>(w.cell? ⟨c,base+p,none⟩).getD undef,by simp,fun i j r d h1 h2=> ?_,fun u hu=> ?_,fun p u hp=> ?_⟩
 ·obtain⟨v,hv,hr⟩:=h.2 i j r d h1 h2
  have hj:=(List.getElem?_eq_some_iff.1 h2).1
  rw[(h.1 r (List.mem_of_getElem? h1)).1] at hj
  have hlt:=az2 (sz:=sz) (j:=j) (List.getElem?_eq_some_iff.1 h1).1 hj
  rw[Nat.add_assoc] at hv
  refine⟨v,by simp[hlt,hv],hr⟩
 ·simp only[List.mem_map,List.mem_range] at hu
  obtain⟨p,hp,rfl⟩:=hu
  obtain⟨r,d,h1,h2,h3,h4⟩:=hat p hp
  obtain⟨v,hv,hr⟩:=h.2 _ _ r d h1 h2
  rw[Nat.add_assoc,h4] at hv
  rw[hv]
  exact hr.one h3
 ·have hlt:=(List.getElem?_eq_some_iff.1 hp).1
  simp at hlt
  obtain⟨r,d,h1,h2,h3,h4⟩:=hat p hlt
  obtain⟨v,hv,hr⟩:=h.2 _ _ r d h1 h2
  rw[Nat.add_assoc,h4] at hv
  simp[hlt,hv] at hp
  rw[←hp];exact hv
theorem H0.sub {ψ:o8}{c base sz:Nat}{rows:List (List D)} (h:H0 w Im ψ c base sz rows) (i n:Nat):H0 w Im ψ c (base+i*sz) sz ((rows.drop i).take n):=by
 refine⟨fun r hr=>h.1 r (List.mem_of_mem_drop (List.mem_of_mem_take hr)),fun k j r d h1 h2=> ?_⟩
 rw[List.getElem?_take] at h1
 split at h1
 ·rw[List.getElem?_drop] at h1
  obtain⟨v,hv,hr⟩:=h.2 _ _ r d h1 h2
  rw[Nat.add_mul] at hv
  exact⟨v,by rw[show base+i*sz+k*sz+j=base+(i*sz+k*sz)+j by omega];exact hv,hr⟩
 ·cases h1
theorem bA2 (hi:Inv w Im φ σ) {x:D}{xv:Value} (hx:i7 w Im φ x xv) {sz n:Nat}{dp:Bool}{cnt:Option Nat}{new:List (List D)} (h:aM4 σ x=some (sz,dp,cnt,new))
  (hsz:sz=n∨(new.isEmpty=true∧bf6 x=false)) (hn:0<n) (hcnt:∀m,cnt=some m→new.length=m):∃news,bZ1 w Im φ xv n dp new news:=by
 unfold aM4 at h
 split at h
 ·rename_i nl sz' rows
  simp only[Option.some.injEq,Prod.mk.injEq] at h
  obtain⟨rfl,rfl,rfl,rfl⟩:=h
  cases nl with
  | true=>
   obtain⟨rfl,rfl⟩:=hx.nilsl_inv
   exact⟨[],by simp,by simp,by simp,by simp,.inr (.inl ⟨rfl,rfl,rfl⟩)⟩
  | false=>
   rcases hx.sl_inv with⟨rfl,rfl⟩ | ⟨c,base,cap,a,rfl,ha,hcap,him,hrows⟩
   ·exact⟨[],by simp,by simp,by simp,by simp,.inr (.inl ⟨rfl,rfl,rfl⟩)⟩
   by_cases he:rows= []
   ·subst he
    exact⟨[],by simp,by simp,by simp,by simp,.inl ⟨_,_,rfl,by simp⟩⟩
   ·have:sz' =n:=hsz.resolve_right (fun h=>he (by simpa using h.1))
    subst this
    obtain rfl:=ha he
    obtain⟨news,h1,h2,h3,h4⟩:=bl2 hrows hn
    exact⟨news,h1,hrows.1,h2,h3,.inl ⟨_,_,rfl,fun j u hj=>by rw[aw4];exact h4 j u hj⟩⟩
 ·rename_i b i len lo ex
  split at h
  ·rename_i B hB
   simp only[Option.some.injEq,Prod.mk.injEq] at h
   obtain⟨rfl,rfl,rfl,rfl⟩:=h
   have hlen:=hcnt _ rfl
   obtain⟨l,hl,⟨rfl,rfl,rfl⟩ | ⟨cap,ad,rfl,a1,a2,a3,a4,a5,a6⟩⟩:=hx.msl_inv
   ·have h0:(B.rows.drop i).take 0= []:=by simp
    rw[h0]
    exact⟨[],by simp,by simp,by simp,by simp,.inr (.inl ⟨rfl,rfl,rfl⟩)⟩
   obtain⟨l',hl',hk⟩:=hi.loc hB
   obtain rfl:=Option.some.inj (hl.symm.trans hl')
   by_cases he:(B.rows.drop i).take len= []
   ·rw[he] at hlen ⊢
    simp at hlen
    subst hlen
    exact⟨[],by simp,by simp,by simp,by simp,.inl ⟨_,_,rfl,by simp⟩⟩
   ·have:B.sz=n:=hsz.resolve_right (fun h=>he (by simpa using h.1))
    subst this
    have hpos:0<len:=by
     rcases Nat.eq_zero_or_pos len with h0 | h0
     ·rw[h0] at he;simp at he
     ·exact h0
    obtain rfl:=a6 (by omega)
    have hrows:=hk.rowsAt.sub i len
    obtain⟨news,h1,h2,h3,h4⟩:=bl2 hrows hn
    exact⟨news,h1,hrows.1,h2,h3,.inl ⟨_,cap,by rw[hlen],fun j u hj=>by rw[aw4,hk.sz];exact h4 j u hj⟩⟩
  ·cases h
 ·rename_i s
  simp only[Option.some.injEq,Prod.mk.injEq] at h
  obtain⟨rfl,rfl,rfl,rfl⟩:=h
  obtain⟨b,rfl,rfl⟩:=hx.str_inv
  ·have:1=n:=hsz.resolve_right (fun h=>by simp[bf6] at h)
   subst this
   refine⟨byteCells b,by simp[byteCells],fun r hr=> ?_,fun i j r d h1 h2=> ?_,fun u hu=> ?_,.inr (.inr ⟨b,rfl,rfl,rfl,by simp⟩)⟩
   ·simp only[List.mem_map] at hr
    obtain⟨c,_,rfl⟩:=hr
    exact⟨rfl,rfl⟩
   ·simp only[List.getElem?_map,Option.map_eq_some_iff] at h1
    obtain⟨c,hc,rfl⟩:=h1
    cases j with
    | zero=>
     simp at h2
     subst h2
     exact⟨.int .u8 c.toNat,by simp[byteCells,hc],.int _ _⟩
    | succ j=>simp at h2
   ·unfold byteCells at hu
    simp only[List.mem_map] at hu
    obtain⟨c,_,rfl⟩:=hu
    rfl
 ·cases h
theorem bZ1.src {xv:Value}{size:Nat}{dp:Bool}{new:List (List D)}{news:List Value} (h:bZ1 w Im φ xv size dp new news) {tx:TypeId}{d:TypeDesc} (ht:P.underlying tx=some d)
  (hd:(∃e,d=.slice e)∨d=.string) (hs:∀s,xv=.string s→d=.string) (hl:∀a n c,xv=.slice a n c→∃e,d=.slice e):Src P size tx xv new.length news w:=by
 rcases h.kind with⟨a,c,rfl,hc⟩ | ⟨rfl,rfl,rfl⟩ | ⟨s,rfl,rfl,rfl,hn⟩
 ·obtain⟨e,rfl⟩:=hl _ _ _ rfl
  exact Src.ofSlice w ht a _ c news h.len hc h.one
 ·obtain⟨e,rfl⟩:=hl _ _ _ rfl
  exact Src.ofNil w ht 0
 ·obtain rfl:=hs _ rfl
  rw[hn];exact Src.ofString w ht s
theorem bq0 {t:TypeId}{n:Nat} (h:K7 P t=some n):∃i,P.info? t=some i∧i.size=n:=by
 unfold K7 at h
 cases hi:P.info? t with
 | none=>simp[hi] at h
 | some i=>simp[hi] at h;exact⟨i,rfl,h⟩
theorem bo6 {s:Sem Value}{n:Option Nat}{k:Nat}{r:p9} (h:(∀m,n=some m→k=m)→l7 P w Im φ σ s r):l7 P w Im φ σ s (aU0 n k r):=by
 cases n with
 | none=>exact h (fun m hm=>by cases hm)
 | some m=>exact fun hb=>h (fun m' hm=>by cases hm;exact Nat.eq_of_beq_eq_true hb)
theorem Inv.move (h:Inv w Im φ σ) {b:Nat}{B:A5}{l:Q3} (hb:sget σ b=some B) (hl:φ[b]? =some l) (i:Nat) (hin:i≤B.rows.length):
  Inv w Im (φ++ [⟨l.blk,l.base+i*l.sz,l.sz,l.size⟩]) (σ.set b none++ [some ⟨B.sz,B.deep,B.rows.drop i⟩])∧
  Tr φ.length w Im φ σ w Im (φ++ [⟨l.blk,l.base+i*l.sz,l.sz,l.size⟩]) (σ.set b none++ [some ⟨B.sz,B.deep,B.rows.drop i⟩]):=by
 have hk:=h.blk b B l hb hl
 obtain⟨hd,td⟩:=h.drop b
 have hlen:(σ.set b none).length=σ.length:=by simp
 have hg:∀c B',sget (σ.set b none) c=some B' →sget σ c=some B' ∧c≠b:=fun c B' hc=>by
  by_cases hbb:b=c
  ·subst hbb
   have hl:=I7 hc
   rw[P1 (by simpa using hl)] at hc
   cases hc
  ·rw[z5 hbb] at hc;exact⟨hc,Ne.symm hbb⟩
 have hφ:l5 φ (φ++ [⟨l.blk,l.base+i*l.sz,l.sz,l.size⟩]):=l5.append _ _
 have hown:∀c,m8 (φ++ [⟨l.blk,l.base+i*l.sz,l.sz,l.size⟩]) (σ.set b none++ [some ⟨B.sz,B.deep,B.rows.drop i⟩]) c→m8 φ σ c:=by
  rintro c ⟨b1,B1,l1,h1,h2,rfl,hp⟩
  rcases K9 h2 with⟨hb1,h2⟩ | ⟨hb1,_⟩
  ·rw[hlen,←h.len] at hb1
   rw[List.getElem?_append_left hb1] at h1
   exact⟨b1,B1,l1,h1,(hg _ _ h2).1,rfl,hp⟩
  ·rw[hb1,hlen,←h.len] at h1
   simp at h1
   subst h1
   exact⟨b,B,l,hl,hb,rfl,hp⟩
 have e1:∀b1 B1 l1,sget (σ.set b none++ [some ⟨B.sz,B.deep,B.rows.drop i⟩]) b1=some B1→(φ++ [⟨l.blk,l.base+i*l.sz,l.sz,l.size⟩])[b1]? =some l1→
   (b1<σ.length∧b1≠b∧sget σ b1=some B1∧φ[b1]? =some l1)∨(b1=σ.length∧B1=⟨B.sz,B.deep,B.rows.drop i⟩∧l1=⟨l.blk,l.base+i*l.sz,l.sz,l.size⟩):=fun b1 B1 l1 h1 h2=>by
  rcases K9 h1 with⟨hb1,h1⟩ | ⟨hb1,hB⟩
  ·rw[hlen] at hb1
   rw[List.getElem?_append_left (by rw[h.len];exact hb1)] at h2
   exact .inl ⟨hb1,(hg _ _ h1).2,(hg _ _ h1).1,h2⟩
  ·rw[hlen] at hb1
   rw[hb1,←h.len] at h2
   simp at h2
   exact .inr ⟨hb1,(Option.some.inj hB).symm,h2.symm⟩
 refine⟨⟨by simp[h.len],fun b1 B1 l1 h1 h2=> ?_,fun b1 b2 B1 B2 l1 l2 hne h1 h2 h3 h4 p1 p2=> ?_,fun c hc ho=>h.sep c hc (hown c ho),h.im⟩,
  ⟨⟨Nat.le_refl _,fun _ _ _=>rfl,⟨rfl,rfl,rfl⟩⟩,fun c hc=> .inl (hown c hc),fun c hc=>by rw[List.getElem?_append_left hc],fun _ h=>h,fun _ h=> .inl h⟩⟩
 ·rcases e1 b1 B1 l1 h1 h2 with⟨_,_,h3,h4⟩ | ⟨_,rfl,rfl⟩
  ·exact(h.blk b1 B1 l1 h3 h4).of_heap (fun _=>rfl) (Nat.le_refl _) (fun _ h=>h) (fun _ _=>rfl) hφ
  ·refine⟨hk.pos,hk.sz,fun r hr=>hk.len r (List.mem_of_mem_drop hr),?_,hk.mem,hk.lt,hk.fz,fun k j r d h5 h6=> ?_⟩
   ·have:=hk.fit
    simp only[List.length_drop]
    rw[hk.sz]
    have e2:B.rows.length*B.sz=i*B.sz+(B.rows.length-i)*B.sz:=by rw[←Nat.add_mul];congr 1;omega
    omega
   ·simp only[List.getElem?_drop] at h5
    obtain⟨v,hv,hr⟩:=hk.rel _ _ r d h5 h6
    refine⟨v,?_,hr.mono (fun _ h=>h) (fun _ _=>rfl) (by split;exact hφ;exact l5.refl _)⟩
    rw[hk.sz]
    rw[Nat.add_mul] at hv
    rw[show l.base+i*B.sz+k*B.sz+j=l.base+(i*B.sz+k*B.sz)+j by omega];exact hv
 ·rcases e1 b1 B1 l1 h3 h1 with⟨c1,c2,c3,c4⟩ | ⟨c1,rfl,rfl⟩<;>rcases e1 b2 B2 l2 h4 h2 with⟨d1,d2,d3,d4⟩ | ⟨d1,rfl,rfl⟩
  ·exact h.inj b1 b2 B1 B2 l1 l2 hne c4 d4 c3 d3 p1 p2
  ·exact h.inj b1 b B1 B l1 l c2 c4 hl c3 hb p1 p2
  ·exact h.inj b b2 B B2 l l2 (Ne.symm d2) hl d4 hb d3 p1 p2
  ·omega
end
section
variable {P : Program} {w : World} {Im : Nat → Prop} {φ : o8} {σ : i4}
theorem T9.after {w1 w2:World}{φ1 φ2:o8}{σ1 σ2:i4}{d:D}{v:Value} (h0:l5 φ φ1) (hl:φ.length≤φ1.length) (h:Tr φ.length w Im φ σ w1 Im φ1 σ1) (g:T9 w1 Im φ1 σ1 w2 φ2 σ2 d v):T9 w Im φ σ w2 φ2 σ2 d v:=
 ⟨h0.trans g.le,h.trans (g.tr.le hl),g.inv,g.rel⟩
theorem cf8 {a b:Bool}{d:D}{v:Value} (h:i7 w Im (if b then φ else []) d v):i7 w Im (if a || b then φ else []) d v:=by
 cases b with
 | true=>simpa using h
 | false=>
  cases a with
  | false=>simpa using h
  | true=>simp only[Bool.or_false,if_true];exact h.mono (fun _ h=>h) (fun _ _=>rfl) (l5.nil _)
theorem cN5 {a b:Bool}{d:D}{v:Value} (h:i7 w Im (if a then φ else []) d v):i7 w Im (if a || b then φ else []) d v:=by
 rw[Bool.or_comm];exact cf8 h
theorem bq6 (hi:Inv w Im φ σ) {b:Nat}{B:A5}{l:Q3} (hb:sget σ b=some B) (hl:φ[b]? =some l) (p:Nat) (hp:p≤B.rows.length) {new:List (List D)}{news:List Value}{dp:Bool}
  (hlen:news.length=new.length*B.sz) (hrows:∀r∈new,S8 B.sz r)
  (hrel:∀(i j:Nat) (r:List D) (d:D),new[i]? =some r→r[j]? =some d→∃u,news[i*B.sz+j]? =some u∧i7 w Im (if dp then φ else []) d u)
  (hfit:l.base+(p+new.length)*B.sz≤l.size) (tl:Bool):
  Inv (w.setCells l.blk (l.base+p*B.sz) news) Im φ (σ.set b (some ⟨B.sz,B.deep || dp,B.rows.take p++new++(if tl then B.rows.drop (p+new.length) else [])⟩))∧
  Tr φ.length w Im φ σ (w.setCells l.blk (l.base+p*B.sz) news) Im φ (σ.set b (some ⟨B.sz,B.deep || dp,B.rows.take p++new++(if tl then B.rows.drop (p+new.length) else [])⟩)):=by
 have hk:=hi.blk b B l hb hl
 have htake:(B.rows.take p).length=p:=by simp;omega
 refine bh4 hi (B' :=⟨B.sz,B.deep || dp,B.rows.take p++new++(if tl then B.rows.drop (p+new.length) else [])⟩) hb hl (p*B.sz) news ?_ rfl (fun r hr=> ?_) ?_ (fun i j r d h1 h2=> ?_) (fun h=>by simp[h])
 ·rw[hlen];rw[Nat.add_mul] at hfit;omega
 ·simp only[List.mem_append] at hr
  rcases hr with(hr | hr) | hr
  ·exact hk.len r (List.mem_of_mem_take hr)
  ·exact hrows r hr
  ·split at hr
   ·exact hk.len r (List.mem_of_mem_drop hr)
   ·simp at hr
 ·have h3:(B.rows.take p++new++(if tl then B.rows.drop (p+new.length) else [])).length≤max B.rows.length (p+new.length):=by
   split<;>simp<;>omega
  rcases Nat.le_total B.rows.length (p+new.length) with h4 | h4
  ·rw[Nat.max_eq_right h4] at h3
   have:=Nat.mul_le_mul_right B.sz h3
   simp only at this ⊢
   omega
  ·rw[Nat.max_eq_left h4] at h3
   have:=Nat.mul_le_mul_right B.sz h3
   have:=hk.fit
   simp only at this ⊢
   omega
 ·simp only at h1 ⊢
  rw[List.append_assoc] at h1
  by_cases q1:i<p
  ·rw[List.getElem?_append_left (by omega),List.getElem?_take,if_pos q1] at h1
   have hj:=(List.getElem?_eq_some_iff.1 h2).1
   have hrl:=(hk.len r (List.mem_of_getElem? h1)).1
   have:=az2 (sz:=B.sz) (j:=j) q1 (by omega)
   exact .inr ⟨by omega,r,h1,h2⟩
  ·rw[List.getElem?_append_right (by omega),htake] at h1
   by_cases q2:i<p+new.length
   ·rw[List.getElem?_append_left (by omega)] at h1
    obtain⟨u,hu,hur⟩:=hrel _ _ r d h1 h2
    have hj:=(List.getElem?_eq_some_iff.1 h2).1
    have hrl:=(hrows r (List.mem_of_getElem? h1)).1
    have e1:i*B.sz=p*B.sz+(i-p)*B.sz:=by rw[←Nat.add_mul];congr 1;omega
    have hlt:=az2 (sz:=B.sz) (j:=j) (show i-p<new.length by omega) (by omega)
    refine .inl ⟨by omega,by omega,u,?_,cf8 hur⟩
    rw[show i*B.sz+j-p*B.sz=(i-p)*B.sz+j by omega];exact hu
   ·rw[List.getElem?_append_right (by omega)] at h1
    split at h1
    ·rw[List.getElem?_drop,show p+new.length+(i-p-new.length)=i by omega] at h1
     have:=Nat.mul_le_mul_right B.sz (show p+new.length≤i by omega)
     rw[Nat.add_mul] at this
     exact .inr ⟨by omega,r,h1,h2⟩
    ·simp at h1
theorem bK7 (z:Array Value) (n:Nat):(Builtin.zeroCells z n).size=n*z.size:=by simp[Builtin.zeroCells]
theorem aU6 (hi:Inv w Im φ σ) {n:Nat}{olds new:List (List D)}{ovs nvs:List Value}{z:Array Value}{e:TypeId}{dp dq:Bool} (hz:z.size=n) (hn:0<n)
  (ho:ovs.length=olds.length*n) (hor:∀r∈olds,S8 n r) (horel:∀(i j:Nat) (r:List D) (d:D),olds[i]? =some r→r[j]? =some d→∃u,ovs[i*n+j]? =some u∧i7 w Im (if dp then φ else []) d u)
  (hl:nvs.length=new.length*n) (hnr:∀r∈new,S8 n r) (hnrel:∀(i j:Nat) (r:List D) (d:D),new[i]? =some r→r[j]? =some d→∃u,nvs[i*n+j]? =some u∧i7 w Im (if dq then φ else []) d u)
  (cap:Nat) (hcap:olds.length+new.length≤cap):
  T9 w Im φ σ (w.drew.alloc (.cells ((ovs++nvs).toArray++Builtin.zeroCells z (cap-(olds.length+new.length))) e)) (φ++ [⟨w.heap.size,0,n,((ovs++nvs).toArray++Builtin.zeroCells z (cap-(olds.length+new.length))).size⟩])
   (σ++ [some ⟨n,dp || dq,olds++new⟩]) (.msl σ.length 0 (olds.length+new.length) (olds.length+new.length) false) (.slice (some ⟨w.heap.size,0,none⟩) (olds.length+new.length) cap):=by
 have hsize:((ovs++nvs).toArray++Builtin.zeroCells z (cap-(olds.length+new.length))).size=cap*n:=by
  rw[Array.size_append,bK7,hz,List.size_toArray,List.length_append,ho,hl,←Nat.add_mul,←Nat.add_mul]
  congr 1;omega
 have hget:∀p u,(ovs++nvs)[p]? =some u→((ovs++nvs).toArray++Builtin.zeroCells z (cap-(olds.length+new.length)))[p]? =some u:=fun p u hp=>by
  have:=(List.getElem?_eq_some_iff.1 hp).1
  rw[Array.getElem?_append_left (by simpa using this)]
  simpa using hp
 have hok:∀r∈olds++new,S8 n r:=fun r hr=>(List.mem_append.1 hr).elim (hor r) (hnr r)
 have hrel:∀(i j:Nat) (r:List D) (d:D),(olds++new)[i]? =some r→r[j]? =some d→∃u,(ovs++nvs)[i*n+j]? =some u∧i7 w Im (if dp || dq then φ else []) d u:=fun i j r d h1 h2=>by
  have hj:=(List.getElem?_eq_some_iff.1 h2).1
  have hrl:=(hok r (List.mem_of_getElem? h1)).1
  by_cases q:i<olds.length
  ·rw[List.getElem?_append_left q] at h1
   obtain⟨u,hu,hur⟩:=horel i j r d h1 h2
   have:=az2 (sz:=n) (j:=j) q (by omega)
   exact⟨u,by rw[List.getElem?_append_left (by omega)];exact hu,cN5 hur⟩
  ·rw[List.getElem?_append_right (by omega)] at h1
   obtain⟨u,hu,hur⟩:=hnrel _ j r d h1 h2
   have e1:i*n=olds.length*n+(i-olds.length)*n:=by rw[←Nat.add_mul];congr 1;omega
   exact⟨u,by rw[List.getElem?_append_right (by omega),show i*n+j-ovs.length=(i-olds.length)*n+j by omega];exact hu,cf8 hur⟩
 obtain⟨a1,a2⟩:=hi.drew.alloc ((ovs++nvs).toArray++Builtin.zeroCells z (cap-(olds.length+new.length))) e (0,0) ⟨n,dp || dq,olds++new⟩ hn (.inl rfl) hok
  (by rw[hsize,List.length_append];exact Nat.mul_le_mul_right n hcap) (fun i j r d h1 h2=>by
   obtain⟨u,hu,hur⟩:=hrel i j r d h1 h2
   exact⟨u,hget _ _ hu,hur.mono (fun _ h=>h) (fun _ _=>rfl) (l5.refl _)⟩)
 refine⟨l5.append _ _,(Tr.drew _ _ _ _ _).trans a2,a1,.msl _ _ _ _ _ _ _ _ (ac8 hi.len _) (Nat.le_refl _) hcap (fun h=>by cases h) (by simp only;rw[hsize];simp) rfl (fun _=>by simp)⟩
theorem aG2 (w:World) (need old:Nat) (e:TypeId):need≤grownCap w need old e:=by
 unfold grownCap;simp[Question.cut]
theorem bI0 (hi:Inv w Im φ σ) {t tx ty:TypeId}{dx:TypeDesc}{s x:D}{sv xv:Value} (hs:i7 w Im φ s sv) (hx:i7 w Im φ x xv) (htx:P.underlying tx=some dx)
  (hdx:(∃e,dx=.slice e)∨dx=.string) (h1:∀b,xv=.string b→dx=.string) (h2:∀a n c,xv=.slice a n c→∃e,dx=.slice e):
  l7 P w Im φ σ (Builtin.append_ #[t,tx] ty #[sv,xv]) (aO8 P t s x σ):=by
 unfold aO8
 split
 ·rename_i e hu
  split
  ·rename_i n by_ zs sz dp cnt new hn hby hzs hrows
   split
   ·rename_i hc
    obtain⟨hc1,hc2,hc3,hc4⟩:=hc
    refine bo6 fun hcnt=> ?_
    obtain⟨news,hsrc⟩:=bA2 hi hx hrows hc1 hc2 hcnt
    obtain⟨ie,g1,g2⟩:=bq0 hn
    obtain⟨ie',g3,g4⟩:=bn6 hby
    obtain rfl:=Option.some.inj (g1.symm.trans g3)
    obtain⟨z,zv,hz1,hz2⟩:∃z zv,ar9 P e=some z∧ie.zero=some zv:=by
     cases hz:ar9 P e with
     | none=>simp[hz] at hzs
     | some z=>
      obtain⟨i2,v2,q1,q2,_⟩:=bc8 hz
      obtain rfl:=Option.some.inj (g1.symm.trans q1)
      exact⟨z,v2,rfl,q2⟩
    have hzsize:zv.cells.size=n:=by
     simp only[hz1,Option.bind_some] at hzs
     obtain⟨i2,v2,q1,q2,q3⟩:=bz8 (w:=w) (Im:=Im) (φ:=φ) hz1
     obtain rfl:=Option.some.inj (g1.symm.trans q1)
     obtain rfl:=Option.some.inj (hz2.symm.trans q2)
     rw[←(W9 q3 hzs).1,hc4]
    have hsrcP:Src P ie.size tx xv new.length news w:=by rw[g2];exact hsrc.src htx hdx h1 h2
    have hlim:∀need sCap,sCap<need→need*by_≤n4→((need:Nat):Int)≤9223372036854775807∧Builtin.nextslicecap need sCap*ie.bytes≤281474976710656:=fun need sCap q1 q2=>by
     have q2:need*by_≤140737488355328:=q2
     have q3:=Nat.le_mul_of_pos_right need hc3
     have q4:=Nat.mul_le_mul_right by_ (Room.nextslicecap_le' q1)
     rw[Nat.mul_assoc] at q4
     rw[g4]
     exact⟨by omega,by omega⟩
    split
    ·rename_i sz' rows'
     obtain⟨rfl,rfl⟩:=hs.nilsl_inv
     intro hb
     have hb' :new.length*by_≤n4:=of_decide_eq_true hb
     show l7 P w Im φ σ _ (.ok _ _)
     rcases Nat.eq_zero_or_pos new.length with h0 | hpos
     ·have he' :new= []:=List.eq_nil_of_length_eq_zero h0
      subst he'
      have hr:=run_append_nothing w t tx ty e ie hu g1 none 0 0 (Nat.le_refl _) xv (by have:=hsrc.len;simp at this;subst this;simpa using hsrcP)
      obtain⟨n1,n2⟩:=hi.nothing hc2 dp
      simp only[List.length_nil]
      exact⟨_,_,_,hr,l5.append _ _,n2,n1,.mnil _ _ _ _ (ac8 hi.len _)⟩
     ·obtain⟨q1,q2⟩:=hlim (0+new.length) 0 (by omega) (by rw[Nat.zero_add];exact hb')
      have hr:=run_append_grow_src w t tx ty e ie zv hu g1 hz2 none 0 0 [] (by simp[Builtin.firstCells]) xv new.length news hsrcP (by omega) q1 q2
      have hg:=aU6 (e:=e) hi (olds:= []) (ovs:= []) (dp:=false) (n:=n) hzsize hc2 (by simp) (by simp) (by simp) hsrc.len hsrc.rows hsrc.rel (grownCap w (0+new.length) 0 e) (by simpa using aG2 w (0+new.length) 0 e)
      simp only[List.length_nil,Nat.zero_add,List.nil_append,Bool.false_or] at hg hr
      exact⟨_,_,_,hr,hg⟩
    ·rename_i b i len lo ex
     split
     ·rename_i B hB
      split
      ·rename_i hBz
       subst hBz
       obtain⟨l,hl,⟨rfl,rfl,rfl⟩ | ⟨cap,ad,rfl,a1,a2,a3,a4,a5,a6⟩⟩:=hs.msl_inv
       ·intro hb hb2
        have hb' :new.length*by_≤n4:=by simpa using of_decide_eq_true hb
        show l7 P w Im φ σ _ (.ok _ _)
        obtain⟨d1,d2⟩:=hi.drop b
        have h00:(B.rows.drop i).take 0= []:=by simp
        rw[h00,List.nil_append]
        rcases Nat.eq_zero_or_pos new.length with h0 | hpos
        ·have he' :new= []:=List.eq_nil_of_length_eq_zero h0
         subst he'
         have hr:=run_append_nothing w t tx ty e ie hu g1 none 0 0 (Nat.le_refl _) xv (by have:=hsrc.len;simp at this;subst this;simpa using hsrcP)
         obtain⟨n1,n2⟩:=d1.nothing hc2 (B.deep || dp)
         simp only[List.length_nil]
         exact⟨_,_,_,hr,l5.append _ _,d2.trans n2,n1,.mnil _ _ _ _ (by have:=ac8 (φ:=φ) (σ:=σ) hi.len ⟨0,0,B.sz,0⟩;exact this)⟩
        ·obtain⟨q1,q2⟩:=hlim (0+new.length) 0 (by omega) (by rw[Nat.zero_add];exact hb')
         have hr:=run_append_grow_src w t tx ty e ie zv hu g1 hz2 none 0 0 [] (by simp[Builtin.firstCells]) xv new.length news hsrcP (by omega) q1 q2
         have hg:=aU6 (e:=e) d1 (olds:= []) (ovs:= []) (dp:=B.deep) (n:=B.sz) hzsize hc2 (by simp) (by simp) (by simp) hsrc.len hsrc.rows hsrc.rel (grownCap w (0+new.length) 0 e) (by simpa using aG2 w (0+new.length) 0 e)
         simp only[List.length_nil,Nat.zero_add,List.nil_append,List.length_set] at hg hr
         exact⟨_,_,_,hr,hg.le,d2.trans hg.tr,hg.inv,hg.rel⟩
       obtain⟨l',hl',hk⟩:=hi.loc hB
       obtain rfl:=Option.some.inj (hl.symm.trans hl')
       have hadd:ad=⟨ad.block,ad.off,none⟩:=by cases ad;simp_all
       --in place
       have hroom:len+new.length≤cap→(Builtin.append_ #[t,tx] ty #[.slice (some ad) len cap,xv]).run P w=.ok (.slice (some ad) (len+new.length) cap) (w.setCells l.blk (l.base+(i+len)*B.sz) news):=fun hle=>by
        by_cases hcap:cap=0
        ·have h0:new= []:=List.eq_nil_of_length_eq_zero (by omega)
         subst h0
         have hnews:news= []:=List.eq_nil_of_length_eq_zero (by simpa using hsrc.len)
         subst hnews
         exact run_append_nothing w t tx ty e ie hu g1 (some ad) len cap (by omega) xv (by simpa using hsrcP)
        ·obtain rfl:=a6 hcap
         have e1:l.base+i*l.sz+len*ie.size=l.base+(i+len)*B.sz:=by rw[g2,hk.sz,Nat.add_mul];omega
         have hm:∀j,j<news.length→l.base+(i+len)*B.sz+j<l.size:=fun j hj=>by
          rw[hsrc.len] at hj
          have:=Nat.mul_le_mul_right B.sz (show i+len+new.length≤i+cap by omega)
          rw[Nat.add_mul (i+len)] at this
          rw[hk.sz] at a4
          omega
         have:=run_append_room_src w t tx ty e ie hu g1 l.blk (l.base+i*l.sz) len cap xv new.length news hsrcP hle (fun j hj=>by rw[e1];exact(hk.mem _ (hm j hj)).1) (fun j hj=>by rw[e1];exact(hk.mem _ (hm j hj)).2)
         rw[e1] at this
         exact this
       --a new row
       have hgrow:cap<len+new.length→(len+new.length)*by_≤n4→i+len≤B.rows.length→∀(σ' :i4),Inv w Im φ σ' →Tr φ.length w Im φ σ w Im φ σ' →σ'.length=σ.length→
         ∃v w' φ',(Builtin.append_ #[t,tx] ty #[.slice (some ad) len cap,xv]).run P w=.ok v w' ∧T9 w Im φ σ w' φ' (σ' ++ [some ⟨B.sz,B.deep || dp,(B.rows.drop i).take len++new⟩]) (.msl σ.length 0 (len+new.length) (len+new.length) false) v:=by
        intro hlt hby' hin σ' hi' htr hl'
        obtain⟨q1,q2⟩:=hlim _ _ hlt hby'
        have hsub:=hk.rowsAt.sub i len
        obtain⟨ovs,o1,o2,o3,o4⟩:=bl2 hsub hc2
        have hol:((B.rows.drop i).take len).length=len:=by simp;omega
        have hold:(Builtin.firstCells ie.size len (.slice (some ad) len cap)).run P w.drew=.ok ovs.toArray w.drew:=by
         refine run_firstCells_some w.drew ie.size len ad len cap ovs (by rw[o1,hol,g2]) (fun j u hj=> ?_)
         have hj' :=(List.getElem?_eq_some_iff.1 hj).1
         rw[o1,hol] at hj'
         have:cap≠0:=by
          intro h0
          have:len=0:=by omega
          rw[this] at hj';simp at hj'
         rw[a6 this,aw4,hk.sz]
         exact o4 j u hj
        have hr:=run_append_grow_src w t tx ty e ie zv hu g1 hz2 (some ad) len cap ovs hold xv new.length news hsrcP hlt q1 q2
        have hg:=aU6 (e:=e) hi' (olds:=(B.rows.drop i).take len) (ovs:=ovs) (dp:=B.deep) (dq:=dp) hzsize hc2 o1 hsub.1 o2 hsrc.len hsrc.rows hsrc.rel (grownCap w (len+new.length) cap e) (by rw[hol];exact aG2 w _ _ e)
        rw[hol,hl'] at hg
        exact⟨_,_,_,hr,hg.le,htr.trans hg.tr,hg.inv,hg.rel⟩
       intro hb hb2
       have hb' :(len+new.length)*by_≤n4:=of_decide_eq_true hb
       have hb2' :=Nat.le_of_ble_eq_true hb2
       show l7 P w Im φ σ _ (.ok _ _)
       have hrl:((B.rows.drop i).take len++new).length=len+new.length:=by simp;omega
       rw[hrl]
       by_cases hle:len+new.length≤cap
       ·have hfit' :l.base+(i+len+new.length)*B.sz≤l.size:=by
         have:=Nat.mul_le_mul_right B.sz (show i+len+new.length≤i+cap by omega)
         rw[hk.sz] at a4
         omega
        obtain⟨b1,b2⟩:=bq6 hi hB hl (i+len) hb2' hsrc.len hsrc.rows hsrc.rel hfit' false
        simp only[Bool.false_eq_true,if_false,List.append_nil] at b1 b2
        have hlb:=I7 hB
        obtain⟨c1,c2⟩:=b1.move (P1 hlb) hl i (by simp;omega)
        have e2:(B.rows.take (i+len)++new).drop i=(B.rows.drop i).take len++new:=by
         rw[List.drop_append_of_le_length (by simp;omega),List.drop_take,show i+len-i=len by omega]
        rw[e2,List.set_set] at c1 c2
        refine⟨_,_,_,hroom hle,l5.append _ _,b2.trans c2,c1,.msl _ _ _ _ _ _ cap ad (ac8 hi.len _) (Nat.le_refl _) hle (fun h=>by cases h) (by simp only;rw[Nat.zero_add,Nat.add_assoc,←Nat.add_mul];exact a4) a5 (fun hc=>by simpa using a6 hc)⟩
       ·obtain⟨d1,d2⟩:=hi.drop b
        exact hgrow (by omega) hb' hb2' _ d1 d2 (by simp)
      ·trivial
     ·trivial
    ·trivial
   ·trivial
  ·trivial
 ·trivial
end
end Go.RX
