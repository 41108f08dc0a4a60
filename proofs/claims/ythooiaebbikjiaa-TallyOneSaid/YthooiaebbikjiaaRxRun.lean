/-
  RX, the abstract machine: items, look, adv, exec.
-/
import Derived.Test.YthooiaebbikjiaaRxDefs
namespace Go.RX

/-! ### going through a datum -/
def mapO (f : D → Option D) : List D → Option (List D)
  | [] => some []
  | d :: r => match f d, mapO f r with | some e, some s => some (e :: s) | _, _ => none

def mapR (f : D → Option D) : List (List D) → Option (List (List D))
  | [] => some []
  | d :: r => match mapO f d, mapR f r with | some e, some s => some (e :: s) | _, _ => none

/-- h at each name of a local block. -/
def tr (h : D → Option D) : Nat → D → Option D
  | 0, _ => none
  | n + 1, d => match d with
    | .ptr b i o => h (.ptr b i o)
    | .msl b i len lo ex => h (.msl b i len lo ex)
    | .fn f a c => (match mapO (tr h n) a, mapO (tr h n) c with | some a, some c => some (.fn f a c) | _, _ => none)
    | .agg cs => (mapO (tr h n) cs).map .agg
    | .tup cs => (mapO (tr h n) cs).map .tup
    | .iface t v => (tr h n v).map (.iface t)
    | d => some d

def trFuel : Nat := 6

/-- What names occur. -/
def refs : Nat → D → List Nat
  | 0, _ => []
  | n + 1, d => match d with
    | .ptr b _ _ => [b]
    | .msl b _ _ _ _ => [b]
    | .fn _ a c => a.flatMap (refs n) ++ c.flatMap (refs n)
    | .agg cs => cs.flatMap (refs n)
    | .tup cs => cs.flatMap (refs n)
    | .iface _ v => refs n v
    | _ => []

def renH (ρ : Nat → Option Nat) : D → Option D
  | .ptr b i o => (ρ b).map fun c => .ptr c i o
  | .msl b i len lo ex => (ρ b).map fun c => .msl c i len lo ex
  | d => some d

def idxOf : List Nat → Nat → Nat → Option Nat
  | [], _, _ => none
  | x :: r, b, k => bif Nat.beq x b then some k else idxOf r b (k + 1)

/-- Freezing: names from m on become what they hold; the others stay (or, if that is asked for, are refused). -/
def frzH (σ : Sto) (m : Nat) (strict : Bool) : Nat → D → Option D
  | 0, _ => none
  | n + 1, d => match d with
    | .ptr b i o => bif Nat.blt b m then (bif strict then none else some (.ptr b i o)) else (match sget σ b with
      | some B => bif B.deep then (match mapR (tr (frzH σ m true n) trFuel) B.rows with | some rows => some (.iptr B.sz rows i o) | none => none) else some (.iptr B.sz B.rows i o)
      | none => none)
    | .msl b i len lo ex => bif Nat.blt b m then (bif strict then none else some (.msl b i len lo ex)) else (match sget σ b with
      | some B => bif Nat.ble (i + len) B.rows.length then
          (bif B.deep then (match mapR (tr (frzH σ m true n) trFuel) ((B.rows.drop i).take len) with | some rows => some (.sl false B.sz rows) | none => none) else some (.sl false B.sz ((B.rows.drop i).take len)))
        else none
      | none => none)
    | _ => none

def frz (σ : Sto) (m : Nat) (d : D) : Option D := tr (frzH σ m false 6) trFuel d

/-- The same, but for what is asked: a slice's rows must be there. -/
def frzHU (σ : Sto) (m : Nat) (strict : Bool) : Nat → D → Option D
  | 0, _ => none
  | n + 1, d => match d with
    | .ptr b i o => bif Nat.blt b m then (bif strict then none else some (.ptr b i o)) else (match sget σ b with
      | some B => bif B.deep then (match mapR (tr (frzHU σ m true n) trFuel) B.rows with | some rows => some (.iptr B.sz rows i o) | none => none) else some (.iptr B.sz B.rows i o)
      | none => none)
    | .msl b i len lo ex => bif Nat.blt b m then (bif strict then none else some (.msl b i len lo ex)) else (match sget σ b with
      | some B => (bif B.deep then (match mapR (tr (frzHU σ m true n) trFuel) ((B.rows.drop i).take len) with | some rows => some (.sl false B.sz rows) | none => none) else some (.sl false B.sz ((B.rows.drop i).take len)))
      | none => none)
    | _ => none

def frzU (σ : Sto) (m : Nat) (d : D) : Option D := tr (frzHU σ m false 6) trFuel d

/-- What holds at each name of a block. -/
def gat (c : D → List Bool) : Nat → D → List Bool
  | 0, _ => []
  | n + 1, d => match d with
    | .ptr b i o => c (.ptr b i o)
    | .msl b i len lo ex => c (.msl b i len lo ex)
    | .fn _ a b => a.flatMap (gat c n) ++ b.flatMap (gat c n)
    | .agg cs => cs.flatMap (gat c n)
    | .tup cs => cs.flatMap (gat c n)
    | .iface _ v => gat c n v
    | _ => []

def frzC (σ : Sto) (m : Nat) : Nat → D → List Bool
  | 0, _ => []
  | n + 1, d => match d with
    | .ptr b _ _ => bif Nat.blt b m then [] else (match sget σ b with
      | some B => bif B.deep then B.rows.flatMap (fun r => r.flatMap (gat (frzC σ m n) trFuel)) else []
      | none => [])
    | .msl b i len _ _ => bif Nat.blt b m then [] else (match sget σ b with
      | some B => Nat.ble (i + len) B.rows.length :: (bif B.deep then ((B.rows.drop i).take len).flatMap (fun r => r.flatMap (gat (frzC σ m n) trFuel)) else [])
      | none => [])
    | _ => []

def frzN (σ : Sto) (m : Nat) (d : D) : List Bool := gat (frzC σ m 6) trFuel d

def blkN (c : D → List Bool) : Option Blk → List Bool
  | none => []
  | some B => bif B.deep then B.rows.flatMap (fun r => r.flatMap c) else []

def noRef : D → Option D := fun _ => none

def mapBlk (f : D → Option D) : Option Blk → Option (Option Blk)
  | none => some none
  | some B => if B.deep then (mapR f B.rows).map fun rows => some ⟨B.sz, true, rows⟩ else some (some B)

def mapSto (f : D → Option D) : Sto → Option Sto
  | [] => some []
  | b :: r => match mapBlk f b, mapSto f r with | some b, some r => some (b :: r) | _, _ => none

def mapFr (f : D → Option D) : Fr → Option Fr
  | [] => some []
  | x :: r => match f x.2, mapFr f r with | some d, some r => some ((x.1, d) :: r) | _, _ => none

/-- The blocks that are reached from some names. -/
def reach (σ : Sto) : Nat → List Nat → List Nat → List Nat
  | 0, seen, _ => seen
  | _, seen, [] => seen
  | n + 1, seen, b :: todo =>
    bif seen.contains b then reach σ n seen todo else
      (match sget σ b with
       | some B => reach σ n (seen ++ [b]) (todo ++ (if B.deep then B.rows.flatMap (fun r => r.flatMap (refs trFuel)) else []))
       | none => reach σ n (seen ++ [b]) todo)

def pickSto (σ : Sto) (ids : List Nat) : Sto := ids.map fun b => match σ[b]? with | some B => B | none => none

def nodupB : List Nat → Bool
  | [] => true
  | x :: r => !(r.contains x) && nodupB r

def okIds (m : Nat) (ids : List Nat) : Bool := (ids.take m == List.range m) && nodupB ids

/-- The frame's kept slots and the store's kept blocks, named anew: the first m blocks keep their names. -/
def compact (m : Nat) (fr : Fr) (σ : Sto) : Option (Fr × Sto) :=
  let ids := reach σ 200 [] (List.range m ++ fr.flatMap fun x => refs trFuel x.2)
  let f := tr (renH fun b => idxOf ids b 0) trFuel
  match okIds m ids, mapFr f fr, mapSto f (pickSto σ ids) with
  | true, some fr', some s => some (fr', s)
  | _, _, _ => none

/-! ### what is still read -/
def bit (t : Nat) : Nat := 1 <<< t
def clr (m t : Nat) : Nat := bif m.testBit t then m - bit t else m
def usesOp (o : Oper) : Nat := o.op.operands.toList.foldl (fun m x => match x with | .tmp t => m ||| bit t | _ => m) 0
def guardSlot (all : List Oper) (o : Oper) : Option Nat := match o.guard with | some (j, _) => (match all[j]? with | some g => g.dst | none => none) | none => none
def liveOps (all : List Oper) : List Oper → Nat → Nat
  | [], out => out
  | o :: l, out =>
    let r := liveOps all l out
    let r := match o.dst with | some t => clr r t | none => r
    let r := match guardSlot all o with | some s => r ||| bit s | none => r
    r ||| usesOp o
def exOf : List (Nat × Nat) → Nat → Nat
  | [], _ => 0
  | x :: r, id => bif Nat.beq x.1 id then x.2 else exOf r id
def operBit : Operand → Nat | .tmp t => bit t | _ => 0
def liveC (rm : Nat) : Code → Nat → List (Nat × Nat) → Nat
  | .skip, out, _ => out
  | .region _ ops _, out, _ => liveOps ops.toList ops.toList out
  | .seq a b, out, ex => liveC rm a (liveC rm b out ex) ex
  | .cond c a b, out, ex => operBit c ||| liveC rm a out ex ||| liveC rm b out ex
  | .block id c, out, ex => liveC rm c out ((id, out) :: ex)
  | .loop c, _, ex => liveC rm c (liveC rm c 0 ex) ex
  | .rangeFunc f _ a b, out, ex => operBit f ||| liveC rm a (liveC rm b out ex) ex ||| out
  | .exit id, _, ex => exOf ex id
  | .scope c, out, ex => liveC rm c out ex
  | .label _, out, _ => out
  | .goto _, _, _ => 0
  | .ret, _, _ => rm
  | .refuse _, _, _ => 0

/-! ### the machine -/
inductive It where
  | code (c : Code)
  | blk (id : Nat)
  | lp (c : Code) (live : Nat)
  | lpc (c : Code) (live : Nat)
  | ops (all l : List Oper)

structure M where
  td : List It
  fr : Fr
  st : Sto

inductive Qy where
  | go (m : M)
  | need (b : Bool) (q : Qy)
  | split (b : Bool) (k : Bool → Qy)
  | row (r : Option (List D)) (k : List D → Qy)
  | str (r : Option (List UInt8)) (k : List UInt8 → Qy)
  | call (f : FuncId) (args : List D) (sub : Sto) (k : D → Sto → Qy)
  | callD (f : FuncId) (args : List D) (k : D → Qy)
  | ret (d : D) (σ : Sto)
  | bad

def needs : List Bool → Qy → Qy
  | [], q => q
  | b :: r, q => .need b (needs r q)

/-- How a call is made: 'keep': what the callee made is handed over as blocks, not frozen; 'pass': the blocks that the arguments name go with them. -/
structure Pol where
  keep : Bool := false
  pass : Bool := false

structure Env where
  P : Program
  pol : FuncId → Pol

structure Cx where
  fn : Func
  keep : Bool
  m : Nat

def retMask (fn : Func) : Nat := fn.results.toList.foldl (fun m r => match r with | .tmp t => m ||| bit t | .cell a _ => m ||| bit a) 0

def liveT (rm : Nat) : List It → Nat × List (Nat × Nat)
  | [] => (rm, [])
  | .code c :: t => let r := liveT rm t; (liveC rm c r.1 r.2, r.2)
  | .blk id :: t => let r := liveT rm t; (r.1, (id, r.1) :: r.2)
  | .lp _ k :: t => (k, (liveT rm t).2)
  | .lpc _ k :: t => (k, (liveT rm t).2)
  | .ops all l :: t => let r := liveT rm t; (liveOps all l r.1, r.2)

def keepL (mask : Nat) (fr : Fr) : List Nat → Fr
  | [] => []
  | t :: l => bif mask.testBit t then (match fget fr t with | .undef => keepL mask fr l | d => (t, d) :: keepL mask fr l) else keepL mask fr l
def keepFr (n : Nat) (mask : Nat) (fr : Fr) : Fr := keepL mask fr (List.range n)

def popTo (id : Nat) : List It → Option (List It)
  | [] => none
  | .blk j :: t => bif Nat.beq j id then some t else popTo id t
  | _ :: t => popTo id t

def put (fr : Fr) (dst : Option Nat) (d : D) : Fr := match dst with | some t => fset fr t d | none => fr

section
variable (E : Env) (C : Cx)

def plainD : Nat → D → Bool
  | 0, _ => false
  | n + 1, d => match d with
    | .bool _ | .int .. | .str _ => true
    | .agg cs => cs.all (plainD n)
    | .tup cs => cs.all (plainD n)
    | _ => false

/-- What a block that the callee knows as j is to the caller. -/
def backN (ids : List Nat) (len : Nat) (j : Nat) : Option Nat := bif Nat.blt j ids.length then ids[j]? else some (len + (j - ids.length))

/-- The blocks that were passed, as they came back. -/
def setAll : List Nat → Sto → Sto → Sto
  | b :: ids, x :: xs, σ => (setAll ids xs σ).set b x
  | _, _, σ => σ

/-- A call, seen from the caller. -/
def callQ (f : FuncId) (args : List D) (σ : Sto) (k : D → Sto → Qy) : Qy :=
  match mapO (tr noRef trFuel) args with
  | some args' => .call f args' [] fun d s =>
      (match s with
       | [] => k d σ
       | _ =>
         let g := tr (renH fun j => some (σ.length + j)) trFuel
         (match g d, mapSto g s with
          | some d', some s' => k d' (σ ++ s')
          | _, _ => .bad))
  | none =>
    bif (E.pol f).pass then
      let ids := reach σ 200 [] (args.flatMap (refs trFuel))
      let g := tr (renH fun b => idxOf ids b 0) trFuel
      match okIds 0 ids && ids.all (fun b => Nat.blt b σ.length), mapO g args, mapSto g (pickSto σ ids) with
      | true, some args', some sub =>
        .call f args' sub fun d s =>
          let n := ids.length
          let back := tr (renH (backN ids σ.length)) trFuel
          (match back d, mapSto back s with
           | some d', some s' => bif Nat.ble n s'.length then k d' (setAll ids s' σ ++ s'.drop n) else .bad
           | _, _ => .bad)
      | _, _, _ => .bad
    else
      match mapO (frzU σ 0) args with
      | some args' => needs (args.flatMap (frzN σ 0)) (.call f args' [] fun d s => (match s with | [] => bif plainD 4 d then k d σ else .bad | _ => .bad))
      | none => .bad

/-- A call in a region whose order is open: of what holds no name of a block. -/
def callDQ (f : FuncId) (args : List D) (σ : Sto) (k : D → Sto → Qy) : Qy :=
  match mapO (tr noRef trFuel) args with
  | some args' => .callD f args' fun d => k d σ
  | none =>
    match mapO (frzU σ 0) args with
    | some args' => needs (args.flatMap (frzN σ 0)) (.callD f args' fun d => bif plainD 4 d then k d σ else .bad)
    | none => .bad

def conv (dr : Bool) (k : D → Sto → Qy) (σ : Sto) : ARes → Qy
  | .ok d s => k d s
  | .need b q => .need b (conv dr k σ q)
  | .split b q => .split b fun y => conv dr k σ (q y)
  | .row r q => .row r fun x => conv dr k σ (q x)
  | .str r q => .str r fun x => conv dr k σ (q x)
  | .call f args => bif dr then callDQ f args σ k else callQ E f args σ k
  | .bad => .bad

def dstOk (n : Nat) : Option Nat → Bool
  | some t => Nat.blt t n
  | none => true

def stepOp (dr : Bool) (n : Nat) (all : List Oper) (o : Oper) (fr : Fr) (σ : Sto) (k : Fr → Sto → Qy) : Qy :=
  bif dstOk n o.dst then
    match o.guard with
    | none => conv E dr (fun d s => k (put fr o.dst d) s) σ (aop E.P (evalD fr) o σ)
    | some (j, want) =>
      match (match all[j]? with | some g => g.dst | none => none) with
      | none => .bad
      | some s =>
        match fget fr s with
        | .bool b => .split b fun y =>
            bif y == want then conv E dr (fun d st => k (put (fset fr s (.bool y)) o.dst d) st) σ (aop E.P (evalD (fset fr s (.bool y))) o σ)
            else k (put (fset fr s (.bool y)) o.dst (.tup [])) σ
        | .tup _ => k (put fr o.dst (.tup [])) σ
        | _ => .bad
  else .bad

/-- 0: looks at its operands alone; 1: looks at blocks; 2: makes one; 3: turns one. -/
def kindOp : Op → Nat
  | .move _ | .assign _ | .pick .. | .build .. | .nilCheck _ | .binOp .. | .unOp .. | .makeFunc .. | .fieldAddr .. | .field .. | .index .. | .extract .. | .makeInterface .. => 0
  | .load .. | .indexAddr .. | .slice .. => 1
  | .alloc _ | .box .. | .buildSlice .. | .makeSlice .. => 2
  | .convert .. => 4
  | .store .. => 3
  | .call c => (match c.callee with
    | .builtin .len | .builtin .cap | .builtin .min | .builtin .max => 0
    | .value _ => 1
    | _ => 3)
  | _ => 3

def kindOf (P : Program) (op : Op) : Nat := match kindOp op with
  | 4 => (match op with | .convert _ d _ => (match P.underlying d with | some (.slice _) => 2 | _ => 1) | _ => 3)
  | k => k

/-- Two operations of which it matters which comes first. -/
def clash (k j : Nat) : Bool := (Nat.ble 2 k && Nat.ble 2 j) || (Nat.beq k 3 && Nat.ble 1 j) || (Nat.ble 1 k && Nat.beq j 3)

def hasSlot (l : List Nat) : Option Nat → Bool
  | some t => l.contains t
  | none => false

structure OpTab where
  looks : List Nat
  dst : Option Nat
  kind : Nat
  before : Nat

def sameSlot : Option Nat → Option Nat → Bool
  | some a, some b => Nat.beq a b
  | _, _ => false

/-- Does j stand ahead of i, wherever that matters? -/
def pairOk (j : Nat) (tj ti : OpTab) : Bool :=
  ti.before.testBit j || !(hasSlot ti.looks tj.dst || hasSlot tj.looks ti.dst || sameSlot ti.dst tj.dst || clash ti.kind tj.kind)

def pairsOk (ti : OpTab) : Nat → List OpTab → Bool
  | _, [] => true
  | j, tj :: r => pairOk j tj ti && pairsOk ti (j + 1) r

def tabsOk : List OpTab → List OpTab → Bool
  | _, [] => true
  | pre, t :: r => pairsOk t 0 pre && tabsOk (pre ++ [t]) r

/-- All that stands ahead of an operation. -/
def beforeOf (o : Oper) (masks : List Nat) : Nat := o.after.toList.foldl (fun s e => bif Region.binds .any e then s ||| (2 ^ e.on) ||| masks.getD e.on 0 else s) 0

def masksOf : List Oper → List Nat → List Nat
  | [], acc => acc
  | o :: l, acc => masksOf l (acc ++ [beforeOf o acc])

def tabOf (P : Program) (ops : Array Oper) : List OpTab :=
  let ms := masksOf ops.toList []
  (ops.toList.zip ms).map fun x => ⟨x.1.looksAt ops, x.1.dst, kindOf P x.1.op, x.2⟩

def edgesOkL : Nat → List Oper → Bool
  | _, [] => true
  | i, o :: l => (o.after.toList.all fun e => !Region.binds .any e || Nat.blt e.on i) && edgesOkL (i + 1) l

def histGet (mask : Nat) (σ : Sto) : List (Nat × Sto) → Sto
  | [] => σ
  | x :: r => bif mask.testBit x.1 then x.2 else histGet mask σ r

def lastSt (σ : Sto) : List (Nat × Sto) → Sto
  | [] => σ
  | x :: _ => x.2

/-- A region whose order is open: all of it, in one look. Each operation sees the blocks as they are behind those that stand ahead of it. -/
def regionL (n : Nat) (all : List Oper) (σ0 : Sto) (k : Fr → Sto → Qy) : Nat → List Oper → List OpTab → Fr → List (Nat × Sto) → Qy
  | i, o :: l, t :: ts, fr, hist => stepOp E true n all o fr (histGet t.before σ0 hist) fun fr' σ' => regionL n all σ0 k (i + 1) l ts fr' (bif Nat.ble 2 t.kind then (i, σ') :: hist else hist)
  | _, [], [], fr, hist => k fr (lastSt σ0 hist)
  | _, _, _, _, _ => .bad

def regionQ (n : Nat) (ops : Array Oper) (fr : Fr) (σ : Sto) (k : Fr → Sto → Qy) : Qy :=
  bif edgesOkL 0 ops.toList && tabsOk [] (tabOf E.P ops) then regionL E n ops.toList σ k 0 ops.toList (tabOf E.P ops) fr [] else .bad

def resQ : List ResultVar → List D → Fr → Sto → (List D → Qy) → Qy
  | [], acc, _, _, k => k acc
  | .tmp t :: r, acc, fr, σ, k => resQ r (acc ++ [fget fr t]) fr σ k
  | .cell a t :: r, acc, fr, σ, k => conv E true (fun d _ => resQ r (acc ++ [d]) fr σ k) σ (loadD E.P t (fget fr a) σ)

def tupD : List D → D
  | [d] => d
  | ds => .tup ds

/-- The end of a function: its blocks are frozen, or handed over. -/
def sealD (d : D) (σ : Sto) : Qy :=
  bif C.keep then
    (match compact C.m [(0, d)] σ with
     | some ([x], s) => bif Nat.beq x.1 0 then .ret x.2 s else .bad
     | _ => .bad)
  else
    match frzU σ C.m d, mapSto (frzU σ C.m) (σ.take C.m) with
    | some d', some s => needs (frzN σ C.m d ++ (σ.take C.m).flatMap (blkN (frzN σ C.m))) (.ret d' s)
    | _, _ => .bad

def finish (fr : Fr) (σ : Sto) : Qy := resQ E C.fn.results.toList [] fr σ fun ds => sealD C (tupD ds) σ

def look (m : M) : Qy :=
  match m.td with
  | [] => finish E C m.fr m.st
  | .blk _ :: t => .go ⟨t, m.fr, m.st⟩
  | .lp c k :: t => (match compact C.m (keepFr C.fn.ntmps k m.fr) m.st with
    | some (fr, st) => .go ⟨.lpc c k :: t, fr, st⟩
    | none => .bad)
  | .lpc c k :: t => .go ⟨.code c :: .lp c k :: t, m.fr, m.st⟩
  | .ops _ [] :: t => .go ⟨t, m.fr, m.st⟩
  | .ops all (o :: l) :: t => stepOp E false C.fn.ntmps all o m.fr m.st fun fr st => .go ⟨.ops all l :: t, fr, st⟩
  | .code c :: t => match c with
    | .skip => .go ⟨t, m.fr, m.st⟩
    | .label _ => .go ⟨t, m.fr, m.st⟩
    | .seq a b => .go ⟨.code a :: .code b :: t, m.fr, m.st⟩
    | .block id c => .go ⟨.code c :: .blk id :: t, m.fr, m.st⟩
    | .loop c => let r := liveT (retMask C.fn) t; .go ⟨.lp c (liveC (retMask C.fn) (.loop c) r.1 r.2) :: t, m.fr, m.st⟩
    | .cond c x y => (match evalD m.fr c with
      | .bool b => .split b fun z => .go ⟨.code (if z then x else y) :: t, m.fr, m.st⟩
      | _ => .bad)
    | .exit id => (match popTo id t with | some t' => .go ⟨t', m.fr, m.st⟩ | none => .bad)
    | .ret => finish E C m.fr m.st
    | .region _ ops false => .go ⟨.ops ops.toList ops.toList :: t, m.fr, m.st⟩
    | .region _ ops true => regionQ E C.fn.ntmps ops m.fr m.st fun fr st => .go ⟨t, fr, st⟩
    | _ => .bad

/-- Silent steps, and settled questions. -/
def adv : Nat → Qy → Qy
  | 0, q => q
  | n + 1, q => match q with
    | .go m => adv n (look E C m)
    | .need b q => (match b with | true => adv n q | false => .bad)
    | .split b k => adv n (k b)
    | .row r k => (match r with | some x => adv n (k x) | none => .bad)
    | .str r k => (match r with | some x => adv n (k x) | none => .bad)
    | q => q

end

def start (f : Func) (args : List D) (σ : Sto) : Option M :=
  match f.body with
  | some c => bif Nat.ble args.length f.ntmps then some ⟨[.code c], (List.range args.length).zip args, σ⟩ else none
  | none => none

/-- A closed run. -/
def runQ (E : Env) (C : Cx) (call : FuncId → List D → Sto → Option (D × Sto)) : Nat → Qy → Option (D × Sto)
  | 0, _ => none
  | n + 1, q => match q with
    | .go m => runQ E C call n (look E C m)
    | .need b q => (match b with | true => runQ E C call n q | false => none)
    | .split b k => runQ E C call n (k b)
    | .row r k => (match r with | some x => runQ E C call n (k x) | none => none)
    | .str r k => (match r with | some x => runQ E C call n (k x) | none => none)
    | .call f args sub k => (match call f args sub with | some (d, s) => runQ E C call n (k d s) | none => none)
    | .callD f args k => (match call f args [] with | some (d, []) => runQ E C call n (k d) | _ => none)
    | .ret d σ => some (d, σ)
    | .bad => none

def runF (E : Env) (n : Nat) : Nat → FuncId → List D → Sto → Option (D × Sto)
  | 0, _, _, _ => none
  | k + 1, f, args, σ => match E.P.funcs[f]? with
    | some fn => (match start fn args σ with
      | some m => runQ E ⟨fn, (E.pol f).keep, σ.length⟩ (runF E n k) n (.go m)
      | none => none)
    | none => none
end Go.RX
