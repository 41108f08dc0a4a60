/-
  Words and walks for FenceWrites. No condition.
-/
import Derived.Test.YtflpengopdhhhaaDoorRows
import Derived.Test.YtflpengopdhhhaaDoorFenceWritesX3
set_option linter.unusedSectionVars false
set_option linter.unnecessarySimpa false
set_option linter.unusedSimpArgs false
set_option linter.unusedVariables false
set_option maxRecDepth 100000
namespace Go.RX.L
open Go Go.RX Go.Proofs
def gl_four : List Int := [0, 498536548, 997073096, 651767980, 1994146192, 1802195444, 1303535960, 1342533948, 3988292384, 4027552580, 3604390888, 3412177804, 2607071920, 2262029012, 2685067896, 3183342108]
noncomputable def E : Env := ⟨Tryd.prog, fun f => ⟨f == 9 || f == 10 || f == 11 || f == 12 || f == 15 || f == 16 || f == 17 || f == 19 || f == 20 || f == 26 || f == 29 || f == 31 || f == 32 || f == 33 || f == 34 || f == 36 || f == 37 || f == 43 || f == 44 || f == 52 || f == 53 || f == 61 || f == 62 || f == 73 || f == 75 || f == 77 || f == 78 || f == 79 || f == 84 || f == 93 || f == 94 || f == 96, f == 10 || f == 11 || f == 12 || f == 15 || f == 16 || f == 17 || f == 19 || f == 20 || f == 26 || f == 31 || f == 32 || f == 33 || f == 34 || f == 36 || f == 37 || f == 42 || f == 43 || f == 44 || f == 52 || f == 53 || f == 61 || f == 62 || f == 77 || f == 78 || f == 79 || f == 83 || f == 84 || f == 85 || f == 87 || f == 94 || f == 96 || f == 103, f == 102, f == 12 || f == 16 || f == 17 || f == 20 || f == 26 || f == 31 || f == 32 || f == 37⟩, fun g => bif g == 0 then .iptr 1 (List.map (eInt .u32) gl_four) 0 0 else .undef⟩
theorem hm : E.P.follows .mixedOrders = true := Tryd.checked.mixed
instance : Mix E := ⟨hm⟩
structure Config where
  F_ : Int
  Deciders : Int
  Targets : Int
  Routers : Int
  Observers : Int
  Tiers : List Int
  Every : Int
  Wait : Int
  Rise : Int
  Fall : Int
  Fresh : Int
  L_ : Int
  M_ : Int
  Dwell : Int
  D_ : Int
  W_ : Int
  B_ : Int
  Hit : Int
  Suppress : Int
  Reuse : Int
  Half : Int
  First : Int
  Step : Int
  StepTime : Int
  S_ : Int
  Cap : Int
  Span : Int
  Room : Int
  Tries : Int
  Retry : Int
def Config.enc (x : Config) : List D := [D.int .i64 x.F_, D.int .i64 x.Deciders, D.int .i64 x.Targets, D.int .i64 x.Routers, D.int .i64 x.Observers, D.sl false 1 (List.map (eInt .i64) x.Tiers), D.int .i64 x.Every, D.int .i64 x.Wait, D.int .i64 x.Rise, D.int .i64 x.Fall, D.int .i64 x.Fresh, D.int .i64 x.L_, D.int .i64 x.M_, D.int .i64 x.Dwell, D.int .i64 x.D_, D.int .i64 x.W_, D.int .i64 x.B_, D.int .i64 x.Hit, D.int .i64 x.Suppress, D.int .i64 x.Reuse, D.int .i64 x.Half, D.int .i64 x.First, D.int .i64 x.Step, D.int .i64 x.StepTime, D.int .i64 x.S_, D.int .i64 x.Cap, D.int .i64 x.Span, D.int .i64 x.Room, D.int .i64 x.Tries, D.int .i64 x.Retry]
def Config.encL (x : Config) (r : List D) : List D := D.int .i64 x.F_ :: D.int .i64 x.Deciders :: D.int .i64 x.Targets :: D.int .i64 x.Routers :: D.int .i64 x.Observers :: D.sl false 1 (List.map (eInt .i64) x.Tiers) :: D.int .i64 x.Every :: D.int .i64 x.Wait :: D.int .i64 x.Rise :: D.int .i64 x.Fall :: D.int .i64 x.Fresh :: D.int .i64 x.L_ :: D.int .i64 x.M_ :: D.int .i64 x.Dwell :: D.int .i64 x.D_ :: D.int .i64 x.W_ :: D.int .i64 x.B_ :: D.int .i64 x.Hit :: D.int .i64 x.Suppress :: D.int .i64 x.Reuse :: D.int .i64 x.Half :: D.int .i64 x.First :: D.int .i64 x.Step :: D.int .i64 x.StepTime :: D.int .i64 x.S_ :: D.int .i64 x.Cap :: D.int .i64 x.Span :: D.int .i64 x.Room :: D.int .i64 x.Tries :: D.int .i64 x.Retry :: r
def grD (n : Nat) (l : List (List D)) : D := .msl n 0 l.length l.length false
def Config.Ok (x : Config) : Prop := inK .i64 x.F_ ∧ inK .i64 x.Deciders ∧ inK .i64 x.Targets ∧ inK .i64 x.Routers ∧ inK .i64 x.Observers ∧ (x.Tiers.length * 8 ≤ reachBytes ∧ ∀ y ∈ x.Tiers, inK .i64 y) ∧ inK .i64 x.Every ∧ inK .i64 x.Wait ∧ inK .i64 x.Rise ∧ inK .i64 x.Fall ∧ inK .i64 x.Fresh ∧ inK .i64 x.L_ ∧ inK .i64 x.M_ ∧ inK .i64 x.Dwell ∧ inK .i64 x.D_ ∧ inK .i64 x.W_ ∧ inK .i64 x.B_ ∧ inK .i64 x.Hit ∧ inK .i64 x.Suppress ∧ inK .i64 x.Reuse ∧ inK .i64 x.Half ∧ inK .i64 x.First ∧ inK .i64 x.Step ∧ inK .i64 x.StepTime ∧ inK .i64 x.S_ ∧ inK .i64 x.Cap ∧ inK .i64 x.Span ∧ inK .i64 x.Room ∧ inK .i64 x.Tries ∧ inK .i64 x.Retry
structure Plan where
  Epoch : Int
  Target : Int
  Prev : Int
  Spill : Int
  Percent : Int
  Stamp : Int
  Since : Int
  Ramped : Int
  Up : Int
  Sup : Int
  Pen : List Int
  Changes : List Int
def Plan.enc (x : Plan) : List D := [D.int .i64 x.Epoch, D.int .i64 x.Target, D.int .i64 x.Prev, D.int .i64 x.Spill, D.int .i64 x.Percent, D.int .i64 x.Stamp, D.int .i64 x.Since, D.int .i64 x.Ramped, D.int .u64 x.Up, D.int .u64 x.Sup, D.sl false 1 (List.map (eInt .i64) x.Pen), D.sl false 1 (List.map (eInt .i64) x.Changes)]
def Plan.encL (x : Plan) (r : List D) : List D := D.int .i64 x.Epoch :: D.int .i64 x.Target :: D.int .i64 x.Prev :: D.int .i64 x.Spill :: D.int .i64 x.Percent :: D.int .i64 x.Stamp :: D.int .i64 x.Since :: D.int .i64 x.Ramped :: D.int .u64 x.Up :: D.int .u64 x.Sup :: D.sl false 1 (List.map (eInt .i64) x.Pen) :: D.sl false 1 (List.map (eInt .i64) x.Changes) :: r
def Plan.Ok (x : Plan) : Prop := inK .i64 x.Epoch ∧ inK .i64 x.Target ∧ inK .i64 x.Prev ∧ inK .i64 x.Spill ∧ inK .i64 x.Percent ∧ inK .i64 x.Stamp ∧ inK .i64 x.Since ∧ inK .i64 x.Ramped ∧ inK .u64 x.Up ∧ inK .u64 x.Sup ∧ (x.Pen.length * 8 ≤ reachBytes ∧ ∀ y ∈ x.Pen, inK .i64 y) ∧ (x.Changes.length * 8 ≤ reachBytes ∧ ∀ y ∈ x.Changes, inK .i64 y)
structure Hold where
  Epoch : Int
  Nonce : Int
  Grants : Int
  Until : Int
def Hold.enc (x : Hold) : List D := [D.int .i64 x.Epoch, D.int .i64 x.Nonce, D.int .u64 x.Grants, D.int .i64 x.Until]
def Hold.Ok (x : Hold) : Prop := inK .i64 x.Epoch ∧ inK .i64 x.Nonce ∧ inK .u64 x.Grants ∧ inK .i64 x.Until
structure Entry where
  ID : List Int
  Epoch : Int
  Payload : List Int
def Entry.enc (x : Entry) : List D := [D.sl false 1 (List.map (eInt .i64) x.ID), D.int .i64 x.Epoch, D.sl false 1 (List.map (eInt .u8) x.Payload)]
def Entry.Ok (x : Entry) : Prop := (x.ID.length * 8 ≤ reachBytes ∧ ∀ y ∈ x.ID, inK .i64 y) ∧ inK .i64 x.Epoch ∧ (x.Payload.length * 1 ≤ reachBytes ∧ ∀ y ∈ x.Payload, inK .u8 y)
structure Msg where
  Kind : Int
  From : Int
  To : Int
  Epoch : Int
  Ballot : Int
  Accepted : Int
  Nonce : Int
  Time : Int
  Up : Int
  Code : Int
  HasPlan : Bool
  Plan : Plan
  ID : List Int
  Session : List Int
  Payload : List Int
def Msg.enc (x : Msg) : List D := [D.int .i64 x.Kind, D.int .i64 x.From, D.int .i64 x.To, D.int .i64 x.Epoch, D.int .i64 x.Ballot, D.int .i64 x.Accepted, D.int .i64 x.Nonce, D.int .i64 x.Time, D.int .u64 x.Up, D.int .i64 x.Code, D.bool x.HasPlan, D.int .i64 x.Plan.Epoch, D.int .i64 x.Plan.Target, D.int .i64 x.Plan.Prev, D.int .i64 x.Plan.Spill, D.int .i64 x.Plan.Percent, D.int .i64 x.Plan.Stamp, D.int .i64 x.Plan.Since, D.int .i64 x.Plan.Ramped, D.int .u64 x.Plan.Up, D.int .u64 x.Plan.Sup, D.sl false 1 (List.map (eInt .i64) x.Plan.Pen), D.sl false 1 (List.map (eInt .i64) x.Plan.Changes), D.sl false 1 (List.map (eInt .i64) x.ID), D.sl false 1 (List.map (eInt .u8) x.Session), D.sl false 1 (List.map (eInt .u8) x.Payload)]
def Msg.Ok (x : Msg) : Prop := inK .i64 x.Kind ∧ inK .i64 x.From ∧ inK .i64 x.To ∧ inK .i64 x.Epoch ∧ inK .i64 x.Ballot ∧ inK .i64 x.Accepted ∧ inK .i64 x.Nonce ∧ inK .i64 x.Time ∧ inK .u64 x.Up ∧ inK .i64 x.Code ∧ True ∧ x.Plan.Ok ∧ (x.ID.length * 8 ≤ reachBytes ∧ ∀ y ∈ x.ID, inK .i64 y) ∧ (x.Session.length * 1 ≤ reachBytes ∧ ∀ y ∈ x.Session, inK .u8 y) ∧ (x.Payload.length * 1 ≤ reachBytes ∧ ∀ y ∈ x.Payload, inK .u8 y)
structure Journal where
  synced : List Int
  tail : List Int
  fuse : Int
  down : Bool
def Journal.enc (x : Journal) : List D := [D.sl false 1 (List.map (eInt .u8) x.synced), D.sl false 1 (List.map (eInt .u8) x.tail), D.int .i64 x.fuse, D.bool x.down]
def Journal.Ok (x : Journal) : Prop := (x.synced.length * 1 ≤ reachBytes ∧ ∀ y ∈ x.synced, inK .u8 y) ∧ (x.tail.length * 1 ≤ reachBytes ∧ ∀ y ∈ x.tail, inK .u8 y) ∧ inK .i64 x.fuse ∧ True
structure Op where
  What : Int
  M_ : Msg
  Now : Int
  N_ : Int
def Op.enc (x : Op) : List D := [D.int .i64 x.What, D.int .i64 x.M_.Kind, D.int .i64 x.M_.From, D.int .i64 x.M_.To, D.int .i64 x.M_.Epoch, D.int .i64 x.M_.Ballot, D.int .i64 x.M_.Accepted, D.int .i64 x.M_.Nonce, D.int .i64 x.M_.Time, D.int .u64 x.M_.Up, D.int .i64 x.M_.Code, D.bool x.M_.HasPlan, D.int .i64 x.M_.Plan.Epoch, D.int .i64 x.M_.Plan.Target, D.int .i64 x.M_.Plan.Prev, D.int .i64 x.M_.Plan.Spill, D.int .i64 x.M_.Plan.Percent, D.int .i64 x.M_.Plan.Stamp, D.int .i64 x.M_.Plan.Since, D.int .i64 x.M_.Plan.Ramped, D.int .u64 x.M_.Plan.Up, D.int .u64 x.M_.Plan.Sup, D.sl false 1 (List.map (eInt .i64) x.M_.Plan.Pen), D.sl false 1 (List.map (eInt .i64) x.M_.Plan.Changes), D.sl false 1 (List.map (eInt .i64) x.M_.ID), D.sl false 1 (List.map (eInt .u8) x.M_.Session), D.sl false 1 (List.map (eInt .u8) x.M_.Payload), D.int .i64 x.Now, D.int .i64 x.N_]
def Op.Ok (x : Op) : Prop := inK .i64 x.What ∧ x.M_.Ok ∧ inK .i64 x.Now ∧ inK .i64 x.N_
structure oneT where
  kind : Int
  body : List Int
def oneT.enc (x : oneT) : List D := [D.int .u8 x.kind, D.sl false 1 (List.map (eInt .u8) x.body)]
def oneT.Ok (x : oneT) : Prop := inK .u8 x.kind ∧ (x.body.length * 1 ≤ reachBytes ∧ ∀ y ∈ x.body, inK .u8 y)
structure placeT where
  at_ : Int
  e : Int
def placeT.enc (x : placeT) : List D := [D.int .i64 x.at_, D.int .i64 x.e]
def placeT.Ok (x : placeT) : Prop := inK .i64 x.at_ ∧ inK .i64 x.e
structure readerT where
  place : placeT
  b : List Int
def readerT.enc (x : readerT) : List D := [D.int .i64 x.place.at_, D.int .i64 x.place.e, D.sl false 1 (List.map (eInt .u8) x.b)]
def readerT.Ok (x : readerT) : Prop := x.place.Ok ∧ (x.b.length * 1 ≤ reachBytes ∧ ∀ y ∈ x.b, inK .u8 y)
end Go.RX.L

set_option maxHeartbeats 4000000
namespace Go.RX.L
open Go Go.RX Go.Proofs
attribute [local irreducible] FinQ
noncomputable def crc_Add_c := codeAt (bodyOf Tryd.f101)
noncomputable def crc_Add_e (y : Int) : D × Sto := (.int .u32 y, [])
inductive crc_Add_S where
 | s0 (sum : Int) (b : List Int)
 | s1 (r_ : Int) (t10 : List Int) (t11 t12 : Int)
noncomputable def crc_Add_M : crc_Add_S → M
 | .s0 sum b => startM Tryd.f101 [.int .u32 sum, .sl false 1 (List.map (eInt .u8) b)] []
 | .s1 r_ t10 t11 t12 => ⟨[.lpc (crc_Add_c [1, 1, 0, 1, 0, 0]) 7200, .blk 0, .code (crc_Add_c [1, 1, 1])], [(5, .int .u32 r_), (10, .sl false 1 (List.map (eInt .u8) t10)), (11, .int .i64 t11), (12, .int .i64 t12)], []⟩
abbrev crc_Add_W := SOk E (Cx.of Tryd.f101 false 0) crc_Add_e crc_Add_M
noncomputable def crc_Add_0 (sum : Int) (b : List Int) : Option (crc_Add_S ⊕ Int) := (some (.inl (.s1 (xorI .u32 4294967295 sum) b (((List.map (eInt .u8) b).length : Nat) : Int) 0)))
noncomputable def crc_Add_1 (r_ : Int) (t10 : List Int) (t11 t12 : Int) : Option (crc_Add_S ⊕ Int) := (bif (decide ((t12 : Int) < t11)) then (bif ((decide ((0 : Int) ≤ t12)) && (decide ((t12 : Int) < (((List.map (eInt .u8) t10).length : Nat) : Int)))) then (((t10)[t12.toNat]?).bind fun y3 => (bif ((decide ((0 : Int) ≤ (andI .u32 (xorI .u32 r_ (IntKind.u32.wrap (y3))) 15))) && (decide (((andI .u32 (xorI .u32 r_ (IntKind.u32.wrap (y3))) 15) : Int) < ((16 : Nat) : Int)))) then (((gl_four)[(0 + (andI .u32 (xorI .u32 r_ (IntKind.u32.wrap (y3))) 15).toNat)]?).bind fun y6 => (bif ((decide ((0 : Int) ≤ (andI .u32 (xorI .u32 (shrI .u32 (xorI .u32 r_ (IntKind.u32.wrap (y3))) 4) y6) 15))) && (decide (((andI .u32 (xorI .u32 (shrI .u32 (xorI .u32 r_ (IntKind.u32.wrap (y3))) 4) y6) 15) : Int) < ((16 : Nat) : Int)))) then (((gl_four)[(0 + (andI .u32 (xorI .u32 (shrI .u32 (xorI .u32 r_ (IntKind.u32.wrap (y3))) 4) y6) 15).toNat)]?).bind fun y9 => (some (.inl (.s1 (xorI .u32 (shrI .u32 (xorI .u32 (shrI .u32 (xorI .u32 r_ (IntKind.u32.wrap (y3))) 4) y6) 4) y9) t10 t11 (IntKind.i64.wrap (t12 + 1)))))) else none)) else none)) else none) else (some (.inr (xorI .u32 4294967295 r_))))
noncomputable def crc_Add_step : crc_Add_S → Option (crc_Add_S ⊕ Int)
 | .s0 sum b => crc_Add_0 sum b
 | .s1 r_ t10 t11 t12 => crc_Add_1 r_ t10 t11 t12
theorem crc_Add_0_ok {sum b} : crc_Add_W (.s0 sum b) (crc_Add_0 sum b) := by
 intro r x h ha; unfold crc_Add_0 at h
 exact zj 20 h ha
theorem crc_Add_1_ok {r_ t10 t11 t12} : crc_Add_W (.s1 r_ t10 t11 t12) (crc_Add_1 r_ t10 t11 t12) := by
 intro r x h ha; unfold crc_Add_1 at h
 refine zs 7 h (fun h => ?_) fun h => ?_
 ·
  refine zn 6 h fun h => ?_
  refine zr 1 (eInt .u8) h fun y3 h => ?_
  refine zn 18 h fun h => ?_
  refine zr 1 (eInt .u32) h fun y6 h => ?_
  refine zn 10 h fun h => ?_
  refine zr 1 (eInt .u32) h fun y9 h => ?_
  exact zj 9 h ha
 exact zt 8 h ha
noncomputable def crc_Add (sum : Int) (b : List Int) : Option Int := evf crc_Add_step (.s0 sum b)
theorem crc_Add_ok {sum : Int} {b : List Int} {r : Int} (h : crc_Add sum b = some r) : Sound E 101 [.int .u32 sum, .sl false 1 (List.map (eInt .u8) b)] [] (Rs crc_Add_e r) := sc (fn := Tryd.f101) (k := false) (m := 0) (stM := crc_Add_M) h fun s => by
 cases s with
 | s0 => exact crc_Add_0_ok
 | s1 => exact crc_Add_1_ok
end Go.RX.L

namespace Go.RX.L
open Go Go.RX Go.Proofs
attribute [local irreducible] FinQ
noncomputable def crc_Sum_e (y : Int) : D × Sto := (.int .u32 y, [])
noncomputable def crc_Sum (b : List Int) : Option Int := ((crc_Add 0 b).bind fun y1 => (some y1))
theorem crc_Sum_ok {b : List Int} {r : Int} (h : crc_Sum b = some r) : Sound E 95 [.sl false 1 (List.map (eInt .u8) b)] [] (Rs crc_Sum_e r) := so (fn := Tryd.f95) (k := false) (m := 0) h <| by
 intro r h; unfold crc_Sum at h
 refine zc 8 [] h (fun _ => crc_Add_ok) fun y1 h => ?_
 exact zu 3 h
end Go.RX.L

namespace Go.RX.L
open Go Go.RX Go.Proofs
attribute [local irreducible] FinQ
noncomputable def frame_Put_c := codeAt (bodyOf Tryd.f76)
noncomputable def frame_Put_e (y : (List Int) × Int) : D × Sto := (.tup [.sl false 1 (List.map (eInt .u8) y.1), .int .i64 y.2], [])
inductive frame_Put_S where
 | s0 (kind : Int) (body : List Int)
 | s1 (sum shift : Int) (b : List Int)
noncomputable def frame_Put_M : frame_Put_S → M
 | .s0 kind body => startM Tryd.f76 [.int .u8 kind, .sl false 1 (List.map (eInt .u8) body)] []
 | .s1 sum shift b => ⟨[.lpc (frame_Put_c [1, 1, 1, 1, 1, 0, 1, 0, 0]) 896, .blk 0, .code (frame_Put_c [1, 1, 1, 1, 1, 1])], [(7, (grD 0 (List.map (eInt .u8) b))), (8, .int .u32 sum), (9, .int .i64 shift)], [some ⟨1, false, (List.map (eInt .u8) b)⟩]⟩
abbrev frame_Put_W := SOk E (Cx.of Tryd.f76 false 0) frame_Put_e frame_Put_M
noncomputable def frame_Put_0 (kind : Int) (body : List Int) : Option (frame_Put_S ⊕ ((List Int) × Int)) := (bif (decide (((((List.map (eInt .u8) body).length : Nat) : Int) : Int) > 8192)) then (some (.inr ([], 2))) else (bif (decide ((4 + (List.map (eInt .u8) body).length) * 1 ≤ bytesLim)) then (bif (decide ((1 : Int) ≤ (((List.map (eInt .u8) ([247, kind, (IntKind.u8.wrap ((shrI .i64 (((List.map (eInt .u8) body).length : Nat) : Int) 8))), (IntKind.u8.wrap ((((List.map (eInt .u8) body).length : Nat) : Int)))] ++ body)).length : Nat) : Int))) then (bif (Nat.ble (1 + ((List.map (eInt .u8) ([247, kind, (IntKind.u8.wrap ((shrI .i64 (((List.map (eInt .u8) body).length : Nat) : Int) 8))), (IntKind.u8.wrap ((((List.map (eInt .u8) body).length : Nat) : Int)))] ++ body)).length - 1)) ((List.map (eInt .u8) ([247, kind, (IntKind.u8.wrap ((shrI .i64 (((List.map (eInt .u8) body).length : Nat) : Int) 8))), (IntKind.u8.wrap ((((List.map (eInt .u8) body).length : Nat) : Int)))] ++ body)).length)) then ((crc_Sum (List.take ((List.map (eInt .u8) ([247, kind, (IntKind.u8.wrap ((shrI .i64 (((List.map (eInt .u8) body).length : Nat) : Int) 8))), (IntKind.u8.wrap ((((List.map (eInt .u8) body).length : Nat) : Int)))] ++ body)).length - 1) (List.drop 1 ([247, kind, (IntKind.u8.wrap ((shrI .i64 (((List.map (eInt .u8) body).length : Nat) : Int) 8))), (IntKind.u8.wrap ((((List.map (eInt .u8) body).length : Nat) : Int)))] ++ body)))).bind fun y5 => (some (.inl (.s1 y5 24 ([247, kind, (IntKind.u8.wrap ((shrI .i64 (((List.map (eInt .u8) body).length : Nat) : Int) 8))), (IntKind.u8.wrap ((((List.map (eInt .u8) body).length : Nat) : Int)))] ++ body))))) else none) else none) else none))
noncomputable def frame_Put_1 (sum shift : Int) (b : List Int) : Option (frame_Put_S ⊕ ((List Int) × Int)) := (bif (decide ((shift : Int) ≥ 0)) then (bif (!decide ((shift : Int) < 0)) then (bif (decide (((List.map (eInt .u8) b).length + 1) * 1 ≤ bytesLim)) then (some (.inl (.s1 sum (IntKind.i64.wrap (shift - 8)) (b ++ [(IntKind.u8.wrap ((shrI .u32 sum shift)))])))) else none) else none) else (some (.inr (b, 0))))
noncomputable def frame_Put_step : frame_Put_S → Option (frame_Put_S ⊕ ((List Int) × Int))
 | .s0 kind body => frame_Put_0 kind body
 | .s1 sum shift b => frame_Put_1 sum shift b
theorem frame_Put_0_ok {kind body} : frame_Put_W (.s0 kind body) (frame_Put_0 kind body) := by
 intro r x h ha; unfold frame_Put_0 at h
 refine zs 18 h (fun h => ?_) fun h => ?_
 ·
  exact zt 6 h ha [.slot 0 [some 1]]
 refine zn 13 h fun h => ?_
 refine zw 1 (a := ((List.map (eInt .u8) ([247, kind, (IntKind.u8.wrap ((shrI .i64 (((List.map (eInt .u8) body).length : Nat) : Int) 8))), (IntKind.u8.wrap ((((List.map (eInt .u8) body).length : Nat) : Int)))])) ++ (List.map (eInt .u8) body))) (b := (List.map (eInt .u8) ([247, kind, (IntKind.u8.wrap ((shrI .i64 (((List.map (eInt .u8) body).length : Nat) : Int) 8))), (IntKind.u8.wrap ((((List.map (eInt .u8) body).length : Nat) : Int)))] ++ body))) (by simp only [take_full, take_full', List.map_append, List.map_take, List.map_drop]) ?_
 refine zn 6 h fun h => ?_
 refine zn 1 h fun h => ?_
 refine zcE 0 [] (args1 := [.sl false 1 (List.take ((List.map (eInt .u8) ([247, kind, (IntKind.u8.wrap ((shrI .i64 (((List.map (eInt .u8) body).length : Nat) : Int) 8))), (IntKind.u8.wrap ((((List.map (eInt .u8) body).length : Nat) : Int)))] ++ body)).length - 1) (List.drop 1 (List.map (eInt .u8) ([247, kind, (IntKind.u8.wrap ((shrI .i64 (((List.map (eInt .u8) body).length : Nat) : Int) 8))), (IntKind.u8.wrap ((((List.map (eInt .u8) body).length : Nat) : Int)))] ++ body))))]) h (fun _ => crc_Sum_ok) ⟨by simp [List.take_of_length_le, List.map_take, List.map_drop], rfl⟩ fun y5 h => ?_
 exact zj 10 h ha
theorem frame_Put_1_ok {sum shift b} : frame_Put_W (.s1 sum shift b) (frame_Put_1 sum shift b) := by
 intro r x h ha; unfold frame_Put_1 at h
 refine zs 8 h (fun h => ?_) fun h => ?_
 ·
  refine zn 8 h fun h => ?_
  refine zn 4 h fun h => ?_
  refine za 0 (eInt .u8) b ([(IntKind.u8.wrap ((shrI .u32 sum shift)))]) ?_
  exact zj 9 h ha
 refine zm 8 (b := (Nat.ble (0 + (List.map (eInt .u8) b).length) ((List.map (eInt .u8) b).length))) (ble_full _) ?_
 obtain rfl := Option.some.inj h
 have hv := ha
 simp only [After] at hv
 subst hv
 exact r_retE [] (d1 := .tup [.sl false 1 (List.take ((List.map (eInt .u8) b).length) (List.drop 0 (List.map (eInt .u8) b))), .int .i64 0]) (d := .tup [.sl false 1 (List.map (eInt .u8) b), .int .i64 0]) (s1 := []) (s := []) (by kernel_rfl) ⟨by simp [List.take_of_length_le, List.map_take, List.map_drop], rfl⟩ ⟨rfl, rfl⟩ Cx.fin_of
noncomputable def frame_Put (kind : Int) (body : List Int) : Option ((List Int) × Int) := evf frame_Put_step (.s0 kind body)
theorem frame_Put_ok {kind : Int} {body : List Int} {r : (List Int) × Int} (h : frame_Put kind body = some r) : Sound E 76 [.int .u8 kind, .sl false 1 (List.map (eInt .u8) body)] [] (Rs frame_Put_e r) := sc (fn := Tryd.f76) (k := false) (m := 0) (stM := frame_Put_M) h fun s => by
 cases s with
 | s0 => exact frame_Put_0_ok
 | s1 => exact frame_Put_1_ok
end Go.RX.L

namespace Go.RX.L
open Go Go.RX Go.Proofs
attribute [local irreducible] FinQ
end Go.RX.L

namespace Go.RX.L
open Go Go.RX Go.Proofs
attribute [local irreducible] FinQ
end Go.RX.L

namespace Go.RX.L
open Go Go.RX Go.Proofs
attribute [local irreducible] FinQ
end Go.RX.L

namespace Go.RX.L
open Go Go.RX Go.Proofs
attribute [local irreducible] FinQ
noncomputable def frame_number_c := codeAt (bodyOf Tryd.f107)
noncomputable def frame_number_e (y : Int) : D × Sto := (.int .i64 y, [])
inductive frame_number_S where
 | s0 (b : List Int)
 | s1 (n : Int) (t6 : List Int) (t7 t8 : Int)
noncomputable def frame_number_M : frame_number_S → M
 | .s0 b => startM Tryd.f107 [.sl false 1 (List.map (eInt .u8) b)] []
 | .s1 n t6 t7 t8 => ⟨[.lpc (frame_number_c [1, 1, 0, 1, 0, 0]) 456, .blk 0, .code (frame_number_c [1, 1, 1])], [(3, .int .i64 n), (6, .sl false 1 (List.map (eInt .u8) t6)), (7, .int .i64 t7), (8, .int .i64 t8)], []⟩
abbrev frame_number_W := SOk E (Cx.of Tryd.f107 false 0) frame_number_e frame_number_M
end Go.RX.L

namespace Go.RX.L
open Go Go.RX Go.Proofs
attribute [local irreducible] FinQ
noncomputable def frame_Get_e (b0 : List Int) (y : Int × (List Int) × Int × Int) : D × Sto := (.tup [.int .u8 y.1, .sl false 1 (List.map (eInt .u8) y.2.1), .int .i64 y.2.2.1, .int .i64 y.2.2.2], [some ⟨1, false, (List.map (eInt .u8) b0)⟩])
abbrev frame_Get_W (at_ : Int) (b0 : List Int) := AOk E (Cx.of Tryd.f103 false 1) (frame_Get_e b0)
end Go.RX.L

namespace Go.RX.L
open Go Go.RX Go.Proofs
attribute [local irreducible] FinQ
inductive frame_each_1_S where
  | s0 (b1 : List Int)
  | s1 (at_ : Int) (b12 : List Int)
end Go.RX.L
