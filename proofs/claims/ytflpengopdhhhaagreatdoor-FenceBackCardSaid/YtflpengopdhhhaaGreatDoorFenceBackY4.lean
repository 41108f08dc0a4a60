/-
  Words and walks for FenceBack. No condition.
-/
import Derived.Test.YtflpengopdhhhaaGreatDoorRows
import Derived.Test.YtflpengopdhhhaaGreatDoorFenceBackX3
set_option linter.unusedSectionVars false
set_option linter.unnecessarySimpa false
set_option linter.unusedSimpArgs false
set_option linter.unusedVariables false
set_option maxRecDepth 100000
namespace Go.RX.L
open Go Go.RX Go.Proofs
def gl_four : List Int := [0, 498536548, 997073096, 651767980, 1994146192, 1802195444, 1303535960, 1342533948, 3988292384, 4027552580, 3604390888, 3412177804, 2607071920, 2262029012, 2685067896, 3183342108]
noncomputable def E : Env := ⟨Tryz.prog, fun f => ⟨f == 5 || f == 7 || f == 8 || f == 10 || f == 11 || f == 12 || f == 13 || f == 14 || f == 17 || f == 18 || f == 20 || f == 23 || f == 26 || f == 28 || f == 29 || f == 31 || f == 38 || f == 39 || f == 40 || f == 42 || f == 46 || f == 47 || f == 55 || f == 56 || f == 64 || f == 69 || f == 77 || f == 79 || f == 81 || f == 82 || f == 95 || f == 96, f == 7 || f == 8 || f == 10 || f == 11 || f == 12 || f == 13 || f == 14 || f == 17 || f == 18 || f == 20 || f == 24 || f == 26 || f == 28 || f == 29 || f == 31 || f == 38 || f == 39 || f == 40 || f == 42 || f == 45 || f == 46 || f == 47 || f == 48 || f == 50 || f == 55 || f == 56 || f == 64 || f == 69 || f == 81 || f == 82 || f == 89 || f == 96, f == 88, f == 8 || f == 10 || f == 11 || f == 12 || f == 17 || f == 28 || f == 38 || f == 39⟩, fun g => bif g == 0 then .iptr 1 (List.map (eInt .u32) gl_four) 0 0 else .undef⟩
theorem hm : E.P.follows .mixedOrders = true := Tryz.checked.mixed
instance : Mix E := ⟨hm⟩
structure Config where
  F_ : Int
  Deciders : Int
  Targets : Int
  Routers : Int
  Observers : Int
  Tiers : List Int
  Every : Int
  Wait : Int
  Rise : Int
  Fall : Int
  Fresh : Int
  L_ : Int
  M_ : Int
  Dwell : Int
  D_ : Int
  W_ : Int
  B_ : Int
  Hit : Int
  Suppress : Int
  Reuse : Int
  Half : Int
  First : Int
  Step : Int
  StepTime : Int
  S_ : Int
  Cap : Int
  Span : Int
  Room : Int
  Tries : Int
  Retry : Int
def Config.enc (x : Config) : List D := [D.int .i64 x.F_, D.int .i64 x.Deciders, D.int .i64 x.Targets, D.int .i64 x.Routers, D.int .i64 x.Observers, D.sl false 1 (List.map (eInt .i64) x.Tiers), D.int .i64 x.Every, D.int .i64 x.Wait, D.int .i64 x.Rise, D.int .i64 x.Fall, D.int .i64 x.Fresh, D.int .i64 x.L_, D.int .i64 x.M_, D.int .i64 x.Dwell, D.int .i64 x.D_, D.int .i64 x.W_, D.int .i64 x.B_, D.int .i64 x.Hit, D.int .i64 x.Suppress, D.int .i64 x.Reuse, D.int .i64 x.Half, D.int .i64 x.First, D.int .i64 x.Step, D.int .i64 x.StepTime, D.int .i64 x.S_, D.int .i64 x.Cap, D.int .i64 x.Span, D.int .i64 x.Room, D.int .i64 x.Tries, D.int .i64 x.Retry]
def Config.encL (x : Config) (r : List D) : List D := D.int .i64 x.F_ :: D.int .i64 x.Deciders :: D.int .i64 x.Targets :: D.int .i64 x.Routers :: D.int .i64 x.Observers :: D.sl false 1 (List.map (eInt .i64) x.Tiers) :: D.int .i64 x.Every :: D.int .i64 x.Wait :: D.int .i64 x.Rise :: D.int .i64 x.Fall :: D.int .i64 x.Fresh :: D.int .i64 x.L_ :: D.int .i64 x.M_ :: D.int .i64 x.Dwell :: D.int .i64 x.D_ :: D.int .i64 x.W_ :: D.int .i64 x.B_ :: D.int .i64 x.Hit :: D.int .i64 x.Suppress :: D.int .i64 x.Reuse :: D.int .i64 x.Half :: D.int .i64 x.First :: D.int .i64 x.Step :: D.int .i64 x.StepTime :: D.int .i64 x.S_ :: D.int .i64 x.Cap :: D.int .i64 x.Span :: D.int .i64 x.Room :: D.int .i64 x.Tries :: D.int .i64 x.Retry :: r
def grD (n : Nat) (l : List (List D)) : D := .msl n 0 l.length l.length false
def Config.Ok (x : Config) : Prop := inK .i64 x.F_ ∧ inK .i64 x.Deciders ∧ inK .i64 x.Targets ∧ inK .i64 x.Routers ∧ inK .i64 x.Observers ∧ (x.Tiers.length * 8 ≤ reachBytes ∧ ∀ y ∈ x.Tiers, inK .i64 y) ∧ inK .i64 x.Every ∧ inK .i64 x.Wait ∧ inK .i64 x.Rise ∧ inK .i64 x.Fall ∧ inK .i64 x.Fresh ∧ inK .i64 x.L_ ∧ inK .i64 x.M_ ∧ inK .i64 x.Dwell ∧ inK .i64 x.D_ ∧ inK .i64 x.W_ ∧ inK .i64 x.B_ ∧ inK .i64 x.Hit ∧ inK .i64 x.Suppress ∧ inK .i64 x.Reuse ∧ inK .i64 x.Half ∧ inK .i64 x.First ∧ inK .i64 x.Step ∧ inK .i64 x.StepTime ∧ inK .i64 x.S_ ∧ inK .i64 x.Cap ∧ inK .i64 x.Span ∧ inK .i64 x.Room ∧ inK .i64 x.Tries ∧ inK .i64 x.Retry
structure Plan where
  Epoch : Int
  Target : Int
  Prev : Int
  Spill : Int
  Percent : Int
  Stamp : Int
  Since : Int
  Ramped : Int
  Up : Int
  Sup : Int
  Pen : List Int
  Changes : List Int
def Plan.enc (x : Plan) : List D := [D.int .i64 x.Epoch, D.int .i64 x.Target, D.int .i64 x.Prev, D.int .i64 x.Spill, D.int .i64 x.Percent, D.int .i64 x.Stamp, D.int .i64 x.Since, D.int .i64 x.Ramped, D.int .u64 x.Up, D.int .u64 x.Sup, D.sl false 1 (List.map (eInt .i64) x.Pen), D.sl false 1 (List.map (eInt .i64) x.Changes)]
def Plan.encL (x : Plan) (r : List D) : List D := D.int .i64 x.Epoch :: D.int .i64 x.Target :: D.int .i64 x.Prev :: D.int .i64 x.Spill :: D.int .i64 x.Percent :: D.int .i64 x.Stamp :: D.int .i64 x.Since :: D.int .i64 x.Ramped :: D.int .u64 x.Up :: D.int .u64 x.Sup :: D.sl false 1 (List.map (eInt .i64) x.Pen) :: D.sl false 1 (List.map (eInt .i64) x.Changes) :: r
def Plan.Ok (x : Plan) : Prop := inK .i64 x.Epoch ∧ inK .i64 x.Target ∧ inK .i64 x.Prev ∧ inK .i64 x.Spill ∧ inK .i64 x.Percent ∧ inK .i64 x.Stamp ∧ inK .i64 x.Since ∧ inK .i64 x.Ramped ∧ inK .u64 x.Up ∧ inK .u64 x.Sup ∧ (x.Pen.length * 8 ≤ reachBytes ∧ ∀ y ∈ x.Pen, inK .i64 y) ∧ (x.Changes.length * 8 ≤ reachBytes ∧ ∀ y ∈ x.Changes, inK .i64 y)
structure Msg where
  Kind : Int
  From : Int
  To : Int
  Epoch : Int
  Ballot : Int
  Accepted : Int
  Nonce : Int
  Time : Int
  Up : Int
  Code : Int
  HasPlan : Bool
  Plan : Plan
  ID : List Int
  Session : List Int
  Payload : List Int
def Msg.enc (x : Msg) : List D := [D.int .i64 x.Kind, D.int .i64 x.From, D.int .i64 x.To, D.int .i64 x.Epoch, D.int .i64 x.Ballot, D.int .i64 x.Accepted, D.int .i64 x.Nonce, D.int .i64 x.Time, D.int .u64 x.Up, D.int .i64 x.Code, D.bool x.HasPlan, D.int .i64 x.Plan.Epoch, D.int .i64 x.Plan.Target, D.int .i64 x.Plan.Prev, D.int .i64 x.Plan.Spill, D.int .i64 x.Plan.Percent, D.int .i64 x.Plan.Stamp, D.int .i64 x.Plan.Since, D.int .i64 x.Plan.Ramped, D.int .u64 x.Plan.Up, D.int .u64 x.Plan.Sup, D.sl false 1 (List.map (eInt .i64) x.Plan.Pen), D.sl false 1 (List.map (eInt .i64) x.Plan.Changes), D.sl false 1 (List.map (eInt .i64) x.ID), D.sl false 1 (List.map (eInt .u8) x.Session), D.sl false 1 (List.map (eInt .u8) x.Payload)]
def Msg.Ok (x : Msg) : Prop := inK .i64 x.Kind ∧ inK .i64 x.From ∧ inK .i64 x.To ∧ inK .i64 x.Epoch ∧ inK .i64 x.Ballot ∧ inK .i64 x.Accepted ∧ inK .i64 x.Nonce ∧ inK .i64 x.Time ∧ inK .u64 x.Up ∧ inK .i64 x.Code ∧ True ∧ x.Plan.Ok ∧ (x.ID.length * 8 ≤ reachBytes ∧ ∀ y ∈ x.ID, inK .i64 y) ∧ (x.Session.length * 1 ≤ reachBytes ∧ ∀ y ∈ x.Session, inK .u8 y) ∧ (x.Payload.length * 1 ≤ reachBytes ∧ ∀ y ∈ x.Payload, inK .u8 y)
structure Op where
  What : Int
  M_ : Msg
  Now : Int
  N_ : Int
def Op.enc (x : Op) : List D := [D.int .i64 x.What, D.int .i64 x.M_.Kind, D.int .i64 x.M_.From, D.int .i64 x.M_.To, D.int .i64 x.M_.Epoch, D.int .i64 x.M_.Ballot, D.int .i64 x.M_.Accepted, D.int .i64 x.M_.Nonce, D.int .i64 x.M_.Time, D.int .u64 x.M_.Up, D.int .i64 x.M_.Code, D.bool x.M_.HasPlan, D.int .i64 x.M_.Plan.Epoch, D.int .i64 x.M_.Plan.Target, D.int .i64 x.M_.Plan.Prev, D.int .i64 x.M_.Plan.Spill, D.int .i64 x.M_.Plan.Percent, D.int .i64 x.M_.Plan.Stamp, D.int .i64 x.M_.Plan.Since, D.int .i64 x.M_.Plan.Ramped, D.int .u64 x.M_.Plan.Up, D.int .u64 x.M_.Plan.Sup, D.sl false 1 (List.map (eInt .i64) x.M_.Plan.Pen), D.sl false 1 (List.map (eInt .i64) x.M_.Plan.Changes), D.sl false 1 (List.map (eInt .i64) x.M_.ID), D.sl false 1 (List.map (eInt .u8) x.M_.Session), D.sl false 1 (List.map (eInt .u8) x.M_.Payload), D.int .i64 x.Now, D.int .i64 x.N_]
def Op.Ok (x : Op) : Prop := inK .i64 x.What ∧ x.M_.Ok ∧ inK .i64 x.Now ∧ inK .i64 x.N_
structure Hold where
  Epoch : Int
  Nonce : Int
  Grants : Int
  Until : Int
def Hold.enc (x : Hold) : List D := [D.int .i64 x.Epoch, D.int .i64 x.Nonce, D.int .u64 x.Grants, D.int .i64 x.Until]
def Hold.Ok (x : Hold) : Prop := inK .i64 x.Epoch ∧ inK .i64 x.Nonce ∧ inK .u64 x.Grants ∧ inK .i64 x.Until
structure Entry where
  ID : List Int
  Epoch : Int
  Payload : List Int
def Entry.enc (x : Entry) : List D := [D.sl false 1 (List.map (eInt .i64) x.ID), D.int .i64 x.Epoch, D.sl false 1 (List.map (eInt .u8) x.Payload)]
def Entry.Ok (x : Entry) : Prop := (x.ID.length * 8 ≤ reachBytes ∧ ∀ y ∈ x.ID, inK .i64 y) ∧ inK .i64 x.Epoch ∧ (x.Payload.length * 1 ≤ reachBytes ∧ ∀ y ∈ x.Payload, inK .u8 y)
structure Journal where
  synced : List Int
  tail : List Int
  fuse : Int
  down : Bool
def Journal.enc (x : Journal) : List D := [D.sl false 1 (List.map (eInt .u8) x.synced), D.sl false 1 (List.map (eInt .u8) x.tail), D.int .i64 x.fuse, D.bool x.down]
def Journal.Ok (x : Journal) : Prop := (x.synced.length * 1 ≤ reachBytes ∧ ∀ y ∈ x.synced, inK .u8 y) ∧ (x.tail.length * 1 ≤ reachBytes ∧ ∀ y ∈ x.tail, inK .u8 y) ∧ inK .i64 x.fuse ∧ True
structure oneT where
  kind : Int
  body : List Int
def oneT.enc (x : oneT) : List D := [D.int .u8 x.kind, D.sl false 1 (List.map (eInt .u8) x.body)]
def oneT.Ok (x : oneT) : Prop := inK .u8 x.kind ∧ (x.body.length * 1 ≤ reachBytes ∧ ∀ y ∈ x.body, inK .u8 y)
structure placeT where
  at_ : Int
  e : Int
def placeT.enc (x : placeT) : List D := [D.int .i64 x.at_, D.int .i64 x.e]
def placeT.Ok (x : placeT) : Prop := inK .i64 x.at_ ∧ inK .i64 x.e
structure readerT where
  place : placeT
  b : List Int
def readerT.enc (x : readerT) : List D := [D.int .i64 x.place.at_, D.int .i64 x.place.e, D.sl false 1 (List.map (eInt .u8) x.b)]
def readerT.Ok (x : readerT) : Prop := x.place.Ok ∧ (x.b.length * 1 ≤ reachBytes ∧ ∀ y ∈ x.b, inK .u8 y)
end Go.RX.L

set_option maxHeartbeats 4000000
namespace Go.RX.L
open Go Go.RX Go.Proofs
attribute [local irreducible] FinQ
noncomputable def Journal_Crash_e (b2 : List Int) (y : Int × Bool × (List Int) × (List Int)) : D × Sto := (.tup [], [some ⟨4, true, [[(grD 3 (List.map (eInt .u8) y.2.2.1)), (grD 4 (List.map (eInt .u8) y.2.2.2)), .int .i64 y.1, .bool y.2.1]]⟩, none, some ⟨1, false, (List.map (eInt .u8) b2)⟩, some ⟨1, false, (List.map (eInt .u8) y.2.2.1)⟩, some ⟨1, false, (List.map (eInt .u8) y.2.2.2)⟩])
noncomputable def Journal_Crash (keep fuse : Int) (down : Bool) (b1 b2 : List Int) : Option (Int × Bool × (List Int) × (List Int)) := (bif ((decide (((0 : Nat) : Int) ≤ (mnI (mxI keep 0) (((List.map (eInt .u8) b2).length : Nat) : Int)))) && (decide (((mnI (mxI keep 0) (((List.map (eInt .u8) b2).length : Nat) : Int)) : Int) ≤ (((List.map (eInt .u8) b2).length : Nat) : Int)))) then (bif (Nat.beq ((List.take ((mnI (mxI keep 0) (((List.map (eInt .u8) b2).length : Nat) : Int)).toNat) (List.drop 0 (List.map (eInt .u8) b2))).length) ((mnI (mxI keep 0) (((List.map (eInt .u8) b2).length : Nat) : Int)).toNat)) then (bif (decide (((List.map (eInt .u8) b1).length + (List.take ((mnI (mxI keep 0) (((List.map (eInt .u8) b2).length : Nat) : Int)).toNat) (List.drop 0 (List.map (eInt .u8) b2))).length) * 1 ≤ bytesLim)) then (some ((-1), true, (b1 ++ (List.take ((mnI (mxI keep 0) (((List.map (eInt .u8) b2).length : Nat) : Int)).toNat) (List.drop 0 b2))), [])) else none) else none) else none)
theorem Journal_Crash_ok {keep fuse : Int} {down : Bool} {b1 b2 : List Int} {r : Int × Bool × (List Int) × (List Int)} (h : Journal_Crash keep fuse down b1 b2 = some r) : Sound E 13 [.ptr 0 0 0, .int .i64 keep] [some ⟨4, true, [[(grD 1 (List.map (eInt .u8) b1)), (grD 2 (List.map (eInt .u8) b2)), .int .i64 fuse, .bool down]]⟩, some ⟨1, false, (List.map (eInt .u8) b1)⟩, some ⟨1, false, (List.map (eInt .u8) b2)⟩] (Rs (Journal_Crash_e b2) r) := so (fn := Tryz.f13) (k := true) (m := 3) h <| by
 intro r h; unfold Journal_Crash at h
 refine zn 17 h fun h => ?_
 refine zn 0 h fun h => ?_
 refine zn 0 h fun h => ?_
 refine zm 0 (b := (Nat.ble (0 + (List.map (eInt .u8) b1).length) ((List.map (eInt .u8) b1).length))) (ble_full _) ?_
 refine zw 0 (a := (List.take ((List.map (eInt .u8) b1).length) (List.drop 0 (List.map (eInt .u8) b1)) ++ (List.take ((mnI (mxI keep 0) (((List.map (eInt .u8) b2).length : Nat) : Int)).toNat) (List.drop 0 (List.map (eInt .u8) b2))))) (b := (List.map (eInt .u8) (b1 ++ (List.take ((mnI (mxI keep 0) (((List.map (eInt .u8) b2).length : Nat) : Int)).toNat) (List.drop 0 b2))))) (by simp only [take_full, take_full', List.map_append, List.map_take, List.map_drop]) ?_
 refine zf 22 [.matc 0 0 1 1] ?_
 exact zu 1 h
end Go.RX.L

namespace Go.RX.L
open Go Go.RX Go.Proofs
attribute [local irreducible] FinQ
noncomputable def Journal_Fuse_e (down : Bool) (b1 b2 : List Int) (y : Int) : D × Sto := (.tup [], [some ⟨4, true, [[(grD 1 (List.map (eInt .u8) b1)), (grD 2 (List.map (eInt .u8) b2)), .int .i64 y, .bool down]]⟩, some ⟨1, false, (List.map (eInt .u8) b1)⟩, some ⟨1, false, (List.map (eInt .u8) b2)⟩])
noncomputable def Journal_Fuse (n fuse : Int) (down : Bool) (b1 b2 : List Int) : Option Int := (some (mxI n (-1)))
theorem Journal_Fuse_ok {n fuse : Int} {down : Bool} {b1 b2 : List Int} {r : Int} (h : Journal_Fuse n fuse down b1 b2 = some r) : Sound E 24 [.ptr 0 0 0, .int .i64 n] [some ⟨4, true, [[(grD 1 (List.map (eInt .u8) b1)), (grD 2 (List.map (eInt .u8) b2)), .int .i64 fuse, .bool down]]⟩, some ⟨1, false, (List.map (eInt .u8) b1)⟩, some ⟨1, false, (List.map (eInt .u8) b2)⟩] (Rs (Journal_Fuse_e down b1 b2) r) := so (fn := Tryz.f24) (k := false) (m := 3) h <| by
 intro r h; unfold Journal_Fuse at h
 exact zu 11 h
end Go.RX.L

namespace Go.RX.L
open Go Go.RX Go.Proofs
attribute [local irreducible] FinQ
noncomputable def law18_time_e (y : Int) : D × Sto := (.int .i64 y, [])
noncomputable def law18_time (now : Int) : Option Int := (some (mxI 0 (mnI now 1099511627776)))
theorem law18_time_ok {now r : Int} (h : law18_time now = some r) : Sound E 25 [.int .i64 now] [] (Rs law18_time_e r) := so (fn := Tryz.f25) (k := false) (m := 0) h <| by
 intro r h; unfold law18_time at h
 exact zu 12 h
end Go.RX.L

namespace Go.RX.L
open Go Go.RX Go.Proofs
attribute [local irreducible] FinQ
noncomputable def Target_Flip_e (well : Bool) (fence : Int) (known : Plan) (hold : Hold) (begun filled : Int) (c : Config) (index : Int) (b1 : List Entry) (b2 : List (List Int)) (fuse : Int) (down : Bool) (b4 b5 : List Int) (y : Unit) : D × Sto := (.tup [], [some ⟨54, true, [([.int .i64 fence] ++ Plan.encL known ([.int .i64 hold.Epoch, .int .i64 hold.Nonce, .int .u64 hold.Grants, .int .i64 hold.Until, (grD 1 (List.map Entry.enc b1)), (grD 2 (List.map (eSl 1 (eInt .i64)) b2)), .int .i64 begun, .int .i64 filled] ++ Config.encL c [.int .i64 index, .ptr 3 0 0, .bool well]))]⟩, some ⟨3, false, (List.map Entry.enc b1)⟩, some ⟨1, false, (List.map (eSl 1 (eInt .i64)) b2)⟩, some ⟨4, true, [[(grD 4 (List.map (eInt .u8) b4)), (grD 5 (List.map (eInt .u8) b5)), .int .i64 fuse, .bool down]]⟩, some ⟨1, false, (List.map (eInt .u8) b4)⟩, some ⟨1, false, (List.map (eInt .u8) b5)⟩])
noncomputable def Target_Flip (well : Bool) (fence : Int) (known : Plan) (hold : Hold) (begun filled : Int) (c : Config) (index : Int) (well2 : Bool) (b1 : List Entry) (b2 : List (List Int)) (fuse : Int) (down : Bool) (b4 b5 : List Int) : Option Unit := (some ())
theorem Target_Flip_ok {well : Bool} {fence : Int} {known : Plan} {hold : Hold} {begun filled : Int} {c : Config} {index : Int} {well2 : Bool} {b1 : List Entry} {b2 : List (List Int)} {fuse : Int} {down : Bool} {b4 b5 : List Int} {r : Unit} (h : Target_Flip well fence known hold begun filled c index well2 b1 b2 fuse down b4 b5 = some r) : Sound E 26 [.ptr 0 0 0, .bool well] [some ⟨54, true, [([.int .i64 fence] ++ Plan.encL known ([.int .i64 hold.Epoch, .int .i64 hold.Nonce, .int .u64 hold.Grants, .int .i64 hold.Until, (grD 1 (List.map Entry.enc b1)), (grD 2 (List.map (eSl 1 (eInt .i64)) b2)), .int .i64 begun, .int .i64 filled] ++ Config.encL c [.int .i64 index, .ptr 3 0 0, .bool well2]))]⟩, some ⟨3, false, (List.map Entry.enc b1)⟩, some ⟨1, false, (List.map (eSl 1 (eInt .i64)) b2)⟩, some ⟨4, true, [[(grD 4 (List.map (eInt .u8) b4)), (grD 5 (List.map (eInt .u8) b5)), .int .i64 fuse, .bool down]]⟩, some ⟨1, false, (List.map (eInt .u8) b4)⟩, some ⟨1, false, (List.map (eInt .u8) b5)⟩] (Rs (Target_Flip_e well fence known hold begun filled c index b1 b2 fuse down b4 b5) r) := so (fn := Tryz.f26) (k := true) (m := 6) h <| by
 intro r h; unfold Target_Flip at h
 exact zu 10 h
end Go.RX.L

namespace Go.RX.L
open Go Go.RX Go.Proofs
attribute [local irreducible] FinQ
noncomputable def Journal_Down_e (y : Bool) : D × Sto := (.bool y, [])
noncomputable def Journal_Down (j : Journal) : Option Bool := (some j.down)
theorem Journal_Down_ok {j : Journal} {r : Bool} (h : Journal_Down j = some r) : Sound E 9 [.iptr 4 [[.sl false 1 (List.map (eInt .u8) j.synced), .sl false 1 (List.map (eInt .u8) j.tail), .int .i64 j.fuse, .bool j.down]] 0 0] [] (Rs Journal_Down_e r) := so (fn := Tryz.f9) (k := false) (m := 0) h <| by
 intro r h; unfold Journal_Down at h
 exact zu 14 h
end Go.RX.L

namespace Go.RX.L
open Go Go.RX Go.Proofs
attribute [local irreducible] FinQ
noncomputable def math_bits_OnesCount64_e (y : Int) : D × Sto := (.int .i64 y, [])
noncomputable def math_bits_OnesCount64 (x_ : Int) : Option Int := (some (andI .i64 (IntKind.i64.wrap ((IntKind.u64.wrap ((IntKind.u64.wrap ((IntKind.u64.wrap ((andI .u64 (IntKind.u64.wrap ((shrI .u64 (IntKind.u64.wrap ((andI .u64 (shrI .u64 (IntKind.u64.wrap ((andI .u64 (shrI .u64 x_ 1) 6148914691236517205) + (andI .u64 x_ 6148914691236517205))) 2) 3689348814741910323) + (andI .u64 (IntKind.u64.wrap ((andI .u64 (shrI .u64 x_ 1) 6148914691236517205) + (andI .u64 x_ 6148914691236517205))) 3689348814741910323))) 4) + (IntKind.u64.wrap ((andI .u64 (shrI .u64 (IntKind.u64.wrap ((andI .u64 (shrI .u64 x_ 1) 6148914691236517205) + (andI .u64 x_ 6148914691236517205))) 2) 3689348814741910323) + (andI .u64 (IntKind.u64.wrap ((andI .u64 (shrI .u64 x_ 1) 6148914691236517205) + (andI .u64 x_ 6148914691236517205))) 3689348814741910323))))) 1085102592571150095) + (shrI .u64 (andI .u64 (IntKind.u64.wrap ((shrI .u64 (IntKind.u64.wrap ((andI .u64 (shrI .u64 (IntKind.u64.wrap ((andI .u64 (shrI .u64 x_ 1) 6148914691236517205) + (andI .u64 x_ 6148914691236517205))) 2) 3689348814741910323) + (andI .u64 (IntKind.u64.wrap ((andI .u64 (shrI .u64 x_ 1) 6148914691236517205) + (andI .u64 x_ 6148914691236517205))) 3689348814741910323))) 4) + (IntKind.u64.wrap ((andI .u64 (shrI .u64 (IntKind.u64.wrap ((andI .u64 (shrI .u64 x_ 1) 6148914691236517205) + (andI .u64 x_ 6148914691236517205))) 2) 3689348814741910323) + (andI .u64 (IntKind.u64.wrap ((andI .u64 (shrI .u64 x_ 1) 6148914691236517205) + (andI .u64 x_ 6148914691236517205))) 3689348814741910323))))) 1085102592571150095) 8))) + (shrI .u64 (IntKind.u64.wrap ((andI .u64 (IntKind.u64.wrap ((shrI .u64 (IntKind.u64.wrap ((andI .u64 (shrI .u64 (IntKind.u64.wrap ((andI .u64 (shrI .u64 x_ 1) 6148914691236517205) + (andI .u64 x_ 6148914691236517205))) 2) 3689348814741910323) + (andI .u64 (IntKind.u64.wrap ((andI .u64 (shrI .u64 x_ 1) 6148914691236517205) + (andI .u64 x_ 6148914691236517205))) 3689348814741910323))) 4) + (IntKind.u64.wrap ((andI .u64 (shrI .u64 (IntKind.u64.wrap ((andI .u64 (shrI .u64 x_ 1) 6148914691236517205) + (andI .u64 x_ 6148914691236517205))) 2) 3689348814741910323) + (andI .u64 (IntKind.u64.wrap ((andI .u64 (shrI .u64 x_ 1) 6148914691236517205) + (andI .u64 x_ 6148914691236517205))) 3689348814741910323))))) 1085102592571150095) + (shrI .u64 (andI .u64 (IntKind.u64.wrap ((shrI .u64 (IntKind.u64.wrap ((andI .u64 (shrI .u64 (IntKind.u64.wrap ((andI .u64 (shrI .u64 x_ 1) 6148914691236517205) + (andI .u64 x_ 6148914691236517205))) 2) 3689348814741910323) + (andI .u64 (IntKind.u64.wrap ((andI .u64 (shrI .u64 x_ 1) 6148914691236517205) + (andI .u64 x_ 6148914691236517205))) 3689348814741910323))) 4) + (IntKind.u64.wrap ((andI .u64 (shrI .u64 (IntKind.u64.wrap ((andI .u64 (shrI .u64 x_ 1) 6148914691236517205) + (andI .u64 x_ 6148914691236517205))) 2) 3689348814741910323) + (andI .u64 (IntKind.u64.wrap ((andI .u64 (shrI .u64 x_ 1) 6148914691236517205) + (andI .u64 x_ 6148914691236517205))) 3689348814741910323))))) 1085102592571150095) 8))) 16))) + (shrI .u64 (IntKind.u64.wrap ((IntKind.u64.wrap ((andI .u64 (IntKind.u64.wrap ((shrI .u64 (IntKind.u64.wrap ((andI .u64 (shrI .u64 (IntKind.u64.wrap ((andI .u64 (shrI .u64 x_ 1) 6148914691236517205) + (andI .u64 x_ 6148914691236517205))) 2) 3689348814741910323) + (andI .u64 (IntKind.u64.wrap ((andI .u64 (shrI .u64 x_ 1) 6148914691236517205) + (andI .u64 x_ 6148914691236517205))) 3689348814741910323))) 4) + (IntKind.u64.wrap ((andI .u64 (shrI .u64 (IntKind.u64.wrap ((andI .u64 (shrI .u64 x_ 1) 6148914691236517205) + (andI .u64 x_ 6148914691236517205))) 2) 3689348814741910323) + (andI .u64 (IntKind.u64.wrap ((andI .u64 (shrI .u64 x_ 1) 6148914691236517205) + (andI .u64 x_ 6148914691236517205))) 3689348814741910323))))) 1085102592571150095) + (shrI .u64 (andI .u64 (IntKind.u64.wrap ((shrI .u64 (IntKind.u64.wrap ((andI .u64 (shrI .u64 (IntKind.u64.wrap ((andI .u64 (shrI .u64 x_ 1) 6148914691236517205) + (andI .u64 x_ 6148914691236517205))) 2) 3689348814741910323) + (andI .u64 (IntKind.u64.wrap ((andI .u64 (shrI .u64 x_ 1) 6148914691236517205) + (andI .u64 x_ 6148914691236517205))) 3689348814741910323))) 4) + (IntKind.u64.wrap ((andI .u64 (shrI .u64 (IntKind.u64.wrap ((andI .u64 (shrI .u64 x_ 1) 6148914691236517205) + (andI .u64 x_ 6148914691236517205))) 2) 3689348814741910323) + (andI .u64 (IntKind.u64.wrap ((andI .u64 (shrI .u64 x_ 1) 6148914691236517205) + (andI .u64 x_ 6148914691236517205))) 3689348814741910323))))) 1085102592571150095) 8))) + (shrI .u64 (IntKind.u64.wrap ((andI .u64 (IntKind.u64.wrap ((shrI .u64 (IntKind.u64.wrap ((andI .u64 (shrI .u64 (IntKind.u64.wrap ((andI .u64 (shrI .u64 x_ 1) 6148914691236517205) + (andI .u64 x_ 6148914691236517205))) 2) 3689348814741910323) + (andI .u64 (IntKind.u64.wrap ((andI .u64 (shrI .u64 x_ 1) 6148914691236517205) + (andI .u64 x_ 6148914691236517205))) 3689348814741910323))) 4) + (IntKind.u64.wrap ((andI .u64 (shrI .u64 (IntKind.u64.wrap ((andI .u64 (shrI .u64 x_ 1) 6148914691236517205) + (andI .u64 x_ 6148914691236517205))) 2) 3689348814741910323) + (andI .u64 (IntKind.u64.wrap ((andI .u64 (shrI .u64 x_ 1) 6148914691236517205) + (andI .u64 x_ 6148914691236517205))) 3689348814741910323))))) 1085102592571150095) + (shrI .u64 (andI .u64 (IntKind.u64.wrap ((shrI .u64 (IntKind.u64.wrap ((andI .u64 (shrI .u64 (IntKind.u64.wrap ((andI .u64 (shrI .u64 x_ 1) 6148914691236517205) + (andI .u64 x_ 6148914691236517205))) 2) 3689348814741910323) + (andI .u64 (IntKind.u64.wrap ((andI .u64 (shrI .u64 x_ 1) 6148914691236517205) + (andI .u64 x_ 6148914691236517205))) 3689348814741910323))) 4) + (IntKind.u64.wrap ((andI .u64 (shrI .u64 (IntKind.u64.wrap ((andI .u64 (shrI .u64 x_ 1) 6148914691236517205) + (andI .u64 x_ 6148914691236517205))) 2) 3689348814741910323) + (andI .u64 (IntKind.u64.wrap ((andI .u64 (shrI .u64 x_ 1) 6148914691236517205) + (andI .u64 x_ 6148914691236517205))) 3689348814741910323))))) 1085102592571150095) 8))) 16))) 32))))) 127))
theorem math_bits_OnesCount64_ok {x_ r : Int} (h : math_bits_OnesCount64 x_ = some r) : Sound E 83 [.int .u64 x_] [] (Rs math_bits_OnesCount64_e r) := so (fn := Tryz.f83) (k := false) (m := 0) h <| by
 intro r h; unfold math_bits_OnesCount64 at h
 exact zu 71 h
end Go.RX.L

namespace Go.RX.L
open Go Go.RX Go.Proofs
attribute [local irreducible] FinQ
noncomputable def proposer_more_e (y : Int) : D × Sto := (.int .i64 y, [])
noncomputable def proposer_more (c : Config) : Option Int := (some (mnI (mxI c.F_ 0) 3))
theorem proposer_more_ok {c : Config} {r : Int} (h : proposer_more c = some r) : Sound E 84 [.agg (Config.enc c)] [] (Rs proposer_more_e r) := so (fn := Tryz.f84) (k := false) (m := 0) h <| by
 intro r h; unfold proposer_more at h
 exact zu 15 h
end Go.RX.L

namespace Go.RX.L
open Go Go.RX Go.Proofs
attribute [local irreducible] FinQ
noncomputable def proposer_Most_e (y : Bool) : D × Sto := (.bool y, [])
noncomputable def proposer_Most (c : Config) (mask_ : Int) : Option Bool := ((proposer_more c).bind fun y1 => (bif (!decide (((IntKind.i64.wrap ((IntKind.i64.wrap ((2 : Int) * y1)) + 1)) : Int) < 0)) then ((math_bits_OnesCount64 (andI .u64 mask_ (IntKind.u64.wrap ((shlI .u64 1 (IntKind.i64.wrap ((IntKind.i64.wrap ((2 : Int) * y1)) + 1))) - 1)))).bind fun y3 => ((proposer_more c).bind fun y4 => (some (decide ((y3 : Int) > y4))))) else none))
theorem proposer_Most_ok {c : Config} {mask_ : Int} {r : Bool} (h : proposer_Most c mask_ = some r) : Sound E 57 [.agg (Config.enc c), .int .u64 mask_] [] (Rs proposer_Most_e r) := so (fn := Tryz.f57) (k := false) (m := 0) h <| by
 intro r h; unfold proposer_Most at h
 refine zd 8 [] h (fun _ => proposer_more_ok) fun y1 h => ?_
 refine zn 0 h fun h => ?_
 refine zd 0 [] h (fun _ => math_bits_OnesCount64_ok) fun y3 h => ?_
 refine zd 1 [] h (fun _ => proposer_more_ok) fun y4 h => ?_
 exact zu 1 h
end Go.RX.L

namespace Go.RX.L
open Go Go.RX Go.Proofs
attribute [local irreducible] FinQ
noncomputable def lease_Grant_c := codeAt (bodyOf Tryz.f41)
noncomputable def lease_Grant_e (y : Hold) : D × Sto := (.agg [.int .i64 y.Epoch, .int .i64 y.Nonce, .int .u64 y.Grants, .int .i64 y.Until], [])
abbrev lease_Grant_W (h_ : Hold) (c : Config) (m : Msg) := AOk E (Cx.of Tryz.f41 false 0) lease_Grant_e
noncomputable def lease_Grant_1M (h_ : Hold) (c : Config) (m : Msg) (t13 : Bool) (b3 : Hold) : M := ⟨[.code (lease_Grant_c [1, 1, 0, 0, 1]), .blk 0, .code (lease_Grant_c [1, 1, 1])], [(3, .ptr 0 0 0), (4, .ptr 1 0 0), (5, .ptr 2 0 0), (6, .ptr 3 0 0), (13, .bool t13)], [some ⟨4, false, [(Hold.enc h_)]⟩, some ⟨30, false, [(Config.enc c)]⟩, some ⟨26, false, [(Msg.enc m)]⟩, some ⟨4, false, [(Hold.enc b3)]⟩]⟩
noncomputable def lease_Grant_1 (h_ : Hold) (c : Config) (m : Msg) (t13 : Bool) (b3 : Hold) : Option Hold := (bif t13 then (some h_) else (bif (!decide ((m.From : Int) < 0)) then ((proposer_Most c (orI .u64 h_.Grants (shlI .u64 1 m.From))).bind fun y3 => (bif y3 then (some (⟨h_.Epoch, h_.Nonce, (orI .u64 h_.Grants (shlI .u64 1 m.From)), (mxI h_.Until (IntKind.i64.wrap (h_.Nonce + (mnI (mxI c.L_ 0) 1048576))))⟩ : Hold)) else (some (⟨h_.Epoch, h_.Nonce, (orI .u64 h_.Grants (shlI .u64 1 m.From)), h_.Until⟩ : Hold)))) else none))
theorem lease_Grant_1_ok {h_ c m t13 b3} : lease_Grant_W h_ c m (lease_Grant_1M h_ c m t13 b3) (lease_Grant_1 h_ c m t13 b3) := by
 intro r h; unfold lease_Grant_1 at h
 refine zs 1 h (fun h => ?_) fun h => ?_
 ·
  exact zu 10 h
 refine zn 7 h fun h => ?_
 refine zc 10 [] h (fun _ => proposer_Most_ok) fun y3 h => ?_
 refine zs 2 h (fun h => ?_) fun h => ?_
 ·
  exact zu 29 h
 exact zu 11 h
noncomputable def lease_Grant (h_ : Hold) (c : Config) (m : Msg) : Option Hold := (bif ((m.Kind : Int) != 11) then (lease_Grant_1 h_ c m ((m.Kind : Int) != 11) (⟨0, 0, 0, 0⟩ : Hold)) else (bif (!(((h_.Epoch : Int) == m.Epoch) && (((h_.Nonce : Int) == m.Nonce) && true))) then (lease_Grant_1 h_ c m (!(((h_.Epoch : Int) == m.Epoch) && (((h_.Nonce : Int) == m.Nonce) && true))) (⟨0, 0, 0, 0⟩ : Hold)) else (bif (decide ((m.From : Int) < 0)) then (lease_Grant_1 h_ c m (decide ((m.From : Int) < 0)) (⟨0, 0, 0, 0⟩ : Hold)) else (bif (decide ((m.From : Int) > (IntKind.i64.wrap ((2 : Int) * (mnI (mxI c.F_ 0) 3))))) then (lease_Grant_1 h_ c m (decide ((m.From : Int) > (IntKind.i64.wrap ((2 : Int) * (mnI (mxI c.F_ 0) 3))))) (⟨0, 0, 0, 0⟩ : Hold)) else (bif (decide ((h_.Nonce : Int) < 0)) then (lease_Grant_1 h_ c m (decide ((h_.Nonce : Int) < 0)) (⟨0, 0, 0, 0⟩ : Hold)) else (lease_Grant_1 h_ c m (decide ((h_.Nonce : Int) > 1099511627776)) (⟨0, 0, 0, 0⟩ : Hold)))))))
theorem lease_Grant_ok {h_ : Hold} {c : Config} {m : Msg} {r : Hold} (h : lease_Grant h_ c m = some r) : Sound E 41 [.agg [.int .i64 h_.Epoch, .int .i64 h_.Nonce, .int .u64 h_.Grants, .int .i64 h_.Until], .agg (Config.enc c), .agg [.int .i64 m.Kind, .int .i64 m.From, .int .i64 m.To, .int .i64 m.Epoch, .int .i64 m.Ballot, .int .i64 m.Accepted, .int .i64 m.Nonce, .int .i64 m.Time, .int .u64 m.Up, .int .i64 m.Code, .bool m.HasPlan, .int .i64 m.Plan.Epoch, .int .i64 m.Plan.Target, .int .i64 m.Plan.Prev, .int .i64 m.Plan.Spill, .int .i64 m.Plan.Percent, .int .i64 m.Plan.Stamp, .int .i64 m.Plan.Since, .int .i64 m.Plan.Ramped, .int .u64 m.Plan.Up, .int .u64 m.Plan.Sup, .sl false 1 (List.map (eInt .i64) m.Plan.Pen), .sl false 1 (List.map (eInt .i64) m.Plan.Changes), .sl false 1 (List.map (eInt .i64) m.ID), .sl false 1 (List.map (eInt .u8) m.Session), .sl false 1 (List.map (eInt .u8) m.Payload)]] [] (Rs lease_Grant_e r) := so (fn := Tryz.f41) (k := false) (m := 0) h <| by
 intro r h; unfold lease_Grant at h
 refine zs 33 h (fun h => ?_) fun h => ?_
 ·
  exact zg 1 (lease_Grant_1_ok h)
 refine zs 15 h (fun h => ?_) fun h => ?_
 ·
  exact zg 1 (lease_Grant_1_ok h)
 refine zs 9 h (fun h => ?_) fun h => ?_
 ·
  exact zg 1 (lease_Grant_1_ok h)
 refine zs 15 h (fun h => ?_) fun h => ?_
 ·
  exact zg 1 (lease_Grant_1_ok h)
 refine zs 9 h (fun h => ?_) fun h => ?_
 ·
  exact zg 1 (lease_Grant_1_ok h)
 exact zg 7 (lease_Grant_1_ok h)
end Go.RX.L

namespace Go.RX.L
open Go Go.RX Go.Proofs
attribute [local irreducible] FinQ
noncomputable def plan_all_1_e (y : Bool) : D × Sto := (.bool y, [])
noncomputable def plan_all_1 (n t t2 : Int) : Option Bool := (bif (decide ((n : Int) < t)) then (some true) else (some (decide ((n : Int) > t2))))
theorem plan_all_1_ok {n t t2 : Int} {r : Bool} (h : plan_all_1 n t t2 = some r) : Sound E 92 [.int .i64 n, .iptr 1 [[.int .i64 t]] 0 0, .iptr 1 [[.int .i64 t2]] 0 0] [] (Rs plan_all_1_e r) := so (fn := Tryz.f92) (k := false) (m := 0) h <| by
 intro r h; unfold plan_all_1 at h
 refine zs 12 h (fun h => ?_) fun h => ?_
 ·
  exact zu 9 h
 exact zu 10 h
end Go.RX.L

namespace Go.RX.L
open Go Go.RX Go.Proofs
attribute [local irreducible] FinQ
noncomputable def slices_IndexFunc__all_1_c := codeAt (bodyOf Tryz.f87)
noncomputable def slices_IndexFunc__all_1_e (y : Int) : D × Sto := (.int .i64 y, [])
inductive slices_IndexFunc__all_1_S where
 | s0 (s_ : List Int) (f f2 : Int)
 | s1 (s_ : List Int) (f f2 : Int) (t7 t8 : Int)
noncomputable def slices_IndexFunc__all_1_M : slices_IndexFunc__all_1_S → M
 | .s0 s_ f f2 => startM Tryz.f87 [.sl false 1 (List.map (eInt .i64) s_), .fn 92 [] [.iptr 1 [[.int .i64 f]] 0 0, .iptr 1 [[.int .i64 f2]] 0 0]] []
 | .s1 s_ f f2 t7 t8 => ⟨[.lpc (slices_IndexFunc__all_1_c [1, 0, 1, 0, 0]) 387, .blk 0, .code (slices_IndexFunc__all_1_c [1, 1])], [(0, .sl false 1 (List.map (eInt .i64) s_)), (1, .fn 92 [] [.iptr 1 [[.int .i64 f]] 0 0, .iptr 1 [[.int .i64 f2]] 0 0]), (7, .int .i64 t7), (8, .int .i64 t8)], []⟩
abbrev slices_IndexFunc__all_1_W := SOk E (Cx.of Tryz.f87 false 0) slices_IndexFunc__all_1_e slices_IndexFunc__all_1_M
noncomputable def slices_IndexFunc__all_1_0 (s_ : List Int) (f f2 : Int) : Option (slices_IndexFunc__all_1_S ⊕ Int) := (some (.inl (.s1 s_ f f2 (((List.map (eInt .i64) s_).length : Nat) : Int) 0)))
noncomputable def slices_IndexFunc__all_1_1 (s_ : List Int) (f f2 : Int) (t7 t8 : Int) : Option (slices_IndexFunc__all_1_S ⊕ Int) := (bif (decide ((t8 : Int) < t7)) then (bif ((decide ((0 : Int) ≤ t8)) && (decide ((t8 : Int) < (((List.map (eInt .i64) s_).length : Nat) : Int)))) then (((s_)[t8.toNat]?).bind fun y3 => ((plan_all_1 y3 f f2).bind fun y5 => (bif y5 then (some (.inr t8)) else (some (.inl (.s1 s_ f f2 t7 (IntKind.i64.wrap (t8 + 1)))))))) else none) else (some (.inr (-1))))
noncomputable def slices_IndexFunc__all_1_step : slices_IndexFunc__all_1_S → Option (slices_IndexFunc__all_1_S ⊕ Int)
 | .s0 s_ f f2 => slices_IndexFunc__all_1_0 s_ f f2
 | .s1 s_ f f2 t7 t8 => slices_IndexFunc__all_1_1 s_ f f2 t7 t8
theorem slices_IndexFunc__all_1_0_ok {s_ f f2} : slices_IndexFunc__all_1_W (.s0 s_ f f2) (slices_IndexFunc__all_1_0 s_ f f2) := by
 intro r x h ha; unfold slices_IndexFunc__all_1_0 at h
 exact zj 14 h ha
theorem slices_IndexFunc__all_1_1_ok {s_ f f2 t7 t8} : slices_IndexFunc__all_1_W (.s1 s_ f f2 t7 t8) (slices_IndexFunc__all_1_1 s_ f f2 t7 t8) := by
 intro r x h ha; unfold slices_IndexFunc__all_1_1 at h
 refine zs 7 h (fun h => ?_) fun h => ?_
 ·
  refine zn 14 h fun h => ?_
  refine zr 1 (eInt .i64) h fun y3 h => ?_
  refine zc 1 [] h (fun _ => plan_all_1_ok) fun y5 h => ?_
  refine zs 2 h (fun h => ?_) fun h => ?_
  ·
   exact zt 6 h ha
  exact zj 7 h ha
 exact zt 6 h ha
noncomputable def slices_IndexFunc__all_1 (s_ : List Int) (f f2 : Int) : Option Int := evf slices_IndexFunc__all_1_step (.s0 s_ f f2)
theorem slices_IndexFunc__all_1_ok {s_ : List Int} {f f2 r : Int} (h : slices_IndexFunc__all_1 s_ f f2 = some r) : Sound E 87 [.sl false 1 (List.map (eInt .i64) s_), .fn 92 [] [.iptr 1 [[.int .i64 f]] 0 0, .iptr 1 [[.int .i64 f2]] 0 0]] [] (Rs slices_IndexFunc__all_1_e r) := sc (fn := Tryz.f87) (k := false) (m := 0) (stM := slices_IndexFunc__all_1_M) h fun s => by
 cases s with
 | s0 => exact slices_IndexFunc__all_1_0_ok
 | s1 => exact slices_IndexFunc__all_1_1_ok
end Go.RX.L

namespace Go.RX.L
open Go Go.RX Go.Proofs
attribute [local irreducible] FinQ
noncomputable def slices_ContainsFunc__all_1_e (y : Bool) : D × Sto := (.bool y, [])
noncomputable def slices_ContainsFunc__all_1 (s_ : List Int) (f f2 : Int) : Option Bool := ((slices_IndexFunc__all_1 s_ f f2).bind fun y1 => (some (decide ((y1 : Int) ≥ 0))))
theorem slices_ContainsFunc__all_1_ok {s_ : List Int} {f f2 : Int} {r : Bool} (h : slices_ContainsFunc__all_1 s_ f f2 = some r) : Sound E 67 [.sl false 1 (List.map (eInt .i64) s_), .fn 92 [] [.iptr 1 [[.int .i64 f]] 0 0, .iptr 1 [[.int .i64 f2]] 0 0]] [] (Rs slices_ContainsFunc__all_1_e r) := so (fn := Tryz.f67) (k := false) (m := 0) h <| by
 intro r h; unfold slices_ContainsFunc__all_1 at h
 refine zc 9 [] h (fun _ => slices_IndexFunc__all_1_ok) fun y1 h => ?_
 exact zu 4 h
end Go.RX.L

namespace Go.RX.L
open Go Go.RX Go.Proofs
attribute [local irreducible] FinQ
noncomputable def plan_all_e (y : Bool) : D × Sto := (.bool y, [])
noncomputable def plan_all (low high : Int) (l_ : List Int) : Option Bool := ((slices_ContainsFunc__all_1 l_ low high).bind fun y1 => (some (!y1)))
theorem plan_all_ok {low high : Int} {l_ : List Int} {r : Bool} (h : plan_all low high l_ = some r) : Sound E 71 [.int .i64 low, .int .i64 high, .sl false 1 (List.map (eInt .i64) l_)] [] (Rs plan_all_e r) := so (fn := Tryz.f71) (k := false) (m := 0) h <| by
 intro r h; unfold plan_all at h
 refine zc 11 [] h (fun _ => slices_ContainsFunc__all_1_ok) fun y1 h => ?_
 exact zu 4 h
end Go.RX.L

namespace Go.RX.L
open Go Go.RX Go.Proofs
attribute [local irreducible] FinQ
noncomputable def plan_all_1_v2_e (y : Bool) : D × Sto := (.bool y, [])
noncomputable def plan_all_1_v2 (n t t2 : Int) : Option Bool := (bif (decide ((n : Int) < t)) then (some true) else (some (decide ((n : Int) > t2))))
theorem plan_all_1_v2_ok {n t t2 : Int} {r : Bool} (h : plan_all_1_v2 n t t2 = some r) : Sound E 93 [.int .i64 n, .iptr 1 [[.int .i64 t]] 0 0, .iptr 1 [[.int .i64 t2]] 0 0] [] (Rs plan_all_1_v2_e r) := so (fn := Tryz.f93) (k := false) (m := 0) h <| by
 intro r h; unfold plan_all_1_v2 at h
 refine zs 12 h (fun h => ?_) fun h => ?_
 ·
  exact zu 9 h
 exact zu 10 h
end Go.RX.L

namespace Go.RX.L
open Go Go.RX Go.Proofs
attribute [local irreducible] FinQ
noncomputable def slices_IndexFunc__all_1_v2_c := codeAt (bodyOf Tryz.f86)
noncomputable def slices_IndexFunc__all_1_v2_e (y : Int) : D × Sto := (.int .i64 y, [])
inductive slices_IndexFunc__all_1_v2_S where
 | s0 (s_ : List Int) (f f2 : Int)
 | s1 (s_ : List Int) (f f2 : Int) (t7 t8 : Int)
noncomputable def slices_IndexFunc__all_1_v2_M : slices_IndexFunc__all_1_v2_S → M
 | .s0 s_ f f2 => startM Tryz.f86 [.sl false 1 (List.map (eInt .i64) s_), .fn 93 [] [.iptr 1 [[.int .i64 f]] 0 0, .iptr 1 [[.int .i64 f2]] 0 0]] []
 | .s1 s_ f f2 t7 t8 => ⟨[.lpc (slices_IndexFunc__all_1_v2_c [1, 0, 1, 0, 0]) 387, .blk 0, .code (slices_IndexFunc__all_1_v2_c [1, 1])], [(0, .sl false 1 (List.map (eInt .i64) s_)), (1, .fn 93 [] [.iptr 1 [[.int .i64 f]] 0 0, .iptr 1 [[.int .i64 f2]] 0 0]), (7, .int .i64 t7), (8, .int .i64 t8)], []⟩
abbrev slices_IndexFunc__all_1_v2_W := SOk E (Cx.of Tryz.f86 false 0) slices_IndexFunc__all_1_v2_e slices_IndexFunc__all_1_v2_M
noncomputable def slices_IndexFunc__all_1_v2_0 (s_ : List Int) (f f2 : Int) : Option (slices_IndexFunc__all_1_v2_S ⊕ Int) := (some (.inl (.s1 s_ f f2 (((List.map (eInt .i64) s_).length : Nat) : Int) 0)))
noncomputable def slices_IndexFunc__all_1_v2_1 (s_ : List Int) (f f2 : Int) (t7 t8 : Int) : Option (slices_IndexFunc__all_1_v2_S ⊕ Int) := (bif (decide ((t8 : Int) < t7)) then (bif ((decide ((0 : Int) ≤ t8)) && (decide ((t8 : Int) < (((List.map (eInt .i64) s_).length : Nat) : Int)))) then (((s_)[t8.toNat]?).bind fun y3 => ((plan_all_1_v2 y3 f f2).bind fun y5 => (bif y5 then (some (.inr t8)) else (some (.inl (.s1 s_ f f2 t7 (IntKind.i64.wrap (t8 + 1)))))))) else none) else (some (.inr (-1))))
noncomputable def slices_IndexFunc__all_1_v2_step : slices_IndexFunc__all_1_v2_S → Option (slices_IndexFunc__all_1_v2_S ⊕ Int)
 | .s0 s_ f f2 => slices_IndexFunc__all_1_v2_0 s_ f f2
 | .s1 s_ f f2 t7 t8 => slices_IndexFunc__all_1_v2_1 s_ f f2 t7 t8
theorem slices_IndexFunc__all_1_v2_0_ok {s_ f f2} : slices_IndexFunc__all_1_v2_W (.s0 s_ f f2) (slices_IndexFunc__all_1_v2_0 s_ f f2) := by
 intro r x h ha; unfold slices_IndexFunc__all_1_v2_0 at h
 exact zj 14 h ha
theorem slices_IndexFunc__all_1_v2_1_ok {s_ f f2 t7 t8} : slices_IndexFunc__all_1_v2_W (.s1 s_ f f2 t7 t8) (slices_IndexFunc__all_1_v2_1 s_ f f2 t7 t8) := by
 intro r x h ha; unfold slices_IndexFunc__all_1_v2_1 at h
 refine zs 7 h (fun h => ?_) fun h => ?_
 ·
  refine zn 14 h fun h => ?_
  refine zr 1 (eInt .i64) h fun y3 h => ?_
  refine zc 1 [] h (fun _ => plan_all_1_v2_ok) fun y5 h => ?_
  refine zs 2 h (fun h => ?_) fun h => ?_
  ·
   exact zt 6 h ha
  exact zj 7 h ha
 exact zt 6 h ha
noncomputable def slices_IndexFunc__all_1_v2 (s_ : List Int) (f f2 : Int) : Option Int := evf slices_IndexFunc__all_1_v2_step (.s0 s_ f f2)
theorem slices_IndexFunc__all_1_v2_ok {s_ : List Int} {f f2 r : Int} (h : slices_IndexFunc__all_1_v2 s_ f f2 = some r) : Sound E 86 [.sl false 1 (List.map (eInt .i64) s_), .fn 93 [] [.iptr 1 [[.int .i64 f]] 0 0, .iptr 1 [[.int .i64 f2]] 0 0]] [] (Rs slices_IndexFunc__all_1_v2_e r) := sc (fn := Tryz.f86) (k := false) (m := 0) (stM := slices_IndexFunc__all_1_v2_M) h fun s => by
 cases s with
 | s0 => exact slices_IndexFunc__all_1_v2_0_ok
 | s1 => exact slices_IndexFunc__all_1_v2_1_ok
end Go.RX.L

namespace Go.RX.L
open Go Go.RX Go.Proofs
attribute [local irreducible] FinQ
noncomputable def slices_ContainsFunc__all_1_v2_e (y : Bool) : D × Sto := (.bool y, [])
noncomputable def slices_ContainsFunc__all_1_v2 (s_ : List Int) (f f2 : Int) : Option Bool := ((slices_IndexFunc__all_1_v2 s_ f f2).bind fun y1 => (some (decide ((y1 : Int) ≥ 0))))
theorem slices_ContainsFunc__all_1_v2_ok {s_ : List Int} {f f2 : Int} {r : Bool} (h : slices_ContainsFunc__all_1_v2 s_ f f2 = some r) : Sound E 65 [.sl false 1 (List.map (eInt .i64) s_), .fn 93 [] [.iptr 1 [[.int .i64 f]] 0 0, .iptr 1 [[.int .i64 f2]] 0 0]] [] (Rs slices_ContainsFunc__all_1_v2_e r) := so (fn := Tryz.f65) (k := false) (m := 0) h <| by
 intro r h; unfold slices_ContainsFunc__all_1_v2 at h
 refine zc 9 [] h (fun _ => slices_IndexFunc__all_1_v2_ok) fun y1 h => ?_
 exact zu 4 h
end Go.RX.L

namespace Go.RX.L
open Go Go.RX Go.Proofs
attribute [local irreducible] FinQ
noncomputable def plan_all_v2_e (y : Bool) : D × Sto := (.bool y, [])
noncomputable def plan_all_v2 (low high : Int) (l_ : List Int) : Option Bool := ((slices_ContainsFunc__all_1_v2 l_ low high).bind fun y1 => (some (!y1)))
theorem plan_all_v2_ok {low high : Int} {l_ : List Int} {r : Bool} (h : plan_all_v2 low high l_ = some r) : Sound E 73 [.int .i64 low, .int .i64 high, .sl false 1 (List.map (eInt .i64) l_)] [] (Rs plan_all_v2_e r) := so (fn := Tryz.f73) (k := false) (m := 0) h <| by
 intro r h; unfold plan_all_v2 at h
 refine zc 11 [] h (fun _ => slices_ContainsFunc__all_1_v2_ok) fun y1 h => ?_
 exact zu 4 h
end Go.RX.L

namespace Go.RX.L
open Go Go.RX Go.Proofs
attribute [local irreducible] FinQ
noncomputable def cmp_isNaN_e (y : Bool) : D × Sto := (.bool y, [])
noncomputable def cmp_isNaN (x_ : Int) : Option Bool := (some ((x_ : Int) != x_))
theorem cmp_isNaN_ok {x_ : Int} {r : Bool} (h : cmp_isNaN x_ = some r) : Sound E 99 [.int .i64 x_] [] (Rs cmp_isNaN_e r) := so (fn := Tryz.f99) (k := false) (m := 0) h <| by
 intro r h; unfold cmp_isNaN at h
 exact zu 12 h
end Go.RX.L

namespace Go.RX.L
open Go Go.RX Go.Proofs
attribute [local irreducible] FinQ
noncomputable def cmp_Less_e (y : Bool) : D × Sto := (.bool y, [])
noncomputable def cmp_Less (x_ y_ : Int) : Option Bool := ((cmp_isNaN x_).bind fun y1 => (bif y1 then ((cmp_isNaN y_).bind fun y3 => (bif (!y3) then (some true) else (some (decide ((x_ : Int) < y_))))) else (some (decide ((x_ : Int) < y_)))))
theorem cmp_Less_ok {x_ y_ : Int} {r : Bool} (h : cmp_Less x_ y_ = some r) : Sound E 94 [.int .i64 x_, .int .i64 y_] [] (Rs cmp_Less_e r) := so (fn := Tryz.f94) (k := false) (m := 0) h <| by
 intro r h; unfold cmp_Less at h
 refine zc 8 [] h (fun _ => cmp_isNaN_ok) fun y1 h => ?_
 refine zs 2 h (fun h => ?_) fun h => ?_
 ·
  refine zc 2 [] h (fun _ => cmp_isNaN_ok) fun y3 h => ?_
  refine zs 6 h (fun h => ?_) fun h => ?_
  ·
   exact zu 9 h
  exact zu 9 h
 exact zu 18 h
end Go.RX.L

namespace Go.RX.L
open Go Go.RX Go.Proofs
attribute [local irreducible] FinQ
noncomputable def slices_IsSorted_c := codeAt (bodyOf Tryz.f74)
noncomputable def slices_IsSorted_e (y : Bool) : D × Sto := (.bool y, [])
inductive slices_IsSorted_S where
 | s0 (x_ : List Int)
 | s1 (x_ : List Int) (i : Int)
noncomputable def slices_IsSorted_M : slices_IsSorted_S → M
 | .s0 x_ => startM Tryz.f74 [.sl false 1 (List.map (eInt .i64) x_)] []
 | .s1 x_ i => ⟨[.lpc (slices_IsSorted_c [1, 0, 1, 0, 0]) 9, .blk 0, .code (slices_IsSorted_c [1, 1])], [(0, .sl false 1 (List.map (eInt .i64) x_)), (3, .int .i64 i)], []⟩
abbrev slices_IsSorted_W := SOk E (Cx.of Tryz.f74 false 0) slices_IsSorted_e slices_IsSorted_M
noncomputable def slices_IsSorted_0 (x_ : List Int) : Option (slices_IsSorted_S ⊕ Bool) := (some (.inl (.s1 x_ (IntKind.i64.wrap ((((List.map (eInt .i64) x_).length : Nat) : Int) - 1)))))
noncomputable def slices_IsSorted_1 (x_ : List Int) (i : Int) : Option (slices_IsSorted_S ⊕ Bool) := (bif (decide ((i : Int) > 0)) then (bif ((decide ((0 : Int) ≤ i)) && (decide ((i : Int) < (((List.map (eInt .i64) x_).length : Nat) : Int)))) then (((x_)[i.toNat]?).bind fun y3 => (bif ((decide ((0 : Int) ≤ (IntKind.i64.wrap (i - 1)))) && (decide (((IntKind.i64.wrap (i - 1)) : Int) < (((List.map (eInt .i64) x_).length : Nat) : Int)))) then (((x_)[(IntKind.i64.wrap (i - 1)).toNat]?).bind fun y6 => ((cmp_Less y3 y6).bind fun y8 => (bif y8 then (some (.inr false)) else (some (.inl (.s1 x_ (IntKind.i64.wrap (i - 1)))))))) else none)) else none) else (some (.inr true)))
noncomputable def slices_IsSorted_step : slices_IsSorted_S → Option (slices_IsSorted_S ⊕ Bool)
 | .s0 x_ => slices_IsSorted_0 x_
 | .s1 x_ i => slices_IsSorted_1 x_ i
theorem slices_IsSorted_0_ok {x_} : slices_IsSorted_W (.s0 x_) (slices_IsSorted_0 x_) := by
 intro r x h ha; unfold slices_IsSorted_0 at h
 exact zj 15 h ha
theorem slices_IsSorted_1_ok {x_ i} : slices_IsSorted_W (.s1 x_ i) (slices_IsSorted_1 x_ i) := by
 intro r x h ha; unfold slices_IsSorted_1 at h
 refine zs 8 h (fun h => ?_) fun h => ?_
 ·
  refine zn 5 h fun h => ?_
  refine zr 0 (eInt .i64) h fun y3 h => ?_
  refine zn 0 h fun h => ?_
  refine zr 0 (eInt .i64) h fun y6 h => ?_
  refine zd 0 [] h (fun _ => cmp_Less_ok) fun y8 h => ?_
  refine zs 1 h (fun h => ?_) fun h => ?_
  ·
   exact zt 5 h ha
  exact zj 8 h ha
 exact zt 6 h ha
noncomputable def slices_IsSorted (x_ : List Int) : Option Bool := evf slices_IsSorted_step (.s0 x_)
theorem slices_IsSorted_ok {x_ : List Int} {r : Bool} (h : slices_IsSorted x_ = some r) : Sound E 74 [.sl false 1 (List.map (eInt .i64) x_)] [] (Rs slices_IsSorted_e r) := sc (fn := Tryz.f74) (k := false) (m := 0) (stM := slices_IsSorted_M) h fun s => by
 cases s with
 | s0 => exact slices_IsSorted_0_ok
 | s1 => exact slices_IsSorted_1_ok
end Go.RX.L

namespace Go.RX.L
open Go Go.RX Go.Proofs
attribute [local irreducible] FinQ
noncomputable def plan_Right_c := codeAt (bodyOf Tryz.f52)
noncomputable def plan_Right_e (y : Bool) : D × Sto := (.bool y, [])
abbrev plan_Right_W := AOk E (Cx.of Tryz.f52 false 0) plan_Right_e
noncomputable def plan_Right_1M (t37 : Bool) (p_ : Plan) : M := ⟨[.code (plan_Right_c [1, 0, 0, 1, 1, 1, 1, 1]), .blk 0, .code (plan_Right_c [1, 1])], [(1, .ptr 0 0 0), (37, .bool t37)], [some ⟨12, false, [(Plan.enc p_)]⟩]⟩
noncomputable def plan_Right_1 (t37 : Bool) (p_ : Plan) : Option Bool := (bif t37 then (some false) else ((plan_all_v2 0 1000000 p_.Pen).bind fun y2 => (bif y2 then ((plan_all 0 1099511627776 p_.Changes).bind fun y4 => (bif y4 then ((slices_IsSorted p_.Changes).bind fun y6 => (some y6)) else (some false))) else (some false))))
theorem plan_Right_1_ok {t37 p_} : plan_Right_W (plan_Right_1M t37 p_) (plan_Right_1 t37 p_) := by
 intro r h; unfold plan_Right_1 at h
 refine zs 1 h (fun h => ?_) fun h => ?_
 ·
  exact zu 5 h
 refine zc 8 [] h (fun _ => plan_all_v2_ok) fun y2 h => ?_
 refine zs 2 h (fun h => ?_) fun h => ?_
 ·
  refine zc 5 [] h (fun _ => plan_all_ok) fun y4 h => ?_
  refine zs 4 h (fun h => ?_) fun h => ?_
  ·
   refine zc 5 [] h (fun _ => slices_IsSorted_ok) fun y6 h => ?_
   exact zu 5 h
  exact zu 9 h
 exact zu 18 h
noncomputable def plan_Right_2M (t21 : Bool) (p_ : Plan) : M := ⟨[.code (plan_Right_c [1, 0, 0, 1, 1, 1]), .blk 0, .code (plan_Right_c [1, 1])], [(1, .ptr 0 0 0), (21, .bool t21)], [some ⟨12, false, [(Plan.enc p_)]⟩]⟩
noncomputable def plan_Right_2 (t21 : Bool) (p_ : Plan) : Option Bool := (bif t21 then (some false) else (bif (decide (((((List.map (eInt .i64) p_.Pen).length : Nat) : Int) : Int) > 16)) then (plan_Right_1 (decide (((((List.map (eInt .i64) p_.Pen).length : Nat) : Int) : Int) > 16)) p_) else (plan_Right_1 (decide (((((List.map (eInt .i64) p_.Changes).length : Nat) : Int) : Int) > 8)) p_)))
theorem plan_Right_2_ok {t21 p_} : plan_Right_W (plan_Right_2M t21 p_) (plan_Right_2 t21 p_) := by
 intro r h; unfold plan_Right_2 at h
 refine zs 1 h (fun h => ?_) fun h => ?_
 ·
  exact zu 5 h
 refine zs 11 h (fun h => ?_) fun h => ?_
 ·
  exact zg 1 (plan_Right_1_ok h)
 exact zg 8 (plan_Right_1_ok h)
noncomputable def plan_Right_3M (t3 : Bool) (p_ : Plan) : M := ⟨[.code (plan_Right_c [1, 0, 0, 1]), .blk 0, .code (plan_Right_c [1, 1])], [(1, .ptr 0 0 0), (3, .bool t3)], [some ⟨12, false, [(Plan.enc p_)]⟩]⟩
noncomputable def plan_Right_3 (t3 : Bool) (p_ : Plan) : Option Bool := (bif t3 then (some false) else ((plan_all 0 1099511627776 ([p_.Stamp, p_.Since, p_.Ramped])).bind fun y2 => (bif (!y2) then (plan_Right_2 (!y2) p_) else (plan_Right_2 (decide (((mxI p_.Up p_.Sup) : Int) ≥ 65536)) p_))))
theorem plan_Right_3_ok {t3 p_} : plan_Right_W (plan_Right_3M t3 p_) (plan_Right_3 t3 p_) := by
 intro r h; unfold plan_Right_3 at h
 refine zs 1 h (fun h => ?_) fun h => ?_
 ·
  exact zu 5 h
 refine zc 15 [] h (fun _ => plan_all_ok) fun y2 h => ?_
 refine zs 4 h (fun h => ?_) fun h => ?_
 ·
  exact zg 1 (plan_Right_2_ok h)
 exact zg 11 (plan_Right_2_ok h)
noncomputable def plan_Right (p_ : Plan) : Option Bool := (bif (decide ((p_.Epoch : Int) < 0)) then (plan_Right_3 (decide ((p_.Epoch : Int) < 0)) p_) else ((plan_all_v2 (-1) 15 ([p_.Target, p_.Prev, p_.Spill])).bind fun y2 => (bif (!y2) then (plan_Right_3 (!y2) p_) else ((plan_all_v2 0 100 ([p_.Percent])).bind fun y4 => (plan_Right_3 (!y4) p_)))))
theorem plan_Right_ok {p_ : Plan} {r : Bool} (h : plan_Right p_ = some r) : Sound E 52 [.agg [.int .i64 p_.Epoch, .int .i64 p_.Target, .int .i64 p_.Prev, .int .i64 p_.Spill, .int .i64 p_.Percent, .int .i64 p_.Stamp, .int .i64 p_.Since, .int .i64 p_.Ramped, .int .u64 p_.Up, .int .u64 p_.Sup, .sl false 1 (List.map (eInt .i64) p_.Pen), .sl false 1 (List.map (eInt .i64) p_.Changes)]] [] (Rs plan_Right_e r) := so (fn := Tryz.f52) (k := false) (m := 0) h <| by
 intro r h; unfold plan_Right at h
 refine zs 17 h (fun h => ?_) fun h => ?_
 ·
  exact zg 1 (plan_Right_3_ok h)
 refine zc 14 [] h (fun _ => plan_all_v2_ok) fun y2 h => ?_
 refine zs 4 h (fun h => ?_) fun h => ?_
 ·
  exact zg 1 (plan_Right_3_ok h)
 refine zc 7 [] h (fun _ => plan_all_v2_ok) fun y4 h => ?_
 exact zg 3 (plan_Right_3_ok h)
end Go.RX.L

namespace Go.RX.L
open Go Go.RX Go.Proofs
attribute [local irreducible] FinQ
noncomputable def plan_numbers_e (y : Int × Int × Int × Int × Int × Int × Int × Int × Int × Int) : D × Sto := (.agg [.int .i64 y.1, .int .i64 y.2.1, .int .i64 y.2.2.1, .int .i64 y.2.2.2.1, .int .i64 y.2.2.2.2.1, .int .i64 y.2.2.2.2.2.1, .int .i64 y.2.2.2.2.2.2.1, .int .i64 y.2.2.2.2.2.2.2.1, .int .i64 y.2.2.2.2.2.2.2.2.1, .int .i64 y.2.2.2.2.2.2.2.2.2], [])
noncomputable def plan_numbers (p_ : Plan) : Option (Int × Int × Int × Int × Int × Int × Int × Int × Int × Int) := (some (p_.Epoch, p_.Target, p_.Prev, p_.Spill, p_.Percent, p_.Stamp, p_.Since, p_.Ramped, (IntKind.i64.wrap (p_.Up)), (IntKind.i64.wrap (p_.Sup))))
theorem plan_numbers_ok {p_ : Plan} {r : Int × Int × Int × Int × Int × Int × Int × Int × Int × Int} (h : plan_numbers p_ = some r) : Sound E 75 [.agg [.int .i64 p_.Epoch, .int .i64 p_.Target, .int .i64 p_.Prev, .int .i64 p_.Spill, .int .i64 p_.Percent, .int .i64 p_.Stamp, .int .i64 p_.Since, .int .i64 p_.Ramped, .int .u64 p_.Up, .int .u64 p_.Sup, .sl false 1 (List.map (eInt .i64) p_.Pen), .sl false 1 (List.map (eInt .i64) p_.Changes)]] [] (Rs plan_numbers_e r) := so (fn := Tryz.f75) (k := false) (m := 0) h <| by
 intro r h; unfold plan_numbers at h
 exact zu 47 h
end Go.RX.L

namespace Go.RX.L
open Go Go.RX Go.Proofs
attribute [local irreducible] FinQ
noncomputable def slices_Equal_c := codeAt (bodyOf Tryz.f76)
noncomputable def slices_Equal_e (y : Bool) : D × Sto := (.bool y, [])
inductive slices_Equal_S where
 | s0 (s1 s2 : List Int)
 | s1 (s1 s2 : List Int) (t12 t13 : Int)
noncomputable def slices_Equal_M : slices_Equal_S → M
 | .s0 s1 s2 => startM Tryz.f76 [.sl false 1 (List.map (eInt .i64) s1), .sl false 1 (List.map (eInt .i64) s2)] []
 | .s1 s1 s2 t12 t13 => ⟨[.lpc (slices_Equal_c [1, 1, 0, 1, 0, 0]) 12291, .blk 0, .code (slices_Equal_c [1, 1, 1])], [(0, .sl false 1 (List.map (eInt .i64) s1)), (1, .sl false 1 (List.map (eInt .i64) s2)), (12, .int .i64 t12), (13, .int .i64 t13)], []⟩
abbrev slices_Equal_W := SOk E (Cx.of Tryz.f76 false 0) slices_Equal_e slices_Equal_M
noncomputable def slices_Equal_0 (s1 s2 : List Int) : Option (slices_Equal_S ⊕ Bool) := (bif (((((List.map (eInt .i64) s1).length : Nat) : Int) : Int) != (((List.map (eInt .i64) s2).length : Nat) : Int)) then (some (.inr false)) else (some (.inl (.s1 s1 s2 (((List.map (eInt .i64) s1).length : Nat) : Int) 0))))
noncomputable def slices_Equal_1 (s1 s2 : List Int) (t12 t13 : Int) : Option (slices_Equal_S ⊕ Bool) := (bif (decide ((t13 : Int) < t12)) then (bif ((decide ((0 : Int) ≤ t13)) && (decide ((t13 : Int) < (((List.map (eInt .i64) s1).length : Nat) : Int)))) then (((s1)[t13.toNat]?).bind fun y3 => (bif ((decide ((0 : Int) ≤ t13)) && (decide ((t13 : Int) < (((List.map (eInt .i64) s2).length : Nat) : Int)))) then (((s2)[t13.toNat]?).bind fun y6 => (bif ((y3 : Int) != y6) then (some (.inr false)) else (some (.inl (.s1 s1 s2 t12 (IntKind.i64.wrap (t13 + 1))))))) else none)) else none) else (some (.inr true)))
noncomputable def slices_Equal_step : slices_Equal_S → Option (slices_Equal_S ⊕ Bool)
 | .s0 s1 s2 => slices_Equal_0 s1 s2
 | .s1 s1 s2 t12 t13 => slices_Equal_1 s1 s2 t12 t13
theorem slices_Equal_0_ok {s1 s2} : slices_Equal_W (.s0 s1 s2) (slices_Equal_0 s1 s2) := by
 intro r x h ha; unfold slices_Equal_0 at h
 refine zs 14 h (fun h => ?_) fun h => ?_
 ·
  exact zt 5 h ha
 exact zj 11 h ha
theorem slices_Equal_1_ok {s1 s2 t12 t13} : slices_Equal_W (.s1 s1 s2 t12 t13) (slices_Equal_1 s1 s2 t12 t13) := by
 intro r x h ha; unfold slices_Equal_1 at h
 refine zs 7 h (fun h => ?_) fun h => ?_
 ·
  refine zn 10 h fun h => ?_
  refine zr 0 (eInt .i64) h fun y3 h => ?_
  refine zn 0 h fun h => ?_
  refine zr 0 (eInt .i64) h fun y6 h => ?_
  refine zs 1 h (fun h => ?_) fun h => ?_
  ·
   exact zt 5 h ha
  exact zj 7 h ha
 exact zt 6 h ha
noncomputable def slices_Equal (s1 s2 : List Int) : Option Bool := evf slices_Equal_step (.s0 s1 s2)
theorem slices_Equal_ok {s1 s2 : List Int} {r : Bool} (h : slices_Equal s1 s2 = some r) : Sound E 76 [.sl false 1 (List.map (eInt .i64) s1), .sl false 1 (List.map (eInt .i64) s2)] [] (Rs slices_Equal_e r) := sc (fn := Tryz.f76) (k := false) (m := 0) (stM := slices_Equal_M) h fun s => by
 cases s with
 | s0 => exact slices_Equal_0_ok
 | s1 => exact slices_Equal_1_ok
end Go.RX.L

namespace Go.RX.L
open Go Go.RX Go.Proofs
attribute [local irreducible] FinQ
noncomputable def slices_Equal_v2_c := codeAt (bodyOf Tryz.f59)
noncomputable def slices_Equal_v2_e (y : Bool) : D × Sto := (.bool y, [])
inductive slices_Equal_v2_S where
 | s0 (s1 s2 : List Int)
 | s1 (s1 s2 : List Int) (t12 t13 : Int)
noncomputable def slices_Equal_v2_M : slices_Equal_v2_S → M
 | .s0 s1 s2 => startM Tryz.f59 [.sl false 1 (List.map (eInt .i64) s1), .sl false 1 (List.map (eInt .i64) s2)] []
 | .s1 s1 s2 t12 t13 => ⟨[.lpc (slices_Equal_v2_c [1, 1, 0, 1, 0, 0]) 12291, .blk 0, .code (slices_Equal_v2_c [1, 1, 1])], [(0, .sl false 1 (List.map (eInt .i64) s1)), (1, .sl false 1 (List.map (eInt .i64) s2)), (12, .int .i64 t12), (13, .int .i64 t13)], []⟩
abbrev slices_Equal_v2_W := SOk E (Cx.of Tryz.f59 false 0) slices_Equal_v2_e slices_Equal_v2_M
noncomputable def slices_Equal_v2_0 (s1 s2 : List Int) : Option (slices_Equal_v2_S ⊕ Bool) := (bif (((((List.map (eInt .i64) s1).length : Nat) : Int) : Int) != (((List.map (eInt .i64) s2).length : Nat) : Int)) then (some (.inr false)) else (some (.inl (.s1 s1 s2 (((List.map (eInt .i64) s1).length : Nat) : Int) 0))))
noncomputable def slices_Equal_v2_1 (s1 s2 : List Int) (t12 t13 : Int) : Option (slices_Equal_v2_S ⊕ Bool) := (bif (decide ((t13 : Int) < t12)) then (bif ((decide ((0 : Int) ≤ t13)) && (decide ((t13 : Int) < (((List.map (eInt .i64) s1).length : Nat) : Int)))) then (((s1)[t13.toNat]?).bind fun y3 => (bif ((decide ((0 : Int) ≤ t13)) && (decide ((t13 : Int) < (((List.map (eInt .i64) s2).length : Nat) : Int)))) then (((s2)[t13.toNat]?).bind fun y6 => (bif ((y3 : Int) != y6) then (some (.inr false)) else (some (.inl (.s1 s1 s2 t12 (IntKind.i64.wrap (t13 + 1))))))) else none)) else none) else (some (.inr true)))
noncomputable def slices_Equal_v2_step : slices_Equal_v2_S → Option (slices_Equal_v2_S ⊕ Bool)
 | .s0 s1 s2 => slices_Equal_v2_0 s1 s2
 | .s1 s1 s2 t12 t13 => slices_Equal_v2_1 s1 s2 t12 t13
theorem slices_Equal_v2_0_ok {s1 s2} : slices_Equal_v2_W (.s0 s1 s2) (slices_Equal_v2_0 s1 s2) := by
 intro r x h ha; unfold slices_Equal_v2_0 at h
 refine zs 14 h (fun h => ?_) fun h => ?_
 ·
  exact zt 5 h ha
 exact zj 11 h ha
theorem slices_Equal_v2_1_ok {s1 s2 t12 t13} : slices_Equal_v2_W (.s1 s1 s2 t12 t13) (slices_Equal_v2_1 s1 s2 t12 t13) := by
 intro r x h ha; unfold slices_Equal_v2_1 at h
 refine zs 7 h (fun h => ?_) fun h => ?_
 ·
  refine zn 10 h fun h => ?_
  refine zr 0 (eInt .i64) h fun y3 h => ?_
  refine zn 0 h fun h => ?_
  refine zr 0 (eInt .i64) h fun y6 h => ?_
  refine zs 1 h (fun h => ?_) fun h => ?_
  ·
   exact zt 5 h ha
  exact zj 7 h ha
 exact zt 6 h ha
noncomputable def slices_Equal_v2 (s1 s2 : List Int) : Option Bool := evf slices_Equal_v2_step (.s0 s1 s2)
theorem slices_Equal_v2_ok {s1 s2 : List Int} {r : Bool} (h : slices_Equal_v2 s1 s2 = some r) : Sound E 59 [.sl false 1 (List.map (eInt .i64) s1), .sl false 1 (List.map (eInt .i64) s2)] [] (Rs slices_Equal_v2_e r) := sc (fn := Tryz.f59) (k := false) (m := 0) (stM := slices_Equal_v2_M) h fun s => by
 cases s with
 | s0 => exact slices_Equal_v2_0_ok
 | s1 => exact slices_Equal_v2_1_ok
end Go.RX.L

namespace Go.RX.L
open Go Go.RX Go.Proofs
attribute [local irreducible] FinQ
noncomputable def plan_Same_e (y : Bool) : D × Sto := (.bool y, [])
noncomputable def plan_Same (a b : Plan) : Option Bool := ((plan_numbers a).bind fun y1 => ((plan_numbers b).bind fun y2 => (bif (((y1.1 : Int) == y2.1) && (((y1.2.1 : Int) == y2.2.1) && (((y1.2.2.1 : Int) == y2.2.2.1) && (((y1.2.2.2.1 : Int) == y2.2.2.2.1) && (((y1.2.2.2.2.1 : Int) == y2.2.2.2.2.1) && (((y1.2.2.2.2.2.1 : Int) == y2.2.2.2.2.2.1) && (((y1.2.2.2.2.2.2.1 : Int) == y2.2.2.2.2.2.2.1) && (((y1.2.2.2.2.2.2.2.1 : Int) == y2.2.2.2.2.2.2.2.1) && (((y1.2.2.2.2.2.2.2.2.1 : Int) == y2.2.2.2.2.2.2.2.2.1) && (((y1.2.2.2.2.2.2.2.2.2 : Int) == y2.2.2.2.2.2.2.2.2.2) && true)))))))))) then ((slices_Equal a.Pen b.Pen).bind fun y4 => (bif y4 then ((slices_Equal_v2 a.Changes b.Changes).bind fun y6 => (some y6)) else (some false))) else (some false))))
theorem plan_Same_ok {a b : Plan} {r : Bool} (h : plan_Same a b = some r) : Sound E 53 [.agg [.int .i64 a.Epoch, .int .i64 a.Target, .int .i64 a.Prev, .int .i64 a.Spill, .int .i64 a.Percent, .int .i64 a.Stamp, .int .i64 a.Since, .int .i64 a.Ramped, .int .u64 a.Up, .int .u64 a.Sup, .sl false 1 (List.map (eInt .i64) a.Pen), .sl false 1 (List.map (eInt .i64) a.Changes)], .agg [.int .i64 b.Epoch, .int .i64 b.Target, .int .i64 b.Prev, .int .i64 b.Spill, .int .i64 b.Percent, .int .i64 b.Stamp, .int .i64 b.Since, .int .i64 b.Ramped, .int .u64 b.Up, .int .u64 b.Sup, .sl false 1 (List.map (eInt .i64) b.Pen), .sl false 1 (List.map (eInt .i64) b.Changes)]] [] (Rs plan_Same_e r) := so (fn := Tryz.f53) (k := false) (m := 0) h <| by
 intro r h; unfold plan_Same at h
 refine zd 9 [] h (fun _ => plan_numbers_ok) fun y1 h => ?_
 refine zd 1 [] h (fun _ => plan_numbers_ok) fun y2 h => ?_
 refine zs 0 h (fun h => ?_) fun h => ?_
 ·
  refine zd 6 [] h (fun _ => slices_Equal_ok) fun y4 h => ?_
  refine zs 1 h (fun h => ?_) fun h => ?_
  ·
   refine zd 6 [] h (fun _ => slices_Equal_v2_ok) fun y6 h => ?_
   exact zu 2 h
  exact zu 6 h
 exact zu 12 h
end Go.RX.L

namespace Go.RX.L
open Go Go.RX Go.Proofs
attribute [local irreducible] FinQ
noncomputable def msg_Right_c := codeAt (bodyOf Tryz.f37)
noncomputable def msg_Right_e (y : Bool) : D × Sto := (.bool y, [])
abbrev msg_Right_W := AOk E (Cx.of Tryz.f37 false 0) msg_Right_e
noncomputable def msg_Right_1M (t30 : Bool) (m : Msg) : M := ⟨[.code (msg_Right_c [1, 0, 0, 1, 1, 1]), .blk 0, .code (msg_Right_c [1, 1])], [(1, .ptr 0 0 0), (30, .bool t30)], [some ⟨26, false, [(Msg.enc m)]⟩]⟩
noncomputable def msg_Right_1 (t30 : Bool) (m : Msg) : Option Bool := (bif t30 then (some false) else (bif m.HasPlan then ((plan_Right m.Plan).bind fun y3 => (some y3)) else ((plan_Same m.Plan (⟨0, 0, 0, 0, 0, 0, 0, 0, 0, 0, [], []⟩ : Plan)).bind fun y4 => (some y4))))
theorem msg_Right_1_ok {t30 m} : msg_Right_W (msg_Right_1M t30 m) (msg_Right_1 t30 m) := by
 intro r h; unfold msg_Right_1 at h
 refine zs 1 h (fun h => ?_) fun h => ?_
 ·
  exact zu 5 h
 refine zs 8 h (fun h => ?_) fun h => ?_
 ·
  refine zc 6 [] h (fun _ => plan_Right_ok) fun y3 h => ?_
  exact zu 3 h
 refine zc 9 [some 1, some 1] h (fun _ => plan_Same_ok) fun y4 h => ?_
 exact zu 3 h
noncomputable def msg_Right_2M (t30 : Bool) (m : Msg) : M := ⟨[.code (msg_Right_c [1, 0, 0, 1, 1, 0, 1]), .code (msg_Right_c [1, 0, 0, 1, 1, 1]), .blk 0, .code (msg_Right_c [1, 1])], [(1, .ptr 0 0 0), (30, .bool t30)], [some ⟨26, false, [(Msg.enc m)]⟩]⟩
noncomputable def msg_Right_2 (t30 : Bool) (m : Msg) : Option Bool := (bif t30 then (msg_Right_1 t30 m) else (bif (decide (((((List.map (eInt .u8) m.Session).length : Nat) : Int) : Int) > 64)) then (msg_Right_1 (decide (((((List.map (eInt .u8) m.Session).length : Nat) : Int) : Int) > 64)) m) else (msg_Right_1 (decide (((((List.map (eInt .u8) m.Payload).length : Nat) : Int) : Int) > 1024)) m)))
theorem msg_Right_2_ok {t30 m} : msg_Right_W (msg_Right_2M t30 m) (msg_Right_2 t30 m) := by
 intro r h; unfold msg_Right_2 at h
 refine zs 1 h (fun h => ?_) fun h => ?_
 ·
  exact zg 1 (msg_Right_1_ok h)
 refine zs 10 h (fun h => ?_) fun h => ?_
 ·
  exact zg 1 (msg_Right_1_ok h)
 exact zg 8 (msg_Right_1_ok h)
noncomputable def msg_Right_3M (t3 : Bool) (m : Msg) : M := ⟨[.code (msg_Right_c [1, 0, 0, 1]), .blk 0, .code (msg_Right_c [1, 1])], [(1, .ptr 0 0 0), (3, .bool t3)], [some ⟨26, false, [(Msg.enc m)]⟩]⟩
noncomputable def msg_Right_3 (t3 : Bool) (m : Msg) : Option Bool := (bif t3 then (some false) else (bif (decide (((((List.map (eInt .i64) m.ID).length : Nat) : Int) : Int) > 0)) then (msg_Right_2 (((((List.map (eInt .i64) m.ID).length : Nat) : Int) : Int) != 3) m) else (msg_Right_2 false m)))
theorem msg_Right_3_ok {t3 m} : msg_Right_W (msg_Right_3M t3 m) (msg_Right_3 t3 m) := by
 intro r h; unfold msg_Right_3 at h
 refine zs 1 h (fun h => ?_) fun h => ?_
 ·
  exact zu 5 h
 refine zs 10 h (fun h => ?_) fun h => ?_
 ·
  exact zg 11 (msg_Right_2_ok h)
 exact zg 10 (msg_Right_2_ok h)
noncomputable def msg_Right (m : Msg) : Option Bool := (bif (decide ((m.Kind : Int) < 1)) then (msg_Right_3 (decide ((m.Kind : Int) < 1)) m) else (bif (decide ((m.Kind : Int) > 19)) then (msg_Right_3 (decide ((m.Kind : Int) > 19)) m) else (bif (decide (((mnI (mnI m.From m.To) m.Code) : Int) < 0)) then (msg_Right_3 (decide (((mnI (mnI m.From m.To) m.Code) : Int) < 0)) m) else (bif (decide (((mxI m.From m.To) : Int) > 255)) then (msg_Right_3 (decide (((mxI m.From m.To) : Int) > 255)) m) else (bif (decide ((m.Code : Int) > 1000)) then (msg_Right_3 (decide ((m.Code : Int) > 1000)) m) else (msg_Right_3 (decide ((m.Up : Int) ≥ 65536)) m))))))
theorem msg_Right_ok {m : Msg} {r : Bool} (h : msg_Right m = some r) : Sound E 37 [.agg [.int .i64 m.Kind, .int .i64 m.From, .int .i64 m.To, .int .i64 m.Epoch, .int .i64 m.Ballot, .int .i64 m.Accepted, .int .i64 m.Nonce, .int .i64 m.Time, .int .u64 m.Up, .int .i64 m.Code, .bool m.HasPlan, .int .i64 m.Plan.Epoch, .int .i64 m.Plan.Target, .int .i64 m.Plan.Prev, .int .i64 m.Plan.Spill, .int .i64 m.Plan.Percent, .int .i64 m.Plan.Stamp, .int .i64 m.Plan.Since, .int .i64 m.Plan.Ramped, .int .u64 m.Plan.Up, .int .u64 m.Plan.Sup, .sl false 1 (List.map (eInt .i64) m.Plan.Pen), .sl false 1 (List.map (eInt .i64) m.Plan.Changes), .sl false 1 (List.map (eInt .i64) m.ID), .sl false 1 (List.map (eInt .u8) m.Session), .sl false 1 (List.map (eInt .u8) m.Payload)]] [] (Rs msg_Right_e r) := so (fn := Tryz.f37) (k := false) (m := 0) h <| by
 intro r h; unfold msg_Right at h
 refine zs 17 h (fun h => ?_) fun h => ?_
 ·
  exact zg 1 (msg_Right_3_ok h)
 refine zs 9 h (fun h => ?_) fun h => ?_
 ·
  exact zg 1 (msg_Right_3_ok h)
 refine zs 16 h (fun h => ?_) fun h => ?_
 ·
  exact zg 1 (msg_Right_3_ok h)
 refine zs 13 h (fun h => ?_) fun h => ?_
 ·
  exact zg 1 (msg_Right_3_ok h)
 refine zs 9 h (fun h => ?_) fun h => ?_
 ·
  exact zg 1 (msg_Right_3_ok h)
 exact zg 7 (msg_Right_3_ok h)
end Go.RX.L

namespace Go.RX.L
open Go Go.RX Go.Proofs
attribute [local irreducible] FinQ
noncomputable def Target_fits_e (fence : Int) (known : Plan) (hold : Hold) (begun filled : Int) (c : Config) (index : Int) (well : Bool) (b1 : List Entry) (b2 : List (List Int)) (fuse : Int) (down : Bool) (b4 b5 : List Int) (y : Bool) : D × Sto := (.bool y, [some ⟨54, true, [([.int .i64 fence] ++ Plan.encL known ([.int .i64 hold.Epoch, .int .i64 hold.Nonce, .int .u64 hold.Grants, .int .i64 hold.Until, (grD 1 (List.map Entry.enc b1)), (grD 2 (List.map (eSl 1 (eInt .i64)) b2)), .int .i64 begun, .int .i64 filled] ++ Config.encL c [.int .i64 index, .ptr 3 0 0, .bool well]))]⟩, some ⟨3, false, (List.map Entry.enc b1)⟩, some ⟨1, false, (List.map (eSl 1 (eInt .i64)) b2)⟩, some ⟨4, true, [[(grD 4 (List.map (eInt .u8) b4)), (grD 5 (List.map (eInt .u8) b5)), .int .i64 fuse, .bool down]]⟩, some ⟨1, false, (List.map (eInt .u8) b4)⟩, some ⟨1, false, (List.map (eInt .u8) b5)⟩])
noncomputable def Target_fits (p_ : Plan) (fence : Int) (known : Plan) (hold : Hold) (begun filled : Int) (c : Config) (index : Int) (well : Bool) (b1 : List Entry) (b2 : List (List Int)) (fuse : Int) (down : Bool) (b4 b5 : List Int) : Option Bool := (bif (!decide ((c.Targets : Int) < 0)) then ((plan_Right p_).bind fun y2 => (bif y2 then (bif (((((List.map (eInt .i64) p_.Pen).length : Nat) : Int) : Int) == c.Targets) then (bif (decide (((mxI (mxI p_.Target p_.Prev) p_.Spill) : Int) < c.Targets)) then (bif (((andNotI .u64 (orI .u64 p_.Up p_.Sup) (IntKind.u64.wrap ((shlI .u64 1 c.Targets) - 1))) : Int) == 0) then (some (decide (((((List.map (eInt .i64) p_.Changes).length : Nat) : Int) : Int) ≤ c.B_))) else (some false)) else (some false)) else (some false)) else (some false))) else none)
theorem Target_fits_ok {p_ : Plan} {fence : Int} {known : Plan} {hold : Hold} {begun filled : Int} {c : Config} {index : Int} {well : Bool} {b1 : List Entry} {b2 : List (List Int)} {fuse : Int} {down : Bool} {b4 b5 : List Int} {r : Bool} (h : Target_fits p_ fence known hold begun filled c index well b1 b2 fuse down b4 b5 = some r) : Sound E 39 [.ptr 0 0 0, .agg [.int .i64 p_.Epoch, .int .i64 p_.Target, .int .i64 p_.Prev, .int .i64 p_.Spill, .int .i64 p_.Percent, .int .i64 p_.Stamp, .int .i64 p_.Since, .int .i64 p_.Ramped, .int .u64 p_.Up, .int .u64 p_.Sup, .sl false 1 (List.map (eInt .i64) p_.Pen), .sl false 1 (List.map (eInt .i64) p_.Changes)]] [some ⟨54, true, [([.int .i64 fence] ++ Plan.encL known ([.int .i64 hold.Epoch, .int .i64 hold.Nonce, .int .u64 hold.Grants, .int .i64 hold.Until, (grD 1 (List.map Entry.enc b1)), (grD 2 (List.map (eSl 1 (eInt .i64)) b2)), .int .i64 begun, .int .i64 filled] ++ Config.encL c [.int .i64 index, .ptr 3 0 0, .bool well]))]⟩, some ⟨3, false, (List.map Entry.enc b1)⟩, some ⟨1, false, (List.map (eSl 1 (eInt .i64)) b2)⟩, some ⟨4, true, [[(grD 4 (List.map (eInt .u8) b4)), (grD 5 (List.map (eInt .u8) b5)), .int .i64 fuse, .bool down]]⟩, some ⟨1, false, (List.map (eInt .u8) b4)⟩, some ⟨1, false, (List.map (eInt .u8) b5)⟩] (Rs (Target_fits_e fence known hold begun filled c index well b1 b2 fuse down b4 b5) r) := so (fn := Tryz.f39) (k := true) (m := 6) h <| by
 intro r h; unfold Target_fits at h
 refine zn 14 h fun h => ?_
 refine zd 6 [] h (fun _ => plan_Right_ok) fun y2 h => ?_
 refine zs 0 h (fun h => ?_) fun h => ?_
 ·
  refine zs 11 h (fun h => ?_) fun h => ?_
  ·
   refine zs 17 h (fun h => ?_) fun h => ?_
   ·
    refine zs 10 h (fun h => ?_) fun h => ?_
    ·
     exact zu 12 h
    exact zu 10 h
   exact zu 19 h
  exact zu 33 h
 exact zu 43 h
end Go.RX.L

namespace Go.RX.L
open Go Go.RX Go.Proofs
attribute [local irreducible] FinQ
noncomputable def crc_Add_c := codeAt (bodyOf Tryz.f101)
noncomputable def crc_Add_e (y : Int) : D × Sto := (.int .u32 y, [])
inductive crc_Add_S where
 | s0 (sum : Int) (b : List Int)
 | s1 (r_ : Int) (t10 : List Int) (t11 t12 : Int)
noncomputable def crc_Add_M : crc_Add_S → M
 | .s0 sum b => startM Tryz.f101 [.int .u32 sum, .sl false 1 (List.map (eInt .u8) b)] []
 | .s1 r_ t10 t11 t12 => ⟨[.lpc (crc_Add_c [1, 1, 0, 1, 0, 0]) 7200, .blk 0, .code (crc_Add_c [1, 1, 1])], [(5, .int .u32 r_), (10, .sl false 1 (List.map (eInt .u8) t10)), (11, .int .i64 t11), (12, .int .i64 t12)], []⟩
abbrev crc_Add_W := SOk E (Cx.of Tryz.f101 false 0) crc_Add_e crc_Add_M
noncomputable def crc_Add_0 (sum : Int) (b : List Int) : Option (crc_Add_S ⊕ Int) := (some (.inl (.s1 (xorI .u32 4294967295 sum) b (((List.map (eInt .u8) b).length : Nat) : Int) 0)))
noncomputable def crc_Add_1 (r_ : Int) (t10 : List Int) (t11 t12 : Int) : Option (crc_Add_S ⊕ Int) := (bif (decide ((t12 : Int) < t11)) then (bif ((decide ((0 : Int) ≤ t12)) && (decide ((t12 : Int) < (((List.map (eInt .u8) t10).length : Nat) : Int)))) then (((t10)[t12.toNat]?).bind fun y3 => (bif ((decide ((0 : Int) ≤ (andI .u32 (xorI .u32 r_ (IntKind.u32.wrap (y3))) 15))) && (decide (((andI .u32 (xorI .u32 r_ (IntKind.u32.wrap (y3))) 15) : Int) < ((16 : Nat) : Int)))) then (((gl_four)[(0 + (andI .u32 (xorI .u32 r_ (IntKind.u32.wrap (y3))) 15).toNat)]?).bind fun y6 => (bif ((decide ((0 : Int) ≤ (andI .u32 (xorI .u32 (shrI .u32 (xorI .u32 r_ (IntKind.u32.wrap (y3))) 4) y6) 15))) && (decide (((andI .u32 (xorI .u32 (shrI .u32 (xorI .u32 r_ (IntKind.u32.wrap (y3))) 4) y6) 15) : Int) < ((16 : Nat) : Int)))) then (((gl_four)[(0 + (andI .u32 (xorI .u32 (shrI .u32 (xorI .u32 r_ (IntKind.u32.wrap (y3))) 4) y6) 15).toNat)]?).bind fun y9 => (some (.inl (.s1 (xorI .u32 (shrI .u32 (xorI .u32 (shrI .u32 (xorI .u32 r_ (IntKind.u32.wrap (y3))) 4) y6) 4) y9) t10 t11 (IntKind.i64.wrap (t12 + 1)))))) else none)) else none)) else none) else (some (.inr (xorI .u32 4294967295 r_))))
noncomputable def crc_Add_step : crc_Add_S → Option (crc_Add_S ⊕ Int)
 | .s0 sum b => crc_Add_0 sum b
 | .s1 r_ t10 t11 t12 => crc_Add_1 r_ t10 t11 t12
theorem crc_Add_0_ok {sum b} : crc_Add_W (.s0 sum b) (crc_Add_0 sum b) := by
 intro r x h ha; unfold crc_Add_0 at h
 exact zj 20 h ha
theorem crc_Add_1_ok {r_ t10 t11 t12} : crc_Add_W (.s1 r_ t10 t11 t12) (crc_Add_1 r_ t10 t11 t12) := by
 intro r x h ha; unfold crc_Add_1 at h
 refine zs 7 h (fun h => ?_) fun h => ?_
 ·
  refine zn 6 h fun h => ?_
  refine zr 1 (eInt .u8) h fun y3 h => ?_
  refine zn 18 h fun h => ?_
  refine zr 1 (eInt .u32) h fun y6 h => ?_
  refine zn 10 h fun h => ?_
  refine zr 1 (eInt .u32) h fun y9 h => ?_
  exact zj 9 h ha
 exact zt 8 h ha
noncomputable def crc_Add (sum : Int) (b : List Int) : Option Int := evf crc_Add_step (.s0 sum b)
theorem crc_Add_ok {sum : Int} {b : List Int} {r : Int} (h : crc_Add sum b = some r) : Sound E 101 [.int .u32 sum, .sl false 1 (List.map (eInt .u8) b)] [] (Rs crc_Add_e r) := sc (fn := Tryz.f101) (k := false) (m := 0) (stM := crc_Add_M) h fun s => by
 cases s with
 | s0 => exact crc_Add_0_ok
 | s1 => exact crc_Add_1_ok
end Go.RX.L

namespace Go.RX.L
open Go Go.RX Go.Proofs
attribute [local irreducible] FinQ
noncomputable def crc_Sum_e (y : Int) : D × Sto := (.int .u32 y, [])
noncomputable def crc_Sum (b : List Int) : Option Int := ((crc_Add 0 b).bind fun y1 => (some y1))
theorem crc_Sum_ok {b : List Int} {r : Int} (h : crc_Sum b = some r) : Sound E 97 [.sl false 1 (List.map (eInt .u8) b)] [] (Rs crc_Sum_e r) := so (fn := Tryz.f97) (k := false) (m := 0) h <| by
 intro r h; unfold crc_Sum at h
 refine zc 8 [] h (fun _ => crc_Add_ok) fun y1 h => ?_
 exact zu 3 h
end Go.RX.L

namespace Go.RX.L
open Go Go.RX Go.Proofs
attribute [local irreducible] FinQ
noncomputable def frame_Put_c := codeAt (bodyOf Tryz.f80)
noncomputable def frame_Put_e (y : (List Int) × Int) : D × Sto := (.tup [.sl false 1 (List.map (eInt .u8) y.1), .int .i64 y.2], [])
inductive frame_Put_S where
 | s0 (kind : Int) (body : List Int)
 | s1 (sum shift : Int) (b : List Int)
noncomputable def frame_Put_M : frame_Put_S → M
 | .s0 kind body => startM Tryz.f80 [.int .u8 kind, .sl false 1 (List.map (eInt .u8) body)] []
 | .s1 sum shift b => ⟨[.lpc (frame_Put_c [1, 1, 1, 1, 1, 0, 1, 0, 0]) 896, .blk 0, .code (frame_Put_c [1, 1, 1, 1, 1, 1])], [(7, (grD 0 (List.map (eInt .u8) b))), (8, .int .u32 sum), (9, .int .i64 shift)], [some ⟨1, false, (List.map (eInt .u8) b)⟩]⟩
abbrev frame_Put_W := SOk E (Cx.of Tryz.f80 false 0) frame_Put_e frame_Put_M
noncomputable def frame_Put_0 (kind : Int) (body : List Int) : Option (frame_Put_S ⊕ ((List Int) × Int)) := (bif (decide (((((List.map (eInt .u8) body).length : Nat) : Int) : Int) > 8192)) then (some (.inr ([], 2))) else (bif (decide ((4 + (List.map (eInt .u8) body).length) * 1 ≤ bytesLim)) then (bif (decide ((1 : Int) ≤ (((List.map (eInt .u8) ([247, kind, (IntKind.u8.wrap ((shrI .i64 (((List.map (eInt .u8) body).length : Nat) : Int) 8))), (IntKind.u8.wrap ((((List.map (eInt .u8) body).length : Nat) : Int)))] ++ body)).length : Nat) : Int))) then (bif (Nat.ble (1 + ((List.map (eInt .u8) ([247, kind, (IntKind.u8.wrap ((shrI .i64 (((List.map (eInt .u8) body).length : Nat) : Int) 8))), (IntKind.u8.wrap ((((List.map (eInt .u8) body).length : Nat) : Int)))] ++ body)).length - 1)) ((List.map (eInt .u8) ([247, kind, (IntKind.u8.wrap ((shrI .i64 (((List.map (eInt .u8) body).length : Nat) : Int) 8))), (IntKind.u8.wrap ((((List.map (eInt .u8) body).length : Nat) : Int)))] ++ body)).length)) then ((crc_Sum (List.take ((List.map (eInt .u8) ([247, kind, (IntKind.u8.wrap ((shrI .i64 (((List.map (eInt .u8) body).length : Nat) : Int) 8))), (IntKind.u8.wrap ((((List.map (eInt .u8) body).length : Nat) : Int)))] ++ body)).length - 1) (List.drop 1 ([247, kind, (IntKind.u8.wrap ((shrI .i64 (((List.map (eInt .u8) body).length : Nat) : Int) 8))), (IntKind.u8.wrap ((((List.map (eInt .u8) body).length : Nat) : Int)))] ++ body)))).bind fun y5 => (some (.inl (.s1 y5 24 ([247, kind, (IntKind.u8.wrap ((shrI .i64 (((List.map (eInt .u8) body).length : Nat) : Int) 8))), (IntKind.u8.wrap ((((List.map (eInt .u8) body).length : Nat) : Int)))] ++ body))))) else none) else none) else none))
noncomputable def frame_Put_1 (sum shift : Int) (b : List Int) : Option (frame_Put_S ⊕ ((List Int) × Int)) := (bif (decide ((shift : Int) ≥ 0)) then (bif (!decide ((shift : Int) < 0)) then (bif (decide (((List.map (eInt .u8) b).length + 1) * 1 ≤ bytesLim)) then (some (.inl (.s1 sum (IntKind.i64.wrap (shift - 8)) (b ++ [(IntKind.u8.wrap ((shrI .u32 sum shift)))])))) else none) else none) else (some (.inr (b, 0))))
noncomputable def frame_Put_step : frame_Put_S → Option (frame_Put_S ⊕ ((List Int) × Int))
 | .s0 kind body => frame_Put_0 kind body
 | .s1 sum shift b => frame_Put_1 sum shift b
theorem frame_Put_0_ok {kind body} : frame_Put_W (.s0 kind body) (frame_Put_0 kind body) := by
 intro r x h ha; unfold frame_Put_0 at h
 refine zs 18 h (fun h => ?_) fun h => ?_
 ·
  exact zt 6 h ha [.slot 0 [some 1]]
 refine zn 13 h fun h => ?_
 refine zw 1 (a := ((List.map (eInt .u8) ([247, kind, (IntKind.u8.wrap ((shrI .i64 (((List.map (eInt .u8) body).length : Nat) : Int) 8))), (IntKind.u8.wrap ((((List.map (eInt .u8) body).length : Nat) : Int)))])) ++ (List.map (eInt .u8) body))) (b := (List.map (eInt .u8) ([247, kind, (IntKind.u8.wrap ((shrI .i64 (((List.map (eInt .u8) body).length : Nat) : Int) 8))), (IntKind.u8.wrap ((((List.map (eInt .u8) body).length : Nat) : Int)))] ++ body))) (by simp only [take_full, take_full', List.map_append, List.map_take, List.map_drop]) ?_
 refine zn 6 h fun h => ?_
 refine zn 1 h fun h => ?_
 refine zcE 0 [] (args1 := [.sl false 1 (List.take ((List.map (eInt .u8) ([247, kind, (IntKind.u8.wrap ((shrI .i64 (((List.map (eInt .u8) body).length : Nat) : Int) 8))), (IntKind.u8.wrap ((((List.map (eInt .u8) body).length : Nat) : Int)))] ++ body)).length - 1) (List.drop 1 (List.map (eInt .u8) ([247, kind, (IntKind.u8.wrap ((shrI .i64 (((List.map (eInt .u8) body).length : Nat) : Int) 8))), (IntKind.u8.wrap ((((List.map (eInt .u8) body).length : Nat) : Int)))] ++ body))))]) h (fun _ => crc_Sum_ok) ⟨by simp [List.take_of_length_le, List.map_take, List.map_drop], rfl⟩ fun y5 h => ?_
 exact zj 10 h ha
theorem frame_Put_1_ok {sum shift b} : frame_Put_W (.s1 sum shift b) (frame_Put_1 sum shift b) := by
 intro r x h ha; unfold frame_Put_1 at h
 refine zs 8 h (fun h => ?_) fun h => ?_
 ·
  refine zn 8 h fun h => ?_
  refine zn 4 h fun h => ?_
  refine za 0 (eInt .u8) b ([(IntKind.u8.wrap ((shrI .u32 sum shift)))]) ?_
  exact zj 9 h ha
 refine zm 8 (b := (Nat.ble (0 + (List.map (eInt .u8) b).length) ((List.map (eInt .u8) b).length))) (ble_full _) ?_
 obtain rfl := Option.some.inj h
 have hv := ha
 simp only [After] at hv
 subst hv
 exact r_retE [] (d1 := .tup [.sl false 1 (List.take ((List.map (eInt .u8) b).length) (List.drop 0 (List.map (eInt .u8) b))), .int .i64 0]) (d := .tup [.sl false 1 (List.map (eInt .u8) b), .int .i64 0]) (s1 := []) (s := []) (by kernel_rfl) ⟨by simp [List.take_of_length_le, List.map_take, List.map_drop], rfl⟩ ⟨rfl, rfl⟩ Cx.fin_of
noncomputable def frame_Put (kind : Int) (body : List Int) : Option ((List Int) × Int) := evf frame_Put_step (.s0 kind body)
theorem frame_Put_ok {kind : Int} {body : List Int} {r : (List Int) × Int} (h : frame_Put kind body = some r) : Sound E 80 [.int .u8 kind, .sl false 1 (List.map (eInt .u8) body)] [] (Rs frame_Put_e r) := sc (fn := Tryz.f80) (k := false) (m := 0) (stM := frame_Put_M) h fun s => by
 cases s with
 | s0 => exact frame_Put_0_ok
 | s1 => exact frame_Put_1_ok
end Go.RX.L

namespace Go.RX.L
open Go Go.RX Go.Proofs
attribute [local irreducible] FinQ
noncomputable def Journal_Append_1_e (b1 : List Int) (fuse : Int) (down : Bool) (b3 y : List Int) : D × Sto := (.tup [], [some ⟨1, true, [[.ptr 2 0 0]]⟩, some ⟨1, false, [[.sl false 1 (List.map (eInt .u8) b1)]]⟩, some ⟨4, true, [[(grD 3 (List.map (eInt .u8) b3)), (grD 5 (List.map (eInt .u8) y)), .int .i64 fuse, .bool down]]⟩, some ⟨1, false, (List.map (eInt .u8) b3)⟩, none, some ⟨1, false, (List.map (eInt .u8) y)⟩])
noncomputable def Journal_Append_1 (b1 : List Int) (fuse : Int) (down : Bool) (b3 b4 : List Int) : Option (List Int) := (bif (decide (((List.map (eInt .u8) b4).length + (List.map (eInt .u8) b1).length) * 1 ≤ bytesLim)) then (some (b4 ++ b1)) else none)
theorem Journal_Append_1_ok {b1 : List Int} {fuse : Int} {down : Bool} {b3 b4 r : List Int} (h : Journal_Append_1 b1 fuse down b3 b4 = some r) : Sound E 81 [.ptr 0 0 0, .ptr 1 0 0] [some ⟨1, true, [[.ptr 2 0 0]]⟩, some ⟨1, false, [[.sl false 1 (List.map (eInt .u8) b1)]]⟩, some ⟨4, true, [[(grD 3 (List.map (eInt .u8) b3)), (grD 4 (List.map (eInt .u8) b4)), .int .i64 fuse, .bool down]]⟩, some ⟨1, false, (List.map (eInt .u8) b3)⟩, some ⟨1, false, (List.map (eInt .u8) b4)⟩] (Rs (Journal_Append_1_e b1 fuse down b3) r) := so (fn := Tryz.f81) (k := true) (m := 5) h <| by
 intro r h; unfold Journal_Append_1 at h
 refine zn 5 h fun h => ?_
 refine za 0 (eInt .u8) b4 b1 ?_
 exact zu 3 h
end Go.RX.L

namespace Go.RX.L
open Go Go.RX Go.Proofs
attribute [local irreducible] FinQ
noncomputable def Journal_effect__Append_1_c := codeAt (bodyOf Tryz.f46)
noncomputable def Journal_effect__Append_1_e (b2 b3 : List Int) (y : Int × Int × Bool × (List Int)) : D × Sto := (.int .i64 y.1, [some ⟨4, true, [[(grD 5 (List.map (eInt .u8) b3)), (grD 6 (List.map (eInt .u8) y.2.2.2)), .int .i64 y.2.1, .bool y.2.2.1]]⟩, some ⟨1, true, [[.ptr 0 0 0]]⟩, some ⟨1, false, [[.sl false 1 (List.map (eInt .u8) b2)]]⟩, none, none, some ⟨1, false, (List.map (eInt .u8) b3)⟩, some ⟨1, false, (List.map (eInt .u8) y.2.2.2)⟩])
abbrev Journal_effect__Append_1_W (fuse : Int) (down : Bool) (b2 b3 b4 : List Int) := AOk E (Cx.of Tryz.f46 true 5) (Journal_effect__Append_1_e b2 b3)
noncomputable def Journal_effect__Append_1_1M (fuse : Int) (down : Bool) (b2 b3 b4 : List Int) (fuse2 : Int) (down2 : Bool) : M := ⟨[.code (Journal_effect__Append_1_c [1, 1])], [(0, .ptr 0 0 0), (1, .fn 81 [] [.ptr 1 0 0, .ptr 2 0 0])], [some ⟨4, true, [[(grD 3 (List.map (eInt .u8) b3)), (grD 4 (List.map (eInt .u8) b4)), .int .i64 fuse2, .bool down2]]⟩, some ⟨1, true, [[.ptr 0 0 0]]⟩, some ⟨1, false, [[.sl false 1 (List.map (eInt .u8) b2)]]⟩, some ⟨1, false, (List.map (eInt .u8) b3)⟩, some ⟨1, false, (List.map (eInt .u8) b4)⟩]⟩
noncomputable def Journal_effect__Append_1_1 (fuse : Int) (down : Bool) (b2 b3 b4 : List Int) (fuse2 : Int) (down2 : Bool) : Option (Int × Int × Bool × (List Int)) := (bif down2 then (some (61, fuse2, down2, b4)) else (bif (decide ((fuse2 : Int) > 0)) then ((Journal_Append_1 b2 (IntKind.i64.wrap (fuse2 - 1)) down2 b3 b4).bind fun y3 => (some (0, (IntKind.i64.wrap (fuse2 - 1)), down2, y3))) else ((Journal_Append_1 b2 fuse2 down2 b3 b4).bind fun y4 => (some (0, fuse2, down2, y4)))))
theorem Journal_effect__Append_1_1_ok {fuse down b2 b3 b4 fuse2 down2} : Journal_effect__Append_1_W fuse down b2 b3 b4 (Journal_effect__Append_1_1M fuse down b2 b3 b4 fuse2 down2) (Journal_effect__Append_1_1 fuse down b2 b3 b4 fuse2 down2) := by
 intro r h; unfold Journal_effect__Append_1_1 at h
 refine zs 10 h (fun h => ?_) fun h => ?_
 ·
  refine zf 4 [.mv 3, .mv 4] ?_
  exact zu 1 h
 refine zs 12 h (fun h => ?_) fun h => ?_
 ·
  refine zc 17 [] h (fun _ => Journal_Append_1_ok) fun y3 h => ?_
  refine zf 5 [.mv 3] ?_
  exact zu 1 h
 refine zc 5 [] h (fun _ => Journal_Append_1_ok) fun y4 h => ?_
 refine zf 5 [.mv 3] ?_
 exact zu 1 h
noncomputable def Journal_effect__Append_1_2M (fuse : Int) (down : Bool) (b2 b3 b4 : List Int) (t16 : Bool) : M := ⟨[.code (Journal_effect__Append_1_c [1, 0, 1]), .code (Journal_effect__Append_1_c [1, 1])], [(0, .ptr 0 0 0), (1, .fn 81 [] [.ptr 1 0 0, .ptr 2 0 0]), (16, .bool t16)], [some ⟨4, true, [[(grD 3 (List.map (eInt .u8) b3)), (grD 4 (List.map (eInt .u8) b4)), .int .i64 fuse, .bool down]]⟩, some ⟨1, true, [[.ptr 0 0 0]]⟩, some ⟨1, false, [[.sl false 1 (List.map (eInt .u8) b2)]]⟩, some ⟨1, false, (List.map (eInt .u8) b3)⟩, some ⟨1, false, (List.map (eInt .u8) b4)⟩]⟩
noncomputable def Journal_effect__Append_1_2 (fuse : Int) (down : Bool) (b2 b3 b4 : List Int) (t16 : Bool) : Option (Int × Int × Bool × (List Int)) := (bif t16 then (Journal_effect__Append_1_1 fuse down b2 b3 b4 (-1) true) else (Journal_effect__Append_1_1 fuse down b2 b3 b4 fuse down))
theorem Journal_effect__Append_1_2_ok {fuse down b2 b3 b4 t16} : Journal_effect__Append_1_W fuse down b2 b3 b4 (Journal_effect__Append_1_2M fuse down b2 b3 b4 t16) (Journal_effect__Append_1_2 fuse down b2 b3 b4 t16) := by
 intro r h; unfold Journal_effect__Append_1_2 at h
 refine zs 1 h (fun h => ?_) fun h => ?_
 ·
  exact zg 14 (Journal_effect__Append_1_1_ok h)
 exact zg 1 (Journal_effect__Append_1_1_ok h)
noncomputable def Journal_effect__Append_1 (fuse : Int) (down : Bool) (b2 b3 b4 : List Int) : Option (Int × Int × Bool × (List Int)) := (bif (!down) then (Journal_effect__Append_1_2 fuse down b2 b3 b4 ((fuse : Int) == 0)) else (Journal_effect__Append_1_2 fuse down b2 b3 b4 false))
theorem Journal_effect__Append_1_ok {fuse : Int} {down : Bool} {b2 b3 b4 : List Int} {r : Int × Int × Bool × (List Int)} (h : Journal_effect__Append_1 fuse down b2 b3 b4 = some r) : Sound E 46 [.ptr 0 0 0, .fn 81 [] [.ptr 1 0 0, .ptr 2 0 0]] [some ⟨4, true, [[(grD 3 (List.map (eInt .u8) b3)), (grD 4 (List.map (eInt .u8) b4)), .int .i64 fuse, .bool down]]⟩, some ⟨1, true, [[.ptr 0 0 0]]⟩, some ⟨1, false, [[.sl false 1 (List.map (eInt .u8) b2)]]⟩, some ⟨1, false, (List.map (eInt .u8) b3)⟩, some ⟨1, false, (List.map (eInt .u8) b4)⟩] (Rs (Journal_effect__Append_1_e b2 b3) r) := so (fn := Tryz.f46) (k := true) (m := 5) h <| by
 intro r h; unfold Journal_effect__Append_1 at h
 refine zs 15 h (fun h => ?_) fun h => ?_
 ·
  exact zg 12 (Journal_effect__Append_1_2_ok h)
 exact zg 11 (Journal_effect__Append_1_2_ok h)
end Go.RX.L

namespace Go.RX.L
open Go Go.RX Go.Proofs
attribute [local irreducible] FinQ
noncomputable def Journal_Append_e (b1 : List Int) (y : Int × Int × Bool × (List Int)) : D × Sto := (.int .i64 y.1, [some ⟨4, true, [[(grD 3 (List.map (eInt .u8) b1)), (grD 4 (List.map (eInt .u8) y.2.2.2)), .int .i64 y.2.1, .bool y.2.2.1]]⟩, none, none, some ⟨1, false, (List.map (eInt .u8) b1)⟩, some ⟨1, false, (List.map (eInt .u8) y.2.2.2)⟩])
noncomputable def Journal_Append (kind : Int) (body : List Int) (fuse : Int) (down : Bool) (b1 b2 : List Int) : Option (Int × Int × Bool × (List Int)) := ((frame_Put kind body).bind fun y1 => (bif ((y1.2 : Int) != 0) then (some (y1.2, fuse, down, b2)) else ((Journal_effect__Append_1 fuse down y1.1 b1 b2).bind fun y3 => (some (y3.1, y3.2.1, y3.2.2.1, y3.2.2.2)))))
theorem Journal_Append_ok {kind : Int} {body : List Int} {fuse : Int} {down : Bool} {b1 b2 : List Int} {r : Int × Int × Bool × (List Int)} (h : Journal_Append kind body fuse down b1 b2 = some r) : Sound E 55 [.ptr 0 0 0, .int .u8 kind, .sl false 1 (List.map (eInt .u8) body)] [some ⟨4, true, [[(grD 1 (List.map (eInt .u8) b1)), (grD 2 (List.map (eInt .u8) b2)), .int .i64 fuse, .bool down]]⟩, some ⟨1, false, (List.map (eInt .u8) b1)⟩, some ⟨1, false, (List.map (eInt .u8) b2)⟩] (Rs (Journal_Append_e b1) r) := so (fn := Tryz.f55) (k := true) (m := 3) h <| by
 intro r h; unfold Journal_Append at h
 refine zc 10 [] h (fun _ => frame_Put_ok) fun y1 h => ?_
 refine zs 16 h (fun h => ?_) fun h => ?_
 ·
  refine zf 5 [.mv 1, .mv 2] ?_
  exact zu 1 h
 refine zc 7 [] h (fun _ => Journal_effect__Append_1_ok) fun y3 h => ?_
 exact zu 3 h
end Go.RX.L

namespace Go.RX.L
open Go Go.RX Go.Proofs
attribute [local irreducible] FinQ
noncomputable def Journal_Sync_1_e (fuse : Int) (down : Bool) (b3 : List Int) (y : (List Int) × (List Int)) : D × Sto := (.tup [], [some ⟨1, true, [[.ptr 1 0 0]]⟩, some ⟨4, true, [[(grD 4 (List.map (eInt .u8) y.1)), (grD 5 (List.map (eInt .u8) y.2)), .int .i64 fuse, .bool down]]⟩, none, some ⟨1, false, (List.map (eInt .u8) b3)⟩, some ⟨1, false, (List.map (eInt .u8) y.1)⟩, some ⟨1, false, (List.map (eInt .u8) y.2)⟩])
noncomputable def Journal_Sync_1 (fuse : Int) (down : Bool) (b2 b3 : List Int) : Option ((List Int) × (List Int)) := (bif (decide (((List.map (eInt .u8) b2).length + (List.take ((List.map (eInt .u8) b3).length) (List.drop 0 (List.map (eInt .u8) b3))).length) * 1 ≤ bytesLim)) then (some ((b2 ++ b3), [])) else none)
theorem Journal_Sync_1_ok {fuse : Int} {down : Bool} {b2 b3 : List Int} {r : (List Int) × (List Int)} (h : Journal_Sync_1 fuse down b2 b3 = some r) : Sound E 82 [.ptr 0 0 0] [some ⟨1, true, [[.ptr 1 0 0]]⟩, some ⟨4, true, [[(grD 2 (List.map (eInt .u8) b2)), (grD 3 (List.map (eInt .u8) b3)), .int .i64 fuse, .bool down]]⟩, some ⟨1, false, (List.map (eInt .u8) b2)⟩, some ⟨1, false, (List.map (eInt .u8) b3)⟩] (Rs (Journal_Sync_1_e fuse down b3) r) := so (fn := Tryz.f82) (k := true) (m := 4) h <| by
 intro r h; unfold Journal_Sync_1 at h
 refine zm 7 (b := (Nat.beq ((List.take ((List.map (eInt .u8) b3).length) (List.drop 0 (List.map (eInt .u8) b3))).length) ((List.map (eInt .u8) b3).length))) (by simp) ?_
 refine zn 0 h fun h => ?_
 refine zm 0 (b := (Nat.ble (0 + (List.map (eInt .u8) b2).length) ((List.map (eInt .u8) b2).length))) (ble_full _) ?_
 refine zw 0 (a := (List.take ((List.map (eInt .u8) b2).length) (List.drop 0 (List.map (eInt .u8) b2)) ++ (List.take ((List.map (eInt .u8) b3).length) (List.drop 0 (List.map (eInt .u8) b3))))) (b := (List.map (eInt .u8) (b2 ++ b3))) (by simp only [take_full, take_full', List.map_append, List.map_take, List.map_drop]) ?_
 refine zf 4 [.matc 1 0 1 1] ?_
 exact zu 1 h
end Go.RX.L

namespace Go.RX.L
open Go Go.RX Go.Proofs
attribute [local irreducible] FinQ
noncomputable def Journal_effect__Sync_1_c := codeAt (bodyOf Tryz.f46)
noncomputable def Journal_effect__Sync_1_e (y : Int × Int × Bool × (List Int) × (List Int)) : D × Sto := (.int .i64 y.1, [some ⟨4, true, [[(grD 4 (List.map (eInt .u8) y.2.2.2.1)), (grD 5 (List.map (eInt .u8) y.2.2.2.2)), .int .i64 y.2.1, .bool y.2.2.1]]⟩, some ⟨1, true, [[.ptr 0 0 0]]⟩, none, none, some ⟨1, false, (List.map (eInt .u8) y.2.2.2.1)⟩, some ⟨1, false, (List.map (eInt .u8) y.2.2.2.2)⟩])
abbrev Journal_effect__Sync_1_W (fuse : Int) (down : Bool) (b2 b3 : List Int) := AOk E (Cx.of Tryz.f46 true 4) Journal_effect__Sync_1_e
noncomputable def Journal_effect__Sync_1_1M (fuse : Int) (down : Bool) (b2 b3 : List Int) (fuse2 : Int) (down2 : Bool) : M := ⟨[.code (Journal_effect__Sync_1_c [1, 1])], [(0, .ptr 0 0 0), (1, .fn 82 [] [.ptr 1 0 0])], [some ⟨4, true, [[(grD 2 (List.map (eInt .u8) b2)), (grD 3 (List.map (eInt .u8) b3)), .int .i64 fuse2, .bool down2]]⟩, some ⟨1, true, [[.ptr 0 0 0]]⟩, some ⟨1, false, (List.map (eInt .u8) b2)⟩, some ⟨1, false, (List.map (eInt .u8) b3)⟩]⟩
noncomputable def Journal_effect__Sync_1_1 (fuse : Int) (down : Bool) (b2 b3 : List Int) (fuse2 : Int) (down2 : Bool) : Option (Int × Int × Bool × (List Int) × (List Int)) := (bif down2 then (some (61, fuse2, down2, b2, b3)) else (bif (decide ((fuse2 : Int) > 0)) then ((Journal_Sync_1 (IntKind.i64.wrap (fuse2 - 1)) down2 b2 b3).bind fun y3 => (some (0, (IntKind.i64.wrap (fuse2 - 1)), down2, y3.1, y3.2))) else ((Journal_Sync_1 fuse2 down2 b2 b3).bind fun y4 => (some (0, fuse2, down2, y4.1, y4.2)))))
theorem Journal_effect__Sync_1_1_ok {fuse down b2 b3 fuse2 down2} : Journal_effect__Sync_1_W fuse down b2 b3 (Journal_effect__Sync_1_1M fuse down b2 b3 fuse2 down2) (Journal_effect__Sync_1_1 fuse down b2 b3 fuse2 down2) := by
 intro r h; unfold Journal_effect__Sync_1_1 at h
 refine zs 10 h (fun h => ?_) fun h => ?_
 ·
  refine zf 4 [.mv 2, .mv 3] ?_
  exact zu 1 h
 refine zs 12 h (fun h => ?_) fun h => ?_
 ·
  refine zc 17 [] h (fun _ => Journal_Sync_1_ok) fun y3 h => ?_
  refine zf 5 [.mv 3] ?_
  exact zu 1 h
 refine zc 5 [] h (fun _ => Journal_Sync_1_ok) fun y4 h => ?_
 refine zf 5 [.mv 3] ?_
 exact zu 1 h
noncomputable def Journal_effect__Sync_1_2M (fuse : Int) (down : Bool) (b2 b3 : List Int) (t16 : Bool) : M := ⟨[.code (Journal_effect__Sync_1_c [1, 0, 1]), .code (Journal_effect__Sync_1_c [1, 1])], [(0, .ptr 0 0 0), (1, .fn 82 [] [.ptr 1 0 0]), (16, .bool t16)], [some ⟨4, true, [[(grD 2 (List.map (eInt .u8) b2)), (grD 3 (List.map (eInt .u8) b3)), .int .i64 fuse, .bool down]]⟩, some ⟨1, true, [[.ptr 0 0 0]]⟩, some ⟨1, false, (List.map (eInt .u8) b2)⟩, some ⟨1, false, (List.map (eInt .u8) b3)⟩]⟩
noncomputable def Journal_effect__Sync_1_2 (fuse : Int) (down : Bool) (b2 b3 : List Int) (t16 : Bool) : Option (Int × Int × Bool × (List Int) × (List Int)) := (bif t16 then (Journal_effect__Sync_1_1 fuse down b2 b3 (-1) true) else (Journal_effect__Sync_1_1 fuse down b2 b3 fuse down))
theorem Journal_effect__Sync_1_2_ok {fuse down b2 b3 t16} : Journal_effect__Sync_1_W fuse down b2 b3 (Journal_effect__Sync_1_2M fuse down b2 b3 t16) (Journal_effect__Sync_1_2 fuse down b2 b3 t16) := by
 intro r h; unfold Journal_effect__Sync_1_2 at h
 refine zs 1 h (fun h => ?_) fun h => ?_
 ·
  exact zg 14 (Journal_effect__Sync_1_1_ok h)
 exact zg 1 (Journal_effect__Sync_1_1_ok h)
noncomputable def Journal_effect__Sync_1 (fuse : Int) (down : Bool) (b2 b3 : List Int) : Option (Int × Int × Bool × (List Int) × (List Int)) := (bif (!down) then (Journal_effect__Sync_1_2 fuse down b2 b3 ((fuse : Int) == 0)) else (Journal_effect__Sync_1_2 fuse down b2 b3 false))
theorem Journal_effect__Sync_1_ok {fuse : Int} {down : Bool} {b2 b3 : List Int} {r : Int × Int × Bool × (List Int) × (List Int)} (h : Journal_effect__Sync_1 fuse down b2 b3 = some r) : Sound E 46 [.ptr 0 0 0, .fn 82 [] [.ptr 1 0 0]] [some ⟨4, true, [[(grD 2 (List.map (eInt .u8) b2)), (grD 3 (List.map (eInt .u8) b3)), .int .i64 fuse, .bool down]]⟩, some ⟨1, true, [[.ptr 0 0 0]]⟩, some ⟨1, false, (List.map (eInt .u8) b2)⟩, some ⟨1, false, (List.map (eInt .u8) b3)⟩] (Rs Journal_effect__Sync_1_e r) := so (fn := Tryz.f46) (k := true) (m := 4) h <| by
 intro r h; unfold Journal_effect__Sync_1 at h
 refine zs 15 h (fun h => ?_) fun h => ?_
 ·
  exact zg 12 (Journal_effect__Sync_1_2_ok h)
 exact zg 11 (Journal_effect__Sync_1_2_ok h)
end Go.RX.L

namespace Go.RX.L
open Go Go.RX Go.Proofs
attribute [local irreducible] FinQ
noncomputable def Journal_Sync_e (y : Int × Int × Bool × (List Int) × (List Int)) : D × Sto := (.int .i64 y.1, [some ⟨4, true, [[(grD 3 (List.map (eInt .u8) y.2.2.2.1)), (grD 4 (List.map (eInt .u8) y.2.2.2.2)), .int .i64 y.2.1, .bool y.2.2.1]]⟩, none, none, some ⟨1, false, (List.map (eInt .u8) y.2.2.2.1)⟩, some ⟨1, false, (List.map (eInt .u8) y.2.2.2.2)⟩])
noncomputable def Journal_Sync (fuse : Int) (down : Bool) (b1 b2 : List Int) : Option (Int × Int × Bool × (List Int) × (List Int)) := ((Journal_effect__Sync_1 fuse down b1 b2).bind fun y1 => (some (y1.1, y1.2.1, y1.2.2.1, y1.2.2.2.1, y1.2.2.2.2)))
theorem Journal_Sync_ok {fuse : Int} {down : Bool} {b1 b2 : List Int} {r : Int × Int × Bool × (List Int) × (List Int)} (h : Journal_Sync fuse down b1 b2 = some r) : Sound E 56 [.ptr 0 0 0] [some ⟨4, true, [[(grD 1 (List.map (eInt .u8) b1)), (grD 2 (List.map (eInt .u8) b2)), .int .i64 fuse, .bool down]]⟩, some ⟨1, false, (List.map (eInt .u8) b1)⟩, some ⟨1, false, (List.map (eInt .u8) b2)⟩] (Rs Journal_Sync_e r) := so (fn := Tryz.f56) (k := true) (m := 3) h <| by
 intro r h; unfold Journal_Sync at h
 refine zc 11 [] h (fun _ => Journal_effect__Sync_1_ok) fun y1 h => ?_
 exact zu 3 h
end Go.RX.L

namespace Go.RX.L
open Go Go.RX Go.Proofs
attribute [local irreducible] FinQ
noncomputable def wire_digits_e (y : Int) : D × Sto := (.fn 102 [] [.iptr 1 [[.int .i64 y]] 0 0], [])
noncomputable def wire_digits (n : Int) : Option Int := (some n)
theorem wire_digits_ok {n r : Int} (h : wire_digits n = some r) : Sound E 100 [.int .i64 n] [] (Rs wire_digits_e r) := so (fn := Tryz.f100) (k := false) (m := 0) h <| by
 intro r h; unfold wire_digits at h
 exact zu 11 h
end Go.RX.L

namespace Go.RX.L
open Go Go.RX Go.Proofs
attribute [local irreducible] FinQ
noncomputable def wire_digits_1_c := codeAt (bodyOf Tryz.f102)
def wire_digits_1_en (y : Int) : List D := [D.int .u8 y]
inductive wire_digits_1_S where
  | s0 (t : Int)
  | s1 (u : Int)
noncomputable def wire_digits_1_M (l : Nat) : wire_digits_1_S → M
  | .s0 t => ⟨[.code (bodyOf Tryz.f102)], [(0, D.yld l), (1, D.iptr 1 [[D.int .i64 t]] 0 0)], []⟩
  | .s1 u => ⟨[.lpc (wire_digits_1_c [1, 0, 0, 0]) 9, .blk 0, .code (wire_digits_1_c [1, 1])], [(0, D.yld l), (3, D.int .u64 u)], []⟩
noncomputable def wire_digits_1_0 (t : Int) : Option (List Int × Option wire_digits_1_S) := (some ([], some (.s1 (xorI .u64 (IntKind.u64.wrap ((shlI .i64 t 1))) (IntKind.u64.wrap ((shrI .i64 t 63)))))))
noncomputable def wire_digits_1_1 (u : Int) : Option (List Int × Option wire_digits_1_S) := (bif (decide ((u : Int) > 127)) then (Option.map (fun p => ((orI .u8 (IntKind.u8.wrap (u)) 128) :: p.1, p.2)) (some ([], some (.s1 (shrI .u64 u 7))))) else (Option.map (fun p => ((IntKind.u8.wrap (u)) :: p.1, p.2)) (some ([], none))))
noncomputable def wire_digits_1_ln : wire_digits_1_S → Sto
  | .s0 t => []
  | .s1 u => []
noncomputable def wire_digits_1_step : wire_digits_1_S → Option (List Int × Option wire_digits_1_S)
  | .s0 t => wire_digits_1_0 t
  | .s1 u => wire_digits_1_1 u
theorem wire_digits_1_0_ok {l : Nat} {ln : Sto} {φ0 : Phi} {J : Option (List (List D)) → World → (Nat → Prop) → (Nat → Prop) → Prop} {t : Int} {x : List Int × Option wire_digits_1_S} {Y : List (List D)} (hl : wire_digits_1_ln (.s0 t) = ln) (h : wire_digits_1_0 t = some x) (ha : AfterL E ln (Cx.seq Tryz.f102 0 ln l φ0 J) wire_digits_1_en (wire_digits_1_M l) wire_digits_1_ln x Y) : FinQ E (Cx.seq Tryz.f102 0 ln l φ0 J (some Y)) (fun _ s => Lent ln s) (.go (wire_digits_1_M l (.s0 t))) := by
 subst hl
 unfold wire_digits_1_0 at h
 refine adv_ok hm 19 _ ?_
 obtain rfl := Option.some.inj h
 exact r_to (q' := .go (wire_digits_1_M l (.s1 (xorI .u64 (IntKind.u64.wrap ((shlI .i64 t 1))) (IntKind.u64.wrap ((shrI .i64 t 63))))))) (by kernel_rfl) (afterL_jump (by kernel_rfl) ha)
theorem wire_digits_1_1_ok {l : Nat} {ln : Sto} {φ0 : Phi} {J : Option (List (List D)) → World → (Nat → Prop) → (Nat → Prop) → Prop} {u : Int} {x : List Int × Option wire_digits_1_S} {Y : List (List D)} (hl : wire_digits_1_ln (.s1 u) = ln) (h : wire_digits_1_1 u = some x) (ha : AfterL E ln (Cx.seq Tryz.f102 0 ln l φ0 J) wire_digits_1_en (wire_digits_1_M l) wire_digits_1_ln x Y) : FinQ E (Cx.seq Tryz.f102 0 ln l φ0 J (some Y)) (fun _ s => Lent ln s) (.go (wire_digits_1_M l (.s1 u))) := by
 subst hl
 unfold wire_digits_1_1 at h
 refine zs 8 h (fun h => ?_) fun h => ?_
 ·
  refine adv_ok hm 10 _ ?_
  refine p_yld (x := (orI .u8 (IntKind.u8.wrap (u)) 128)) (s := []) h ha (by kernel_rfl) (by kernel_rfl) ?_ (fun p Y h ha => ?_)
  · -- it is stopped
    refine adv_ok hm 5 _ ?_
    exact p_retN (d := D.tup []) (s := []) (by kernel_rfl) (by kernel_rfl)
  · -- it goes on
    refine adv_ok hm 13 _ ?_
    obtain rfl := Option.some.inj h
    exact r_to (q' := .go (wire_digits_1_M l (.s1 (shrI .u64 u 7)))) (by kernel_rfl) (afterL_jump (by kernel_rfl) ha)
 refine adv_ok hm 6 _ ?_
 refine p_yld (x := (IntKind.u8.wrap (u))) (s := []) h ha (by kernel_rfl) (by kernel_rfl) ?_ (fun p Y h ha => ?_)
 · -- it is stopped
   refine adv_ok hm 2 _ ?_
   exact p_retN (d := D.tup []) (s := []) (by kernel_rfl) (by kernel_rfl)
 · -- it goes on
   refine adv_ok hm 2 _ ?_
   obtain rfl := Option.some.inj h
   exact p_retY (d := D.tup []) (s := []) (by kernel_rfl) (by kernel_rfl) ha
noncomputable def wire_digits_1 (t : Int) : Option (List Int) := evl wire_digits_1_step (.s0 t)
theorem wire_digits_1_ok {t : Int} {r : List Int} (h : wire_digits_1 t = some r) : SoundSeq E 102 [D.iptr 1 [[D.int .i64 t]] 0 0] [] [] (List.map wire_digits_1_en r) :=
  seq_of (m := fun l => wire_digits_1_M l (.s0 t)) (fn := Tryz.f102) (by kernel_rfl) (fun l => by kernel_rfl) (show List.take _ _ = _ by kernel_rfl) (show mapSto _ _ = _ by kernel_rfl) (fun l φ0 J => evl_run (step := wire_digits_1_step) (lnS := wire_digits_1_ln) (fun s x Y hl hs ha => by
    cases s with
    | s0 => exact wire_digits_1_0_ok hl hs ha
    | s1 => exact wire_digits_1_1_ok hl hs ha) (by kernel_rfl) (evl_ev h))
end Go.RX.L

namespace Go.RX.L
open Go Go.RX Go.Proofs
attribute [local irreducible] FinQ
noncomputable def wire_put_v2_c := codeAt (bodyOf Tryz.f96)
noncomputable def wire_put_v2_e (y : List Int) : D × Sto := ((grD 1 (List.map (eInt .u8) y)), [none, some ⟨1, false, (List.map (eInt .u8) y)⟩])
inductive wire_put_v2_S where
 | s0 (n : Int) (b0 : List Int)
 | s1 (t7 : Int) (b2 : List Int)
 | s2 (t7 : Int) (b2 Y : List Int)
noncomputable def wire_put_v2_M : wire_put_v2_S → M
 | .s0 n b0 => startM Tryz.f96 [(grD 0 (List.map (eInt .u8) b0)), .int .i64 n] [some ⟨1, false, (List.map (eInt .u8) b0)⟩]
 | .s1 t7 b2 => ⟨[.code (wire_put_v2_c [1, 0, 1, 0]), .blk 0, .code (wire_put_v2_c [1, 1])], [(2, .ptr 1 0 0), (7, .fn 102 [] [.iptr 1 [[.int .i64 t7]] 0 0])], [none, some ⟨1, true, [[(grD 2 (List.map (eInt .u8) b2))]]⟩, some ⟨1, false, (List.map (eInt .u8) b2)⟩]⟩
 | .s2 t7 b2 Y => ⟨[.blk 0, .code (wire_put_v2_c [1, 1])], [(2, .ptr 1 0 0), (7, .fn 102 [] [.iptr 1 [[.int .i64 t7]] 0 0])], [none, some ⟨1, true, [[(grD 2 (List.map (eInt .u8) b2))]]⟩, some ⟨1, false, (List.map (eInt .u8) b2)⟩]⟩
noncomputable def wire_put_v2_Pd : wire_put_v2_S → (List Int) → Prop
 | .s0 n b0, r_ => FinQ E (Cx.of Tryz.f96 true 1) (QW (Rs wire_put_v2_e r_)) (.go (wire_put_v2_M (.s0 n b0)))
 | .s1 t7 b2, r_ => FinQ E (Cx.of Tryz.f96 true 1) (QW (Rs wire_put_v2_e r_)) (.go (wire_put_v2_M (.s1 t7 b2)))
 | .s2 t7 b2 Y, r_ => RngQ E (Cx.of Tryz.f96 true 1) (QW (Rs wire_put_v2_e r_)) 2 (wire_put_v2_c [1, 0, 1, 0]) [.blk 0, .code (wire_put_v2_c [1, 1])] [(2, .ptr 1 0 0), (7, .fn 102 [] [.iptr 1 [[.int .i64 t7]] 0 0])] [] [] (List.map wire_digits_1_en Y) [none, some ⟨1, true, [[(grD 2 (List.map (eInt .u8) b2))]]⟩, some ⟨1, false, (List.map (eInt .u8) b2)⟩]
noncomputable def wire_put_v2_0 (n : Int) (b0 : List Int) : Option (wire_put_v2_S ⊕ (List Int)) := ((wire_digits n).bind fun y1 => (some (.inl (.s1 y1 b0))))
noncomputable def wire_put_v2_1 (t7 : Int) (b2 : List Int) : Option (wire_put_v2_S ⊕ (List Int)) := ((wire_digits_1 t7).bind fun y1 => (some (.inl (.s2 t7 b2 y1))))
noncomputable def wire_put_v2_2n (t7 : Int) (b2 : List Int) : Option (wire_put_v2_S ⊕ (List Int)) := (some (.inr b2))
noncomputable def wire_put_v2_2c (t7 : Int) (b2 : List Int) (y : Int) (Y : List Int) : Option (wire_put_v2_S ⊕ (List Int)) := (bif (decide (((List.map (eInt .u8) b2).length + 1) * 1 ≤ bytesLim)) then (some (.inl (.s2 t7 (b2 ++ [y]) Y))) else none)
noncomputable def wire_put_v2_2 (t7 : Int) (b2 : List Int) : List Int → Option (wire_put_v2_S ⊕ (List Int))
 | [] => wire_put_v2_2n t7 b2
 | y :: Y => wire_put_v2_2c t7 b2 y Y
noncomputable def wire_put_v2_step : wire_put_v2_S → Option (wire_put_v2_S ⊕ (List Int))
 | .s0 n b0 => wire_put_v2_0 n b0
 | .s1 t7 b2 => wire_put_v2_1 t7 b2
 | .s2 t7 b2 Y => wire_put_v2_2 t7 b2 Y
theorem wire_put_v2_0_ok {n : Int} {b0 r : List Int} {x : wire_put_v2_S ⊕ (List Int)} (h : wire_put_v2_0 n b0 = some x) (ha : AfterP wire_put_v2_Pd r x) : FinQ E (Cx.of Tryz.f96 true 1) (QW (Rs wire_put_v2_e r)) (.go (wire_put_v2_M (.s0 n b0))) := by
 unfold wire_put_v2_0 at h
 refine zc 10 [] h (fun _ => wire_digits_ok) fun y1 h => ?_
 exact zkP 2 h ha id [.mv 0]
theorem wire_put_v2_1_ok {t7 : Int} {b2 r : List Int} {x : wire_put_v2_S ⊕ (List Int)} (h : wire_put_v2_1 t7 b2 = some x) (ha : AfterP wire_put_v2_Pd r x) : FinQ E (Cx.of Tryz.f96 true 1) (QW (Rs wire_put_v2_e r)) (.go (wire_put_v2_M (.s1 t7 b2))) := by
 unfold wire_put_v2_1 at h
 refine adv_ok hm 1 _ ?_
 have ok1 := fun (y : List Int) (hy : wire_digits_1 t7 = some y) => wire_digits_1_ok hy
 refine p_rng (m := 2) (c := wire_put_v2_c [1, 0, 1, 0]) (t := [.blk 0, .code (wire_put_v2_c [1, 1])]) (fr := [(2, .ptr 1 0 0), (7, .fn 102 [] [.iptr 1 [[.int .i64 t7]] 0 0])]) (σ := [none, some ⟨1, true, [[(grD 2 (List.map (eInt .u8) b2))]]⟩, some ⟨1, false, (List.map (eInt .u8) b2)⟩]) (caps1 := [.iptr 1 [[.int .i64 t7]] 0 0]) (caps := [.iptr 1 [[.int .i64 t7]] 0 0]) (sub1 := []) (sub := []) wire_digits_1_en h (by kernel_rfl) ⟨rfl, rfl⟩ (by kernel_rfl) (by kernel_rfl) ok1 (fun y1 h1 h => ?_)
 obtain rfl := Option.some.inj h
 exact ha
theorem wire_put_v2_2n_ok {t7 : Int} {b2 r : List Int} {x : wire_put_v2_S ⊕ (List Int)} (h : wire_put_v2_2n t7 b2 = some x) (ha : AfterP wire_put_v2_Pd r x) : RngQ E (Cx.of Tryz.f96 true 1) (QW (Rs wire_put_v2_e r)) 2 (wire_put_v2_c [1, 0, 1, 0]) [.blk 0, .code (wire_put_v2_c [1, 1])] [(2, .ptr 1 0 0), (7, .fn 102 [] [.iptr 1 [[.int .i64 t7]] 0 0])] [] [] ([]) [none, some ⟨1, true, [[(grD 2 (List.map (eInt .u8) b2))]]⟩, some ⟨1, false, (List.map (eInt .u8) b2)⟩] := by
 unfold wire_put_v2_2n at h
 refine rng_nil ?_
 exact ztP 8 h ha
theorem wire_put_v2_2c_ok {t7 : Int} {b2 : List Int} {y : Int} {Y r : List Int} {x : wire_put_v2_S ⊕ (List Int)} (h : wire_put_v2_2c t7 b2 y Y = some x) (ha : AfterP wire_put_v2_Pd r x) : RngQ E (Cx.of Tryz.f96 true 1) (QW (Rs wire_put_v2_e r)) 2 (wire_put_v2_c [1, 0, 1, 0]) [.blk 0, .code (wire_put_v2_c [1, 1])] [(2, .ptr 1 0 0), (7, .fn 102 [] [.iptr 1 [[.int .i64 t7]] 0 0])] [] [] (wire_digits_1_en y :: List.map wire_digits_1_en Y) [none, some ⟨1, true, [[(grD 2 (List.map (eInt .u8) b2))]]⟩, some ⟨1, false, (List.map (eInt .u8) b2)⟩] := by
 unfold wire_put_v2_2c at h
 refine rng_cons ?_
 refine zn 8 h fun h => ?_
 refine za 0 (eInt .u8) b2 ([y]) ?_
 refine adv_ok hm 6 _ ?_
 obtain rfl := Option.some.inj h
 exact p_rend0 [] (s1 := [none, some ⟨1, true, [[.msl 2 0 ((List.map (eInt .u8) (b2 ++ [y])).length) ((List.map (eInt .u8) (b2 ++ [y])).length) false]]⟩, some ⟨1, false, (List.map (eInt .u8) (b2 ++ [y]))⟩]) (s := [none, some ⟨1, true, [[.msl 2 0 ((List.map (eInt .u8) (b2 ++ [y])).length) ((List.map (eInt .u8) (b2 ++ [y])).length) false]]⟩, some ⟨1, false, (List.map (eInt .u8) (b2 ++ [y]))⟩]) (by kernel_rfl) (rfl) (by kernel_rfl) ha
theorem wire_put_v2_2_ok {t7 : Int} {b2 Y r : List Int} {x : wire_put_v2_S ⊕ (List Int)} (h : wire_put_v2_2 t7 b2 Y = some x) (ha : AfterP wire_put_v2_Pd r x) : RngQ E (Cx.of Tryz.f96 true 1) (QW (Rs wire_put_v2_e r)) 2 (wire_put_v2_c [1, 0, 1, 0]) [.blk 0, .code (wire_put_v2_c [1, 1])] [(2, .ptr 1 0 0), (7, .fn 102 [] [.iptr 1 [[.int .i64 t7]] 0 0])] [] [] (List.map wire_digits_1_en Y) [none, some ⟨1, true, [[(grD 2 (List.map (eInt .u8) b2))]]⟩, some ⟨1, false, (List.map (eInt .u8) b2)⟩] := by
 cases Y with
 | nil => exact wire_put_v2_2n_ok h ha
 | cons y Y => exact wire_put_v2_2c_ok h ha
noncomputable def wire_put_v2 (n : Int) (b0 : List Int) : Option (List Int) := evf wire_put_v2_step (.s0 n b0)
theorem wire_put_v2_ev {n : Int} {b0 r : List Int} (h : Ev wire_put_v2_step (.s0 n b0) r) : Sound E 96 [(grD 0 (List.map (eInt .u8) b0)), .int .i64 n] [some ⟨1, false, (List.map (eInt .u8) b0)⟩] (Rs wire_put_v2_e r) :=
 sound_ofW (m := wire_put_v2_M (.s0 n b0)) (fn := Tryz.f96) (by kernel_rfl) (by kernel_rfl) (ev_runP (Pd := wire_put_v2_Pd) (fun s x r hs ha => by
  cases s with
  | s0 => exact wire_put_v2_0_ok hs ha
  | s1 => exact wire_put_v2_1_ok hs ha
  | s2 => exact wire_put_v2_2_ok hs ha) h)
theorem wire_put_v2_ok {n : Int} {b0 r : List Int} (h : wire_put_v2 n b0 = some r) : Sound E 96 [(grD 0 (List.map (eInt .u8) b0)), .int .i64 n] [some ⟨1, false, (List.map (eInt .u8) b0)⟩] (Rs wire_put_v2_e r) := wire_put_v2_ev (evf_ev h)
end Go.RX.L

namespace Go.RX.L
open Go Go.RX Go.Proofs
attribute [local irreducible] FinQ
noncomputable def wire_put_c := codeAt (bodyOf Tryz.f96)
noncomputable def wire_put_e (y : List Int) : D × Sto := ((grD 0 (List.map (eInt .u8) y)), [some ⟨1, false, (List.map (eInt .u8) y)⟩])
inductive wire_put_S where
 | s0 (n : Int)
 | s1 (t7 : Int) (b1 : List Int)
 | s2 (t7 : Int) (b1 Y : List Int)
noncomputable def wire_put_M : wire_put_S → M
 | .s0 n => startM Tryz.f96 [.sl true 0 [], .int .i64 n] []
 | .s1 t7 b1 => ⟨[.code (wire_put_c [1, 0, 1, 0]), .blk 0, .code (wire_put_c [1, 1])], [(2, .ptr 0 0 0), (7, .fn 102 [] [.iptr 1 [[.int .i64 t7]] 0 0])], [some ⟨1, true, [[(grD 1 (List.map (eInt .u8) b1))]]⟩, some ⟨1, false, (List.map (eInt .u8) b1)⟩]⟩
 | .s2 t7 b1 Y => ⟨[.blk 0, .code (wire_put_c [1, 1])], [(2, .ptr 0 0 0), (7, .fn 102 [] [.iptr 1 [[.int .i64 t7]] 0 0])], [some ⟨1, true, [[(grD 1 (List.map (eInt .u8) b1))]]⟩, some ⟨1, false, (List.map (eInt .u8) b1)⟩]⟩
noncomputable def wire_put_Pd : wire_put_S → (List Int) → Prop
 | .s0 n, r_ => FinQ E (Cx.of Tryz.f96 true 0) (QW (Rs wire_put_e r_)) (.go (wire_put_M (.s0 n)))
 | .s1 t7 b1, r_ => FinQ E (Cx.of Tryz.f96 true 0) (QW (Rs wire_put_e r_)) (.go (wire_put_M (.s1 t7 b1)))
 | .s2 t7 b1 Y, r_ => RngQ E (Cx.of Tryz.f96 true 0) (QW (Rs wire_put_e r_)) 1 (wire_put_c [1, 0, 1, 0]) [.blk 0, .code (wire_put_c [1, 1])] [(2, .ptr 0 0 0), (7, .fn 102 [] [.iptr 1 [[.int .i64 t7]] 0 0])] [] [] (List.map wire_digits_1_en Y) [some ⟨1, true, [[(grD 1 (List.map (eInt .u8) b1))]]⟩, some ⟨1, false, (List.map (eInt .u8) b1)⟩]
noncomputable def wire_put_0 (n : Int) : Option (wire_put_S ⊕ (List Int)) := ((wire_digits n).bind fun y1 => (some (.inl (.s1 y1 ([])))))
noncomputable def wire_put_1 (t7 : Int) (b1 : List Int) : Option (wire_put_S ⊕ (List Int)) := ((wire_digits_1 t7).bind fun y1 => (some (.inl (.s2 t7 b1 y1))))
noncomputable def wire_put_2n (t7 : Int) (b1 : List Int) : Option (wire_put_S ⊕ (List Int)) := (some (.inr b1))
noncomputable def wire_put_2c (t7 : Int) (b1 : List Int) (y : Int) (Y : List Int) : Option (wire_put_S ⊕ (List Int)) := (bif (decide (((List.map (eInt .u8) b1).length + 1) * 1 ≤ bytesLim)) then (some (.inl (.s2 t7 (b1 ++ [y]) Y))) else none)
noncomputable def wire_put_2 (t7 : Int) (b1 : List Int) : List Int → Option (wire_put_S ⊕ (List Int))
 | [] => wire_put_2n t7 b1
 | y :: Y => wire_put_2c t7 b1 y Y
noncomputable def wire_put_step : wire_put_S → Option (wire_put_S ⊕ (List Int))
 | .s0 n => wire_put_0 n
 | .s1 t7 b1 => wire_put_1 t7 b1
 | .s2 t7 b1 Y => wire_put_2 t7 b1 Y
theorem wire_put_0_ok {n : Int} {r : List Int} {x : wire_put_S ⊕ (List Int)} (h : wire_put_0 n = some x) (ha : AfterP wire_put_Pd r x) : FinQ E (Cx.of Tryz.f96 true 0) (QW (Rs wire_put_e r)) (.go (wire_put_M (.s0 n))) := by
 unfold wire_put_0 at h
 refine zc 10 [] h (fun _ => wire_digits_ok) fun y1 h => ?_
 refine adv_ok hm 2 _ ?_
 obtain rfl := Option.some.inj h
 refine r_cut 388 [.matc 0 0 0 1] (m' := ⟨[.code (wire_put_c [1, 0, 1, 0]), .blk 0, .code (wire_put_c [1, 1])], [(2, .ptr 0 0 0), (7, .fn 102 [] [.iptr 1 [[.int .i64 y1]] 0 0])], [some ⟨1, true, [[.msl 1 0 0 0 false]]⟩, some ⟨1, false, []⟩]⟩) (by kernel_rfl) ?_
 refine r_len (n1 := 0) (n2 := (List.map (eInt .u8) ([])).length) (fun n_len => .go ⟨[.code (wire_put_c [1, 0, 1, 0]), .blk 0, .code (wire_put_c [1, 1])], [(2, .ptr 0 0 0), (7, .fn 102 [] [.iptr 1 [[.int .i64 y1]] 0 0])], [some ⟨1, true, [[.msl 1 0 n_len n_len false]]⟩, some ⟨1, false, []⟩]⟩) (by simp) ?_
 exact ha
theorem wire_put_1_ok {t7 : Int} {b1 r : List Int} {x : wire_put_S ⊕ (List Int)} (h : wire_put_1 t7 b1 = some x) (ha : AfterP wire_put_Pd r x) : FinQ E (Cx.of Tryz.f96 true 0) (QW (Rs wire_put_e r)) (.go (wire_put_M (.s1 t7 b1))) := by
 unfold wire_put_1 at h
 refine adv_ok hm 1 _ ?_
 have ok1 := fun (y : List Int) (hy : wire_digits_1 t7 = some y) => wire_digits_1_ok hy
 refine p_rng (m := 1) (c := wire_put_c [1, 0, 1, 0]) (t := [.blk 0, .code (wire_put_c [1, 1])]) (fr := [(2, .ptr 0 0 0), (7, .fn 102 [] [.iptr 1 [[.int .i64 t7]] 0 0])]) (σ := [some ⟨1, true, [[(grD 1 (List.map (eInt .u8) b1))]]⟩, some ⟨1, false, (List.map (eInt .u8) b1)⟩]) (caps1 := [.iptr 1 [[.int .i64 t7]] 0 0]) (caps := [.iptr 1 [[.int .i64 t7]] 0 0]) (sub1 := []) (sub := []) wire_digits_1_en h (by kernel_rfl) ⟨rfl, rfl⟩ (by kernel_rfl) (by kernel_rfl) ok1 (fun y1 h1 h => ?_)
 obtain rfl := Option.some.inj h
 exact ha
theorem wire_put_2n_ok {t7 : Int} {b1 r : List Int} {x : wire_put_S ⊕ (List Int)} (h : wire_put_2n t7 b1 = some x) (ha : AfterP wire_put_Pd r x) : RngQ E (Cx.of Tryz.f96 true 0) (QW (Rs wire_put_e r)) 1 (wire_put_c [1, 0, 1, 0]) [.blk 0, .code (wire_put_c [1, 1])] [(2, .ptr 0 0 0), (7, .fn 102 [] [.iptr 1 [[.int .i64 t7]] 0 0])] [] [] ([]) [some ⟨1, true, [[(grD 1 (List.map (eInt .u8) b1))]]⟩, some ⟨1, false, (List.map (eInt .u8) b1)⟩] := by
 unfold wire_put_2n at h
 refine rng_nil ?_
 exact ztP 8 h ha
theorem wire_put_2c_ok {t7 : Int} {b1 : List Int} {y : Int} {Y r : List Int} {x : wire_put_S ⊕ (List Int)} (h : wire_put_2c t7 b1 y Y = some x) (ha : AfterP wire_put_Pd r x) : RngQ E (Cx.of Tryz.f96 true 0) (QW (Rs wire_put_e r)) 1 (wire_put_c [1, 0, 1, 0]) [.blk 0, .code (wire_put_c [1, 1])] [(2, .ptr 0 0 0), (7, .fn 102 [] [.iptr 1 [[.int .i64 t7]] 0 0])] [] [] (wire_digits_1_en y :: List.map wire_digits_1_en Y) [some ⟨1, true, [[(grD 1 (List.map (eInt .u8) b1))]]⟩, some ⟨1, false, (List.map (eInt .u8) b1)⟩] := by
 unfold wire_put_2c at h
 refine rng_cons ?_
 refine zn 8 h fun h => ?_
 refine za 0 (eInt .u8) b1 ([y]) ?_
 refine adv_ok hm 6 _ ?_
 obtain rfl := Option.some.inj h
 exact p_rend0 [] (s1 := [some ⟨1, true, [[.msl 1 0 ((List.map (eInt .u8) (b1 ++ [y])).length) ((List.map (eInt .u8) (b1 ++ [y])).length) false]]⟩, some ⟨1, false, (List.map (eInt .u8) (b1 ++ [y]))⟩]) (s := [some ⟨1, true, [[.msl 1 0 ((List.map (eInt .u8) (b1 ++ [y])).length) ((List.map (eInt .u8) (b1 ++ [y])).length) false]]⟩, some ⟨1, false, (List.map (eInt .u8) (b1 ++ [y]))⟩]) (by kernel_rfl) (rfl) (by kernel_rfl) ha
theorem wire_put_2_ok {t7 : Int} {b1 Y r : List Int} {x : wire_put_S ⊕ (List Int)} (h : wire_put_2 t7 b1 Y = some x) (ha : AfterP wire_put_Pd r x) : RngQ E (Cx.of Tryz.f96 true 0) (QW (Rs wire_put_e r)) 1 (wire_put_c [1, 0, 1, 0]) [.blk 0, .code (wire_put_c [1, 1])] [(2, .ptr 0 0 0), (7, .fn 102 [] [.iptr 1 [[.int .i64 t7]] 0 0])] [] [] (List.map wire_digits_1_en Y) [some ⟨1, true, [[(grD 1 (List.map (eInt .u8) b1))]]⟩, some ⟨1, false, (List.map (eInt .u8) b1)⟩] := by
 cases Y with
 | nil => exact wire_put_2n_ok h ha
 | cons y Y => exact wire_put_2c_ok h ha
noncomputable def wire_put (n : Int) : Option (List Int) := evf wire_put_step (.s0 n)
theorem wire_put_ev {n : Int} {r : List Int} (h : Ev wire_put_step (.s0 n) r) : Sound E 96 [.sl true 0 [], .int .i64 n] [] (Rs wire_put_e r) :=
 sound_ofW (m := wire_put_M (.s0 n)) (fn := Tryz.f96) (by kernel_rfl) (by kernel_rfl) (ev_runP (Pd := wire_put_Pd) (fun s x r hs ha => by
  cases s with
  | s0 => exact wire_put_0_ok hs ha
  | s1 => exact wire_put_1_ok hs ha
  | s2 => exact wire_put_2_ok hs ha) h)
theorem wire_put_ok {n : Int} {r : List Int} (h : wire_put n = some r) : Sound E 96 [.sl true 0 [], .int .i64 n] [] (Rs wire_put_e r) := wire_put_ev (evf_ev h)
end Go.RX.L

namespace Go.RX.L
open Go Go.RX Go.Proofs
attribute [local irreducible] FinQ
noncomputable def wire_PutInt_e (y : List Int) : D × Sto := ((grD 0 (List.map (eInt .u8) y)), [some ⟨1, false, (List.map (eInt .u8) y)⟩])
noncomputable def wire_PutInt (n : Int) : Option (List Int) := ((wire_put n).bind fun y1 => (some y1))
theorem wire_PutInt_ok {n : Int} {r : List Int} (h : wire_PutInt n = some r) : Sound E 95 [.int .i64 n] [] (Rs wire_PutInt_e r) := so (fn := Tryz.f95) (k := true) (m := 0) h <| by
 intro r h; unfold wire_PutInt at h
 refine zc 8 [none] h (fun _ => wire_put_ok) fun y1 h => ?_
 exact zu 3 h
end Go.RX.L

namespace Go.RX.L
open Go Go.RX Go.Proofs
attribute [local irreducible] FinQ
noncomputable def wire_PutInts_c := codeAt (bodyOf Tryz.f77)
noncomputable def wire_PutInts_e (y : Int × (List Int)) : D × Sto := (.tup [(grD 0 (List.map (eInt .u8) y.2)), .int .i64 y.1], [some ⟨1, false, (List.map (eInt .u8) y.2)⟩])
inductive wire_PutInts_S where
 | s0 (l_ : List Int)
 | s1 (t13 : List Int) (t14 t15 : Int) (b : List Int)
noncomputable def wire_PutInts_M : wire_PutInts_S → M
 | .s0 l_ => startM Tryz.f77 [.sl false 1 (List.map (eInt .i64) l_)] []
 | .s1 t13 t14 t15 b => ⟨[.lpc (wire_PutInts_c [1, 1, 1, 0, 1, 0, 0]) 57360, .blk 0, .code (wire_PutInts_c [1, 1, 1, 1])], [(4, (grD 0 (List.map (eInt .u8) b))), (13, .sl false 1 (List.map (eInt .i64) t13)), (14, .int .i64 t14), (15, .int .i64 t15)], [some ⟨1, false, (List.map (eInt .u8) b)⟩]⟩
abbrev wire_PutInts_W := SOk E (Cx.of Tryz.f77 true 0) wire_PutInts_e wire_PutInts_M
noncomputable def wire_PutInts_0 (l_ : List Int) : Option (wire_PutInts_S ⊕ (Int × (List Int))) := (bif (decide (((((List.map (eInt .i64) l_).length : Nat) : Int) : Int) > 64)) then (some (.inr (2, []))) else ((wire_PutInt (((List.map (eInt .i64) l_).length : Nat) : Int)).bind fun y2 => (some (.inl (.s1 l_ (((List.map (eInt .i64) l_).length : Nat) : Int) 0 y2)))))
noncomputable def wire_PutInts_1 (t13 : List Int) (t14 t15 : Int) (b : List Int) : Option (wire_PutInts_S ⊕ (Int × (List Int))) := (bif (decide ((t15 : Int) < t14)) then (bif ((decide ((0 : Int) ≤ t15)) && (decide ((t15 : Int) < (((List.map (eInt .i64) t13).length : Nat) : Int)))) then (((t13)[t15.toNat]?).bind fun y3 => ((wire_put_v2 y3 b).bind fun y5 => (some (.inl (.s1 t13 t14 (IntKind.i64.wrap (t15 + 1)) y5))))) else none) else (some (.inr (0, b))))
noncomputable def wire_PutInts_step : wire_PutInts_S → Option (wire_PutInts_S ⊕ (Int × (List Int)))
 | .s0 l_ => wire_PutInts_0 l_
 | .s1 t13 t14 t15 b => wire_PutInts_1 t13 t14 t15 b
theorem wire_PutInts_0_ok {l_} : wire_PutInts_W (.s0 l_) (wire_PutInts_0 l_) := by
 intro r x h ha; unfold wire_PutInts_0 at h
 refine zs 13 h (fun h => ?_) fun h => ?_
 ·
  exact zt 6 h ha [.matt 0 0 1]
 refine zc 6 [] h (fun _ => wire_PutInt_ok) fun y2 h => ?_
 exact zj 12 h ha
theorem wire_PutInts_1_ok {t13 t14 t15 b} : wire_PutInts_W (.s1 t13 t14 t15 b) (wire_PutInts_1 t13 t14 t15 b) := by
 intro r x h ha; unfold wire_PutInts_1 at h
 refine zs 7 h (fun h => ?_) fun h => ?_
 ·
  refine zn 6 h fun h => ?_
  refine zr 1 (eInt .i64) h fun y3 h => ?_
  refine zc 6 [] h (fun _ => wire_put_v2_ok) fun y5 h => ?_
  exact zj 8 h ha
 exact zt 8 h ha
noncomputable def wire_PutInts (l_ : List Int) : Option (Int × (List Int)) := evf wire_PutInts_step (.s0 l_)
theorem wire_PutInts_ok {l_ : List Int} {r : Int × (List Int)} (h : wire_PutInts l_ = some r) : Sound E 77 [.sl false 1 (List.map (eInt .i64) l_)] [] (Rs wire_PutInts_e r) := sc (fn := Tryz.f77) (k := true) (m := 0) (stM := wire_PutInts_M) h fun s => by
 cases s with
 | s0 => exact wire_PutInts_0_ok
 | s1 => exact wire_PutInts_1_ok
end Go.RX.L

namespace Go.RX.L
open Go Go.RX Go.Proofs
attribute [local irreducible] FinQ
noncomputable def plan_Put_c := codeAt (bodyOf Tryz.f78)
noncomputable def plan_Put_e (y : (List Int) × Int) : D × Sto := (.tup [.sl false 1 (List.map (eInt .u8) y.1), .int .i64 y.2], [])
inductive plan_Put_S where
 | s0 (p_ : Plan)
 | s1 (t17 : List Int) (t18 t19 : Int) (p_ : Plan) (pen : List Int)
 | s2 (t36 : Int) (b : List Int) (b1 : List (List Int))
noncomputable def plan_Put_M : plan_Put_S → M
 | .s0 p_ => startM Tryz.f78 [.agg [.int .i64 p_.Epoch, .int .i64 p_.Target, .int .i64 p_.Prev, .int .i64 p_.Spill, .int .i64 p_.Percent, .int .i64 p_.Stamp, .int .i64 p_.Since, .int .i64 p_.Ramped, .int .u64 p_.Up, .int .u64 p_.Sup, .sl false 1 (List.map (eInt .i64) p_.Pen), .sl false 1 (List.map (eInt .i64) p_.Changes)]] []
 | .s1 t17 t18 t19 p_ pen => ⟨[.lpc (plan_Put_c [1, 1, 1, 0, 1, 0, 0]) 917522, .blk 0, .code (plan_Put_c [1, 1, 1, 1])], [(1, .ptr 0 0 0), (4, (grD 1 (List.map (eInt .i64) pen))), (17, .sl false 1 (List.map (eInt .i64) t17)), (18, .int .i64 t18), (19, .int .i64 t19)], [some ⟨12, false, [(Plan.enc p_)]⟩, some ⟨1, false, (List.map (eInt .i64) pen)⟩]⟩
 | .s2 t36 b b1 => ⟨[.lpc (plan_Put_c [1, 1, 1, 1, 1, 1, 0, 1, 0, 0]) 120259084544, .blk 2, .code (plan_Put_c [1, 1, 1, 1, 1, 1, 1])], [(8, (grD 0 (List.map (eInt .u8) b))), (34, .msl 1 0 ((List.map (eSl 1 (eInt .i64)) b1).length) ((List.map (eSl 1 (eInt .i64)) b1).length) true), (35, .int .i64 3), (36, .int .i64 t36)], [some ⟨1, false, (List.map (eInt .u8) b)⟩, some ⟨1, false, (List.map (eSl 1 (eInt .i64)) b1)⟩]⟩
abbrev plan_Put_W := SOk E (Cx.of Tryz.f78 false 0) plan_Put_e plan_Put_M
noncomputable def plan_Put_0 (p_ : Plan) : Option (plan_Put_S ⊕ ((List Int) × Int)) := ((plan_Right p_).bind fun y1 => (bif (!y1) then (some (.inr ([], 41))) else (some (.inl (.s1 p_.Pen (((List.map (eInt .i64) p_.Pen).length : Nat) : Int) 0 p_ ([]))))))
noncomputable def plan_Put_1 (t17 : List Int) (t18 t19 : Int) (p_ : Plan) (pen : List Int) : Option (plan_Put_S ⊕ ((List Int) × Int)) := (bif (decide ((t19 : Int) < t18)) then (bif ((decide ((0 : Int) ≤ t19)) && (decide ((t19 : Int) < (((List.map (eInt .i64) t17).length : Nat) : Int)))) then (((t17)[t19.toNat]?).bind fun y3 => (bif (decide (((List.map (eInt .i64) pen).length + 1) * 8 ≤ bytesLim)) then (some (.inl (.s1 t17 t18 (IntKind.i64.wrap (t19 + 1)) p_ (pen ++ [y3])))) else none)) else none) else ((plan_numbers p_).bind fun y6 => (some (.inl (.s2 0 ([]) ([[y6.1, y6.2.1, y6.2.2.1, y6.2.2.2.1, y6.2.2.2.2.1, y6.2.2.2.2.2.1, y6.2.2.2.2.2.2.1, y6.2.2.2.2.2.2.2.1, y6.2.2.2.2.2.2.2.2.1, y6.2.2.2.2.2.2.2.2.2], pen, p_.Changes]))))))
noncomputable def plan_Put_2 (t36 : Int) (b : List Int) (b1 : List (List Int)) : Option (plan_Put_S ⊕ ((List Int) × Int)) := (bif (decide ((t36 : Int) < 3)) then (bif ((decide ((0 : Int) ≤ t36)) && (decide ((t36 : Int) < (((List.map (eSl 1 (eInt .i64)) b1).length : Nat) : Int)))) then (((b1)[(0 + t36.toNat)]?).bind fun y3 => ((wire_PutInts y3).bind fun y5 => (bif (decide (((List.map (eInt .u8) b).length + (List.take ((List.map (eInt .u8) y5.2).length) (List.drop 0 (List.map (eInt .u8) y5.2))).length) * 1 ≤ bytesLim)) then (some (.inl (.s2 (IntKind.i64.wrap (t36 + 1)) (b ++ y5.2) b1))) else none))) else none) else (some (.inr (b, 0))))
noncomputable def plan_Put_step : plan_Put_S → Option (plan_Put_S ⊕ ((List Int) × Int))
 | .s0 p_ => plan_Put_0 p_
 | .s1 t17 t18 t19 p_ pen => plan_Put_1 t17 t18 t19 p_ pen
 | .s2 t36 b b1 => plan_Put_2 t36 b b1
theorem plan_Put_0_ok {p_} : plan_Put_W (.s0 p_) (plan_Put_0 p_) := by
 intro r x h ha; unfold plan_Put_0 at h
 refine zc 12 [] h (fun _ => plan_Right_ok) fun y1 h => ?_
 refine zs 3 h (fun h => ?_) fun h => ?_
 ·
  exact zt 6 h ha [.slot 0 [some 1]]
 refine adv_ok hm 17 _ ?_
 obtain rfl := Option.some.inj h
 refine r_cut 917522 [.mat 4 1] (m' := ⟨[.lpc (plan_Put_c [1, 1, 1, 0, 1, 0, 0]) 917522, .blk 0, .code (plan_Put_c [1, 1, 1, 1])], [(1, .ptr 0 0 0), (4, .msl 1 0 0 0 false), (17, .sl false 1 (List.map (eInt .i64) p_.Pen)), (18, .int .i64 (((List.map (eInt .i64) p_.Pen).length : Nat) : Int)), (19, .int .i64 0)], [some ⟨12, false, [(Plan.enc p_)]⟩, some ⟨1, false, []⟩]⟩) (by kernel_rfl) ?_
 refine r_len (n1 := 0) (n2 := (List.map (eInt .i64) ([])).length) (fun n_len => .go ⟨[.lpc (plan_Put_c [1, 1, 1, 0, 1, 0, 0]) 917522, .blk 0, .code (plan_Put_c [1, 1, 1, 1])], [(1, .ptr 0 0 0), (4, .msl 1 0 n_len n_len false), (17, .sl false 1 (List.map (eInt .i64) p_.Pen)), (18, .int .i64 (((List.map (eInt .i64) p_.Pen).length : Nat) : Int)), (19, .int .i64 0)], [some ⟨12, false, [(Plan.enc p_)]⟩, some ⟨1, false, []⟩]⟩) (by simp) ?_
 exact ha
theorem plan_Put_1_ok {t17 t18 t19 p_ pen} : plan_Put_W (.s1 t17 t18 t19 p_ pen) (plan_Put_1 t17 t18 t19 p_ pen) := by
 intro r x h ha; unfold plan_Put_1 at h
 refine zs 7 h (fun h => ?_) fun h => ?_
 ·
  refine zn 6 h fun h => ?_
  refine zr 1 (eInt .i64) h fun y3 h => ?_
  refine zn 8 h fun h => ?_
  refine za 0 (eInt .i64) pen ([y3]) ?_
  exact zj 8 h ha
 refine zc 6 [] h (fun _ => plan_numbers_ok) fun y6 h => ?_
 refine adv_ok hm 16 _ ?_
 refine r_fzC 0 0 0 (n1 := 10) (n2 := 10) (raw := ([[.int .i64 y6.1], [.int .i64 y6.2.1], [.int .i64 y6.2.2.1], [.int .i64 y6.2.2.2.1], [.int .i64 y6.2.2.2.2.1], [.int .i64 y6.2.2.2.2.2.1], [.int .i64 y6.2.2.2.2.2.2.1], [.int .i64 y6.2.2.2.2.2.2.2.1], [.int .i64 y6.2.2.2.2.2.2.2.2.1], [.int .i64 y6.2.2.2.2.2.2.2.2.2]])) (rs := ([[.int .i64 y6.1], [.int .i64 y6.2.1], [.int .i64 y6.2.2.1], [.int .i64 y6.2.2.2.1], [.int .i64 y6.2.2.2.2.1], [.int .i64 y6.2.2.2.2.2.1], [.int .i64 y6.2.2.2.2.2.2.1], [.int .i64 y6.2.2.2.2.2.2.2.1], [.int .i64 y6.2.2.2.2.2.2.2.2.1], [.int .i64 y6.2.2.2.2.2.2.2.2.2]])) (by kernel_rfl) rfl rfl ?_
 refine r_fzC 0 1 0 (n1 := (0 + (List.map (eInt .i64) pen).length)) (n2 := ((List.map (eInt .i64) pen).length)) (raw := (List.take ((List.map (eInt .i64) pen).length) (List.drop 0 (List.map (eInt .i64) pen)))) (rs := (List.map (eInt .i64) pen)) (by kernel_rfl) (ble_full _) (by simp only [take_full, take_full', List.map_take, List.map_drop]) ?_
 obtain rfl := Option.some.inj h
 refine r_cut 120259084544 [.mat 8 1] (m' := ⟨[.lpc (plan_Put_c [1, 1, 1, 1, 1, 1, 0, 1, 0, 0]) 120259084544, .blk 2, .code (plan_Put_c [1, 1, 1, 1, 1, 1, 1])], [(8, .msl 0 0 0 0 false), (34, .msl 1 0 3 3 true), (35, .int .i64 3), (36, .int .i64 0)], [some ⟨1, false, []⟩, some ⟨1, false, [[.sl false 1 [[.int .i64 y6.1], [.int .i64 y6.2.1], [.int .i64 y6.2.2.1], [.int .i64 y6.2.2.2.1], [.int .i64 y6.2.2.2.2.1], [.int .i64 y6.2.2.2.2.2.1], [.int .i64 y6.2.2.2.2.2.2.1], [.int .i64 y6.2.2.2.2.2.2.2.1], [.int .i64 y6.2.2.2.2.2.2.2.2.1], [.int .i64 y6.2.2.2.2.2.2.2.2.2]]], [.sl false 1 (List.map (eInt .i64) pen)], [.sl false 1 (List.map (eInt .i64) p_.Changes)]]⟩]⟩) (by kernel_rfl) ?_
 refine r_len (n1 := 0) (n2 := (List.map (eInt .u8) ([])).length) (fun n_len => .go ⟨[.lpc (plan_Put_c [1, 1, 1, 1, 1, 1, 0, 1, 0, 0]) 120259084544, .blk 2, .code (plan_Put_c [1, 1, 1, 1, 1, 1, 1])], [(8, .msl 0 0 n_len n_len false), (34, .msl 1 0 3 3 true), (35, .int .i64 3), (36, .int .i64 0)], [some ⟨1, false, []⟩, some ⟨1, false, [[.sl false 1 [[.int .i64 y6.1], [.int .i64 y6.2.1], [.int .i64 y6.2.2.1], [.int .i64 y6.2.2.2.1], [.int .i64 y6.2.2.2.2.1], [.int .i64 y6.2.2.2.2.2.1], [.int .i64 y6.2.2.2.2.2.2.1], [.int .i64 y6.2.2.2.2.2.2.2.1], [.int .i64 y6.2.2.2.2.2.2.2.2.1], [.int .i64 y6.2.2.2.2.2.2.2.2.2]]], [.sl false 1 (List.map (eInt .i64) pen)], [.sl false 1 (List.map (eInt .i64) p_.Changes)]]⟩]⟩) (by simp) ?_
 refine r_len (n1 := 3) (n2 := (List.map (eSl 1 (eInt .i64)) ([[y6.1, y6.2.1, y6.2.2.1, y6.2.2.2.1, y6.2.2.2.2.1, y6.2.2.2.2.2.1, y6.2.2.2.2.2.2.1, y6.2.2.2.2.2.2.2.1, y6.2.2.2.2.2.2.2.2.1, y6.2.2.2.2.2.2.2.2.2], pen, p_.Changes])).length) (fun n_len => .go ⟨[.lpc (plan_Put_c [1, 1, 1, 1, 1, 1, 0, 1, 0, 0]) 120259084544, .blk 2, .code (plan_Put_c [1, 1, 1, 1, 1, 1, 1])], [(8, .msl 0 0 ((List.map (eInt .u8) ([])).length) ((List.map (eInt .u8) ([])).length) false), (34, .msl 1 0 n_len n_len true), (35, .int .i64 3), (36, .int .i64 0)], [some ⟨1, false, []⟩, some ⟨1, false, [[.sl false 1 [[.int .i64 y6.1], [.int .i64 y6.2.1], [.int .i64 y6.2.2.1], [.int .i64 y6.2.2.2.1], [.int .i64 y6.2.2.2.2.1], [.int .i64 y6.2.2.2.2.2.1], [.int .i64 y6.2.2.2.2.2.2.1], [.int .i64 y6.2.2.2.2.2.2.2.1], [.int .i64 y6.2.2.2.2.2.2.2.2.1], [.int .i64 y6.2.2.2.2.2.2.2.2.2]]], [.sl false 1 (List.map (eInt .i64) pen)], [.sl false 1 (List.map (eInt .i64) p_.Changes)]]⟩]⟩) (by simp) ?_
 exact ha
theorem plan_Put_2_ok {t36 b b1} : plan_Put_W (.s2 t36 b b1) (plan_Put_2 t36 b b1) := by
 intro r x h ha; unfold plan_Put_2 at h
 refine zs 7 h (fun h => ?_) fun h => ?_
 ·
  refine zn 6 h fun h => ?_
  refine zr 1 (eSl 1 (eInt .i64)) h fun y3 h => ?_
  refine zc 6 [] h (fun _ => wire_PutInts_ok) fun y5 h => ?_
  refine zm 10 (b := (Nat.beq ((List.take ((List.map (eInt .u8) y5.2).length) (List.drop 0 (List.map (eInt .u8) y5.2))).length) ((List.map (eInt .u8) y5.2).length))) (by simp) ?_
  refine zn 0 h fun h => ?_
  refine zm 0 (b := (Nat.ble (0 + (List.map (eInt .u8) b).length) ((List.map (eInt .u8) b).length))) (ble_full _) ?_
  refine zw 0 (a := (List.take ((List.map (eInt .u8) b).length) (List.drop 0 (List.map (eInt .u8) b)) ++ (List.take ((List.map (eInt .u8) y5.2).length) (List.drop 0 (List.map (eInt .u8) y5.2))))) (b := (List.map (eInt .u8) (b ++ y5.2))) (by simp only [take_full, take_full', List.map_append, List.map_take, List.map_drop]) ?_
  exact zj 8 h ha
 refine zm 8 (b := (Nat.ble (0 + (List.map (eInt .u8) b).length) ((List.map (eInt .u8) b).length))) (ble_full _) ?_
 obtain rfl := Option.some.inj h
 have hv := ha
 simp only [After] at hv
 subst hv
 exact r_retE [] (d1 := .tup [.sl false 1 (List.take ((List.map (eInt .u8) b).length) (List.drop 0 (List.map (eInt .u8) b))), .int .i64 0]) (d := .tup [.sl false 1 (List.map (eInt .u8) b), .int .i64 0]) (s1 := []) (s := []) (by kernel_rfl) ⟨by simp [List.take_of_length_le, List.map_take, List.map_drop], rfl⟩ ⟨rfl, rfl⟩ Cx.fin_of
noncomputable def plan_Put (p_ : Plan) : Option ((List Int) × Int) := evf plan_Put_step (.s0 p_)
theorem plan_Put_ok {p_ : Plan} {r : (List Int) × Int} (h : plan_Put p_ = some r) : Sound E 78 [.agg [.int .i64 p_.Epoch, .int .i64 p_.Target, .int .i64 p_.Prev, .int .i64 p_.Spill, .int .i64 p_.Percent, .int .i64 p_.Stamp, .int .i64 p_.Since, .int .i64 p_.Ramped, .int .u64 p_.Up, .int .u64 p_.Sup, .sl false 1 (List.map (eInt .i64) p_.Pen), .sl false 1 (List.map (eInt .i64) p_.Changes)]] [] (Rs plan_Put_e r) := sc (fn := Tryz.f78) (k := false) (m := 0) (stM := plan_Put_M) h fun s => by
 cases s with
 | s0 => exact plan_Put_0_ok
 | s1 => exact plan_Put_1_ok
 | s2 => exact plan_Put_2_ok
end Go.RX.L

namespace Go.RX.L
open Go Go.RX Go.Proofs
attribute [local irreducible] FinQ
noncomputable def wire_PutText_e (y : Int × (List Int)) : D × Sto := (.tup [(grD 0 (List.map (eInt .u8) y.2)), .int .i64 y.1], [some ⟨1, false, (List.map (eInt .u8) y.2)⟩])
noncomputable def wire_PutText (s_ : List Int) : Option (Int × (List Int)) := (bif (decide (((((List.map (eInt .u8) s_).length : Nat) : Int) : Int) > 4096)) then (some (2, [])) else ((wire_PutInt (((List.map (eInt .u8) s_).length : Nat) : Int)).bind fun y2 => (bif (decide (((List.map (eInt .u8) y2).length + (List.map (eInt .u8) s_).length) * 1 ≤ bytesLim)) then (some (0, (y2 ++ s_))) else none)))
theorem wire_PutText_ok {s_ : List Int} {r : Int × (List Int)} (h : wire_PutText s_ = some r) : Sound E 79 [.sl false 1 (List.map (eInt .u8) s_)] [] (Rs wire_PutText_e r) := so (fn := Tryz.f79) (k := true) (m := 0) h <| by
 intro r h; unfold wire_PutText at h
 refine zs 13 h (fun h => ?_) fun h => ?_
 ·
  exact zu 6 h [.matt 0 0 1]
 refine zc 6 [] h (fun _ => wire_PutInt_ok) fun y2 h => ?_
 refine zn 2 h fun h => ?_
 refine za 0 (eInt .u8) y2 s_ ?_
 exact zu 4 h
end Go.RX.L

namespace Go.RX.L
open Go Go.RX Go.Proofs
attribute [local irreducible] FinQ
noncomputable def msg_Body_c := codeAt (bodyOf Tryz.f54)
noncomputable def msg_Body_e (y : Int × (List Int) × Int) : D × Sto := (.tup [.int .u8 y.1, .sl false 1 (List.map (eInt .u8) y.2.1), .int .i64 y.2.2], [])
inductive msg_Body_S where
 | s0 (m : Msg)
 | s3 (m : Msg) (l_ : List Int)
 | s2 (m : Msg) (b : List Int)
 | s1 (t81 : Int) (m : Msg) (b : List Int) (b2 : List (List Int))
noncomputable def msg_Body_M : msg_Body_S → M
 | .s0 m => startM Tryz.f54 [.agg [.int .i64 m.Kind, .int .i64 m.From, .int .i64 m.To, .int .i64 m.Epoch, .int .i64 m.Ballot, .int .i64 m.Accepted, .int .i64 m.Nonce, .int .i64 m.Time, .int .u64 m.Up, .int .i64 m.Code, .bool m.HasPlan, .int .i64 m.Plan.Epoch, .int .i64 m.Plan.Target, .int .i64 m.Plan.Prev, .int .i64 m.Plan.Spill, .int .i64 m.Plan.Percent, .int .i64 m.Plan.Stamp, .int .i64 m.Plan.Since, .int .i64 m.Plan.Ramped, .int .u64 m.Plan.Up, .int .u64 m.Plan.Sup, .sl false 1 (List.map (eInt .i64) m.Plan.Pen), .sl false 1 (List.map (eInt .i64) m.Plan.Changes), .sl false 1 (List.map (eInt .i64) m.ID), .sl false 1 (List.map (eInt .u8) m.Session), .sl false 1 (List.map (eInt .u8) m.Payload)]] []
 | .s3 m l_ => ⟨[.code (msg_Body_c [1, 1, 1, 1])], [(1, .ptr 0 0 0), (5, .msl 1 0 ((List.map (eInt .i64) l_).length) ((List.map (eInt .i64) l_).length) true)], [some ⟨26, false, [(Msg.enc m)]⟩, some ⟨1, false, (List.map (eInt .i64) l_)⟩]⟩
 | .s2 m b => ⟨[.code (msg_Body_c [1, 1, 1, 1, 1, 1])], [(1, .ptr 0 0 0), (6, (grD 1 (List.map (eInt .u8) b)))], [some ⟨26, false, [(Msg.enc m)]⟩, some ⟨1, false, (List.map (eInt .u8) b)⟩]⟩
 | .s1 t81 m b b2 => ⟨[.lpc (msg_Body_c [1, 1, 1, 1, 1, 1, 1, 1, 0, 1, 0, 0]) 4231240368651202111471682, .blk 0, .code (msg_Body_c [1, 1, 1, 1, 1, 1, 1, 1, 1])], [(1, .ptr 0 0 0), (6, (grD 1 (List.map (eInt .u8) b))), (79, .msl 2 0 ((List.map (eSl 1 (eInt .u8)) b2).length) ((List.map (eSl 1 (eInt .u8)) b2).length) true), (80, .int .i64 2), (81, .int .i64 t81)], [some ⟨26, false, [(Msg.enc m)]⟩, some ⟨1, false, (List.map (eInt .u8) b)⟩, some ⟨1, false, (List.map (eSl 1 (eInt .u8)) b2)⟩]⟩
abbrev msg_Body_W := SOk E (Cx.of Tryz.f54 false 0) msg_Body_e msg_Body_M
noncomputable def msg_Body_0 (m : Msg) : Option (msg_Body_S ⊕ (Int × (List Int) × Int)) := ((msg_Right m).bind fun y1 => (bif (!y1) then (some (.inr (0, [], 51))) else (bif m.HasPlan then (some (.inl (.s3 m ([m.From, m.To, m.Epoch, m.Ballot, m.Accepted, m.Nonce, m.Time, (IntKind.i64.wrap (m.Up)), m.Code, 1])))) else (some (.inl (.s3 m ([m.From, m.To, m.Epoch, m.Ballot, m.Accepted, m.Nonce, m.Time, (IntKind.i64.wrap (m.Up)), m.Code, 0])))))))
noncomputable def msg_Body_3 (m : Msg) (l_ : List Int) : Option (msg_Body_S ⊕ (Int × (List Int) × Int)) := ((wire_PutInts l_).bind fun y1 => (bif m.HasPlan then ((plan_Put m.Plan).bind fun y3 => ((wire_PutText y3.1).bind fun y4 => (bif (decide (((List.map (eInt .u8) y1.2).length + (List.take ((List.map (eInt .u8) y4.2).length) (List.drop 0 (List.map (eInt .u8) y4.2))).length) * 1 ≤ bytesLim)) then (some (.inl (.s2 m (y1.2 ++ y4.2)))) else none))) else (some (.inl (.s2 m y1.2)))))
noncomputable def msg_Body_2 (m : Msg) (b : List Int) : Option (msg_Body_S ⊕ (Int × (List Int) × Int)) := ((wire_PutInts m.ID).bind fun y1 => (bif (decide (((List.map (eInt .u8) b).length + (List.take ((List.map (eInt .u8) y1.2).length) (List.drop 0 (List.map (eInt .u8) y1.2))).length) * 1 ≤ bytesLim)) then (some (.inl (.s1 0 m (b ++ y1.2) ([m.Session, m.Payload])))) else none))
noncomputable def msg_Body_1 (t81 : Int) (m : Msg) (b : List Int) (b2 : List (List Int)) : Option (msg_Body_S ⊕ (Int × (List Int) × Int)) := (bif (decide ((t81 : Int) < 2)) then (bif ((decide ((0 : Int) ≤ t81)) && (decide ((t81 : Int) < (((List.map (eSl 1 (eInt .u8)) b2).length : Nat) : Int)))) then (((b2)[(0 + t81.toNat)]?).bind fun y3 => ((wire_PutText y3).bind fun y5 => (bif (decide (((List.map (eInt .u8) b).length + (List.take ((List.map (eInt .u8) y5.2).length) (List.drop 0 (List.map (eInt .u8) y5.2))).length) * 1 ≤ bytesLim)) then (some (.inl (.s1 (IntKind.i64.wrap (t81 + 1)) m (b ++ y5.2) b2))) else none))) else none) else (some (.inr ((IntKind.u8.wrap (m.Kind)), b, 0))))
noncomputable def msg_Body_step : msg_Body_S → Option (msg_Body_S ⊕ (Int × (List Int) × Int))
 | .s0 m => msg_Body_0 m
 | .s3 m l_ => msg_Body_3 m l_
 | .s2 m b => msg_Body_2 m b
 | .s1 t81 m b b2 => msg_Body_1 t81 m b b2
theorem msg_Body_0_ok {m} : msg_Body_W (.s0 m) (msg_Body_0 m) := by
 intro r x h ha; unfold msg_Body_0 at h
 refine zc 13 [] h (fun _ => msg_Right_ok) fun y1 h => ?_
 refine zs 3 h (fun h => ?_) fun h => ?_
 ·
  exact zt 7 h ha [.slot 0 [some 1]]
 refine zs 42 h (fun h => ?_) fun h => ?_
 ·
  refine adv_ok hm 8 _ ?_
  obtain rfl := Option.some.inj h
  refine r_cut 34 [] (m' := ⟨[.code (msg_Body_c [1, 1, 1, 1])], [(1, .ptr 0 0 0), (5, .msl 1 0 10 10 true)], [some ⟨26, false, [(Msg.enc m)]⟩, some ⟨1, false, [[.int .i64 m.From], [.int .i64 m.To], [.int .i64 m.Epoch], [.int .i64 m.Ballot], [.int .i64 m.Accepted], [.int .i64 m.Nonce], [.int .i64 m.Time], [.int .i64 (IntKind.i64.wrap (m.Up))], [.int .i64 m.Code], [.int .i64 1]]⟩]⟩) (by kernel_rfl) ?_
  refine r_len (n1 := 10) (n2 := (List.map (eInt .i64) ([m.From, m.To, m.Epoch, m.Ballot, m.Accepted, m.Nonce, m.Time, (IntKind.i64.wrap (m.Up)), m.Code, 1])).length) (fun n_len => .go ⟨[.code (msg_Body_c [1, 1, 1, 1])], [(1, .ptr 0 0 0), (5, .msl 1 0 n_len n_len true)], [some ⟨26, false, [(Msg.enc m)]⟩, some ⟨1, false, [[.int .i64 m.From], [.int .i64 m.To], [.int .i64 m.Epoch], [.int .i64 m.Ballot], [.int .i64 m.Accepted], [.int .i64 m.Nonce], [.int .i64 m.Time], [.int .i64 (IntKind.i64.wrap (m.Up))], [.int .i64 m.Code], [.int .i64 1]]⟩]⟩) (by simp) ?_
  exact ha
 refine adv_ok hm 1 _ ?_
 obtain rfl := Option.some.inj h
 refine r_cut 34 [] (m' := ⟨[.code (msg_Body_c [1, 1, 1, 1])], [(1, .ptr 0 0 0), (5, .msl 1 0 10 10 true)], [some ⟨26, false, [(Msg.enc m)]⟩, some ⟨1, false, [[.int .i64 m.From], [.int .i64 m.To], [.int .i64 m.Epoch], [.int .i64 m.Ballot], [.int .i64 m.Accepted], [.int .i64 m.Nonce], [.int .i64 m.Time], [.int .i64 (IntKind.i64.wrap (m.Up))], [.int .i64 m.Code], [.int .i64 0]]⟩]⟩) (by kernel_rfl) ?_
 refine r_len (n1 := 10) (n2 := (List.map (eInt .i64) ([m.From, m.To, m.Epoch, m.Ballot, m.Accepted, m.Nonce, m.Time, (IntKind.i64.wrap (m.Up)), m.Code, 0])).length) (fun n_len => .go ⟨[.code (msg_Body_c [1, 1, 1, 1])], [(1, .ptr 0 0 0), (5, .msl 1 0 n_len n_len true)], [some ⟨26, false, [(Msg.enc m)]⟩, some ⟨1, false, [[.int .i64 m.From], [.int .i64 m.To], [.int .i64 m.Epoch], [.int .i64 m.Ballot], [.int .i64 m.Accepted], [.int .i64 m.Nonce], [.int .i64 m.Time], [.int .i64 (IntKind.i64.wrap (m.Up))], [.int .i64 m.Code], [.int .i64 0]]⟩]⟩) (by simp) ?_
 exact ha
theorem msg_Body_3_ok {m l_} : msg_Body_W (.s3 m l_) (msg_Body_3 m l_) := by
 intro r x h ha; unfold msg_Body_3 at h
 refine zm 4 (b := (Nat.ble (0 + (List.map (eInt .i64) l_).length) ((List.map (eInt .i64) l_).length))) (ble_full _) ?_
 refine zcE 0 [] (args1 := [.sl false 1 (List.take ((List.map (eInt .i64) l_).length) (List.drop 0 (List.map (eInt .i64) l_)))]) h (fun _ => wire_PutInts_ok) ⟨by simp [List.take_of_length_le, List.map_take, List.map_drop], rfl⟩ fun y1 h => ?_
 refine zs 14 h (fun h => ?_) fun h => ?_
 ·
  refine zc 6 [] h (fun _ => plan_Put_ok) fun y3 h => ?_
  refine zc 10 [] h (fun _ => wire_PutText_ok) fun y4 h => ?_
  refine zm 10 (b := (Nat.beq ((List.take ((List.map (eInt .u8) y4.2).length) (List.drop 0 (List.map (eInt .u8) y4.2))).length) ((List.map (eInt .u8) y4.2).length))) (by simp) ?_
  refine zn 0 h fun h => ?_
  refine zm 0 (b := (Nat.ble (0 + (List.map (eInt .u8) y1.2).length) ((List.map (eInt .u8) y1.2).length))) (ble_full _) ?_
  refine zw 0 (a := (List.take ((List.map (eInt .u8) y1.2).length) (List.drop 0 (List.map (eInt .u8) y1.2)) ++ (List.take ((List.map (eInt .u8) y4.2).length) (List.drop 0 (List.map (eInt .u8) y4.2))))) (b := (List.map (eInt .u8) (y1.2 ++ y4.2))) (by simp only [take_full, take_full', List.map_append, List.map_take, List.map_drop]) ?_
  exact zk 2 h ha
 exact zk 1 h ha
theorem msg_Body_2_ok {m b} : msg_Body_W (.s2 m b) (msg_Body_2 m b) := by
 intro r x h ha; unfold msg_Body_2 at h
 refine zc 6 [] h (fun _ => wire_PutInts_ok) fun y1 h => ?_
 refine zm 11 (b := (Nat.beq ((List.take ((List.map (eInt .u8) y1.2).length) (List.drop 0 (List.map (eInt .u8) y1.2))).length) ((List.map (eInt .u8) y1.2).length))) (by simp) ?_
 refine zn 0 h fun h => ?_
 refine zm 0 (b := (Nat.ble (0 + (List.map (eInt .u8) b).length) ((List.map (eInt .u8) b).length))) (ble_full _) ?_
 refine zw 0 (a := (List.take ((List.map (eInt .u8) b).length) (List.drop 0 (List.map (eInt .u8) b)) ++ (List.take ((List.map (eInt .u8) y1.2).length) (List.drop 0 (List.map (eInt .u8) y1.2))))) (b := (List.map (eInt .u8) (b ++ y1.2))) (by simp only [take_full, take_full', List.map_append, List.map_take, List.map_drop]) ?_
 refine adv_ok hm 18 _ ?_
 obtain rfl := Option.some.inj h
 refine r_to (q' := .go ⟨[.lpc (msg_Body_c [1, 1, 1, 1, 1, 1, 1, 1, 0, 1, 0, 0]) 4231240368651202111471682, .blk 0, .code (msg_Body_c [1, 1, 1, 1, 1, 1, 1, 1, 1])], [(1, .ptr 0 0 0), (6, .msl 1 0 ((List.map (eInt .u8) (b ++ y1.2)).length) ((List.map (eInt .u8) (b ++ y1.2)).length) false), (79, .msl 2 0 2 2 true), (80, .int .i64 2), (81, .int .i64 0)], [some ⟨26, false, [(Msg.enc m)]⟩, some ⟨1, false, (List.map (eInt .u8) (b ++ y1.2))⟩, some ⟨1, false, [[.sl false 1 (List.map (eInt .u8) m.Session)], [.sl false 1 (List.map (eInt .u8) m.Payload)]]⟩]⟩) (by kernel_rfl) ?_
 refine r_len (n1 := 2) (n2 := (List.map (eSl 1 (eInt .u8)) ([m.Session, m.Payload])).length) (fun n_len => .go ⟨[.lpc (msg_Body_c [1, 1, 1, 1, 1, 1, 1, 1, 0, 1, 0, 0]) 4231240368651202111471682, .blk 0, .code (msg_Body_c [1, 1, 1, 1, 1, 1, 1, 1, 1])], [(1, .ptr 0 0 0), (6, .msl 1 0 ((List.map (eInt .u8) (b ++ y1.2)).length) ((List.map (eInt .u8) (b ++ y1.2)).length) false), (79, .msl 2 0 n_len n_len true), (80, .int .i64 2), (81, .int .i64 0)], [some ⟨26, false, [(Msg.enc m)]⟩, some ⟨1, false, (List.map (eInt .u8) (b ++ y1.2))⟩, some ⟨1, false, [[.sl false 1 (List.map (eInt .u8) m.Session)], [.sl false 1 (List.map (eInt .u8) m.Payload)]]⟩]⟩) (by simp) ?_
 exact ha
theorem msg_Body_1_ok {t81 m b b2} : msg_Body_W (.s1 t81 m b b2) (msg_Body_1 t81 m b b2) := by
 intro r x h ha; unfold msg_Body_1 at h
 refine zs 7 h (fun h => ?_) fun h => ?_
 ·
  refine zn 6 h fun h => ?_
  refine zr 1 (eSl 1 (eInt .u8)) h fun y3 h => ?_
  refine zc 6 [] h (fun _ => wire_PutText_ok) fun y5 h => ?_
  refine zm 10 (b := (Nat.beq ((List.take ((List.map (eInt .u8) y5.2).length) (List.drop 0 (List.map (eInt .u8) y5.2))).length) ((List.map (eInt .u8) y5.2).length))) (by simp) ?_
  refine zn 0 h fun h => ?_
  refine zm 0 (b := (Nat.ble (0 + (List.map (eInt .u8) b).length) ((List.map (eInt .u8) b).length))) (ble_full _) ?_
  refine zw 0 (a := (List.take ((List.map (eInt .u8) b).length) (List.drop 0 (List.map (eInt .u8) b)) ++ (List.take ((List.map (eInt .u8) y5.2).length) (List.drop 0 (List.map (eInt .u8) y5.2))))) (b := (List.map (eInt .u8) (b ++ y5.2))) (by simp only [take_full, take_full', List.map_append, List.map_take, List.map_drop]) ?_
  exact zj 8 h ha
 refine zm 13 (b := (Nat.ble (0 + (List.map (eInt .u8) b).length) ((List.map (eInt .u8) b).length))) (ble_full _) ?_
 obtain rfl := Option.some.inj h
 have hv := ha
 simp only [After] at hv
 subst hv
 exact r_retE [] (d1 := .tup [.int .u8 (IntKind.u8.wrap (m.Kind)), .sl false 1 (List.take ((List.map (eInt .u8) b).length) (List.drop 0 (List.map (eInt .u8) b))), .int .i64 0]) (d := .tup [.int .u8 (IntKind.u8.wrap (m.Kind)), .sl false 1 (List.map (eInt .u8) b), .int .i64 0]) (s1 := []) (s := []) (by kernel_rfl) ⟨by simp [List.take_of_length_le, List.map_take, List.map_drop], rfl⟩ ⟨rfl, rfl⟩ Cx.fin_of
noncomputable def msg_Body (m : Msg) : Option (Int × (List Int) × Int) := evf msg_Body_step (.s0 m)
theorem msg_Body_ok {m : Msg} {r : Int × (List Int) × Int} (h : msg_Body m = some r) : Sound E 54 [.agg [.int .i64 m.Kind, .int .i64 m.From, .int .i64 m.To, .int .i64 m.Epoch, .int .i64 m.Ballot, .int .i64 m.Accepted, .int .i64 m.Nonce, .int .i64 m.Time, .int .u64 m.Up, .int .i64 m.Code, .bool m.HasPlan, .int .i64 m.Plan.Epoch, .int .i64 m.Plan.Target, .int .i64 m.Plan.Prev, .int .i64 m.Plan.Spill, .int .i64 m.Plan.Percent, .int .i64 m.Plan.Stamp, .int .i64 m.Plan.Since, .int .i64 m.Plan.Ramped, .int .u64 m.Plan.Up, .int .u64 m.Plan.Sup, .sl false 1 (List.map (eInt .i64) m.Plan.Pen), .sl false 1 (List.map (eInt .i64) m.Plan.Changes), .sl false 1 (List.map (eInt .i64) m.ID), .sl false 1 (List.map (eInt .u8) m.Session), .sl false 1 (List.map (eInt .u8) m.Payload)]] [] (Rs msg_Body_e r) := sc (fn := Tryz.f54) (k := false) (m := 0) (stM := msg_Body_M) h fun s => by
 cases s with
 | s0 => exact msg_Body_0_ok
 | s3 => exact msg_Body_3_ok
 | s2 => exact msg_Body_2_ok
 | s1 => exact msg_Body_1_ok
end Go.RX.L

namespace Go.RX.L
open Go Go.RX Go.Proofs
attribute [local irreducible] FinQ
noncomputable def bytes_Clone_e (y : List Int) : D × Sto := (.sl false 1 (List.map (eInt .u8) y), [])
noncomputable def bytes_Clone (b : List Int) : Option (List Int) := (bif (decide ((0 + (List.map (eInt .u8) b).length) * 1 ≤ bytesLim)) then (some b) else none)
theorem bytes_Clone_ok {b r : List Int} (h : bytes_Clone b = some r) : Sound E 28 [.sl false 1 (List.map (eInt .u8) b)] [] (Rs bytes_Clone_e r) := so (fn := Tryz.f28) (k := true) (m := 0) h <| by
 intro r h; unfold bytes_Clone at h
 refine adv_ok hm 9 _ ?_
 refine r_any (List.isEmpty (List.map (eInt .u8) b)) (by kernel_rfl) ?_ (fun h1 => ?_)
 · -- it is not nil
   refine zn 9 h fun h => ?_
   refine zw 1 (a := (List.map (eInt .u8) b)) (b := (List.map (eInt .u8) b)) (rfl) ?_
   refine adv_ok hm 2 _ ?_
   refine r_fzT 2 (n1 := (0 + (List.map (eInt .u8) b).length)) (n2 := ((List.map (eInt .u8) b).length)) (raw := (List.take ((List.map (eInt .u8) b).length) (List.drop 0 (List.map (eInt .u8) b)))) (rs := (List.map (eInt .u8) b)) (by kernel_rfl) (ble_full _) (by simp only [take_full, take_full', List.map_take, List.map_drop]) ?_
   exact zu 1 h
 · -- nil
   obtain rfl : b = [] := by simpa using h1
   simp [bytesLim] at h
   subst h
   refine adv_ok hm 8 _ ?_
   exact r_retF [.slot 0 [some 1]] (d := .sl false 1 []) (s := []) (by kernel_rfl) Cx.fin_of ⟨rfl, rfl⟩
end Go.RX.L

namespace Go.RX.L
open Go Go.RX Go.Proofs
attribute [local irreducible] FinQ
noncomputable def slices_Clone_e (y : List Int) : D × Sto := (.sl false 1 (List.map (eInt .i64) y), [])
noncomputable def slices_Clone (s_ : List Int) : Option (List Int) := (bif (decide ((0 + (List.map (eInt .i64) s_).length) * 8 ≤ bytesLim)) then (some s_) else none)
theorem slices_Clone_ok {s_ r : List Int} (h : slices_Clone s_ = some r) : Sound E 27 [.sl false 1 (List.map (eInt .i64) s_)] [] (Rs slices_Clone_e r) := so (fn := Tryz.f27) (k := false) (m := 0) h <| by
 intro r h; unfold slices_Clone at h
 refine adv_ok hm 9 _ ?_
 refine r_any (List.isEmpty (List.map (eInt .i64) s_)) (by kernel_rfl) ?_ (fun h1 => ?_)
 · -- it is not nil
   refine zn 9 h fun h => ?_
   refine zw 1 (a := (List.map (eInt .i64) s_)) (b := (List.map (eInt .i64) s_)) (rfl) ?_
   refine zm 3 (b := (Nat.ble (0 + (List.map (eInt .i64) s_).length) ((List.map (eInt .i64) s_).length))) (ble_full _) ?_
   obtain rfl := Option.some.inj h
   exact r_retE [] (d1 := .sl false 1 (List.take ((List.map (eInt .i64) s_).length) (List.drop 0 (List.map (eInt .i64) s_)))) (d := .sl false 1 (List.map (eInt .i64) s_)) (s1 := []) (s := []) (by kernel_rfl) ⟨by simp [List.take_of_length_le, List.map_take, List.map_drop], rfl⟩ ⟨rfl, rfl⟩ Cx.fin_of
 · -- nil
   obtain rfl : s_ = [] := by simpa using h1
   simp [bytesLim] at h
   subst h
   refine adv_ok hm 8 _ ?_
   exact r_retF [.slot 0 [some 1]] (d := .sl false 1 []) (s := []) (by kernel_rfl) Cx.fin_of ⟨rfl, rfl⟩
end Go.RX.L

namespace Go.RX.L
open Go Go.RX Go.Proofs
attribute [local irreducible] FinQ
noncomputable def Target_take_e (known : Plan) (hold : Hold) (begun filled : Int) (c : Config) (index : Int) (well : Bool) (fuse : Int) (down : Bool) (b4 b5 : List Int) (y : Int × (List Entry) × (List (List Int))) : D × Sto := (.tup [], [some ⟨54, true, [([.int .i64 y.1] ++ Plan.encL known ([.int .i64 hold.Epoch, .int .i64 hold.Nonce, .int .u64 hold.Grants, .int .i64 hold.Until, (grD 6 (List.map Entry.enc y.2.1)), (grD 7 (List.map (eSl 1 (eInt .i64)) y.2.2)), .int .i64 begun, .int .i64 filled] ++ Config.encL c [.int .i64 index, .ptr 3 0 0, .bool well]))]⟩, none, none, some ⟨4, true, [[(grD 8 (List.map (eInt .u8) b4)), (grD 9 (List.map (eInt .u8) b5)), .int .i64 fuse, .bool down]]⟩, none, none, some ⟨3, false, (List.map Entry.enc y.2.1)⟩, some ⟨1, false, (List.map (eSl 1 (eInt .i64)) y.2.2)⟩, some ⟨1, false, (List.map (eInt .u8) b4)⟩, some ⟨1, false, (List.map (eInt .u8) b5)⟩])
noncomputable def Target_take (m : Msg) (fence : Int) (known : Plan) (hold : Hold) (begun filled : Int) (c : Config) (index : Int) (well : Bool) (b1 : List Entry) (b2 : List (List Int)) (fuse : Int) (down : Bool) (b4 b5 : List Int) : Option (Int × (List Entry) × (List (List Int))) := (bif ((m.Kind : Int) == 19) then (some ((mxI fence m.Epoch), b1, b2)) else (bif ((m.Kind : Int) == 14) then ((slices_Clone m.ID).bind fun y3 => ((bytes_Clone m.Payload).bind fun y4 => (bif (decide (((List.map Entry.enc b1).length + 1) * 56 ≤ bytesLim)) then (some ((mxI fence m.Epoch), (b1 ++ [(⟨y3, m.Epoch, y4⟩ : Entry)]), b2)) else none))) else (bif ((m.Kind : Int) == 18) then ((slices_Clone m.ID).bind fun y7 => (bif (decide (((List.map (eSl 1 (eInt .i64)) b2).length + 1) * 24 ≤ bytesLim)) then (some (fence, b1, (b2 ++ [y7]))) else none)) else (some (fence, b1, b2)))))
theorem Target_take_ok {m : Msg} {fence : Int} {known : Plan} {hold : Hold} {begun filled : Int} {c : Config} {index : Int} {well : Bool} {b1 : List Entry} {b2 : List (List Int)} {fuse : Int} {down : Bool} {b4 b5 : List Int} {r : Int × (List Entry) × (List (List Int))} (h : Target_take m fence known hold begun filled c index well b1 b2 fuse down b4 b5 = some r) : Sound E 31 [.ptr 0 0 0, .agg [.int .i64 m.Kind, .int .i64 m.From, .int .i64 m.To, .int .i64 m.Epoch, .int .i64 m.Ballot, .int .i64 m.Accepted, .int .i64 m.Nonce, .int .i64 m.Time, .int .u64 m.Up, .int .i64 m.Code, .bool m.HasPlan, .int .i64 m.Plan.Epoch, .int .i64 m.Plan.Target, .int .i64 m.Plan.Prev, .int .i64 m.Plan.Spill, .int .i64 m.Plan.Percent, .int .i64 m.Plan.Stamp, .int .i64 m.Plan.Since, .int .i64 m.Plan.Ramped, .int .u64 m.Plan.Up, .int .u64 m.Plan.Sup, .sl false 1 (List.map (eInt .i64) m.Plan.Pen), .sl false 1 (List.map (eInt .i64) m.Plan.Changes), .sl false 1 (List.map (eInt .i64) m.ID), .sl false 1 (List.map (eInt .u8) m.Session), .sl false 1 (List.map (eInt .u8) m.Payload)]] [some ⟨54, true, [([.int .i64 fence] ++ Plan.encL known ([.int .i64 hold.Epoch, .int .i64 hold.Nonce, .int .u64 hold.Grants, .int .i64 hold.Until, (grD 1 (List.map Entry.enc b1)), (grD 2 (List.map (eSl 1 (eInt .i64)) b2)), .int .i64 begun, .int .i64 filled] ++ Config.encL c [.int .i64 index, .ptr 3 0 0, .bool well]))]⟩, some ⟨3, false, (List.map Entry.enc b1)⟩, some ⟨1, false, (List.map (eSl 1 (eInt .i64)) b2)⟩, some ⟨4, true, [[(grD 4 (List.map (eInt .u8) b4)), (grD 5 (List.map (eInt .u8) b5)), .int .i64 fuse, .bool down]]⟩, some ⟨1, false, (List.map (eInt .u8) b4)⟩, some ⟨1, false, (List.map (eInt .u8) b5)⟩] (Rs (Target_take_e known hold begun filled c index well fuse down b4 b5) r) := so (fn := Tryz.f31) (k := true) (m := 6) h <| by
 intro r h; unfold Target_take at h
 refine zs 17 h (fun h => ?_) fun h => ?_
 ·
  refine zf 6 [.mv 1, .mv 2, .mv 4, .mv 5] ?_
  exact zu 1 h
 refine zs 6 h (fun h => ?_) fun h => ?_
 ·
  refine zd 9 [] h (fun _ => slices_Clone_ok) fun y3 h => ?_
  refine zdR 2 [] h (fun _ => bytes_Clone_ok) fun y4 h => ?_
  refine zn 0 h fun h => ?_
  refine za 0 Entry.enc b1 ([(⟨y3, m.Epoch, y4⟩ : Entry)]) ?_
  refine zf 3 [.mv 2, .mv 4, .mv 5] ?_
  exact zu 1 h
 refine zs 6 h (fun h => ?_) fun h => ?_
 ·
  refine zd 3 [] h (fun _ => slices_Clone_ok) fun y7 h => ?_
  refine zn 0 h fun h => ?_
  refine za 0 (eSl 1 (eInt .i64)) b2 ([y7]) ?_
  refine zf 3 [.mv 1, .mv 4, .mv 5] ?_
  exact zu 1 h
 refine zf 2 [.mv 1, .mv 2, .mv 4, .mv 5] ?_
 exact zu 1 h
end Go.RX.L

namespace Go.RX.L
open Go Go.RX Go.Proofs
attribute [local irreducible] FinQ
noncomputable def Target_remember__take_c := codeAt (bodyOf Tryz.f40)
noncomputable def Target_remember__take_e (known : Plan) (hold : Hold) (begun filled : Int) (c : Config) (index : Int) (well : Bool) (y : Bool × Int × Int × Bool × (List Entry) × (List (List Int)) × (List Int) × (List Int)) : D × Sto := (.bool y.1, [some ⟨54, true, [([.int .i64 y.2.1] ++ Plan.encL known ([.int .i64 hold.Epoch, .int .i64 hold.Nonce, .int .u64 hold.Grants, .int .i64 hold.Until, (grD 6 (List.map Entry.enc y.2.2.2.2.1)), (grD 7 (List.map (eSl 1 (eInt .i64)) y.2.2.2.2.2.1)), .int .i64 begun, .int .i64 filled] ++ Config.encL c [.int .i64 index, .ptr 3 0 0, .bool well]))]⟩, none, none, some ⟨4, true, [[(grD 8 (List.map (eInt .u8) y.2.2.2.2.2.2.1)), (grD 9 (List.map (eInt .u8) y.2.2.2.2.2.2.2)), .int .i64 y.2.2.1, .bool y.2.2.2.1]]⟩, none, none, some ⟨3, false, (List.map Entry.enc y.2.2.2.2.1)⟩, some ⟨1, false, (List.map (eSl 1 (eInt .i64)) y.2.2.2.2.2.1)⟩, some ⟨1, false, (List.map (eInt .u8) y.2.2.2.2.2.2.1)⟩, some ⟨1, false, (List.map (eInt .u8) y.2.2.2.2.2.2.2)⟩])
abbrev Target_remember__take_W (m : Msg) (fence : Int) (known : Plan) (hold : Hold) (begun filled : Int) (c : Config) (index : Int) (well : Bool) (b1 : List Entry) (b2 : List (List Int)) := AOk E (Cx.of Tryz.f40 true 6) (Target_remember__take_e known hold begun filled c index well)
noncomputable def Target_remember__take_1M (m : Msg) (fence : Int) (known : Plan) (hold : Hold) (begun filled : Int) (c : Config) (index : Int) (well : Bool) (b1 : List Entry) (b2 : List (List Int)) (t35 : Bool) (fuse2 : Int) (down2 : Bool) (b7 b8 : List Int) : M := ⟨[.code (Target_remember__take_c [1, 1, 0, 1]), .code (Target_remember__take_c [1, 1, 1])], [(2, .fn 31 [.ptr 0 0 0] []), (4, .ptr 6 0 0), (35, .bool t35)], [some ⟨54, true, [([.int .i64 fence] ++ Plan.encL known ([.int .i64 hold.Epoch, .int .i64 hold.Nonce, .int .u64 hold.Grants, .int .i64 hold.Until, (grD 1 (List.map Entry.enc b1)), (grD 2 (List.map (eSl 1 (eInt .i64)) b2)), .int .i64 begun, .int .i64 filled] ++ Config.encL c [.int .i64 index, .ptr 3 0 0, .bool well]))]⟩, some ⟨3, false, (List.map Entry.enc b1)⟩, some ⟨1, false, (List.map (eSl 1 (eInt .i64)) b2)⟩, some ⟨4, true, [[(grD 7 (List.map (eInt .u8) b7)), (grD 8 (List.map (eInt .u8) b8)), .int .i64 fuse2, .bool down2]]⟩, none, none, some ⟨26, false, [(Msg.enc m)]⟩, some ⟨1, false, (List.map (eInt .u8) b7)⟩, some ⟨1, false, (List.map (eInt .u8) b8)⟩]⟩
noncomputable def Target_remember__take_1 (m : Msg) (fence : Int) (known : Plan) (hold : Hold) (begun filled : Int) (c : Config) (index : Int) (well : Bool) (b1 : List Entry) (b2 : List (List Int)) (t35 : Bool) (fuse2 : Int) (down2 : Bool) (b7 b8 : List Int) : Option (Bool × Int × Int × Bool × (List Entry) × (List (List Int)) × (List Int) × (List Int)) := (bif t35 then (some (false, fence, fuse2, down2, b1, b2, b7, b8)) else ((Target_take m fence known hold begun filled c index well b1 b2 fuse2 down2 b7 b8).bind fun y2 => (some (true, y2.1, fuse2, down2, y2.2.1, y2.2.2, b7, b8))))
theorem Target_remember__take_1_ok {m fence known hold begun filled c index well b1 b2 t35 fuse2 down2 b7 b8} : Target_remember__take_W m fence known hold begun filled c index well b1 b2 (Target_remember__take_1M m fence known hold begun filled c index well b1 b2 t35 fuse2 down2 b7 b8) (Target_remember__take_1 m fence known hold begun filled c index well b1 b2 t35 fuse2 down2 b7 b8) := by
 intro r h; unfold Target_remember__take_1 at h
 refine zs 1 h (fun h => ?_) fun h => ?_
 ·
  refine zf 4 [.mv 1, .mv 2] ?_
  exact zu 1 h
 refine adv_ok hm 7 _ ?_
 have ok2 := fun (y : Int × (List Entry) × (List (List Int))) (hy : Target_take m fence known hold begun filled c index well b1 b2 fuse2 down2 b7 b8 = some y) => @Eq.mp (Sound E 31 [.ptr 0 0 0, .agg [.int .i64 m.Kind, .int .i64 m.From, .int .i64 m.To, .int .i64 m.Epoch, .int .i64 m.Ballot, .int .i64 m.Accepted, .int .i64 m.Nonce, .int .i64 m.Time, .int .u64 m.Up, .int .i64 m.Code, .bool m.HasPlan, .int .i64 m.Plan.Epoch, .int .i64 m.Plan.Target, .int .i64 m.Plan.Prev, .int .i64 m.Plan.Spill, .int .i64 m.Plan.Percent, .int .i64 m.Plan.Stamp, .int .i64 m.Plan.Since, .int .i64 m.Plan.Ramped, .int .u64 m.Plan.Up, .int .u64 m.Plan.Sup, .sl false 1 (List.map (eInt .i64) m.Plan.Pen), .sl false 1 (List.map (eInt .i64) m.Plan.Changes), .sl false 1 (List.map (eInt .i64) m.ID), .sl false 1 (List.map (eInt .u8) m.Session), .sl false 1 (List.map (eInt .u8) m.Payload)]] [some ⟨54, true, [([.int .i64 fence] ++ Plan.encL known ([.int .i64 hold.Epoch, .int .i64 hold.Nonce, .int .u64 hold.Grants, .int .i64 hold.Until, (grD 1 (List.map Entry.enc b1)), (grD 2 (List.map (eSl 1 (eInt .i64)) b2)), .int .i64 begun, .int .i64 filled] ++ Config.encL c [.int .i64 index, .ptr 3 0 0, .bool well]))]⟩, some ⟨3, false, (List.map Entry.enc b1)⟩, some ⟨1, false, (List.map (eSl 1 (eInt .i64)) b2)⟩, some ⟨4, true, [[(grD 4 (List.map (eInt .u8) b7)), (grD 5 (List.map (eInt .u8) b8)), .int .i64 fuse2, .bool down2]]⟩, some ⟨1, false, (List.map (eInt .u8) b7)⟩, some ⟨1, false, (List.map (eInt .u8) b8)⟩] (Rs (Target_take_e known hold begun filled c index well fuse2 down2 b7 b8) y)) (Sound E 31 [.ptr 0 0 0, .agg [.int .i64 m.Kind, .int .i64 m.From, .int .i64 m.To, .int .i64 m.Epoch, .int .i64 m.Ballot, .int .i64 m.Accepted, .int .i64 m.Nonce, .int .i64 m.Time, .int .u64 m.Up, .int .i64 m.Code, .bool m.HasPlan, .int .i64 m.Plan.Epoch, .int .i64 m.Plan.Target, .int .i64 m.Plan.Prev, .int .i64 m.Plan.Spill, .int .i64 m.Plan.Percent, .int .i64 m.Plan.Stamp, .int .i64 m.Plan.Since, .int .i64 m.Plan.Ramped, .int .u64 m.Plan.Up, .int .u64 m.Plan.Sup, .sl false 1 (List.map (eInt .i64) m.Plan.Pen), .sl false 1 (List.map (eInt .i64) m.Plan.Changes), .sl false 1 (List.map (eInt .i64) m.ID), .sl false 1 (List.map (eInt .u8) m.Session), .sl false 1 (List.map (eInt .u8) m.Payload)]] [some ⟨54, true, [([.int .i64 fence] ++ Plan.encL known ([.int .i64 hold.Epoch, .int .i64 hold.Nonce, .int .u64 hold.Grants, .int .i64 hold.Until, (grD 1 (List.map Entry.enc b1)), (grD 2 (List.map (eSl 1 (eInt .i64)) b2)), .int .i64 begun, .int .i64 filled] ++ Config.encL c [.int .i64 index, .ptr 3 0 0, .bool well]))]⟩, some ⟨3, false, (List.map Entry.enc b1)⟩, some ⟨1, false, (List.map (eSl 1 (eInt .i64)) b2)⟩, some ⟨4, true, [[(grD 4 (List.map (eInt .u8) b7)), (grD 5 (List.map (eInt .u8) b8)), .int .i64 fuse2, .bool down2]]⟩, some ⟨1, false, (List.map (eInt .u8) b7)⟩, some ⟨1, false, (List.map (eInt .u8) b8)⟩] (Rs (Target_take_e known hold begun filled c index well fuse2 down2 b7 b8) y)) (by kernel_rfl) (Target_take_ok hy)
 refine zc 0 [] h ok2 fun y2 h => ?_
 exact zu 6 h
noncomputable def Target_remember__take (m : Msg) (fence : Int) (known : Plan) (hold : Hold) (begun filled : Int) (c : Config) (index : Int) (well : Bool) (b1 : List Entry) (b2 : List (List Int)) (fuse : Int) (down : Bool) (b4 b5 : List Int) : Option (Bool × Int × Int × Bool × (List Entry) × (List (List Int)) × (List Int) × (List Int)) := ((msg_Body m).bind fun y1 => (bif ((y1.2.2 : Int) != 0) then (Target_remember__take_1 m fence known hold begun filled c index well b1 b2 true fuse down b4 b5) else ((Journal_Append y1.1 y1.2.1 fuse down b4 b5).bind fun y3 => (bif ((y3.1 : Int) != 0) then (Target_remember__take_1 m fence known hold begun filled c index well b1 b2 true y3.2.1 y3.2.2.1 b4 y3.2.2.2) else ((Journal_Sync y3.2.1 y3.2.2.1 b4 y3.2.2.2).bind fun y5 => (Target_remember__take_1 m fence known hold begun filled c index well b1 b2 ((y5.1 : Int) != 0) y5.2.1 y5.2.2.1 y5.2.2.2.1 y5.2.2.2.2))))))
theorem Target_remember__take_ok {m : Msg} {fence : Int} {known : Plan} {hold : Hold} {begun filled : Int} {c : Config} {index : Int} {well : Bool} {b1 : List Entry} {b2 : List (List Int)} {fuse : Int} {down : Bool} {b4 b5 : List Int} {r : Bool × Int × Int × Bool × (List Entry) × (List (List Int)) × (List Int) × (List Int)} (h : Target_remember__take m fence known hold begun filled c index well b1 b2 fuse down b4 b5 = some r) : Sound E 40 [.ptr 0 0 0, .agg [.int .i64 m.Kind, .int .i64 m.From, .int .i64 m.To, .int .i64 m.Epoch, .int .i64 m.Ballot, .int .i64 m.Accepted, .int .i64 m.Nonce, .int .i64 m.Time, .int .u64 m.Up, .int .i64 m.Code, .bool m.HasPlan, .int .i64 m.Plan.Epoch, .int .i64 m.Plan.Target, .int .i64 m.Plan.Prev, .int .i64 m.Plan.Spill, .int .i64 m.Plan.Percent, .int .i64 m.Plan.Stamp, .int .i64 m.Plan.Since, .int .i64 m.Plan.Ramped, .int .u64 m.Plan.Up, .int .u64 m.Plan.Sup, .sl false 1 (List.map (eInt .i64) m.Plan.Pen), .sl false 1 (List.map (eInt .i64) m.Plan.Changes), .sl false 1 (List.map (eInt .i64) m.ID), .sl false 1 (List.map (eInt .u8) m.Session), .sl false 1 (List.map (eInt .u8) m.Payload)], .fn 31 [.ptr 0 0 0] []] [some ⟨54, true, [([.int .i64 fence] ++ Plan.encL known ([.int .i64 hold.Epoch, .int .i64 hold.Nonce, .int .u64 hold.Grants, .int .i64 hold.Until, (grD 1 (List.map Entry.enc b1)), (grD 2 (List.map (eSl 1 (eInt .i64)) b2)), .int .i64 begun, .int .i64 filled] ++ Config.encL c [.int .i64 index, .ptr 3 0 0, .bool well]))]⟩, some ⟨3, false, (List.map Entry.enc b1)⟩, some ⟨1, false, (List.map (eSl 1 (eInt .i64)) b2)⟩, some ⟨4, true, [[(grD 4 (List.map (eInt .u8) b4)), (grD 5 (List.map (eInt .u8) b5)), .int .i64 fuse, .bool down]]⟩, some ⟨1, false, (List.map (eInt .u8) b4)⟩, some ⟨1, false, (List.map (eInt .u8) b5)⟩] (Rs (Target_remember__take_e known hold begun filled c index well) r) := so (fn := Tryz.f40) (k := true) (m := 6) h <| by
 intro r h; unfold Target_remember__take at h
 refine zc 10 [] h (fun _ => msg_Body_ok) fun y1 h => ?_
 refine zs 15 h (fun h => ?_) fun h => ?_
 ·
  exact zg 32 (Target_remember__take_1_ok h) [.mv 4, .mv 5]
 refine zc 13 [] h (fun _ => Journal_Append_ok) fun y3 h => ?_
 refine zs 6 h (fun h => ?_) fun h => ?_
 ·
  exact zg 13 (Target_remember__take_1_ok h)
 refine zc 9 [] h (fun _ => Journal_Sync_ok) fun y5 h => ?_
 exact zg 5 (Target_remember__take_1_ok h)
end Go.RX.L

namespace Go.RX.L
open Go Go.RX Go.Proofs
attribute [local irreducible] FinQ
noncomputable def api_Acceptors_e (y : Int) : D × Sto := (.int .i64 y, [])
noncomputable def api_Acceptors (c : Config) : Option Int := (some (IntKind.i64.wrap ((IntKind.i64.wrap ((2 : Int) * c.F_)) + 1)))
theorem api_Acceptors_ok {c : Config} {r : Int} (h : api_Acceptors c = some r) : Sound E 35 [.agg (Config.enc c)] [] (Rs api_Acceptors_e r) := so (fn := Tryz.f35) (k := false) (m := 0) h <| by
 intro r h; unfold api_Acceptors at h
 exact zu 15 h
end Go.RX.L

namespace Go.RX.L
open Go Go.RX Go.Proofs
attribute [local irreducible] FinQ
noncomputable def api_DeciderNode_e (y : Int) : D × Sto := (.int .i64 y, [])
noncomputable def api_DeciderNode (c : Config) (i : Int) : Option Int := ((api_Acceptors c).bind fun y1 => (some (IntKind.i64.wrap (y1 + i))))
theorem api_DeciderNode_ok {c : Config} {i r : Int} (h : api_DeciderNode c i = some r) : Sound E 51 [.agg (Config.enc c), .int .i64 i] [] (Rs api_DeciderNode_e r) := so (fn := Tryz.f51) (k := false) (m := 0) h <| by
 intro r h; unfold api_DeciderNode at h
 refine zc 10 [] h (fun _ => api_Acceptors_ok) fun y1 h => ?_
 exact zu 5 h
end Go.RX.L

namespace Go.RX.L
open Go Go.RX Go.Proofs
attribute [local irreducible] FinQ
noncomputable def api_TargetNode_e (y : Int) : D × Sto := (.int .i64 y, [])
noncomputable def api_TargetNode (c : Config) (i : Int) : Option Int := ((api_DeciderNode c c.Deciders).bind fun y1 => (some (IntKind.i64.wrap (y1 + i))))
theorem api_TargetNode_ok {c : Config} {i r : Int} (h : api_TargetNode c i = some r) : Sound E 36 [.agg (Config.enc c), .int .i64 i] [] (Rs api_TargetNode_e r) := so (fn := Tryz.f36) (k := false) (m := 0) h <| by
 intro r h; unfold api_TargetNode at h
 refine zc 13 [] h (fun _ => api_DeciderNode_ok) fun y1 h => ?_
 exact zu 5 h
end Go.RX.L

namespace Go.RX.L
open Go Go.RX Go.Proofs
attribute [local irreducible] FinQ
noncomputable def Target_reply_e (fence : Int) (known : Plan) (hold : Hold) (begun filled : Int) (c : Config) (index : Int) (well : Bool) (b1 : List Entry) (b2 : List (List Int)) (fuse : Int) (down : Bool) (b4 b5 : List Int) (y : List Msg) : D × Sto := (.sl false 26 (List.map Msg.enc y), [some ⟨54, true, [([.int .i64 fence] ++ Plan.encL known ([.int .i64 hold.Epoch, .int .i64 hold.Nonce, .int .u64 hold.Grants, .int .i64 hold.Until, (grD 1 (List.map Entry.enc b1)), (grD 2 (List.map (eSl 1 (eInt .i64)) b2)), .int .i64 begun, .int .i64 filled] ++ Config.encL c [.int .i64 index, .ptr 3 0 0, .bool well]))]⟩, some ⟨3, false, (List.map Entry.enc b1)⟩, some ⟨1, false, (List.map (eSl 1 (eInt .i64)) b2)⟩, some ⟨4, true, [[(grD 4 (List.map (eInt .u8) b4)), (grD 5 (List.map (eInt .u8) b5)), .int .i64 fuse, .bool down]]⟩, some ⟨1, false, (List.map (eInt .u8) b4)⟩, some ⟨1, false, (List.map (eInt .u8) b5)⟩])
noncomputable def Target_reply (m : Msg) (kind : Int) (with_ : Msg) (fence : Int) (known : Plan) (hold : Hold) (begun filled : Int) (c : Config) (index : Int) (well : Bool) (b1 : List Entry) (b2 : List (List Int)) (fuse : Int) (down : Bool) (b4 b5 : List Int) : Option (List Msg) := ((api_TargetNode c index).bind fun y1 => (some ([(⟨kind, y1, m.From, with_.Epoch, with_.Ballot, with_.Accepted, with_.Nonce, with_.Time, with_.Up, with_.Code, with_.HasPlan, with_.Plan, with_.ID, with_.Session, with_.Payload⟩ : Msg)])))
theorem Target_reply_ok {m : Msg} {kind : Int} {with_ : Msg} {fence : Int} {known : Plan} {hold : Hold} {begun filled : Int} {c : Config} {index : Int} {well : Bool} {b1 : List Entry} {b2 : List (List Int)} {fuse : Int} {down : Bool} {b4 b5 : List Int} {r : List Msg} (h : Target_reply m kind with_ fence known hold begun filled c index well b1 b2 fuse down b4 b5 = some r) : Sound E 38 [.ptr 0 0 0, .agg [.int .i64 m.Kind, .int .i64 m.From, .int .i64 m.To, .int .i64 m.Epoch, .int .i64 m.Ballot, .int .i64 m.Accepted, .int .i64 m.Nonce, .int .i64 m.Time, .int .u64 m.Up, .int .i64 m.Code, .bool m.HasPlan, .int .i64 m.Plan.Epoch, .int .i64 m.Plan.Target, .int .i64 m.Plan.Prev, .int .i64 m.Plan.Spill, .int .i64 m.Plan.Percent, .int .i64 m.Plan.Stamp, .int .i64 m.Plan.Since, .int .i64 m.Plan.Ramped, .int .u64 m.Plan.Up, .int .u64 m.Plan.Sup, .sl false 1 (List.map (eInt .i64) m.Plan.Pen), .sl false 1 (List.map (eInt .i64) m.Plan.Changes), .sl false 1 (List.map (eInt .i64) m.ID), .sl false 1 (List.map (eInt .u8) m.Session), .sl false 1 (List.map (eInt .u8) m.Payload)], .int .i64 kind, .agg [.int .i64 with_.Kind, .int .i64 with_.From, .int .i64 with_.To, .int .i64 with_.Epoch, .int .i64 with_.Ballot, .int .i64 with_.Accepted, .int .i64 with_.Nonce, .int .i64 with_.Time, .int .u64 with_.Up, .int .i64 with_.Code, .bool with_.HasPlan, .int .i64 with_.Plan.Epoch, .int .i64 with_.Plan.Target, .int .i64 with_.Plan.Prev, .int .i64 with_.Plan.Spill, .int .i64 with_.Plan.Percent, .int .i64 with_.Plan.Stamp, .int .i64 with_.Plan.Since, .int .i64 with_.Plan.Ramped, .int .u64 with_.Plan.Up, .int .u64 with_.Plan.Sup, .sl false 1 (List.map (eInt .i64) with_.Plan.Pen), .sl false 1 (List.map (eInt .i64) with_.Plan.Changes), .sl false 1 (List.map (eInt .i64) with_.ID), .sl false 1 (List.map (eInt .u8) with_.Session), .sl false 1 (List.map (eInt .u8) with_.Payload)]] [some ⟨54, true, [([.int .i64 fence] ++ Plan.encL known ([.int .i64 hold.Epoch, .int .i64 hold.Nonce, .int .u64 hold.Grants, .int .i64 hold.Until, (grD 1 (List.map Entry.enc b1)), (grD 2 (List.map (eSl 1 (eInt .i64)) b2)), .int .i64 begun, .int .i64 filled] ++ Config.encL c [.int .i64 index, .ptr 3 0 0, .bool well]))]⟩, some ⟨3, false, (List.map Entry.enc b1)⟩, some ⟨1, false, (List.map (eSl 1 (eInt .i64)) b2)⟩, some ⟨4, true, [[(grD 4 (List.map (eInt .u8) b4)), (grD 5 (List.map (eInt .u8) b5)), .int .i64 fuse, .bool down]]⟩, some ⟨1, false, (List.map (eInt .u8) b4)⟩, some ⟨1, false, (List.map (eInt .u8) b5)⟩] (Rs (Target_reply_e fence known hold begun filled c index well b1 b2 fuse down b4 b5) r) := so (fn := Tryz.f38) (k := true) (m := 6) h <| by
 intro r h; unfold Target_reply at h
 refine zd 10 [] h (fun _ => api_TargetNode_ok) fun y1 h => ?_
 refine adv_ok hm 14 _ ?_
 refine r_fzT 8 (n1 := 1) (n2 := 1) (raw := ([[.int .i64 kind, .int .i64 y1, .int .i64 m.From, .int .i64 with_.Epoch, .int .i64 with_.Ballot, .int .i64 with_.Accepted, .int .i64 with_.Nonce, .int .i64 with_.Time, .int .u64 with_.Up, .int .i64 with_.Code, .bool with_.HasPlan, .int .i64 with_.Plan.Epoch, .int .i64 with_.Plan.Target, .int .i64 with_.Plan.Prev, .int .i64 with_.Plan.Spill, .int .i64 with_.Plan.Percent, .int .i64 with_.Plan.Stamp, .int .i64 with_.Plan.Since, .int .i64 with_.Plan.Ramped, .int .u64 with_.Plan.Up, .int .u64 with_.Plan.Sup, .sl false 1 (List.map (eInt .i64) with_.Plan.Pen), .sl false 1 (List.map (eInt .i64) with_.Plan.Changes), .sl false 1 (List.map (eInt .i64) with_.ID), .sl false 1 (List.map (eInt .u8) with_.Session), .sl false 1 (List.map (eInt .u8) with_.Payload)]])) (rs := ([[.int .i64 kind, .int .i64 y1, .int .i64 m.From, .int .i64 with_.Epoch, .int .i64 with_.Ballot, .int .i64 with_.Accepted, .int .i64 with_.Nonce, .int .i64 with_.Time, .int .u64 with_.Up, .int .i64 with_.Code, .bool with_.HasPlan, .int .i64 with_.Plan.Epoch, .int .i64 with_.Plan.Target, .int .i64 with_.Plan.Prev, .int .i64 with_.Plan.Spill, .int .i64 with_.Plan.Percent, .int .i64 with_.Plan.Stamp, .int .i64 with_.Plan.Since, .int .i64 with_.Plan.Ramped, .int .u64 with_.Plan.Up, .int .u64 with_.Plan.Sup, .sl false 1 (List.map (eInt .i64) with_.Plan.Pen), .sl false 1 (List.map (eInt .i64) with_.Plan.Changes), .sl false 1 (List.map (eInt .i64) with_.ID), .sl false 1 (List.map (eInt .u8) with_.Session), .sl false 1 (List.map (eInt .u8) with_.Payload)]])) (by kernel_rfl) rfl rfl ?_
 exact zu 1 h
end Go.RX.L

namespace Go.RX.L
open Go Go.RX Go.Proofs
attribute [local irreducible] FinQ
noncomputable def lease_Live_e (y : Bool) : D × Sto := (.bool y, [])
noncomputable def lease_Live (h_ : Hold) (epoch now : Int) : Option Bool := (bif ((h_.Epoch : Int) == epoch) then (some (decide ((now : Int) < h_.Until))) else (some false))
theorem lease_Live_ok {h_ : Hold} {epoch now : Int} {r : Bool} (h : lease_Live h_ epoch now = some r) : Sound E 63 [.agg [.int .i64 h_.Epoch, .int .i64 h_.Nonce, .int .u64 h_.Grants, .int .i64 h_.Until], .int .i64 epoch, .int .i64 now] [] (Rs lease_Live_e r) := so (fn := Tryz.f63) (k := false) (m := 0) h <| by
 intro r h; unfold lease_Live at h
 refine zs 14 h (fun h => ?_) fun h => ?_
 ·
  exact zu 12 h
 exact zu 11 h
end Go.RX.L

namespace Go.RX.L
open Go Go.RX Go.Proofs
attribute [local irreducible] FinQ
noncomputable def plan_Names_e (y : Bool) : D × Sto := (.bool y, [])
noncomputable def plan_Names (p_ : Plan) (target : Int) : Option Bool := (bif (decide ((target : Int) ≥ 0)) then (bif ((target : Int) == p_.Target) then (some true) else (bif ((target : Int) == p_.Prev) then (bif (decide ((p_.Percent : Int) < 100)) then (some true) else (some ((target : Int) == p_.Spill))) else (some ((target : Int) == p_.Spill)))) else (some false))
theorem plan_Names_ok {p_ : Plan} {target : Int} {r : Bool} (h : plan_Names p_ target = some r) : Sound E 33 [.agg [.int .i64 p_.Epoch, .int .i64 p_.Target, .int .i64 p_.Prev, .int .i64 p_.Spill, .int .i64 p_.Percent, .int .i64 p_.Stamp, .int .i64 p_.Since, .int .i64 p_.Ramped, .int .u64 p_.Up, .int .u64 p_.Sup, .sl false 1 (List.map (eInt .i64) p_.Pen), .sl false 1 (List.map (eInt .i64) p_.Changes)], .int .i64 target] [] (Rs plan_Names_e r) := so (fn := Tryz.f33) (k := false) (m := 0) h <| by
 intro r h; unfold plan_Names at h
 refine zs 11 h (fun h => ?_) fun h => ?_
 ·
  refine zs 10 h (fun h => ?_) fun h => ?_
  ·
   exact zu 34 h
  refine zs 10 h (fun h => ?_) fun h => ?_
  ·
   refine zs 14 h (fun h => ?_) fun h => ?_
   ·
    exact zu 14 h
   exact zu 15 h
  exact zu 29 h
 exact zu 32 h
end Go.RX.L

namespace Go.RX.L
open Go Go.RX Go.Proofs
attribute [local irreducible] FinQ
noncomputable def Target_same_e (y : Bool) : D × Sto := (.bool y, [])
noncomputable def Target_same (id_ : List Int) (t : Msg) : Option Bool := ((slices_Equal_v2 id_ t.ID).bind fun y1 => (some y1))
theorem Target_same_ok {id_ : List Int} {t : Msg} {r : Bool} (h : Target_same id_ t = some r) : Sound E 58 [.sl false 1 (List.map (eInt .i64) id_), .iptr 26 [[.int .i64 t.Kind, .int .i64 t.From, .int .i64 t.To, .int .i64 t.Epoch, .int .i64 t.Ballot, .int .i64 t.Accepted, .int .i64 t.Nonce, .int .i64 t.Time, .int .u64 t.Up, .int .i64 t.Code, .bool t.HasPlan, .int .i64 t.Plan.Epoch, .int .i64 t.Plan.Target, .int .i64 t.Plan.Prev, .int .i64 t.Plan.Spill, .int .i64 t.Plan.Percent, .int .i64 t.Plan.Stamp, .int .i64 t.Plan.Since, .int .i64 t.Plan.Ramped, .int .u64 t.Plan.Up, .int .u64 t.Plan.Sup, .sl false 1 (List.map (eInt .i64) t.Plan.Pen), .sl false 1 (List.map (eInt .i64) t.Plan.Changes), .sl false 1 (List.map (eInt .i64) t.ID), .sl false 1 (List.map (eInt .u8) t.Session), .sl false 1 (List.map (eInt .u8) t.Payload)]] 0 0] [] (Rs Target_same_e r) := so (fn := Tryz.f58) (k := false) (m := 0) h <| by
 intro r h; unfold Target_same at h
 refine zc 11 [] h (fun _ => slices_Equal_v2_ok) fun y1 h => ?_
 exact zu 3 h
end Go.RX.L

namespace Go.RX.L
open Go Go.RX Go.Proofs
attribute [local irreducible] FinQ
noncomputable def slices_IndexFunc__same_c := codeAt (bodyOf Tryz.f85)
noncomputable def slices_IndexFunc__same_e (y : Int) : D × Sto := (.int .i64 y, [])
inductive slices_IndexFunc__same_S where
 | s0 (s_ : List (List Int)) (f : Msg)
 | s1 (s_ : List (List Int)) (f : Msg) (t7 t8 : Int)
noncomputable def slices_IndexFunc__same_M : slices_IndexFunc__same_S → M
 | .s0 s_ f => startM Tryz.f85 [.sl false 1 (List.map (eSl 1 (eInt .i64)) s_), .fn 58 [] [.iptr 26 [[.int .i64 f.Kind, .int .i64 f.From, .int .i64 f.To, .int .i64 f.Epoch, .int .i64 f.Ballot, .int .i64 f.Accepted, .int .i64 f.Nonce, .int .i64 f.Time, .int .u64 f.Up, .int .i64 f.Code, .bool f.HasPlan, .int .i64 f.Plan.Epoch, .int .i64 f.Plan.Target, .int .i64 f.Plan.Prev, .int .i64 f.Plan.Spill, .int .i64 f.Plan.Percent, .int .i64 f.Plan.Stamp, .int .i64 f.Plan.Since, .int .i64 f.Plan.Ramped, .int .u64 f.Plan.Up, .int .u64 f.Plan.Sup, .sl false 1 (List.map (eInt .i64) f.Plan.Pen), .sl false 1 (List.map (eInt .i64) f.Plan.Changes), .sl false 1 (List.map (eInt .i64) f.ID), .sl false 1 (List.map (eInt .u8) f.Session), .sl false 1 (List.map (eInt .u8) f.Payload)]] 0 0]] []
 | .s1 s_ f t7 t8 => ⟨[.lpc (slices_IndexFunc__same_c [1, 0, 1, 0, 0]) 387, .blk 0, .code (slices_IndexFunc__same_c [1, 1])], [(0, .sl false 1 (List.map (eSl 1 (eInt .i64)) s_)), (1, .fn 58 [] [.iptr 26 [[.int .i64 f.Kind, .int .i64 f.From, .int .i64 f.To, .int .i64 f.Epoch, .int .i64 f.Ballot, .int .i64 f.Accepted, .int .i64 f.Nonce, .int .i64 f.Time, .int .u64 f.Up, .int .i64 f.Code, .bool f.HasPlan, .int .i64 f.Plan.Epoch, .int .i64 f.Plan.Target, .int .i64 f.Plan.Prev, .int .i64 f.Plan.Spill, .int .i64 f.Plan.Percent, .int .i64 f.Plan.Stamp, .int .i64 f.Plan.Since, .int .i64 f.Plan.Ramped, .int .u64 f.Plan.Up, .int .u64 f.Plan.Sup, .sl false 1 (List.map (eInt .i64) f.Plan.Pen), .sl false 1 (List.map (eInt .i64) f.Plan.Changes), .sl false 1 (List.map (eInt .i64) f.ID), .sl false 1 (List.map (eInt .u8) f.Session), .sl false 1 (List.map (eInt .u8) f.Payload)]] 0 0]), (7, .int .i64 t7), (8, .int .i64 t8)], []⟩
abbrev slices_IndexFunc__same_W := SOk E (Cx.of Tryz.f85 false 0) slices_IndexFunc__same_e slices_IndexFunc__same_M
noncomputable def slices_IndexFunc__same_0 (s_ : List (List Int)) (f : Msg) : Option (slices_IndexFunc__same_S ⊕ Int) := (some (.inl (.s1 s_ f (((List.map (eSl 1 (eInt .i64)) s_).length : Nat) : Int) 0)))
noncomputable def slices_IndexFunc__same_1 (s_ : List (List Int)) (f : Msg) (t7 t8 : Int) : Option (slices_IndexFunc__same_S ⊕ Int) := (bif (decide ((t8 : Int) < t7)) then (bif ((decide ((0 : Int) ≤ t8)) && (decide ((t8 : Int) < (((List.map (eSl 1 (eInt .i64)) s_).length : Nat) : Int)))) then (((s_)[t8.toNat]?).bind fun y3 => ((Target_same y3 f).bind fun y5 => (bif y5 then (some (.inr t8)) else (some (.inl (.s1 s_ f t7 (IntKind.i64.wrap (t8 + 1)))))))) else none) else (some (.inr (-1))))
noncomputable def slices_IndexFunc__same_step : slices_IndexFunc__same_S → Option (slices_IndexFunc__same_S ⊕ Int)
 | .s0 s_ f => slices_IndexFunc__same_0 s_ f
 | .s1 s_ f t7 t8 => slices_IndexFunc__same_1 s_ f t7 t8
theorem slices_IndexFunc__same_0_ok {s_ f} : slices_IndexFunc__same_W (.s0 s_ f) (slices_IndexFunc__same_0 s_ f) := by
 intro r x h ha; unfold slices_IndexFunc__same_0 at h
 exact zj 14 h ha
theorem slices_IndexFunc__same_1_ok {s_ f t7 t8} : slices_IndexFunc__same_W (.s1 s_ f t7 t8) (slices_IndexFunc__same_1 s_ f t7 t8) := by
 intro r x h ha; unfold slices_IndexFunc__same_1 at h
 refine zs 7 h (fun h => ?_) fun h => ?_
 ·
  refine zn 14 h fun h => ?_
  refine zr 1 (eSl 1 (eInt .i64)) h fun y3 h => ?_
  refine zc 1 [] h (fun _ => Target_same_ok) fun y5 h => ?_
  refine zs 2 h (fun h => ?_) fun h => ?_
  ·
   exact zt 6 h ha
  exact zj 7 h ha
 exact zt 6 h ha
noncomputable def slices_IndexFunc__same (s_ : List (List Int)) (f : Msg) : Option Int := evf slices_IndexFunc__same_step (.s0 s_ f)
theorem slices_IndexFunc__same_ok {s_ : List (List Int)} {f : Msg} {r : Int} (h : slices_IndexFunc__same s_ f = some r) : Sound E 85 [.sl false 1 (List.map (eSl 1 (eInt .i64)) s_), .fn 58 [] [.iptr 26 [[.int .i64 f.Kind, .int .i64 f.From, .int .i64 f.To, .int .i64 f.Epoch, .int .i64 f.Ballot, .int .i64 f.Accepted, .int .i64 f.Nonce, .int .i64 f.Time, .int .u64 f.Up, .int .i64 f.Code, .bool f.HasPlan, .int .i64 f.Plan.Epoch, .int .i64 f.Plan.Target, .int .i64 f.Plan.Prev, .int .i64 f.Plan.Spill, .int .i64 f.Plan.Percent, .int .i64 f.Plan.Stamp, .int .i64 f.Plan.Since, .int .i64 f.Plan.Ramped, .int .u64 f.Plan.Up, .int .u64 f.Plan.Sup, .sl false 1 (List.map (eInt .i64) f.Plan.Pen), .sl false 1 (List.map (eInt .i64) f.Plan.Changes), .sl false 1 (List.map (eInt .i64) f.ID), .sl false 1 (List.map (eInt .u8) f.Session), .sl false 1 (List.map (eInt .u8) f.Payload)]] 0 0]] [] (Rs slices_IndexFunc__same_e r) := sc (fn := Tryz.f85) (k := false) (m := 0) (stM := slices_IndexFunc__same_M) h fun s => by
 cases s with
 | s0 => exact slices_IndexFunc__same_0_ok
 | s1 => exact slices_IndexFunc__same_1_ok
end Go.RX.L
