/-
  Words and walks for ProposerMost. No condition.
-/
import Derived.Test.YtjfbchlfgfkcdaaRows
import Derived.Test.YtjfbchlfgfkcdaaX2
set_option linter.unusedSimpArgs false
set_option linter.unusedVariables false
set_option maxRecDepth 100000
namespace Go.RX.L
open Go Go.RX Go.Proofs
noncomputable def E : Env := ⟨Try.prog, fun f => ⟨false, false⟩⟩
theorem hm : E.P.follows .mixedOrders = true := Try.checked.mixed
structure Config where
  F_ : Int
  Deciders : Int
  Targets : Int
  Routers : Int
  Observers : Int
  Tiers : List Int
  Every : Int
  Wait : Int
  Rise : Int
  Fall : Int
  Fresh : Int
  L_ : Int
  M_ : Int
  Dwell : Int
  D_ : Int
  W_ : Int
  B_ : Int
  Hit : Int
  Suppress : Int
  Reuse : Int
  Half : Int
  First : Int
  Step : Int
  StepTime : Int
  S_ : Int
  Cap : Int
  Span : Int
  Room : Int
  Tries : Int
  Retry : Int
def Config.enc (x : Config) : List D := [D.int .i64 x.F_, D.int .i64 x.Deciders, D.int .i64 x.Targets, D.int .i64 x.Routers, D.int .i64 x.Observers, D.sl false 1 (List.map (eInt .i64) x.Tiers), D.int .i64 x.Every, D.int .i64 x.Wait, D.int .i64 x.Rise, D.int .i64 x.Fall, D.int .i64 x.Fresh, D.int .i64 x.L_, D.int .i64 x.M_, D.int .i64 x.Dwell, D.int .i64 x.D_, D.int .i64 x.W_, D.int .i64 x.B_, D.int .i64 x.Hit, D.int .i64 x.Suppress, D.int .i64 x.Reuse, D.int .i64 x.Half, D.int .i64 x.First, D.int .i64 x.Step, D.int .i64 x.StepTime, D.int .i64 x.S_, D.int .i64 x.Cap, D.int .i64 x.Span, D.int .i64 x.Room, D.int .i64 x.Tries, D.int .i64 x.Retry]
def Config.Ok (x : Config) : Prop := inK .i64 x.F_ ∧ inK .i64 x.Deciders ∧ inK .i64 x.Targets ∧ inK .i64 x.Routers ∧ inK .i64 x.Observers ∧ (x.Tiers.length * 8 ≤ reachBytes ∧ ∀ y ∈ x.Tiers, inK .i64 y) ∧ inK .i64 x.Every ∧ inK .i64 x.Wait ∧ inK .i64 x.Rise ∧ inK .i64 x.Fall ∧ inK .i64 x.Fresh ∧ inK .i64 x.L_ ∧ inK .i64 x.M_ ∧ inK .i64 x.Dwell ∧ inK .i64 x.D_ ∧ inK .i64 x.W_ ∧ inK .i64 x.B_ ∧ inK .i64 x.Hit ∧ inK .i64 x.Suppress ∧ inK .i64 x.Reuse ∧ inK .i64 x.Half ∧ inK .i64 x.First ∧ inK .i64 x.Step ∧ inK .i64 x.StepTime ∧ inK .i64 x.S_ ∧ inK .i64 x.Cap ∧ inK .i64 x.Span ∧ inK .i64 x.Room ∧ inK .i64 x.Tries ∧ inK .i64 x.Retry
structure Plan where
  Epoch : Int
  Target : Int
  Prev : Int
  Spill : Int
  Percent : Int
  Stamp : Int
  Since : Int
  Ramped : Int
  Up : Int
  Sup : Int
  Pen : List Int
  Changes : List Int
def Plan.enc (x : Plan) : List D := [D.int .i64 x.Epoch, D.int .i64 x.Target, D.int .i64 x.Prev, D.int .i64 x.Spill, D.int .i64 x.Percent, D.int .i64 x.Stamp, D.int .i64 x.Since, D.int .i64 x.Ramped, D.int .u64 x.Up, D.int .u64 x.Sup, D.sl false 1 (List.map (eInt .i64) x.Pen), D.sl false 1 (List.map (eInt .i64) x.Changes)]
def Plan.Ok (x : Plan) : Prop := inK .i64 x.Epoch ∧ inK .i64 x.Target ∧ inK .i64 x.Prev ∧ inK .i64 x.Spill ∧ inK .i64 x.Percent ∧ inK .i64 x.Stamp ∧ inK .i64 x.Since ∧ inK .i64 x.Ramped ∧ inK .u64 x.Up ∧ inK .u64 x.Sup ∧ (x.Pen.length * 8 ≤ reachBytes ∧ ∀ y ∈ x.Pen, inK .i64 y) ∧ (x.Changes.length * 8 ≤ reachBytes ∧ ∀ y ∈ x.Changes, inK .i64 y)
structure Msg where
  Kind : Int
  From : Int
  To : Int
  Epoch : Int
  Ballot : Int
  Accepted : Int
  Nonce : Int
  Time : Int
  Up : Int
  Code : Int
  HasPlan : Bool
  Plan : Plan
  ID : List Int
  Session : List Int
  Payload : List Int
def Msg.enc (x : Msg) : List D := [D.int .i64 x.Kind, D.int .i64 x.From, D.int .i64 x.To, D.int .i64 x.Epoch, D.int .i64 x.Ballot, D.int .i64 x.Accepted, D.int .i64 x.Nonce, D.int .i64 x.Time, D.int .u64 x.Up, D.int .i64 x.Code, D.bool x.HasPlan, D.int .i64 x.Plan.Epoch, D.int .i64 x.Plan.Target, D.int .i64 x.Plan.Prev, D.int .i64 x.Plan.Spill, D.int .i64 x.Plan.Percent, D.int .i64 x.Plan.Stamp, D.int .i64 x.Plan.Since, D.int .i64 x.Plan.Ramped, D.int .u64 x.Plan.Up, D.int .u64 x.Plan.Sup, D.sl false 1 (List.map (eInt .i64) x.Plan.Pen), D.sl false 1 (List.map (eInt .i64) x.Plan.Changes), D.sl false 1 (List.map (eInt .i64) x.ID), D.sl false 1 (List.map (eInt .u8) x.Session), D.sl false 1 (List.map (eInt .u8) x.Payload)]
def Msg.Ok (x : Msg) : Prop := inK .i64 x.Kind ∧ inK .i64 x.From ∧ inK .i64 x.To ∧ inK .i64 x.Epoch ∧ inK .i64 x.Ballot ∧ inK .i64 x.Accepted ∧ inK .i64 x.Nonce ∧ inK .i64 x.Time ∧ inK .u64 x.Up ∧ inK .i64 x.Code ∧ True ∧ x.Plan.Ok ∧ (x.ID.length * 8 ≤ reachBytes ∧ ∀ y ∈ x.ID, inK .i64 y) ∧ (x.Session.length * 1 ≤ reachBytes ∧ ∀ y ∈ x.Session, inK .u8 y) ∧ (x.Payload.length * 1 ≤ reachBytes ∧ ∀ y ∈ x.Payload, inK .u8 y)
structure GProp where
  Epoch : Int
  Ballot : Int
  Phase : Int
  Own : Plan
  Best : Int
  Value : Plan
  Promises : Int
  Accepts : Int
def GProp.enc (x : GProp) : List D := [D.int .i64 x.Epoch, D.int .i64 x.Ballot, D.int .i64 x.Phase, D.int .i64 x.Own.Epoch, D.int .i64 x.Own.Target, D.int .i64 x.Own.Prev, D.int .i64 x.Own.Spill, D.int .i64 x.Own.Percent, D.int .i64 x.Own.Stamp, D.int .i64 x.Own.Since, D.int .i64 x.Own.Ramped, D.int .u64 x.Own.Up, D.int .u64 x.Own.Sup, D.sl false 1 (List.map (eInt .i64) x.Own.Pen), D.sl false 1 (List.map (eInt .i64) x.Own.Changes), D.int .i64 x.Best, D.int .i64 x.Value.Epoch, D.int .i64 x.Value.Target, D.int .i64 x.Value.Prev, D.int .i64 x.Value.Spill, D.int .i64 x.Value.Percent, D.int .i64 x.Value.Stamp, D.int .i64 x.Value.Since, D.int .i64 x.Value.Ramped, D.int .u64 x.Value.Up, D.int .u64 x.Value.Sup, D.sl false 1 (List.map (eInt .i64) x.Value.Pen), D.sl false 1 (List.map (eInt .i64) x.Value.Changes), D.int .u64 x.Promises, D.int .u64 x.Accepts]
def GProp.Ok (x : GProp) : Prop := inK .i64 x.Epoch ∧ inK .i64 x.Ballot ∧ inK .i64 x.Phase ∧ x.Own.Ok ∧ inK .i64 x.Best ∧ x.Value.Ok ∧ inK .u64 x.Promises ∧ inK .u64 x.Accepts
end Go.RX.L

set_option linter.unusedSimpArgs false
set_option linter.unusedVariables false
set_option maxRecDepth 100000
set_option maxHeartbeats 4000000
namespace Go.RX.L
open Go Go.RX Go.Proofs
def math_bits_OnesCount64_Q (y : Int) (d : D) (s : Sto) : Prop := d = D.int .i64 y ∧ s = []
noncomputable def math_bits_OnesCount64 (x_ : Int) : Option Int := (some (andI .i64 (IntKind.i64.wrap ((IntKind.u64.wrap ((IntKind.u64.wrap ((IntKind.u64.wrap ((andI .u64 (IntKind.u64.wrap ((shrI .u64 (IntKind.u64.wrap ((andI .u64 (shrI .u64 (IntKind.u64.wrap ((andI .u64 (shrI .u64 x_ 1) 6148914691236517205) + (andI .u64 x_ 6148914691236517205))) 2) 3689348814741910323) + (andI .u64 (IntKind.u64.wrap ((andI .u64 (shrI .u64 x_ 1) 6148914691236517205) + (andI .u64 x_ 6148914691236517205))) 3689348814741910323))) 4) + (IntKind.u64.wrap ((andI .u64 (shrI .u64 (IntKind.u64.wrap ((andI .u64 (shrI .u64 x_ 1) 6148914691236517205) + (andI .u64 x_ 6148914691236517205))) 2) 3689348814741910323) + (andI .u64 (IntKind.u64.wrap ((andI .u64 (shrI .u64 x_ 1) 6148914691236517205) + (andI .u64 x_ 6148914691236517205))) 3689348814741910323))))) 1085102592571150095) + (shrI .u64 (andI .u64 (IntKind.u64.wrap ((shrI .u64 (IntKind.u64.wrap ((andI .u64 (shrI .u64 (IntKind.u64.wrap ((andI .u64 (shrI .u64 x_ 1) 6148914691236517205) + (andI .u64 x_ 6148914691236517205))) 2) 3689348814741910323) + (andI .u64 (IntKind.u64.wrap ((andI .u64 (shrI .u64 x_ 1) 6148914691236517205) + (andI .u64 x_ 6148914691236517205))) 3689348814741910323))) 4) + (IntKind.u64.wrap ((andI .u64 (shrI .u64 (IntKind.u64.wrap ((andI .u64 (shrI .u64 x_ 1) 6148914691236517205) + (andI .u64 x_ 6148914691236517205))) 2) 3689348814741910323) + (andI .u64 (IntKind.u64.wrap ((andI .u64 (shrI .u64 x_ 1) 6148914691236517205) + (andI .u64 x_ 6148914691236517205))) 3689348814741910323))))) 1085102592571150095) 8))) + (shrI .u64 (IntKind.u64.wrap ((andI .u64 (IntKind.u64.wrap ((shrI .u64 (IntKind.u64.wrap ((andI .u64 (shrI .u64 (IntKind.u64.wrap ((andI .u64 (shrI .u64 x_ 1) 6148914691236517205) + (andI .u64 x_ 6148914691236517205))) 2) 3689348814741910323) + (andI .u64 (IntKind.u64.wrap ((andI .u64 (shrI .u64 x_ 1) 6148914691236517205) + (andI .u64 x_ 6148914691236517205))) 3689348814741910323))) 4) + (IntKind.u64.wrap ((andI .u64 (shrI .u64 (IntKind.u64.wrap ((andI .u64 (shrI .u64 x_ 1) 6148914691236517205) + (andI .u64 x_ 6148914691236517205))) 2) 3689348814741910323) + (andI .u64 (IntKind.u64.wrap ((andI .u64 (shrI .u64 x_ 1) 6148914691236517205) + (andI .u64 x_ 6148914691236517205))) 3689348814741910323))))) 1085102592571150095) + (shrI .u64 (andI .u64 (IntKind.u64.wrap ((shrI .u64 (IntKind.u64.wrap ((andI .u64 (shrI .u64 (IntKind.u64.wrap ((andI .u64 (shrI .u64 x_ 1) 6148914691236517205) + (andI .u64 x_ 6148914691236517205))) 2) 3689348814741910323) + (andI .u64 (IntKind.u64.wrap ((andI .u64 (shrI .u64 x_ 1) 6148914691236517205) + (andI .u64 x_ 6148914691236517205))) 3689348814741910323))) 4) + (IntKind.u64.wrap ((andI .u64 (shrI .u64 (IntKind.u64.wrap ((andI .u64 (shrI .u64 x_ 1) 6148914691236517205) + (andI .u64 x_ 6148914691236517205))) 2) 3689348814741910323) + (andI .u64 (IntKind.u64.wrap ((andI .u64 (shrI .u64 x_ 1) 6148914691236517205) + (andI .u64 x_ 6148914691236517205))) 3689348814741910323))))) 1085102592571150095) 8))) 16))) + (shrI .u64 (IntKind.u64.wrap ((IntKind.u64.wrap ((andI .u64 (IntKind.u64.wrap ((shrI .u64 (IntKind.u64.wrap ((andI .u64 (shrI .u64 (IntKind.u64.wrap ((andI .u64 (shrI .u64 x_ 1) 6148914691236517205) + (andI .u64 x_ 6148914691236517205))) 2) 3689348814741910323) + (andI .u64 (IntKind.u64.wrap ((andI .u64 (shrI .u64 x_ 1) 6148914691236517205) + (andI .u64 x_ 6148914691236517205))) 3689348814741910323))) 4) + (IntKind.u64.wrap ((andI .u64 (shrI .u64 (IntKind.u64.wrap ((andI .u64 (shrI .u64 x_ 1) 6148914691236517205) + (andI .u64 x_ 6148914691236517205))) 2) 3689348814741910323) + (andI .u64 (IntKind.u64.wrap ((andI .u64 (shrI .u64 x_ 1) 6148914691236517205) + (andI .u64 x_ 6148914691236517205))) 3689348814741910323))))) 1085102592571150095) + (shrI .u64 (andI .u64 (IntKind.u64.wrap ((shrI .u64 (IntKind.u64.wrap ((andI .u64 (shrI .u64 (IntKind.u64.wrap ((andI .u64 (shrI .u64 x_ 1) 6148914691236517205) + (andI .u64 x_ 6148914691236517205))) 2) 3689348814741910323) + (andI .u64 (IntKind.u64.wrap ((andI .u64 (shrI .u64 x_ 1) 6148914691236517205) + (andI .u64 x_ 6148914691236517205))) 3689348814741910323))) 4) + (IntKind.u64.wrap ((andI .u64 (shrI .u64 (IntKind.u64.wrap ((andI .u64 (shrI .u64 x_ 1) 6148914691236517205) + (andI .u64 x_ 6148914691236517205))) 2) 3689348814741910323) + (andI .u64 (IntKind.u64.wrap ((andI .u64 (shrI .u64 x_ 1) 6148914691236517205) + (andI .u64 x_ 6148914691236517205))) 3689348814741910323))))) 1085102592571150095) 8))) + (shrI .u64 (IntKind.u64.wrap ((andI .u64 (IntKind.u64.wrap ((shrI .u64 (IntKind.u64.wrap ((andI .u64 (shrI .u64 (IntKind.u64.wrap ((andI .u64 (shrI .u64 x_ 1) 6148914691236517205) + (andI .u64 x_ 6148914691236517205))) 2) 3689348814741910323) + (andI .u64 (IntKind.u64.wrap ((andI .u64 (shrI .u64 x_ 1) 6148914691236517205) + (andI .u64 x_ 6148914691236517205))) 3689348814741910323))) 4) + (IntKind.u64.wrap ((andI .u64 (shrI .u64 (IntKind.u64.wrap ((andI .u64 (shrI .u64 x_ 1) 6148914691236517205) + (andI .u64 x_ 6148914691236517205))) 2) 3689348814741910323) + (andI .u64 (IntKind.u64.wrap ((andI .u64 (shrI .u64 x_ 1) 6148914691236517205) + (andI .u64 x_ 6148914691236517205))) 3689348814741910323))))) 1085102592571150095) + (shrI .u64 (andI .u64 (IntKind.u64.wrap ((shrI .u64 (IntKind.u64.wrap ((andI .u64 (shrI .u64 (IntKind.u64.wrap ((andI .u64 (shrI .u64 x_ 1) 6148914691236517205) + (andI .u64 x_ 6148914691236517205))) 2) 3689348814741910323) + (andI .u64 (IntKind.u64.wrap ((andI .u64 (shrI .u64 x_ 1) 6148914691236517205) + (andI .u64 x_ 6148914691236517205))) 3689348814741910323))) 4) + (IntKind.u64.wrap ((andI .u64 (shrI .u64 (IntKind.u64.wrap ((andI .u64 (shrI .u64 x_ 1) 6148914691236517205) + (andI .u64 x_ 6148914691236517205))) 2) 3689348814741910323) + (andI .u64 (IntKind.u64.wrap ((andI .u64 (shrI .u64 x_ 1) 6148914691236517205) + (andI .u64 x_ 6148914691236517205))) 3689348814741910323))))) 1085102592571150095) 8))) 16))) 32))))) 127))
theorem math_bits_OnesCount64_ok {x_ : Int} {r : Int} (h : math_bits_OnesCount64 x_ = some r) : Sound E 20 [D.int .u64 x_] [] (math_bits_OnesCount64_Q r) := by
  refine sound_ofW (m := ⟨[.code (bodyOf Try.f20)], [(0, D.int .u64 x_)], []⟩) (fn := Try.f20) (by kernel_rfl) (by kernel_rfl) ?_
  show FinQ E ⟨Try.f20, false, 0⟩ (QW (math_bits_OnesCount64_Q r)) _
  unfold math_bits_OnesCount64 at h
  refine adv_ok hm 71 _ ?_
  obtain rfl := Option.some.inj h
  exact r_retF [] (d := D.int .i64 (andI .i64 (IntKind.i64.wrap ((IntKind.u64.wrap ((IntKind.u64.wrap ((IntKind.u64.wrap ((andI .u64 (IntKind.u64.wrap ((shrI .u64 (IntKind.u64.wrap ((andI .u64 (shrI .u64 (IntKind.u64.wrap ((andI .u64 (shrI .u64 x_ 1) 6148914691236517205) + (andI .u64 x_ 6148914691236517205))) 2) 3689348814741910323) + (andI .u64 (IntKind.u64.wrap ((andI .u64 (shrI .u64 x_ 1) 6148914691236517205) + (andI .u64 x_ 6148914691236517205))) 3689348814741910323))) 4) + (IntKind.u64.wrap ((andI .u64 (shrI .u64 (IntKind.u64.wrap ((andI .u64 (shrI .u64 x_ 1) 6148914691236517205) + (andI .u64 x_ 6148914691236517205))) 2) 3689348814741910323) + (andI .u64 (IntKind.u64.wrap ((andI .u64 (shrI .u64 x_ 1) 6148914691236517205) + (andI .u64 x_ 6148914691236517205))) 3689348814741910323))))) 1085102592571150095) + (shrI .u64 (andI .u64 (IntKind.u64.wrap ((shrI .u64 (IntKind.u64.wrap ((andI .u64 (shrI .u64 (IntKind.u64.wrap ((andI .u64 (shrI .u64 x_ 1) 6148914691236517205) + (andI .u64 x_ 6148914691236517205))) 2) 3689348814741910323) + (andI .u64 (IntKind.u64.wrap ((andI .u64 (shrI .u64 x_ 1) 6148914691236517205) + (andI .u64 x_ 6148914691236517205))) 3689348814741910323))) 4) + (IntKind.u64.wrap ((andI .u64 (shrI .u64 (IntKind.u64.wrap ((andI .u64 (shrI .u64 x_ 1) 6148914691236517205) + (andI .u64 x_ 6148914691236517205))) 2) 3689348814741910323) + (andI .u64 (IntKind.u64.wrap ((andI .u64 (shrI .u64 x_ 1) 6148914691236517205) + (andI .u64 x_ 6148914691236517205))) 3689348814741910323))))) 1085102592571150095) 8))) + (shrI .u64 (IntKind.u64.wrap ((andI .u64 (IntKind.u64.wrap ((shrI .u64 (IntKind.u64.wrap ((andI .u64 (shrI .u64 (IntKind.u64.wrap ((andI .u64 (shrI .u64 x_ 1) 6148914691236517205) + (andI .u64 x_ 6148914691236517205))) 2) 3689348814741910323) + (andI .u64 (IntKind.u64.wrap ((andI .u64 (shrI .u64 x_ 1) 6148914691236517205) + (andI .u64 x_ 6148914691236517205))) 3689348814741910323))) 4) + (IntKind.u64.wrap ((andI .u64 (shrI .u64 (IntKind.u64.wrap ((andI .u64 (shrI .u64 x_ 1) 6148914691236517205) + (andI .u64 x_ 6148914691236517205))) 2) 3689348814741910323) + (andI .u64 (IntKind.u64.wrap ((andI .u64 (shrI .u64 x_ 1) 6148914691236517205) + (andI .u64 x_ 6148914691236517205))) 3689348814741910323))))) 1085102592571150095) + (shrI .u64 (andI .u64 (IntKind.u64.wrap ((shrI .u64 (IntKind.u64.wrap ((andI .u64 (shrI .u64 (IntKind.u64.wrap ((andI .u64 (shrI .u64 x_ 1) 6148914691236517205) + (andI .u64 x_ 6148914691236517205))) 2) 3689348814741910323) + (andI .u64 (IntKind.u64.wrap ((andI .u64 (shrI .u64 x_ 1) 6148914691236517205) + (andI .u64 x_ 6148914691236517205))) 3689348814741910323))) 4) + (IntKind.u64.wrap ((andI .u64 (shrI .u64 (IntKind.u64.wrap ((andI .u64 (shrI .u64 x_ 1) 6148914691236517205) + (andI .u64 x_ 6148914691236517205))) 2) 3689348814741910323) + (andI .u64 (IntKind.u64.wrap ((andI .u64 (shrI .u64 x_ 1) 6148914691236517205) + (andI .u64 x_ 6148914691236517205))) 3689348814741910323))))) 1085102592571150095) 8))) 16))) + (shrI .u64 (IntKind.u64.wrap ((IntKind.u64.wrap ((andI .u64 (IntKind.u64.wrap ((shrI .u64 (IntKind.u64.wrap ((andI .u64 (shrI .u64 (IntKind.u64.wrap ((andI .u64 (shrI .u64 x_ 1) 6148914691236517205) + (andI .u64 x_ 6148914691236517205))) 2) 3689348814741910323) + (andI .u64 (IntKind.u64.wrap ((andI .u64 (shrI .u64 x_ 1) 6148914691236517205) + (andI .u64 x_ 6148914691236517205))) 3689348814741910323))) 4) + (IntKind.u64.wrap ((andI .u64 (shrI .u64 (IntKind.u64.wrap ((andI .u64 (shrI .u64 x_ 1) 6148914691236517205) + (andI .u64 x_ 6148914691236517205))) 2) 3689348814741910323) + (andI .u64 (IntKind.u64.wrap ((andI .u64 (shrI .u64 x_ 1) 6148914691236517205) + (andI .u64 x_ 6148914691236517205))) 3689348814741910323))))) 1085102592571150095) + (shrI .u64 (andI .u64 (IntKind.u64.wrap ((shrI .u64 (IntKind.u64.wrap ((andI .u64 (shrI .u64 (IntKind.u64.wrap ((andI .u64 (shrI .u64 x_ 1) 6148914691236517205) + (andI .u64 x_ 6148914691236517205))) 2) 3689348814741910323) + (andI .u64 (IntKind.u64.wrap ((andI .u64 (shrI .u64 x_ 1) 6148914691236517205) + (andI .u64 x_ 6148914691236517205))) 3689348814741910323))) 4) + (IntKind.u64.wrap ((andI .u64 (shrI .u64 (IntKind.u64.wrap ((andI .u64 (shrI .u64 x_ 1) 6148914691236517205) + (andI .u64 x_ 6148914691236517205))) 2) 3689348814741910323) + (andI .u64 (IntKind.u64.wrap ((andI .u64 (shrI .u64 x_ 1) 6148914691236517205) + (andI .u64 x_ 6148914691236517205))) 3689348814741910323))))) 1085102592571150095) 8))) + (shrI .u64 (IntKind.u64.wrap ((andI .u64 (IntKind.u64.wrap ((shrI .u64 (IntKind.u64.wrap ((andI .u64 (shrI .u64 (IntKind.u64.wrap ((andI .u64 (shrI .u64 x_ 1) 6148914691236517205) + (andI .u64 x_ 6148914691236517205))) 2) 3689348814741910323) + (andI .u64 (IntKind.u64.wrap ((andI .u64 (shrI .u64 x_ 1) 6148914691236517205) + (andI .u64 x_ 6148914691236517205))) 3689348814741910323))) 4) + (IntKind.u64.wrap ((andI .u64 (shrI .u64 (IntKind.u64.wrap ((andI .u64 (shrI .u64 x_ 1) 6148914691236517205) + (andI .u64 x_ 6148914691236517205))) 2) 3689348814741910323) + (andI .u64 (IntKind.u64.wrap ((andI .u64 (shrI .u64 x_ 1) 6148914691236517205) + (andI .u64 x_ 6148914691236517205))) 3689348814741910323))))) 1085102592571150095) + (shrI .u64 (andI .u64 (IntKind.u64.wrap ((shrI .u64 (IntKind.u64.wrap ((andI .u64 (shrI .u64 (IntKind.u64.wrap ((andI .u64 (shrI .u64 x_ 1) 6148914691236517205) + (andI .u64 x_ 6148914691236517205))) 2) 3689348814741910323) + (andI .u64 (IntKind.u64.wrap ((andI .u64 (shrI .u64 x_ 1) 6148914691236517205) + (andI .u64 x_ 6148914691236517205))) 3689348814741910323))) 4) + (IntKind.u64.wrap ((andI .u64 (shrI .u64 (IntKind.u64.wrap ((andI .u64 (shrI .u64 x_ 1) 6148914691236517205) + (andI .u64 x_ 6148914691236517205))) 2) 3689348814741910323) + (andI .u64 (IntKind.u64.wrap ((andI .u64 (shrI .u64 x_ 1) 6148914691236517205) + (andI .u64 x_ 6148914691236517205))) 3689348814741910323))))) 1085102592571150095) 8))) 16))) 32))))) 127)) (s := []) (by kernel_rfl) ⟨rfl, rfl⟩
end Go.RX.L

set_option linter.unusedSimpArgs false
set_option linter.unusedVariables false
set_option maxRecDepth 100000
set_option maxHeartbeats 4000000
namespace Go.RX.L
open Go Go.RX Go.Proofs
def proposer_more_Q (y : Int) (d : D) (s : Sto) : Prop := d = D.int .i64 y ∧ s = []
noncomputable def proposer_more (c : Config) : Option Int := (some (mnI (mxI c.F_ 0) 3))
theorem proposer_more_ok {c : Config} {r : Int} (h : proposer_more c = some r) : Sound E 21 [D.agg [D.int .i64 c.F_, D.int .i64 c.Deciders, D.int .i64 c.Targets, D.int .i64 c.Routers, D.int .i64 c.Observers, D.sl false 1 (List.map (eInt .i64) c.Tiers), D.int .i64 c.Every, D.int .i64 c.Wait, D.int .i64 c.Rise, D.int .i64 c.Fall, D.int .i64 c.Fresh, D.int .i64 c.L_, D.int .i64 c.M_, D.int .i64 c.Dwell, D.int .i64 c.D_, D.int .i64 c.W_, D.int .i64 c.B_, D.int .i64 c.Hit, D.int .i64 c.Suppress, D.int .i64 c.Reuse, D.int .i64 c.Half, D.int .i64 c.First, D.int .i64 c.Step, D.int .i64 c.StepTime, D.int .i64 c.S_, D.int .i64 c.Cap, D.int .i64 c.Span, D.int .i64 c.Room, D.int .i64 c.Tries, D.int .i64 c.Retry]] [] (proposer_more_Q r) := by
  refine sound_ofW (m := ⟨[.code (bodyOf Try.f21)], [(0, D.agg [D.int .i64 c.F_, D.int .i64 c.Deciders, D.int .i64 c.Targets, D.int .i64 c.Routers, D.int .i64 c.Observers, D.sl false 1 (List.map (eInt .i64) c.Tiers), D.int .i64 c.Every, D.int .i64 c.Wait, D.int .i64 c.Rise, D.int .i64 c.Fall, D.int .i64 c.Fresh, D.int .i64 c.L_, D.int .i64 c.M_, D.int .i64 c.Dwell, D.int .i64 c.D_, D.int .i64 c.W_, D.int .i64 c.B_, D.int .i64 c.Hit, D.int .i64 c.Suppress, D.int .i64 c.Reuse, D.int .i64 c.Half, D.int .i64 c.First, D.int .i64 c.Step, D.int .i64 c.StepTime, D.int .i64 c.S_, D.int .i64 c.Cap, D.int .i64 c.Span, D.int .i64 c.Room, D.int .i64 c.Tries, D.int .i64 c.Retry])], []⟩) (fn := Try.f21) (by kernel_rfl) (by kernel_rfl) ?_
  show FinQ E ⟨Try.f21, false, 0⟩ (QW (proposer_more_Q r)) _
  unfold proposer_more at h
  refine adv_ok hm 15 _ ?_
  obtain rfl := Option.some.inj h
  exact r_retF [] (d := D.int .i64 (mnI (mxI c.F_ 0) 3)) (s := []) (by kernel_rfl) ⟨rfl, rfl⟩
end Go.RX.L

set_option linter.unusedSimpArgs false
set_option linter.unusedVariables false
set_option maxRecDepth 100000
set_option maxHeartbeats 4000000
namespace Go.RX.L
open Go Go.RX Go.Proofs
def proposer_Most_Q (y : Bool) (d : D) (s : Sto) : Prop := d = D.bool y ∧ s = []
noncomputable def proposer_Most (c : Config) (mask_ : Int) : Option Bool := ((proposer_more c).bind fun y1 => (bif (!decide (((IntKind.i64.wrap ((IntKind.i64.wrap ((2 : Int) * y1)) + 1)) : Int) < 0)) then ((math_bits_OnesCount64 (andI .u64 mask_ (IntKind.u64.wrap ((shlI .u64 1 (IntKind.i64.wrap ((IntKind.i64.wrap ((2 : Int) * y1)) + 1))) - 1)))).bind fun y3 => ((proposer_more c).bind fun y4 => (some (decide ((y3 : Int) > y4))))) else none))
theorem proposer_Most_ok {c : Config} {mask_ : Int} {r : Bool} (h : proposer_Most c mask_ = some r) : Sound E 10 [D.agg [D.int .i64 c.F_, D.int .i64 c.Deciders, D.int .i64 c.Targets, D.int .i64 c.Routers, D.int .i64 c.Observers, D.sl false 1 (List.map (eInt .i64) c.Tiers), D.int .i64 c.Every, D.int .i64 c.Wait, D.int .i64 c.Rise, D.int .i64 c.Fall, D.int .i64 c.Fresh, D.int .i64 c.L_, D.int .i64 c.M_, D.int .i64 c.Dwell, D.int .i64 c.D_, D.int .i64 c.W_, D.int .i64 c.B_, D.int .i64 c.Hit, D.int .i64 c.Suppress, D.int .i64 c.Reuse, D.int .i64 c.Half, D.int .i64 c.First, D.int .i64 c.Step, D.int .i64 c.StepTime, D.int .i64 c.S_, D.int .i64 c.Cap, D.int .i64 c.Span, D.int .i64 c.Room, D.int .i64 c.Tries, D.int .i64 c.Retry], D.int .u64 mask_] [] (proposer_Most_Q r) := by
  refine sound_ofW (m := ⟨[.code (bodyOf Try.f10)], [(0, D.agg [D.int .i64 c.F_, D.int .i64 c.Deciders, D.int .i64 c.Targets, D.int .i64 c.Routers, D.int .i64 c.Observers, D.sl false 1 (List.map (eInt .i64) c.Tiers), D.int .i64 c.Every, D.int .i64 c.Wait, D.int .i64 c.Rise, D.int .i64 c.Fall, D.int .i64 c.Fresh, D.int .i64 c.L_, D.int .i64 c.M_, D.int .i64 c.Dwell, D.int .i64 c.D_, D.int .i64 c.W_, D.int .i64 c.B_, D.int .i64 c.Hit, D.int .i64 c.Suppress, D.int .i64 c.Reuse, D.int .i64 c.Half, D.int .i64 c.First, D.int .i64 c.Step, D.int .i64 c.StepTime, D.int .i64 c.S_, D.int .i64 c.Cap, D.int .i64 c.Span, D.int .i64 c.Room, D.int .i64 c.Tries, D.int .i64 c.Retry]), (1, D.int .u64 mask_)], []⟩) (fn := Try.f10) (by kernel_rfl) (by kernel_rfl) ?_
  show FinQ E ⟨Try.f10, false, 0⟩ (QW (proposer_Most_Q r)) _
  unfold proposer_Most at h
  refine adv_ok hm 8 _ ?_
  have ok1 := fun (y : Int) (hy : proposer_more c = some y) => proposer_more_ok hy
  refine p_callDE [] (args1 := [D.agg [D.int .i64 c.F_, D.int .i64 c.Deciders, D.int .i64 c.Targets, D.int .i64 c.Routers, D.int .i64 c.Observers, D.sl false 1 (List.map (eInt .i64) c.Tiers), D.int .i64 c.Every, D.int .i64 c.Wait, D.int .i64 c.Rise, D.int .i64 c.Fall, D.int .i64 c.Fresh, D.int .i64 c.L_, D.int .i64 c.M_, D.int .i64 c.Dwell, D.int .i64 c.D_, D.int .i64 c.W_, D.int .i64 c.B_, D.int .i64 c.Hit, D.int .i64 c.Suppress, D.int .i64 c.Reuse, D.int .i64 c.Half, D.int .i64 c.First, D.int .i64 c.Step, D.int .i64 c.StepTime, D.int .i64 c.S_, D.int .i64 c.Cap, D.int .i64 c.Span, D.int .i64 c.Room, D.int .i64 c.Tries, D.int .i64 c.Retry]]) (args := [D.agg [D.int .i64 c.F_, D.int .i64 c.Deciders, D.int .i64 c.Targets, D.int .i64 c.Routers, D.int .i64 c.Observers, D.sl false 1 (List.map (eInt .i64) c.Tiers), D.int .i64 c.Every, D.int .i64 c.Wait, D.int .i64 c.Rise, D.int .i64 c.Fall, D.int .i64 c.Fresh, D.int .i64 c.L_, D.int .i64 c.M_, D.int .i64 c.Dwell, D.int .i64 c.D_, D.int .i64 c.W_, D.int .i64 c.B_, D.int .i64 c.Hit, D.int .i64 c.Suppress, D.int .i64 c.Reuse, D.int .i64 c.Half, D.int .i64 c.First, D.int .i64 c.Step, D.int .i64 c.StepTime, D.int .i64 c.S_, D.int .i64 c.Cap, D.int .i64 c.Span, D.int .i64 c.Room, D.int .i64 c.Tries, D.int .i64 c.Retry]]) (fun y1 => D.int .i64 y1) h (by kernel_rfl) rfl ok1 (fun y1 h1 h => ?_)
  refine p_need h (by kernel_rfl) (fun h2 h => ?_)
  have ok3 := fun (y : Int) (hy : math_bits_OnesCount64 (andI .u64 mask_ (IntKind.u64.wrap ((shlI .u64 1 (IntKind.i64.wrap ((IntKind.i64.wrap ((2 : Int) * y1)) + 1))) - 1))) = some y) => math_bits_OnesCount64_ok hy
  refine p_callDE [] (args1 := [D.int .u64 (andI .u64 mask_ (IntKind.u64.wrap ((shlI .u64 1 (IntKind.i64.wrap ((IntKind.i64.wrap ((2 : Int) * y1)) + 1))) - 1)))]) (args := [D.int .u64 (andI .u64 mask_ (IntKind.u64.wrap ((shlI .u64 1 (IntKind.i64.wrap ((IntKind.i64.wrap ((2 : Int) * y1)) + 1))) - 1)))]) (fun y3 => D.int .i64 y3) h (by kernel_rfl) rfl ok3 (fun y3 h3 h => ?_)
  refine adv_ok hm 1 _ ?_
  have ok4 := fun (y : Int) (hy : proposer_more c = some y) => proposer_more_ok hy
  refine p_callDE [] (args1 := [D.agg [D.int .i64 c.F_, D.int .i64 c.Deciders, D.int .i64 c.Targets, D.int .i64 c.Routers, D.int .i64 c.Observers, D.sl false 1 (List.map (eInt .i64) c.Tiers), D.int .i64 c.Every, D.int .i64 c.Wait, D.int .i64 c.Rise, D.int .i64 c.Fall, D.int .i64 c.Fresh, D.int .i64 c.L_, D.int .i64 c.M_, D.int .i64 c.Dwell, D.int .i64 c.D_, D.int .i64 c.W_, D.int .i64 c.B_, D.int .i64 c.Hit, D.int .i64 c.Suppress, D.int .i64 c.Reuse, D.int .i64 c.Half, D.int .i64 c.First, D.int .i64 c.Step, D.int .i64 c.StepTime, D.int .i64 c.S_, D.int .i64 c.Cap, D.int .i64 c.Span, D.int .i64 c.Room, D.int .i64 c.Tries, D.int .i64 c.Retry]]) (args := [D.agg [D.int .i64 c.F_, D.int .i64 c.Deciders, D.int .i64 c.Targets, D.int .i64 c.Routers, D.int .i64 c.Observers, D.sl false 1 (List.map (eInt .i64) c.Tiers), D.int .i64 c.Every, D.int .i64 c.Wait, D.int .i64 c.Rise, D.int .i64 c.Fall, D.int .i64 c.Fresh, D.int .i64 c.L_, D.int .i64 c.M_, D.int .i64 c.Dwell, D.int .i64 c.D_, D.int .i64 c.W_, D.int .i64 c.B_, D.int .i64 c.Hit, D.int .i64 c.Suppress, D.int .i64 c.Reuse, D.int .i64 c.Half, D.int .i64 c.First, D.int .i64 c.Step, D.int .i64 c.StepTime, D.int .i64 c.S_, D.int .i64 c.Cap, D.int .i64 c.Span, D.int .i64 c.Room, D.int .i64 c.Tries, D.int .i64 c.Retry]]) (fun y4 => D.int .i64 y4) h (by kernel_rfl) rfl ok4 (fun y4 h4 h => ?_)
  refine adv_ok hm 1 _ ?_
  obtain rfl := Option.some.inj h
  exact r_retF [] (d := D.bool (decide ((y3 : Int) > y4))) (s := []) (by kernel_rfl) ⟨rfl, rfl⟩
end Go.RX.L

set_option linter.unusedSimpArgs false
set_option linter.unusedVariables false
set_option maxRecDepth 100000
set_option maxHeartbeats 4000000
namespace Go.RX.L
open Go Go.RX Go.Proofs
def ref16_f_Q (y : Int) (d : D) (s : Sto) : Prop := d = D.int .i64 y ∧ s = []
noncomputable def ref16_f (c : Config) : Option Int := (some (mnI (mxI c.F_ 0) 3))
theorem ref16_f_ok {c : Config} {r : Int} (h : ref16_f c = some r) : Sound E 24 [D.agg [D.int .i64 c.F_, D.int .i64 c.Deciders, D.int .i64 c.Targets, D.int .i64 c.Routers, D.int .i64 c.Observers, D.sl false 1 (List.map (eInt .i64) c.Tiers), D.int .i64 c.Every, D.int .i64 c.Wait, D.int .i64 c.Rise, D.int .i64 c.Fall, D.int .i64 c.Fresh, D.int .i64 c.L_, D.int .i64 c.M_, D.int .i64 c.Dwell, D.int .i64 c.D_, D.int .i64 c.W_, D.int .i64 c.B_, D.int .i64 c.Hit, D.int .i64 c.Suppress, D.int .i64 c.Reuse, D.int .i64 c.Half, D.int .i64 c.First, D.int .i64 c.Step, D.int .i64 c.StepTime, D.int .i64 c.S_, D.int .i64 c.Cap, D.int .i64 c.Span, D.int .i64 c.Room, D.int .i64 c.Tries, D.int .i64 c.Retry]] [] (ref16_f_Q r) := by
  refine sound_ofW (m := ⟨[.code (bodyOf Try.f24)], [(0, D.agg [D.int .i64 c.F_, D.int .i64 c.Deciders, D.int .i64 c.Targets, D.int .i64 c.Routers, D.int .i64 c.Observers, D.sl false 1 (List.map (eInt .i64) c.Tiers), D.int .i64 c.Every, D.int .i64 c.Wait, D.int .i64 c.Rise, D.int .i64 c.Fall, D.int .i64 c.Fresh, D.int .i64 c.L_, D.int .i64 c.M_, D.int .i64 c.Dwell, D.int .i64 c.D_, D.int .i64 c.W_, D.int .i64 c.B_, D.int .i64 c.Hit, D.int .i64 c.Suppress, D.int .i64 c.Reuse, D.int .i64 c.Half, D.int .i64 c.First, D.int .i64 c.Step, D.int .i64 c.StepTime, D.int .i64 c.S_, D.int .i64 c.Cap, D.int .i64 c.Span, D.int .i64 c.Room, D.int .i64 c.Tries, D.int .i64 c.Retry])], []⟩) (fn := Try.f24) (by kernel_rfl) (by kernel_rfl) ?_
  show FinQ E ⟨Try.f24, false, 0⟩ (QW (ref16_f_Q r)) _
  unfold ref16_f at h
  refine adv_ok hm 15 _ ?_
  obtain rfl := Option.some.inj h
  exact r_retF [] (d := D.int .i64 (mnI (mxI c.F_ 0) 3)) (s := []) (by kernel_rfl) ⟨rfl, rfl⟩
end Go.RX.L

set_option linter.unusedSimpArgs false
set_option linter.unusedVariables false
set_option maxRecDepth 100000
set_option maxHeartbeats 4000000
namespace Go.RX.L
open Go Go.RX Go.Proofs
def ref16_Most_Q (y : Bool) (d : D) (s : Sto) : Prop := d = D.bool y ∧ s = []
inductive ref16_Most_S where
  | s0 (c : Config) (mask_ : Int)
  | s1 (mask_ : Int) (n : Int) (i : Int) (c : Config)
noncomputable def ref16_Most_M : ref16_Most_S → M
  | .s0 c mask_ => ⟨[.code (bodyOf Try.f17)], [(0, D.agg [D.int .i64 c.F_, D.int .i64 c.Deciders, D.int .i64 c.Targets, D.int .i64 c.Routers, D.int .i64 c.Observers, D.sl false 1 (List.map (eInt .i64) c.Tiers), D.int .i64 c.Every, D.int .i64 c.Wait, D.int .i64 c.Rise, D.int .i64 c.Fall, D.int .i64 c.Fresh, D.int .i64 c.L_, D.int .i64 c.M_, D.int .i64 c.Dwell, D.int .i64 c.D_, D.int .i64 c.W_, D.int .i64 c.B_, D.int .i64 c.Hit, D.int .i64 c.Suppress, D.int .i64 c.Reuse, D.int .i64 c.Half, D.int .i64 c.First, D.int .i64 c.Step, D.int .i64 c.StepTime, D.int .i64 c.S_, D.int .i64 c.Cap, D.int .i64 c.Span, D.int .i64 c.Room, D.int .i64 c.Tries, D.int .i64 c.Retry]), (1, D.int .u64 mask_)], []⟩
  | .s1 mask_ n i c => { td := [It.lpc (codeAt (bodyOf Try.f17) [1, 1, 0, 1, 0, 0]) 102, It.blk 0, It.code (codeAt (bodyOf Try.f17) [1, 1, 1])], fr := [(1, D.int .u64 mask_), (2, D.ptr 0 0 0), (5, D.int .i64 n), (6, D.int .i64 i)], st := [some { sz := 30, deep := false, rows := [[D.int .i64 c.F_, D.int .i64 c.Deciders, D.int .i64 c.Targets, D.int .i64 c.Routers, D.int .i64 c.Observers, D.sl false 1 (List.map (eInt .i64) c.Tiers), D.int .i64 c.Every, D.int .i64 c.Wait, D.int .i64 c.Rise, D.int .i64 c.Fall, D.int .i64 c.Fresh, D.int .i64 c.L_, D.int .i64 c.M_, D.int .i64 c.Dwell, D.int .i64 c.D_, D.int .i64 c.W_, D.int .i64 c.B_, D.int .i64 c.Hit, D.int .i64 c.Suppress, D.int .i64 c.Reuse, D.int .i64 c.Half, D.int .i64 c.First, D.int .i64 c.Step, D.int .i64 c.StepTime, D.int .i64 c.S_, D.int .i64 c.Cap, D.int .i64 c.Span, D.int .i64 c.Room, D.int .i64 c.Tries, D.int .i64 c.Retry]] }] }
noncomputable def ref16_Most_0 (c : Config) (mask_ : Int) : Option (ref16_Most_S ⊕ Bool) := (some (.inl (.s1 mask_ 0 0 c)))
noncomputable def ref16_Most_1 (mask_ : Int) (n : Int) (i : Int) (c : Config) : Option (ref16_Most_S ⊕ Bool) := ((ref16_f c).bind fun y1 => (bif (decide ((i : Int) ≤ (IntKind.i64.wrap ((2 : Int) * y1)))) then (bif (!decide ((i : Int) < 0)) then (bif (((andI .u64 (shrI .u64 mask_ i) 1) : Int) == 1) then (some (.inl (.s1 mask_ (IntKind.i64.wrap (n + 1)) (IntKind.i64.wrap (i + 1)) c))) else (some (.inl (.s1 mask_ n (IntKind.i64.wrap (i + 1)) c)))) else none) else ((ref16_f c).bind fun y5 => (some (.inr (decide ((n : Int) ≥ (IntKind.i64.wrap (y5 + 1)))))))))
noncomputable def ref16_Most_step : ref16_Most_S → Option (ref16_Most_S ⊕ Bool)
  | .s0 c mask_ => ref16_Most_0 c mask_
  | .s1 mask_ n i c => ref16_Most_1 mask_ n i c
theorem ref16_Most_0_ok {c : Config} {mask_ : Int} {r : Bool} {x : ref16_Most_S ⊕ Bool} (h : ref16_Most_0 c mask_ = some x) (ha : After E ⟨Try.f17, false, 0⟩ ref16_Most_Q ref16_Most_M r x) : FinQ E ⟨Try.f17, false, 0⟩ (QW (ref16_Most_Q r)) (.go (ref16_Most_M (.s0 c mask_))) := by
  unfold ref16_Most_0 at h
  refine adv_ok hm 17 _ ?_
  obtain rfl := Option.some.inj h
  exact r_to (q' := .go (ref16_Most_M (.s1 mask_ 0 0 c))) (by kernel_rfl) ha
theorem ref16_Most_1_ok {mask_ : Int} {n : Int} {i : Int} {c : Config} {r : Bool} {x : ref16_Most_S ⊕ Bool} (h : ref16_Most_1 mask_ n i c = some x) (ha : After E ⟨Try.f17, false, 0⟩ ref16_Most_Q ref16_Most_M r x) : FinQ E ⟨Try.f17, false, 0⟩ (QW (ref16_Most_Q r)) (.go (ref16_Most_M (.s1 mask_ n i c))) := by
  unfold ref16_Most_1 at h
  refine adv_ok hm 8 _ ?_
  have ok1 := fun (y : Int) (hy : ref16_f c = some y) => ref16_f_ok hy
  refine p_callE [] (args1 := [D.agg [D.int .i64 c.F_, D.int .i64 c.Deciders, D.int .i64 c.Targets, D.int .i64 c.Routers, D.int .i64 c.Observers, D.sl false 1 (List.map (eInt .i64) c.Tiers), D.int .i64 c.Every, D.int .i64 c.Wait, D.int .i64 c.Rise, D.int .i64 c.Fall, D.int .i64 c.Fresh, D.int .i64 c.L_, D.int .i64 c.M_, D.int .i64 c.Dwell, D.int .i64 c.D_, D.int .i64 c.W_, D.int .i64 c.B_, D.int .i64 c.Hit, D.int .i64 c.Suppress, D.int .i64 c.Reuse, D.int .i64 c.Half, D.int .i64 c.First, D.int .i64 c.Step, D.int .i64 c.StepTime, D.int .i64 c.S_, D.int .i64 c.Cap, D.int .i64 c.Span, D.int .i64 c.Room, D.int .i64 c.Tries, D.int .i64 c.Retry]]) (args := [D.agg [D.int .i64 c.F_, D.int .i64 c.Deciders, D.int .i64 c.Targets, D.int .i64 c.Routers, D.int .i64 c.Observers, D.sl false 1 (List.map (eInt .i64) c.Tiers), D.int .i64 c.Every, D.int .i64 c.Wait, D.int .i64 c.Rise, D.int .i64 c.Fall, D.int .i64 c.Fresh, D.int .i64 c.L_, D.int .i64 c.M_, D.int .i64 c.Dwell, D.int .i64 c.D_, D.int .i64 c.W_, D.int .i64 c.B_, D.int .i64 c.Hit, D.int .i64 c.Suppress, D.int .i64 c.Reuse, D.int .i64 c.Half, D.int .i64 c.First, D.int .i64 c.Step, D.int .i64 c.StepTime, D.int .i64 c.S_, D.int .i64 c.Cap, D.int .i64 c.Span, D.int .i64 c.Room, D.int .i64 c.Tries, D.int .i64 c.Retry]]) (fun y1 => D.int .i64 y1) (fun y1 => []) h (by kernel_rfl) ⟨rfl, rfl⟩ ok1 (fun y1 h1 h => ?_)
  refine adv_ok hm 4 _ ?_
  refine p_split h (by kernel_rfl) (fun h2 h => ?_) (fun h2 h => ?_)
  · -- true
    refine adv_ok hm 8 _ ?_
    refine p_need h (by kernel_rfl) (fun h3 h => ?_)
    refine adv_ok hm 4 _ ?_
    refine p_split h (by kernel_rfl) (fun h4 h => ?_) (fun h4 h => ?_)
    · -- true
      refine adv_ok hm 12 _ ?_
      obtain rfl := Option.some.inj h
      exact r_to (q' := .go (ref16_Most_M (.s1 mask_ (IntKind.i64.wrap (n + 1)) (IntKind.i64.wrap (i + 1)) c))) (by kernel_rfl) ha
    · -- false
      refine adv_ok hm 8 _ ?_
      obtain rfl := Option.some.inj h
      exact r_to (q' := .go (ref16_Most_M (.s1 mask_ n (IntKind.i64.wrap (i + 1)) c))) (by kernel_rfl) ha
  · -- false
    refine adv_ok hm 7 _ ?_
    have ok5 := fun (y : Int) (hy : ref16_f c = some y) => ref16_f_ok hy
    refine p_callE [] (args1 := [D.agg [D.int .i64 c.F_, D.int .i64 c.Deciders, D.int .i64 c.Targets, D.int .i64 c.Routers, D.int .i64 c.Observers, D.sl false 1 (List.map (eInt .i64) c.Tiers), D.int .i64 c.Every, D.int .i64 c.Wait, D.int .i64 c.Rise, D.int .i64 c.Fall, D.int .i64 c.Fresh, D.int .i64 c.L_, D.int .i64 c.M_, D.int .i64 c.Dwell, D.int .i64 c.D_, D.int .i64 c.W_, D.int .i64 c.B_, D.int .i64 c.Hit, D.int .i64 c.Suppress, D.int .i64 c.Reuse, D.int .i64 c.Half, D.int .i64 c.First, D.int .i64 c.Step, D.int .i64 c.StepTime, D.int .i64 c.S_, D.int .i64 c.Cap, D.int .i64 c.Span, D.int .i64 c.Room, D.int .i64 c.Tries, D.int .i64 c.Retry]]) (args := [D.agg [D.int .i64 c.F_, D.int .i64 c.Deciders, D.int .i64 c.Targets, D.int .i64 c.Routers, D.int .i64 c.Observers, D.sl false 1 (List.map (eInt .i64) c.Tiers), D.int .i64 c.Every, D.int .i64 c.Wait, D.int .i64 c.Rise, D.int .i64 c.Fall, D.int .i64 c.Fresh, D.int .i64 c.L_, D.int .i64 c.M_, D.int .i64 c.Dwell, D.int .i64 c.D_, D.int .i64 c.W_, D.int .i64 c.B_, D.int .i64 c.Hit, D.int .i64 c.Suppress, D.int .i64 c.Reuse, D.int .i64 c.Half, D.int .i64 c.First, D.int .i64 c.Step, D.int .i64 c.StepTime, D.int .i64 c.S_, D.int .i64 c.Cap, D.int .i64 c.Span, D.int .i64 c.Room, D.int .i64 c.Tries, D.int .i64 c.Retry]]) (fun y5 => D.int .i64 y5) (fun y5 => []) h (by kernel_rfl) ⟨rfl, rfl⟩ ok5 (fun y5 h5 h => ?_)
    refine adv_ok hm 5 _ ?_
    obtain rfl := Option.some.inj h
    have hv := ha
    simp only [After] at hv
    subst hv
    exact r_retF [] (d := D.bool (decide ((n : Int) ≥ (IntKind.i64.wrap (y5 + 1))))) (s := []) (by kernel_rfl) ⟨rfl, rfl⟩
theorem ref16_Most_ev {c : Config} {mask_ : Int} {r : Bool} (h : Ev ref16_Most_step (.s0 c mask_) r) : Sound E 17 [D.agg [D.int .i64 c.F_, D.int .i64 c.Deciders, D.int .i64 c.Targets, D.int .i64 c.Routers, D.int .i64 c.Observers, D.sl false 1 (List.map (eInt .i64) c.Tiers), D.int .i64 c.Every, D.int .i64 c.Wait, D.int .i64 c.Rise, D.int .i64 c.Fall, D.int .i64 c.Fresh, D.int .i64 c.L_, D.int .i64 c.M_, D.int .i64 c.Dwell, D.int .i64 c.D_, D.int .i64 c.W_, D.int .i64 c.B_, D.int .i64 c.Hit, D.int .i64 c.Suppress, D.int .i64 c.Reuse, D.int .i64 c.Half, D.int .i64 c.First, D.int .i64 c.Step, D.int .i64 c.StepTime, D.int .i64 c.S_, D.int .i64 c.Cap, D.int .i64 c.Span, D.int .i64 c.Room, D.int .i64 c.Tries, D.int .i64 c.Retry], D.int .u64 mask_] [] (ref16_Most_Q r) :=
  sound_ofW (m := ref16_Most_M (.s0 c mask_)) (fn := Try.f17) (by kernel_rfl) (by kernel_rfl) (ev_run (C := ⟨Try.f17, false, 0⟩) (fun s x r hs ha => by
    cases s with
    | s0 => exact ref16_Most_0_ok hs ha
    | s1 => exact ref16_Most_1_ok hs ha) h)
noncomputable def ref16_Most (c : Config) (mask_ : Int) : Option Bool := evf ref16_Most_step (.s0 c mask_)
theorem ref16_Most_ok {c : Config} {mask_ : Int} {r : Bool} (h : ref16_Most c mask_ = some r) : Sound E 17 [D.agg [D.int .i64 c.F_, D.int .i64 c.Deciders, D.int .i64 c.Targets, D.int .i64 c.Routers, D.int .i64 c.Observers, D.sl false 1 (List.map (eInt .i64) c.Tiers), D.int .i64 c.Every, D.int .i64 c.Wait, D.int .i64 c.Rise, D.int .i64 c.Fall, D.int .i64 c.Fresh, D.int .i64 c.L_, D.int .i64 c.M_, D.int .i64 c.Dwell, D.int .i64 c.D_, D.int .i64 c.W_, D.int .i64 c.B_, D.int .i64 c.Hit, D.int .i64 c.Suppress, D.int .i64 c.Reuse, D.int .i64 c.Half, D.int .i64 c.First, D.int .i64 c.Step, D.int .i64 c.StepTime, D.int .i64 c.S_, D.int .i64 c.Cap, D.int .i64 c.Span, D.int .i64 c.Room, D.int .i64 c.Tries, D.int .i64 c.Retry], D.int .u64 mask_] [] (ref16_Most_Q r) := ref16_Most_ev (evf_ev h)
end Go.RX.L

set_option linter.unusedSimpArgs false
set_option linter.unusedVariables false
namespace Go.RX.L
open Go Go.RX

/-- How many of the lowest n bits are set. -/
def cnt (g : Nat) : Nat → Nat
  | 0 => 0
  | n + 1 => cnt g n + (if g.testBit n then 1 else 0)

theorem cnt_mod (m k : Nat) : ∀ n, cnt (m % 2 ^ k) n = cnt m (min k n)
  | 0 => by simp [cnt]
  | n + 1 => by
    unfold cnt
    rw [cnt_mod m k n, Nat.testBit_mod_two_pow]
    by_cases h : n < k
    · rw [show min k n = n by omega, show min k (n + 1) = n + 1 by omega]
      simp [cnt, h]
    · rw [show min k n = k by omega, show min k (n + 1) = k by omega]
      simp [h]
      cases k <;> simp [cnt]

noncomputable def onesAll : Bool := (List.range 128).all fun n => decide (math_bits_OnesCount64 (n : Int) = some (cnt n 7 : Int))
theorem onesAll_ok : onesAll = true := by kernel_rfl
theorem ones_ok {n : Nat} (h : n < 128) : math_bits_OnesCount64 (n : Int) = some (cnt n 7 : Int) := by
  have := List.all_eq_true.1 onesAll_ok n (List.mem_range.2 h)
  exact of_decide_eq_true this

/-- How many may fail. -/
def fN (c : Config) : Nat := (mnI (mxI c.F_ 0) 3).toNat
theorem fN_le (c : Config) : fN c ≤ 3 := by unfold fN mnI mxI; split <;> split <;> omega
theorem fN_eq (c : Config) : mnI (mxI c.F_ 0) 3 = (fN c : Int) := by unfold fN mnI mxI; split <;> split <;> omega
theorem fN_of {c : Config} {f : Nat} (h : c.F_ = f) (hf : f ≤ 3) : fN c = f := by
  unfold fN mnI mxI
  rw [h]
  split <;> split <;> omega

def mostP (c : Config) (g : Nat) : Bool := decide (fN c < cnt g (2 * fN c + 1))

theorem most_ok (c : Config) {g : Nat} (hg : g < 18446744073709551616) : proposer_Most c g = some (mostP c g) := by
  have hf := fN_le c
  have p1 : (2 : Nat) ^ (2 * fN c + 1) ≤ 2 ^ 7 := Nat.pow_le_pow_right (by decide) (by omega)
  have p0 : 0 < (2 : Nat) ^ (2 * fN c + 1) := Nat.pow_pos (by decide)
  have e1 : IntKind.i64.wrap ((IntKind.i64.wrap ((2 : Int) * (fN c : Int))) + 1) = ((2 * fN c + 1 : Nat) : Int) := by
    rw [wI64 (n := 2 * (fN c : Int)) (by omega) (by omega), wI64 (by omega) (by omega)]; rfl
  have e2 : IntKind.u64.wrap (((2 ^ (2 * fN c + 1) : Nat) : Int) - 1) = ((2 ^ (2 * fN c + 1) - 1 : Nat) : Int) := by
    rw [wU64 (by omega) (by omega)]; omega
  have e3 : g &&& (2 ^ (2 * fN c + 1) - 1) = g % 2 ^ (2 * fN c + 1) := Nat.and_two_pow_sub_one_eq_mod g _
  have l3 : g % 2 ^ (2 * fN c + 1) < 128 := Nat.lt_of_lt_of_le (Nat.mod_lt _ p0) (by omega)
  unfold proposer_Most proposer_more
  simp only [Option.bind_some, fN_eq, e1, nn0, cond_true]
  rw [shlI64 (by omega), e2, andI64 hg (by omega), e3, ones_ok l3, cnt_mod, show min (2 * fN c + 1) 7 = 2 * fN c + 1 by omega]
  simp [mostP]

theorem rmost_loop (c : Config) {g : Nat} (hg : g < 18446744073709551616) : ∀ (j k : Nat), k + j = 2 * fN c + 1 → Ev ref16_Most_step (.s1 g (cnt g k : Nat) k c) (mostP c g) := by
  have hf := fN_le c
  have e0 : IntKind.i64.wrap ((2 : Int) * (fN c : Int)) = 2 * (fN c : Int) := wI64 (by omega) (by omega)
  have ecnt : ∀ k, cnt g k ≤ k := fun k => by
    induction k with
    | zero => simp [cnt]
    | succ k ih => unfold cnt; split <;> omega
  intro j
  induction j with
  | zero =>
    intro k hk
    refine .done ?_
    have : k = 2 * fN c + 1 := by omega
    subst this
    have e1 : IntKind.i64.wrap ((fN c : Int) + 1) = (fN c : Int) + 1 := wI64 (by omega) (by omega)
    simp only [ref16_Most_step, ref16_Most_1, ref16_f, fN_eq, Option.bind_some, e0, e1]
    simp [mostP, show ¬ (2 * (fN c : Int) + 1 ≤ 2 * (fN c : Int)) by omega]
    have := ecnt (2 * fN c + 1)
    by_cases h : fN c < cnt g (2 * fN c + 1)
    · simp [h]; omega
    · simp [h]; omega
  | succ j ih =>
    intro k hk
    have hc := ecnt k
    have w1 : IntKind.i64.wrap ((k : Int) + 1) = ((k + 1 : Nat) : Int) := by rw [wI64 (by omega) (by omega)]; rfl
    have w2 : IntKind.i64.wrap ((cnt g k : Int) + 1) = ((cnt g k + 1 : Nat) : Int) := by rw [wI64 (by omega) (by omega)]; rfl
    have hb := bitI64 (a := g) (k := k) hg (by omega)
    refine .next (s' := .s1 g (cnt g (k + 1) : Nat) ((k + 1 : Nat) : Int) c) ?_ (ih (k + 1) (by omega))
    simp only [ref16_Most_step, ref16_Most_1, ref16_f, fN_eq, Option.bind_some, e0, w1, w2, nn0, hb]
    cases ht : g.testBit k <;> simp [cnt, ht, show (k : Int) ≤ 2 * (fN c : Int) by omega, show ¬ ((k : Int) < 0) by omega]

theorem rmost_ok (c : Config) {g : Nat} (hg : g < 18446744073709551616) : ref16_Most c g = some (mostP c g) := by
  refine evf_of (.next (s' := .s1 g (cnt g 0 : Nat) (0 : Nat) c) ?_ (rmost_loop c hg (2 * fN c + 1) 0 (by omega)))
  simp [ref16_Most_step, ref16_Most_0, cnt]

theorem or_lt {g k : Nat} (hg : g < 18446744073709551616) (hk : k ≤ 6) : g ||| 2 ^ k < 18446744073709551616 :=
  Nat.or_lt_two_pow (n := 64) (by omega) (Nat.lt_of_le_of_lt (Nat.pow_le_pow_right (by decide) hk) (by decide))

end Go.RX.L

set_option linter.unusedSimpArgs false
set_option linter.unusedVariables false
set_option maxRecDepth 100000
set_option maxHeartbeats 4000000
namespace Go.RX.L
open Go Go.RX Go.Proofs
def proposer_to_Q (y : GProp × Config) (d : D) (s : Sto) : Prop := d = D.fn 25 [] [D.iptr 30 [[D.int .i64 y.1.Epoch, D.int .i64 y.1.Ballot, D.int .i64 y.1.Phase, D.int .i64 y.1.Own.Epoch, D.int .i64 y.1.Own.Target, D.int .i64 y.1.Own.Prev, D.int .i64 y.1.Own.Spill, D.int .i64 y.1.Own.Percent, D.int .i64 y.1.Own.Stamp, D.int .i64 y.1.Own.Since, D.int .i64 y.1.Own.Ramped, D.int .u64 y.1.Own.Up, D.int .u64 y.1.Own.Sup, D.sl false 1 (List.map (eInt .i64) y.1.Own.Pen), D.sl false 1 (List.map (eInt .i64) y.1.Own.Changes), D.int .i64 y.1.Best, D.int .i64 y.1.Value.Epoch, D.int .i64 y.1.Value.Target, D.int .i64 y.1.Value.Prev, D.int .i64 y.1.Value.Spill, D.int .i64 y.1.Value.Percent, D.int .i64 y.1.Value.Stamp, D.int .i64 y.1.Value.Since, D.int .i64 y.1.Value.Ramped, D.int .u64 y.1.Value.Up, D.int .u64 y.1.Value.Sup, D.sl false 1 (List.map (eInt .i64) y.1.Value.Pen), D.sl false 1 (List.map (eInt .i64) y.1.Value.Changes), D.int .u64 y.1.Promises, D.int .u64 y.1.Accepts]] 0 0, D.iptr 30 [[D.int .i64 y.2.F_, D.int .i64 y.2.Deciders, D.int .i64 y.2.Targets, D.int .i64 y.2.Routers, D.int .i64 y.2.Observers, D.sl false 1 (List.map (eInt .i64) y.2.Tiers), D.int .i64 y.2.Every, D.int .i64 y.2.Wait, D.int .i64 y.2.Rise, D.int .i64 y.2.Fall, D.int .i64 y.2.Fresh, D.int .i64 y.2.L_, D.int .i64 y.2.M_, D.int .i64 y.2.Dwell, D.int .i64 y.2.D_, D.int .i64 y.2.W_, D.int .i64 y.2.B_, D.int .i64 y.2.Hit, D.int .i64 y.2.Suppress, D.int .i64 y.2.Reuse, D.int .i64 y.2.Half, D.int .i64 y.2.First, D.int .i64 y.2.Step, D.int .i64 y.2.StepTime, D.int .i64 y.2.S_, D.int .i64 y.2.Cap, D.int .i64 y.2.Span, D.int .i64 y.2.Room, D.int .i64 y.2.Tries, D.int .i64 y.2.Retry]] 0 0] ∧ s = []
noncomputable def proposer_to (p : GProp) (c : Config) : Option (GProp × Config) := (some (p, c))
theorem proposer_to_ok {p : GProp} {c : Config} {r : GProp × Config} (h : proposer_to p c = some r) : Sound E 19 [D.agg [D.int .i64 p.Epoch, D.int .i64 p.Ballot, D.int .i64 p.Phase, D.int .i64 p.Own.Epoch, D.int .i64 p.Own.Target, D.int .i64 p.Own.Prev, D.int .i64 p.Own.Spill, D.int .i64 p.Own.Percent, D.int .i64 p.Own.Stamp, D.int .i64 p.Own.Since, D.int .i64 p.Own.Ramped, D.int .u64 p.Own.Up, D.int .u64 p.Own.Sup, D.sl false 1 (List.map (eInt .i64) p.Own.Pen), D.sl false 1 (List.map (eInt .i64) p.Own.Changes), D.int .i64 p.Best, D.int .i64 p.Value.Epoch, D.int .i64 p.Value.Target, D.int .i64 p.Value.Prev, D.int .i64 p.Value.Spill, D.int .i64 p.Value.Percent, D.int .i64 p.Value.Stamp, D.int .i64 p.Value.Since, D.int .i64 p.Value.Ramped, D.int .u64 p.Value.Up, D.int .u64 p.Value.Sup, D.sl false 1 (List.map (eInt .i64) p.Value.Pen), D.sl false 1 (List.map (eInt .i64) p.Value.Changes), D.int .u64 p.Promises, D.int .u64 p.Accepts], D.agg [D.int .i64 c.F_, D.int .i64 c.Deciders, D.int .i64 c.Targets, D.int .i64 c.Routers, D.int .i64 c.Observers, D.sl false 1 (List.map (eInt .i64) c.Tiers), D.int .i64 c.Every, D.int .i64 c.Wait, D.int .i64 c.Rise, D.int .i64 c.Fall, D.int .i64 c.Fresh, D.int .i64 c.L_, D.int .i64 c.M_, D.int .i64 c.Dwell, D.int .i64 c.D_, D.int .i64 c.W_, D.int .i64 c.B_, D.int .i64 c.Hit, D.int .i64 c.Suppress, D.int .i64 c.Reuse, D.int .i64 c.Half, D.int .i64 c.First, D.int .i64 c.Step, D.int .i64 c.StepTime, D.int .i64 c.S_, D.int .i64 c.Cap, D.int .i64 c.Span, D.int .i64 c.Room, D.int .i64 c.Tries, D.int .i64 c.Retry]] [] (proposer_to_Q r) := by
  refine sound_ofW (m := ⟨[.code (bodyOf Try.f19)], [(0, D.agg [D.int .i64 p.Epoch, D.int .i64 p.Ballot, D.int .i64 p.Phase, D.int .i64 p.Own.Epoch, D.int .i64 p.Own.Target, D.int .i64 p.Own.Prev, D.int .i64 p.Own.Spill, D.int .i64 p.Own.Percent, D.int .i64 p.Own.Stamp, D.int .i64 p.Own.Since, D.int .i64 p.Own.Ramped, D.int .u64 p.Own.Up, D.int .u64 p.Own.Sup, D.sl false 1 (List.map (eInt .i64) p.Own.Pen), D.sl false 1 (List.map (eInt .i64) p.Own.Changes), D.int .i64 p.Best, D.int .i64 p.Value.Epoch, D.int .i64 p.Value.Target, D.int .i64 p.Value.Prev, D.int .i64 p.Value.Spill, D.int .i64 p.Value.Percent, D.int .i64 p.Value.Stamp, D.int .i64 p.Value.Since, D.int .i64 p.Value.Ramped, D.int .u64 p.Value.Up, D.int .u64 p.Value.Sup, D.sl false 1 (List.map (eInt .i64) p.Value.Pen), D.sl false 1 (List.map (eInt .i64) p.Value.Changes), D.int .u64 p.Promises, D.int .u64 p.Accepts]), (1, D.agg [D.int .i64 c.F_, D.int .i64 c.Deciders, D.int .i64 c.Targets, D.int .i64 c.Routers, D.int .i64 c.Observers, D.sl false 1 (List.map (eInt .i64) c.Tiers), D.int .i64 c.Every, D.int .i64 c.Wait, D.int .i64 c.Rise, D.int .i64 c.Fall, D.int .i64 c.Fresh, D.int .i64 c.L_, D.int .i64 c.M_, D.int .i64 c.Dwell, D.int .i64 c.D_, D.int .i64 c.W_, D.int .i64 c.B_, D.int .i64 c.Hit, D.int .i64 c.Suppress, D.int .i64 c.Reuse, D.int .i64 c.Half, D.int .i64 c.First, D.int .i64 c.Step, D.int .i64 c.StepTime, D.int .i64 c.S_, D.int .i64 c.Cap, D.int .i64 c.Span, D.int .i64 c.Room, D.int .i64 c.Tries, D.int .i64 c.Retry])], []⟩) (fn := Try.f19) (by kernel_rfl) (by kernel_rfl) ?_
  show FinQ E ⟨Try.f19, false, 0⟩ (QW (proposer_to_Q r)) _
  unfold proposer_to at h
  refine adv_ok hm 12 _ ?_
  obtain rfl := Option.some.inj h
  exact r_retF [] (d := D.fn 25 [] [D.iptr 30 [[D.int .i64 p.Epoch, D.int .i64 p.Ballot, D.int .i64 p.Phase, D.int .i64 p.Own.Epoch, D.int .i64 p.Own.Target, D.int .i64 p.Own.Prev, D.int .i64 p.Own.Spill, D.int .i64 p.Own.Percent, D.int .i64 p.Own.Stamp, D.int .i64 p.Own.Since, D.int .i64 p.Own.Ramped, D.int .u64 p.Own.Up, D.int .u64 p.Own.Sup, D.sl false 1 (List.map (eInt .i64) p.Own.Pen), D.sl false 1 (List.map (eInt .i64) p.Own.Changes), D.int .i64 p.Best, D.int .i64 p.Value.Epoch, D.int .i64 p.Value.Target, D.int .i64 p.Value.Prev, D.int .i64 p.Value.Spill, D.int .i64 p.Value.Percent, D.int .i64 p.Value.Stamp, D.int .i64 p.Value.Since, D.int .i64 p.Value.Ramped, D.int .u64 p.Value.Up, D.int .u64 p.Value.Sup, D.sl false 1 (List.map (eInt .i64) p.Value.Pen), D.sl false 1 (List.map (eInt .i64) p.Value.Changes), D.int .u64 p.Promises, D.int .u64 p.Accepts]] 0 0, D.iptr 30 [[D.int .i64 c.F_, D.int .i64 c.Deciders, D.int .i64 c.Targets, D.int .i64 c.Routers, D.int .i64 c.Observers, D.sl false 1 (List.map (eInt .i64) c.Tiers), D.int .i64 c.Every, D.int .i64 c.Wait, D.int .i64 c.Rise, D.int .i64 c.Fall, D.int .i64 c.Fresh, D.int .i64 c.L_, D.int .i64 c.M_, D.int .i64 c.Dwell, D.int .i64 c.D_, D.int .i64 c.W_, D.int .i64 c.B_, D.int .i64 c.Hit, D.int .i64 c.Suppress, D.int .i64 c.Reuse, D.int .i64 c.Half, D.int .i64 c.First, D.int .i64 c.Step, D.int .i64 c.StepTime, D.int .i64 c.S_, D.int .i64 c.Cap, D.int .i64 c.Span, D.int .i64 c.Room, D.int .i64 c.Tries, D.int .i64 c.Retry]] 0 0]) (s := []) (by kernel_rfl) ⟨rfl, rfl⟩
end Go.RX.L

set_option linter.unusedSimpArgs false
set_option linter.unusedVariables false
set_option maxRecDepth 100000
set_option maxHeartbeats 4000000
namespace Go.RX.L
open Go Go.RX Go.Proofs
def proposer_to_1_Q (y : Bool) (d : D) (s : Sto) : Prop := d = D.bool y ∧ s = []
noncomputable def proposer_to_1 (m : Msg) (kind : Int) (phase : Int) (t : GProp) (t2 : Config) : Option Bool := (bif ((t.Phase : Int) == phase) then (bif ((m.Kind : Int) == kind) then (bif ((m.Epoch : Int) == t.Epoch) then (bif ((m.Ballot : Int) == t.Ballot) then (bif (decide ((m.From : Int) ≥ 0)) then ((proposer_more t2).bind fun y6 => (some (decide ((m.From : Int) ≤ (IntKind.i64.wrap ((2 : Int) * y6)))))) else (some false)) else (some false)) else (some false)) else (some false)) else (some false))
theorem proposer_to_1_ok {m : Msg} {kind : Int} {phase : Int} {t : GProp} {t2 : Config} {r : Bool} (h : proposer_to_1 m kind phase t t2 = some r) : Sound E 25 [D.agg [D.int .i64 m.Kind, D.int .i64 m.From, D.int .i64 m.To, D.int .i64 m.Epoch, D.int .i64 m.Ballot, D.int .i64 m.Accepted, D.int .i64 m.Nonce, D.int .i64 m.Time, D.int .u64 m.Up, D.int .i64 m.Code, D.bool m.HasPlan, D.int .i64 m.Plan.Epoch, D.int .i64 m.Plan.Target, D.int .i64 m.Plan.Prev, D.int .i64 m.Plan.Spill, D.int .i64 m.Plan.Percent, D.int .i64 m.Plan.Stamp, D.int .i64 m.Plan.Since, D.int .i64 m.Plan.Ramped, D.int .u64 m.Plan.Up, D.int .u64 m.Plan.Sup, D.sl false 1 (List.map (eInt .i64) m.Plan.Pen), D.sl false 1 (List.map (eInt .i64) m.Plan.Changes), D.sl false 1 (List.map (eInt .i64) m.ID), D.sl false 1 (List.map (eInt .u8) m.Session), D.sl false 1 (List.map (eInt .u8) m.Payload)], D.int .i64 kind, D.int .i64 phase, D.iptr 30 [[D.int .i64 t.Epoch, D.int .i64 t.Ballot, D.int .i64 t.Phase, D.int .i64 t.Own.Epoch, D.int .i64 t.Own.Target, D.int .i64 t.Own.Prev, D.int .i64 t.Own.Spill, D.int .i64 t.Own.Percent, D.int .i64 t.Own.Stamp, D.int .i64 t.Own.Since, D.int .i64 t.Own.Ramped, D.int .u64 t.Own.Up, D.int .u64 t.Own.Sup, D.sl false 1 (List.map (eInt .i64) t.Own.Pen), D.sl false 1 (List.map (eInt .i64) t.Own.Changes), D.int .i64 t.Best, D.int .i64 t.Value.Epoch, D.int .i64 t.Value.Target, D.int .i64 t.Value.Prev, D.int .i64 t.Value.Spill, D.int .i64 t.Value.Percent, D.int .i64 t.Value.Stamp, D.int .i64 t.Value.Since, D.int .i64 t.Value.Ramped, D.int .u64 t.Value.Up, D.int .u64 t.Value.Sup, D.sl false 1 (List.map (eInt .i64) t.Value.Pen), D.sl false 1 (List.map (eInt .i64) t.Value.Changes), D.int .u64 t.Promises, D.int .u64 t.Accepts]] 0 0, D.iptr 30 [[D.int .i64 t2.F_, D.int .i64 t2.Deciders, D.int .i64 t2.Targets, D.int .i64 t2.Routers, D.int .i64 t2.Observers, D.sl false 1 (List.map (eInt .i64) t2.Tiers), D.int .i64 t2.Every, D.int .i64 t2.Wait, D.int .i64 t2.Rise, D.int .i64 t2.Fall, D.int .i64 t2.Fresh, D.int .i64 t2.L_, D.int .i64 t2.M_, D.int .i64 t2.Dwell, D.int .i64 t2.D_, D.int .i64 t2.W_, D.int .i64 t2.B_, D.int .i64 t2.Hit, D.int .i64 t2.Suppress, D.int .i64 t2.Reuse, D.int .i64 t2.Half, D.int .i64 t2.First, D.int .i64 t2.Step, D.int .i64 t2.StepTime, D.int .i64 t2.S_, D.int .i64 t2.Cap, D.int .i64 t2.Span, D.int .i64 t2.Room, D.int .i64 t2.Tries, D.int .i64 t2.Retry]] 0 0] [] (proposer_to_1_Q r) := by
  refine sound_ofW (m := ⟨[.code (bodyOf Try.f25)], [(0, D.agg [D.int .i64 m.Kind, D.int .i64 m.From, D.int .i64 m.To, D.int .i64 m.Epoch, D.int .i64 m.Ballot, D.int .i64 m.Accepted, D.int .i64 m.Nonce, D.int .i64 m.Time, D.int .u64 m.Up, D.int .i64 m.Code, D.bool m.HasPlan, D.int .i64 m.Plan.Epoch, D.int .i64 m.Plan.Target, D.int .i64 m.Plan.Prev, D.int .i64 m.Plan.Spill, D.int .i64 m.Plan.Percent, D.int .i64 m.Plan.Stamp, D.int .i64 m.Plan.Since, D.int .i64 m.Plan.Ramped, D.int .u64 m.Plan.Up, D.int .u64 m.Plan.Sup, D.sl false 1 (List.map (eInt .i64) m.Plan.Pen), D.sl false 1 (List.map (eInt .i64) m.Plan.Changes), D.sl false 1 (List.map (eInt .i64) m.ID), D.sl false 1 (List.map (eInt .u8) m.Session), D.sl false 1 (List.map (eInt .u8) m.Payload)]), (1, D.int .i64 kind), (2, D.int .i64 phase), (3, D.iptr 30 [[D.int .i64 t.Epoch, D.int .i64 t.Ballot, D.int .i64 t.Phase, D.int .i64 t.Own.Epoch, D.int .i64 t.Own.Target, D.int .i64 t.Own.Prev, D.int .i64 t.Own.Spill, D.int .i64 t.Own.Percent, D.int .i64 t.Own.Stamp, D.int .i64 t.Own.Since, D.int .i64 t.Own.Ramped, D.int .u64 t.Own.Up, D.int .u64 t.Own.Sup, D.sl false 1 (List.map (eInt .i64) t.Own.Pen), D.sl false 1 (List.map (eInt .i64) t.Own.Changes), D.int .i64 t.Best, D.int .i64 t.Value.Epoch, D.int .i64 t.Value.Target, D.int .i64 t.Value.Prev, D.int .i64 t.Value.Spill, D.int .i64 t.Value.Percent, D.int .i64 t.Value.Stamp, D.int .i64 t.Value.Since, D.int .i64 t.Value.Ramped, D.int .u64 t.Value.Up, D.int .u64 t.Value.Sup, D.sl false 1 (List.map (eInt .i64) t.Value.Pen), D.sl false 1 (List.map (eInt .i64) t.Value.Changes), D.int .u64 t.Promises, D.int .u64 t.Accepts]] 0 0), (4, D.iptr 30 [[D.int .i64 t2.F_, D.int .i64 t2.Deciders, D.int .i64 t2.Targets, D.int .i64 t2.Routers, D.int .i64 t2.Observers, D.sl false 1 (List.map (eInt .i64) t2.Tiers), D.int .i64 t2.Every, D.int .i64 t2.Wait, D.int .i64 t2.Rise, D.int .i64 t2.Fall, D.int .i64 t2.Fresh, D.int .i64 t2.L_, D.int .i64 t2.M_, D.int .i64 t2.Dwell, D.int .i64 t2.D_, D.int .i64 t2.W_, D.int .i64 t2.B_, D.int .i64 t2.Hit, D.int .i64 t2.Suppress, D.int .i64 t2.Reuse, D.int .i64 t2.Half, D.int .i64 t2.First, D.int .i64 t2.Step, D.int .i64 t2.StepTime, D.int .i64 t2.S_, D.int .i64 t2.Cap, D.int .i64 t2.Span, D.int .i64 t2.Room, D.int .i64 t2.Tries, D.int .i64 t2.Retry]] 0 0)], []⟩) (fn := Try.f25) (by kernel_rfl) (by kernel_rfl) ?_
  show FinQ E ⟨Try.f25, false, 0⟩ (QW (proposer_to_1_Q r)) _
  unfold proposer_to_1 at h
  refine adv_ok hm 8 _ ?_
  refine p_split h (by kernel_rfl) (fun h1 h => ?_) (fun h1 h => ?_)
  · -- true
    refine adv_ok hm 5 _ ?_
    refine p_split h (by kernel_rfl) (fun h2 h => ?_) (fun h2 h => ?_)
    · -- true
      refine adv_ok hm 7 _ ?_
      refine p_split h (by kernel_rfl) (fun h3 h => ?_) (fun h3 h => ?_)
      · -- true
        refine adv_ok hm 7 _ ?_
        refine p_split h (by kernel_rfl) (fun h4 h => ?_) (fun h4 h => ?_)
        · -- true
          refine adv_ok hm 4 _ ?_
          refine p_split h (by kernel_rfl) (fun h5 h => ?_) (fun h5 h => ?_)
          · -- true
            refine adv_ok hm 5 _ ?_
            have ok6 := fun (y : Int) (hy : proposer_more t2 = some y) => proposer_more_ok hy
            refine p_callDE [] (args1 := [D.agg [D.int .i64 t2.F_, D.int .i64 t2.Deciders, D.int .i64 t2.Targets, D.int .i64 t2.Routers, D.int .i64 t2.Observers, D.sl false 1 (List.map (eInt .i64) t2.Tiers), D.int .i64 t2.Every, D.int .i64 t2.Wait, D.int .i64 t2.Rise, D.int .i64 t2.Fall, D.int .i64 t2.Fresh, D.int .i64 t2.L_, D.int .i64 t2.M_, D.int .i64 t2.Dwell, D.int .i64 t2.D_, D.int .i64 t2.W_, D.int .i64 t2.B_, D.int .i64 t2.Hit, D.int .i64 t2.Suppress, D.int .i64 t2.Reuse, D.int .i64 t2.Half, D.int .i64 t2.First, D.int .i64 t2.Step, D.int .i64 t2.StepTime, D.int .i64 t2.S_, D.int .i64 t2.Cap, D.int .i64 t2.Span, D.int .i64 t2.Room, D.int .i64 t2.Tries, D.int .i64 t2.Retry]]) (args := [D.agg [D.int .i64 t2.F_, D.int .i64 t2.Deciders, D.int .i64 t2.Targets, D.int .i64 t2.Routers, D.int .i64 t2.Observers, D.sl false 1 (List.map (eInt .i64) t2.Tiers), D.int .i64 t2.Every, D.int .i64 t2.Wait, D.int .i64 t2.Rise, D.int .i64 t2.Fall, D.int .i64 t2.Fresh, D.int .i64 t2.L_, D.int .i64 t2.M_, D.int .i64 t2.Dwell, D.int .i64 t2.D_, D.int .i64 t2.W_, D.int .i64 t2.B_, D.int .i64 t2.Hit, D.int .i64 t2.Suppress, D.int .i64 t2.Reuse, D.int .i64 t2.Half, D.int .i64 t2.First, D.int .i64 t2.Step, D.int .i64 t2.StepTime, D.int .i64 t2.S_, D.int .i64 t2.Cap, D.int .i64 t2.Span, D.int .i64 t2.Room, D.int .i64 t2.Tries, D.int .i64 t2.Retry]]) (fun y6 => D.int .i64 y6) h (by kernel_rfl) rfl ok6 (fun y6 h6 h => ?_)
            refine adv_ok hm 4 _ ?_
            obtain rfl := Option.some.inj h
            exact r_retF [] (d := D.bool (decide ((m.From : Int) ≤ (IntKind.i64.wrap ((2 : Int) * y6))))) (s := []) (by kernel_rfl) ⟨rfl, rfl⟩
          · -- false
            refine adv_ok hm 7 _ ?_
            obtain rfl := Option.some.inj h
            exact r_retF [] (d := D.bool false) (s := []) (by kernel_rfl) ⟨rfl, rfl⟩
        · -- false
          refine adv_ok hm 11 _ ?_
          obtain rfl := Option.some.inj h
          exact r_retF [] (d := D.bool false) (s := []) (by kernel_rfl) ⟨rfl, rfl⟩
      · -- false
        refine adv_ok hm 17 _ ?_
        obtain rfl := Option.some.inj h
        exact r_retF [] (d := D.bool false) (s := []) (by kernel_rfl) ⟨rfl, rfl⟩
    · -- false
      refine adv_ok hm 23 _ ?_
      obtain rfl := Option.some.inj h
      exact r_retF [] (d := D.bool false) (s := []) (by kernel_rfl) ⟨rfl, rfl⟩
  · -- false
    refine adv_ok hm 28 _ ?_
    obtain rfl := Option.some.inj h
    exact r_retF [] (d := D.bool false) (s := []) (by kernel_rfl) ⟨rfl, rfl⟩
end Go.RX.L

set_option linter.unusedSimpArgs false
set_option linter.unusedVariables false
set_option maxRecDepth 100000
set_option maxHeartbeats 4000000
namespace Go.RX.L
open Go Go.RX Go.Proofs
def proposer_Promise_Q (y : GProp) (d : D) (s : Sto) : Prop := d = D.agg [D.int .i64 y.Epoch, D.int .i64 y.Ballot, D.int .i64 y.Phase, D.int .i64 y.Own.Epoch, D.int .i64 y.Own.Target, D.int .i64 y.Own.Prev, D.int .i64 y.Own.Spill, D.int .i64 y.Own.Percent, D.int .i64 y.Own.Stamp, D.int .i64 y.Own.Since, D.int .i64 y.Own.Ramped, D.int .u64 y.Own.Up, D.int .u64 y.Own.Sup, D.sl false 1 (List.map (eInt .i64) y.Own.Pen), D.sl false 1 (List.map (eInt .i64) y.Own.Changes), D.int .i64 y.Best, D.int .i64 y.Value.Epoch, D.int .i64 y.Value.Target, D.int .i64 y.Value.Prev, D.int .i64 y.Value.Spill, D.int .i64 y.Value.Percent, D.int .i64 y.Value.Stamp, D.int .i64 y.Value.Since, D.int .i64 y.Value.Ramped, D.int .u64 y.Value.Up, D.int .u64 y.Value.Sup, D.sl false 1 (List.map (eInt .i64) y.Value.Pen), D.sl false 1 (List.map (eInt .i64) y.Value.Changes), D.int .u64 y.Promises, D.int .u64 y.Accepts] ∧ s = []
noncomputable def proposer_Promise_2M (p : GProp) (c : Config) (b2 : GProp) : M := { td := [It.code (codeAt (bodyOf Try.f9) [1, 1, 1])], fr := [(3, D.ptr 0 0 0), (4, D.ptr 1 0 0), (6, D.ptr 2 0 0)], st := [some { sz := 30, deep := false, rows := [[D.int .i64 p.Epoch, D.int .i64 p.Ballot, D.int .i64 p.Phase, D.int .i64 p.Own.Epoch, D.int .i64 p.Own.Target, D.int .i64 p.Own.Prev, D.int .i64 p.Own.Spill, D.int .i64 p.Own.Percent, D.int .i64 p.Own.Stamp, D.int .i64 p.Own.Since, D.int .i64 p.Own.Ramped, D.int .u64 p.Own.Up, D.int .u64 p.Own.Sup, D.sl false 1 (List.map (eInt .i64) p.Own.Pen), D.sl false 1 (List.map (eInt .i64) p.Own.Changes), D.int .i64 p.Best, D.int .i64 p.Value.Epoch, D.int .i64 p.Value.Target, D.int .i64 p.Value.Prev, D.int .i64 p.Value.Spill, D.int .i64 p.Value.Percent, D.int .i64 p.Value.Stamp, D.int .i64 p.Value.Since, D.int .i64 p.Value.Ramped, D.int .u64 p.Value.Up, D.int .u64 p.Value.Sup, D.sl false 1 (List.map (eInt .i64) p.Value.Pen), D.sl false 1 (List.map (eInt .i64) p.Value.Changes), D.int .u64 p.Promises, D.int .u64 p.Accepts]] }, some { sz := 30, deep := false, rows := [[D.int .i64 c.F_, D.int .i64 c.Deciders, D.int .i64 c.Targets, D.int .i64 c.Routers, D.int .i64 c.Observers, D.sl false 1 (List.map (eInt .i64) c.Tiers), D.int .i64 c.Every, D.int .i64 c.Wait, D.int .i64 c.Rise, D.int .i64 c.Fall, D.int .i64 c.Fresh, D.int .i64 c.L_, D.int .i64 c.M_, D.int .i64 c.Dwell, D.int .i64 c.D_, D.int .i64 c.W_, D.int .i64 c.B_, D.int .i64 c.Hit, D.int .i64 c.Suppress, D.int .i64 c.Reuse, D.int .i64 c.Half, D.int .i64 c.First, D.int .i64 c.Step, D.int .i64 c.StepTime, D.int .i64 c.S_, D.int .i64 c.Cap, D.int .i64 c.Span, D.int .i64 c.Room, D.int .i64 c.Tries, D.int .i64 c.Retry]] }, some { sz := 30, deep := false, rows := [[D.int .i64 b2.Epoch, D.int .i64 b2.Ballot, D.int .i64 b2.Phase, D.int .i64 b2.Own.Epoch, D.int .i64 b2.Own.Target, D.int .i64 b2.Own.Prev, D.int .i64 b2.Own.Spill, D.int .i64 b2.Own.Percent, D.int .i64 b2.Own.Stamp, D.int .i64 b2.Own.Since, D.int .i64 b2.Own.Ramped, D.int .u64 b2.Own.Up, D.int .u64 b2.Own.Sup, D.sl false 1 (List.map (eInt .i64) b2.Own.Pen), D.sl false 1 (List.map (eInt .i64) b2.Own.Changes), D.int .i64 b2.Best, D.int .i64 b2.Value.Epoch, D.int .i64 b2.Value.Target, D.int .i64 b2.Value.Prev, D.int .i64 b2.Value.Spill, D.int .i64 b2.Value.Percent, D.int .i64 b2.Value.Stamp, D.int .i64 b2.Value.Since, D.int .i64 b2.Value.Ramped, D.int .u64 b2.Value.Up, D.int .u64 b2.Value.Sup, D.sl false 1 (List.map (eInt .i64) b2.Value.Pen), D.sl false 1 (List.map (eInt .i64) b2.Value.Changes), D.int .u64 b2.Promises, D.int .u64 b2.Accepts]] }] }
noncomputable def proposer_Promise_2 (p : GProp) (c : Config) (b2 : GProp) : Option GProp := ((proposer_Most c p.Promises).bind fun y1 => (bif y1 then (bif ((p.Best : Int) == 0) then (some (⟨p.Epoch, p.Ballot, 2, p.Own, p.Best, p.Own, p.Promises, p.Accepts⟩ : GProp)) else (some (⟨p.Epoch, p.Ballot, 2, p.Own, p.Best, p.Value, p.Promises, p.Accepts⟩ : GProp))) else (some p)))
theorem proposer_Promise_2_ok {p : GProp} {c : Config} {b2 : GProp} {r : GProp} (h : proposer_Promise_2 p c b2 = some r) : FinQ E ⟨Try.f9, false, 0⟩ (QW (proposer_Promise_Q r)) (.go (proposer_Promise_2M p c b2)) := by
  unfold proposer_Promise_2 at h
  refine adv_ok hm 9 _ ?_
  have ok1 := fun (y : Bool) (hy : proposer_Most c p.Promises = some y) => proposer_Most_ok hy
  refine p_callE [] (args1 := [D.agg [D.int .i64 c.F_, D.int .i64 c.Deciders, D.int .i64 c.Targets, D.int .i64 c.Routers, D.int .i64 c.Observers, D.sl false 1 (List.map (eInt .i64) c.Tiers), D.int .i64 c.Every, D.int .i64 c.Wait, D.int .i64 c.Rise, D.int .i64 c.Fall, D.int .i64 c.Fresh, D.int .i64 c.L_, D.int .i64 c.M_, D.int .i64 c.Dwell, D.int .i64 c.D_, D.int .i64 c.W_, D.int .i64 c.B_, D.int .i64 c.Hit, D.int .i64 c.Suppress, D.int .i64 c.Reuse, D.int .i64 c.Half, D.int .i64 c.First, D.int .i64 c.Step, D.int .i64 c.StepTime, D.int .i64 c.S_, D.int .i64 c.Cap, D.int .i64 c.Span, D.int .i64 c.Room, D.int .i64 c.Tries, D.int .i64 c.Retry], D.int .u64 p.Promises]) (args := [D.agg [D.int .i64 c.F_, D.int .i64 c.Deciders, D.int .i64 c.Targets, D.int .i64 c.Routers, D.int .i64 c.Observers, D.sl false 1 (List.map (eInt .i64) c.Tiers), D.int .i64 c.Every, D.int .i64 c.Wait, D.int .i64 c.Rise, D.int .i64 c.Fall, D.int .i64 c.Fresh, D.int .i64 c.L_, D.int .i64 c.M_, D.int .i64 c.Dwell, D.int .i64 c.D_, D.int .i64 c.W_, D.int .i64 c.B_, D.int .i64 c.Hit, D.int .i64 c.Suppress, D.int .i64 c.Reuse, D.int .i64 c.Half, D.int .i64 c.First, D.int .i64 c.Step, D.int .i64 c.StepTime, D.int .i64 c.S_, D.int .i64 c.Cap, D.int .i64 c.Span, D.int .i64 c.Room, D.int .i64 c.Tries, D.int .i64 c.Retry], D.int .u64 p.Promises]) (fun y1 => D.bool y1) (fun y1 => []) h (by kernel_rfl) ⟨rfl, rfl⟩ ok1 (fun y1 h1 h => ?_)
  refine adv_ok hm 2 _ ?_
  refine p_split h (by kernel_rfl) (fun h2 h => ?_) (fun h2 h => ?_)
  · -- true
    refine adv_ok hm 15 _ ?_
    refine p_split h (by kernel_rfl) (fun h3 h => ?_) (fun h3 h => ?_)
    · -- true
      refine adv_ok hm 19 _ ?_
      obtain rfl := Option.some.inj h
      exact r_retF [] (d := D.agg [D.int .i64 p.Epoch, D.int .i64 p.Ballot, D.int .i64 2, D.int .i64 p.Own.Epoch, D.int .i64 p.Own.Target, D.int .i64 p.Own.Prev, D.int .i64 p.Own.Spill, D.int .i64 p.Own.Percent, D.int .i64 p.Own.Stamp, D.int .i64 p.Own.Since, D.int .i64 p.Own.Ramped, D.int .u64 p.Own.Up, D.int .u64 p.Own.Sup, D.sl false 1 (List.map (eInt .i64) p.Own.Pen), D.sl false 1 (List.map (eInt .i64) p.Own.Changes), D.int .i64 p.Best, D.int .i64 p.Own.Epoch, D.int .i64 p.Own.Target, D.int .i64 p.Own.Prev, D.int .i64 p.Own.Spill, D.int .i64 p.Own.Percent, D.int .i64 p.Own.Stamp, D.int .i64 p.Own.Since, D.int .i64 p.Own.Ramped, D.int .u64 p.Own.Up, D.int .u64 p.Own.Sup, D.sl false 1 (List.map (eInt .i64) p.Own.Pen), D.sl false 1 (List.map (eInt .i64) p.Own.Changes), D.int .u64 p.Promises, D.int .u64 p.Accepts]) (s := []) (by kernel_rfl) ⟨rfl, rfl⟩
    · -- false
      refine adv_ok hm 11 _ ?_
      obtain rfl := Option.some.inj h
      exact r_retF [] (d := D.agg [D.int .i64 p.Epoch, D.int .i64 p.Ballot, D.int .i64 2, D.int .i64 p.Own.Epoch, D.int .i64 p.Own.Target, D.int .i64 p.Own.Prev, D.int .i64 p.Own.Spill, D.int .i64 p.Own.Percent, D.int .i64 p.Own.Stamp, D.int .i64 p.Own.Since, D.int .i64 p.Own.Ramped, D.int .u64 p.Own.Up, D.int .u64 p.Own.Sup, D.sl false 1 (List.map (eInt .i64) p.Own.Pen), D.sl false 1 (List.map (eInt .i64) p.Own.Changes), D.int .i64 p.Best, D.int .i64 p.Value.Epoch, D.int .i64 p.Value.Target, D.int .i64 p.Value.Prev, D.int .i64 p.Value.Spill, D.int .i64 p.Value.Percent, D.int .i64 p.Value.Stamp, D.int .i64 p.Value.Since, D.int .i64 p.Value.Ramped, D.int .u64 p.Value.Up, D.int .u64 p.Value.Sup, D.sl false 1 (List.map (eInt .i64) p.Value.Pen), D.sl false 1 (List.map (eInt .i64) p.Value.Changes), D.int .u64 p.Promises, D.int .u64 p.Accepts]) (s := []) (by kernel_rfl) ⟨rfl, rfl⟩
  · -- false
    refine adv_ok hm 11 _ ?_
    obtain rfl := Option.some.inj h
    exact r_retF [] (d := D.agg [D.int .i64 p.Epoch, D.int .i64 p.Ballot, D.int .i64 p.Phase, D.int .i64 p.Own.Epoch, D.int .i64 p.Own.Target, D.int .i64 p.Own.Prev, D.int .i64 p.Own.Spill, D.int .i64 p.Own.Percent, D.int .i64 p.Own.Stamp, D.int .i64 p.Own.Since, D.int .i64 p.Own.Ramped, D.int .u64 p.Own.Up, D.int .u64 p.Own.Sup, D.sl false 1 (List.map (eInt .i64) p.Own.Pen), D.sl false 1 (List.map (eInt .i64) p.Own.Changes), D.int .i64 p.Best, D.int .i64 p.Value.Epoch, D.int .i64 p.Value.Target, D.int .i64 p.Value.Prev, D.int .i64 p.Value.Spill, D.int .i64 p.Value.Percent, D.int .i64 p.Value.Stamp, D.int .i64 p.Value.Since, D.int .i64 p.Value.Ramped, D.int .u64 p.Value.Up, D.int .u64 p.Value.Sup, D.sl false 1 (List.map (eInt .i64) p.Value.Pen), D.sl false 1 (List.map (eInt .i64) p.Value.Changes), D.int .u64 p.Promises, D.int .u64 p.Accepts]) (s := []) (by kernel_rfl) ⟨rfl, rfl⟩
noncomputable def proposer_Promise_3M (t41 : Bool) (p : GProp) (c : Config) (m : Msg) (b3 : GProp) : M := { td := [It.code (codeAt (bodyOf Try.f9) [1, 1, 0, 1, 1]), It.code (codeAt (bodyOf Try.f9) [1, 1, 1])], fr := [(3, D.ptr 0 0 0), (4, D.ptr 1 0 0), (5, D.ptr 2 0 0), (6, D.ptr 3 0 0), (41, D.bool t41)], st := [some { sz := 30, deep := false, rows := [[D.int .i64 p.Epoch, D.int .i64 p.Ballot, D.int .i64 p.Phase, D.int .i64 p.Own.Epoch, D.int .i64 p.Own.Target, D.int .i64 p.Own.Prev, D.int .i64 p.Own.Spill, D.int .i64 p.Own.Percent, D.int .i64 p.Own.Stamp, D.int .i64 p.Own.Since, D.int .i64 p.Own.Ramped, D.int .u64 p.Own.Up, D.int .u64 p.Own.Sup, D.sl false 1 (List.map (eInt .i64) p.Own.Pen), D.sl false 1 (List.map (eInt .i64) p.Own.Changes), D.int .i64 p.Best, D.int .i64 p.Value.Epoch, D.int .i64 p.Value.Target, D.int .i64 p.Value.Prev, D.int .i64 p.Value.Spill, D.int .i64 p.Value.Percent, D.int .i64 p.Value.Stamp, D.int .i64 p.Value.Since, D.int .i64 p.Value.Ramped, D.int .u64 p.Value.Up, D.int .u64 p.Value.Sup, D.sl false 1 (List.map (eInt .i64) p.Value.Pen), D.sl false 1 (List.map (eInt .i64) p.Value.Changes), D.int .u64 p.Promises, D.int .u64 p.Accepts]] }, some { sz := 30, deep := false, rows := [[D.int .i64 c.F_, D.int .i64 c.Deciders, D.int .i64 c.Targets, D.int .i64 c.Routers, D.int .i64 c.Observers, D.sl false 1 (List.map (eInt .i64) c.Tiers), D.int .i64 c.Every, D.int .i64 c.Wait, D.int .i64 c.Rise, D.int .i64 c.Fall, D.int .i64 c.Fresh, D.int .i64 c.L_, D.int .i64 c.M_, D.int .i64 c.Dwell, D.int .i64 c.D_, D.int .i64 c.W_, D.int .i64 c.B_, D.int .i64 c.Hit, D.int .i64 c.Suppress, D.int .i64 c.Reuse, D.int .i64 c.Half, D.int .i64 c.First, D.int .i64 c.Step, D.int .i64 c.StepTime, D.int .i64 c.S_, D.int .i64 c.Cap, D.int .i64 c.Span, D.int .i64 c.Room, D.int .i64 c.Tries, D.int .i64 c.Retry]] }, some { sz := 26, deep := false, rows := [[D.int .i64 m.Kind, D.int .i64 m.From, D.int .i64 m.To, D.int .i64 m.Epoch, D.int .i64 m.Ballot, D.int .i64 m.Accepted, D.int .i64 m.Nonce, D.int .i64 m.Time, D.int .u64 m.Up, D.int .i64 m.Code, D.bool m.HasPlan, D.int .i64 m.Plan.Epoch, D.int .i64 m.Plan.Target, D.int .i64 m.Plan.Prev, D.int .i64 m.Plan.Spill, D.int .i64 m.Plan.Percent, D.int .i64 m.Plan.Stamp, D.int .i64 m.Plan.Since, D.int .i64 m.Plan.Ramped, D.int .u64 m.Plan.Up, D.int .u64 m.Plan.Sup, D.sl false 1 (List.map (eInt .i64) m.Plan.Pen), D.sl false 1 (List.map (eInt .i64) m.Plan.Changes), D.sl false 1 (List.map (eInt .i64) m.ID), D.sl false 1 (List.map (eInt .u8) m.Session), D.sl false 1 (List.map (eInt .u8) m.Payload)]] }, some { sz := 30, deep := false, rows := [[D.int .i64 b3.Epoch, D.int .i64 b3.Ballot, D.int .i64 b3.Phase, D.int .i64 b3.Own.Epoch, D.int .i64 b3.Own.Target, D.int .i64 b3.Own.Prev, D.int .i64 b3.Own.Spill, D.int .i64 b3.Own.Percent, D.int .i64 b3.Own.Stamp, D.int .i64 b3.Own.Since, D.int .i64 b3.Own.Ramped, D.int .u64 b3.Own.Up, D.int .u64 b3.Own.Sup, D.sl false 1 (List.map (eInt .i64) b3.Own.Pen), D.sl false 1 (List.map (eInt .i64) b3.Own.Changes), D.int .i64 b3.Best, D.int .i64 b3.Value.Epoch, D.int .i64 b3.Value.Target, D.int .i64 b3.Value.Prev, D.int .i64 b3.Value.Spill, D.int .i64 b3.Value.Percent, D.int .i64 b3.Value.Stamp, D.int .i64 b3.Value.Since, D.int .i64 b3.Value.Ramped, D.int .u64 b3.Value.Up, D.int .u64 b3.Value.Sup, D.sl false 1 (List.map (eInt .i64) b3.Value.Pen), D.sl false 1 (List.map (eInt .i64) b3.Value.Changes), D.int .u64 b3.Promises, D.int .u64 b3.Accepts]] }] }
noncomputable def proposer_Promise_3 (t41 : Bool) (p : GProp) (c : Config) (m : Msg) (b3 : GProp) : Option GProp := (bif t41 then (proposer_Promise_2 (⟨p.Epoch, p.Ballot, p.Phase, p.Own, m.Accepted, m.Plan, p.Promises, p.Accepts⟩ : GProp) c b3) else (proposer_Promise_2 p c b3))
theorem proposer_Promise_3_ok {t41 : Bool} {p : GProp} {c : Config} {m : Msg} {b3 : GProp} {r : GProp} (h : proposer_Promise_3 t41 p c m b3 = some r) : FinQ E ⟨Try.f9, false, 0⟩ (QW (proposer_Promise_Q r)) (.go (proposer_Promise_3M t41 p c m b3)) := by
  unfold proposer_Promise_3 at h
  refine adv_ok hm 1 _ ?_
  refine p_split h (by kernel_rfl) (fun h1 h => ?_) (fun h1 h => ?_)
  · -- true
    refine adv_ok hm 7 _ ?_
    exact r_cut 88 [] (m' := (proposer_Promise_2M (⟨p.Epoch, p.Ballot, p.Phase, p.Own, m.Accepted, m.Plan, p.Promises, p.Accepts⟩ : GProp) c b3)) (by kernel_rfl) (proposer_Promise_2_ok h)
  · -- false
    refine adv_ok hm 1 _ ?_
    exact r_cut 88 [] (m' := (proposer_Promise_2M p c b3)) (by kernel_rfl) (proposer_Promise_2_ok h)
noncomputable def proposer_Promise_1M (t24 : Bool) (p : GProp) (c : Config) (m : Msg) (b3 : GProp) : M := { td := [It.code (codeAt (bodyOf Try.f9) [1, 0, 1]), It.code (codeAt (bodyOf Try.f9) [1, 1])], fr := [(3, D.ptr 0 0 0), (4, D.ptr 1 0 0), (5, D.ptr 2 0 0), (6, D.ptr 3 0 0), (24, D.bool t24)], st := [some { sz := 30, deep := false, rows := [[D.int .i64 p.Epoch, D.int .i64 p.Ballot, D.int .i64 p.Phase, D.int .i64 p.Own.Epoch, D.int .i64 p.Own.Target, D.int .i64 p.Own.Prev, D.int .i64 p.Own.Spill, D.int .i64 p.Own.Percent, D.int .i64 p.Own.Stamp, D.int .i64 p.Own.Since, D.int .i64 p.Own.Ramped, D.int .u64 p.Own.Up, D.int .u64 p.Own.Sup, D.sl false 1 (List.map (eInt .i64) p.Own.Pen), D.sl false 1 (List.map (eInt .i64) p.Own.Changes), D.int .i64 p.Best, D.int .i64 p.Value.Epoch, D.int .i64 p.Value.Target, D.int .i64 p.Value.Prev, D.int .i64 p.Value.Spill, D.int .i64 p.Value.Percent, D.int .i64 p.Value.Stamp, D.int .i64 p.Value.Since, D.int .i64 p.Value.Ramped, D.int .u64 p.Value.Up, D.int .u64 p.Value.Sup, D.sl false 1 (List.map (eInt .i64) p.Value.Pen), D.sl false 1 (List.map (eInt .i64) p.Value.Changes), D.int .u64 p.Promises, D.int .u64 p.Accepts]] }, some { sz := 30, deep := false, rows := [[D.int .i64 c.F_, D.int .i64 c.Deciders, D.int .i64 c.Targets, D.int .i64 c.Routers, D.int .i64 c.Observers, D.sl false 1 (List.map (eInt .i64) c.Tiers), D.int .i64 c.Every, D.int .i64 c.Wait, D.int .i64 c.Rise, D.int .i64 c.Fall, D.int .i64 c.Fresh, D.int .i64 c.L_, D.int .i64 c.M_, D.int .i64 c.Dwell, D.int .i64 c.D_, D.int .i64 c.W_, D.int .i64 c.B_, D.int .i64 c.Hit, D.int .i64 c.Suppress, D.int .i64 c.Reuse, D.int .i64 c.Half, D.int .i64 c.First, D.int .i64 c.Step, D.int .i64 c.StepTime, D.int .i64 c.S_, D.int .i64 c.Cap, D.int .i64 c.Span, D.int .i64 c.Room, D.int .i64 c.Tries, D.int .i64 c.Retry]] }, some { sz := 26, deep := false, rows := [[D.int .i64 m.Kind, D.int .i64 m.From, D.int .i64 m.To, D.int .i64 m.Epoch, D.int .i64 m.Ballot, D.int .i64 m.Accepted, D.int .i64 m.Nonce, D.int .i64 m.Time, D.int .u64 m.Up, D.int .i64 m.Code, D.bool m.HasPlan, D.int .i64 m.Plan.Epoch, D.int .i64 m.Plan.Target, D.int .i64 m.Plan.Prev, D.int .i64 m.Plan.Spill, D.int .i64 m.Plan.Percent, D.int .i64 m.Plan.Stamp, D.int .i64 m.Plan.Since, D.int .i64 m.Plan.Ramped, D.int .u64 m.Plan.Up, D.int .u64 m.Plan.Sup, D.sl false 1 (List.map (eInt .i64) m.Plan.Pen), D.sl false 1 (List.map (eInt .i64) m.Plan.Changes), D.sl false 1 (List.map (eInt .i64) m.ID), D.sl false 1 (List.map (eInt .u8) m.Session), D.sl false 1 (List.map (eInt .u8) m.Payload)]] }, some { sz := 30, deep := false, rows := [[D.int .i64 b3.Epoch, D.int .i64 b3.Ballot, D.int .i64 b3.Phase, D.int .i64 b3.Own.Epoch, D.int .i64 b3.Own.Target, D.int .i64 b3.Own.Prev, D.int .i64 b3.Own.Spill, D.int .i64 b3.Own.Percent, D.int .i64 b3.Own.Stamp, D.int .i64 b3.Own.Since, D.int .i64 b3.Own.Ramped, D.int .u64 b3.Own.Up, D.int .u64 b3.Own.Sup, D.sl false 1 (List.map (eInt .i64) b3.Own.Pen), D.sl false 1 (List.map (eInt .i64) b3.Own.Changes), D.int .i64 b3.Best, D.int .i64 b3.Value.Epoch, D.int .i64 b3.Value.Target, D.int .i64 b3.Value.Prev, D.int .i64 b3.Value.Spill, D.int .i64 b3.Value.Percent, D.int .i64 b3.Value.Stamp, D.int .i64 b3.Value.Since, D.int .i64 b3.Value.Ramped, D.int .u64 b3.Value.Up, D.int .u64 b3.Value.Sup, D.sl false 1 (List.map (eInt .i64) b3.Value.Pen), D.sl false 1 (List.map (eInt .i64) b3.Value.Changes), D.int .u64 b3.Promises, D.int .u64 b3.Accepts]] }] }
noncomputable def proposer_Promise_1 (t24 : Bool) (p : GProp) (c : Config) (m : Msg) (b3 : GProp) : Option GProp := (bif t24 then (some p) else (bif (!decide ((m.From : Int) < 0)) then (bif m.HasPlan then (proposer_Promise_3 (decide ((m.Accepted : Int) > p.Best)) (⟨p.Epoch, p.Ballot, p.Phase, p.Own, p.Best, p.Value, (orI .u64 p.Promises (shlI .u64 1 m.From)), p.Accepts⟩ : GProp) c m b3) else (proposer_Promise_3 false (⟨p.Epoch, p.Ballot, p.Phase, p.Own, p.Best, p.Value, (orI .u64 p.Promises (shlI .u64 1 m.From)), p.Accepts⟩ : GProp) c m b3)) else none))
theorem proposer_Promise_1_ok {t24 : Bool} {p : GProp} {c : Config} {m : Msg} {b3 : GProp} {r : GProp} (h : proposer_Promise_1 t24 p c m b3 = some r) : FinQ E ⟨Try.f9, false, 0⟩ (QW (proposer_Promise_Q r)) (.go (proposer_Promise_1M t24 p c m b3)) := by
  unfold proposer_Promise_1 at h
  refine adv_ok hm 1 _ ?_
  refine p_split h (by kernel_rfl) (fun h1 h => ?_) (fun h1 h => ?_)
  · -- true
    refine adv_ok hm 10 _ ?_
    obtain rfl := Option.some.inj h
    exact r_retF [] (d := D.agg [D.int .i64 p.Epoch, D.int .i64 p.Ballot, D.int .i64 p.Phase, D.int .i64 p.Own.Epoch, D.int .i64 p.Own.Target, D.int .i64 p.Own.Prev, D.int .i64 p.Own.Spill, D.int .i64 p.Own.Percent, D.int .i64 p.Own.Stamp, D.int .i64 p.Own.Since, D.int .i64 p.Own.Ramped, D.int .u64 p.Own.Up, D.int .u64 p.Own.Sup, D.sl false 1 (List.map (eInt .i64) p.Own.Pen), D.sl false 1 (List.map (eInt .i64) p.Own.Changes), D.int .i64 p.Best, D.int .i64 p.Value.Epoch, D.int .i64 p.Value.Target, D.int .i64 p.Value.Prev, D.int .i64 p.Value.Spill, D.int .i64 p.Value.Percent, D.int .i64 p.Value.Stamp, D.int .i64 p.Value.Since, D.int .i64 p.Value.Ramped, D.int .u64 p.Value.Up, D.int .u64 p.Value.Sup, D.sl false 1 (List.map (eInt .i64) p.Value.Pen), D.sl false 1 (List.map (eInt .i64) p.Value.Changes), D.int .u64 p.Promises, D.int .u64 p.Accepts]) (s := []) (by kernel_rfl) ⟨rfl, rfl⟩
  · -- false
    refine adv_ok hm 6 _ ?_
    refine p_need h (by kernel_rfl) (fun h2 h => ?_)
    refine adv_ok hm 9 _ ?_
    refine p_split h (by kernel_rfl) (fun h3 h => ?_) (fun h3 h => ?_)
    · -- true
      refine adv_ok hm 13 _ ?_
      exact r_cut 2199023255672 [] (m' := (proposer_Promise_3M (decide ((m.Accepted : Int) > p.Best)) (⟨p.Epoch, p.Ballot, p.Phase, p.Own, p.Best, p.Value, (orI .u64 p.Promises (shlI .u64 1 m.From)), p.Accepts⟩ : GProp) c m b3)) (by kernel_rfl) (proposer_Promise_3_ok h)
    · -- false
      refine adv_ok hm 11 _ ?_
      exact r_cut 2199023255672 [] (m' := (proposer_Promise_3M false (⟨p.Epoch, p.Ballot, p.Phase, p.Own, p.Best, p.Value, (orI .u64 p.Promises (shlI .u64 1 m.From)), p.Accepts⟩ : GProp) c m b3)) (by kernel_rfl) (proposer_Promise_3_ok h)
noncomputable def proposer_Promise (p : GProp) (c : Config) (m : Msg) : Option GProp := ((proposer_to p c).bind fun y1 => ((proposer_to_1 m 5 1 y1.1 y1.2).bind fun y2 => (bif (!y2) then (proposer_Promise_1 true p c m (⟨0, 0, 0, (⟨0, 0, 0, 0, 0, 0, 0, 0, 0, 0, [], []⟩ : Plan), 0, (⟨0, 0, 0, 0, 0, 0, 0, 0, 0, 0, [], []⟩ : Plan), 0, 0⟩ : GProp)) else (bif m.HasPlan then (proposer_Promise_1 ((m.Plan.Epoch : Int) != p.Epoch) p c m (⟨0, 0, 0, (⟨0, 0, 0, 0, 0, 0, 0, 0, 0, 0, [], []⟩ : Plan), 0, (⟨0, 0, 0, 0, 0, 0, 0, 0, 0, 0, [], []⟩ : Plan), 0, 0⟩ : GProp)) else (proposer_Promise_1 false p c m (⟨0, 0, 0, (⟨0, 0, 0, 0, 0, 0, 0, 0, 0, 0, [], []⟩ : Plan), 0, (⟨0, 0, 0, 0, 0, 0, 0, 0, 0, 0, [], []⟩ : Plan), 0, 0⟩ : GProp))))))
theorem proposer_Promise_ok {p : GProp} {c : Config} {m : Msg} {r : GProp} (h : proposer_Promise p c m = some r) : Sound E 9 [D.agg [D.int .i64 p.Epoch, D.int .i64 p.Ballot, D.int .i64 p.Phase, D.int .i64 p.Own.Epoch, D.int .i64 p.Own.Target, D.int .i64 p.Own.Prev, D.int .i64 p.Own.Spill, D.int .i64 p.Own.Percent, D.int .i64 p.Own.Stamp, D.int .i64 p.Own.Since, D.int .i64 p.Own.Ramped, D.int .u64 p.Own.Up, D.int .u64 p.Own.Sup, D.sl false 1 (List.map (eInt .i64) p.Own.Pen), D.sl false 1 (List.map (eInt .i64) p.Own.Changes), D.int .i64 p.Best, D.int .i64 p.Value.Epoch, D.int .i64 p.Value.Target, D.int .i64 p.Value.Prev, D.int .i64 p.Value.Spill, D.int .i64 p.Value.Percent, D.int .i64 p.Value.Stamp, D.int .i64 p.Value.Since, D.int .i64 p.Value.Ramped, D.int .u64 p.Value.Up, D.int .u64 p.Value.Sup, D.sl false 1 (List.map (eInt .i64) p.Value.Pen), D.sl false 1 (List.map (eInt .i64) p.Value.Changes), D.int .u64 p.Promises, D.int .u64 p.Accepts], D.agg [D.int .i64 c.F_, D.int .i64 c.Deciders, D.int .i64 c.Targets, D.int .i64 c.Routers, D.int .i64 c.Observers, D.sl false 1 (List.map (eInt .i64) c.Tiers), D.int .i64 c.Every, D.int .i64 c.Wait, D.int .i64 c.Rise, D.int .i64 c.Fall, D.int .i64 c.Fresh, D.int .i64 c.L_, D.int .i64 c.M_, D.int .i64 c.Dwell, D.int .i64 c.D_, D.int .i64 c.W_, D.int .i64 c.B_, D.int .i64 c.Hit, D.int .i64 c.Suppress, D.int .i64 c.Reuse, D.int .i64 c.Half, D.int .i64 c.First, D.int .i64 c.Step, D.int .i64 c.StepTime, D.int .i64 c.S_, D.int .i64 c.Cap, D.int .i64 c.Span, D.int .i64 c.Room, D.int .i64 c.Tries, D.int .i64 c.Retry], D.agg [D.int .i64 m.Kind, D.int .i64 m.From, D.int .i64 m.To, D.int .i64 m.Epoch, D.int .i64 m.Ballot, D.int .i64 m.Accepted, D.int .i64 m.Nonce, D.int .i64 m.Time, D.int .u64 m.Up, D.int .i64 m.Code, D.bool m.HasPlan, D.int .i64 m.Plan.Epoch, D.int .i64 m.Plan.Target, D.int .i64 m.Plan.Prev, D.int .i64 m.Plan.Spill, D.int .i64 m.Plan.Percent, D.int .i64 m.Plan.Stamp, D.int .i64 m.Plan.Since, D.int .i64 m.Plan.Ramped, D.int .u64 m.Plan.Up, D.int .u64 m.Plan.Sup, D.sl false 1 (List.map (eInt .i64) m.Plan.Pen), D.sl false 1 (List.map (eInt .i64) m.Plan.Changes), D.sl false 1 (List.map (eInt .i64) m.ID), D.sl false 1 (List.map (eInt .u8) m.Session), D.sl false 1 (List.map (eInt .u8) m.Payload)]] [] (proposer_Promise_Q r) := by
  refine sound_ofW (m := ⟨[.code (bodyOf Try.f9)], [(0, D.agg [D.int .i64 p.Epoch, D.int .i64 p.Ballot, D.int .i64 p.Phase, D.int .i64 p.Own.Epoch, D.int .i64 p.Own.Target, D.int .i64 p.Own.Prev, D.int .i64 p.Own.Spill, D.int .i64 p.Own.Percent, D.int .i64 p.Own.Stamp, D.int .i64 p.Own.Since, D.int .i64 p.Own.Ramped, D.int .u64 p.Own.Up, D.int .u64 p.Own.Sup, D.sl false 1 (List.map (eInt .i64) p.Own.Pen), D.sl false 1 (List.map (eInt .i64) p.Own.Changes), D.int .i64 p.Best, D.int .i64 p.Value.Epoch, D.int .i64 p.Value.Target, D.int .i64 p.Value.Prev, D.int .i64 p.Value.Spill, D.int .i64 p.Value.Percent, D.int .i64 p.Value.Stamp, D.int .i64 p.Value.Since, D.int .i64 p.Value.Ramped, D.int .u64 p.Value.Up, D.int .u64 p.Value.Sup, D.sl false 1 (List.map (eInt .i64) p.Value.Pen), D.sl false 1 (List.map (eInt .i64) p.Value.Changes), D.int .u64 p.Promises, D.int .u64 p.Accepts]), (1, D.agg [D.int .i64 c.F_, D.int .i64 c.Deciders, D.int .i64 c.Targets, D.int .i64 c.Routers, D.int .i64 c.Observers, D.sl false 1 (List.map (eInt .i64) c.Tiers), D.int .i64 c.Every, D.int .i64 c.Wait, D.int .i64 c.Rise, D.int .i64 c.Fall, D.int .i64 c.Fresh, D.int .i64 c.L_, D.int .i64 c.M_, D.int .i64 c.Dwell, D.int .i64 c.D_, D.int .i64 c.W_, D.int .i64 c.B_, D.int .i64 c.Hit, D.int .i64 c.Suppress, D.int .i64 c.Reuse, D.int .i64 c.Half, D.int .i64 c.First, D.int .i64 c.Step, D.int .i64 c.StepTime, D.int .i64 c.S_, D.int .i64 c.Cap, D.int .i64 c.Span, D.int .i64 c.Room, D.int .i64 c.Tries, D.int .i64 c.Retry]), (2, D.agg [D.int .i64 m.Kind, D.int .i64 m.From, D.int .i64 m.To, D.int .i64 m.Epoch, D.int .i64 m.Ballot, D.int .i64 m.Accepted, D.int .i64 m.Nonce, D.int .i64 m.Time, D.int .u64 m.Up, D.int .i64 m.Code, D.bool m.HasPlan, D.int .i64 m.Plan.Epoch, D.int .i64 m.Plan.Target, D.int .i64 m.Plan.Prev, D.int .i64 m.Plan.Spill, D.int .i64 m.Plan.Percent, D.int .i64 m.Plan.Stamp, D.int .i64 m.Plan.Since, D.int .i64 m.Plan.Ramped, D.int .u64 m.Plan.Up, D.int .u64 m.Plan.Sup, D.sl false 1 (List.map (eInt .i64) m.Plan.Pen), D.sl false 1 (List.map (eInt .i64) m.Plan.Changes), D.sl false 1 (List.map (eInt .i64) m.ID), D.sl false 1 (List.map (eInt .u8) m.Session), D.sl false 1 (List.map (eInt .u8) m.Payload)])], []⟩) (fn := Try.f9) (by kernel_rfl) (by kernel_rfl) ?_
  show FinQ E ⟨Try.f9, false, 0⟩ (QW (proposer_Promise_Q r)) _
  unfold proposer_Promise at h
  refine adv_ok hm 12 _ ?_
  have ok1 := fun (y : GProp × Config) (hy : proposer_to p c = some y) => proposer_to_ok hy
  refine p_callDE [] (args1 := [D.agg [D.int .i64 p.Epoch, D.int .i64 p.Ballot, D.int .i64 p.Phase, D.int .i64 p.Own.Epoch, D.int .i64 p.Own.Target, D.int .i64 p.Own.Prev, D.int .i64 p.Own.Spill, D.int .i64 p.Own.Percent, D.int .i64 p.Own.Stamp, D.int .i64 p.Own.Since, D.int .i64 p.Own.Ramped, D.int .u64 p.Own.Up, D.int .u64 p.Own.Sup, D.sl false 1 (List.map (eInt .i64) p.Own.Pen), D.sl false 1 (List.map (eInt .i64) p.Own.Changes), D.int .i64 p.Best, D.int .i64 p.Value.Epoch, D.int .i64 p.Value.Target, D.int .i64 p.Value.Prev, D.int .i64 p.Value.Spill, D.int .i64 p.Value.Percent, D.int .i64 p.Value.Stamp, D.int .i64 p.Value.Since, D.int .i64 p.Value.Ramped, D.int .u64 p.Value.Up, D.int .u64 p.Value.Sup, D.sl false 1 (List.map (eInt .i64) p.Value.Pen), D.sl false 1 (List.map (eInt .i64) p.Value.Changes), D.int .u64 p.Promises, D.int .u64 p.Accepts], D.agg [D.int .i64 c.F_, D.int .i64 c.Deciders, D.int .i64 c.Targets, D.int .i64 c.Routers, D.int .i64 c.Observers, D.sl false 1 (List.map (eInt .i64) c.Tiers), D.int .i64 c.Every, D.int .i64 c.Wait, D.int .i64 c.Rise, D.int .i64 c.Fall, D.int .i64 c.Fresh, D.int .i64 c.L_, D.int .i64 c.M_, D.int .i64 c.Dwell, D.int .i64 c.D_, D.int .i64 c.W_, D.int .i64 c.B_, D.int .i64 c.Hit, D.int .i64 c.Suppress, D.int .i64 c.Reuse, D.int .i64 c.Half, D.int .i64 c.First, D.int .i64 c.Step, D.int .i64 c.StepTime, D.int .i64 c.S_, D.int .i64 c.Cap, D.int .i64 c.Span, D.int .i64 c.Room, D.int .i64 c.Tries, D.int .i64 c.Retry]]) (args := [D.agg [D.int .i64 p.Epoch, D.int .i64 p.Ballot, D.int .i64 p.Phase, D.int .i64 p.Own.Epoch, D.int .i64 p.Own.Target, D.int .i64 p.Own.Prev, D.int .i64 p.Own.Spill, D.int .i64 p.Own.Percent, D.int .i64 p.Own.Stamp, D.int .i64 p.Own.Since, D.int .i64 p.Own.Ramped, D.int .u64 p.Own.Up, D.int .u64 p.Own.Sup, D.sl false 1 (List.map (eInt .i64) p.Own.Pen), D.sl false 1 (List.map (eInt .i64) p.Own.Changes), D.int .i64 p.Best, D.int .i64 p.Value.Epoch, D.int .i64 p.Value.Target, D.int .i64 p.Value.Prev, D.int .i64 p.Value.Spill, D.int .i64 p.Value.Percent, D.int .i64 p.Value.Stamp, D.int .i64 p.Value.Since, D.int .i64 p.Value.Ramped, D.int .u64 p.Value.Up, D.int .u64 p.Value.Sup, D.sl false 1 (List.map (eInt .i64) p.Value.Pen), D.sl false 1 (List.map (eInt .i64) p.Value.Changes), D.int .u64 p.Promises, D.int .u64 p.Accepts], D.agg [D.int .i64 c.F_, D.int .i64 c.Deciders, D.int .i64 c.Targets, D.int .i64 c.Routers, D.int .i64 c.Observers, D.sl false 1 (List.map (eInt .i64) c.Tiers), D.int .i64 c.Every, D.int .i64 c.Wait, D.int .i64 c.Rise, D.int .i64 c.Fall, D.int .i64 c.Fresh, D.int .i64 c.L_, D.int .i64 c.M_, D.int .i64 c.Dwell, D.int .i64 c.D_, D.int .i64 c.W_, D.int .i64 c.B_, D.int .i64 c.Hit, D.int .i64 c.Suppress, D.int .i64 c.Reuse, D.int .i64 c.Half, D.int .i64 c.First, D.int .i64 c.Step, D.int .i64 c.StepTime, D.int .i64 c.S_, D.int .i64 c.Cap, D.int .i64 c.Span, D.int .i64 c.Room, D.int .i64 c.Tries, D.int .i64 c.Retry]]) (fun y1 => D.fn 25 [] [D.iptr 30 [[D.int .i64 y1.1.Epoch, D.int .i64 y1.1.Ballot, D.int .i64 y1.1.Phase, D.int .i64 y1.1.Own.Epoch, D.int .i64 y1.1.Own.Target, D.int .i64 y1.1.Own.Prev, D.int .i64 y1.1.Own.Spill, D.int .i64 y1.1.Own.Percent, D.int .i64 y1.1.Own.Stamp, D.int .i64 y1.1.Own.Since, D.int .i64 y1.1.Own.Ramped, D.int .u64 y1.1.Own.Up, D.int .u64 y1.1.Own.Sup, D.sl false 1 (List.map (eInt .i64) y1.1.Own.Pen), D.sl false 1 (List.map (eInt .i64) y1.1.Own.Changes), D.int .i64 y1.1.Best, D.int .i64 y1.1.Value.Epoch, D.int .i64 y1.1.Value.Target, D.int .i64 y1.1.Value.Prev, D.int .i64 y1.1.Value.Spill, D.int .i64 y1.1.Value.Percent, D.int .i64 y1.1.Value.Stamp, D.int .i64 y1.1.Value.Since, D.int .i64 y1.1.Value.Ramped, D.int .u64 y1.1.Value.Up, D.int .u64 y1.1.Value.Sup, D.sl false 1 (List.map (eInt .i64) y1.1.Value.Pen), D.sl false 1 (List.map (eInt .i64) y1.1.Value.Changes), D.int .u64 y1.1.Promises, D.int .u64 y1.1.Accepts]] 0 0, D.iptr 30 [[D.int .i64 y1.2.F_, D.int .i64 y1.2.Deciders, D.int .i64 y1.2.Targets, D.int .i64 y1.2.Routers, D.int .i64 y1.2.Observers, D.sl false 1 (List.map (eInt .i64) y1.2.Tiers), D.int .i64 y1.2.Every, D.int .i64 y1.2.Wait, D.int .i64 y1.2.Rise, D.int .i64 y1.2.Fall, D.int .i64 y1.2.Fresh, D.int .i64 y1.2.L_, D.int .i64 y1.2.M_, D.int .i64 y1.2.Dwell, D.int .i64 y1.2.D_, D.int .i64 y1.2.W_, D.int .i64 y1.2.B_, D.int .i64 y1.2.Hit, D.int .i64 y1.2.Suppress, D.int .i64 y1.2.Reuse, D.int .i64 y1.2.Half, D.int .i64 y1.2.First, D.int .i64 y1.2.Step, D.int .i64 y1.2.StepTime, D.int .i64 y1.2.S_, D.int .i64 y1.2.Cap, D.int .i64 y1.2.Span, D.int .i64 y1.2.Room, D.int .i64 y1.2.Tries, D.int .i64 y1.2.Retry]] 0 0]) h (by kernel_rfl) rfl ok1 (fun y1 h1 h => ?_)
  refine adv_ok hm 1 _ ?_
  have ok2 := fun (y : Bool) (hy : proposer_to_1 m 5 1 y1.1 y1.2 = some y) => proposer_to_1_ok hy
  refine p_callDE [] (args1 := [D.agg [D.int .i64 m.Kind, D.int .i64 m.From, D.int .i64 m.To, D.int .i64 m.Epoch, D.int .i64 m.Ballot, D.int .i64 m.Accepted, D.int .i64 m.Nonce, D.int .i64 m.Time, D.int .u64 m.Up, D.int .i64 m.Code, D.bool m.HasPlan, D.int .i64 m.Plan.Epoch, D.int .i64 m.Plan.Target, D.int .i64 m.Plan.Prev, D.int .i64 m.Plan.Spill, D.int .i64 m.Plan.Percent, D.int .i64 m.Plan.Stamp, D.int .i64 m.Plan.Since, D.int .i64 m.Plan.Ramped, D.int .u64 m.Plan.Up, D.int .u64 m.Plan.Sup, D.sl false 1 (List.map (eInt .i64) m.Plan.Pen), D.sl false 1 (List.map (eInt .i64) m.Plan.Changes), D.sl false 1 (List.map (eInt .i64) m.ID), D.sl false 1 (List.map (eInt .u8) m.Session), D.sl false 1 (List.map (eInt .u8) m.Payload)], D.int .i64 5, D.int .i64 1, D.iptr 30 [[D.int .i64 y1.1.Epoch, D.int .i64 y1.1.Ballot, D.int .i64 y1.1.Phase, D.int .i64 y1.1.Own.Epoch, D.int .i64 y1.1.Own.Target, D.int .i64 y1.1.Own.Prev, D.int .i64 y1.1.Own.Spill, D.int .i64 y1.1.Own.Percent, D.int .i64 y1.1.Own.Stamp, D.int .i64 y1.1.Own.Since, D.int .i64 y1.1.Own.Ramped, D.int .u64 y1.1.Own.Up, D.int .u64 y1.1.Own.Sup, D.sl false 1 (List.map (eInt .i64) y1.1.Own.Pen), D.sl false 1 (List.map (eInt .i64) y1.1.Own.Changes), D.int .i64 y1.1.Best, D.int .i64 y1.1.Value.Epoch, D.int .i64 y1.1.Value.Target, D.int .i64 y1.1.Value.Prev, D.int .i64 y1.1.Value.Spill, D.int .i64 y1.1.Value.Percent, D.int .i64 y1.1.Value.Stamp, D.int .i64 y1.1.Value.Since, D.int .i64 y1.1.Value.Ramped, D.int .u64 y1.1.Value.Up, D.int .u64 y1.1.Value.Sup, D.sl false 1 (List.map (eInt .i64) y1.1.Value.Pen), D.sl false 1 (List.map (eInt .i64) y1.1.Value.Changes), D.int .u64 y1.1.Promises, D.int .u64 y1.1.Accepts]] 0 0, D.iptr 30 [[D.int .i64 y1.2.F_, D.int .i64 y1.2.Deciders, D.int .i64 y1.2.Targets, D.int .i64 y1.2.Routers, D.int .i64 y1.2.Observers, D.sl false 1 (List.map (eInt .i64) y1.2.Tiers), D.int .i64 y1.2.Every, D.int .i64 y1.2.Wait, D.int .i64 y1.2.Rise, D.int .i64 y1.2.Fall, D.int .i64 y1.2.Fresh, D.int .i64 y1.2.L_, D.int .i64 y1.2.M_, D.int .i64 y1.2.Dwell, D.int .i64 y1.2.D_, D.int .i64 y1.2.W_, D.int .i64 y1.2.B_, D.int .i64 y1.2.Hit, D.int .i64 y1.2.Suppress, D.int .i64 y1.2.Reuse, D.int .i64 y1.2.Half, D.int .i64 y1.2.First, D.int .i64 y1.2.Step, D.int .i64 y1.2.StepTime, D.int .i64 y1.2.S_, D.int .i64 y1.2.Cap, D.int .i64 y1.2.Span, D.int .i64 y1.2.Room, D.int .i64 y1.2.Tries, D.int .i64 y1.2.Retry]] 0 0]) (args := [D.agg [D.int .i64 m.Kind, D.int .i64 m.From, D.int .i64 m.To, D.int .i64 m.Epoch, D.int .i64 m.Ballot, D.int .i64 m.Accepted, D.int .i64 m.Nonce, D.int .i64 m.Time, D.int .u64 m.Up, D.int .i64 m.Code, D.bool m.HasPlan, D.int .i64 m.Plan.Epoch, D.int .i64 m.Plan.Target, D.int .i64 m.Plan.Prev, D.int .i64 m.Plan.Spill, D.int .i64 m.Plan.Percent, D.int .i64 m.Plan.Stamp, D.int .i64 m.Plan.Since, D.int .i64 m.Plan.Ramped, D.int .u64 m.Plan.Up, D.int .u64 m.Plan.Sup, D.sl false 1 (List.map (eInt .i64) m.Plan.Pen), D.sl false 1 (List.map (eInt .i64) m.Plan.Changes), D.sl false 1 (List.map (eInt .i64) m.ID), D.sl false 1 (List.map (eInt .u8) m.Session), D.sl false 1 (List.map (eInt .u8) m.Payload)], D.int .i64 5, D.int .i64 1, D.iptr 30 [[D.int .i64 y1.1.Epoch, D.int .i64 y1.1.Ballot, D.int .i64 y1.1.Phase, D.int .i64 y1.1.Own.Epoch, D.int .i64 y1.1.Own.Target, D.int .i64 y1.1.Own.Prev, D.int .i64 y1.1.Own.Spill, D.int .i64 y1.1.Own.Percent, D.int .i64 y1.1.Own.Stamp, D.int .i64 y1.1.Own.Since, D.int .i64 y1.1.Own.Ramped, D.int .u64 y1.1.Own.Up, D.int .u64 y1.1.Own.Sup, D.sl false 1 (List.map (eInt .i64) y1.1.Own.Pen), D.sl false 1 (List.map (eInt .i64) y1.1.Own.Changes), D.int .i64 y1.1.Best, D.int .i64 y1.1.Value.Epoch, D.int .i64 y1.1.Value.Target, D.int .i64 y1.1.Value.Prev, D.int .i64 y1.1.Value.Spill, D.int .i64 y1.1.Value.Percent, D.int .i64 y1.1.Value.Stamp, D.int .i64 y1.1.Value.Since, D.int .i64 y1.1.Value.Ramped, D.int .u64 y1.1.Value.Up, D.int .u64 y1.1.Value.Sup, D.sl false 1 (List.map (eInt .i64) y1.1.Value.Pen), D.sl false 1 (List.map (eInt .i64) y1.1.Value.Changes), D.int .u64 y1.1.Promises, D.int .u64 y1.1.Accepts]] 0 0, D.iptr 30 [[D.int .i64 y1.2.F_, D.int .i64 y1.2.Deciders, D.int .i64 y1.2.Targets, D.int .i64 y1.2.Routers, D.int .i64 y1.2.Observers, D.sl false 1 (List.map (eInt .i64) y1.2.Tiers), D.int .i64 y1.2.Every, D.int .i64 y1.2.Wait, D.int .i64 y1.2.Rise, D.int .i64 y1.2.Fall, D.int .i64 y1.2.Fresh, D.int .i64 y1.2.L_, D.int .i64 y1.2.M_, D.int .i64 y1.2.Dwell, D.int .i64 y1.2.D_, D.int .i64 y1.2.W_, D.int .i64 y1.2.B_, D.int .i64 y1.2.Hit, D.int .i64 y1.2.Suppress, D.int .i64 y1.2.Reuse, D.int .i64 y1.2.Half, D.int .i64 y1.2.First, D.int .i64 y1.2.Step, D.int .i64 y1.2.StepTime, D.int .i64 y1.2.S_, D.int .i64 y1.2.Cap, D.int .i64 y1.2.Span, D.int .i64 y1.2.Room, D.int .i64 y1.2.Tries, D.int .i64 y1.2.Retry]] 0 0]) (fun y2 => D.bool y2) h (by kernel_rfl) rfl ok2 (fun y2 h2 h => ?_)
  refine p_split h (by kernel_rfl) (fun h3 h => ?_) (fun h3 h => ?_)
  · -- true
    refine adv_ok hm 4 _ ?_
    exact r_cut 16777336 [.blk 3 [some 1, some 1, some 1, some 1]] (m' := (proposer_Promise_1M true p c m (⟨0, 0, 0, (⟨0, 0, 0, 0, 0, 0, 0, 0, 0, 0, [], []⟩ : Plan), 0, (⟨0, 0, 0, 0, 0, 0, 0, 0, 0, 0, [], []⟩ : Plan), 0, 0⟩ : GProp))) (by kernel_rfl) (proposer_Promise_1_ok h)
  · -- false
    refine adv_ok hm 3 _ ?_
    refine p_split h (by kernel_rfl) (fun h4 h => ?_) (fun h4 h => ?_)
    · -- true
      refine adv_ok hm 10 _ ?_
      exact r_cut 16777336 [.blk 3 [some 1, some 1, some 1, some 1]] (m' := (proposer_Promise_1M ((m.Plan.Epoch : Int) != p.Epoch) p c m (⟨0, 0, 0, (⟨0, 0, 0, 0, 0, 0, 0, 0, 0, 0, [], []⟩ : Plan), 0, (⟨0, 0, 0, 0, 0, 0, 0, 0, 0, 0, [], []⟩ : Plan), 0, 0⟩ : GProp))) (by kernel_rfl) (proposer_Promise_1_ok h)
    · -- false
      refine adv_ok hm 8 _ ?_
      exact r_cut 16777336 [.blk 3 [some 1, some 1, some 1, some 1]] (m' := (proposer_Promise_1M false p c m (⟨0, 0, 0, (⟨0, 0, 0, 0, 0, 0, 0, 0, 0, 0, [], []⟩ : Plan), 0, (⟨0, 0, 0, 0, 0, 0, 0, 0, 0, 0, [], []⟩ : Plan), 0, 0⟩ : GProp))) (by kernel_rfl) (proposer_Promise_1_ok h)
end Go.RX.L

set_option linter.unusedSimpArgs false
set_option linter.unusedVariables false
set_option maxRecDepth 100000
set_option maxHeartbeats 4000000
namespace Go.RX.L
open Go Go.RX Go.Proofs
def proposer_Accepted_Q (y : GProp) (d : D) (s : Sto) : Prop := d = D.agg [D.int .i64 y.Epoch, D.int .i64 y.Ballot, D.int .i64 y.Phase, D.int .i64 y.Own.Epoch, D.int .i64 y.Own.Target, D.int .i64 y.Own.Prev, D.int .i64 y.Own.Spill, D.int .i64 y.Own.Percent, D.int .i64 y.Own.Stamp, D.int .i64 y.Own.Since, D.int .i64 y.Own.Ramped, D.int .u64 y.Own.Up, D.int .u64 y.Own.Sup, D.sl false 1 (List.map (eInt .i64) y.Own.Pen), D.sl false 1 (List.map (eInt .i64) y.Own.Changes), D.int .i64 y.Best, D.int .i64 y.Value.Epoch, D.int .i64 y.Value.Target, D.int .i64 y.Value.Prev, D.int .i64 y.Value.Spill, D.int .i64 y.Value.Percent, D.int .i64 y.Value.Stamp, D.int .i64 y.Value.Since, D.int .i64 y.Value.Ramped, D.int .u64 y.Value.Up, D.int .u64 y.Value.Sup, D.sl false 1 (List.map (eInt .i64) y.Value.Pen), D.sl false 1 (List.map (eInt .i64) y.Value.Changes), D.int .u64 y.Promises, D.int .u64 y.Accepts] ∧ s = []
noncomputable def proposer_Accepted (p : GProp) (c : Config) (m : Msg) : Option GProp := ((proposer_to p c).bind fun y1 => ((proposer_to_1 m 8 2 y1.1 y1.2).bind fun y2 => (bif (!y2) then (some p) else (bif (!decide ((m.From : Int) < 0)) then ((proposer_Most c (orI .u64 p.Accepts (shlI .u64 1 m.From))).bind fun y5 => (bif y5 then (some (⟨p.Epoch, p.Ballot, 3, p.Own, p.Best, p.Value, p.Promises, (orI .u64 p.Accepts (shlI .u64 1 m.From))⟩ : GProp)) else (some (⟨p.Epoch, p.Ballot, p.Phase, p.Own, p.Best, p.Value, p.Promises, (orI .u64 p.Accepts (shlI .u64 1 m.From))⟩ : GProp)))) else none))))
theorem proposer_Accepted_ok {p : GProp} {c : Config} {m : Msg} {r : GProp} (h : proposer_Accepted p c m = some r) : Sound E 14 [D.agg [D.int .i64 p.Epoch, D.int .i64 p.Ballot, D.int .i64 p.Phase, D.int .i64 p.Own.Epoch, D.int .i64 p.Own.Target, D.int .i64 p.Own.Prev, D.int .i64 p.Own.Spill, D.int .i64 p.Own.Percent, D.int .i64 p.Own.Stamp, D.int .i64 p.Own.Since, D.int .i64 p.Own.Ramped, D.int .u64 p.Own.Up, D.int .u64 p.Own.Sup, D.sl false 1 (List.map (eInt .i64) p.Own.Pen), D.sl false 1 (List.map (eInt .i64) p.Own.Changes), D.int .i64 p.Best, D.int .i64 p.Value.Epoch, D.int .i64 p.Value.Target, D.int .i64 p.Value.Prev, D.int .i64 p.Value.Spill, D.int .i64 p.Value.Percent, D.int .i64 p.Value.Stamp, D.int .i64 p.Value.Since, D.int .i64 p.Value.Ramped, D.int .u64 p.Value.Up, D.int .u64 p.Value.Sup, D.sl false 1 (List.map (eInt .i64) p.Value.Pen), D.sl false 1 (List.map (eInt .i64) p.Value.Changes), D.int .u64 p.Promises, D.int .u64 p.Accepts], D.agg [D.int .i64 c.F_, D.int .i64 c.Deciders, D.int .i64 c.Targets, D.int .i64 c.Routers, D.int .i64 c.Observers, D.sl false 1 (List.map (eInt .i64) c.Tiers), D.int .i64 c.Every, D.int .i64 c.Wait, D.int .i64 c.Rise, D.int .i64 c.Fall, D.int .i64 c.Fresh, D.int .i64 c.L_, D.int .i64 c.M_, D.int .i64 c.Dwell, D.int .i64 c.D_, D.int .i64 c.W_, D.int .i64 c.B_, D.int .i64 c.Hit, D.int .i64 c.Suppress, D.int .i64 c.Reuse, D.int .i64 c.Half, D.int .i64 c.First, D.int .i64 c.Step, D.int .i64 c.StepTime, D.int .i64 c.S_, D.int .i64 c.Cap, D.int .i64 c.Span, D.int .i64 c.Room, D.int .i64 c.Tries, D.int .i64 c.Retry], D.agg [D.int .i64 m.Kind, D.int .i64 m.From, D.int .i64 m.To, D.int .i64 m.Epoch, D.int .i64 m.Ballot, D.int .i64 m.Accepted, D.int .i64 m.Nonce, D.int .i64 m.Time, D.int .u64 m.Up, D.int .i64 m.Code, D.bool m.HasPlan, D.int .i64 m.Plan.Epoch, D.int .i64 m.Plan.Target, D.int .i64 m.Plan.Prev, D.int .i64 m.Plan.Spill, D.int .i64 m.Plan.Percent, D.int .i64 m.Plan.Stamp, D.int .i64 m.Plan.Since, D.int .i64 m.Plan.Ramped, D.int .u64 m.Plan.Up, D.int .u64 m.Plan.Sup, D.sl false 1 (List.map (eInt .i64) m.Plan.Pen), D.sl false 1 (List.map (eInt .i64) m.Plan.Changes), D.sl false 1 (List.map (eInt .i64) m.ID), D.sl false 1 (List.map (eInt .u8) m.Session), D.sl false 1 (List.map (eInt .u8) m.Payload)]] [] (proposer_Accepted_Q r) := by
  refine sound_ofW (m := ⟨[.code (bodyOf Try.f14)], [(0, D.agg [D.int .i64 p.Epoch, D.int .i64 p.Ballot, D.int .i64 p.Phase, D.int .i64 p.Own.Epoch, D.int .i64 p.Own.Target, D.int .i64 p.Own.Prev, D.int .i64 p.Own.Spill, D.int .i64 p.Own.Percent, D.int .i64 p.Own.Stamp, D.int .i64 p.Own.Since, D.int .i64 p.Own.Ramped, D.int .u64 p.Own.Up, D.int .u64 p.Own.Sup, D.sl false 1 (List.map (eInt .i64) p.Own.Pen), D.sl false 1 (List.map (eInt .i64) p.Own.Changes), D.int .i64 p.Best, D.int .i64 p.Value.Epoch, D.int .i64 p.Value.Target, D.int .i64 p.Value.Prev, D.int .i64 p.Value.Spill, D.int .i64 p.Value.Percent, D.int .i64 p.Value.Stamp, D.int .i64 p.Value.Since, D.int .i64 p.Value.Ramped, D.int .u64 p.Value.Up, D.int .u64 p.Value.Sup, D.sl false 1 (List.map (eInt .i64) p.Value.Pen), D.sl false 1 (List.map (eInt .i64) p.Value.Changes), D.int .u64 p.Promises, D.int .u64 p.Accepts]), (1, D.agg [D.int .i64 c.F_, D.int .i64 c.Deciders, D.int .i64 c.Targets, D.int .i64 c.Routers, D.int .i64 c.Observers, D.sl false 1 (List.map (eInt .i64) c.Tiers), D.int .i64 c.Every, D.int .i64 c.Wait, D.int .i64 c.Rise, D.int .i64 c.Fall, D.int .i64 c.Fresh, D.int .i64 c.L_, D.int .i64 c.M_, D.int .i64 c.Dwell, D.int .i64 c.D_, D.int .i64 c.W_, D.int .i64 c.B_, D.int .i64 c.Hit, D.int .i64 c.Suppress, D.int .i64 c.Reuse, D.int .i64 c.Half, D.int .i64 c.First, D.int .i64 c.Step, D.int .i64 c.StepTime, D.int .i64 c.S_, D.int .i64 c.Cap, D.int .i64 c.Span, D.int .i64 c.Room, D.int .i64 c.Tries, D.int .i64 c.Retry]), (2, D.agg [D.int .i64 m.Kind, D.int .i64 m.From, D.int .i64 m.To, D.int .i64 m.Epoch, D.int .i64 m.Ballot, D.int .i64 m.Accepted, D.int .i64 m.Nonce, D.int .i64 m.Time, D.int .u64 m.Up, D.int .i64 m.Code, D.bool m.HasPlan, D.int .i64 m.Plan.Epoch, D.int .i64 m.Plan.Target, D.int .i64 m.Plan.Prev, D.int .i64 m.Plan.Spill, D.int .i64 m.Plan.Percent, D.int .i64 m.Plan.Stamp, D.int .i64 m.Plan.Since, D.int .i64 m.Plan.Ramped, D.int .u64 m.Plan.Up, D.int .u64 m.Plan.Sup, D.sl false 1 (List.map (eInt .i64) m.Plan.Pen), D.sl false 1 (List.map (eInt .i64) m.Plan.Changes), D.sl false 1 (List.map (eInt .i64) m.ID), D.sl false 1 (List.map (eInt .u8) m.Session), D.sl false 1 (List.map (eInt .u8) m.Payload)])], []⟩) (fn := Try.f14) (by kernel_rfl) (by kernel_rfl) ?_
  show FinQ E ⟨Try.f14, false, 0⟩ (QW (proposer_Accepted_Q r)) _
  unfold proposer_Accepted at h
  refine adv_ok hm 12 _ ?_
  have ok1 := fun (y : GProp × Config) (hy : proposer_to p c = some y) => proposer_to_ok hy
  refine p_callDE [] (args1 := [D.agg [D.int .i64 p.Epoch, D.int .i64 p.Ballot, D.int .i64 p.Phase, D.int .i64 p.Own.Epoch, D.int .i64 p.Own.Target, D.int .i64 p.Own.Prev, D.int .i64 p.Own.Spill, D.int .i64 p.Own.Percent, D.int .i64 p.Own.Stamp, D.int .i64 p.Own.Since, D.int .i64 p.Own.Ramped, D.int .u64 p.Own.Up, D.int .u64 p.Own.Sup, D.sl false 1 (List.map (eInt .i64) p.Own.Pen), D.sl false 1 (List.map (eInt .i64) p.Own.Changes), D.int .i64 p.Best, D.int .i64 p.Value.Epoch, D.int .i64 p.Value.Target, D.int .i64 p.Value.Prev, D.int .i64 p.Value.Spill, D.int .i64 p.Value.Percent, D.int .i64 p.Value.Stamp, D.int .i64 p.Value.Since, D.int .i64 p.Value.Ramped, D.int .u64 p.Value.Up, D.int .u64 p.Value.Sup, D.sl false 1 (List.map (eInt .i64) p.Value.Pen), D.sl false 1 (List.map (eInt .i64) p.Value.Changes), D.int .u64 p.Promises, D.int .u64 p.Accepts], D.agg [D.int .i64 c.F_, D.int .i64 c.Deciders, D.int .i64 c.Targets, D.int .i64 c.Routers, D.int .i64 c.Observers, D.sl false 1 (List.map (eInt .i64) c.Tiers), D.int .i64 c.Every, D.int .i64 c.Wait, D.int .i64 c.Rise, D.int .i64 c.Fall, D.int .i64 c.Fresh, D.int .i64 c.L_, D.int .i64 c.M_, D.int .i64 c.Dwell, D.int .i64 c.D_, D.int .i64 c.W_, D.int .i64 c.B_, D.int .i64 c.Hit, D.int .i64 c.Suppress, D.int .i64 c.Reuse, D.int .i64 c.Half, D.int .i64 c.First, D.int .i64 c.Step, D.int .i64 c.StepTime, D.int .i64 c.S_, D.int .i64 c.Cap, D.int .i64 c.Span, D.int .i64 c.Room, D.int .i64 c.Tries, D.int .i64 c.Retry]]) (args := [D.agg [D.int .i64 p.Epoch, D.int .i64 p.Ballot, D.int .i64 p.Phase, D.int .i64 p.Own.Epoch, D.int .i64 p.Own.Target, D.int .i64 p.Own.Prev, D.int .i64 p.Own.Spill, D.int .i64 p.Own.Percent, D.int .i64 p.Own.Stamp, D.int .i64 p.Own.Since, D.int .i64 p.Own.Ramped, D.int .u64 p.Own.Up, D.int .u64 p.Own.Sup, D.sl false 1 (List.map (eInt .i64) p.Own.Pen), D.sl false 1 (List.map (eInt .i64) p.Own.Changes), D.int .i64 p.Best, D.int .i64 p.Value.Epoch, D.int .i64 p.Value.Target, D.int .i64 p.Value.Prev, D.int .i64 p.Value.Spill, D.int .i64 p.Value.Percent, D.int .i64 p.Value.Stamp, D.int .i64 p.Value.Since, D.int .i64 p.Value.Ramped, D.int .u64 p.Value.Up, D.int .u64 p.Value.Sup, D.sl false 1 (List.map (eInt .i64) p.Value.Pen), D.sl false 1 (List.map (eInt .i64) p.Value.Changes), D.int .u64 p.Promises, D.int .u64 p.Accepts], D.agg [D.int .i64 c.F_, D.int .i64 c.Deciders, D.int .i64 c.Targets, D.int .i64 c.Routers, D.int .i64 c.Observers, D.sl false 1 (List.map (eInt .i64) c.Tiers), D.int .i64 c.Every, D.int .i64 c.Wait, D.int .i64 c.Rise, D.int .i64 c.Fall, D.int .i64 c.Fresh, D.int .i64 c.L_, D.int .i64 c.M_, D.int .i64 c.Dwell, D.int .i64 c.D_, D.int .i64 c.W_, D.int .i64 c.B_, D.int .i64 c.Hit, D.int .i64 c.Suppress, D.int .i64 c.Reuse, D.int .i64 c.Half, D.int .i64 c.First, D.int .i64 c.Step, D.int .i64 c.StepTime, D.int .i64 c.S_, D.int .i64 c.Cap, D.int .i64 c.Span, D.int .i64 c.Room, D.int .i64 c.Tries, D.int .i64 c.Retry]]) (fun y1 => D.fn 25 [] [D.iptr 30 [[D.int .i64 y1.1.Epoch, D.int .i64 y1.1.Ballot, D.int .i64 y1.1.Phase, D.int .i64 y1.1.Own.Epoch, D.int .i64 y1.1.Own.Target, D.int .i64 y1.1.Own.Prev, D.int .i64 y1.1.Own.Spill, D.int .i64 y1.1.Own.Percent, D.int .i64 y1.1.Own.Stamp, D.int .i64 y1.1.Own.Since, D.int .i64 y1.1.Own.Ramped, D.int .u64 y1.1.Own.Up, D.int .u64 y1.1.Own.Sup, D.sl false 1 (List.map (eInt .i64) y1.1.Own.Pen), D.sl false 1 (List.map (eInt .i64) y1.1.Own.Changes), D.int .i64 y1.1.Best, D.int .i64 y1.1.Value.Epoch, D.int .i64 y1.1.Value.Target, D.int .i64 y1.1.Value.Prev, D.int .i64 y1.1.Value.Spill, D.int .i64 y1.1.Value.Percent, D.int .i64 y1.1.Value.Stamp, D.int .i64 y1.1.Value.Since, D.int .i64 y1.1.Value.Ramped, D.int .u64 y1.1.Value.Up, D.int .u64 y1.1.Value.Sup, D.sl false 1 (List.map (eInt .i64) y1.1.Value.Pen), D.sl false 1 (List.map (eInt .i64) y1.1.Value.Changes), D.int .u64 y1.1.Promises, D.int .u64 y1.1.Accepts]] 0 0, D.iptr 30 [[D.int .i64 y1.2.F_, D.int .i64 y1.2.Deciders, D.int .i64 y1.2.Targets, D.int .i64 y1.2.Routers, D.int .i64 y1.2.Observers, D.sl false 1 (List.map (eInt .i64) y1.2.Tiers), D.int .i64 y1.2.Every, D.int .i64 y1.2.Wait, D.int .i64 y1.2.Rise, D.int .i64 y1.2.Fall, D.int .i64 y1.2.Fresh, D.int .i64 y1.2.L_, D.int .i64 y1.2.M_, D.int .i64 y1.2.Dwell, D.int .i64 y1.2.D_, D.int .i64 y1.2.W_, D.int .i64 y1.2.B_, D.int .i64 y1.2.Hit, D.int .i64 y1.2.Suppress, D.int .i64 y1.2.Reuse, D.int .i64 y1.2.Half, D.int .i64 y1.2.First, D.int .i64 y1.2.Step, D.int .i64 y1.2.StepTime, D.int .i64 y1.2.S_, D.int .i64 y1.2.Cap, D.int .i64 y1.2.Span, D.int .i64 y1.2.Room, D.int .i64 y1.2.Tries, D.int .i64 y1.2.Retry]] 0 0]) h (by kernel_rfl) rfl ok1 (fun y1 h1 h => ?_)
  refine adv_ok hm 1 _ ?_
  have ok2 := fun (y : Bool) (hy : proposer_to_1 m 8 2 y1.1 y1.2 = some y) => proposer_to_1_ok hy
  refine p_callDE [] (args1 := [D.agg [D.int .i64 m.Kind, D.int .i64 m.From, D.int .i64 m.To, D.int .i64 m.Epoch, D.int .i64 m.Ballot, D.int .i64 m.Accepted, D.int .i64 m.Nonce, D.int .i64 m.Time, D.int .u64 m.Up, D.int .i64 m.Code, D.bool m.HasPlan, D.int .i64 m.Plan.Epoch, D.int .i64 m.Plan.Target, D.int .i64 m.Plan.Prev, D.int .i64 m.Plan.Spill, D.int .i64 m.Plan.Percent, D.int .i64 m.Plan.Stamp, D.int .i64 m.Plan.Since, D.int .i64 m.Plan.Ramped, D.int .u64 m.Plan.Up, D.int .u64 m.Plan.Sup, D.sl false 1 (List.map (eInt .i64) m.Plan.Pen), D.sl false 1 (List.map (eInt .i64) m.Plan.Changes), D.sl false 1 (List.map (eInt .i64) m.ID), D.sl false 1 (List.map (eInt .u8) m.Session), D.sl false 1 (List.map (eInt .u8) m.Payload)], D.int .i64 8, D.int .i64 2, D.iptr 30 [[D.int .i64 y1.1.Epoch, D.int .i64 y1.1.Ballot, D.int .i64 y1.1.Phase, D.int .i64 y1.1.Own.Epoch, D.int .i64 y1.1.Own.Target, D.int .i64 y1.1.Own.Prev, D.int .i64 y1.1.Own.Spill, D.int .i64 y1.1.Own.Percent, D.int .i64 y1.1.Own.Stamp, D.int .i64 y1.1.Own.Since, D.int .i64 y1.1.Own.Ramped, D.int .u64 y1.1.Own.Up, D.int .u64 y1.1.Own.Sup, D.sl false 1 (List.map (eInt .i64) y1.1.Own.Pen), D.sl false 1 (List.map (eInt .i64) y1.1.Own.Changes), D.int .i64 y1.1.Best, D.int .i64 y1.1.Value.Epoch, D.int .i64 y1.1.Value.Target, D.int .i64 y1.1.Value.Prev, D.int .i64 y1.1.Value.Spill, D.int .i64 y1.1.Value.Percent, D.int .i64 y1.1.Value.Stamp, D.int .i64 y1.1.Value.Since, D.int .i64 y1.1.Value.Ramped, D.int .u64 y1.1.Value.Up, D.int .u64 y1.1.Value.Sup, D.sl false 1 (List.map (eInt .i64) y1.1.Value.Pen), D.sl false 1 (List.map (eInt .i64) y1.1.Value.Changes), D.int .u64 y1.1.Promises, D.int .u64 y1.1.Accepts]] 0 0, D.iptr 30 [[D.int .i64 y1.2.F_, D.int .i64 y1.2.Deciders, D.int .i64 y1.2.Targets, D.int .i64 y1.2.Routers, D.int .i64 y1.2.Observers, D.sl false 1 (List.map (eInt .i64) y1.2.Tiers), D.int .i64 y1.2.Every, D.int .i64 y1.2.Wait, D.int .i64 y1.2.Rise, D.int .i64 y1.2.Fall, D.int .i64 y1.2.Fresh, D.int .i64 y1.2.L_, D.int .i64 y1.2.M_, D.int .i64 y1.2.Dwell, D.int .i64 y1.2.D_, D.int .i64 y1.2.W_, D.int .i64 y1.2.B_, D.int .i64 y1.2.Hit, D.int .i64 y1.2.Suppress, D.int .i64 y1.2.Reuse, D.int .i64 y1.2.Half, D.int .i64 y1.2.First, D.int .i64 y1.2.Step, D.int .i64 y1.2.StepTime, D.int .i64 y1.2.S_, D.int .i64 y1.2.Cap, D.int .i64 y1.2.Span, D.int .i64 y1.2.Room, D.int .i64 y1.2.Tries, D.int .i64 y1.2.Retry]] 0 0]) (args := [D.agg [D.int .i64 m.Kind, D.int .i64 m.From, D.int .i64 m.To, D.int .i64 m.Epoch, D.int .i64 m.Ballot, D.int .i64 m.Accepted, D.int .i64 m.Nonce, D.int .i64 m.Time, D.int .u64 m.Up, D.int .i64 m.Code, D.bool m.HasPlan, D.int .i64 m.Plan.Epoch, D.int .i64 m.Plan.Target, D.int .i64 m.Plan.Prev, D.int .i64 m.Plan.Spill, D.int .i64 m.Plan.Percent, D.int .i64 m.Plan.Stamp, D.int .i64 m.Plan.Since, D.int .i64 m.Plan.Ramped, D.int .u64 m.Plan.Up, D.int .u64 m.Plan.Sup, D.sl false 1 (List.map (eInt .i64) m.Plan.Pen), D.sl false 1 (List.map (eInt .i64) m.Plan.Changes), D.sl false 1 (List.map (eInt .i64) m.ID), D.sl false 1 (List.map (eInt .u8) m.Session), D.sl false 1 (List.map (eInt .u8) m.Payload)], D.int .i64 8, D.int .i64 2, D.iptr 30 [[D.int .i64 y1.1.Epoch, D.int .i64 y1.1.Ballot, D.int .i64 y1.1.Phase, D.int .i64 y1.1.Own.Epoch, D.int .i64 y1.1.Own.Target, D.int .i64 y1.1.Own.Prev, D.int .i64 y1.1.Own.Spill, D.int .i64 y1.1.Own.Percent, D.int .i64 y1.1.Own.Stamp, D.int .i64 y1.1.Own.Since, D.int .i64 y1.1.Own.Ramped, D.int .u64 y1.1.Own.Up, D.int .u64 y1.1.Own.Sup, D.sl false 1 (List.map (eInt .i64) y1.1.Own.Pen), D.sl false 1 (List.map (eInt .i64) y1.1.Own.Changes), D.int .i64 y1.1.Best, D.int .i64 y1.1.Value.Epoch, D.int .i64 y1.1.Value.Target, D.int .i64 y1.1.Value.Prev, D.int .i64 y1.1.Value.Spill, D.int .i64 y1.1.Value.Percent, D.int .i64 y1.1.Value.Stamp, D.int .i64 y1.1.Value.Since, D.int .i64 y1.1.Value.Ramped, D.int .u64 y1.1.Value.Up, D.int .u64 y1.1.Value.Sup, D.sl false 1 (List.map (eInt .i64) y1.1.Value.Pen), D.sl false 1 (List.map (eInt .i64) y1.1.Value.Changes), D.int .u64 y1.1.Promises, D.int .u64 y1.1.Accepts]] 0 0, D.iptr 30 [[D.int .i64 y1.2.F_, D.int .i64 y1.2.Deciders, D.int .i64 y1.2.Targets, D.int .i64 y1.2.Routers, D.int .i64 y1.2.Observers, D.sl false 1 (List.map (eInt .i64) y1.2.Tiers), D.int .i64 y1.2.Every, D.int .i64 y1.2.Wait, D.int .i64 y1.2.Rise, D.int .i64 y1.2.Fall, D.int .i64 y1.2.Fresh, D.int .i64 y1.2.L_, D.int .i64 y1.2.M_, D.int .i64 y1.2.Dwell, D.int .i64 y1.2.D_, D.int .i64 y1.2.W_, D.int .i64 y1.2.B_, D.int .i64 y1.2.Hit, D.int .i64 y1.2.Suppress, D.int .i64 y1.2.Reuse, D.int .i64 y1.2.Half, D.int .i64 y1.2.First, D.int .i64 y1.2.Step, D.int .i64 y1.2.StepTime, D.int .i64 y1.2.S_, D.int .i64 y1.2.Cap, D.int .i64 y1.2.Span, D.int .i64 y1.2.Room, D.int .i64 y1.2.Tries, D.int .i64 y1.2.Retry]] 0 0]) (fun y2 => D.bool y2) h (by kernel_rfl) rfl ok2 (fun y2 h2 h => ?_)
  refine adv_ok hm 1 _ ?_
  refine p_split h (by kernel_rfl) (fun h3 h => ?_) (fun h3 h => ?_)
  · -- true
    refine adv_ok hm 10 _ ?_
    obtain rfl := Option.some.inj h
    exact r_retF [] (d := D.agg [D.int .i64 p.Epoch, D.int .i64 p.Ballot, D.int .i64 p.Phase, D.int .i64 p.Own.Epoch, D.int .i64 p.Own.Target, D.int .i64 p.Own.Prev, D.int .i64 p.Own.Spill, D.int .i64 p.Own.Percent, D.int .i64 p.Own.Stamp, D.int .i64 p.Own.Since, D.int .i64 p.Own.Ramped, D.int .u64 p.Own.Up, D.int .u64 p.Own.Sup, D.sl false 1 (List.map (eInt .i64) p.Own.Pen), D.sl false 1 (List.map (eInt .i64) p.Own.Changes), D.int .i64 p.Best, D.int .i64 p.Value.Epoch, D.int .i64 p.Value.Target, D.int .i64 p.Value.Prev, D.int .i64 p.Value.Spill, D.int .i64 p.Value.Percent, D.int .i64 p.Value.Stamp, D.int .i64 p.Value.Since, D.int .i64 p.Value.Ramped, D.int .u64 p.Value.Up, D.int .u64 p.Value.Sup, D.sl false 1 (List.map (eInt .i64) p.Value.Pen), D.sl false 1 (List.map (eInt .i64) p.Value.Changes), D.int .u64 p.Promises, D.int .u64 p.Accepts]) (s := []) (by kernel_rfl) ⟨rfl, rfl⟩
  · -- false
    refine adv_ok hm 6 _ ?_
    refine p_need h (by kernel_rfl) (fun h4 h => ?_)
    refine adv_ok hm 10 _ ?_
    have ok5 := fun (y : Bool) (hy : proposer_Most c (orI .u64 p.Accepts (shlI .u64 1 m.From)) = some y) => proposer_Most_ok hy
    refine p_callE [] (args1 := [D.agg [D.int .i64 c.F_, D.int .i64 c.Deciders, D.int .i64 c.Targets, D.int .i64 c.Routers, D.int .i64 c.Observers, D.sl false 1 (List.map (eInt .i64) c.Tiers), D.int .i64 c.Every, D.int .i64 c.Wait, D.int .i64 c.Rise, D.int .i64 c.Fall, D.int .i64 c.Fresh, D.int .i64 c.L_, D.int .i64 c.M_, D.int .i64 c.Dwell, D.int .i64 c.D_, D.int .i64 c.W_, D.int .i64 c.B_, D.int .i64 c.Hit, D.int .i64 c.Suppress, D.int .i64 c.Reuse, D.int .i64 c.Half, D.int .i64 c.First, D.int .i64 c.Step, D.int .i64 c.StepTime, D.int .i64 c.S_, D.int .i64 c.Cap, D.int .i64 c.Span, D.int .i64 c.Room, D.int .i64 c.Tries, D.int .i64 c.Retry], D.int .u64 (orI .u64 p.Accepts (shlI .u64 1 m.From))]) (args := [D.agg [D.int .i64 c.F_, D.int .i64 c.Deciders, D.int .i64 c.Targets, D.int .i64 c.Routers, D.int .i64 c.Observers, D.sl false 1 (List.map (eInt .i64) c.Tiers), D.int .i64 c.Every, D.int .i64 c.Wait, D.int .i64 c.Rise, D.int .i64 c.Fall, D.int .i64 c.Fresh, D.int .i64 c.L_, D.int .i64 c.M_, D.int .i64 c.Dwell, D.int .i64 c.D_, D.int .i64 c.W_, D.int .i64 c.B_, D.int .i64 c.Hit, D.int .i64 c.Suppress, D.int .i64 c.Reuse, D.int .i64 c.Half, D.int .i64 c.First, D.int .i64 c.Step, D.int .i64 c.StepTime, D.int .i64 c.S_, D.int .i64 c.Cap, D.int .i64 c.Span, D.int .i64 c.Room, D.int .i64 c.Tries, D.int .i64 c.Retry], D.int .u64 (orI .u64 p.Accepts (shlI .u64 1 m.From))]) (fun y5 => D.bool y5) (fun y5 => []) h (by kernel_rfl) ⟨rfl, rfl⟩ ok5 (fun y5 h5 h => ?_)
    refine adv_ok hm 2 _ ?_
    refine p_split h (by kernel_rfl) (fun h6 h => ?_) (fun h6 h => ?_)
    · -- true
      refine adv_ok hm 16 _ ?_
      obtain rfl := Option.some.inj h
      exact r_retF [] (d := D.agg [D.int .i64 p.Epoch, D.int .i64 p.Ballot, D.int .i64 3, D.int .i64 p.Own.Epoch, D.int .i64 p.Own.Target, D.int .i64 p.Own.Prev, D.int .i64 p.Own.Spill, D.int .i64 p.Own.Percent, D.int .i64 p.Own.Stamp, D.int .i64 p.Own.Since, D.int .i64 p.Own.Ramped, D.int .u64 p.Own.Up, D.int .u64 p.Own.Sup, D.sl false 1 (List.map (eInt .i64) p.Own.Pen), D.sl false 1 (List.map (eInt .i64) p.Own.Changes), D.int .i64 p.Best, D.int .i64 p.Value.Epoch, D.int .i64 p.Value.Target, D.int .i64 p.Value.Prev, D.int .i64 p.Value.Spill, D.int .i64 p.Value.Percent, D.int .i64 p.Value.Stamp, D.int .i64 p.Value.Since, D.int .i64 p.Value.Ramped, D.int .u64 p.Value.Up, D.int .u64 p.Value.Sup, D.sl false 1 (List.map (eInt .i64) p.Value.Pen), D.sl false 1 (List.map (eInt .i64) p.Value.Changes), D.int .u64 p.Promises, D.int .u64 (orI .u64 p.Accepts (shlI .u64 1 m.From))]) (s := []) (by kernel_rfl) ⟨rfl, rfl⟩
    · -- false
      refine adv_ok hm 11 _ ?_
      obtain rfl := Option.some.inj h
      exact r_retF [] (d := D.agg [D.int .i64 p.Epoch, D.int .i64 p.Ballot, D.int .i64 p.Phase, D.int .i64 p.Own.Epoch, D.int .i64 p.Own.Target, D.int .i64 p.Own.Prev, D.int .i64 p.Own.Spill, D.int .i64 p.Own.Percent, D.int .i64 p.Own.Stamp, D.int .i64 p.Own.Since, D.int .i64 p.Own.Ramped, D.int .u64 p.Own.Up, D.int .u64 p.Own.Sup, D.sl false 1 (List.map (eInt .i64) p.Own.Pen), D.sl false 1 (List.map (eInt .i64) p.Own.Changes), D.int .i64 p.Best, D.int .i64 p.Value.Epoch, D.int .i64 p.Value.Target, D.int .i64 p.Value.Prev, D.int .i64 p.Value.Spill, D.int .i64 p.Value.Percent, D.int .i64 p.Value.Stamp, D.int .i64 p.Value.Since, D.int .i64 p.Value.Ramped, D.int .u64 p.Value.Up, D.int .u64 p.Value.Sup, D.sl false 1 (List.map (eInt .i64) p.Value.Pen), D.sl false 1 (List.map (eInt .i64) p.Value.Changes), D.int .u64 p.Promises, D.int .u64 (orI .u64 p.Accepts (shlI .u64 1 m.From))]) (s := []) (by kernel_rfl) ⟨rfl, rfl⟩
end Go.RX.L

set_option linter.unusedSimpArgs false
set_option linter.unusedVariables false
set_option maxRecDepth 100000
set_option maxHeartbeats 4000000
namespace Go.RX.L
open Go Go.RX Go.Proofs
def proposer_Start_Q (y : GProp) (d : D) (s : Sto) : Prop := d = D.agg [D.int .i64 y.Epoch, D.int .i64 y.Ballot, D.int .i64 y.Phase, D.int .i64 y.Own.Epoch, D.int .i64 y.Own.Target, D.int .i64 y.Own.Prev, D.int .i64 y.Own.Spill, D.int .i64 y.Own.Percent, D.int .i64 y.Own.Stamp, D.int .i64 y.Own.Since, D.int .i64 y.Own.Ramped, D.int .u64 y.Own.Up, D.int .u64 y.Own.Sup, D.sl false 1 (List.map (eInt .i64) y.Own.Pen), D.sl false 1 (List.map (eInt .i64) y.Own.Changes), D.int .i64 y.Best, D.int .i64 y.Value.Epoch, D.int .i64 y.Value.Target, D.int .i64 y.Value.Prev, D.int .i64 y.Value.Spill, D.int .i64 y.Value.Percent, D.int .i64 y.Value.Stamp, D.int .i64 y.Value.Since, D.int .i64 y.Value.Ramped, D.int .u64 y.Value.Up, D.int .u64 y.Value.Sup, D.sl false 1 (List.map (eInt .i64) y.Value.Pen), D.sl false 1 (List.map (eInt .i64) y.Value.Changes), D.int .u64 y.Promises, D.int .u64 y.Accepts] ∧ s = []
noncomputable def proposer_Start (epoch : Int) (ballot : Int) (own : Plan) : Option GProp := (some (⟨epoch, ballot, 1, (⟨epoch, own.Target, own.Prev, own.Spill, own.Percent, own.Stamp, own.Since, own.Ramped, own.Up, own.Sup, own.Pen, own.Changes⟩ : Plan), 0, (⟨0, 0, 0, 0, 0, 0, 0, 0, 0, 0, [], []⟩ : Plan), 0, 0⟩ : GProp))
theorem proposer_Start_ok {epoch : Int} {ballot : Int} {own : Plan} {r : GProp} (h : proposer_Start epoch ballot own = some r) : Sound E 8 [D.int .i64 epoch, D.int .i64 ballot, D.agg [D.int .i64 own.Epoch, D.int .i64 own.Target, D.int .i64 own.Prev, D.int .i64 own.Spill, D.int .i64 own.Percent, D.int .i64 own.Stamp, D.int .i64 own.Since, D.int .i64 own.Ramped, D.int .u64 own.Up, D.int .u64 own.Sup, D.sl false 1 (List.map (eInt .i64) own.Pen), D.sl false 1 (List.map (eInt .i64) own.Changes)]] [] (proposer_Start_Q r) := by
  refine sound_ofW (m := ⟨[.code (bodyOf Try.f8)], [(0, D.int .i64 epoch), (1, D.int .i64 ballot), (2, D.agg [D.int .i64 own.Epoch, D.int .i64 own.Target, D.int .i64 own.Prev, D.int .i64 own.Spill, D.int .i64 own.Percent, D.int .i64 own.Stamp, D.int .i64 own.Since, D.int .i64 own.Ramped, D.int .u64 own.Up, D.int .u64 own.Sup, D.sl false 1 (List.map (eInt .i64) own.Pen), D.sl false 1 (List.map (eInt .i64) own.Changes)])], []⟩) (fn := Try.f8) (by kernel_rfl) (by kernel_rfl) ?_
  show FinQ E ⟨Try.f8, false, 0⟩ (QW (proposer_Start_Q r)) _
  unfold proposer_Start at h
  refine adv_ok hm 26 _ ?_
  obtain rfl := Option.some.inj h
  exact r_retF [.slot 0 [some 1, some 1]] (d := D.agg [D.int .i64 epoch, D.int .i64 ballot, D.int .i64 1, D.int .i64 epoch, D.int .i64 own.Target, D.int .i64 own.Prev, D.int .i64 own.Spill, D.int .i64 own.Percent, D.int .i64 own.Stamp, D.int .i64 own.Since, D.int .i64 own.Ramped, D.int .u64 own.Up, D.int .u64 own.Sup, D.sl false 1 (List.map (eInt .i64) own.Pen), D.sl false 1 (List.map (eInt .i64) own.Changes), D.int .i64 0, D.int .i64 0, D.int .i64 0, D.int .i64 0, D.int .i64 0, D.int .i64 0, D.int .i64 0, D.int .i64 0, D.int .i64 0, D.int .u64 0, D.int .u64 0, D.sl false 1 [], D.sl false 1 [], D.int .u64 0, D.int .u64 0]) (s := []) (by kernel_rfl) ⟨rfl, rfl⟩
end Go.RX.L

set_option linter.unusedSimpArgs false
set_option linter.unusedVariables false
set_option maxRecDepth 100000
set_option maxHeartbeats 4000000
namespace Go.RX.L
open Go Go.RX Go.Proofs
def law13_Plain_Q (y : Config) (d : D) (s : Sto) : Prop := d = D.agg [D.int .i64 y.F_, D.int .i64 y.Deciders, D.int .i64 y.Targets, D.int .i64 y.Routers, D.int .i64 y.Observers, D.sl false 1 (List.map (eInt .i64) y.Tiers), D.int .i64 y.Every, D.int .i64 y.Wait, D.int .i64 y.Rise, D.int .i64 y.Fall, D.int .i64 y.Fresh, D.int .i64 y.L_, D.int .i64 y.M_, D.int .i64 y.Dwell, D.int .i64 y.D_, D.int .i64 y.W_, D.int .i64 y.B_, D.int .i64 y.Hit, D.int .i64 y.Suppress, D.int .i64 y.Reuse, D.int .i64 y.Half, D.int .i64 y.First, D.int .i64 y.Step, D.int .i64 y.StepTime, D.int .i64 y.S_, D.int .i64 y.Cap, D.int .i64 y.Span, D.int .i64 y.Room, D.int .i64 y.Tries, D.int .i64 y.Retry] ∧ s = []
noncomputable def law13_Plain  : Option Config := (some (⟨1, 2, 2, 1, 3, [1, 0], 5, 3, 2, 2, 20, 20, 5, 10, 3, 50, 3, 1000, 1500, 700, 30, 20, 40, 5, 10, 5, 10, 4, 3, 5⟩ : Config))
theorem law13_Plain_ok  {r : Config} (h : law13_Plain = some r) : Sound E 18 [] [] (law13_Plain_Q r) := by
  refine sound_ofW (m := ⟨[.code (bodyOf Try.f18)], [], []⟩) (fn := Try.f18) (by kernel_rfl) (by kernel_rfl) ?_
  show FinQ E ⟨Try.f18, false, 0⟩ (QW (law13_Plain_Q r)) _
  unfold law13_Plain at h
  refine adv_ok hm 15 _ ?_
  obtain rfl := Option.some.inj h
  exact r_retF [] (d := D.agg [D.int .i64 1, D.int .i64 2, D.int .i64 2, D.int .i64 1, D.int .i64 3, D.sl false 1 [[D.int .i64 1], [D.int .i64 0]], D.int .i64 5, D.int .i64 3, D.int .i64 2, D.int .i64 2, D.int .i64 20, D.int .i64 20, D.int .i64 5, D.int .i64 10, D.int .i64 3, D.int .i64 50, D.int .i64 3, D.int .i64 1000, D.int .i64 1500, D.int .i64 700, D.int .i64 30, D.int .i64 20, D.int .i64 40, D.int .i64 5, D.int .i64 10, D.int .i64 5, D.int .i64 10, D.int .i64 4, D.int .i64 3, D.int .i64 5]) (s := []) (by kernel_rfl) ⟨rfl, rfl⟩
end Go.RX.L

set_option linter.unusedSimpArgs false
set_option linter.unusedVariables false
set_option maxRecDepth 100000
set_option maxHeartbeats 4000000
namespace Go.RX.L
open Go Go.RX Go.Proofs
def law16_head_Q (y : Bool) (d : D) (s : Sto) : Prop := d = D.bool y ∧ s = []
noncomputable def law16_head  : Option Bool := ((law13_Plain ).bind fun y1 => ((proposer_Start 1 16 (⟨0, 1, 0, 0, 0, 0, 0, 0, 0, 0, [], []⟩ : Plan)).bind fun y2 => ((proposer_Promise y2 y1 (⟨5, 0, 0, 1, 16, 0, 0, 0, 0, 0, false, (⟨0, 0, 0, 0, 0, 0, 0, 0, 0, 0, [], []⟩ : Plan), [], [], []⟩ : Msg)).bind fun y3 => ((proposer_Promise y3 y1 (⟨5, 2, 0, 1, 16, 0, 0, 0, 0, 0, false, (⟨0, 0, 0, 0, 0, 0, 0, 0, 0, 0, [], []⟩ : Plan), [], [], []⟩ : Msg)).bind fun y4 => (bif ((y3.Phase : Int) == 1) then (bif ((y4.Phase : Int) == 2) then (bif ((y4.Value.Target : Int) == 1) then (bif ((y4.Value.Epoch : Int) == 1) then ((proposer_Most y1 3).bind fun y9 => (bif y9 then ((proposer_Most y1 9).bind fun y11 => (some (!y11))) else (some false))) else (some false)) else (some false)) else (some false)) else (some false))))))
theorem law16_head_ok  {r : Bool} (h : law16_head = some r) : Sound E 7 [] [] (law16_head_Q r) := by
  refine sound_ofW (m := ⟨[.code (bodyOf Try.f7)], [], []⟩) (fn := Try.f7) (by kernel_rfl) (by kernel_rfl) ?_
  show FinQ E ⟨Try.f7, false, 0⟩ (QW (law16_head_Q r)) _
  unfold law16_head at h
  refine adv_ok hm 7 _ ?_
  have ok1 := fun (y : Config) (hy : law13_Plain  = some y) => law13_Plain_ok hy
  refine p_callE [] (args1 := []) (args := []) (fun y1 => D.agg [D.int .i64 y1.F_, D.int .i64 y1.Deciders, D.int .i64 y1.Targets, D.int .i64 y1.Routers, D.int .i64 y1.Observers, D.sl false 1 (List.map (eInt .i64) y1.Tiers), D.int .i64 y1.Every, D.int .i64 y1.Wait, D.int .i64 y1.Rise, D.int .i64 y1.Fall, D.int .i64 y1.Fresh, D.int .i64 y1.L_, D.int .i64 y1.M_, D.int .i64 y1.Dwell, D.int .i64 y1.D_, D.int .i64 y1.W_, D.int .i64 y1.B_, D.int .i64 y1.Hit, D.int .i64 y1.Suppress, D.int .i64 y1.Reuse, D.int .i64 y1.Half, D.int .i64 y1.First, D.int .i64 y1.Step, D.int .i64 y1.StepTime, D.int .i64 y1.S_, D.int .i64 y1.Cap, D.int .i64 y1.Span, D.int .i64 y1.Room, D.int .i64 y1.Tries, D.int .i64 y1.Retry]) (fun y1 => []) h (by kernel_rfl) ⟨rfl, rfl⟩ ok1 (fun y1 h1 h => ?_)
  refine adv_ok hm 9 _ ?_
  have ok2 := fun (y : GProp) (hy : proposer_Start 1 16 (⟨0, 1, 0, 0, 0, 0, 0, 0, 0, 0, [], []⟩ : Plan) = some y) => proposer_Start_ok hy
  refine p_callE [some 1, some 1] (args1 := [D.int .i64 1, D.int .i64 16, D.agg [D.int .i64 0, D.int .i64 1, D.int .i64 0, D.int .i64 0, D.int .i64 0, D.int .i64 0, D.int .i64 0, D.int .i64 0, D.int .u64 0, D.int .u64 0, D.sl false 1 [], D.sl false 1 []]]) (args := [D.int .i64 1, D.int .i64 16, D.agg [D.int .i64 0, D.int .i64 1, D.int .i64 0, D.int .i64 0, D.int .i64 0, D.int .i64 0, D.int .i64 0, D.int .i64 0, D.int .u64 0, D.int .u64 0, D.sl false 1 [], D.sl false 1 []]]) (fun y2 => D.agg [D.int .i64 y2.Epoch, D.int .i64 y2.Ballot, D.int .i64 y2.Phase, D.int .i64 y2.Own.Epoch, D.int .i64 y2.Own.Target, D.int .i64 y2.Own.Prev, D.int .i64 y2.Own.Spill, D.int .i64 y2.Own.Percent, D.int .i64 y2.Own.Stamp, D.int .i64 y2.Own.Since, D.int .i64 y2.Own.Ramped, D.int .u64 y2.Own.Up, D.int .u64 y2.Own.Sup, D.sl false 1 (List.map (eInt .i64) y2.Own.Pen), D.sl false 1 (List.map (eInt .i64) y2.Own.Changes), D.int .i64 y2.Best, D.int .i64 y2.Value.Epoch, D.int .i64 y2.Value.Target, D.int .i64 y2.Value.Prev, D.int .i64 y2.Value.Spill, D.int .i64 y2.Value.Percent, D.int .i64 y2.Value.Stamp, D.int .i64 y2.Value.Since, D.int .i64 y2.Value.Ramped, D.int .u64 y2.Value.Up, D.int .u64 y2.Value.Sup, D.sl false 1 (List.map (eInt .i64) y2.Value.Pen), D.sl false 1 (List.map (eInt .i64) y2.Value.Changes), D.int .u64 y2.Promises, D.int .u64 y2.Accepts]) (fun y2 => []) h (by kernel_rfl) ⟨rfl, rfl⟩ ok2 (fun y2 h2 h => ?_)
  refine adv_ok hm 13 _ ?_
  have ok3 := fun (y : GProp) (hy : proposer_Promise y2 y1 (⟨5, 0, 0, 1, 16, 0, 0, 0, 0, 0, false, (⟨0, 0, 0, 0, 0, 0, 0, 0, 0, 0, [], []⟩ : Plan), [], [], []⟩ : Msg) = some y) => proposer_Promise_ok hy
  refine p_callE [some 1, some 1, some 1, some 1, some 1] (args1 := [D.agg [D.int .i64 y2.Epoch, D.int .i64 y2.Ballot, D.int .i64 y2.Phase, D.int .i64 y2.Own.Epoch, D.int .i64 y2.Own.Target, D.int .i64 y2.Own.Prev, D.int .i64 y2.Own.Spill, D.int .i64 y2.Own.Percent, D.int .i64 y2.Own.Stamp, D.int .i64 y2.Own.Since, D.int .i64 y2.Own.Ramped, D.int .u64 y2.Own.Up, D.int .u64 y2.Own.Sup, D.sl false 1 (List.map (eInt .i64) y2.Own.Pen), D.sl false 1 (List.map (eInt .i64) y2.Own.Changes), D.int .i64 y2.Best, D.int .i64 y2.Value.Epoch, D.int .i64 y2.Value.Target, D.int .i64 y2.Value.Prev, D.int .i64 y2.Value.Spill, D.int .i64 y2.Value.Percent, D.int .i64 y2.Value.Stamp, D.int .i64 y2.Value.Since, D.int .i64 y2.Value.Ramped, D.int .u64 y2.Value.Up, D.int .u64 y2.Value.Sup, D.sl false 1 (List.map (eInt .i64) y2.Value.Pen), D.sl false 1 (List.map (eInt .i64) y2.Value.Changes), D.int .u64 y2.Promises, D.int .u64 y2.Accepts], D.agg [D.int .i64 y1.F_, D.int .i64 y1.Deciders, D.int .i64 y1.Targets, D.int .i64 y1.Routers, D.int .i64 y1.Observers, D.sl false 1 (List.map (eInt .i64) y1.Tiers), D.int .i64 y1.Every, D.int .i64 y1.Wait, D.int .i64 y1.Rise, D.int .i64 y1.Fall, D.int .i64 y1.Fresh, D.int .i64 y1.L_, D.int .i64 y1.M_, D.int .i64 y1.Dwell, D.int .i64 y1.D_, D.int .i64 y1.W_, D.int .i64 y1.B_, D.int .i64 y1.Hit, D.int .i64 y1.Suppress, D.int .i64 y1.Reuse, D.int .i64 y1.Half, D.int .i64 y1.First, D.int .i64 y1.Step, D.int .i64 y1.StepTime, D.int .i64 y1.S_, D.int .i64 y1.Cap, D.int .i64 y1.Span, D.int .i64 y1.Room, D.int .i64 y1.Tries, D.int .i64 y1.Retry], D.agg [D.int .i64 5, D.int .i64 0, D.int .i64 0, D.int .i64 1, D.int .i64 16, D.int .i64 0, D.int .i64 0, D.int .i64 0, D.int .u64 0, D.int .i64 0, D.bool false, D.int .i64 0, D.int .i64 0, D.int .i64 0, D.int .i64 0, D.int .i64 0, D.int .i64 0, D.int .i64 0, D.int .i64 0, D.int .u64 0, D.int .u64 0, D.sl false 1 [], D.sl false 1 [], D.sl false 1 [], D.sl false 1 [], D.sl false 1 []]]) (args := [D.agg [D.int .i64 y2.Epoch, D.int .i64 y2.Ballot, D.int .i64 y2.Phase, D.int .i64 y2.Own.Epoch, D.int .i64 y2.Own.Target, D.int .i64 y2.Own.Prev, D.int .i64 y2.Own.Spill, D.int .i64 y2.Own.Percent, D.int .i64 y2.Own.Stamp, D.int .i64 y2.Own.Since, D.int .i64 y2.Own.Ramped, D.int .u64 y2.Own.Up, D.int .u64 y2.Own.Sup, D.sl false 1 (List.map (eInt .i64) y2.Own.Pen), D.sl false 1 (List.map (eInt .i64) y2.Own.Changes), D.int .i64 y2.Best, D.int .i64 y2.Value.Epoch, D.int .i64 y2.Value.Target, D.int .i64 y2.Value.Prev, D.int .i64 y2.Value.Spill, D.int .i64 y2.Value.Percent, D.int .i64 y2.Value.Stamp, D.int .i64 y2.Value.Since, D.int .i64 y2.Value.Ramped, D.int .u64 y2.Value.Up, D.int .u64 y2.Value.Sup, D.sl false 1 (List.map (eInt .i64) y2.Value.Pen), D.sl false 1 (List.map (eInt .i64) y2.Value.Changes), D.int .u64 y2.Promises, D.int .u64 y2.Accepts], D.agg [D.int .i64 y1.F_, D.int .i64 y1.Deciders, D.int .i64 y1.Targets, D.int .i64 y1.Routers, D.int .i64 y1.Observers, D.sl false 1 (List.map (eInt .i64) y1.Tiers), D.int .i64 y1.Every, D.int .i64 y1.Wait, D.int .i64 y1.Rise, D.int .i64 y1.Fall, D.int .i64 y1.Fresh, D.int .i64 y1.L_, D.int .i64 y1.M_, D.int .i64 y1.Dwell, D.int .i64 y1.D_, D.int .i64 y1.W_, D.int .i64 y1.B_, D.int .i64 y1.Hit, D.int .i64 y1.Suppress, D.int .i64 y1.Reuse, D.int .i64 y1.Half, D.int .i64 y1.First, D.int .i64 y1.Step, D.int .i64 y1.StepTime, D.int .i64 y1.S_, D.int .i64 y1.Cap, D.int .i64 y1.Span, D.int .i64 y1.Room, D.int .i64 y1.Tries, D.int .i64 y1.Retry], D.agg [D.int .i64 5, D.int .i64 0, D.int .i64 0, D.int .i64 1, D.int .i64 16, D.int .i64 0, D.int .i64 0, D.int .i64 0, D.int .u64 0, D.int .i64 0, D.bool false, D.int .i64 0, D.int .i64 0, D.int .i64 0, D.int .i64 0, D.int .i64 0, D.int .i64 0, D.int .i64 0, D.int .i64 0, D.int .u64 0, D.int .u64 0, D.sl false 1 [], D.sl false 1 [], D.sl false 1 [], D.sl false 1 [], D.sl false 1 []]]) (fun y3 => D.agg [D.int .i64 y3.Epoch, D.int .i64 y3.Ballot, D.int .i64 y3.Phase, D.int .i64 y3.Own.Epoch, D.int .i64 y3.Own.Target, D.int .i64 y3.Own.Prev, D.int .i64 y3.Own.Spill, D.int .i64 y3.Own.Percent, D.int .i64 y3.Own.Stamp, D.int .i64 y3.Own.Since, D.int .i64 y3.Own.Ramped, D.int .u64 y3.Own.Up, D.int .u64 y3.Own.Sup, D.sl false 1 (List.map (eInt .i64) y3.Own.Pen), D.sl false 1 (List.map (eInt .i64) y3.Own.Changes), D.int .i64 y3.Best, D.int .i64 y3.Value.Epoch, D.int .i64 y3.Value.Target, D.int .i64 y3.Value.Prev, D.int .i64 y3.Value.Spill, D.int .i64 y3.Value.Percent, D.int .i64 y3.Value.Stamp, D.int .i64 y3.Value.Since, D.int .i64 y3.Value.Ramped, D.int .u64 y3.Value.Up, D.int .u64 y3.Value.Sup, D.sl false 1 (List.map (eInt .i64) y3.Value.Pen), D.sl false 1 (List.map (eInt .i64) y3.Value.Changes), D.int .u64 y3.Promises, D.int .u64 y3.Accepts]) (fun y3 => []) h (by kernel_rfl) ⟨rfl, rfl⟩ ok3 (fun y3 h3 h => ?_)
  refine adv_ok hm 12 _ ?_
  have ok4 := fun (y : GProp) (hy : proposer_Promise y3 y1 (⟨5, 2, 0, 1, 16, 0, 0, 0, 0, 0, false, (⟨0, 0, 0, 0, 0, 0, 0, 0, 0, 0, [], []⟩ : Plan), [], [], []⟩ : Msg) = some y) => proposer_Promise_ok hy
  refine p_callE [some 1, some 1, some 1, some 1, some 1] (args1 := [D.agg [D.int .i64 y3.Epoch, D.int .i64 y3.Ballot, D.int .i64 y3.Phase, D.int .i64 y3.Own.Epoch, D.int .i64 y3.Own.Target, D.int .i64 y3.Own.Prev, D.int .i64 y3.Own.Spill, D.int .i64 y3.Own.Percent, D.int .i64 y3.Own.Stamp, D.int .i64 y3.Own.Since, D.int .i64 y3.Own.Ramped, D.int .u64 y3.Own.Up, D.int .u64 y3.Own.Sup, D.sl false 1 (List.map (eInt .i64) y3.Own.Pen), D.sl false 1 (List.map (eInt .i64) y3.Own.Changes), D.int .i64 y3.Best, D.int .i64 y3.Value.Epoch, D.int .i64 y3.Value.Target, D.int .i64 y3.Value.Prev, D.int .i64 y3.Value.Spill, D.int .i64 y3.Value.Percent, D.int .i64 y3.Value.Stamp, D.int .i64 y3.Value.Since, D.int .i64 y3.Value.Ramped, D.int .u64 y3.Value.Up, D.int .u64 y3.Value.Sup, D.sl false 1 (List.map (eInt .i64) y3.Value.Pen), D.sl false 1 (List.map (eInt .i64) y3.Value.Changes), D.int .u64 y3.Promises, D.int .u64 y3.Accepts], D.agg [D.int .i64 y1.F_, D.int .i64 y1.Deciders, D.int .i64 y1.Targets, D.int .i64 y1.Routers, D.int .i64 y1.Observers, D.sl false 1 (List.map (eInt .i64) y1.Tiers), D.int .i64 y1.Every, D.int .i64 y1.Wait, D.int .i64 y1.Rise, D.int .i64 y1.Fall, D.int .i64 y1.Fresh, D.int .i64 y1.L_, D.int .i64 y1.M_, D.int .i64 y1.Dwell, D.int .i64 y1.D_, D.int .i64 y1.W_, D.int .i64 y1.B_, D.int .i64 y1.Hit, D.int .i64 y1.Suppress, D.int .i64 y1.Reuse, D.int .i64 y1.Half, D.int .i64 y1.First, D.int .i64 y1.Step, D.int .i64 y1.StepTime, D.int .i64 y1.S_, D.int .i64 y1.Cap, D.int .i64 y1.Span, D.int .i64 y1.Room, D.int .i64 y1.Tries, D.int .i64 y1.Retry], D.agg [D.int .i64 5, D.int .i64 2, D.int .i64 0, D.int .i64 1, D.int .i64 16, D.int .i64 0, D.int .i64 0, D.int .i64 0, D.int .u64 0, D.int .i64 0, D.bool false, D.int .i64 0, D.int .i64 0, D.int .i64 0, D.int .i64 0, D.int .i64 0, D.int .i64 0, D.int .i64 0, D.int .i64 0, D.int .u64 0, D.int .u64 0, D.sl false 1 [], D.sl false 1 [], D.sl false 1 [], D.sl false 1 [], D.sl false 1 []]]) (args := [D.agg [D.int .i64 y3.Epoch, D.int .i64 y3.Ballot, D.int .i64 y3.Phase, D.int .i64 y3.Own.Epoch, D.int .i64 y3.Own.Target, D.int .i64 y3.Own.Prev, D.int .i64 y3.Own.Spill, D.int .i64 y3.Own.Percent, D.int .i64 y3.Own.Stamp, D.int .i64 y3.Own.Since, D.int .i64 y3.Own.Ramped, D.int .u64 y3.Own.Up, D.int .u64 y3.Own.Sup, D.sl false 1 (List.map (eInt .i64) y3.Own.Pen), D.sl false 1 (List.map (eInt .i64) y3.Own.Changes), D.int .i64 y3.Best, D.int .i64 y3.Value.Epoch, D.int .i64 y3.Value.Target, D.int .i64 y3.Value.Prev, D.int .i64 y3.Value.Spill, D.int .i64 y3.Value.Percent, D.int .i64 y3.Value.Stamp, D.int .i64 y3.Value.Since, D.int .i64 y3.Value.Ramped, D.int .u64 y3.Value.Up, D.int .u64 y3.Value.Sup, D.sl false 1 (List.map (eInt .i64) y3.Value.Pen), D.sl false 1 (List.map (eInt .i64) y3.Value.Changes), D.int .u64 y3.Promises, D.int .u64 y3.Accepts], D.agg [D.int .i64 y1.F_, D.int .i64 y1.Deciders, D.int .i64 y1.Targets, D.int .i64 y1.Routers, D.int .i64 y1.Observers, D.sl false 1 (List.map (eInt .i64) y1.Tiers), D.int .i64 y1.Every, D.int .i64 y1.Wait, D.int .i64 y1.Rise, D.int .i64 y1.Fall, D.int .i64 y1.Fresh, D.int .i64 y1.L_, D.int .i64 y1.M_, D.int .i64 y1.Dwell, D.int .i64 y1.D_, D.int .i64 y1.W_, D.int .i64 y1.B_, D.int .i64 y1.Hit, D.int .i64 y1.Suppress, D.int .i64 y1.Reuse, D.int .i64 y1.Half, D.int .i64 y1.First, D.int .i64 y1.Step, D.int .i64 y1.StepTime, D.int .i64 y1.S_, D.int .i64 y1.Cap, D.int .i64 y1.Span, D.int .i64 y1.Room, D.int .i64 y1.Tries, D.int .i64 y1.Retry], D.agg [D.int .i64 5, D.int .i64 2, D.int .i64 0, D.int .i64 1, D.int .i64 16, D.int .i64 0, D.int .i64 0, D.int .i64 0, D.int .u64 0, D.int .i64 0, D.bool false, D.int .i64 0, D.int .i64 0, D.int .i64 0, D.int .i64 0, D.int .i64 0, D.int .i64 0, D.int .i64 0, D.int .i64 0, D.int .u64 0, D.int .u64 0, D.sl false 1 [], D.sl false 1 [], D.sl false 1 [], D.sl false 1 [], D.sl false 1 []]]) (fun y4 => D.agg [D.int .i64 y4.Epoch, D.int .i64 y4.Ballot, D.int .i64 y4.Phase, D.int .i64 y4.Own.Epoch, D.int .i64 y4.Own.Target, D.int .i64 y4.Own.Prev, D.int .i64 y4.Own.Spill, D.int .i64 y4.Own.Percent, D.int .i64 y4.Own.Stamp, D.int .i64 y4.Own.Since, D.int .i64 y4.Own.Ramped, D.int .u64 y4.Own.Up, D.int .u64 y4.Own.Sup, D.sl false 1 (List.map (eInt .i64) y4.Own.Pen), D.sl false 1 (List.map (eInt .i64) y4.Own.Changes), D.int .i64 y4.Best, D.int .i64 y4.Value.Epoch, D.int .i64 y4.Value.Target, D.int .i64 y4.Value.Prev, D.int .i64 y4.Value.Spill, D.int .i64 y4.Value.Percent, D.int .i64 y4.Value.Stamp, D.int .i64 y4.Value.Since, D.int .i64 y4.Value.Ramped, D.int .u64 y4.Value.Up, D.int .u64 y4.Value.Sup, D.sl false 1 (List.map (eInt .i64) y4.Value.Pen), D.sl false 1 (List.map (eInt .i64) y4.Value.Changes), D.int .u64 y4.Promises, D.int .u64 y4.Accepts]) (fun y4 => []) h (by kernel_rfl) ⟨rfl, rfl⟩ ok4 (fun y4 h4 h => ?_)
  refine adv_ok hm 13 _ ?_
  refine p_split h (by kernel_rfl) (fun h5 h => ?_) (fun h5 h => ?_)
  · -- true
    refine adv_ok hm 9 _ ?_
    refine p_split h (by kernel_rfl) (fun h6 h => ?_) (fun h6 h => ?_)
    · -- true
      refine adv_ok hm 11 _ ?_
      refine p_split h (by kernel_rfl) (fun h7 h => ?_) (fun h7 h => ?_)
      · -- true
        refine adv_ok hm 11 _ ?_
        refine p_split h (by kernel_rfl) (fun h8 h => ?_) (fun h8 h => ?_)
        · -- true
          refine adv_ok hm 3 _ ?_
          have ok9 := fun (y : Bool) (hy : proposer_Most y1 3 = some y) => proposer_Most_ok hy
          refine p_callE [] (args1 := [D.agg [D.int .i64 y1.F_, D.int .i64 y1.Deciders, D.int .i64 y1.Targets, D.int .i64 y1.Routers, D.int .i64 y1.Observers, D.sl false 1 (List.map (eInt .i64) y1.Tiers), D.int .i64 y1.Every, D.int .i64 y1.Wait, D.int .i64 y1.Rise, D.int .i64 y1.Fall, D.int .i64 y1.Fresh, D.int .i64 y1.L_, D.int .i64 y1.M_, D.int .i64 y1.Dwell, D.int .i64 y1.D_, D.int .i64 y1.W_, D.int .i64 y1.B_, D.int .i64 y1.Hit, D.int .i64 y1.Suppress, D.int .i64 y1.Reuse, D.int .i64 y1.Half, D.int .i64 y1.First, D.int .i64 y1.Step, D.int .i64 y1.StepTime, D.int .i64 y1.S_, D.int .i64 y1.Cap, D.int .i64 y1.Span, D.int .i64 y1.Room, D.int .i64 y1.Tries, D.int .i64 y1.Retry], D.int .u64 3]) (args := [D.agg [D.int .i64 y1.F_, D.int .i64 y1.Deciders, D.int .i64 y1.Targets, D.int .i64 y1.Routers, D.int .i64 y1.Observers, D.sl false 1 (List.map (eInt .i64) y1.Tiers), D.int .i64 y1.Every, D.int .i64 y1.Wait, D.int .i64 y1.Rise, D.int .i64 y1.Fall, D.int .i64 y1.Fresh, D.int .i64 y1.L_, D.int .i64 y1.M_, D.int .i64 y1.Dwell, D.int .i64 y1.D_, D.int .i64 y1.W_, D.int .i64 y1.B_, D.int .i64 y1.Hit, D.int .i64 y1.Suppress, D.int .i64 y1.Reuse, D.int .i64 y1.Half, D.int .i64 y1.First, D.int .i64 y1.Step, D.int .i64 y1.StepTime, D.int .i64 y1.S_, D.int .i64 y1.Cap, D.int .i64 y1.Span, D.int .i64 y1.Room, D.int .i64 y1.Tries, D.int .i64 y1.Retry], D.int .u64 3]) (fun y9 => D.bool y9) (fun y9 => []) h (by kernel_rfl) ⟨rfl, rfl⟩ ok9 (fun y9 h9 h => ?_)
          refine adv_ok hm 4 _ ?_
          refine p_split h (by kernel_rfl) (fun h10 h => ?_) (fun h10 h => ?_)
          · -- true
            refine adv_ok hm 3 _ ?_
            have ok11 := fun (y : Bool) (hy : proposer_Most y1 9 = some y) => proposer_Most_ok hy
            refine p_callE [] (args1 := [D.agg [D.int .i64 y1.F_, D.int .i64 y1.Deciders, D.int .i64 y1.Targets, D.int .i64 y1.Routers, D.int .i64 y1.Observers, D.sl false 1 (List.map (eInt .i64) y1.Tiers), D.int .i64 y1.Every, D.int .i64 y1.Wait, D.int .i64 y1.Rise, D.int .i64 y1.Fall, D.int .i64 y1.Fresh, D.int .i64 y1.L_, D.int .i64 y1.M_, D.int .i64 y1.Dwell, D.int .i64 y1.D_, D.int .i64 y1.W_, D.int .i64 y1.B_, D.int .i64 y1.Hit, D.int .i64 y1.Suppress, D.int .i64 y1.Reuse, D.int .i64 y1.Half, D.int .i64 y1.First, D.int .i64 y1.Step, D.int .i64 y1.StepTime, D.int .i64 y1.S_, D.int .i64 y1.Cap, D.int .i64 y1.Span, D.int .i64 y1.Room, D.int .i64 y1.Tries, D.int .i64 y1.Retry], D.int .u64 9]) (args := [D.agg [D.int .i64 y1.F_, D.int .i64 y1.Deciders, D.int .i64 y1.Targets, D.int .i64 y1.Routers, D.int .i64 y1.Observers, D.sl false 1 (List.map (eInt .i64) y1.Tiers), D.int .i64 y1.Every, D.int .i64 y1.Wait, D.int .i64 y1.Rise, D.int .i64 y1.Fall, D.int .i64 y1.Fresh, D.int .i64 y1.L_, D.int .i64 y1.M_, D.int .i64 y1.Dwell, D.int .i64 y1.D_, D.int .i64 y1.W_, D.int .i64 y1.B_, D.int .i64 y1.Hit, D.int .i64 y1.Suppress, D.int .i64 y1.Reuse, D.int .i64 y1.Half, D.int .i64 y1.First, D.int .i64 y1.Step, D.int .i64 y1.StepTime, D.int .i64 y1.S_, D.int .i64 y1.Cap, D.int .i64 y1.Span, D.int .i64 y1.Room, D.int .i64 y1.Tries, D.int .i64 y1.Retry], D.int .u64 9]) (fun y11 => D.bool y11) (fun y11 => []) h (by kernel_rfl) ⟨rfl, rfl⟩ ok11 (fun y11 h11 h => ?_)
            refine adv_ok hm 7 _ ?_
            obtain rfl := Option.some.inj h
            exact r_retF [] (d := D.bool (!y11)) (s := []) (by kernel_rfl) ⟨rfl, rfl⟩
          · -- false
            refine adv_ok hm 9 _ ?_
            obtain rfl := Option.some.inj h
            exact r_retF [] (d := D.bool false) (s := []) (by kernel_rfl) ⟨rfl, rfl⟩
        · -- false
          refine adv_ok hm 16 _ ?_
          obtain rfl := Option.some.inj h
          exact r_retF [] (d := D.bool false) (s := []) (by kernel_rfl) ⟨rfl, rfl⟩
      · -- false
        refine adv_ok hm 27 _ ?_
        obtain rfl := Option.some.inj h
        exact r_retF [] (d := D.bool false) (s := []) (by kernel_rfl) ⟨rfl, rfl⟩
    · -- false
      refine adv_ok hm 38 _ ?_
      obtain rfl := Option.some.inj h
      exact r_retF [] (d := D.bool false) (s := []) (by kernel_rfl) ⟨rfl, rfl⟩
  · -- false
    refine adv_ok hm 47 _ ?_
    obtain rfl := Option.some.inj h
    exact r_retF [] (d := D.bool false) (s := []) (by kernel_rfl) ⟨rfl, rfl⟩
end Go.RX.L

set_option linter.unusedSimpArgs false
set_option linter.unusedVariables false
set_option maxRecDepth 100000
set_option maxHeartbeats 4000000
namespace Go.RX.L
open Go Go.RX Go.Proofs
def ref01_Same_Q (y : Bool) (d : D) (s : Sto) : Prop := d = D.bool y ∧ s = []
inductive ref01_Same_S where
  | s0 (a : List Int) (b : List Int)
  | s1 (a : List Int) (b : List Int) (i : Int)
noncomputable def ref01_Same_M : ref01_Same_S → M
  | .s0 a b => ⟨[.code (bodyOf Try.f22)], [(0, D.sl false 1 (List.map (eInt .i64) a)), (1, D.sl false 1 (List.map (eInt .i64) b))], []⟩
  | .s1 a b i => { td := [It.lpc (codeAt (bodyOf Try.f22) [1, 1, 0, 1, 0, 0]) 35, It.blk 0, It.code (codeAt (bodyOf Try.f22) [1, 1, 1])], fr := [(0, D.sl false 1 (List.map (eInt .i64) a)), (1, D.sl false 1 (List.map (eInt .i64) b)), (5, D.int .i64 i)], st := [] }
noncomputable def ref01_Same_0 (a : List Int) (b : List Int) : Option (ref01_Same_S ⊕ Bool) := (bif (((((List.map (eInt .i64) a).length : Nat) : Int) : Int) != (((List.map (eInt .i64) b).length : Nat) : Int)) then (some (.inr false)) else (some (.inl (.s1 a b 0))))
noncomputable def ref01_Same_1 (a : List Int) (b : List Int) (i : Int) : Option (ref01_Same_S ⊕ Bool) := (bif (decide ((i : Int) < (((List.map (eInt .i64) a).length : Nat) : Int))) then (bif ((decide ((0 : Int) ≤ i)) && (decide ((i : Int) < (((List.map (eInt .i64) a).length : Nat) : Int)))) then (((a)[i.toNat]?).bind fun y3 => (bif ((decide ((0 : Int) ≤ i)) && (decide ((i : Int) < (((List.map (eInt .i64) b).length : Nat) : Int)))) then (((b)[i.toNat]?).bind fun y6 => (bif ((y3 : Int) != y6) then (some (.inr false)) else (some (.inl (.s1 a b (IntKind.i64.wrap (i + 1))))))) else none)) else none) else (some (.inr true)))
noncomputable def ref01_Same_step : ref01_Same_S → Option (ref01_Same_S ⊕ Bool)
  | .s0 a b => ref01_Same_0 a b
  | .s1 a b i => ref01_Same_1 a b i
theorem ref01_Same_0_ok {a : List Int} {b : List Int} {r : Bool} {x : ref01_Same_S ⊕ Bool} (h : ref01_Same_0 a b = some x) (ha : After E ⟨Try.f22, false, 0⟩ ref01_Same_Q ref01_Same_M r x) : FinQ E ⟨Try.f22, false, 0⟩ (QW (ref01_Same_Q r)) (.go (ref01_Same_M (.s0 a b))) := by
  unfold ref01_Same_0 at h
  refine adv_ok hm 14 _ ?_
  refine p_split h (by kernel_rfl) (fun h1 h => ?_) (fun h1 h => ?_)
  · -- true
    refine adv_ok hm 5 _ ?_
    obtain rfl := Option.some.inj h
    have hv := ha
    simp only [After] at hv
    subst hv
    exact r_retF [] (d := D.bool false) (s := []) (by kernel_rfl) ⟨rfl, rfl⟩
  · -- false
    refine adv_ok hm 9 _ ?_
    obtain rfl := Option.some.inj h
    exact r_to (q' := .go (ref01_Same_M (.s1 a b 0))) (by kernel_rfl) ha
theorem ref01_Same_1_ok {a : List Int} {b : List Int} {i : Int} {r : Bool} {x : ref01_Same_S ⊕ Bool} (h : ref01_Same_1 a b i = some x) (ha : After E ⟨Try.f22, false, 0⟩ ref01_Same_Q ref01_Same_M r x) : FinQ E ⟨Try.f22, false, 0⟩ (QW (ref01_Same_Q r)) (.go (ref01_Same_M (.s1 a b i))) := by
  unfold ref01_Same_1 at h
  refine adv_ok hm 10 _ ?_
  refine p_split h (by kernel_rfl) (fun h1 h => ?_) (fun h1 h => ?_)
  · -- true
    refine adv_ok hm 5 _ ?_
    refine p_need h (by kernel_rfl) (fun h2 h => ?_)
    refine p_row (((List.map (eInt .i64) a))[i.toNat]?) (eInt .i64) h (by kernel_rfl) List.getElem?_map (fun y3 h4 h => ?_)
    refine p_need h (by kernel_rfl) (fun h5 h => ?_)
    refine p_row (((List.map (eInt .i64) b))[i.toNat]?) (eInt .i64) h (by kernel_rfl) List.getElem?_map (fun y6 h7 h => ?_)
    refine adv_ok hm 1 _ ?_
    refine p_split h (by kernel_rfl) (fun h8 h => ?_) (fun h8 h => ?_)
    · -- true
      refine adv_ok hm 5 _ ?_
      obtain rfl := Option.some.inj h
      have hv := ha
      simp only [After] at hv
      subst hv
      exact r_retF [] (d := D.bool false) (s := []) (by kernel_rfl) ⟨rfl, rfl⟩
    · -- false
      refine adv_ok hm 8 _ ?_
      obtain rfl := Option.some.inj h
      exact r_to (q' := .go (ref01_Same_M (.s1 a b (IntKind.i64.wrap (i + 1))))) (by kernel_rfl) ha
  · -- false
    refine adv_ok hm 6 _ ?_
    obtain rfl := Option.some.inj h
    have hv := ha
    simp only [After] at hv
    subst hv
    exact r_retF [] (d := D.bool true) (s := []) (by kernel_rfl) ⟨rfl, rfl⟩
theorem ref01_Same_ev {a : List Int} {b : List Int} {r : Bool} (h : Ev ref01_Same_step (.s0 a b) r) : Sound E 22 [D.sl false 1 (List.map (eInt .i64) a), D.sl false 1 (List.map (eInt .i64) b)] [] (ref01_Same_Q r) :=
  sound_ofW (m := ref01_Same_M (.s0 a b)) (fn := Try.f22) (by kernel_rfl) (by kernel_rfl) (ev_run (C := ⟨Try.f22, false, 0⟩) (fun s x r hs ha => by
    cases s with
    | s0 => exact ref01_Same_0_ok hs ha
    | s1 => exact ref01_Same_1_ok hs ha) h)
noncomputable def ref01_Same (a : List Int) (b : List Int) : Option Bool := evf ref01_Same_step (.s0 a b)
theorem ref01_Same_ok {a : List Int} {b : List Int} {r : Bool} (h : ref01_Same a b = some r) : Sound E 22 [D.sl false 1 (List.map (eInt .i64) a), D.sl false 1 (List.map (eInt .i64) b)] [] (ref01_Same_Q r) := ref01_Same_ev (evf_ev h)
end Go.RX.L

set_option linter.unusedSimpArgs false
set_option linter.unusedVariables false
set_option maxRecDepth 100000
set_option maxHeartbeats 4000000
namespace Go.RX.L
open Go Go.RX Go.Proofs
def ref04_Same_Q (y : Bool) (d : D) (s : Sto) : Prop := d = D.bool y ∧ s = []
inductive ref04_Same_S where
  | s0 (a : Plan) (b : Plan)
  | s1 (t82 : Bool) (a : Plan) (b : Plan)
  | s2 (i : Int) (a : Plan) (b : Plan)
noncomputable def ref04_Same_M : ref04_Same_S → M
  | .s0 a b => ⟨[.code (bodyOf Try.f11)], [(0, D.agg [D.int .i64 a.Epoch, D.int .i64 a.Target, D.int .i64 a.Prev, D.int .i64 a.Spill, D.int .i64 a.Percent, D.int .i64 a.Stamp, D.int .i64 a.Since, D.int .i64 a.Ramped, D.int .u64 a.Up, D.int .u64 a.Sup, D.sl false 1 (List.map (eInt .i64) a.Pen), D.sl false 1 (List.map (eInt .i64) a.Changes)]), (1, D.agg [D.int .i64 b.Epoch, D.int .i64 b.Target, D.int .i64 b.Prev, D.int .i64 b.Spill, D.int .i64 b.Percent, D.int .i64 b.Stamp, D.int .i64 b.Since, D.int .i64 b.Ramped, D.int .u64 b.Up, D.int .u64 b.Sup, D.sl false 1 (List.map (eInt .i64) b.Pen), D.sl false 1 (List.map (eInt .i64) b.Changes)])], []⟩
  | .s1 t82 a b => { td := [It.code (codeAt (bodyOf Try.f11) [1, 0, 1]), It.code (codeAt (bodyOf Try.f11) [1, 1])], fr := [(2, D.ptr 0 0 0), (3, D.ptr 1 0 0), (82, D.bool t82)], st := [some { sz := 12, deep := false, rows := [[D.int .i64 a.Epoch, D.int .i64 a.Target, D.int .i64 a.Prev, D.int .i64 a.Spill, D.int .i64 a.Percent, D.int .i64 a.Stamp, D.int .i64 a.Since, D.int .i64 a.Ramped, D.int .u64 a.Up, D.int .u64 a.Sup, D.sl false 1 (List.map (eInt .i64) a.Pen), D.sl false 1 (List.map (eInt .i64) a.Changes)]] }, some { sz := 12, deep := false, rows := [[D.int .i64 b.Epoch, D.int .i64 b.Target, D.int .i64 b.Prev, D.int .i64 b.Spill, D.int .i64 b.Percent, D.int .i64 b.Stamp, D.int .i64 b.Since, D.int .i64 b.Ramped, D.int .u64 b.Up, D.int .u64 b.Sup, D.sl false 1 (List.map (eInt .i64) b.Pen), D.sl false 1 (List.map (eInt .i64) b.Changes)]] }] }
  | .s2 i a b => { td := [It.lpc (codeAt (bodyOf Try.f11) [1, 1, 0, 1, 0, 0]) 44, It.blk 0, It.code (codeAt (bodyOf Try.f11) [1, 1, 1])], fr := [(2, D.ptr 0 0 0), (3, D.ptr 1 0 0), (5, D.int .i64 i)], st := [some { sz := 12, deep := false, rows := [[D.int .i64 a.Epoch, D.int .i64 a.Target, D.int .i64 a.Prev, D.int .i64 a.Spill, D.int .i64 a.Percent, D.int .i64 a.Stamp, D.int .i64 a.Since, D.int .i64 a.Ramped, D.int .u64 a.Up, D.int .u64 a.Sup, D.sl false 1 (List.map (eInt .i64) a.Pen), D.sl false 1 (List.map (eInt .i64) a.Changes)]] }, some { sz := 12, deep := false, rows := [[D.int .i64 b.Epoch, D.int .i64 b.Target, D.int .i64 b.Prev, D.int .i64 b.Spill, D.int .i64 b.Percent, D.int .i64 b.Stamp, D.int .i64 b.Since, D.int .i64 b.Ramped, D.int .u64 b.Up, D.int .u64 b.Sup, D.sl false 1 (List.map (eInt .i64) b.Pen), D.sl false 1 (List.map (eInt .i64) b.Changes)]] }] }
noncomputable def ref04_Same_0 (a : Plan) (b : Plan) : Option (ref04_Same_S ⊕ Bool) := (bif ((a.Epoch : Int) != b.Epoch) then (some (.inl (.s1 true a b))) else (bif ((a.Target : Int) != b.Target) then (some (.inl (.s1 true a b))) else (bif ((a.Prev : Int) != b.Prev) then (some (.inl (.s1 true a b))) else (bif ((a.Spill : Int) != b.Spill) then (some (.inl (.s1 true a b))) else (bif ((a.Percent : Int) != b.Percent) then (some (.inl (.s1 true a b))) else (bif ((a.Stamp : Int) != b.Stamp) then (some (.inl (.s1 true a b))) else (bif ((a.Since : Int) != b.Since) then (some (.inl (.s1 true a b))) else (bif ((a.Ramped : Int) != b.Ramped) then (some (.inl (.s1 true a b))) else (bif ((a.Up : Int) != b.Up) then (some (.inl (.s1 true a b))) else (bif ((a.Sup : Int) != b.Sup) then (some (.inl (.s1 true a b))) else (some (.inl (.s1 (((((List.map (eInt .i64) a.Pen).length : Nat) : Int) : Int) != (((List.map (eInt .i64) b.Pen).length : Nat) : Int)) a b)))))))))))))
noncomputable def ref04_Same_1 (t82 : Bool) (a : Plan) (b : Plan) : Option (ref04_Same_S ⊕ Bool) := (bif t82 then (some (.inr false)) else (some (.inl (.s2 0 a b))))
noncomputable def ref04_Same_2 (i : Int) (a : Plan) (b : Plan) : Option (ref04_Same_S ⊕ Bool) := (bif (decide ((i : Int) < (((List.map (eInt .i64) a.Pen).length : Nat) : Int))) then (bif ((decide ((0 : Int) ≤ i)) && (decide ((i : Int) < (((List.map (eInt .i64) a.Pen).length : Nat) : Int)))) then (((a.Pen)[i.toNat]?).bind fun y3 => (bif ((decide ((0 : Int) ≤ i)) && (decide ((i : Int) < (((List.map (eInt .i64) b.Pen).length : Nat) : Int)))) then (((b.Pen)[i.toNat]?).bind fun y6 => (bif ((y3 : Int) != y6) then (some (.inr false)) else (some (.inl (.s2 (IntKind.i64.wrap (i + 1)) a b))))) else none)) else none) else ((ref01_Same a.Changes b.Changes).bind fun y9 => (some (.inr y9))))
noncomputable def ref04_Same_step : ref04_Same_S → Option (ref04_Same_S ⊕ Bool)
  | .s0 a b => ref04_Same_0 a b
  | .s1 t82 a b => ref04_Same_1 t82 a b
  | .s2 i a b => ref04_Same_2 i a b
theorem ref04_Same_0_ok {a : Plan} {b : Plan} {r : Bool} {x : ref04_Same_S ⊕ Bool} (h : ref04_Same_0 a b = some x) (ha : After E ⟨Try.f11, false, 0⟩ ref04_Same_Q ref04_Same_M r x) : FinQ E ⟨Try.f11, false, 0⟩ (QW (ref04_Same_Q r)) (.go (ref04_Same_M (.s0 a b))) := by
  unfold ref04_Same_0 at h
  refine adv_ok hm 18 _ ?_
  refine p_split h (by kernel_rfl) (fun h1 h => ?_) (fun h1 h => ?_)
  · -- true
    refine adv_ok hm 132 _ ?_
    obtain rfl := Option.some.inj h
    exact r_cut 4835703278458516698824716 [] (m' := (ref04_Same_M (.s1 true a b))) (by kernel_rfl) ha
  · -- false
    refine adv_ok hm 14 _ ?_
    refine p_split h (by kernel_rfl) (fun h2 h => ?_) (fun h2 h => ?_)
    · -- true
      refine adv_ok hm 119 _ ?_
      obtain rfl := Option.some.inj h
      exact r_cut 4835703278458516698824716 [] (m' := (ref04_Same_M (.s1 true a b))) (by kernel_rfl) ha
    · -- false
      refine adv_ok hm 14 _ ?_
      refine p_split h (by kernel_rfl) (fun h3 h => ?_) (fun h3 h => ?_)
      · -- true
        refine adv_ok hm 106 _ ?_
        obtain rfl := Option.some.inj h
        exact r_cut 4835703278458516698824716 [] (m' := (ref04_Same_M (.s1 true a b))) (by kernel_rfl) ha
      · -- false
        refine adv_ok hm 14 _ ?_
        refine p_split h (by kernel_rfl) (fun h4 h => ?_) (fun h4 h => ?_)
        · -- true
          refine adv_ok hm 93 _ ?_
          obtain rfl := Option.some.inj h
          exact r_cut 4835703278458516698824716 [] (m' := (ref04_Same_M (.s1 true a b))) (by kernel_rfl) ha
        · -- false
          refine adv_ok hm 14 _ ?_
          refine p_split h (by kernel_rfl) (fun h5 h => ?_) (fun h5 h => ?_)
          · -- true
            refine adv_ok hm 80 _ ?_
            obtain rfl := Option.some.inj h
            exact r_cut 4835703278458516698824716 [] (m' := (ref04_Same_M (.s1 true a b))) (by kernel_rfl) ha
          · -- false
            refine adv_ok hm 14 _ ?_
            refine p_split h (by kernel_rfl) (fun h6 h => ?_) (fun h6 h => ?_)
            · -- true
              refine adv_ok hm 67 _ ?_
              obtain rfl := Option.some.inj h
              exact r_cut 4835703278458516698824716 [] (m' := (ref04_Same_M (.s1 true a b))) (by kernel_rfl) ha
            · -- false
              refine adv_ok hm 14 _ ?_
              refine p_split h (by kernel_rfl) (fun h7 h => ?_) (fun h7 h => ?_)
              · -- true
                refine adv_ok hm 54 _ ?_
                obtain rfl := Option.some.inj h
                exact r_cut 4835703278458516698824716 [] (m' := (ref04_Same_M (.s1 true a b))) (by kernel_rfl) ha
              · -- false
                refine adv_ok hm 14 _ ?_
                refine p_split h (by kernel_rfl) (fun h8 h => ?_) (fun h8 h => ?_)
                · -- true
                  refine adv_ok hm 41 _ ?_
                  obtain rfl := Option.some.inj h
                  exact r_cut 4835703278458516698824716 [] (m' := (ref04_Same_M (.s1 true a b))) (by kernel_rfl) ha
                · -- false
                  refine adv_ok hm 14 _ ?_
                  refine p_split h (by kernel_rfl) (fun h9 h => ?_) (fun h9 h => ?_)
                  · -- true
                    refine adv_ok hm 28 _ ?_
                    obtain rfl := Option.some.inj h
                    exact r_cut 4835703278458516698824716 [] (m' := (ref04_Same_M (.s1 true a b))) (by kernel_rfl) ha
                  · -- false
                    refine adv_ok hm 14 _ ?_
                    refine p_split h (by kernel_rfl) (fun h10 h => ?_) (fun h10 h => ?_)
                    · -- true
                      refine adv_ok hm 15 _ ?_
                      obtain rfl := Option.some.inj h
                      exact r_cut 4835703278458516698824716 [] (m' := (ref04_Same_M (.s1 true a b))) (by kernel_rfl) ha
                    · -- false
                      refine adv_ok hm 17 _ ?_
                      obtain rfl := Option.some.inj h
                      exact r_cut 4835703278458516698824716 [] (m' := (ref04_Same_M (.s1 (((((List.map (eInt .i64) a.Pen).length : Nat) : Int) : Int) != (((List.map (eInt .i64) b.Pen).length : Nat) : Int)) a b))) (by kernel_rfl) ha
theorem ref04_Same_1_ok {t82 : Bool} {a : Plan} {b : Plan} {r : Bool} {x : ref04_Same_S ⊕ Bool} (h : ref04_Same_1 t82 a b = some x) (ha : After E ⟨Try.f11, false, 0⟩ ref04_Same_Q ref04_Same_M r x) : FinQ E ⟨Try.f11, false, 0⟩ (QW (ref04_Same_Q r)) (.go (ref04_Same_M (.s1 t82 a b))) := by
  unfold ref04_Same_1 at h
  refine adv_ok hm 1 _ ?_
  refine p_split h (by kernel_rfl) (fun h1 h => ?_) (fun h1 h => ?_)
  · -- true
    refine adv_ok hm 5 _ ?_
    obtain rfl := Option.some.inj h
    have hv := ha
    simp only [After] at hv
    subst hv
    exact r_retF [] (d := D.bool false) (s := []) (by kernel_rfl) ⟨rfl, rfl⟩
  · -- false
    refine adv_ok hm 9 _ ?_
    obtain rfl := Option.some.inj h
    exact r_to (q' := .go (ref04_Same_M (.s2 0 a b))) (by kernel_rfl) ha
theorem ref04_Same_2_ok {i : Int} {a : Plan} {b : Plan} {r : Bool} {x : ref04_Same_S ⊕ Bool} (h : ref04_Same_2 i a b = some x) (ha : After E ⟨Try.f11, false, 0⟩ ref04_Same_Q ref04_Same_M r x) : FinQ E ⟨Try.f11, false, 0⟩ (QW (ref04_Same_Q r)) (.go (ref04_Same_M (.s2 i a b))) := by
  unfold ref04_Same_2 at h
  refine adv_ok hm 12 _ ?_
  refine p_split h (by kernel_rfl) (fun h1 h => ?_) (fun h1 h => ?_)
  · -- true
    refine adv_ok hm 6 _ ?_
    refine p_need h (by kernel_rfl) (fun h2 h => ?_)
    refine p_row (((List.map (eInt .i64) a.Pen))[i.toNat]?) (eInt .i64) h (by kernel_rfl) List.getElem?_map (fun y3 h4 h => ?_)
    refine adv_ok hm 1 _ ?_
    refine p_need h (by kernel_rfl) (fun h5 h => ?_)
    refine p_row (((List.map (eInt .i64) b.Pen))[i.toNat]?) (eInt .i64) h (by kernel_rfl) List.getElem?_map (fun y6 h7 h => ?_)
    refine adv_ok hm 1 _ ?_
    refine p_split h (by kernel_rfl) (fun h8 h => ?_) (fun h8 h => ?_)
    · -- true
      refine adv_ok hm 5 _ ?_
      obtain rfl := Option.some.inj h
      have hv := ha
      simp only [After] at hv
      subst hv
      exact r_retF [] (d := D.bool false) (s := []) (by kernel_rfl) ⟨rfl, rfl⟩
    · -- false
      refine adv_ok hm 8 _ ?_
      obtain rfl := Option.some.inj h
      exact r_to (q' := .go (ref04_Same_M (.s2 (IntKind.i64.wrap (i + 1)) a b))) (by kernel_rfl) ha
  · -- false
    refine adv_ok hm 10 _ ?_
    have ok9 := fun (y : Bool) (hy : ref01_Same a.Changes b.Changes = some y) => ref01_Same_ok hy
    refine p_callE [] (args1 := [D.sl false 1 (List.map (eInt .i64) a.Changes), D.sl false 1 (List.map (eInt .i64) b.Changes)]) (args := [D.sl false 1 (List.map (eInt .i64) a.Changes), D.sl false 1 (List.map (eInt .i64) b.Changes)]) (fun y9 => D.bool y9) (fun y9 => []) h (by kernel_rfl) ⟨rfl, rfl⟩ ok9 (fun y9 h9 h => ?_)
    refine adv_ok hm 3 _ ?_
    obtain rfl := Option.some.inj h
    have hv := ha
    simp only [After] at hv
    subst hv
    exact r_retF [] (d := D.bool y9) (s := []) (by kernel_rfl) ⟨rfl, rfl⟩
theorem ref04_Same_ev {a : Plan} {b : Plan} {r : Bool} (h : Ev ref04_Same_step (.s0 a b) r) : Sound E 11 [D.agg [D.int .i64 a.Epoch, D.int .i64 a.Target, D.int .i64 a.Prev, D.int .i64 a.Spill, D.int .i64 a.Percent, D.int .i64 a.Stamp, D.int .i64 a.Since, D.int .i64 a.Ramped, D.int .u64 a.Up, D.int .u64 a.Sup, D.sl false 1 (List.map (eInt .i64) a.Pen), D.sl false 1 (List.map (eInt .i64) a.Changes)], D.agg [D.int .i64 b.Epoch, D.int .i64 b.Target, D.int .i64 b.Prev, D.int .i64 b.Spill, D.int .i64 b.Percent, D.int .i64 b.Stamp, D.int .i64 b.Since, D.int .i64 b.Ramped, D.int .u64 b.Up, D.int .u64 b.Sup, D.sl false 1 (List.map (eInt .i64) b.Pen), D.sl false 1 (List.map (eInt .i64) b.Changes)]] [] (ref04_Same_Q r) :=
  sound_ofW (m := ref04_Same_M (.s0 a b)) (fn := Try.f11) (by kernel_rfl) (by kernel_rfl) (ev_run (C := ⟨Try.f11, false, 0⟩) (fun s x r hs ha => by
    cases s with
    | s0 => exact ref04_Same_0_ok hs ha
    | s1 => exact ref04_Same_1_ok hs ha
    | s2 => exact ref04_Same_2_ok hs ha) h)
noncomputable def ref04_Same (a : Plan) (b : Plan) : Option Bool := evf ref04_Same_step (.s0 a b)
theorem ref04_Same_ok {a : Plan} {b : Plan} {r : Bool} (h : ref04_Same a b = some r) : Sound E 11 [D.agg [D.int .i64 a.Epoch, D.int .i64 a.Target, D.int .i64 a.Prev, D.int .i64 a.Spill, D.int .i64 a.Percent, D.int .i64 a.Stamp, D.int .i64 a.Since, D.int .i64 a.Ramped, D.int .u64 a.Up, D.int .u64 a.Sup, D.sl false 1 (List.map (eInt .i64) a.Pen), D.sl false 1 (List.map (eInt .i64) a.Changes)], D.agg [D.int .i64 b.Epoch, D.int .i64 b.Target, D.int .i64 b.Prev, D.int .i64 b.Spill, D.int .i64 b.Percent, D.int .i64 b.Stamp, D.int .i64 b.Since, D.int .i64 b.Ramped, D.int .u64 b.Up, D.int .u64 b.Sup, D.sl false 1 (List.map (eInt .i64) b.Pen), D.sl false 1 (List.map (eInt .i64) b.Changes)]] [] (ref04_Same_Q r) := ref04_Same_ev (evf_ev h)
end Go.RX.L

set_option linter.unusedSimpArgs false
set_option linter.unusedVariables false
namespace Go.RX.L
open Go Go.RX

/-! ### plans alike -/
theorem short {l : List Int} (h : l.length * 8 ≤ reachBytes) : l.length < 9223372036854775807 := by
  have : reachBytes = 140737488351232 ∨ reachBytes ≤ 140737488355328 := .inr (by decide)
  rcases this with e | e <;> omega

theorem ref01_loop (l : List Int) (hl : l.length < 9223372036854775807) : ∀ (j k : Nat), k + j = l.length → Ev ref01_Same_step (.s1 l l k) true := by
  intro j
  induction j with
  | zero =>
    intro k hk
    refine .done ?_
    simp only [ref01_Same_step, ref01_Same_1, List.length_map, geB (show l.length ≤ k by omega), cond_false]
  | succ j ih =>
    intro k hk
    have hkl : k < l.length := by omega
    refine .next (s' := .s1 l l ((k + 1 : Nat) : Int)) ?_ (ih (k + 1) (by omega))
    simp only [ref01_Same_step, ref01_Same_1, List.length_map, ltB hkl, le0, Bool.and_self, cond_true, Int.toNat_natCast, List.getElem?_eq_getElem hkl, Option.bind_some, bne_self_eq_false, cond_false, wS (show k < 9223372036854775807 by omega)]
theorem ref01_refl (l : List Int) (hl : l.length < 9223372036854775807) : ref01_Same l l = some true :=
  evf_of (.next (s' := .s1 l l (0 : Nat)) (by simp [ref01_Same_step, ref01_Same_0]) (ref01_loop l hl l.length 0 (by omega)))

theorem ref04_loop (a : Plan) (h1 : a.Pen.length < 9223372036854775807) (h2 : a.Changes.length < 9223372036854775807) : ∀ (j k : Nat), k + j = a.Pen.length → Ev ref04_Same_step (.s2 k a a) true := by
  intro j
  induction j with
  | zero =>
    intro k hk
    refine .done ?_
    simp only [ref04_Same_step, ref04_Same_2, List.length_map, geB (show a.Pen.length ≤ k by omega), cond_false, ref01_refl _ h2, Option.bind_some]
  | succ j ih =>
    intro k hk
    have hkl : k < a.Pen.length := by omega
    refine .next (s' := .s2 ((k + 1 : Nat) : Int) a a) ?_ (ih (k + 1) (by omega))
    simp only [ref04_Same_step, ref04_Same_2, List.length_map, ltB hkl, le0, Bool.and_self, cond_true, Int.toNat_natCast, List.getElem?_eq_getElem hkl, Option.bind_some, bne_self_eq_false, cond_false, wS (show k < 9223372036854775807 by omega)]

def Shrt (a : Plan) : Prop := a.Pen.length < 9223372036854775807 ∧ a.Changes.length < 9223372036854775807
theorem Plan.Ok.shrt {a : Plan} (h : a.Ok) : Shrt a := by
  obtain ⟨-, -, -, -, -, -, -, -, -, -, h1, h2⟩ := h
  exact ⟨short h1.1, short h2.1⟩
theorem ref04_refl (a : Plan) (h : Shrt a) : ref04_Same a a = some true := by
  refine evf_of (.next (s' := .s1 false a a) ?_ (.next (s' := .s2 (0 : Nat) a a) rfl (ref04_loop a h.1 h.2 a.Pen.length 0 (by omega))))
  simp [ref04_Same_step, ref04_Same_0]

/-! ### promises -/
def toP (p : GProp) (c : Config) (m : Msg) (k f : Int) : Bool := decide (p.Phase = f) && (decide (m.Kind = k) && (decide (m.Epoch = p.Epoch) && (decide (m.Ballot = p.Ballot) && (decide (m.From ≥ 0) && decide (m.From ≤ 2 * (fN c : Int))))))
def wellP (p : GProp) (m : Msg) : Bool := !(m.HasPlan && decide (m.Plan.Epoch ≠ p.Epoch))
def orP (g : Int) (k : Nat) : Int := ((g.toNat ||| 2 ^ k : Nat) : Int)
def st1 (p : GProp) (m : Msg) : GProp := ⟨p.Epoch, p.Ballot, p.Phase, p.Own, p.Best, p.Value, orP p.Promises m.From.toNat, p.Accepts⟩
def st2 (p : GProp) (m : Msg) : GProp := bif m.HasPlan && decide (m.Accepted > p.Best) then ⟨p.Epoch, p.Ballot, p.Phase, p.Own, m.Accepted, m.Plan, p.Promises, p.Accepts⟩ else p
def st3 (p : GProp) (c : Config) : GProp := bif mostP c p.Promises.toNat then ⟨p.Epoch, p.Ballot, 2, p.Own, p.Best, bif decide (p.Best = 0) then p.Own else p.Value, p.Promises, p.Accepts⟩ else p
def promiseP (p : GProp) (c : Config) (m : Msg) : GProp := bif toP p c m 5 1 && wellP p m then st3 (st2 (st1 p m) m) c else p
def acceptedP (p : GProp) (c : Config) (m : Msg) : GProp := bif toP p c m 8 2 then ⟨p.Epoch, p.Ballot, bif mostP c (orP p.Accepts m.From.toNat).toNat then 3 else p.Phase, p.Own, p.Best, p.Value, p.Promises, orP p.Accepts m.From.toNat⟩ else p

theorem to_ok (p : GProp) (c : Config) (m : Msg) (k f : Int) : proposer_to_1 m k f p c = some (toP p c m k f) := by
  have hf := fN_le c
  have e2 : IntKind.i64.wrap ((2 : Int) * (fN c : Int)) = 2 * (fN c : Int) := wI64 (by omega) (by omega)
  unfold proposer_to_1 proposer_more toP
  simp only [Option.bind_some, fN_eq, e2]
  by_cases h1 : p.Phase = f
  · by_cases h2 : m.Kind = k
    · by_cases h3 : m.Epoch = p.Epoch
      · by_cases h4 : m.Ballot = p.Ballot
        · by_cases h5 : m.From ≥ 0
          · simp [h1, h2, h3, h4, h5]
          · simp [h1, h2, h3, h4, h5]
        · simp [h1, h2, h3, h4, beq_eq_false_iff_ne.2 h4]
      · simp [h1, h2, h3, beq_eq_false_iff_ne.2 h3]
    · simp [h1, h2, beq_eq_false_iff_ne.2 h2]
  · simp [h1, beq_eq_false_iff_ne.2 h1]

theorem to_from {p : GProp} {c : Config} {m : Msg} {k f : Int} (h : toP p c m k f = true) : 0 ≤ m.From ∧ m.From ≤ 2 * (fN c : Int) := by
  simp only [toP, Bool.and_eq_true, decide_eq_true_eq] at h
  omega

theorem orP_ok {g : Int} {m : Msg} {c : Config} (hg : inK .u64 g) (h : 0 ≤ m.From ∧ m.From ≤ 2 * (fN c : Int)) : orI .u64 g (shlI .u64 1 m.From) = orP g m.From.toNat ∧ inK .u64 (orP g m.From.toNat) ∧ (orP g m.From.toNat).toNat < 18446744073709551616 := by
  have hf := fN_le c
  have hg' := inU64.1 hg
  obtain ⟨k, hk⟩ := Int.eq_ofNat_of_zero_le h.1
  obtain ⟨n, rfl⟩ := Int.eq_ofNat_of_zero_le hg'.1
  have hn : n < 18446744073709551616 := by omega
  have hp : (2 : Nat) ^ k ≤ 2 ^ 6 := Nat.pow_le_pow_right (by decide) (by omega)
  have hlt := or_lt hn (show k ≤ 6 by omega)
  unfold orP
  rw [hk, shlI64 (by omega), orI64 hn (by omega)]
  simp only [Int.toNat_natCast]
  exact ⟨trivial, inU64.2 (by omega), hlt⟩

theorem st3_ok {p : GProp} {c : Config} {b : GProp} (hg : inK .u64 p.Promises) : proposer_Promise_2 p c b = some (st3 p c) := by
  have hg' := inU64.1 hg
  unfold proposer_Promise_2 st3
  obtain ⟨n, hn⟩ := Int.eq_ofNat_of_zero_le hg'.1
  rw [hn, most_ok c (by omega)]
  simp only [Int.toNat_natCast, Option.bind_some]
  cases mostP c n with
  | false => rfl
  | true =>
    by_cases h : p.Best = 0
    · simp [h]
    · simp [h, beq_eq_false_iff_ne.2 h]

theorem promise_ok (p : GProp) (c : Config) (m : Msg) (hp : inK .u64 p.Promises) : proposer_Promise p c m = some (promiseP p c m) := by
  have yes : ∀ b, toP p c m 5 1 = true → proposer_Promise_1 false p c m b = some (st3 (st2 (st1 p m) m) c) := fun b h => by
    have hf := to_from h
    obtain ⟨o1, o2, o3⟩ := orP_ok hp hf
    unfold proposer_Promise_1 proposer_Promise_3
    rw [o1]
    have nn : (!decide (m.From < 0)) = true := by simp; omega
    simp only [cond_false, nn, cond_true]
    cases hh : m.HasPlan with
    | false =>
      simp only [cond_false]
      refine (st3_ok (p := st1 p m) o2).trans ?_
      unfold st2
      rw [hh]
      rfl
    | true =>
      simp only [cond_true]
      have e : decide (m.Accepted > (st1 p m).Best) = decide (m.Accepted > p.Best) := rfl
      unfold st2
      rw [hh, e]
      cases decide (m.Accepted > p.Best) with
      | false =>
        simp only [cond_false, Bool.and_false]
        exact st3_ok (p := st1 p m) o2
      | true =>
        simp only [cond_true, Bool.and_true]
        exact st3_ok (p := ⟨p.Epoch, p.Ballot, p.Phase, p.Own, m.Accepted, m.Plan, orP p.Promises m.From.toNat, p.Accepts⟩) o2
  have no : ∀ b, proposer_Promise_1 true p c m b = some p := fun b => rfl
  have e0 : proposer_to p c = some (p, c) := rfl
  unfold proposer_Promise promiseP
  rw [e0]
  simp only [Option.bind_some, to_ok]
  cases ht : toP p c m 5 1 with
  | false => simp [no]
  | true =>
    simp only [Bool.not_true, cond_false, Bool.true_and]
    unfold wellP
    cases hh : m.HasPlan with
    | false => simp [yes _ ht]
    | true =>
      by_cases h : m.Plan.Epoch = p.Epoch
      · simp [h, yes _ ht]
      · have hb : (m.Plan.Epoch != p.Epoch) = true := by simpa using h
        simp [h, hb, no]

theorem accepted_ok (p : GProp) (c : Config) (m : Msg) (hp : inK .u64 p.Accepts) : proposer_Accepted p c m = some (acceptedP p c m) := by
  have e0 : proposer_to p c = some (p, c) := rfl
  unfold proposer_Accepted acceptedP
  rw [e0]
  simp only [Option.bind_some, to_ok]
  cases ht : toP p c m 8 2 with
  | false => rfl
  | true =>
    have hf := to_from ht
    obtain ⟨o1, o2, o3⟩ := orP_ok hp hf
    have nn : (!decide (m.From < 0)) = true := by simp; omega
    rw [o1]
    simp only [Bool.not_true, cond_false, nn, cond_true]
    obtain ⟨n, hn⟩ := Int.eq_ofNat_of_zero_le (inU64.1 o2).1
    rw [hn]
    rw [hn, Int.toNat_natCast] at o3
    rw [most_ok c o3]
    simp only [Option.bind_some, Int.toNat_natCast]
    cases mostP c n <;> rfl

def setE (a : Plan) (e : Int) : Plan := ⟨e, a.Target, a.Prev, a.Spill, a.Percent, a.Stamp, a.Since, a.Ramped, a.Up, a.Sup, a.Pen, a.Changes⟩
def zeroP : Plan := ⟨0, 0, 0, 0, 0, 0, 0, 0, 0, 0, [], []⟩
theorem start_ok (e b : Int) (own : Plan) : proposer_Start e b own = some ⟨e, b, 1, setE own e, 0, zeroP, 0, 0⟩ := rfl

theorem st3_u64 {p : GProp} {c : Config} (h : inK .u64 p.Promises) : inK .u64 (st3 p c).Promises := by
  unfold st3; cases mostP c p.Promises.toNat <;> exact h
theorem st3_prom {p : GProp} {c : Config} : (st3 p c).Promises = p.Promises := by
  unfold st3; cases mostP c p.Promises.toNat <;> rfl
theorem st2_prom {p : GProp} {m : Msg} : (st2 p m).Promises = p.Promises := by
  unfold st2; cases (m.HasPlan && decide (m.Accepted > p.Best)) <;> rfl
theorem promise_u64 {p : GProp} (c : Config) (m : Msg) (h : inK .u64 p.Promises) : inK .u64 (promiseP p c m).Promises := by
  unfold promiseP
  cases hc : toP p c m 5 1 && wellP p m with
  | false => exact h
  | true =>
    simp only [Bool.and_eq_true] at hc
    simp only [cond_true]
    rw [st3_prom, st2_prom]
    exact (orP_ok h (to_from hc.1)).2.1
theorem accepted_u64 {p : GProp} (c : Config) (m : Msg) (h : inK .u64 p.Accepts) : inK .u64 (acceptedP p c m).Accepts := by
  unfold acceptedP
  cases hc : toP p c m 8 2 with
  | false => exact h
  | true => exact (orP_ok h (to_from hc)).2.1

def plainC : Config := ⟨1, 2, 2, 1, 3, [1, 0], 5, 3, 2, 2, 20, 20, 5, 10, 3, 50, 3, 1000, 1500, 700, 30, 20, 40, 5, 10, 5, 10, 4, 3, 5⟩
theorem plain_ok : law13_Plain = some plainC := rfl

theorem head_ok : law16_head = some true := by
  have z : inK .u64 0 := inU64.2 (by omega)
  unfold law16_head
  rw [plain_ok]
  simp only [Option.bind_some, start_ok]
  rw [promise_ok _ _ _ z]
  simp only [Option.bind_some]
  rw [promise_ok _ _ _ (promise_u64 _ _ z)]
  simp only [Option.bind_some]
  have m1 := most_ok plainC (g := 3) (by omega)
  have m2 := most_ok plainC (g := 9) (by omega)
  rw [show (3 : Int) = ((3 : Nat) : Int) from rfl, show (9 : Int) = ((9 : Nat) : Int) from rfl, m1, m2]
  decide
end Go.RX.L
