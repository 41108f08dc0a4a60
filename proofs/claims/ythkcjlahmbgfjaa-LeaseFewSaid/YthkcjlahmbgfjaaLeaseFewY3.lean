/-
  Words and walks for LeaseFew. No condition.
-/
import Derived.Test.YthkcjlahmbgfjaaRows
import Derived.Test.YthkcjlahmbgfjaaX2
set_option linter.unusedSimpArgs false
set_option linter.unusedVariables false
set_option maxRecDepth 100000
namespace Go.RX.L
open Go Go.RX Go.Proofs
noncomputable def E : Env := ⟨Try.prog, fun f => ⟨false, false⟩⟩
theorem hm : E.P.follows .mixedOrders = true := Try.checked.mixed
structure Hold where
  Epoch : Int
  Nonce : Int
  Grants : Int
  Until : Int
def Hold.enc (x : Hold) : List D := [D.int .i64 x.Epoch, D.int .i64 x.Nonce, D.int .u64 x.Grants, D.int .i64 x.Until]
def Hold.Ok (x : Hold) : Prop := inK .i64 x.Epoch ∧ inK .i64 x.Nonce ∧ inK .u64 x.Grants ∧ inK .i64 x.Until
structure Config where
  F_ : Int
  Deciders : Int
  Targets : Int
  Routers : Int
  Observers : Int
  Tiers : List Int
  Every : Int
  Wait : Int
  Rise : Int
  Fall : Int
  Fresh : Int
  L_ : Int
  M_ : Int
  Dwell : Int
  D_ : Int
  W_ : Int
  B_ : Int
  Hit : Int
  Suppress : Int
  Reuse : Int
  Half : Int
  First : Int
  Step : Int
  StepTime : Int
  S_ : Int
  Cap : Int
  Span : Int
  Room : Int
  Tries : Int
  Retry : Int
def Config.enc (x : Config) : List D := [D.int .i64 x.F_, D.int .i64 x.Deciders, D.int .i64 x.Targets, D.int .i64 x.Routers, D.int .i64 x.Observers, D.sl false 1 (List.map (eInt .i64) x.Tiers), D.int .i64 x.Every, D.int .i64 x.Wait, D.int .i64 x.Rise, D.int .i64 x.Fall, D.int .i64 x.Fresh, D.int .i64 x.L_, D.int .i64 x.M_, D.int .i64 x.Dwell, D.int .i64 x.D_, D.int .i64 x.W_, D.int .i64 x.B_, D.int .i64 x.Hit, D.int .i64 x.Suppress, D.int .i64 x.Reuse, D.int .i64 x.Half, D.int .i64 x.First, D.int .i64 x.Step, D.int .i64 x.StepTime, D.int .i64 x.S_, D.int .i64 x.Cap, D.int .i64 x.Span, D.int .i64 x.Room, D.int .i64 x.Tries, D.int .i64 x.Retry]
def Config.Ok (x : Config) : Prop := inK .i64 x.F_ ∧ inK .i64 x.Deciders ∧ inK .i64 x.Targets ∧ inK .i64 x.Routers ∧ inK .i64 x.Observers ∧ (x.Tiers.length * 8 ≤ reachBytes ∧ ∀ y ∈ x.Tiers, inK .i64 y) ∧ inK .i64 x.Every ∧ inK .i64 x.Wait ∧ inK .i64 x.Rise ∧ inK .i64 x.Fall ∧ inK .i64 x.Fresh ∧ inK .i64 x.L_ ∧ inK .i64 x.M_ ∧ inK .i64 x.Dwell ∧ inK .i64 x.D_ ∧ inK .i64 x.W_ ∧ inK .i64 x.B_ ∧ inK .i64 x.Hit ∧ inK .i64 x.Suppress ∧ inK .i64 x.Reuse ∧ inK .i64 x.Half ∧ inK .i64 x.First ∧ inK .i64 x.Step ∧ inK .i64 x.StepTime ∧ inK .i64 x.S_ ∧ inK .i64 x.Cap ∧ inK .i64 x.Span ∧ inK .i64 x.Room ∧ inK .i64 x.Tries ∧ inK .i64 x.Retry
structure Plan where
  Epoch : Int
  Target : Int
  Prev : Int
  Spill : Int
  Percent : Int
  Stamp : Int
  Since : Int
  Ramped : Int
  Up : Int
  Sup : Int
  Pen : List Int
  Changes : List Int
def Plan.enc (x : Plan) : List D := [D.int .i64 x.Epoch, D.int .i64 x.Target, D.int .i64 x.Prev, D.int .i64 x.Spill, D.int .i64 x.Percent, D.int .i64 x.Stamp, D.int .i64 x.Since, D.int .i64 x.Ramped, D.int .u64 x.Up, D.int .u64 x.Sup, D.sl false 1 (List.map (eInt .i64) x.Pen), D.sl false 1 (List.map (eInt .i64) x.Changes)]
def Plan.Ok (x : Plan) : Prop := inK .i64 x.Epoch ∧ inK .i64 x.Target ∧ inK .i64 x.Prev ∧ inK .i64 x.Spill ∧ inK .i64 x.Percent ∧ inK .i64 x.Stamp ∧ inK .i64 x.Since ∧ inK .i64 x.Ramped ∧ inK .u64 x.Up ∧ inK .u64 x.Sup ∧ (x.Pen.length * 8 ≤ reachBytes ∧ ∀ y ∈ x.Pen, inK .i64 y) ∧ (x.Changes.length * 8 ≤ reachBytes ∧ ∀ y ∈ x.Changes, inK .i64 y)
structure Msg where
  Kind : Int
  From : Int
  To : Int
  Epoch : Int
  Ballot : Int
  Accepted : Int
  Nonce : Int
  Time : Int
  Up : Int
  Code : Int
  HasPlan : Bool
  Plan : Plan
  ID : List Int
  Session : List Int
  Payload : List Int
def Msg.enc (x : Msg) : List D := [D.int .i64 x.Kind, D.int .i64 x.From, D.int .i64 x.To, D.int .i64 x.Epoch, D.int .i64 x.Ballot, D.int .i64 x.Accepted, D.int .i64 x.Nonce, D.int .i64 x.Time, D.int .u64 x.Up, D.int .i64 x.Code, D.bool x.HasPlan, D.int .i64 x.Plan.Epoch, D.int .i64 x.Plan.Target, D.int .i64 x.Plan.Prev, D.int .i64 x.Plan.Spill, D.int .i64 x.Plan.Percent, D.int .i64 x.Plan.Stamp, D.int .i64 x.Plan.Since, D.int .i64 x.Plan.Ramped, D.int .u64 x.Plan.Up, D.int .u64 x.Plan.Sup, D.sl false 1 (List.map (eInt .i64) x.Plan.Pen), D.sl false 1 (List.map (eInt .i64) x.Plan.Changes), D.sl false 1 (List.map (eInt .i64) x.ID), D.sl false 1 (List.map (eInt .u8) x.Session), D.sl false 1 (List.map (eInt .u8) x.Payload)]
def Msg.Ok (x : Msg) : Prop := inK .i64 x.Kind ∧ inK .i64 x.From ∧ inK .i64 x.To ∧ inK .i64 x.Epoch ∧ inK .i64 x.Ballot ∧ inK .i64 x.Accepted ∧ inK .i64 x.Nonce ∧ inK .i64 x.Time ∧ inK .u64 x.Up ∧ inK .i64 x.Code ∧ True ∧ x.Plan.Ok ∧ (x.ID.length * 8 ≤ reachBytes ∧ ∀ y ∈ x.ID, inK .i64 y) ∧ (x.Session.length * 1 ≤ reachBytes ∧ ∀ y ∈ x.Session, inK .u8 y) ∧ (x.Payload.length * 1 ≤ reachBytes ∧ ∀ y ∈ x.Payload, inK .u8 y)
end Go.RX.L

set_option linter.unusedSimpArgs false
set_option linter.unusedVariables false
set_option maxRecDepth 100000
set_option maxHeartbeats 4000000
namespace Go.RX.L
open Go Go.RX Go.Proofs
def lease_Ask_Q (y : Hold) (d : D) (s : Sto) : Prop := d = D.agg [D.int .i64 y.Epoch, D.int .i64 y.Nonce, D.int .u64 y.Grants, D.int .i64 y.Until] ∧ s = []
noncomputable def lease_Ask_1M (epoch : Int) (now : Int) (h_ : Hold) (b1 : Hold) : M := { td := [It.code (codeAt (bodyOf Try.f10) [1, 1])], fr := [(1, D.int .i64 epoch), (2, D.int .i64 now), (3, D.ptr 0 0 0), (6, D.ptr 1 0 0)], st := [some { sz := 4, deep := false, rows := [[D.int .i64 h_.Epoch, D.int .i64 h_.Nonce, D.int .u64 h_.Grants, D.int .i64 h_.Until]] }, some { sz := 4, deep := false, rows := [[D.int .i64 b1.Epoch, D.int .i64 b1.Nonce, D.int .u64 b1.Grants, D.int .i64 b1.Until]] }] }
noncomputable def lease_Ask_1 (epoch : Int) (now : Int) (h_ : Hold) (b1 : Hold) : Option Hold := (some (⟨epoch, now, 0, h_.Until⟩ : Hold))
theorem lease_Ask_1_ok {epoch : Int} {now : Int} {h_ : Hold} {b1 : Hold} {r : Hold} (h : lease_Ask_1 epoch now h_ b1 = some r) : FinQ E ⟨Try.f10, false, 0⟩ (QW (lease_Ask_Q r)) (.go (lease_Ask_1M epoch now h_ b1)) := by
  unfold lease_Ask_1 at h
  refine adv_ok hm 14 _ ?_
  obtain rfl := Option.some.inj h
  exact r_retF [] (d := D.agg [D.int .i64 epoch, D.int .i64 now, D.int .u64 0, D.int .i64 h_.Until]) (s := []) (by kernel_rfl) ⟨rfl, rfl⟩
noncomputable def lease_Ask (h_ : Hold) (epoch : Int) (now : Int) : Option Hold := (bif ((h_.Epoch : Int) != epoch) then (lease_Ask_1 epoch now (⟨h_.Epoch, h_.Nonce, h_.Grants, 0⟩ : Hold) (⟨0, 0, 0, 0⟩ : Hold)) else (lease_Ask_1 epoch now h_ (⟨0, 0, 0, 0⟩ : Hold)))
theorem lease_Ask_ok {h_ : Hold} {epoch : Int} {now : Int} {r : Hold} (h : lease_Ask h_ epoch now = some r) : Sound E 10 [D.agg [D.int .i64 h_.Epoch, D.int .i64 h_.Nonce, D.int .u64 h_.Grants, D.int .i64 h_.Until], D.int .i64 epoch, D.int .i64 now] [] (lease_Ask_Q r) := by
  refine sound_ofW (m := ⟨[.code (bodyOf Try.f10)], [(0, D.agg [D.int .i64 h_.Epoch, D.int .i64 h_.Nonce, D.int .u64 h_.Grants, D.int .i64 h_.Until]), (1, D.int .i64 epoch), (2, D.int .i64 now)], []⟩) (fn := Try.f10) (by kernel_rfl) (by kernel_rfl) ?_
  show FinQ E ⟨Try.f10, false, 0⟩ (QW (lease_Ask_Q r)) _
  unfold lease_Ask at h
  refine adv_ok hm 15 _ ?_
  refine p_split h (by kernel_rfl) (fun h1 h => ?_) (fun h1 h => ?_)
  · -- true
    refine adv_ok hm 6 _ ?_
    exact r_cut 78 [] (m' := (lease_Ask_1M epoch now (⟨h_.Epoch, h_.Nonce, h_.Grants, 0⟩ : Hold) (⟨0, 0, 0, 0⟩ : Hold))) (by kernel_rfl) (lease_Ask_1_ok h)
  · -- false
    refine adv_ok hm 1 _ ?_
    exact r_cut 78 [] (m' := (lease_Ask_1M epoch now h_ (⟨0, 0, 0, 0⟩ : Hold))) (by kernel_rfl) (lease_Ask_1_ok h)
end Go.RX.L

set_option linter.unusedSimpArgs false
set_option linter.unusedVariables false
set_option maxRecDepth 100000
set_option maxHeartbeats 4000000
namespace Go.RX.L
open Go Go.RX Go.Proofs
def math_bits_OnesCount64_Q (y : Int) (d : D) (s : Sto) : Prop := d = D.int .i64 y ∧ s = []
noncomputable def math_bits_OnesCount64 (x_ : Int) : Option Int := (some (andI .i64 (IntKind.i64.wrap ((IntKind.u64.wrap ((IntKind.u64.wrap ((IntKind.u64.wrap ((andI .u64 (IntKind.u64.wrap ((shrI .u64 (IntKind.u64.wrap ((andI .u64 (shrI .u64 (IntKind.u64.wrap ((andI .u64 (shrI .u64 x_ 1) 6148914691236517205) + (andI .u64 x_ 6148914691236517205))) 2) 3689348814741910323) + (andI .u64 (IntKind.u64.wrap ((andI .u64 (shrI .u64 x_ 1) 6148914691236517205) + (andI .u64 x_ 6148914691236517205))) 3689348814741910323))) 4) + (IntKind.u64.wrap ((andI .u64 (shrI .u64 (IntKind.u64.wrap ((andI .u64 (shrI .u64 x_ 1) 6148914691236517205) + (andI .u64 x_ 6148914691236517205))) 2) 3689348814741910323) + (andI .u64 (IntKind.u64.wrap ((andI .u64 (shrI .u64 x_ 1) 6148914691236517205) + (andI .u64 x_ 6148914691236517205))) 3689348814741910323))))) 1085102592571150095) + (shrI .u64 (andI .u64 (IntKind.u64.wrap ((shrI .u64 (IntKind.u64.wrap ((andI .u64 (shrI .u64 (IntKind.u64.wrap ((andI .u64 (shrI .u64 x_ 1) 6148914691236517205) + (andI .u64 x_ 6148914691236517205))) 2) 3689348814741910323) + (andI .u64 (IntKind.u64.wrap ((andI .u64 (shrI .u64 x_ 1) 6148914691236517205) + (andI .u64 x_ 6148914691236517205))) 3689348814741910323))) 4) + (IntKind.u64.wrap ((andI .u64 (shrI .u64 (IntKind.u64.wrap ((andI .u64 (shrI .u64 x_ 1) 6148914691236517205) + (andI .u64 x_ 6148914691236517205))) 2) 3689348814741910323) + (andI .u64 (IntKind.u64.wrap ((andI .u64 (shrI .u64 x_ 1) 6148914691236517205) + (andI .u64 x_ 6148914691236517205))) 3689348814741910323))))) 1085102592571150095) 8))) + (shrI .u64 (IntKind.u64.wrap ((andI .u64 (IntKind.u64.wrap ((shrI .u64 (IntKind.u64.wrap ((andI .u64 (shrI .u64 (IntKind.u64.wrap ((andI .u64 (shrI .u64 x_ 1) 6148914691236517205) + (andI .u64 x_ 6148914691236517205))) 2) 3689348814741910323) + (andI .u64 (IntKind.u64.wrap ((andI .u64 (shrI .u64 x_ 1) 6148914691236517205) + (andI .u64 x_ 6148914691236517205))) 3689348814741910323))) 4) + (IntKind.u64.wrap ((andI .u64 (shrI .u64 (IntKind.u64.wrap ((andI .u64 (shrI .u64 x_ 1) 6148914691236517205) + (andI .u64 x_ 6148914691236517205))) 2) 3689348814741910323) + (andI .u64 (IntKind.u64.wrap ((andI .u64 (shrI .u64 x_ 1) 6148914691236517205) + (andI .u64 x_ 6148914691236517205))) 3689348814741910323))))) 1085102592571150095) + (shrI .u64 (andI .u64 (IntKind.u64.wrap ((shrI .u64 (IntKind.u64.wrap ((andI .u64 (shrI .u64 (IntKind.u64.wrap ((andI .u64 (shrI .u64 x_ 1) 6148914691236517205) + (andI .u64 x_ 6148914691236517205))) 2) 3689348814741910323) + (andI .u64 (IntKind.u64.wrap ((andI .u64 (shrI .u64 x_ 1) 6148914691236517205) + (andI .u64 x_ 6148914691236517205))) 3689348814741910323))) 4) + (IntKind.u64.wrap ((andI .u64 (shrI .u64 (IntKind.u64.wrap ((andI .u64 (shrI .u64 x_ 1) 6148914691236517205) + (andI .u64 x_ 6148914691236517205))) 2) 3689348814741910323) + (andI .u64 (IntKind.u64.wrap ((andI .u64 (shrI .u64 x_ 1) 6148914691236517205) + (andI .u64 x_ 6148914691236517205))) 3689348814741910323))))) 1085102592571150095) 8))) 16))) + (shrI .u64 (IntKind.u64.wrap ((IntKind.u64.wrap ((andI .u64 (IntKind.u64.wrap ((shrI .u64 (IntKind.u64.wrap ((andI .u64 (shrI .u64 (IntKind.u64.wrap ((andI .u64 (shrI .u64 x_ 1) 6148914691236517205) + (andI .u64 x_ 6148914691236517205))) 2) 3689348814741910323) + (andI .u64 (IntKind.u64.wrap ((andI .u64 (shrI .u64 x_ 1) 6148914691236517205) + (andI .u64 x_ 6148914691236517205))) 3689348814741910323))) 4) + (IntKind.u64.wrap ((andI .u64 (shrI .u64 (IntKind.u64.wrap ((andI .u64 (shrI .u64 x_ 1) 6148914691236517205) + (andI .u64 x_ 6148914691236517205))) 2) 3689348814741910323) + (andI .u64 (IntKind.u64.wrap ((andI .u64 (shrI .u64 x_ 1) 6148914691236517205) + (andI .u64 x_ 6148914691236517205))) 3689348814741910323))))) 1085102592571150095) + (shrI .u64 (andI .u64 (IntKind.u64.wrap ((shrI .u64 (IntKind.u64.wrap ((andI .u64 (shrI .u64 (IntKind.u64.wrap ((andI .u64 (shrI .u64 x_ 1) 6148914691236517205) + (andI .u64 x_ 6148914691236517205))) 2) 3689348814741910323) + (andI .u64 (IntKind.u64.wrap ((andI .u64 (shrI .u64 x_ 1) 6148914691236517205) + (andI .u64 x_ 6148914691236517205))) 3689348814741910323))) 4) + (IntKind.u64.wrap ((andI .u64 (shrI .u64 (IntKind.u64.wrap ((andI .u64 (shrI .u64 x_ 1) 6148914691236517205) + (andI .u64 x_ 6148914691236517205))) 2) 3689348814741910323) + (andI .u64 (IntKind.u64.wrap ((andI .u64 (shrI .u64 x_ 1) 6148914691236517205) + (andI .u64 x_ 6148914691236517205))) 3689348814741910323))))) 1085102592571150095) 8))) + (shrI .u64 (IntKind.u64.wrap ((andI .u64 (IntKind.u64.wrap ((shrI .u64 (IntKind.u64.wrap ((andI .u64 (shrI .u64 (IntKind.u64.wrap ((andI .u64 (shrI .u64 x_ 1) 6148914691236517205) + (andI .u64 x_ 6148914691236517205))) 2) 3689348814741910323) + (andI .u64 (IntKind.u64.wrap ((andI .u64 (shrI .u64 x_ 1) 6148914691236517205) + (andI .u64 x_ 6148914691236517205))) 3689348814741910323))) 4) + (IntKind.u64.wrap ((andI .u64 (shrI .u64 (IntKind.u64.wrap ((andI .u64 (shrI .u64 x_ 1) 6148914691236517205) + (andI .u64 x_ 6148914691236517205))) 2) 3689348814741910323) + (andI .u64 (IntKind.u64.wrap ((andI .u64 (shrI .u64 x_ 1) 6148914691236517205) + (andI .u64 x_ 6148914691236517205))) 3689348814741910323))))) 1085102592571150095) + (shrI .u64 (andI .u64 (IntKind.u64.wrap ((shrI .u64 (IntKind.u64.wrap ((andI .u64 (shrI .u64 (IntKind.u64.wrap ((andI .u64 (shrI .u64 x_ 1) 6148914691236517205) + (andI .u64 x_ 6148914691236517205))) 2) 3689348814741910323) + (andI .u64 (IntKind.u64.wrap ((andI .u64 (shrI .u64 x_ 1) 6148914691236517205) + (andI .u64 x_ 6148914691236517205))) 3689348814741910323))) 4) + (IntKind.u64.wrap ((andI .u64 (shrI .u64 (IntKind.u64.wrap ((andI .u64 (shrI .u64 x_ 1) 6148914691236517205) + (andI .u64 x_ 6148914691236517205))) 2) 3689348814741910323) + (andI .u64 (IntKind.u64.wrap ((andI .u64 (shrI .u64 x_ 1) 6148914691236517205) + (andI .u64 x_ 6148914691236517205))) 3689348814741910323))))) 1085102592571150095) 8))) 16))) 32))))) 127))
theorem math_bits_OnesCount64_ok {x_ : Int} {r : Int} (h : math_bits_OnesCount64 x_ = some r) : Sound E 19 [D.int .u64 x_] [] (math_bits_OnesCount64_Q r) := by
  refine sound_ofW (m := ⟨[.code (bodyOf Try.f19)], [(0, D.int .u64 x_)], []⟩) (fn := Try.f19) (by kernel_rfl) (by kernel_rfl) ?_
  show FinQ E ⟨Try.f19, false, 0⟩ (QW (math_bits_OnesCount64_Q r)) _
  unfold math_bits_OnesCount64 at h
  refine adv_ok hm 71 _ ?_
  obtain rfl := Option.some.inj h
  exact r_retF [] (d := D.int .i64 (andI .i64 (IntKind.i64.wrap ((IntKind.u64.wrap ((IntKind.u64.wrap ((IntKind.u64.wrap ((andI .u64 (IntKind.u64.wrap ((shrI .u64 (IntKind.u64.wrap ((andI .u64 (shrI .u64 (IntKind.u64.wrap ((andI .u64 (shrI .u64 x_ 1) 6148914691236517205) + (andI .u64 x_ 6148914691236517205))) 2) 3689348814741910323) + (andI .u64 (IntKind.u64.wrap ((andI .u64 (shrI .u64 x_ 1) 6148914691236517205) + (andI .u64 x_ 6148914691236517205))) 3689348814741910323))) 4) + (IntKind.u64.wrap ((andI .u64 (shrI .u64 (IntKind.u64.wrap ((andI .u64 (shrI .u64 x_ 1) 6148914691236517205) + (andI .u64 x_ 6148914691236517205))) 2) 3689348814741910323) + (andI .u64 (IntKind.u64.wrap ((andI .u64 (shrI .u64 x_ 1) 6148914691236517205) + (andI .u64 x_ 6148914691236517205))) 3689348814741910323))))) 1085102592571150095) + (shrI .u64 (andI .u64 (IntKind.u64.wrap ((shrI .u64 (IntKind.u64.wrap ((andI .u64 (shrI .u64 (IntKind.u64.wrap ((andI .u64 (shrI .u64 x_ 1) 6148914691236517205) + (andI .u64 x_ 6148914691236517205))) 2) 3689348814741910323) + (andI .u64 (IntKind.u64.wrap ((andI .u64 (shrI .u64 x_ 1) 6148914691236517205) + (andI .u64 x_ 6148914691236517205))) 3689348814741910323))) 4) + (IntKind.u64.wrap ((andI .u64 (shrI .u64 (IntKind.u64.wrap ((andI .u64 (shrI .u64 x_ 1) 6148914691236517205) + (andI .u64 x_ 6148914691236517205))) 2) 3689348814741910323) + (andI .u64 (IntKind.u64.wrap ((andI .u64 (shrI .u64 x_ 1) 6148914691236517205) + (andI .u64 x_ 6148914691236517205))) 3689348814741910323))))) 1085102592571150095) 8))) + (shrI .u64 (IntKind.u64.wrap ((andI .u64 (IntKind.u64.wrap ((shrI .u64 (IntKind.u64.wrap ((andI .u64 (shrI .u64 (IntKind.u64.wrap ((andI .u64 (shrI .u64 x_ 1) 6148914691236517205) + (andI .u64 x_ 6148914691236517205))) 2) 3689348814741910323) + (andI .u64 (IntKind.u64.wrap ((andI .u64 (shrI .u64 x_ 1) 6148914691236517205) + (andI .u64 x_ 6148914691236517205))) 3689348814741910323))) 4) + (IntKind.u64.wrap ((andI .u64 (shrI .u64 (IntKind.u64.wrap ((andI .u64 (shrI .u64 x_ 1) 6148914691236517205) + (andI .u64 x_ 6148914691236517205))) 2) 3689348814741910323) + (andI .u64 (IntKind.u64.wrap ((andI .u64 (shrI .u64 x_ 1) 6148914691236517205) + (andI .u64 x_ 6148914691236517205))) 3689348814741910323))))) 1085102592571150095) + (shrI .u64 (andI .u64 (IntKind.u64.wrap ((shrI .u64 (IntKind.u64.wrap ((andI .u64 (shrI .u64 (IntKind.u64.wrap ((andI .u64 (shrI .u64 x_ 1) 6148914691236517205) + (andI .u64 x_ 6148914691236517205))) 2) 3689348814741910323) + (andI .u64 (IntKind.u64.wrap ((andI .u64 (shrI .u64 x_ 1) 6148914691236517205) + (andI .u64 x_ 6148914691236517205))) 3689348814741910323))) 4) + (IntKind.u64.wrap ((andI .u64 (shrI .u64 (IntKind.u64.wrap ((andI .u64 (shrI .u64 x_ 1) 6148914691236517205) + (andI .u64 x_ 6148914691236517205))) 2) 3689348814741910323) + (andI .u64 (IntKind.u64.wrap ((andI .u64 (shrI .u64 x_ 1) 6148914691236517205) + (andI .u64 x_ 6148914691236517205))) 3689348814741910323))))) 1085102592571150095) 8))) 16))) + (shrI .u64 (IntKind.u64.wrap ((IntKind.u64.wrap ((andI .u64 (IntKind.u64.wrap ((shrI .u64 (IntKind.u64.wrap ((andI .u64 (shrI .u64 (IntKind.u64.wrap ((andI .u64 (shrI .u64 x_ 1) 6148914691236517205) + (andI .u64 x_ 6148914691236517205))) 2) 3689348814741910323) + (andI .u64 (IntKind.u64.wrap ((andI .u64 (shrI .u64 x_ 1) 6148914691236517205) + (andI .u64 x_ 6148914691236517205))) 3689348814741910323))) 4) + (IntKind.u64.wrap ((andI .u64 (shrI .u64 (IntKind.u64.wrap ((andI .u64 (shrI .u64 x_ 1) 6148914691236517205) + (andI .u64 x_ 6148914691236517205))) 2) 3689348814741910323) + (andI .u64 (IntKind.u64.wrap ((andI .u64 (shrI .u64 x_ 1) 6148914691236517205) + (andI .u64 x_ 6148914691236517205))) 3689348814741910323))))) 1085102592571150095) + (shrI .u64 (andI .u64 (IntKind.u64.wrap ((shrI .u64 (IntKind.u64.wrap ((andI .u64 (shrI .u64 (IntKind.u64.wrap ((andI .u64 (shrI .u64 x_ 1) 6148914691236517205) + (andI .u64 x_ 6148914691236517205))) 2) 3689348814741910323) + (andI .u64 (IntKind.u64.wrap ((andI .u64 (shrI .u64 x_ 1) 6148914691236517205) + (andI .u64 x_ 6148914691236517205))) 3689348814741910323))) 4) + (IntKind.u64.wrap ((andI .u64 (shrI .u64 (IntKind.u64.wrap ((andI .u64 (shrI .u64 x_ 1) 6148914691236517205) + (andI .u64 x_ 6148914691236517205))) 2) 3689348814741910323) + (andI .u64 (IntKind.u64.wrap ((andI .u64 (shrI .u64 x_ 1) 6148914691236517205) + (andI .u64 x_ 6148914691236517205))) 3689348814741910323))))) 1085102592571150095) 8))) + (shrI .u64 (IntKind.u64.wrap ((andI .u64 (IntKind.u64.wrap ((shrI .u64 (IntKind.u64.wrap ((andI .u64 (shrI .u64 (IntKind.u64.wrap ((andI .u64 (shrI .u64 x_ 1) 6148914691236517205) + (andI .u64 x_ 6148914691236517205))) 2) 3689348814741910323) + (andI .u64 (IntKind.u64.wrap ((andI .u64 (shrI .u64 x_ 1) 6148914691236517205) + (andI .u64 x_ 6148914691236517205))) 3689348814741910323))) 4) + (IntKind.u64.wrap ((andI .u64 (shrI .u64 (IntKind.u64.wrap ((andI .u64 (shrI .u64 x_ 1) 6148914691236517205) + (andI .u64 x_ 6148914691236517205))) 2) 3689348814741910323) + (andI .u64 (IntKind.u64.wrap ((andI .u64 (shrI .u64 x_ 1) 6148914691236517205) + (andI .u64 x_ 6148914691236517205))) 3689348814741910323))))) 1085102592571150095) + (shrI .u64 (andI .u64 (IntKind.u64.wrap ((shrI .u64 (IntKind.u64.wrap ((andI .u64 (shrI .u64 (IntKind.u64.wrap ((andI .u64 (shrI .u64 x_ 1) 6148914691236517205) + (andI .u64 x_ 6148914691236517205))) 2) 3689348814741910323) + (andI .u64 (IntKind.u64.wrap ((andI .u64 (shrI .u64 x_ 1) 6148914691236517205) + (andI .u64 x_ 6148914691236517205))) 3689348814741910323))) 4) + (IntKind.u64.wrap ((andI .u64 (shrI .u64 (IntKind.u64.wrap ((andI .u64 (shrI .u64 x_ 1) 6148914691236517205) + (andI .u64 x_ 6148914691236517205))) 2) 3689348814741910323) + (andI .u64 (IntKind.u64.wrap ((andI .u64 (shrI .u64 x_ 1) 6148914691236517205) + (andI .u64 x_ 6148914691236517205))) 3689348814741910323))))) 1085102592571150095) 8))) 16))) 32))))) 127)) (s := []) (by kernel_rfl) ⟨rfl, rfl⟩
end Go.RX.L

set_option linter.unusedSimpArgs false
set_option linter.unusedVariables false
set_option maxRecDepth 100000
set_option maxHeartbeats 4000000
namespace Go.RX.L
open Go Go.RX Go.Proofs
def proposer_more_Q (y : Int) (d : D) (s : Sto) : Prop := d = D.int .i64 y ∧ s = []
noncomputable def proposer_more (c : Config) : Option Int := (some (mnI (mxI c.F_ 0) 3))
theorem proposer_more_ok {c : Config} {r : Int} (h : proposer_more c = some r) : Sound E 20 [D.agg [D.int .i64 c.F_, D.int .i64 c.Deciders, D.int .i64 c.Targets, D.int .i64 c.Routers, D.int .i64 c.Observers, D.sl false 1 (List.map (eInt .i64) c.Tiers), D.int .i64 c.Every, D.int .i64 c.Wait, D.int .i64 c.Rise, D.int .i64 c.Fall, D.int .i64 c.Fresh, D.int .i64 c.L_, D.int .i64 c.M_, D.int .i64 c.Dwell, D.int .i64 c.D_, D.int .i64 c.W_, D.int .i64 c.B_, D.int .i64 c.Hit, D.int .i64 c.Suppress, D.int .i64 c.Reuse, D.int .i64 c.Half, D.int .i64 c.First, D.int .i64 c.Step, D.int .i64 c.StepTime, D.int .i64 c.S_, D.int .i64 c.Cap, D.int .i64 c.Span, D.int .i64 c.Room, D.int .i64 c.Tries, D.int .i64 c.Retry]] [] (proposer_more_Q r) := by
  refine sound_ofW (m := ⟨[.code (bodyOf Try.f20)], [(0, D.agg [D.int .i64 c.F_, D.int .i64 c.Deciders, D.int .i64 c.Targets, D.int .i64 c.Routers, D.int .i64 c.Observers, D.sl false 1 (List.map (eInt .i64) c.Tiers), D.int .i64 c.Every, D.int .i64 c.Wait, D.int .i64 c.Rise, D.int .i64 c.Fall, D.int .i64 c.Fresh, D.int .i64 c.L_, D.int .i64 c.M_, D.int .i64 c.Dwell, D.int .i64 c.D_, D.int .i64 c.W_, D.int .i64 c.B_, D.int .i64 c.Hit, D.int .i64 c.Suppress, D.int .i64 c.Reuse, D.int .i64 c.Half, D.int .i64 c.First, D.int .i64 c.Step, D.int .i64 c.StepTime, D.int .i64 c.S_, D.int .i64 c.Cap, D.int .i64 c.Span, D.int .i64 c.Room, D.int .i64 c.Tries, D.int .i64 c.Retry])], []⟩) (fn := Try.f20) (by kernel_rfl) (by kernel_rfl) ?_
  show FinQ E ⟨Try.f20, false, 0⟩ (QW (proposer_more_Q r)) _
  unfold proposer_more at h
  refine adv_ok hm 15 _ ?_
  obtain rfl := Option.some.inj h
  exact r_retF [] (d := D.int .i64 (mnI (mxI c.F_ 0) 3)) (s := []) (by kernel_rfl) ⟨rfl, rfl⟩
end Go.RX.L

set_option linter.unusedSimpArgs false
set_option linter.unusedVariables false
set_option maxRecDepth 100000
set_option maxHeartbeats 4000000
namespace Go.RX.L
open Go Go.RX Go.Proofs
def proposer_Most_Q (y : Bool) (d : D) (s : Sto) : Prop := d = D.bool y ∧ s = []
noncomputable def proposer_Most (c : Config) (mask_ : Int) : Option Bool := ((proposer_more c).bind fun y1 => (bif (!decide (((IntKind.i64.wrap ((IntKind.i64.wrap ((2 : Int) * y1)) + 1)) : Int) < 0)) then ((math_bits_OnesCount64 (andI .u64 mask_ (IntKind.u64.wrap ((shlI .u64 1 (IntKind.i64.wrap ((IntKind.i64.wrap ((2 : Int) * y1)) + 1))) - 1)))).bind fun y3 => ((proposer_more c).bind fun y4 => (some (decide ((y3 : Int) > y4))))) else none))
theorem proposer_Most_ok {c : Config} {mask_ : Int} {r : Bool} (h : proposer_Most c mask_ = some r) : Sound E 16 [D.agg [D.int .i64 c.F_, D.int .i64 c.Deciders, D.int .i64 c.Targets, D.int .i64 c.Routers, D.int .i64 c.Observers, D.sl false 1 (List.map (eInt .i64) c.Tiers), D.int .i64 c.Every, D.int .i64 c.Wait, D.int .i64 c.Rise, D.int .i64 c.Fall, D.int .i64 c.Fresh, D.int .i64 c.L_, D.int .i64 c.M_, D.int .i64 c.Dwell, D.int .i64 c.D_, D.int .i64 c.W_, D.int .i64 c.B_, D.int .i64 c.Hit, D.int .i64 c.Suppress, D.int .i64 c.Reuse, D.int .i64 c.Half, D.int .i64 c.First, D.int .i64 c.Step, D.int .i64 c.StepTime, D.int .i64 c.S_, D.int .i64 c.Cap, D.int .i64 c.Span, D.int .i64 c.Room, D.int .i64 c.Tries, D.int .i64 c.Retry], D.int .u64 mask_] [] (proposer_Most_Q r) := by
  refine sound_ofW (m := ⟨[.code (bodyOf Try.f16)], [(0, D.agg [D.int .i64 c.F_, D.int .i64 c.Deciders, D.int .i64 c.Targets, D.int .i64 c.Routers, D.int .i64 c.Observers, D.sl false 1 (List.map (eInt .i64) c.Tiers), D.int .i64 c.Every, D.int .i64 c.Wait, D.int .i64 c.Rise, D.int .i64 c.Fall, D.int .i64 c.Fresh, D.int .i64 c.L_, D.int .i64 c.M_, D.int .i64 c.Dwell, D.int .i64 c.D_, D.int .i64 c.W_, D.int .i64 c.B_, D.int .i64 c.Hit, D.int .i64 c.Suppress, D.int .i64 c.Reuse, D.int .i64 c.Half, D.int .i64 c.First, D.int .i64 c.Step, D.int .i64 c.StepTime, D.int .i64 c.S_, D.int .i64 c.Cap, D.int .i64 c.Span, D.int .i64 c.Room, D.int .i64 c.Tries, D.int .i64 c.Retry]), (1, D.int .u64 mask_)], []⟩) (fn := Try.f16) (by kernel_rfl) (by kernel_rfl) ?_
  show FinQ E ⟨Try.f16, false, 0⟩ (QW (proposer_Most_Q r)) _
  unfold proposer_Most at h
  refine adv_ok hm 8 _ ?_
  have ok1 := fun (y : Int) (hy : proposer_more c = some y) => proposer_more_ok hy
  refine p_callDE [] (args1 := [D.agg [D.int .i64 c.F_, D.int .i64 c.Deciders, D.int .i64 c.Targets, D.int .i64 c.Routers, D.int .i64 c.Observers, D.sl false 1 (List.map (eInt .i64) c.Tiers), D.int .i64 c.Every, D.int .i64 c.Wait, D.int .i64 c.Rise, D.int .i64 c.Fall, D.int .i64 c.Fresh, D.int .i64 c.L_, D.int .i64 c.M_, D.int .i64 c.Dwell, D.int .i64 c.D_, D.int .i64 c.W_, D.int .i64 c.B_, D.int .i64 c.Hit, D.int .i64 c.Suppress, D.int .i64 c.Reuse, D.int .i64 c.Half, D.int .i64 c.First, D.int .i64 c.Step, D.int .i64 c.StepTime, D.int .i64 c.S_, D.int .i64 c.Cap, D.int .i64 c.Span, D.int .i64 c.Room, D.int .i64 c.Tries, D.int .i64 c.Retry]]) (args := [D.agg [D.int .i64 c.F_, D.int .i64 c.Deciders, D.int .i64 c.Targets, D.int .i64 c.Routers, D.int .i64 c.Observers, D.sl false 1 (List.map (eInt .i64) c.Tiers), D.int .i64 c.Every, D.int .i64 c.Wait, D.int .i64 c.Rise, D.int .i64 c.Fall, D.int .i64 c.Fresh, D.int .i64 c.L_, D.int .i64 c.M_, D.int .i64 c.Dwell, D.int .i64 c.D_, D.int .i64 c.W_, D.int .i64 c.B_, D.int .i64 c.Hit, D.int .i64 c.Suppress, D.int .i64 c.Reuse, D.int .i64 c.Half, D.int .i64 c.First, D.int .i64 c.Step, D.int .i64 c.StepTime, D.int .i64 c.S_, D.int .i64 c.Cap, D.int .i64 c.Span, D.int .i64 c.Room, D.int .i64 c.Tries, D.int .i64 c.Retry]]) (fun y1 => D.int .i64 y1) h (by kernel_rfl) rfl ok1 (fun y1 h1 h => ?_)
  refine p_need h (by kernel_rfl) (fun h2 h => ?_)
  have ok3 := fun (y : Int) (hy : math_bits_OnesCount64 (andI .u64 mask_ (IntKind.u64.wrap ((shlI .u64 1 (IntKind.i64.wrap ((IntKind.i64.wrap ((2 : Int) * y1)) + 1))) - 1))) = some y) => math_bits_OnesCount64_ok hy
  refine p_callDE [] (args1 := [D.int .u64 (andI .u64 mask_ (IntKind.u64.wrap ((shlI .u64 1 (IntKind.i64.wrap ((IntKind.i64.wrap ((2 : Int) * y1)) + 1))) - 1)))]) (args := [D.int .u64 (andI .u64 mask_ (IntKind.u64.wrap ((shlI .u64 1 (IntKind.i64.wrap ((IntKind.i64.wrap ((2 : Int) * y1)) + 1))) - 1)))]) (fun y3 => D.int .i64 y3) h (by kernel_rfl) rfl ok3 (fun y3 h3 h => ?_)
  refine adv_ok hm 1 _ ?_
  have ok4 := fun (y : Int) (hy : proposer_more c = some y) => proposer_more_ok hy
  refine p_callDE [] (args1 := [D.agg [D.int .i64 c.F_, D.int .i64 c.Deciders, D.int .i64 c.Targets, D.int .i64 c.Routers, D.int .i64 c.Observers, D.sl false 1 (List.map (eInt .i64) c.Tiers), D.int .i64 c.Every, D.int .i64 c.Wait, D.int .i64 c.Rise, D.int .i64 c.Fall, D.int .i64 c.Fresh, D.int .i64 c.L_, D.int .i64 c.M_, D.int .i64 c.Dwell, D.int .i64 c.D_, D.int .i64 c.W_, D.int .i64 c.B_, D.int .i64 c.Hit, D.int .i64 c.Suppress, D.int .i64 c.Reuse, D.int .i64 c.Half, D.int .i64 c.First, D.int .i64 c.Step, D.int .i64 c.StepTime, D.int .i64 c.S_, D.int .i64 c.Cap, D.int .i64 c.Span, D.int .i64 c.Room, D.int .i64 c.Tries, D.int .i64 c.Retry]]) (args := [D.agg [D.int .i64 c.F_, D.int .i64 c.Deciders, D.int .i64 c.Targets, D.int .i64 c.Routers, D.int .i64 c.Observers, D.sl false 1 (List.map (eInt .i64) c.Tiers), D.int .i64 c.Every, D.int .i64 c.Wait, D.int .i64 c.Rise, D.int .i64 c.Fall, D.int .i64 c.Fresh, D.int .i64 c.L_, D.int .i64 c.M_, D.int .i64 c.Dwell, D.int .i64 c.D_, D.int .i64 c.W_, D.int .i64 c.B_, D.int .i64 c.Hit, D.int .i64 c.Suppress, D.int .i64 c.Reuse, D.int .i64 c.Half, D.int .i64 c.First, D.int .i64 c.Step, D.int .i64 c.StepTime, D.int .i64 c.S_, D.int .i64 c.Cap, D.int .i64 c.Span, D.int .i64 c.Room, D.int .i64 c.Tries, D.int .i64 c.Retry]]) (fun y4 => D.int .i64 y4) h (by kernel_rfl) rfl ok4 (fun y4 h4 h => ?_)
  refine adv_ok hm 1 _ ?_
  obtain rfl := Option.some.inj h
  exact r_retF [] (d := D.bool (decide ((y3 : Int) > y4))) (s := []) (by kernel_rfl) ⟨rfl, rfl⟩
end Go.RX.L

set_option linter.unusedSimpArgs false
set_option linter.unusedVariables false
set_option maxRecDepth 100000
set_option maxHeartbeats 4000000
namespace Go.RX.L
open Go Go.RX Go.Proofs
def lease_Grant_Q (y : Hold) (d : D) (s : Sto) : Prop := d = D.agg [D.int .i64 y.Epoch, D.int .i64 y.Nonce, D.int .u64 y.Grants, D.int .i64 y.Until] ∧ s = []
noncomputable def lease_Grant_1M (t13 : Bool) (h_ : Hold) (c : Config) (m : Msg) (b3 : Hold) : M := { td := [It.code (codeAt (bodyOf Try.f12) [1, 1, 0, 0, 1]), It.blk 0, It.code (codeAt (bodyOf Try.f12) [1, 1, 1])], fr := [(3, D.ptr 0 0 0), (4, D.ptr 1 0 0), (5, D.ptr 2 0 0), (6, D.ptr 3 0 0), (13, D.bool t13)], st := [some { sz := 4, deep := false, rows := [[D.int .i64 h_.Epoch, D.int .i64 h_.Nonce, D.int .u64 h_.Grants, D.int .i64 h_.Until]] }, some { sz := 30, deep := false, rows := [[D.int .i64 c.F_, D.int .i64 c.Deciders, D.int .i64 c.Targets, D.int .i64 c.Routers, D.int .i64 c.Observers, D.sl false 1 (List.map (eInt .i64) c.Tiers), D.int .i64 c.Every, D.int .i64 c.Wait, D.int .i64 c.Rise, D.int .i64 c.Fall, D.int .i64 c.Fresh, D.int .i64 c.L_, D.int .i64 c.M_, D.int .i64 c.Dwell, D.int .i64 c.D_, D.int .i64 c.W_, D.int .i64 c.B_, D.int .i64 c.Hit, D.int .i64 c.Suppress, D.int .i64 c.Reuse, D.int .i64 c.Half, D.int .i64 c.First, D.int .i64 c.Step, D.int .i64 c.StepTime, D.int .i64 c.S_, D.int .i64 c.Cap, D.int .i64 c.Span, D.int .i64 c.Room, D.int .i64 c.Tries, D.int .i64 c.Retry]] }, some { sz := 26, deep := false, rows := [[D.int .i64 m.Kind, D.int .i64 m.From, D.int .i64 m.To, D.int .i64 m.Epoch, D.int .i64 m.Ballot, D.int .i64 m.Accepted, D.int .i64 m.Nonce, D.int .i64 m.Time, D.int .u64 m.Up, D.int .i64 m.Code, D.bool m.HasPlan, D.int .i64 m.Plan.Epoch, D.int .i64 m.Plan.Target, D.int .i64 m.Plan.Prev, D.int .i64 m.Plan.Spill, D.int .i64 m.Plan.Percent, D.int .i64 m.Plan.Stamp, D.int .i64 m.Plan.Since, D.int .i64 m.Plan.Ramped, D.int .u64 m.Plan.Up, D.int .u64 m.Plan.Sup, D.sl false 1 (List.map (eInt .i64) m.Plan.Pen), D.sl false 1 (List.map (eInt .i64) m.Plan.Changes), D.sl false 1 (List.map (eInt .i64) m.ID), D.sl false 1 (List.map (eInt .u8) m.Session), D.sl false 1 (List.map (eInt .u8) m.Payload)]] }, some { sz := 4, deep := false, rows := [[D.int .i64 b3.Epoch, D.int .i64 b3.Nonce, D.int .u64 b3.Grants, D.int .i64 b3.Until]] }] }
noncomputable def lease_Grant_1 (t13 : Bool) (h_ : Hold) (c : Config) (m : Msg) (b3 : Hold) : Option Hold := (bif t13 then (some h_) else (bif (!decide ((m.From : Int) < 0)) then ((proposer_Most c (orI .u64 h_.Grants (shlI .u64 1 m.From))).bind fun y3 => (bif y3 then (some (⟨h_.Epoch, h_.Nonce, (orI .u64 h_.Grants (shlI .u64 1 m.From)), (mxI h_.Until (IntKind.i64.wrap (h_.Nonce + (mnI (mxI c.L_ 0) 1048576))))⟩ : Hold)) else (some (⟨h_.Epoch, h_.Nonce, (orI .u64 h_.Grants (shlI .u64 1 m.From)), h_.Until⟩ : Hold)))) else none))
theorem lease_Grant_1_ok {t13 : Bool} {h_ : Hold} {c : Config} {m : Msg} {b3 : Hold} {r : Hold} (h : lease_Grant_1 t13 h_ c m b3 = some r) : FinQ E ⟨Try.f12, false, 0⟩ (QW (lease_Grant_Q r)) (.go (lease_Grant_1M t13 h_ c m b3)) := by
  unfold lease_Grant_1 at h
  refine adv_ok hm 1 _ ?_
  refine p_split h (by kernel_rfl) (fun h1 h => ?_) (fun h1 h => ?_)
  · -- true
    refine adv_ok hm 10 _ ?_
    obtain rfl := Option.some.inj h
    exact r_retF [] (d := D.agg [D.int .i64 h_.Epoch, D.int .i64 h_.Nonce, D.int .u64 h_.Grants, D.int .i64 h_.Until]) (s := []) (by kernel_rfl) ⟨rfl, rfl⟩
  · -- false
    refine adv_ok hm 7 _ ?_
    refine p_need h (by kernel_rfl) (fun h2 h => ?_)
    refine adv_ok hm 10 _ ?_
    have ok3 := fun (y : Bool) (hy : proposer_Most c (orI .u64 h_.Grants (shlI .u64 1 m.From)) = some y) => proposer_Most_ok hy
    refine p_callE [] (args1 := [D.agg [D.int .i64 c.F_, D.int .i64 c.Deciders, D.int .i64 c.Targets, D.int .i64 c.Routers, D.int .i64 c.Observers, D.sl false 1 (List.map (eInt .i64) c.Tiers), D.int .i64 c.Every, D.int .i64 c.Wait, D.int .i64 c.Rise, D.int .i64 c.Fall, D.int .i64 c.Fresh, D.int .i64 c.L_, D.int .i64 c.M_, D.int .i64 c.Dwell, D.int .i64 c.D_, D.int .i64 c.W_, D.int .i64 c.B_, D.int .i64 c.Hit, D.int .i64 c.Suppress, D.int .i64 c.Reuse, D.int .i64 c.Half, D.int .i64 c.First, D.int .i64 c.Step, D.int .i64 c.StepTime, D.int .i64 c.S_, D.int .i64 c.Cap, D.int .i64 c.Span, D.int .i64 c.Room, D.int .i64 c.Tries, D.int .i64 c.Retry], D.int .u64 (orI .u64 h_.Grants (shlI .u64 1 m.From))]) (args := [D.agg [D.int .i64 c.F_, D.int .i64 c.Deciders, D.int .i64 c.Targets, D.int .i64 c.Routers, D.int .i64 c.Observers, D.sl false 1 (List.map (eInt .i64) c.Tiers), D.int .i64 c.Every, D.int .i64 c.Wait, D.int .i64 c.Rise, D.int .i64 c.Fall, D.int .i64 c.Fresh, D.int .i64 c.L_, D.int .i64 c.M_, D.int .i64 c.Dwell, D.int .i64 c.D_, D.int .i64 c.W_, D.int .i64 c.B_, D.int .i64 c.Hit, D.int .i64 c.Suppress, D.int .i64 c.Reuse, D.int .i64 c.Half, D.int .i64 c.First, D.int .i64 c.Step, D.int .i64 c.StepTime, D.int .i64 c.S_, D.int .i64 c.Cap, D.int .i64 c.Span, D.int .i64 c.Room, D.int .i64 c.Tries, D.int .i64 c.Retry], D.int .u64 (orI .u64 h_.Grants (shlI .u64 1 m.From))]) (fun y3 => D.bool y3) (fun y3 => []) h (by kernel_rfl) ⟨rfl, rfl⟩ ok3 (fun y3 h3 h => ?_)
    refine adv_ok hm 2 _ ?_
    refine p_split h (by kernel_rfl) (fun h4 h => ?_) (fun h4 h => ?_)
    · -- true
      refine adv_ok hm 29 _ ?_
      obtain rfl := Option.some.inj h
      exact r_retF [] (d := D.agg [D.int .i64 h_.Epoch, D.int .i64 h_.Nonce, D.int .u64 (orI .u64 h_.Grants (shlI .u64 1 m.From)), D.int .i64 (mxI h_.Until (IntKind.i64.wrap (h_.Nonce + (mnI (mxI c.L_ 0) 1048576))))]) (s := []) (by kernel_rfl) ⟨rfl, rfl⟩
    · -- false
      refine adv_ok hm 11 _ ?_
      obtain rfl := Option.some.inj h
      exact r_retF [] (d := D.agg [D.int .i64 h_.Epoch, D.int .i64 h_.Nonce, D.int .u64 (orI .u64 h_.Grants (shlI .u64 1 m.From)), D.int .i64 h_.Until]) (s := []) (by kernel_rfl) ⟨rfl, rfl⟩
noncomputable def lease_Grant (h_ : Hold) (c : Config) (m : Msg) : Option Hold := (bif ((m.Kind : Int) != 11) then (lease_Grant_1 ((m.Kind : Int) != 11) h_ c m (⟨0, 0, 0, 0⟩ : Hold)) else (bif (!(((h_.Epoch : Int) == m.Epoch) && (((h_.Nonce : Int) == m.Nonce) && true))) then (lease_Grant_1 (!(((h_.Epoch : Int) == m.Epoch) && (((h_.Nonce : Int) == m.Nonce) && true))) h_ c m (⟨0, 0, 0, 0⟩ : Hold)) else (bif (decide ((m.From : Int) < 0)) then (lease_Grant_1 (decide ((m.From : Int) < 0)) h_ c m (⟨0, 0, 0, 0⟩ : Hold)) else (bif (decide ((m.From : Int) > (IntKind.i64.wrap ((2 : Int) * (mnI (mxI c.F_ 0) 3))))) then (lease_Grant_1 (decide ((m.From : Int) > (IntKind.i64.wrap ((2 : Int) * (mnI (mxI c.F_ 0) 3))))) h_ c m (⟨0, 0, 0, 0⟩ : Hold)) else (bif (decide ((h_.Nonce : Int) < 0)) then (lease_Grant_1 (decide ((h_.Nonce : Int) < 0)) h_ c m (⟨0, 0, 0, 0⟩ : Hold)) else (lease_Grant_1 (decide ((h_.Nonce : Int) > 1099511627776)) h_ c m (⟨0, 0, 0, 0⟩ : Hold)))))))
theorem lease_Grant_ok {h_ : Hold} {c : Config} {m : Msg} {r : Hold} (h : lease_Grant h_ c m = some r) : Sound E 12 [D.agg [D.int .i64 h_.Epoch, D.int .i64 h_.Nonce, D.int .u64 h_.Grants, D.int .i64 h_.Until], D.agg [D.int .i64 c.F_, D.int .i64 c.Deciders, D.int .i64 c.Targets, D.int .i64 c.Routers, D.int .i64 c.Observers, D.sl false 1 (List.map (eInt .i64) c.Tiers), D.int .i64 c.Every, D.int .i64 c.Wait, D.int .i64 c.Rise, D.int .i64 c.Fall, D.int .i64 c.Fresh, D.int .i64 c.L_, D.int .i64 c.M_, D.int .i64 c.Dwell, D.int .i64 c.D_, D.int .i64 c.W_, D.int .i64 c.B_, D.int .i64 c.Hit, D.int .i64 c.Suppress, D.int .i64 c.Reuse, D.int .i64 c.Half, D.int .i64 c.First, D.int .i64 c.Step, D.int .i64 c.StepTime, D.int .i64 c.S_, D.int .i64 c.Cap, D.int .i64 c.Span, D.int .i64 c.Room, D.int .i64 c.Tries, D.int .i64 c.Retry], D.agg [D.int .i64 m.Kind, D.int .i64 m.From, D.int .i64 m.To, D.int .i64 m.Epoch, D.int .i64 m.Ballot, D.int .i64 m.Accepted, D.int .i64 m.Nonce, D.int .i64 m.Time, D.int .u64 m.Up, D.int .i64 m.Code, D.bool m.HasPlan, D.int .i64 m.Plan.Epoch, D.int .i64 m.Plan.Target, D.int .i64 m.Plan.Prev, D.int .i64 m.Plan.Spill, D.int .i64 m.Plan.Percent, D.int .i64 m.Plan.Stamp, D.int .i64 m.Plan.Since, D.int .i64 m.Plan.Ramped, D.int .u64 m.Plan.Up, D.int .u64 m.Plan.Sup, D.sl false 1 (List.map (eInt .i64) m.Plan.Pen), D.sl false 1 (List.map (eInt .i64) m.Plan.Changes), D.sl false 1 (List.map (eInt .i64) m.ID), D.sl false 1 (List.map (eInt .u8) m.Session), D.sl false 1 (List.map (eInt .u8) m.Payload)]] [] (lease_Grant_Q r) := by
  refine sound_ofW (m := ⟨[.code (bodyOf Try.f12)], [(0, D.agg [D.int .i64 h_.Epoch, D.int .i64 h_.Nonce, D.int .u64 h_.Grants, D.int .i64 h_.Until]), (1, D.agg [D.int .i64 c.F_, D.int .i64 c.Deciders, D.int .i64 c.Targets, D.int .i64 c.Routers, D.int .i64 c.Observers, D.sl false 1 (List.map (eInt .i64) c.Tiers), D.int .i64 c.Every, D.int .i64 c.Wait, D.int .i64 c.Rise, D.int .i64 c.Fall, D.int .i64 c.Fresh, D.int .i64 c.L_, D.int .i64 c.M_, D.int .i64 c.Dwell, D.int .i64 c.D_, D.int .i64 c.W_, D.int .i64 c.B_, D.int .i64 c.Hit, D.int .i64 c.Suppress, D.int .i64 c.Reuse, D.int .i64 c.Half, D.int .i64 c.First, D.int .i64 c.Step, D.int .i64 c.StepTime, D.int .i64 c.S_, D.int .i64 c.Cap, D.int .i64 c.Span, D.int .i64 c.Room, D.int .i64 c.Tries, D.int .i64 c.Retry]), (2, D.agg [D.int .i64 m.Kind, D.int .i64 m.From, D.int .i64 m.To, D.int .i64 m.Epoch, D.int .i64 m.Ballot, D.int .i64 m.Accepted, D.int .i64 m.Nonce, D.int .i64 m.Time, D.int .u64 m.Up, D.int .i64 m.Code, D.bool m.HasPlan, D.int .i64 m.Plan.Epoch, D.int .i64 m.Plan.Target, D.int .i64 m.Plan.Prev, D.int .i64 m.Plan.Spill, D.int .i64 m.Plan.Percent, D.int .i64 m.Plan.Stamp, D.int .i64 m.Plan.Since, D.int .i64 m.Plan.Ramped, D.int .u64 m.Plan.Up, D.int .u64 m.Plan.Sup, D.sl false 1 (List.map (eInt .i64) m.Plan.Pen), D.sl false 1 (List.map (eInt .i64) m.Plan.Changes), D.sl false 1 (List.map (eInt .i64) m.ID), D.sl false 1 (List.map (eInt .u8) m.Session), D.sl false 1 (List.map (eInt .u8) m.Payload)])], []⟩) (fn := Try.f12) (by kernel_rfl) (by kernel_rfl) ?_
  show FinQ E ⟨Try.f12, false, 0⟩ (QW (lease_Grant_Q r)) _
  unfold lease_Grant at h
  refine adv_ok hm 33 _ ?_
  refine p_split h (by kernel_rfl) (fun h1 h => ?_) (fun h1 h => ?_)
  · -- true
    refine adv_ok hm 1 _ ?_
    exact r_cut 8312 [] (m' := (lease_Grant_1M ((m.Kind : Int) != 11) h_ c m (⟨0, 0, 0, 0⟩ : Hold))) (by kernel_rfl) (lease_Grant_1_ok h)
  · -- false
    refine adv_ok hm 15 _ ?_
    refine p_split h (by kernel_rfl) (fun h2 h => ?_) (fun h2 h => ?_)
    · -- true
      refine adv_ok hm 1 _ ?_
      exact r_cut 8312 [] (m' := (lease_Grant_1M (!(((h_.Epoch : Int) == m.Epoch) && (((h_.Nonce : Int) == m.Nonce) && true))) h_ c m (⟨0, 0, 0, 0⟩ : Hold))) (by kernel_rfl) (lease_Grant_1_ok h)
    · -- false
      refine adv_ok hm 9 _ ?_
      refine p_split h (by kernel_rfl) (fun h3 h => ?_) (fun h3 h => ?_)
      · -- true
        refine adv_ok hm 1 _ ?_
        exact r_cut 8312 [] (m' := (lease_Grant_1M (decide ((m.From : Int) < 0)) h_ c m (⟨0, 0, 0, 0⟩ : Hold))) (by kernel_rfl) (lease_Grant_1_ok h)
      · -- false
        refine adv_ok hm 15 _ ?_
        refine p_split h (by kernel_rfl) (fun h4 h => ?_) (fun h4 h => ?_)
        · -- true
          refine adv_ok hm 1 _ ?_
          exact r_cut 8312 [] (m' := (lease_Grant_1M (decide ((m.From : Int) > (IntKind.i64.wrap ((2 : Int) * (mnI (mxI c.F_ 0) 3))))) h_ c m (⟨0, 0, 0, 0⟩ : Hold))) (by kernel_rfl) (lease_Grant_1_ok h)
        · -- false
          refine adv_ok hm 9 _ ?_
          refine p_split h (by kernel_rfl) (fun h5 h => ?_) (fun h5 h => ?_)
          · -- true
            refine adv_ok hm 1 _ ?_
            exact r_cut 8312 [] (m' := (lease_Grant_1M (decide ((h_.Nonce : Int) < 0)) h_ c m (⟨0, 0, 0, 0⟩ : Hold))) (by kernel_rfl) (lease_Grant_1_ok h)
          · -- false
            refine adv_ok hm 7 _ ?_
            exact r_cut 8312 [] (m' := (lease_Grant_1M (decide ((h_.Nonce : Int) > 1099511627776)) h_ c m (⟨0, 0, 0, 0⟩ : Hold))) (by kernel_rfl) (lease_Grant_1_ok h)
end Go.RX.L

set_option linter.unusedSimpArgs false
set_option linter.unusedVariables false
set_option maxRecDepth 100000
set_option maxHeartbeats 4000000
namespace Go.RX.L
open Go Go.RX Go.Proofs
def lease_Live_Q (y : Bool) (d : D) (s : Sto) : Prop := d = D.bool y ∧ s = []
noncomputable def lease_Live (h_ : Hold) (epoch : Int) (now : Int) : Option Bool := (bif ((h_.Epoch : Int) == epoch) then (some (decide ((now : Int) < h_.Until))) else (some false))
theorem lease_Live_ok {h_ : Hold} {epoch : Int} {now : Int} {r : Bool} (h : lease_Live h_ epoch now = some r) : Sound E 14 [D.agg [D.int .i64 h_.Epoch, D.int .i64 h_.Nonce, D.int .u64 h_.Grants, D.int .i64 h_.Until], D.int .i64 epoch, D.int .i64 now] [] (lease_Live_Q r) := by
  refine sound_ofW (m := ⟨[.code (bodyOf Try.f14)], [(0, D.agg [D.int .i64 h_.Epoch, D.int .i64 h_.Nonce, D.int .u64 h_.Grants, D.int .i64 h_.Until]), (1, D.int .i64 epoch), (2, D.int .i64 now)], []⟩) (fn := Try.f14) (by kernel_rfl) (by kernel_rfl) ?_
  show FinQ E ⟨Try.f14, false, 0⟩ (QW (lease_Live_Q r)) _
  unfold lease_Live at h
  refine adv_ok hm 14 _ ?_
  refine p_split h (by kernel_rfl) (fun h1 h => ?_) (fun h1 h => ?_)
  · -- true
    refine adv_ok hm 12 _ ?_
    obtain rfl := Option.some.inj h
    exact r_retF [] (d := D.bool (decide ((now : Int) < h_.Until))) (s := []) (by kernel_rfl) ⟨rfl, rfl⟩
  · -- false
    refine adv_ok hm 11 _ ?_
    obtain rfl := Option.some.inj h
    exact r_retF [] (d := D.bool false) (s := []) (by kernel_rfl) ⟨rfl, rfl⟩
end Go.RX.L

set_option linter.unusedSimpArgs false
set_option linter.unusedVariables false
set_option maxRecDepth 100000
set_option maxHeartbeats 4000000
namespace Go.RX.L
open Go Go.RX Go.Proofs
def law13_Plain_Q (y : Config) (d : D) (s : Sto) : Prop := d = D.agg [D.int .i64 y.F_, D.int .i64 y.Deciders, D.int .i64 y.Targets, D.int .i64 y.Routers, D.int .i64 y.Observers, D.sl false 1 (List.map (eInt .i64) y.Tiers), D.int .i64 y.Every, D.int .i64 y.Wait, D.int .i64 y.Rise, D.int .i64 y.Fall, D.int .i64 y.Fresh, D.int .i64 y.L_, D.int .i64 y.M_, D.int .i64 y.Dwell, D.int .i64 y.D_, D.int .i64 y.W_, D.int .i64 y.B_, D.int .i64 y.Hit, D.int .i64 y.Suppress, D.int .i64 y.Reuse, D.int .i64 y.Half, D.int .i64 y.First, D.int .i64 y.Step, D.int .i64 y.StepTime, D.int .i64 y.S_, D.int .i64 y.Cap, D.int .i64 y.Span, D.int .i64 y.Room, D.int .i64 y.Tries, D.int .i64 y.Retry] ∧ s = []
noncomputable def law13_Plain  : Option Config := (some (⟨1, 2, 2, 1, 3, [1, 0], 5, 3, 2, 2, 20, 20, 5, 10, 3, 50, 3, 1000, 1500, 700, 30, 20, 40, 5, 10, 5, 10, 4, 3, 5⟩ : Config))
theorem law13_Plain_ok  {r : Config} (h : law13_Plain = some r) : Sound E 17 [] [] (law13_Plain_Q r) := by
  refine sound_ofW (m := ⟨[.code (bodyOf Try.f17)], [], []⟩) (fn := Try.f17) (by kernel_rfl) (by kernel_rfl) ?_
  show FinQ E ⟨Try.f17, false, 0⟩ (QW (law13_Plain_Q r)) _
  unfold law13_Plain at h
  refine adv_ok hm 15 _ ?_
  obtain rfl := Option.some.inj h
  exact r_retF [] (d := D.agg [D.int .i64 1, D.int .i64 2, D.int .i64 2, D.int .i64 1, D.int .i64 3, D.sl false 1 [[D.int .i64 1], [D.int .i64 0]], D.int .i64 5, D.int .i64 3, D.int .i64 2, D.int .i64 2, D.int .i64 20, D.int .i64 20, D.int .i64 5, D.int .i64 10, D.int .i64 3, D.int .i64 50, D.int .i64 3, D.int .i64 1000, D.int .i64 1500, D.int .i64 700, D.int .i64 30, D.int .i64 20, D.int .i64 40, D.int .i64 5, D.int .i64 10, D.int .i64 5, D.int .i64 10, D.int .i64 4, D.int .i64 3, D.int .i64 5]) (s := []) (by kernel_rfl) ⟨rfl, rfl⟩
end Go.RX.L

set_option linter.unusedSimpArgs false
set_option linter.unusedVariables false
set_option maxRecDepth 100000
set_option maxHeartbeats 4000000
namespace Go.RX.L
open Go Go.RX Go.Proofs
def law17_head_Q (y : Bool) (d : D) (s : Sto) : Prop := d = D.bool y ∧ s = []
noncomputable def law17_head  : Option Bool := ((law13_Plain ).bind fun y1 => ((lease_Ask (⟨0, 0, 0, 0⟩ : Hold) 1 5).bind fun y2 => ((lease_Grant y2 y1 (⟨11, 0, 0, 1, 0, 0, 5, 0, 0, 0, false, (⟨0, 0, 0, 0, 0, 0, 0, 0, 0, 0, [], []⟩ : Plan), [], [], []⟩ : Msg)).bind fun y3 => ((lease_Grant y3 y1 (⟨11, 2, 0, 1, 0, 0, 5, 0, 0, 0, false, (⟨0, 0, 0, 0, 0, 0, 0, 0, 0, 0, [], []⟩ : Plan), [], [], []⟩ : Msg)).bind fun y4 => ((lease_Live y3 1 6).bind fun y5 => (bif (!y5) then ((lease_Live y4 1 24).bind fun y7 => (bif y7 then ((lease_Live y4 1 25).bind fun y9 => (bif (!y9) then ((lease_Live y4 2 6).bind fun y11 => (some (!y11))) else (some false))) else (some false))) else (some false)))))))
theorem law17_head_ok  {r : Bool} (h : law17_head = some r) : Sound E 8 [] [] (law17_head_Q r) := by
  refine sound_ofW (m := ⟨[.code (bodyOf Try.f8)], [], []⟩) (fn := Try.f8) (by kernel_rfl) (by kernel_rfl) ?_
  show FinQ E ⟨Try.f8, false, 0⟩ (QW (law17_head_Q r)) _
  unfold law17_head at h
  refine adv_ok hm 7 _ ?_
  have ok1 := fun (y : Config) (hy : law13_Plain  = some y) => law13_Plain_ok hy
  refine p_callE [] (args1 := []) (args := []) (fun y1 => D.agg [D.int .i64 y1.F_, D.int .i64 y1.Deciders, D.int .i64 y1.Targets, D.int .i64 y1.Routers, D.int .i64 y1.Observers, D.sl false 1 (List.map (eInt .i64) y1.Tiers), D.int .i64 y1.Every, D.int .i64 y1.Wait, D.int .i64 y1.Rise, D.int .i64 y1.Fall, D.int .i64 y1.Fresh, D.int .i64 y1.L_, D.int .i64 y1.M_, D.int .i64 y1.Dwell, D.int .i64 y1.D_, D.int .i64 y1.W_, D.int .i64 y1.B_, D.int .i64 y1.Hit, D.int .i64 y1.Suppress, D.int .i64 y1.Reuse, D.int .i64 y1.Half, D.int .i64 y1.First, D.int .i64 y1.Step, D.int .i64 y1.StepTime, D.int .i64 y1.S_, D.int .i64 y1.Cap, D.int .i64 y1.Span, D.int .i64 y1.Room, D.int .i64 y1.Tries, D.int .i64 y1.Retry]) (fun y1 => []) h (by kernel_rfl) ⟨rfl, rfl⟩ ok1 (fun y1 h1 h => ?_)
  refine adv_ok hm 9 _ ?_
  have ok2 := fun (y : Hold) (hy : lease_Ask (⟨0, 0, 0, 0⟩ : Hold) 1 5 = some y) => lease_Ask_ok hy
  refine p_callE [] (args1 := [D.agg [D.int .i64 0, D.int .i64 0, D.int .u64 0, D.int .i64 0], D.int .i64 1, D.int .i64 5]) (args := [D.agg [D.int .i64 0, D.int .i64 0, D.int .u64 0, D.int .i64 0], D.int .i64 1, D.int .i64 5]) (fun y2 => D.agg [D.int .i64 y2.Epoch, D.int .i64 y2.Nonce, D.int .u64 y2.Grants, D.int .i64 y2.Until]) (fun y2 => []) h (by kernel_rfl) ⟨rfl, rfl⟩ ok2 (fun y2 h2 h => ?_)
  refine adv_ok hm 13 _ ?_
  have ok3 := fun (y : Hold) (hy : lease_Grant y2 y1 (⟨11, 0, 0, 1, 0, 0, 5, 0, 0, 0, false, (⟨0, 0, 0, 0, 0, 0, 0, 0, 0, 0, [], []⟩ : Plan), [], [], []⟩ : Msg) = some y) => lease_Grant_ok hy
  refine p_callE [some 1, some 1, some 1, some 1, some 1] (args1 := [D.agg [D.int .i64 y2.Epoch, D.int .i64 y2.Nonce, D.int .u64 y2.Grants, D.int .i64 y2.Until], D.agg [D.int .i64 y1.F_, D.int .i64 y1.Deciders, D.int .i64 y1.Targets, D.int .i64 y1.Routers, D.int .i64 y1.Observers, D.sl false 1 (List.map (eInt .i64) y1.Tiers), D.int .i64 y1.Every, D.int .i64 y1.Wait, D.int .i64 y1.Rise, D.int .i64 y1.Fall, D.int .i64 y1.Fresh, D.int .i64 y1.L_, D.int .i64 y1.M_, D.int .i64 y1.Dwell, D.int .i64 y1.D_, D.int .i64 y1.W_, D.int .i64 y1.B_, D.int .i64 y1.Hit, D.int .i64 y1.Suppress, D.int .i64 y1.Reuse, D.int .i64 y1.Half, D.int .i64 y1.First, D.int .i64 y1.Step, D.int .i64 y1.StepTime, D.int .i64 y1.S_, D.int .i64 y1.Cap, D.int .i64 y1.Span, D.int .i64 y1.Room, D.int .i64 y1.Tries, D.int .i64 y1.Retry], D.agg [D.int .i64 11, D.int .i64 0, D.int .i64 0, D.int .i64 1, D.int .i64 0, D.int .i64 0, D.int .i64 5, D.int .i64 0, D.int .u64 0, D.int .i64 0, D.bool false, D.int .i64 0, D.int .i64 0, D.int .i64 0, D.int .i64 0, D.int .i64 0, D.int .i64 0, D.int .i64 0, D.int .i64 0, D.int .u64 0, D.int .u64 0, D.sl false 1 [], D.sl false 1 [], D.sl false 1 [], D.sl false 1 [], D.sl false 1 []]]) (args := [D.agg [D.int .i64 y2.Epoch, D.int .i64 y2.Nonce, D.int .u64 y2.Grants, D.int .i64 y2.Until], D.agg [D.int .i64 y1.F_, D.int .i64 y1.Deciders, D.int .i64 y1.Targets, D.int .i64 y1.Routers, D.int .i64 y1.Observers, D.sl false 1 (List.map (eInt .i64) y1.Tiers), D.int .i64 y1.Every, D.int .i64 y1.Wait, D.int .i64 y1.Rise, D.int .i64 y1.Fall, D.int .i64 y1.Fresh, D.int .i64 y1.L_, D.int .i64 y1.M_, D.int .i64 y1.Dwell, D.int .i64 y1.D_, D.int .i64 y1.W_, D.int .i64 y1.B_, D.int .i64 y1.Hit, D.int .i64 y1.Suppress, D.int .i64 y1.Reuse, D.int .i64 y1.Half, D.int .i64 y1.First, D.int .i64 y1.Step, D.int .i64 y1.StepTime, D.int .i64 y1.S_, D.int .i64 y1.Cap, D.int .i64 y1.Span, D.int .i64 y1.Room, D.int .i64 y1.Tries, D.int .i64 y1.Retry], D.agg [D.int .i64 11, D.int .i64 0, D.int .i64 0, D.int .i64 1, D.int .i64 0, D.int .i64 0, D.int .i64 5, D.int .i64 0, D.int .u64 0, D.int .i64 0, D.bool false, D.int .i64 0, D.int .i64 0, D.int .i64 0, D.int .i64 0, D.int .i64 0, D.int .i64 0, D.int .i64 0, D.int .i64 0, D.int .u64 0, D.int .u64 0, D.sl false 1 [], D.sl false 1 [], D.sl false 1 [], D.sl false 1 [], D.sl false 1 []]]) (fun y3 => D.agg [D.int .i64 y3.Epoch, D.int .i64 y3.Nonce, D.int .u64 y3.Grants, D.int .i64 y3.Until]) (fun y3 => []) h (by kernel_rfl) ⟨rfl, rfl⟩ ok3 (fun y3 h3 h => ?_)
  refine adv_ok hm 12 _ ?_
  have ok4 := fun (y : Hold) (hy : lease_Grant y3 y1 (⟨11, 2, 0, 1, 0, 0, 5, 0, 0, 0, false, (⟨0, 0, 0, 0, 0, 0, 0, 0, 0, 0, [], []⟩ : Plan), [], [], []⟩ : Msg) = some y) => lease_Grant_ok hy
  refine p_callE [some 1, some 1, some 1, some 1, some 1] (args1 := [D.agg [D.int .i64 y3.Epoch, D.int .i64 y3.Nonce, D.int .u64 y3.Grants, D.int .i64 y3.Until], D.agg [D.int .i64 y1.F_, D.int .i64 y1.Deciders, D.int .i64 y1.Targets, D.int .i64 y1.Routers, D.int .i64 y1.Observers, D.sl false 1 (List.map (eInt .i64) y1.Tiers), D.int .i64 y1.Every, D.int .i64 y1.Wait, D.int .i64 y1.Rise, D.int .i64 y1.Fall, D.int .i64 y1.Fresh, D.int .i64 y1.L_, D.int .i64 y1.M_, D.int .i64 y1.Dwell, D.int .i64 y1.D_, D.int .i64 y1.W_, D.int .i64 y1.B_, D.int .i64 y1.Hit, D.int .i64 y1.Suppress, D.int .i64 y1.Reuse, D.int .i64 y1.Half, D.int .i64 y1.First, D.int .i64 y1.Step, D.int .i64 y1.StepTime, D.int .i64 y1.S_, D.int .i64 y1.Cap, D.int .i64 y1.Span, D.int .i64 y1.Room, D.int .i64 y1.Tries, D.int .i64 y1.Retry], D.agg [D.int .i64 11, D.int .i64 2, D.int .i64 0, D.int .i64 1, D.int .i64 0, D.int .i64 0, D.int .i64 5, D.int .i64 0, D.int .u64 0, D.int .i64 0, D.bool false, D.int .i64 0, D.int .i64 0, D.int .i64 0, D.int .i64 0, D.int .i64 0, D.int .i64 0, D.int .i64 0, D.int .i64 0, D.int .u64 0, D.int .u64 0, D.sl false 1 [], D.sl false 1 [], D.sl false 1 [], D.sl false 1 [], D.sl false 1 []]]) (args := [D.agg [D.int .i64 y3.Epoch, D.int .i64 y3.Nonce, D.int .u64 y3.Grants, D.int .i64 y3.Until], D.agg [D.int .i64 y1.F_, D.int .i64 y1.Deciders, D.int .i64 y1.Targets, D.int .i64 y1.Routers, D.int .i64 y1.Observers, D.sl false 1 (List.map (eInt .i64) y1.Tiers), D.int .i64 y1.Every, D.int .i64 y1.Wait, D.int .i64 y1.Rise, D.int .i64 y1.Fall, D.int .i64 y1.Fresh, D.int .i64 y1.L_, D.int .i64 y1.M_, D.int .i64 y1.Dwell, D.int .i64 y1.D_, D.int .i64 y1.W_, D.int .i64 y1.B_, D.int .i64 y1.Hit, D.int .i64 y1.Suppress, D.int .i64 y1.Reuse, D.int .i64 y1.Half, D.int .i64 y1.First, D.int .i64 y1.Step, D.int .i64 y1.StepTime, D.int .i64 y1.S_, D.int .i64 y1.Cap, D.int .i64 y1.Span, D.int .i64 y1.Room, D.int .i64 y1.Tries, D.int .i64 y1.Retry], D.agg [D.int .i64 11, D.int .i64 2, D.int .i64 0, D.int .i64 1, D.int .i64 0, D.int .i64 0, D.int .i64 5, D.int .i64 0, D.int .u64 0, D.int .i64 0, D.bool false, D.int .i64 0, D.int .i64 0, D.int .i64 0, D.int .i64 0, D.int .i64 0, D.int .i64 0, D.int .i64 0, D.int .i64 0, D.int .u64 0, D.int .u64 0, D.sl false 1 [], D.sl false 1 [], D.sl false 1 [], D.sl false 1 [], D.sl false 1 []]]) (fun y4 => D.agg [D.int .i64 y4.Epoch, D.int .i64 y4.Nonce, D.int .u64 y4.Grants, D.int .i64 y4.Until]) (fun y4 => []) h (by kernel_rfl) ⟨rfl, rfl⟩ ok4 (fun y4 h4 h => ?_)
  refine adv_ok hm 10 _ ?_
  have ok5 := fun (y : Bool) (hy : lease_Live y3 1 6 = some y) => lease_Live_ok hy
  refine p_callE [] (args1 := [D.agg [D.int .i64 y3.Epoch, D.int .i64 y3.Nonce, D.int .u64 y3.Grants, D.int .i64 y3.Until], D.int .i64 1, D.int .i64 6]) (args := [D.agg [D.int .i64 y3.Epoch, D.int .i64 y3.Nonce, D.int .u64 y3.Grants, D.int .i64 y3.Until], D.int .i64 1, D.int .i64 6]) (fun y5 => D.bool y5) (fun y5 => []) h (by kernel_rfl) ⟨rfl, rfl⟩ ok5 (fun y5 h5 h => ?_)
  refine adv_ok hm 3 _ ?_
  refine p_split h (by kernel_rfl) (fun h6 h => ?_) (fun h6 h => ?_)
  · -- true
    refine adv_ok hm 3 _ ?_
    have ok7 := fun (y : Bool) (hy : lease_Live y4 1 24 = some y) => lease_Live_ok hy
    refine p_callE [] (args1 := [D.agg [D.int .i64 y4.Epoch, D.int .i64 y4.Nonce, D.int .u64 y4.Grants, D.int .i64 y4.Until], D.int .i64 1, D.int .i64 24]) (args := [D.agg [D.int .i64 y4.Epoch, D.int .i64 y4.Nonce, D.int .u64 y4.Grants, D.int .i64 y4.Until], D.int .i64 1, D.int .i64 24]) (fun y7 => D.bool y7) (fun y7 => []) h (by kernel_rfl) ⟨rfl, rfl⟩ ok7 (fun y7 h7 h => ?_)
    refine adv_ok hm 4 _ ?_
    refine p_split h (by kernel_rfl) (fun h8 h => ?_) (fun h8 h => ?_)
    · -- true
      refine adv_ok hm 3 _ ?_
      have ok9 := fun (y : Bool) (hy : lease_Live y4 1 25 = some y) => lease_Live_ok hy
      refine p_callE [] (args1 := [D.agg [D.int .i64 y4.Epoch, D.int .i64 y4.Nonce, D.int .u64 y4.Grants, D.int .i64 y4.Until], D.int .i64 1, D.int .i64 25]) (args := [D.agg [D.int .i64 y4.Epoch, D.int .i64 y4.Nonce, D.int .u64 y4.Grants, D.int .i64 y4.Until], D.int .i64 1, D.int .i64 25]) (fun y9 => D.bool y9) (fun y9 => []) h (by kernel_rfl) ⟨rfl, rfl⟩ ok9 (fun y9 h9 h => ?_)
      refine adv_ok hm 6 _ ?_
      refine p_split h (by kernel_rfl) (fun h10 h => ?_) (fun h10 h => ?_)
      · -- true
        refine adv_ok hm 3 _ ?_
        have ok11 := fun (y : Bool) (hy : lease_Live y4 2 6 = some y) => lease_Live_ok hy
        refine p_callE [] (args1 := [D.agg [D.int .i64 y4.Epoch, D.int .i64 y4.Nonce, D.int .u64 y4.Grants, D.int .i64 y4.Until], D.int .i64 2, D.int .i64 6]) (args := [D.agg [D.int .i64 y4.Epoch, D.int .i64 y4.Nonce, D.int .u64 y4.Grants, D.int .i64 y4.Until], D.int .i64 2, D.int .i64 6]) (fun y11 => D.bool y11) (fun y11 => []) h (by kernel_rfl) ⟨rfl, rfl⟩ ok11 (fun y11 h11 h => ?_)
        refine adv_ok hm 7 _ ?_
        obtain rfl := Option.some.inj h
        exact r_retF [] (d := D.bool (!y11)) (s := []) (by kernel_rfl) ⟨rfl, rfl⟩
      · -- false
        refine adv_ok hm 9 _ ?_
        obtain rfl := Option.some.inj h
        exact r_retF [] (d := D.bool false) (s := []) (by kernel_rfl) ⟨rfl, rfl⟩
    · -- false
      refine adv_ok hm 18 _ ?_
      obtain rfl := Option.some.inj h
      exact r_retF [] (d := D.bool false) (s := []) (by kernel_rfl) ⟨rfl, rfl⟩
  · -- false
    refine adv_ok hm 25 _ ?_
    obtain rfl := Option.some.inj h
    exact r_retF [] (d := D.bool false) (s := []) (by kernel_rfl) ⟨rfl, rfl⟩
end Go.RX.L

set_option linter.unusedSimpArgs false
set_option linter.unusedVariables false
set_option maxRecDepth 100000
set_option maxHeartbeats 4000000
namespace Go.RX.L
open Go Go.RX Go.Proofs
def ref16_f_Q (y : Int) (d : D) (s : Sto) : Prop := d = D.int .i64 y ∧ s = []
noncomputable def ref16_f (c : Config) : Option Int := (some (mnI (mxI c.F_ 0) 3))
theorem ref16_f_ok {c : Config} {r : Int} (h : ref16_f c = some r) : Sound E 21 [D.agg [D.int .i64 c.F_, D.int .i64 c.Deciders, D.int .i64 c.Targets, D.int .i64 c.Routers, D.int .i64 c.Observers, D.sl false 1 (List.map (eInt .i64) c.Tiers), D.int .i64 c.Every, D.int .i64 c.Wait, D.int .i64 c.Rise, D.int .i64 c.Fall, D.int .i64 c.Fresh, D.int .i64 c.L_, D.int .i64 c.M_, D.int .i64 c.Dwell, D.int .i64 c.D_, D.int .i64 c.W_, D.int .i64 c.B_, D.int .i64 c.Hit, D.int .i64 c.Suppress, D.int .i64 c.Reuse, D.int .i64 c.Half, D.int .i64 c.First, D.int .i64 c.Step, D.int .i64 c.StepTime, D.int .i64 c.S_, D.int .i64 c.Cap, D.int .i64 c.Span, D.int .i64 c.Room, D.int .i64 c.Tries, D.int .i64 c.Retry]] [] (ref16_f_Q r) := by
  refine sound_ofW (m := ⟨[.code (bodyOf Try.f21)], [(0, D.agg [D.int .i64 c.F_, D.int .i64 c.Deciders, D.int .i64 c.Targets, D.int .i64 c.Routers, D.int .i64 c.Observers, D.sl false 1 (List.map (eInt .i64) c.Tiers), D.int .i64 c.Every, D.int .i64 c.Wait, D.int .i64 c.Rise, D.int .i64 c.Fall, D.int .i64 c.Fresh, D.int .i64 c.L_, D.int .i64 c.M_, D.int .i64 c.Dwell, D.int .i64 c.D_, D.int .i64 c.W_, D.int .i64 c.B_, D.int .i64 c.Hit, D.int .i64 c.Suppress, D.int .i64 c.Reuse, D.int .i64 c.Half, D.int .i64 c.First, D.int .i64 c.Step, D.int .i64 c.StepTime, D.int .i64 c.S_, D.int .i64 c.Cap, D.int .i64 c.Span, D.int .i64 c.Room, D.int .i64 c.Tries, D.int .i64 c.Retry])], []⟩) (fn := Try.f21) (by kernel_rfl) (by kernel_rfl) ?_
  show FinQ E ⟨Try.f21, false, 0⟩ (QW (ref16_f_Q r)) _
  unfold ref16_f at h
  refine adv_ok hm 15 _ ?_
  obtain rfl := Option.some.inj h
  exact r_retF [] (d := D.int .i64 (mnI (mxI c.F_ 0) 3)) (s := []) (by kernel_rfl) ⟨rfl, rfl⟩
end Go.RX.L

set_option linter.unusedSimpArgs false
set_option linter.unusedVariables false
set_option maxRecDepth 100000
set_option maxHeartbeats 4000000
namespace Go.RX.L
open Go Go.RX Go.Proofs
def ref16_Most_Q (y : Bool) (d : D) (s : Sto) : Prop := d = D.bool y ∧ s = []
inductive ref16_Most_S where
  | s0 (c : Config) (mask_ : Int)
  | s1 (mask_ : Int) (n : Int) (i : Int) (c : Config)
noncomputable def ref16_Most_M : ref16_Most_S → M
  | .s0 c mask_ => ⟨[.code (bodyOf Try.f18)], [(0, D.agg [D.int .i64 c.F_, D.int .i64 c.Deciders, D.int .i64 c.Targets, D.int .i64 c.Routers, D.int .i64 c.Observers, D.sl false 1 (List.map (eInt .i64) c.Tiers), D.int .i64 c.Every, D.int .i64 c.Wait, D.int .i64 c.Rise, D.int .i64 c.Fall, D.int .i64 c.Fresh, D.int .i64 c.L_, D.int .i64 c.M_, D.int .i64 c.Dwell, D.int .i64 c.D_, D.int .i64 c.W_, D.int .i64 c.B_, D.int .i64 c.Hit, D.int .i64 c.Suppress, D.int .i64 c.Reuse, D.int .i64 c.Half, D.int .i64 c.First, D.int .i64 c.Step, D.int .i64 c.StepTime, D.int .i64 c.S_, D.int .i64 c.Cap, D.int .i64 c.Span, D.int .i64 c.Room, D.int .i64 c.Tries, D.int .i64 c.Retry]), (1, D.int .u64 mask_)], []⟩
  | .s1 mask_ n i c => { td := [It.lpc (codeAt (bodyOf Try.f18) [1, 1, 0, 1, 0, 0]) 102, It.blk 0, It.code (codeAt (bodyOf Try.f18) [1, 1, 1])], fr := [(1, D.int .u64 mask_), (2, D.ptr 0 0 0), (5, D.int .i64 n), (6, D.int .i64 i)], st := [some { sz := 30, deep := false, rows := [[D.int .i64 c.F_, D.int .i64 c.Deciders, D.int .i64 c.Targets, D.int .i64 c.Routers, D.int .i64 c.Observers, D.sl false 1 (List.map (eInt .i64) c.Tiers), D.int .i64 c.Every, D.int .i64 c.Wait, D.int .i64 c.Rise, D.int .i64 c.Fall, D.int .i64 c.Fresh, D.int .i64 c.L_, D.int .i64 c.M_, D.int .i64 c.Dwell, D.int .i64 c.D_, D.int .i64 c.W_, D.int .i64 c.B_, D.int .i64 c.Hit, D.int .i64 c.Suppress, D.int .i64 c.Reuse, D.int .i64 c.Half, D.int .i64 c.First, D.int .i64 c.Step, D.int .i64 c.StepTime, D.int .i64 c.S_, D.int .i64 c.Cap, D.int .i64 c.Span, D.int .i64 c.Room, D.int .i64 c.Tries, D.int .i64 c.Retry]] }] }
noncomputable def ref16_Most_0 (c : Config) (mask_ : Int) : Option (ref16_Most_S ⊕ Bool) := (some (.inl (.s1 mask_ 0 0 c)))
noncomputable def ref16_Most_1 (mask_ : Int) (n : Int) (i : Int) (c : Config) : Option (ref16_Most_S ⊕ Bool) := ((ref16_f c).bind fun y1 => (bif (decide ((i : Int) ≤ (IntKind.i64.wrap ((2 : Int) * y1)))) then (bif (!decide ((i : Int) < 0)) then (bif (((andI .u64 (shrI .u64 mask_ i) 1) : Int) == 1) then (some (.inl (.s1 mask_ (IntKind.i64.wrap (n + 1)) (IntKind.i64.wrap (i + 1)) c))) else (some (.inl (.s1 mask_ n (IntKind.i64.wrap (i + 1)) c)))) else none) else ((ref16_f c).bind fun y5 => (some (.inr (decide ((n : Int) ≥ (IntKind.i64.wrap (y5 + 1)))))))))
noncomputable def ref16_Most_step : ref16_Most_S → Option (ref16_Most_S ⊕ Bool)
  | .s0 c mask_ => ref16_Most_0 c mask_
  | .s1 mask_ n i c => ref16_Most_1 mask_ n i c
theorem ref16_Most_0_ok {c : Config} {mask_ : Int} {r : Bool} {x : ref16_Most_S ⊕ Bool} (h : ref16_Most_0 c mask_ = some x) (ha : After E ⟨Try.f18, false, 0⟩ ref16_Most_Q ref16_Most_M r x) : FinQ E ⟨Try.f18, false, 0⟩ (QW (ref16_Most_Q r)) (.go (ref16_Most_M (.s0 c mask_))) := by
  unfold ref16_Most_0 at h
  refine adv_ok hm 17 _ ?_
  obtain rfl := Option.some.inj h
  exact r_to (q' := .go (ref16_Most_M (.s1 mask_ 0 0 c))) (by kernel_rfl) ha
theorem ref16_Most_1_ok {mask_ : Int} {n : Int} {i : Int} {c : Config} {r : Bool} {x : ref16_Most_S ⊕ Bool} (h : ref16_Most_1 mask_ n i c = some x) (ha : After E ⟨Try.f18, false, 0⟩ ref16_Most_Q ref16_Most_M r x) : FinQ E ⟨Try.f18, false, 0⟩ (QW (ref16_Most_Q r)) (.go (ref16_Most_M (.s1 mask_ n i c))) := by
  unfold ref16_Most_1 at h
  refine adv_ok hm 8 _ ?_
  have ok1 := fun (y : Int) (hy : ref16_f c = some y) => ref16_f_ok hy
  refine p_callE [] (args1 := [D.agg [D.int .i64 c.F_, D.int .i64 c.Deciders, D.int .i64 c.Targets, D.int .i64 c.Routers, D.int .i64 c.Observers, D.sl false 1 (List.map (eInt .i64) c.Tiers), D.int .i64 c.Every, D.int .i64 c.Wait, D.int .i64 c.Rise, D.int .i64 c.Fall, D.int .i64 c.Fresh, D.int .i64 c.L_, D.int .i64 c.M_, D.int .i64 c.Dwell, D.int .i64 c.D_, D.int .i64 c.W_, D.int .i64 c.B_, D.int .i64 c.Hit, D.int .i64 c.Suppress, D.int .i64 c.Reuse, D.int .i64 c.Half, D.int .i64 c.First, D.int .i64 c.Step, D.int .i64 c.StepTime, D.int .i64 c.S_, D.int .i64 c.Cap, D.int .i64 c.Span, D.int .i64 c.Room, D.int .i64 c.Tries, D.int .i64 c.Retry]]) (args := [D.agg [D.int .i64 c.F_, D.int .i64 c.Deciders, D.int .i64 c.Targets, D.int .i64 c.Routers, D.int .i64 c.Observers, D.sl false 1 (List.map (eInt .i64) c.Tiers), D.int .i64 c.Every, D.int .i64 c.Wait, D.int .i64 c.Rise, D.int .i64 c.Fall, D.int .i64 c.Fresh, D.int .i64 c.L_, D.int .i64 c.M_, D.int .i64 c.Dwell, D.int .i64 c.D_, D.int .i64 c.W_, D.int .i64 c.B_, D.int .i64 c.Hit, D.int .i64 c.Suppress, D.int .i64 c.Reuse, D.int .i64 c.Half, D.int .i64 c.First, D.int .i64 c.Step, D.int .i64 c.StepTime, D.int .i64 c.S_, D.int .i64 c.Cap, D.int .i64 c.Span, D.int .i64 c.Room, D.int .i64 c.Tries, D.int .i64 c.Retry]]) (fun y1 => D.int .i64 y1) (fun y1 => []) h (by kernel_rfl) ⟨rfl, rfl⟩ ok1 (fun y1 h1 h => ?_)
  refine adv_ok hm 4 _ ?_
  refine p_split h (by kernel_rfl) (fun h2 h => ?_) (fun h2 h => ?_)
  · -- true
    refine adv_ok hm 8 _ ?_
    refine p_need h (by kernel_rfl) (fun h3 h => ?_)
    refine adv_ok hm 4 _ ?_
    refine p_split h (by kernel_rfl) (fun h4 h => ?_) (fun h4 h => ?_)
    · -- true
      refine adv_ok hm 12 _ ?_
      obtain rfl := Option.some.inj h
      exact r_to (q' := .go (ref16_Most_M (.s1 mask_ (IntKind.i64.wrap (n + 1)) (IntKind.i64.wrap (i + 1)) c))) (by kernel_rfl) ha
    · -- false
      refine adv_ok hm 8 _ ?_
      obtain rfl := Option.some.inj h
      exact r_to (q' := .go (ref16_Most_M (.s1 mask_ n (IntKind.i64.wrap (i + 1)) c))) (by kernel_rfl) ha
  · -- false
    refine adv_ok hm 7 _ ?_
    have ok5 := fun (y : Int) (hy : ref16_f c = some y) => ref16_f_ok hy
    refine p_callE [] (args1 := [D.agg [D.int .i64 c.F_, D.int .i64 c.Deciders, D.int .i64 c.Targets, D.int .i64 c.Routers, D.int .i64 c.Observers, D.sl false 1 (List.map (eInt .i64) c.Tiers), D.int .i64 c.Every, D.int .i64 c.Wait, D.int .i64 c.Rise, D.int .i64 c.Fall, D.int .i64 c.Fresh, D.int .i64 c.L_, D.int .i64 c.M_, D.int .i64 c.Dwell, D.int .i64 c.D_, D.int .i64 c.W_, D.int .i64 c.B_, D.int .i64 c.Hit, D.int .i64 c.Suppress, D.int .i64 c.Reuse, D.int .i64 c.Half, D.int .i64 c.First, D.int .i64 c.Step, D.int .i64 c.StepTime, D.int .i64 c.S_, D.int .i64 c.Cap, D.int .i64 c.Span, D.int .i64 c.Room, D.int .i64 c.Tries, D.int .i64 c.Retry]]) (args := [D.agg [D.int .i64 c.F_, D.int .i64 c.Deciders, D.int .i64 c.Targets, D.int .i64 c.Routers, D.int .i64 c.Observers, D.sl false 1 (List.map (eInt .i64) c.Tiers), D.int .i64 c.Every, D.int .i64 c.Wait, D.int .i64 c.Rise, D.int .i64 c.Fall, D.int .i64 c.Fresh, D.int .i64 c.L_, D.int .i64 c.M_, D.int .i64 c.Dwell, D.int .i64 c.D_, D.int .i64 c.W_, D.int .i64 c.B_, D.int .i64 c.Hit, D.int .i64 c.Suppress, D.int .i64 c.Reuse, D.int .i64 c.Half, D.int .i64 c.First, D.int .i64 c.Step, D.int .i64 c.StepTime, D.int .i64 c.S_, D.int .i64 c.Cap, D.int .i64 c.Span, D.int .i64 c.Room, D.int .i64 c.Tries, D.int .i64 c.Retry]]) (fun y5 => D.int .i64 y5) (fun y5 => []) h (by kernel_rfl) ⟨rfl, rfl⟩ ok5 (fun y5 h5 h => ?_)
    refine adv_ok hm 5 _ ?_
    obtain rfl := Option.some.inj h
    have hv := ha
    simp only [After] at hv
    subst hv
    exact r_retF [] (d := D.bool (decide ((n : Int) ≥ (IntKind.i64.wrap (y5 + 1))))) (s := []) (by kernel_rfl) ⟨rfl, rfl⟩
theorem ref16_Most_ev {c : Config} {mask_ : Int} {r : Bool} (h : Ev ref16_Most_step (.s0 c mask_) r) : Sound E 18 [D.agg [D.int .i64 c.F_, D.int .i64 c.Deciders, D.int .i64 c.Targets, D.int .i64 c.Routers, D.int .i64 c.Observers, D.sl false 1 (List.map (eInt .i64) c.Tiers), D.int .i64 c.Every, D.int .i64 c.Wait, D.int .i64 c.Rise, D.int .i64 c.Fall, D.int .i64 c.Fresh, D.int .i64 c.L_, D.int .i64 c.M_, D.int .i64 c.Dwell, D.int .i64 c.D_, D.int .i64 c.W_, D.int .i64 c.B_, D.int .i64 c.Hit, D.int .i64 c.Suppress, D.int .i64 c.Reuse, D.int .i64 c.Half, D.int .i64 c.First, D.int .i64 c.Step, D.int .i64 c.StepTime, D.int .i64 c.S_, D.int .i64 c.Cap, D.int .i64 c.Span, D.int .i64 c.Room, D.int .i64 c.Tries, D.int .i64 c.Retry], D.int .u64 mask_] [] (ref16_Most_Q r) :=
  sound_ofW (m := ref16_Most_M (.s0 c mask_)) (fn := Try.f18) (by kernel_rfl) (by kernel_rfl) (ev_run (C := ⟨Try.f18, false, 0⟩) (fun s x r hs ha => by
    cases s with
    | s0 => exact ref16_Most_0_ok hs ha
    | s1 => exact ref16_Most_1_ok hs ha) h)
noncomputable def ref16_Most (c : Config) (mask_ : Int) : Option Bool := evf ref16_Most_step (.s0 c mask_)
theorem ref16_Most_ok {c : Config} {mask_ : Int} {r : Bool} (h : ref16_Most c mask_ = some r) : Sound E 18 [D.agg [D.int .i64 c.F_, D.int .i64 c.Deciders, D.int .i64 c.Targets, D.int .i64 c.Routers, D.int .i64 c.Observers, D.sl false 1 (List.map (eInt .i64) c.Tiers), D.int .i64 c.Every, D.int .i64 c.Wait, D.int .i64 c.Rise, D.int .i64 c.Fall, D.int .i64 c.Fresh, D.int .i64 c.L_, D.int .i64 c.M_, D.int .i64 c.Dwell, D.int .i64 c.D_, D.int .i64 c.W_, D.int .i64 c.B_, D.int .i64 c.Hit, D.int .i64 c.Suppress, D.int .i64 c.Reuse, D.int .i64 c.Half, D.int .i64 c.First, D.int .i64 c.Step, D.int .i64 c.StepTime, D.int .i64 c.S_, D.int .i64 c.Cap, D.int .i64 c.Span, D.int .i64 c.Room, D.int .i64 c.Tries, D.int .i64 c.Retry], D.int .u64 mask_] [] (ref16_Most_Q r) := ref16_Most_ev (evf_ev h)
end Go.RX.L

set_option linter.unusedSimpArgs false
set_option linter.unusedVariables false
namespace Go.RX.L
open Go Go.RX

/-- How many of the lowest n bits are set. -/
def cnt (g : Nat) : Nat → Nat
  | 0 => 0
  | n + 1 => cnt g n + (if g.testBit n then 1 else 0)

theorem cnt_mod (m k : Nat) : ∀ n, cnt (m % 2 ^ k) n = cnt m (min k n)
  | 0 => by simp [cnt]
  | n + 1 => by
    unfold cnt
    rw [cnt_mod m k n, Nat.testBit_mod_two_pow]
    by_cases h : n < k
    · rw [show min k n = n by omega, show min k (n + 1) = n + 1 by omega]
      simp [cnt, h]
    · rw [show min k n = k by omega, show min k (n + 1) = k by omega]
      simp [h]
      cases k <;> simp [cnt]

noncomputable def onesAll : Bool := (List.range 128).all fun n => decide (math_bits_OnesCount64 (n : Int) = some (cnt n 7 : Int))
theorem onesAll_ok : onesAll = true := by kernel_rfl
theorem ones_ok {n : Nat} (h : n < 128) : math_bits_OnesCount64 (n : Int) = some (cnt n 7 : Int) := by
  have := List.all_eq_true.1 onesAll_ok n (List.mem_range.2 h)
  exact of_decide_eq_true this

/-- How many may fail. -/
def fN (c : Config) : Nat := (mnI (mxI c.F_ 0) 3).toNat
theorem fN_le (c : Config) : fN c ≤ 3 := by unfold fN mnI mxI; split <;> split <;> omega
theorem fN_eq (c : Config) : mnI (mxI c.F_ 0) 3 = (fN c : Int) := by unfold fN mnI mxI; split <;> split <;> omega
theorem fN_of {c : Config} {f : Nat} (h : c.F_ = f) (hf : f ≤ 3) : fN c = f := by
  unfold fN mnI mxI
  rw [h]
  split <;> split <;> omega

def mostP (c : Config) (g : Nat) : Bool := decide (fN c < cnt g (2 * fN c + 1))

theorem most_ok (c : Config) {g : Nat} (hg : g < 18446744073709551616) : proposer_Most c g = some (mostP c g) := by
  have hf := fN_le c
  have p1 : (2 : Nat) ^ (2 * fN c + 1) ≤ 2 ^ 7 := Nat.pow_le_pow_right (by decide) (by omega)
  have p0 : 0 < (2 : Nat) ^ (2 * fN c + 1) := Nat.pow_pos (by decide)
  have e1 : IntKind.i64.wrap ((IntKind.i64.wrap ((2 : Int) * (fN c : Int))) + 1) = ((2 * fN c + 1 : Nat) : Int) := by
    rw [wI64 (n := 2 * (fN c : Int)) (by omega) (by omega), wI64 (by omega) (by omega)]; rfl
  have e2 : IntKind.u64.wrap (((2 ^ (2 * fN c + 1) : Nat) : Int) - 1) = ((2 ^ (2 * fN c + 1) - 1 : Nat) : Int) := by
    rw [wU64 (by omega) (by omega)]; omega
  have e3 : g &&& (2 ^ (2 * fN c + 1) - 1) = g % 2 ^ (2 * fN c + 1) := Nat.and_two_pow_sub_one_eq_mod g _
  have l3 : g % 2 ^ (2 * fN c + 1) < 128 := Nat.lt_of_lt_of_le (Nat.mod_lt _ p0) (by omega)
  unfold proposer_Most proposer_more
  simp only [Option.bind_some, fN_eq, e1, nn0, cond_true]
  rw [shlI64 (by omega), e2, andI64 hg (by omega), e3, ones_ok l3, cnt_mod, show min (2 * fN c + 1) 7 = 2 * fN c + 1 by omega]
  simp [mostP]

theorem rmost_loop (c : Config) {g : Nat} (hg : g < 18446744073709551616) : ∀ (j k : Nat), k + j = 2 * fN c + 1 → Ev ref16_Most_step (.s1 g (cnt g k : Nat) k c) (mostP c g) := by
  have hf := fN_le c
  have e0 : IntKind.i64.wrap ((2 : Int) * (fN c : Int)) = 2 * (fN c : Int) := wI64 (by omega) (by omega)
  have ecnt : ∀ k, cnt g k ≤ k := fun k => by
    induction k with
    | zero => simp [cnt]
    | succ k ih => unfold cnt; split <;> omega
  intro j
  induction j with
  | zero =>
    intro k hk
    refine .done ?_
    have : k = 2 * fN c + 1 := by omega
    subst this
    have e1 : IntKind.i64.wrap ((fN c : Int) + 1) = (fN c : Int) + 1 := wI64 (by omega) (by omega)
    simp only [ref16_Most_step, ref16_Most_1, ref16_f, fN_eq, Option.bind_some, e0, e1]
    simp [mostP, show ¬ (2 * (fN c : Int) + 1 ≤ 2 * (fN c : Int)) by omega]
    have := ecnt (2 * fN c + 1)
    by_cases h : fN c < cnt g (2 * fN c + 1)
    · simp [h]; omega
    · simp [h]; omega
  | succ j ih =>
    intro k hk
    have hc := ecnt k
    have w1 : IntKind.i64.wrap ((k : Int) + 1) = ((k + 1 : Nat) : Int) := by rw [wI64 (by omega) (by omega)]; rfl
    have w2 : IntKind.i64.wrap ((cnt g k : Int) + 1) = ((cnt g k + 1 : Nat) : Int) := by rw [wI64 (by omega) (by omega)]; rfl
    have hb := bitI64 (a := g) (k := k) hg (by omega)
    refine .next (s' := .s1 g (cnt g (k + 1) : Nat) ((k + 1 : Nat) : Int) c) ?_ (ih (k + 1) (by omega))
    simp only [ref16_Most_step, ref16_Most_1, ref16_f, fN_eq, Option.bind_some, e0, w1, w2, nn0, hb]
    cases ht : g.testBit k <;> simp [cnt, ht, show (k : Int) ≤ 2 * (fN c : Int) by omega, show ¬ ((k : Int) < 0) by omega]

theorem rmost_ok (c : Config) {g : Nat} (hg : g < 18446744073709551616) : ref16_Most c g = some (mostP c g) := by
  refine evf_of (.next (s' := .s1 g (cnt g 0 : Nat) (0 : Nat) c) ?_ (rmost_loop c hg (2 * fN c + 1) 0 (by omega)))
  simp [ref16_Most_step, ref16_Most_0, cnt]

/-- What a question makes of a lease. -/
def askP (h : Hold) (e n : Int) : Hold := ⟨e, n, 0, if h.Epoch = e then h.Until else 0⟩
theorem ask_ok (h : Hold) (e n : Int) : lease_Ask h e n = some (askP h e n) := by
  unfold lease_Ask lease_Ask_1 askP
  by_cases x : h.Epoch = e
  · simp [x]
  · simp [x, bne, beq_eq_false_iff_ne.2 x]

def liveP (h : Hold) (e n : Int) : Bool := decide (h.Epoch = e) && decide (n < h.Until)
theorem live_ok (h : Hold) (e n : Int) : lease_Live h e n = some (liveP h e n) := by
  unfold lease_Live liveP
  by_cases x : h.Epoch = e
  · simp [x]
  · simp [x, bne, beq_eq_false_iff_ne.2 x]

/-- What is granted. -/
def goodP (h : Hold) (c : Config) (m : Msg) : Bool := decide (m.Kind = 11) && (decide (h.Epoch = m.Epoch) && (decide (h.Nonce = m.Nonce) && (!decide (m.From < 0) && (!decide (m.From > 2 * (fN c : Int)) && (!decide (h.Nonce < 0) && !decide (h.Nonce > 1099511627776))))))
def lP (c : Config) : Int := mnI (mxI c.L_ 0) 1048576
theorem lP_le (c : Config) : 0 ≤ lP c ∧ lP c ≤ 1048576 := by unfold lP mnI mxI; split <;> split <;> omega
def givenP (h : Hold) (c : Config) (k : Nat) : Hold := ⟨h.Epoch, h.Nonce, (h.Grants.toNat ||| 2 ^ k : Nat), bif mostP c (h.Grants.toNat ||| 2 ^ k) then mxI h.Until (h.Nonce + lP c) else h.Until⟩
def grantP (h : Hold) (c : Config) (m : Msg) : Hold := if goodP h c m then givenP h c m.From.toNat else h

theorem or_lt {g k : Nat} (hg : g < 18446744073709551616) (hk : k ≤ 6) : g ||| 2 ^ k < 18446744073709551616 :=
  Nat.or_lt_two_pow (n := 64) (by omega) (Nat.lt_of_le_of_lt (Nat.pow_le_pow_right (by decide) hk) (by decide))

theorem given_ok (h : Hold) (c : Config) (m : Msg) (b : Hold) (hg : inK .u64 h.Grants) (hh : goodP h c m = true) : lease_Grant_1 false h c m b = some (givenP h c m.From.toNat) := by
  have hg' := inU64.1 hg
  have hf := fN_le c
  have hl := lP_le c
  simp only [goodP, Bool.and_eq_true, Bool.not_eq_true', decide_eq_true_eq, decide_eq_false_iff_not] at hh
  obtain ⟨-, -, -, h1, h2, h3, h4⟩ := hh
  obtain ⟨k, hk⟩ := Int.eq_ofNat_of_zero_le (show 0 ≤ m.From by omega)
  obtain ⟨g, hgg⟩ := Int.eq_ofNat_of_zero_le hg'.1
  have hgl : g < 18446744073709551616 := by omega
  have hp : (2 : Nat) ^ k ≤ 2 ^ 6 := Nat.pow_le_pow_right (by decide) (by omega)
  have w : IntKind.i64.wrap (h.Nonce + lP c) = h.Nonce + lP c := wI64 (by omega) (by omega)
  unfold lease_Grant_1
  rw [hk, hgg, shlI64 (by omega), orI64 hgl (by omega), most_ok c (or_lt hgl (by omega))]
  change (bif _ then _ else _) = _
  simp only [cond_false, nn0, cond_true, Option.bind_some]
  rw [show mnI (mxI c.L_ 0) 1048576 = lP c from rfl, w]
  unfold givenP
  rw [hgg]
  simp only [Int.toNat_natCast]
  cases mostP c (g ||| 2 ^ k) <;> rfl

theorem grant_ok (h : Hold) (c : Config) (m : Msg) (hg : inK .u64 h.Grants) : lease_Grant h c m = some (grantP h c m) := by
  have hf := fN_le c
  have e2 : IntKind.i64.wrap ((2 : Int) * (fN c : Int)) = 2 * (fN c : Int) := wI64 (by omega) (by omega)
  have no : ∀ b, lease_Grant_1 true h c m b = some h := fun b => rfl
  unfold lease_Grant
  rw [fN_eq, e2]
  by_cases h1 : m.Kind = 11
  · by_cases h2 : h.Epoch = m.Epoch
    · by_cases h3 : h.Nonce = m.Nonce
      · by_cases h4 : m.From < 0
        · simp [grantP, goodP, h1, h2, h3, h4, no]
        · by_cases h5 : m.From > 2 * (fN c : Int)
          · simp [grantP, goodP, h1, h2, h3, h4, h5, no]
          · by_cases h6 : h.Nonce < 0
            · have h6' := h6
              rw [h3] at h6'
              simp [grantP, goodP, h1, h2, h3, h4, h5, h6', no]
            · by_cases h7 : h.Nonce > 1099511627776
              · have h6' := h6
                have h7' := h7
                rw [h3] at h6' h7'
                rw [show grantP h c m = h from if_neg (by simp [goodP, decide_eq_true h7])]
                simp only [h1, h2, ← h3, h4, h5, bne_self_eq_false, beq_self_eq_true, Bool.and_true, Bool.not_true, cond_false, decide_false, h6, decide_eq_true h7, no]
              · have gd : goodP h c m = true := by simp only [goodP, decide_eq_true h1, decide_eq_true h2, decide_eq_true h3, decide_eq_false h4, decide_eq_false h5, decide_eq_false h6, decide_eq_false h7]; rfl
                rw [show grantP h c m = givenP h c m.From.toNat from if_pos gd]
                simp only [h1, h2, ← h3, h4, h5, bne_self_eq_false, beq_self_eq_true, Bool.and_true, Bool.not_true, cond_false, decide_false, h6, h7]
                exact given_ok h c m _ hg gd
      · simp [grantP, goodP, h1, h2, h3, no, beq_eq_false_iff_ne.2 h3]
    · simp [grantP, goodP, h1, h2, no, beq_eq_false_iff_ne.2 h2]
  · have hb : (m.Kind != 11) = true := by simpa using h1
    simp [grantP, goodP, hb, h1, no]

theorem given_u64 (h : Hold) (c : Config) {k : Nat} (hg : inK .u64 h.Grants) (hk : k ≤ 6) : inK .u64 (givenP h c k).Grants := by
  have hg' := inU64.1 hg
  have := or_lt (g := h.Grants.toNat) (k := k) (by omega) hk
  exact inU64.2 ⟨Int.natCast_nonneg _, by show ((h.Grants.toNat ||| 2 ^ k : Nat) : Int) ≤ _; omega⟩

theorem good_from {h : Hold} {c : Config} {m : Msg} (hh : goodP h c m = true) : 0 ≤ m.From ∧ m.From ≤ 2 * (fN c : Int) ∧ 0 ≤ h.Nonce ∧ h.Nonce ≤ 1099511627776 := by
  simp only [goodP, Bool.and_eq_true, Bool.not_eq_true', decide_eq_true_eq, decide_eq_false_iff_not] at hh
  omega

theorem grant_u64 (h : Hold) (c : Config) (m : Msg) (hg : inK .u64 h.Grants) : inK .u64 (grantP h c m).Grants := by
  unfold grantP
  split
  · rename_i hh
    have := good_from hh
    have := fN_le c
    exact given_u64 h c hg (by omega)
  · exact hg

def plainC : Config := ⟨1, 2, 2, 1, 3, [1, 0], 5, 3, 2, 2, 20, 20, 5, 10, 3, 50, 3, 1000, 1500, 700, 30, 20, 40, 5, 10, 5, 10, 4, 3, 5⟩
theorem plain_ok : law13_Plain = some plainC := rfl

theorem head_ok : law17_head = some true := by
  unfold law17_head
  rw [plain_ok]
  simp only [Option.bind_some, ask_ok]
  rw [grant_ok _ _ _ (by exact inU64.2 (by decide))]
  simp only [Option.bind_some]
  rw [grant_ok _ _ _ (grant_u64 _ _ _ (by exact inU64.2 (by decide)))]
  simp only [Option.bind_some, live_ok]
  decide
end Go.RX.L

set_option linter.unusedSimpArgs false
set_option linter.unusedVariables false
set_option maxRecDepth 100000
set_option maxHeartbeats 4000000
namespace Go.RX.L
open Go Go.RX Go.Proofs
def law17_LeaseFew_Q (y : Bool) (d : D) (s : Sto) : Prop := d = D.bool y ∧ s = []
inductive law17_LeaseFew_S where
  | s0 (f : Int) (from_ : List Int) (now : Int) (at_ : Int)
  | s1 (from_ : List Int) (now : Int) (at_ : Int) (up : Bool) (t26 : Bool) (c : Config)
  | s2 (from_ : List Int) (now : Int) (at_ : Int) (up : Bool) (i : Int) (c : Config) (h_ : Hold)
noncomputable def law17_LeaseFew_M : law17_LeaseFew_S → M
  | .s0 f from_ now at_ => ⟨[.code (bodyOf Try.f7)], [(0, D.int .u8 f), (1, D.sl false 1 (List.map (eInt .u8) from_)), (2, D.int .u16 now), (3, D.int .u16 at_)], []⟩
  | .s1 from_ now at_ up t26 c => { td := [It.code (codeAt (bodyOf Try.f7) [1, 1, 1, 1, 0, 1]), It.code (codeAt (bodyOf Try.f7) [1, 1, 1, 1, 1])], fr := [(1, D.sl false 1 (List.map (eInt .u8) from_)), (2, D.int .u16 now), (3, D.int .u16 at_), (9, D.bool up), (10, D.ptr 0 0 0), (26, D.bool t26)], st := [some { sz := 30, deep := false, rows := [[D.int .i64 c.F_, D.int .i64 c.Deciders, D.int .i64 c.Targets, D.int .i64 c.Routers, D.int .i64 c.Observers, D.sl false 1 (List.map (eInt .i64) c.Tiers), D.int .i64 c.Every, D.int .i64 c.Wait, D.int .i64 c.Rise, D.int .i64 c.Fall, D.int .i64 c.Fresh, D.int .i64 c.L_, D.int .i64 c.M_, D.int .i64 c.Dwell, D.int .i64 c.D_, D.int .i64 c.W_, D.int .i64 c.B_, D.int .i64 c.Hit, D.int .i64 c.Suppress, D.int .i64 c.Reuse, D.int .i64 c.Half, D.int .i64 c.First, D.int .i64 c.Step, D.int .i64 c.StepTime, D.int .i64 c.S_, D.int .i64 c.Cap, D.int .i64 c.Span, D.int .i64 c.Room, D.int .i64 c.Tries, D.int .i64 c.Retry]] }] }
  | .s2 from_ now at_ up i c h_ => { td := [It.lpc (codeAt (bodyOf Try.f7) [1, 1, 1, 1, 1, 1, 0, 1, 0, 0]) 7694, It.blk 0, It.code (codeAt (bodyOf Try.f7) [1, 1, 1, 1, 1, 1, 1])], fr := [(1, D.sl false 1 (List.map (eInt .u8) from_)), (2, D.int .u16 now), (3, D.int .u16 at_), (9, D.bool up), (10, D.ptr 0 0 0), (11, D.ptr 1 0 0), (12, D.int .i64 i)], st := [some { sz := 30, deep := false, rows := [[D.int .i64 c.F_, D.int .i64 c.Deciders, D.int .i64 c.Targets, D.int .i64 c.Routers, D.int .i64 c.Observers, D.sl false 1 (List.map (eInt .i64) c.Tiers), D.int .i64 c.Every, D.int .i64 c.Wait, D.int .i64 c.Rise, D.int .i64 c.Fall, D.int .i64 c.Fresh, D.int .i64 c.L_, D.int .i64 c.M_, D.int .i64 c.Dwell, D.int .i64 c.D_, D.int .i64 c.W_, D.int .i64 c.B_, D.int .i64 c.Hit, D.int .i64 c.Suppress, D.int .i64 c.Reuse, D.int .i64 c.Half, D.int .i64 c.First, D.int .i64 c.Step, D.int .i64 c.StepTime, D.int .i64 c.S_, D.int .i64 c.Cap, D.int .i64 c.Span, D.int .i64 c.Room, D.int .i64 c.Tries, D.int .i64 c.Retry]] }, some { sz := 4, deep := false, rows := [[D.int .i64 h_.Epoch, D.int .i64 h_.Nonce, D.int .u64 h_.Grants, D.int .i64 h_.Until]] }] }
noncomputable def law17_LeaseFew_0 (f : Int) (from_ : List Int) (now : Int) (at_ : Int) : Option (law17_LeaseFew_S ⊕ Bool) := ((law17_head ).bind fun y1 => ((law13_Plain ).bind fun y2 => (bif (((IntKind.i64.wrap ((Int.tmod f 4))) : Int) == 0) then (some (.inl (.s1 from_ now at_ y1 true (⟨(IntKind.i64.wrap ((Int.tmod f 4))), y2.Deciders, y2.Targets, y2.Routers, y2.Observers, y2.Tiers, y2.Every, y2.Wait, y2.Rise, y2.Fall, y2.Fresh, y2.L_, y2.M_, y2.Dwell, y2.D_, y2.W_, y2.B_, y2.Hit, y2.Suppress, y2.Reuse, y2.Half, y2.First, y2.Step, y2.StepTime, y2.S_, y2.Cap, y2.Span, y2.Room, y2.Tries, y2.Retry⟩ : Config)))) else (some (.inl (.s1 from_ now at_ y1 (decide (((((List.map (eInt .u8) from_).length : Nat) : Int) : Int) > 1000)) (⟨(IntKind.i64.wrap ((Int.tmod f 4))), y2.Deciders, y2.Targets, y2.Routers, y2.Observers, y2.Tiers, y2.Every, y2.Wait, y2.Rise, y2.Fall, y2.Fresh, y2.L_, y2.M_, y2.Dwell, y2.D_, y2.W_, y2.B_, y2.Hit, y2.Suppress, y2.Reuse, y2.Half, y2.First, y2.Step, y2.StepTime, y2.S_, y2.Cap, y2.Span, y2.Room, y2.Tries, y2.Retry⟩ : Config)))))))
noncomputable def law17_LeaseFew_1 (from_ : List Int) (now : Int) (at_ : Int) (up : Bool) (t26 : Bool) (c : Config) : Option (law17_LeaseFew_S ⊕ Bool) := (bif t26 then (some (.inr up)) else ((lease_Ask (⟨0, 0, 0, 0⟩ : Hold) 1 (IntKind.i64.wrap (now))).bind fun y2 => (some (.inl (.s2 from_ now at_ up 0 c y2)))))
noncomputable def law17_LeaseFew_2 (from_ : List Int) (now : Int) (at_ : Int) (up : Bool) (i : Int) (c : Config) (h_ : Hold) : Option (law17_LeaseFew_S ⊕ Bool) := (bif (decide ((i : Int) < (((List.map (eInt .u8) from_).length : Nat) : Int))) then (bif ((decide ((0 : Int) ≤ i)) && (decide ((i : Int) < (((List.map (eInt .u8) from_).length : Nat) : Int)))) then (((from_)[i.toNat]?).bind fun y3 => (bif (!decide ((c.F_ : Int) = 0)) then ((lease_Grant h_ c (⟨11, (Int.tmod (IntKind.i64.wrap (y3)) c.F_), 0, 1, 0, 0, (IntKind.i64.wrap (now)), 0, 0, 0, false, (⟨0, 0, 0, 0, 0, 0, 0, 0, 0, 0, [], []⟩ : Plan), [], [], []⟩ : Msg)).bind fun y6 => (some (.inl (.s2 from_ now at_ up (IntKind.i64.wrap (i + 1)) c y6)))) else none)) else none) else (bif up then ((lease_Live h_ 1 (IntKind.i64.wrap (at_))).bind fun y8 => (bif (!y8) then ((lease_Live h_ 1 (IntKind.i64.wrap (now))).bind fun y10 => (some (.inr (!y10)))) else (some (.inr false)))) else (some (.inr false))))
noncomputable def law17_LeaseFew_step : law17_LeaseFew_S → Option (law17_LeaseFew_S ⊕ Bool)
  | .s0 f from_ now at_ => law17_LeaseFew_0 f from_ now at_
  | .s1 from_ now at_ up t26 c => law17_LeaseFew_1 from_ now at_ up t26 c
  | .s2 from_ now at_ up i c h_ => law17_LeaseFew_2 from_ now at_ up i c h_
theorem law17_LeaseFew_0_ok {f : Int} {from_ : List Int} {now : Int} {at_ : Int} {r : Bool} {x : law17_LeaseFew_S ⊕ Bool} (h : law17_LeaseFew_0 f from_ now at_ = some x) (ha : After E ⟨Try.f7, false, 0⟩ law17_LeaseFew_Q law17_LeaseFew_M r x) : FinQ E ⟨Try.f7, false, 0⟩ (QW (law17_LeaseFew_Q r)) (.go (law17_LeaseFew_M (.s0 f from_ now at_))) := by
  unfold law17_LeaseFew_0 at h
  refine adv_ok hm 7 _ ?_
  have ok1 := fun (y : Bool) (hy : law17_head  = some y) => law17_head_ok hy
  refine p_callE [] (args1 := []) (args := []) (fun y1 => D.bool y1) (fun y1 => []) h (by kernel_rfl) ⟨rfl, rfl⟩ ok1 (fun y1 h1 h => ?_)
  refine adv_ok hm 5 _ ?_
  have ok2 := fun (y : Config) (hy : law13_Plain  = some y) => law13_Plain_ok hy
  refine p_callE [] (args1 := []) (args := []) (fun y2 => D.agg [D.int .i64 y2.F_, D.int .i64 y2.Deciders, D.int .i64 y2.Targets, D.int .i64 y2.Routers, D.int .i64 y2.Observers, D.sl false 1 (List.map (eInt .i64) y2.Tiers), D.int .i64 y2.Every, D.int .i64 y2.Wait, D.int .i64 y2.Rise, D.int .i64 y2.Fall, D.int .i64 y2.Fresh, D.int .i64 y2.L_, D.int .i64 y2.M_, D.int .i64 y2.Dwell, D.int .i64 y2.D_, D.int .i64 y2.W_, D.int .i64 y2.B_, D.int .i64 y2.Hit, D.int .i64 y2.Suppress, D.int .i64 y2.Reuse, D.int .i64 y2.Half, D.int .i64 y2.First, D.int .i64 y2.Step, D.int .i64 y2.StepTime, D.int .i64 y2.S_, D.int .i64 y2.Cap, D.int .i64 y2.Span, D.int .i64 y2.Room, D.int .i64 y2.Tries, D.int .i64 y2.Retry]) (fun y2 => []) h (by kernel_rfl) ⟨rfl, rfl⟩ ok2 (fun y2 h2 h => ?_)
  refine adv_ok hm 25 _ ?_
  refine p_split h (by kernel_rfl) (fun h3 h => ?_) (fun h3 h => ?_)
  · -- true
    refine adv_ok hm 7 _ ?_
    obtain rfl := Option.some.inj h
    exact r_cut 67110414 [] (m' := (law17_LeaseFew_M (.s1 from_ now at_ y1 true (⟨(IntKind.i64.wrap ((Int.tmod f 4))), y2.Deciders, y2.Targets, y2.Routers, y2.Observers, y2.Tiers, y2.Every, y2.Wait, y2.Rise, y2.Fall, y2.Fresh, y2.L_, y2.M_, y2.Dwell, y2.D_, y2.W_, y2.B_, y2.Hit, y2.Suppress, y2.Reuse, y2.Half, y2.First, y2.Step, y2.StepTime, y2.S_, y2.Cap, y2.Span, y2.Room, y2.Tries, y2.Retry⟩ : Config)))) (by kernel_rfl) ha
  · -- false
    refine adv_ok hm 7 _ ?_
    obtain rfl := Option.some.inj h
    exact r_cut 67110414 [] (m' := (law17_LeaseFew_M (.s1 from_ now at_ y1 (decide (((((List.map (eInt .u8) from_).length : Nat) : Int) : Int) > 1000)) (⟨(IntKind.i64.wrap ((Int.tmod f 4))), y2.Deciders, y2.Targets, y2.Routers, y2.Observers, y2.Tiers, y2.Every, y2.Wait, y2.Rise, y2.Fall, y2.Fresh, y2.L_, y2.M_, y2.Dwell, y2.D_, y2.W_, y2.B_, y2.Hit, y2.Suppress, y2.Reuse, y2.Half, y2.First, y2.Step, y2.StepTime, y2.S_, y2.Cap, y2.Span, y2.Room, y2.Tries, y2.Retry⟩ : Config)))) (by kernel_rfl) ha
theorem law17_LeaseFew_1_ok {from_ : List Int} {now : Int} {at_ : Int} {up : Bool} {t26 : Bool} {c : Config} {r : Bool} {x : law17_LeaseFew_S ⊕ Bool} (h : law17_LeaseFew_1 from_ now at_ up t26 c = some x) (ha : After E ⟨Try.f7, false, 0⟩ law17_LeaseFew_Q law17_LeaseFew_M r x) : FinQ E ⟨Try.f7, false, 0⟩ (QW (law17_LeaseFew_Q r)) (.go (law17_LeaseFew_M (.s1 from_ now at_ up t26 c))) := by
  unfold law17_LeaseFew_1 at h
  refine adv_ok hm 1 _ ?_
  refine p_split h (by kernel_rfl) (fun h1 h => ?_) (fun h1 h => ?_)
  · -- true
    refine adv_ok hm 6 _ ?_
    obtain rfl := Option.some.inj h
    have hv := ha
    simp only [After] at hv
    subst hv
    exact r_retF [] (d := D.bool up) (s := []) (by kernel_rfl) ⟨rfl, rfl⟩
  · -- false
    refine adv_ok hm 7 _ ?_
    have ok2 := fun (y : Hold) (hy : lease_Ask (⟨0, 0, 0, 0⟩ : Hold) 1 (IntKind.i64.wrap (now)) = some y) => lease_Ask_ok hy
    refine p_callE [] (args1 := [D.agg [D.int .i64 0, D.int .i64 0, D.int .u64 0, D.int .i64 0], D.int .i64 1, D.int .i64 (IntKind.i64.wrap (now))]) (args := [D.agg [D.int .i64 0, D.int .i64 0, D.int .u64 0, D.int .i64 0], D.int .i64 1, D.int .i64 (IntKind.i64.wrap (now))]) (fun y2 => D.agg [D.int .i64 y2.Epoch, D.int .i64 y2.Nonce, D.int .u64 y2.Grants, D.int .i64 y2.Until]) (fun y2 => []) h (by kernel_rfl) ⟨rfl, rfl⟩ ok2 (fun y2 h2 h => ?_)
    refine adv_ok hm 13 _ ?_
    obtain rfl := Option.some.inj h
    exact r_to (q' := .go (law17_LeaseFew_M (.s2 from_ now at_ up 0 c y2))) (by kernel_rfl) ha
theorem law17_LeaseFew_2_ok {from_ : List Int} {now : Int} {at_ : Int} {up : Bool} {i : Int} {c : Config} {h_ : Hold} {r : Bool} {x : law17_LeaseFew_S ⊕ Bool} (h : law17_LeaseFew_2 from_ now at_ up i c h_ = some x) (ha : After E ⟨Try.f7, false, 0⟩ law17_LeaseFew_Q law17_LeaseFew_M r x) : FinQ E ⟨Try.f7, false, 0⟩ (QW (law17_LeaseFew_Q r)) (.go (law17_LeaseFew_M (.s2 from_ now at_ up i c h_))) := by
  unfold law17_LeaseFew_2 at h
  refine adv_ok hm 10 _ ?_
  refine p_split h (by kernel_rfl) (fun h1 h => ?_) (fun h1 h => ?_)
  · -- true
    refine adv_ok hm 6 _ ?_
    refine p_need h (by kernel_rfl) (fun h2 h => ?_)
    refine p_row (((List.map (eInt .u8) from_))[i.toNat]?) (eInt .u8) h (by kernel_rfl) List.getElem?_map (fun y3 h4 h => ?_)
    refine adv_ok hm 1 _ ?_
    refine p_need h (by kernel_rfl) (fun h5 h => ?_)
    have ok6 := fun (y : Hold) (hy : lease_Grant h_ c (⟨11, (Int.tmod (IntKind.i64.wrap (y3)) c.F_), 0, 1, 0, 0, (IntKind.i64.wrap (now)), 0, 0, 0, false, (⟨0, 0, 0, 0, 0, 0, 0, 0, 0, 0, [], []⟩ : Plan), [], [], []⟩ : Msg) = some y) => lease_Grant_ok hy
    refine p_callDE [some 1, some 1, some 1, some 1, some 1] (args1 := [D.agg [D.int .i64 h_.Epoch, D.int .i64 h_.Nonce, D.int .u64 h_.Grants, D.int .i64 h_.Until], D.agg [D.int .i64 c.F_, D.int .i64 c.Deciders, D.int .i64 c.Targets, D.int .i64 c.Routers, D.int .i64 c.Observers, D.sl false 1 (List.map (eInt .i64) c.Tiers), D.int .i64 c.Every, D.int .i64 c.Wait, D.int .i64 c.Rise, D.int .i64 c.Fall, D.int .i64 c.Fresh, D.int .i64 c.L_, D.int .i64 c.M_, D.int .i64 c.Dwell, D.int .i64 c.D_, D.int .i64 c.W_, D.int .i64 c.B_, D.int .i64 c.Hit, D.int .i64 c.Suppress, D.int .i64 c.Reuse, D.int .i64 c.Half, D.int .i64 c.First, D.int .i64 c.Step, D.int .i64 c.StepTime, D.int .i64 c.S_, D.int .i64 c.Cap, D.int .i64 c.Span, D.int .i64 c.Room, D.int .i64 c.Tries, D.int .i64 c.Retry], D.agg [D.int .i64 11, D.int .i64 (Int.tmod (IntKind.i64.wrap (y3)) c.F_), D.int .i64 0, D.int .i64 1, D.int .i64 0, D.int .i64 0, D.int .i64 (IntKind.i64.wrap (now)), D.int .i64 0, D.int .u64 0, D.int .i64 0, D.bool false, D.int .i64 0, D.int .i64 0, D.int .i64 0, D.int .i64 0, D.int .i64 0, D.int .i64 0, D.int .i64 0, D.int .i64 0, D.int .u64 0, D.int .u64 0, D.sl false 1 [], D.sl false 1 [], D.sl false 1 [], D.sl false 1 [], D.sl false 1 []]]) (args := [D.agg [D.int .i64 h_.Epoch, D.int .i64 h_.Nonce, D.int .u64 h_.Grants, D.int .i64 h_.Until], D.agg [D.int .i64 c.F_, D.int .i64 c.Deciders, D.int .i64 c.Targets, D.int .i64 c.Routers, D.int .i64 c.Observers, D.sl false 1 (List.map (eInt .i64) c.Tiers), D.int .i64 c.Every, D.int .i64 c.Wait, D.int .i64 c.Rise, D.int .i64 c.Fall, D.int .i64 c.Fresh, D.int .i64 c.L_, D.int .i64 c.M_, D.int .i64 c.Dwell, D.int .i64 c.D_, D.int .i64 c.W_, D.int .i64 c.B_, D.int .i64 c.Hit, D.int .i64 c.Suppress, D.int .i64 c.Reuse, D.int .i64 c.Half, D.int .i64 c.First, D.int .i64 c.Step, D.int .i64 c.StepTime, D.int .i64 c.S_, D.int .i64 c.Cap, D.int .i64 c.Span, D.int .i64 c.Room, D.int .i64 c.Tries, D.int .i64 c.Retry], D.agg [D.int .i64 11, D.int .i64 (Int.tmod (IntKind.i64.wrap (y3)) c.F_), D.int .i64 0, D.int .i64 1, D.int .i64 0, D.int .i64 0, D.int .i64 (IntKind.i64.wrap (now)), D.int .i64 0, D.int .u64 0, D.int .i64 0, D.bool false, D.int .i64 0, D.int .i64 0, D.int .i64 0, D.int .i64 0, D.int .i64 0, D.int .i64 0, D.int .i64 0, D.int .i64 0, D.int .u64 0, D.int .u64 0, D.sl false 1 [], D.sl false 1 [], D.sl false 1 [], D.sl false 1 [], D.sl false 1 []]]) (fun y6 => D.agg [D.int .i64 y6.Epoch, D.int .i64 y6.Nonce, D.int .u64 y6.Grants, D.int .i64 y6.Until]) h (by kernel_rfl) rfl ok6 (fun y6 h6 h => ?_)
    refine adv_ok hm 9 _ ?_
    obtain rfl := Option.some.inj h
    exact r_to (q' := .go (law17_LeaseFew_M (.s2 from_ now at_ up (IntKind.i64.wrap (i + 1)) c y6))) (by kernel_rfl) ha
  · -- false
    refine adv_ok hm 6 _ ?_
    refine p_split h (by kernel_rfl) (fun h7 h => ?_) (fun h7 h => ?_)
    · -- true
      refine adv_ok hm 7 _ ?_
      have ok8 := fun (y : Bool) (hy : lease_Live h_ 1 (IntKind.i64.wrap (at_)) = some y) => lease_Live_ok hy
      refine p_callE [] (args1 := [D.agg [D.int .i64 h_.Epoch, D.int .i64 h_.Nonce, D.int .u64 h_.Grants, D.int .i64 h_.Until], D.int .i64 1, D.int .i64 (IntKind.i64.wrap (at_))]) (args := [D.agg [D.int .i64 h_.Epoch, D.int .i64 h_.Nonce, D.int .u64 h_.Grants, D.int .i64 h_.Until], D.int .i64 1, D.int .i64 (IntKind.i64.wrap (at_))]) (fun y8 => D.bool y8) (fun y8 => []) h (by kernel_rfl) ⟨rfl, rfl⟩ ok8 (fun y8 h8 h => ?_)
      refine adv_ok hm 6 _ ?_
      refine p_split h (by kernel_rfl) (fun h9 h => ?_) (fun h9 h => ?_)
      · -- true
        refine adv_ok hm 7 _ ?_
        have ok10 := fun (y : Bool) (hy : lease_Live h_ 1 (IntKind.i64.wrap (now)) = some y) => lease_Live_ok hy
        refine p_callE [] (args1 := [D.agg [D.int .i64 h_.Epoch, D.int .i64 h_.Nonce, D.int .u64 h_.Grants, D.int .i64 h_.Until], D.int .i64 1, D.int .i64 (IntKind.i64.wrap (now))]) (args := [D.agg [D.int .i64 h_.Epoch, D.int .i64 h_.Nonce, D.int .u64 h_.Grants, D.int .i64 h_.Until], D.int .i64 1, D.int .i64 (IntKind.i64.wrap (now))]) (fun y10 => D.bool y10) (fun y10 => []) h (by kernel_rfl) ⟨rfl, rfl⟩ ok10 (fun y10 h10 h => ?_)
        refine adv_ok hm 7 _ ?_
        obtain rfl := Option.some.inj h
        have hv := ha
        simp only [After] at hv
        subst hv
        exact r_retF [] (d := D.bool (!y10)) (s := []) (by kernel_rfl) ⟨rfl, rfl⟩
      · -- false
        refine adv_ok hm 13 _ ?_
        obtain rfl := Option.some.inj h
        have hv := ha
        simp only [After] at hv
        subst hv
        exact r_retF [] (d := D.bool false) (s := []) (by kernel_rfl) ⟨rfl, rfl⟩
    · -- false
      refine adv_ok hm 26 _ ?_
      obtain rfl := Option.some.inj h
      have hv := ha
      simp only [After] at hv
      subst hv
      exact r_retF [] (d := D.bool false) (s := []) (by kernel_rfl) ⟨rfl, rfl⟩
theorem law17_LeaseFew_ev {f : Int} {from_ : List Int} {now : Int} {at_ : Int} {r : Bool} (h : Ev law17_LeaseFew_step (.s0 f from_ now at_) r) : Sound E 7 [D.int .u8 f, D.sl false 1 (List.map (eInt .u8) from_), D.int .u16 now, D.int .u16 at_] [] (law17_LeaseFew_Q r) :=
  sound_ofW (m := law17_LeaseFew_M (.s0 f from_ now at_)) (fn := Try.f7) (by kernel_rfl) (by kernel_rfl) (ev_run (C := ⟨Try.f7, false, 0⟩) (fun s x r hs ha => by
    cases s with
    | s0 => exact law17_LeaseFew_0_ok hs ha
    | s1 => exact law17_LeaseFew_1_ok hs ha
    | s2 => exact law17_LeaseFew_2_ok hs ha) h)
noncomputable def law17_LeaseFew (f : Int) (from_ : List Int) (now : Int) (at_ : Int) : Option Bool := evf law17_LeaseFew_step (.s0 f from_ now at_)
theorem law17_LeaseFew_ok {f : Int} {from_ : List Int} {now : Int} {at_ : Int} {r : Bool} (h : law17_LeaseFew f from_ now at_ = some r) : Sound E 7 [D.int .u8 f, D.sl false 1 (List.map (eInt .u8) from_), D.int .u16 now, D.int .u16 at_] [] (law17_LeaseFew_Q r) := law17_LeaseFew_ev (evf_ev h)
end Go.RX.L

set_option linter.unusedSimpArgs false
set_option linter.unusedVariables false
set_option maxRecDepth 100000
namespace Go.RX.L
open Go Go.RX Go.Proofs
theorem law17_LeaseFew_of_t5 {n : Nat} {ds : List D} (h : wtF Try.prog (n + 1) 5 ds) : ∃ x : Int, ds = (eInt .u8) x ∧ inK .u8 x := by
  obtain ⟨m, rfl, o⟩ := wt_int (k := .u8) (by kernel_rfl) h
  exact ⟨m, rfl, o⟩
theorem law17_LeaseFew_of_t32 {n : Nat} {ds : List D} (h : wtF Try.prog (n + 2) 32 ds) : ∃ x : List Int, ds = (eSl 1 (eInt .u8)) x ∧ (x.length * 1 ≤ reachBytes ∧ ∀ y ∈ x, inK .u8 y) := by
  obtain ⟨rows, rfl, o, w⟩ := wt_slice (n := n + 1) (e := 5) (sz := 1) (by_ := 1) (by kernel_rfl) (by kernel_rfl) (by kernel_rfl) h
  obtain ⟨l, rfl, q⟩ := wt_rows (en := (eInt .u8)) (Ok := fun y => inK .u8 y) (fun r hr => law17_LeaseFew_of_t5 (n := n + 0) hr) rows w
  exact ⟨l, rfl, by simpa using o, q⟩
theorem law17_LeaseFew_of_t46 {n : Nat} {ds : List D} (h : wtF Try.prog (n + 1) 46 ds) : ∃ x : Int, ds = (eInt .u16) x ∧ inK .u16 x := by
  obtain ⟨m, rfl, o⟩ := wt_int (k := .u16) (by kernel_rfl) h
  exact ⟨m, rfl, o⟩
theorem law17_LeaseFew_sound (H : ∀ (f : Int) (from_ : List Int) (now : Int) (at_ : Int), inK .u8 f → (from_.length * 1 ≤ reachBytes ∧ ∀ y ∈ from_, inK .u8 y) → inK .u16 now → inK .u16 at_ → law17_LeaseFew f from_ now at_ = some true) : ∀ xs, wtA Try.prog Try.f7.params.toList xs → Sound E 7 xs [] fun d _ => d = .bool true := by
  intro xs h
  have h0 : wtA Try.prog [5, 32, 46, 46] xs := h
  obtain ⟨d0, r0, rfl, w0, h1⟩ := wtA_cons h0
  have v0 := wtP_flat (by kernel_rfl) w0
  obtain ⟨x0, e0, o0⟩ := law17_LeaseFew_of_t5 (n := 5) v0
  obtain ⟨rfl, -⟩ := List.cons.inj e0
  obtain ⟨d1, r1, rfl, w1, h2⟩ := wtA_cons h1
  have v1 := wtP_flat (by kernel_rfl) w1
  obtain ⟨x1, e1, o1⟩ := law17_LeaseFew_of_t32 (n := 4) v1
  obtain ⟨rfl, -⟩ := List.cons.inj e1
  obtain ⟨d2, r2, rfl, w2, h3⟩ := wtA_cons h2
  have v2 := wtP_flat (by kernel_rfl) w2
  obtain ⟨x2, e2, o2⟩ := law17_LeaseFew_of_t46 (n := 5) v2
  obtain ⟨rfl, -⟩ := List.cons.inj e2
  obtain ⟨d3, r3, rfl, w3, h4⟩ := wtA_cons h3
  have v3 := wtP_flat (by kernel_rfl) w3
  obtain ⟨x3, e3, o3⟩ := law17_LeaseFew_of_t46 (n := 5) v3
  obtain ⟨rfl, -⟩ := List.cons.inj e3
  obtain rfl := wtA_nil h4
  exact (law17_LeaseFew_ok (H x0 x1 x2 x3 o0 o1 o2 o3)).mono fun d s h => h.1
end Go.RX.L

set_option linter.unusedSimpArgs false
set_option linter.unusedVariables false
namespace Go.RX.L
open Go Go.RX

theorem cnt_few {g F : Nat} (h : ∀ i, F ≤ i → g.testBit i = false) : ∀ n, cnt g n ≤ F
  | 0 => by simp [cnt]
  | n + 1 => by
    have ih := cnt_few h n
    have le : ∀ n, cnt g n ≤ n := fun n => by
      induction n with
      | zero => simp [cnt]
      | succ n ih => unfold cnt; split <;> omega
    unfold cnt
    split
    · rename_i hb
      rcases Nat.lt_or_ge n F with x | x
      · have := le n; omega
      · rw [h n x] at hb; cases hb
    · omega

/-- Only few have granted, and nothing is given. -/
structure FewI (F : Nat) (n : Int) (h : Hold) : Prop where
  ep : h.Epoch = 1
  un : h.Until = 0
  g64 : inK .u64 h.Grants
  bits : ∀ i, F ≤ i → h.Grants.toNat.testBit i = false

theorem leaseFew (f : Int) (l : List Int) (n a : Int) (hf : inK .u8 f) (hl : l.length * 1 ≤ reachBytes ∧ ∀ y ∈ l, inK .u8 y) (hn : inK .u16 n) (ha : inK .u16 a) : law17_LeaseFew f l n a = some true := by
  have hf' := inU8.1 hf
  have hn' := inU16.1 hn
  have ha' := inU16.1 ha
  obtain ⟨F, hF⟩ := Int.eq_ofNat_of_zero_le (show 0 ≤ Int.tmod f 4 by rw [Int.tmod_eq_emod_of_nonneg hf'.1]; omega)
  have hF3 : F ≤ 3 := by rw [Int.tmod_eq_emod_of_nonneg hf'.1] at hF; omega
  have wF : IntKind.i64.wrap ((F : Nat) : Int) = F := wI64 (by omega) (by omega)
  have wn : IntKind.i64.wrap n = n := wI64 (by omega) (by omega)
  have wa : IntKind.i64.wrap a = a := wI64 (by omega) (by omega)
  let C : Config := ⟨F, 2, 2, 1, 3, [1, 0], 5, 3, 2, 2, 20, 20, 5, 10, 3, 50, 3, 1000, 1500, 700, 30, 20, 40, 5, 10, 5, 10, 4, 3, 5⟩
  have cF : C.F_ = F := rfl
  have fC : fN C = F := fN_of rfl hF3
  have s0 : ∀ b : Bool, (F = 0 ∨ l.length > 1000 → b = true) → (¬ (F = 0 ∨ l.length > 1000) → b = false) → law17_LeaseFew_step (.s0 f l n a) = some (.inl (.s1 l n a true b C)) := fun b h1 h2 => by
    simp only [law17_LeaseFew_step, law17_LeaseFew_0, head_ok, plain_ok, Option.bind_some, hF, wF]
    by_cases x : F = 0
    · rw [h1 (.inl x)]
      subst x
      rfl
    · rw [beq_eq_false_iff_ne.2 (show ((F : Nat) : Int) ≠ 0 by omega)]
      by_cases y : l.length > 1000
      · rw [h1 (.inr y)]
        rw [List.length_map, decide_eq_true (show (l.length : Int) > 1000 by omega)]
        rfl
      · rw [h2 (by omega), List.length_map, decide_eq_false (show ¬ (l.length : Int) > 1000 by omega)]
        rfl
  by_cases big : F = 0 ∨ l.length > 1000
  · exact evf_of (.next (s0 true (fun _ => rfl) (fun h => absurd big h)) (.done rfl))
  have hlen : l.length ≤ 1000 := by omega
  have step : ∀ (h : Hold) (m : Msg), FewI F n h → 0 ≤ m.From → m.From < F → FewI F n (grantP h C m) := fun h m I h1 h2 => by
    unfold grantP
    split
    · have hb : ∀ i, F ≤ i → (h.Grants.toNat ||| 2 ^ m.From.toNat).testBit i = false := fun i hi => by
        rw [Nat.testBit_or, I.bits i hi, Nat.testBit_two_pow]
        simp; omega
      have hm : mostP C (h.Grants.toNat ||| 2 ^ m.From.toNat) = false := by
        unfold mostP
        rw [fC]
        have := cnt_few hb (2 * F + 1)
        simp; omega
      refine ⟨I.ep, ?_, given_u64 h C I.g64 (by omega), ?_⟩
      · unfold givenP
        rw [hm]
        exact I.un
      · intro i hi
        show (((h.Grants.toNat ||| 2 ^ m.From.toNat : Nat) : Int)).toNat.testBit i = false
        rw [Int.toNat_natCast]
        exact hb i hi
    · exact I
  have dead : ∀ (h : Hold) (t : Int), FewI F n h → 0 ≤ t → liveP h 1 t = false := fun h t I ht => by
    simp [liveP, I.un]; omega
  have loop : ∀ (j k : Nat), k + j = l.length → ∀ h, FewI F n h → Ev law17_LeaseFew_step (.s2 l n a true k C h) true := by
    intro j
    induction j with
    | zero =>
      intro k hk h I
      refine .done ?_
      simp only [law17_LeaseFew_step, law17_LeaseFew_2, List.length_map, geB (show l.length ≤ k by omega), cond_false, cond_true, live_ok, Option.bind_some, wn, wa, dead h a I ha'.1, dead h n I hn'.1]
      rfl
    | succ j ih =>
      intro k hk h I
      have hkl : k < l.length := by omega
      have wk := wS (k := k) (by omega)
      have hu := inU8.1 (hl.2 _ (List.getElem_mem hkl))
      have wl : IntKind.i64.wrap l[k] = l[k] := wI64 (by omega) (by omega)
      have nz : (!decide ((F : Int) = 0)) = true := by simp; omega
      have t0 : Int.tmod l[k] (F : Int) = l[k] % (F : Int) := Int.tmod_eq_emod_of_nonneg hu.1
      have t1 : 0 ≤ l[k] % (F : Int) := Int.emod_nonneg _ (by omega)
      have t2 : l[k] % (F : Int) < F := Int.emod_lt_of_pos _ (by omega)
      let m : Msg := ⟨11, l[k] % (F : Int), 0, 1, 0, 0, n, 0, 0, 0, false, (⟨0, 0, 0, 0, 0, 0, 0, 0, 0, 0, [], []⟩ : Plan), [], [], []⟩
      refine .next (s' := .s2 l n a true ((k + 1 : Nat) : Int) C (grantP h C m)) ?_ (ih (k + 1) (by omega) _ (step h m I t1 t2))
      simp only [law17_LeaseFew_step, law17_LeaseFew_2, List.length_map, ltB hkl, le0, Bool.and_self, cond_true, Int.toNat_natCast, List.getElem?_eq_getElem hkl, Option.bind_some, cF, nz, wl, wn, wk, t0]
      rw [grant_ok _ _ _ I.g64]
      rfl
  refine evf_of (.next (s0 false (fun h => absurd h big) (fun _ => rfl)) (.next (s' := .s2 l n a true (0 : Nat) C (askP (⟨0, 0, 0, 0⟩ : Hold) 1 n)) ?_ (loop l.length 0 (by omega) _ ?_)))
  · simp only [law17_LeaseFew_step, law17_LeaseFew_1, cond_false, ask_ok, Option.bind_some, wn]
    rfl
  · refine ⟨rfl, rfl, inU64.2 (by show 0 ≤ (0 : Int) ∧ (0 : Int) ≤ _; omega), fun i _ => ?_⟩
    show (0 : Nat).testBit i = false
    exact Nat.zero_testBit i
end Go.RX.L
