/-
  Words and walks for ProposerOther. No condition.
-/
import Derived.Test.YtjfbchlfgfkcdaaProposerOtherY4
set_option linter.unusedSimpArgs false
set_option linter.unusedVariables false
set_option maxRecDepth 100000
set_option maxHeartbeats 4000000
namespace Go.RX.L
open Go Go.RX Go.Proofs
def law16_ProposerOther_Q (y : Bool) (d : D) (s : Sto) : Prop := d = D.bool y ∧ s = []
noncomputable def law16_ProposerOther_1M (up : Bool) (t62 : Bool) (p : GProp) (c : Config) (m : Msg) (a : GProp) (b : GProp) : M := { td := [It.code (codeAt (bodyOf Try.f6) [1, 1, 1, 1, 1, 0, 1]), It.code (codeAt (bodyOf Try.f6) [1, 1, 1, 1, 1, 1])], fr := [(3, D.ptr 0 0 0), (4, D.ptr 1 0 0), (5, D.ptr 2 0 0), (7, D.bool up), (8, D.ptr 3 0 0), (9, D.ptr 4 0 0), (62, D.bool t62)], st := [some { sz := 30, deep := false, rows := [[D.int .i64 p.Epoch, D.int .i64 p.Ballot, D.int .i64 p.Phase, D.int .i64 p.Own.Epoch, D.int .i64 p.Own.Target, D.int .i64 p.Own.Prev, D.int .i64 p.Own.Spill, D.int .i64 p.Own.Percent, D.int .i64 p.Own.Stamp, D.int .i64 p.Own.Since, D.int .i64 p.Own.Ramped, D.int .u64 p.Own.Up, D.int .u64 p.Own.Sup, D.sl false 1 (List.map (eInt .i64) p.Own.Pen), D.sl false 1 (List.map (eInt .i64) p.Own.Changes), D.int .i64 p.Best, D.int .i64 p.Value.Epoch, D.int .i64 p.Value.Target, D.int .i64 p.Value.Prev, D.int .i64 p.Value.Spill, D.int .i64 p.Value.Percent, D.int .i64 p.Value.Stamp, D.int .i64 p.Value.Since, D.int .i64 p.Value.Ramped, D.int .u64 p.Value.Up, D.int .u64 p.Value.Sup, D.sl false 1 (List.map (eInt .i64) p.Value.Pen), D.sl false 1 (List.map (eInt .i64) p.Value.Changes), D.int .u64 p.Promises, D.int .u64 p.Accepts]] }, some { sz := 30, deep := false, rows := [[D.int .i64 c.F_, D.int .i64 c.Deciders, D.int .i64 c.Targets, D.int .i64 c.Routers, D.int .i64 c.Observers, D.sl false 1 (List.map (eInt .i64) c.Tiers), D.int .i64 c.Every, D.int .i64 c.Wait, D.int .i64 c.Rise, D.int .i64 c.Fall, D.int .i64 c.Fresh, D.int .i64 c.L_, D.int .i64 c.M_, D.int .i64 c.Dwell, D.int .i64 c.D_, D.int .i64 c.W_, D.int .i64 c.B_, D.int .i64 c.Hit, D.int .i64 c.Suppress, D.int .i64 c.Reuse, D.int .i64 c.Half, D.int .i64 c.First, D.int .i64 c.Step, D.int .i64 c.StepTime, D.int .i64 c.S_, D.int .i64 c.Cap, D.int .i64 c.Span, D.int .i64 c.Room, D.int .i64 c.Tries, D.int .i64 c.Retry]] }, some { sz := 26, deep := false, rows := [[D.int .i64 m.Kind, D.int .i64 m.From, D.int .i64 m.To, D.int .i64 m.Epoch, D.int .i64 m.Ballot, D.int .i64 m.Accepted, D.int .i64 m.Nonce, D.int .i64 m.Time, D.int .u64 m.Up, D.int .i64 m.Code, D.bool m.HasPlan, D.int .i64 m.Plan.Epoch, D.int .i64 m.Plan.Target, D.int .i64 m.Plan.Prev, D.int .i64 m.Plan.Spill, D.int .i64 m.Plan.Percent, D.int .i64 m.Plan.Stamp, D.int .i64 m.Plan.Since, D.int .i64 m.Plan.Ramped, D.int .u64 m.Plan.Up, D.int .u64 m.Plan.Sup, D.sl false 1 (List.map (eInt .i64) m.Plan.Pen), D.sl false 1 (List.map (eInt .i64) m.Plan.Changes), D.sl false 1 (List.map (eInt .i64) m.ID), D.sl false 1 (List.map (eInt .u8) m.Session), D.sl false 1 (List.map (eInt .u8) m.Payload)]] }, some { sz := 30, deep := false, rows := [[D.int .i64 a.Epoch, D.int .i64 a.Ballot, D.int .i64 a.Phase, D.int .i64 a.Own.Epoch, D.int .i64 a.Own.Target, D.int .i64 a.Own.Prev, D.int .i64 a.Own.Spill, D.int .i64 a.Own.Percent, D.int .i64 a.Own.Stamp, D.int .i64 a.Own.Since, D.int .i64 a.Own.Ramped, D.int .u64 a.Own.Up, D.int .u64 a.Own.Sup, D.sl false 1 (List.map (eInt .i64) a.Own.Pen), D.sl false 1 (List.map (eInt .i64) a.Own.Changes), D.int .i64 a.Best, D.int .i64 a.Value.Epoch, D.int .i64 a.Value.Target, D.int .i64 a.Value.Prev, D.int .i64 a.Value.Spill, D.int .i64 a.Value.Percent, D.int .i64 a.Value.Stamp, D.int .i64 a.Value.Since, D.int .i64 a.Value.Ramped, D.int .u64 a.Value.Up, D.int .u64 a.Value.Sup, D.sl false 1 (List.map (eInt .i64) a.Value.Pen), D.sl false 1 (List.map (eInt .i64) a.Value.Changes), D.int .u64 a.Promises, D.int .u64 a.Accepts]] }, some { sz := 30, deep := false, rows := [[D.int .i64 b.Epoch, D.int .i64 b.Ballot, D.int .i64 b.Phase, D.int .i64 b.Own.Epoch, D.int .i64 b.Own.Target, D.int .i64 b.Own.Prev, D.int .i64 b.Own.Spill, D.int .i64 b.Own.Percent, D.int .i64 b.Own.Stamp, D.int .i64 b.Own.Since, D.int .i64 b.Own.Ramped, D.int .u64 b.Own.Up, D.int .u64 b.Own.Sup, D.sl false 1 (List.map (eInt .i64) b.Own.Pen), D.sl false 1 (List.map (eInt .i64) b.Own.Changes), D.int .i64 b.Best, D.int .i64 b.Value.Epoch, D.int .i64 b.Value.Target, D.int .i64 b.Value.Prev, D.int .i64 b.Value.Spill, D.int .i64 b.Value.Percent, D.int .i64 b.Value.Stamp, D.int .i64 b.Value.Since, D.int .i64 b.Value.Ramped, D.int .u64 b.Value.Up, D.int .u64 b.Value.Sup, D.sl false 1 (List.map (eInt .i64) b.Value.Pen), D.sl false 1 (List.map (eInt .i64) b.Value.Changes), D.int .u64 b.Promises, D.int .u64 b.Accepts]] }] }
noncomputable def law16_ProposerOther_1 (up : Bool) (t62 : Bool) (p : GProp) (c : Config) (m : Msg) (a : GProp) (b : GProp) : Option Bool := (bif t62 then (some false) else ((proposer_Promise a c m).bind fun y2 => ((proposer_Accepted b c m).bind fun y3 => (bif up then (bif ((y2.Promises : Int) == a.Promises) then (bif ((y2.Phase : Int) == a.Phase) then ((ref04_Same y2.Value a.Value).bind fun y7 => (bif y7 then (bif ((y3.Accepts : Int) == b.Accepts) then (bif ((y3.Phase : Int) == b.Phase) then (bif (decide ((a.Phase : Int) ≥ p.Phase)) then (bif (decide ((b.Phase : Int) ≥ p.Phase)) then ((ref04_Same a.Own p.Own).bind fun y13 => (some y13)) else (some false)) else (some false)) else (some false)) else (some false)) else (some false))) else (some false)) else (some false)) else (some false)))))
theorem law16_ProposerOther_1_ok {up : Bool} {t62 : Bool} {p : GProp} {c : Config} {m : Msg} {a : GProp} {b : GProp} {r : Bool} (h : law16_ProposerOther_1 up t62 p c m a b = some r) : FinQ E ⟨Try.f6, false, 0⟩ (QW (law16_ProposerOther_Q r)) (.go (law16_ProposerOther_1M up t62 p c m a b)) := by
  unfold law16_ProposerOther_1 at h
  refine adv_ok hm 1 _ ?_
  refine p_split h (by kernel_rfl) (fun h1 h => ?_) (fun h1 h => ?_)
  · -- true
    refine adv_ok hm 5 _ ?_
    obtain rfl := Option.some.inj h
    exact r_retF [] (d := D.bool false) (s := []) (by kernel_rfl) ⟨rfl, rfl⟩
  · -- false
    refine adv_ok hm 10 _ ?_
    have ok2 := fun (y : GProp) (hy : proposer_Promise a c m = some y) => proposer_Promise_ok hy
    refine p_callE [] (args1 := [D.agg [D.int .i64 a.Epoch, D.int .i64 a.Ballot, D.int .i64 a.Phase, D.int .i64 a.Own.Epoch, D.int .i64 a.Own.Target, D.int .i64 a.Own.Prev, D.int .i64 a.Own.Spill, D.int .i64 a.Own.Percent, D.int .i64 a.Own.Stamp, D.int .i64 a.Own.Since, D.int .i64 a.Own.Ramped, D.int .u64 a.Own.Up, D.int .u64 a.Own.Sup, D.sl false 1 (List.map (eInt .i64) a.Own.Pen), D.sl false 1 (List.map (eInt .i64) a.Own.Changes), D.int .i64 a.Best, D.int .i64 a.Value.Epoch, D.int .i64 a.Value.Target, D.int .i64 a.Value.Prev, D.int .i64 a.Value.Spill, D.int .i64 a.Value.Percent, D.int .i64 a.Value.Stamp, D.int .i64 a.Value.Since, D.int .i64 a.Value.Ramped, D.int .u64 a.Value.Up, D.int .u64 a.Value.Sup, D.sl false 1 (List.map (eInt .i64) a.Value.Pen), D.sl false 1 (List.map (eInt .i64) a.Value.Changes), D.int .u64 a.Promises, D.int .u64 a.Accepts], D.agg [D.int .i64 c.F_, D.int .i64 c.Deciders, D.int .i64 c.Targets, D.int .i64 c.Routers, D.int .i64 c.Observers, D.sl false 1 (List.map (eInt .i64) c.Tiers), D.int .i64 c.Every, D.int .i64 c.Wait, D.int .i64 c.Rise, D.int .i64 c.Fall, D.int .i64 c.Fresh, D.int .i64 c.L_, D.int .i64 c.M_, D.int .i64 c.Dwell, D.int .i64 c.D_, D.int .i64 c.W_, D.int .i64 c.B_, D.int .i64 c.Hit, D.int .i64 c.Suppress, D.int .i64 c.Reuse, D.int .i64 c.Half, D.int .i64 c.First, D.int .i64 c.Step, D.int .i64 c.StepTime, D.int .i64 c.S_, D.int .i64 c.Cap, D.int .i64 c.Span, D.int .i64 c.Room, D.int .i64 c.Tries, D.int .i64 c.Retry], D.agg [D.int .i64 m.Kind, D.int .i64 m.From, D.int .i64 m.To, D.int .i64 m.Epoch, D.int .i64 m.Ballot, D.int .i64 m.Accepted, D.int .i64 m.Nonce, D.int .i64 m.Time, D.int .u64 m.Up, D.int .i64 m.Code, D.bool m.HasPlan, D.int .i64 m.Plan.Epoch, D.int .i64 m.Plan.Target, D.int .i64 m.Plan.Prev, D.int .i64 m.Plan.Spill, D.int .i64 m.Plan.Percent, D.int .i64 m.Plan.Stamp, D.int .i64 m.Plan.Since, D.int .i64 m.Plan.Ramped, D.int .u64 m.Plan.Up, D.int .u64 m.Plan.Sup, D.sl false 1 (List.map (eInt .i64) m.Plan.Pen), D.sl false 1 (List.map (eInt .i64) m.Plan.Changes), D.sl false 1 (List.map (eInt .i64) m.ID), D.sl false 1 (List.map (eInt .u8) m.Session), D.sl false 1 (List.map (eInt .u8) m.Payload)]]) (args := [D.agg [D.int .i64 a.Epoch, D.int .i64 a.Ballot, D.int .i64 a.Phase, D.int .i64 a.Own.Epoch, D.int .i64 a.Own.Target, D.int .i64 a.Own.Prev, D.int .i64 a.Own.Spill, D.int .i64 a.Own.Percent, D.int .i64 a.Own.Stamp, D.int .i64 a.Own.Since, D.int .i64 a.Own.Ramped, D.int .u64 a.Own.Up, D.int .u64 a.Own.Sup, D.sl false 1 (List.map (eInt .i64) a.Own.Pen), D.sl false 1 (List.map (eInt .i64) a.Own.Changes), D.int .i64 a.Best, D.int .i64 a.Value.Epoch, D.int .i64 a.Value.Target, D.int .i64 a.Value.Prev, D.int .i64 a.Value.Spill, D.int .i64 a.Value.Percent, D.int .i64 a.Value.Stamp, D.int .i64 a.Value.Since, D.int .i64 a.Value.Ramped, D.int .u64 a.Value.Up, D.int .u64 a.Value.Sup, D.sl false 1 (List.map (eInt .i64) a.Value.Pen), D.sl false 1 (List.map (eInt .i64) a.Value.Changes), D.int .u64 a.Promises, D.int .u64 a.Accepts], D.agg [D.int .i64 c.F_, D.int .i64 c.Deciders, D.int .i64 c.Targets, D.int .i64 c.Routers, D.int .i64 c.Observers, D.sl false 1 (List.map (eInt .i64) c.Tiers), D.int .i64 c.Every, D.int .i64 c.Wait, D.int .i64 c.Rise, D.int .i64 c.Fall, D.int .i64 c.Fresh, D.int .i64 c.L_, D.int .i64 c.M_, D.int .i64 c.Dwell, D.int .i64 c.D_, D.int .i64 c.W_, D.int .i64 c.B_, D.int .i64 c.Hit, D.int .i64 c.Suppress, D.int .i64 c.Reuse, D.int .i64 c.Half, D.int .i64 c.First, D.int .i64 c.Step, D.int .i64 c.StepTime, D.int .i64 c.S_, D.int .i64 c.Cap, D.int .i64 c.Span, D.int .i64 c.Room, D.int .i64 c.Tries, D.int .i64 c.Retry], D.agg [D.int .i64 m.Kind, D.int .i64 m.From, D.int .i64 m.To, D.int .i64 m.Epoch, D.int .i64 m.Ballot, D.int .i64 m.Accepted, D.int .i64 m.Nonce, D.int .i64 m.Time, D.int .u64 m.Up, D.int .i64 m.Code, D.bool m.HasPlan, D.int .i64 m.Plan.Epoch, D.int .i64 m.Plan.Target, D.int .i64 m.Plan.Prev, D.int .i64 m.Plan.Spill, D.int .i64 m.Plan.Percent, D.int .i64 m.Plan.Stamp, D.int .i64 m.Plan.Since, D.int .i64 m.Plan.Ramped, D.int .u64 m.Plan.Up, D.int .u64 m.Plan.Sup, D.sl false 1 (List.map (eInt .i64) m.Plan.Pen), D.sl false 1 (List.map (eInt .i64) m.Plan.Changes), D.sl false 1 (List.map (eInt .i64) m.ID), D.sl false 1 (List.map (eInt .u8) m.Session), D.sl false 1 (List.map (eInt .u8) m.Payload)]]) (fun y2 => D.agg [D.int .i64 y2.Epoch, D.int .i64 y2.Ballot, D.int .i64 y2.Phase, D.int .i64 y2.Own.Epoch, D.int .i64 y2.Own.Target, D.int .i64 y2.Own.Prev, D.int .i64 y2.Own.Spill, D.int .i64 y2.Own.Percent, D.int .i64 y2.Own.Stamp, D.int .i64 y2.Own.Since, D.int .i64 y2.Own.Ramped, D.int .u64 y2.Own.Up, D.int .u64 y2.Own.Sup, D.sl false 1 (List.map (eInt .i64) y2.Own.Pen), D.sl false 1 (List.map (eInt .i64) y2.Own.Changes), D.int .i64 y2.Best, D.int .i64 y2.Value.Epoch, D.int .i64 y2.Value.Target, D.int .i64 y2.Value.Prev, D.int .i64 y2.Value.Spill, D.int .i64 y2.Value.Percent, D.int .i64 y2.Value.Stamp, D.int .i64 y2.Value.Since, D.int .i64 y2.Value.Ramped, D.int .u64 y2.Value.Up, D.int .u64 y2.Value.Sup, D.sl false 1 (List.map (eInt .i64) y2.Value.Pen), D.sl false 1 (List.map (eInt .i64) y2.Value.Changes), D.int .u64 y2.Promises, D.int .u64 y2.Accepts]) (fun y2 => []) h (by kernel_rfl) ⟨rfl, rfl⟩ ok2 (fun y2 h2 h => ?_)
    refine adv_ok hm 14 _ ?_
    have ok3 := fun (y : GProp) (hy : proposer_Accepted b c m = some y) => proposer_Accepted_ok hy
    refine p_callE [] (args1 := [D.agg [D.int .i64 b.Epoch, D.int .i64 b.Ballot, D.int .i64 b.Phase, D.int .i64 b.Own.Epoch, D.int .i64 b.Own.Target, D.int .i64 b.Own.Prev, D.int .i64 b.Own.Spill, D.int .i64 b.Own.Percent, D.int .i64 b.Own.Stamp, D.int .i64 b.Own.Since, D.int .i64 b.Own.Ramped, D.int .u64 b.Own.Up, D.int .u64 b.Own.Sup, D.sl false 1 (List.map (eInt .i64) b.Own.Pen), D.sl false 1 (List.map (eInt .i64) b.Own.Changes), D.int .i64 b.Best, D.int .i64 b.Value.Epoch, D.int .i64 b.Value.Target, D.int .i64 b.Value.Prev, D.int .i64 b.Value.Spill, D.int .i64 b.Value.Percent, D.int .i64 b.Value.Stamp, D.int .i64 b.Value.Since, D.int .i64 b.Value.Ramped, D.int .u64 b.Value.Up, D.int .u64 b.Value.Sup, D.sl false 1 (List.map (eInt .i64) b.Value.Pen), D.sl false 1 (List.map (eInt .i64) b.Value.Changes), D.int .u64 b.Promises, D.int .u64 b.Accepts], D.agg [D.int .i64 c.F_, D.int .i64 c.Deciders, D.int .i64 c.Targets, D.int .i64 c.Routers, D.int .i64 c.Observers, D.sl false 1 (List.map (eInt .i64) c.Tiers), D.int .i64 c.Every, D.int .i64 c.Wait, D.int .i64 c.Rise, D.int .i64 c.Fall, D.int .i64 c.Fresh, D.int .i64 c.L_, D.int .i64 c.M_, D.int .i64 c.Dwell, D.int .i64 c.D_, D.int .i64 c.W_, D.int .i64 c.B_, D.int .i64 c.Hit, D.int .i64 c.Suppress, D.int .i64 c.Reuse, D.int .i64 c.Half, D.int .i64 c.First, D.int .i64 c.Step, D.int .i64 c.StepTime, D.int .i64 c.S_, D.int .i64 c.Cap, D.int .i64 c.Span, D.int .i64 c.Room, D.int .i64 c.Tries, D.int .i64 c.Retry], D.agg [D.int .i64 m.Kind, D.int .i64 m.From, D.int .i64 m.To, D.int .i64 m.Epoch, D.int .i64 m.Ballot, D.int .i64 m.Accepted, D.int .i64 m.Nonce, D.int .i64 m.Time, D.int .u64 m.Up, D.int .i64 m.Code, D.bool m.HasPlan, D.int .i64 m.Plan.Epoch, D.int .i64 m.Plan.Target, D.int .i64 m.Plan.Prev, D.int .i64 m.Plan.Spill, D.int .i64 m.Plan.Percent, D.int .i64 m.Plan.Stamp, D.int .i64 m.Plan.Since, D.int .i64 m.Plan.Ramped, D.int .u64 m.Plan.Up, D.int .u64 m.Plan.Sup, D.sl false 1 (List.map (eInt .i64) m.Plan.Pen), D.sl false 1 (List.map (eInt .i64) m.Plan.Changes), D.sl false 1 (List.map (eInt .i64) m.ID), D.sl false 1 (List.map (eInt .u8) m.Session), D.sl false 1 (List.map (eInt .u8) m.Payload)]]) (args := [D.agg [D.int .i64 b.Epoch, D.int .i64 b.Ballot, D.int .i64 b.Phase, D.int .i64 b.Own.Epoch, D.int .i64 b.Own.Target, D.int .i64 b.Own.Prev, D.int .i64 b.Own.Spill, D.int .i64 b.Own.Percent, D.int .i64 b.Own.Stamp, D.int .i64 b.Own.Since, D.int .i64 b.Own.Ramped, D.int .u64 b.Own.Up, D.int .u64 b.Own.Sup, D.sl false 1 (List.map (eInt .i64) b.Own.Pen), D.sl false 1 (List.map (eInt .i64) b.Own.Changes), D.int .i64 b.Best, D.int .i64 b.Value.Epoch, D.int .i64 b.Value.Target, D.int .i64 b.Value.Prev, D.int .i64 b.Value.Spill, D.int .i64 b.Value.Percent, D.int .i64 b.Value.Stamp, D.int .i64 b.Value.Since, D.int .i64 b.Value.Ramped, D.int .u64 b.Value.Up, D.int .u64 b.Value.Sup, D.sl false 1 (List.map (eInt .i64) b.Value.Pen), D.sl false 1 (List.map (eInt .i64) b.Value.Changes), D.int .u64 b.Promises, D.int .u64 b.Accepts], D.agg [D.int .i64 c.F_, D.int .i64 c.Deciders, D.int .i64 c.Targets, D.int .i64 c.Routers, D.int .i64 c.Observers, D.sl false 1 (List.map (eInt .i64) c.Tiers), D.int .i64 c.Every, D.int .i64 c.Wait, D.int .i64 c.Rise, D.int .i64 c.Fall, D.int .i64 c.Fresh, D.int .i64 c.L_, D.int .i64 c.M_, D.int .i64 c.Dwell, D.int .i64 c.D_, D.int .i64 c.W_, D.int .i64 c.B_, D.int .i64 c.Hit, D.int .i64 c.Suppress, D.int .i64 c.Reuse, D.int .i64 c.Half, D.int .i64 c.First, D.int .i64 c.Step, D.int .i64 c.StepTime, D.int .i64 c.S_, D.int .i64 c.Cap, D.int .i64 c.Span, D.int .i64 c.Room, D.int .i64 c.Tries, D.int .i64 c.Retry], D.agg [D.int .i64 m.Kind, D.int .i64 m.From, D.int .i64 m.To, D.int .i64 m.Epoch, D.int .i64 m.Ballot, D.int .i64 m.Accepted, D.int .i64 m.Nonce, D.int .i64 m.Time, D.int .u64 m.Up, D.int .i64 m.Code, D.bool m.HasPlan, D.int .i64 m.Plan.Epoch, D.int .i64 m.Plan.Target, D.int .i64 m.Plan.Prev, D.int .i64 m.Plan.Spill, D.int .i64 m.Plan.Percent, D.int .i64 m.Plan.Stamp, D.int .i64 m.Plan.Since, D.int .i64 m.Plan.Ramped, D.int .u64 m.Plan.Up, D.int .u64 m.Plan.Sup, D.sl false 1 (List.map (eInt .i64) m.Plan.Pen), D.sl false 1 (List.map (eInt .i64) m.Plan.Changes), D.sl false 1 (List.map (eInt .i64) m.ID), D.sl false 1 (List.map (eInt .u8) m.Session), D.sl false 1 (List.map (eInt .u8) m.Payload)]]) (fun y3 => D.agg [D.int .i64 y3.Epoch, D.int .i64 y3.Ballot, D.int .i64 y3.Phase, D.int .i64 y3.Own.Epoch, D.int .i64 y3.Own.Target, D.int .i64 y3.Own.Prev, D.int .i64 y3.Own.Spill, D.int .i64 y3.Own.Percent, D.int .i64 y3.Own.Stamp, D.int .i64 y3.Own.Since, D.int .i64 y3.Own.Ramped, D.int .u64 y3.Own.Up, D.int .u64 y3.Own.Sup, D.sl false 1 (List.map (eInt .i64) y3.Own.Pen), D.sl false 1 (List.map (eInt .i64) y3.Own.Changes), D.int .i64 y3.Best, D.int .i64 y3.Value.Epoch, D.int .i64 y3.Value.Target, D.int .i64 y3.Value.Prev, D.int .i64 y3.Value.Spill, D.int .i64 y3.Value.Percent, D.int .i64 y3.Value.Stamp, D.int .i64 y3.Value.Since, D.int .i64 y3.Value.Ramped, D.int .u64 y3.Value.Up, D.int .u64 y3.Value.Sup, D.sl false 1 (List.map (eInt .i64) y3.Value.Pen), D.sl false 1 (List.map (eInt .i64) y3.Value.Changes), D.int .u64 y3.Promises, D.int .u64 y3.Accepts]) (fun y3 => []) h (by kernel_rfl) ⟨rfl, rfl⟩ ok3 (fun y3 h3 h => ?_)
    refine adv_ok hm 10 _ ?_
    refine p_split h (by kernel_rfl) (fun h4 h => ?_) (fun h4 h => ?_)
    · -- true
      refine adv_ok hm 14 _ ?_
      refine p_split h (by kernel_rfl) (fun h5 h => ?_) (fun h5 h => ?_)
      · -- true
        refine adv_ok hm 14 _ ?_
        refine p_split h (by kernel_rfl) (fun h6 h => ?_) (fun h6 h => ?_)
        · -- true
          refine adv_ok hm 10 _ ?_
          have ok7 := fun (y : Bool) (hy : ref04_Same y2.Value a.Value = some y) => ref04_Same_ok hy
          refine p_callE [] (args1 := [D.agg [D.int .i64 y2.Value.Epoch, D.int .i64 y2.Value.Target, D.int .i64 y2.Value.Prev, D.int .i64 y2.Value.Spill, D.int .i64 y2.Value.Percent, D.int .i64 y2.Value.Stamp, D.int .i64 y2.Value.Since, D.int .i64 y2.Value.Ramped, D.int .u64 y2.Value.Up, D.int .u64 y2.Value.Sup, D.sl false 1 (List.map (eInt .i64) y2.Value.Pen), D.sl false 1 (List.map (eInt .i64) y2.Value.Changes)], D.agg [D.int .i64 a.Value.Epoch, D.int .i64 a.Value.Target, D.int .i64 a.Value.Prev, D.int .i64 a.Value.Spill, D.int .i64 a.Value.Percent, D.int .i64 a.Value.Stamp, D.int .i64 a.Value.Since, D.int .i64 a.Value.Ramped, D.int .u64 a.Value.Up, D.int .u64 a.Value.Sup, D.sl false 1 (List.map (eInt .i64) a.Value.Pen), D.sl false 1 (List.map (eInt .i64) a.Value.Changes)]]) (args := [D.agg [D.int .i64 y2.Value.Epoch, D.int .i64 y2.Value.Target, D.int .i64 y2.Value.Prev, D.int .i64 y2.Value.Spill, D.int .i64 y2.Value.Percent, D.int .i64 y2.Value.Stamp, D.int .i64 y2.Value.Since, D.int .i64 y2.Value.Ramped, D.int .u64 y2.Value.Up, D.int .u64 y2.Value.Sup, D.sl false 1 (List.map (eInt .i64) y2.Value.Pen), D.sl false 1 (List.map (eInt .i64) y2.Value.Changes)], D.agg [D.int .i64 a.Value.Epoch, D.int .i64 a.Value.Target, D.int .i64 a.Value.Prev, D.int .i64 a.Value.Spill, D.int .i64 a.Value.Percent, D.int .i64 a.Value.Stamp, D.int .i64 a.Value.Since, D.int .i64 a.Value.Ramped, D.int .u64 a.Value.Up, D.int .u64 a.Value.Sup, D.sl false 1 (List.map (eInt .i64) a.Value.Pen), D.sl false 1 (List.map (eInt .i64) a.Value.Changes)]]) (fun y7 => D.bool y7) (fun y7 => []) h (by kernel_rfl) ⟨rfl, rfl⟩ ok7 (fun y7 h7 h => ?_)
          refine adv_ok hm 4 _ ?_
          refine p_split h (by kernel_rfl) (fun h8 h => ?_) (fun h8 h => ?_)
          · -- true
            refine adv_ok hm 14 _ ?_
            refine p_split h (by kernel_rfl) (fun h9 h => ?_) (fun h9 h => ?_)
            · -- true
              refine adv_ok hm 14 _ ?_
              refine p_split h (by kernel_rfl) (fun h10 h => ?_) (fun h10 h => ?_)
              · -- true
                refine adv_ok hm 14 _ ?_
                refine p_split h (by kernel_rfl) (fun h11 h => ?_) (fun h11 h => ?_)
                · -- true
                  refine adv_ok hm 14 _ ?_
                  refine p_split h (by kernel_rfl) (fun h12 h => ?_) (fun h12 h => ?_)
                  · -- true
                    refine adv_ok hm 10 _ ?_
                    have ok13 := fun (y : Bool) (hy : ref04_Same a.Own p.Own = some y) => ref04_Same_ok hy
                    refine p_callE [] (args1 := [D.agg [D.int .i64 a.Own.Epoch, D.int .i64 a.Own.Target, D.int .i64 a.Own.Prev, D.int .i64 a.Own.Spill, D.int .i64 a.Own.Percent, D.int .i64 a.Own.Stamp, D.int .i64 a.Own.Since, D.int .i64 a.Own.Ramped, D.int .u64 a.Own.Up, D.int .u64 a.Own.Sup, D.sl false 1 (List.map (eInt .i64) a.Own.Pen), D.sl false 1 (List.map (eInt .i64) a.Own.Changes)], D.agg [D.int .i64 p.Own.Epoch, D.int .i64 p.Own.Target, D.int .i64 p.Own.Prev, D.int .i64 p.Own.Spill, D.int .i64 p.Own.Percent, D.int .i64 p.Own.Stamp, D.int .i64 p.Own.Since, D.int .i64 p.Own.Ramped, D.int .u64 p.Own.Up, D.int .u64 p.Own.Sup, D.sl false 1 (List.map (eInt .i64) p.Own.Pen), D.sl false 1 (List.map (eInt .i64) p.Own.Changes)]]) (args := [D.agg [D.int .i64 a.Own.Epoch, D.int .i64 a.Own.Target, D.int .i64 a.Own.Prev, D.int .i64 a.Own.Spill, D.int .i64 a.Own.Percent, D.int .i64 a.Own.Stamp, D.int .i64 a.Own.Since, D.int .i64 a.Own.Ramped, D.int .u64 a.Own.Up, D.int .u64 a.Own.Sup, D.sl false 1 (List.map (eInt .i64) a.Own.Pen), D.sl false 1 (List.map (eInt .i64) a.Own.Changes)], D.agg [D.int .i64 p.Own.Epoch, D.int .i64 p.Own.Target, D.int .i64 p.Own.Prev, D.int .i64 p.Own.Spill, D.int .i64 p.Own.Percent, D.int .i64 p.Own.Stamp, D.int .i64 p.Own.Since, D.int .i64 p.Own.Ramped, D.int .u64 p.Own.Up, D.int .u64 p.Own.Sup, D.sl false 1 (List.map (eInt .i64) p.Own.Pen), D.sl false 1 (List.map (eInt .i64) p.Own.Changes)]]) (fun y13 => D.bool y13) (fun y13 => []) h (by kernel_rfl) ⟨rfl, rfl⟩ ok13 (fun y13 h13 h => ?_)
                    refine adv_ok hm 5 _ ?_
                    obtain rfl := Option.some.inj h
                    exact r_retF [] (d := D.bool y13) (s := []) (by kernel_rfl) ⟨rfl, rfl⟩
                  · -- false
                    refine adv_ok hm 13 _ ?_
                    obtain rfl := Option.some.inj h
                    exact r_retF [] (d := D.bool false) (s := []) (by kernel_rfl) ⟨rfl, rfl⟩
                · -- false
                  refine adv_ok hm 26 _ ?_
                  obtain rfl := Option.some.inj h
                  exact r_retF [] (d := D.bool false) (s := []) (by kernel_rfl) ⟨rfl, rfl⟩
              · -- false
                refine adv_ok hm 39 _ ?_
                obtain rfl := Option.some.inj h
                exact r_retF [] (d := D.bool false) (s := []) (by kernel_rfl) ⟨rfl, rfl⟩
            · -- false
              refine adv_ok hm 52 _ ?_
              obtain rfl := Option.some.inj h
              exact r_retF [] (d := D.bool false) (s := []) (by kernel_rfl) ⟨rfl, rfl⟩
          · -- false
            refine adv_ok hm 65 _ ?_
            obtain rfl := Option.some.inj h
            exact r_retF [] (d := D.bool false) (s := []) (by kernel_rfl) ⟨rfl, rfl⟩
        · -- false
          refine adv_ok hm 78 _ ?_
          obtain rfl := Option.some.inj h
          exact r_retF [] (d := D.bool false) (s := []) (by kernel_rfl) ⟨rfl, rfl⟩
      · -- false
        refine adv_ok hm 91 _ ?_
        obtain rfl := Option.some.inj h
        exact r_retF [] (d := D.bool false) (s := []) (by kernel_rfl) ⟨rfl, rfl⟩
    · -- false
      refine adv_ok hm 104 _ ?_
      obtain rfl := Option.some.inj h
      exact r_retF [] (d := D.bool false) (s := []) (by kernel_rfl) ⟨rfl, rfl⟩
noncomputable def law16_ProposerOther_2M (up : Bool) (own : Bool) (p : GProp) (c : Config) (m : Msg) (a : GProp) (b : GProp) : M := { td := [It.code (codeAt (bodyOf Try.f6) [1, 1, 1, 1, 1])], fr := [(3, D.ptr 0 0 0), (4, D.ptr 1 0 0), (5, D.ptr 2 0 0), (7, D.bool up), (8, D.ptr 3 0 0), (9, D.ptr 4 0 0), (10, D.bool own)], st := [some { sz := 30, deep := false, rows := [[D.int .i64 p.Epoch, D.int .i64 p.Ballot, D.int .i64 p.Phase, D.int .i64 p.Own.Epoch, D.int .i64 p.Own.Target, D.int .i64 p.Own.Prev, D.int .i64 p.Own.Spill, D.int .i64 p.Own.Percent, D.int .i64 p.Own.Stamp, D.int .i64 p.Own.Since, D.int .i64 p.Own.Ramped, D.int .u64 p.Own.Up, D.int .u64 p.Own.Sup, D.sl false 1 (List.map (eInt .i64) p.Own.Pen), D.sl false 1 (List.map (eInt .i64) p.Own.Changes), D.int .i64 p.Best, D.int .i64 p.Value.Epoch, D.int .i64 p.Value.Target, D.int .i64 p.Value.Prev, D.int .i64 p.Value.Spill, D.int .i64 p.Value.Percent, D.int .i64 p.Value.Stamp, D.int .i64 p.Value.Since, D.int .i64 p.Value.Ramped, D.int .u64 p.Value.Up, D.int .u64 p.Value.Sup, D.sl false 1 (List.map (eInt .i64) p.Value.Pen), D.sl false 1 (List.map (eInt .i64) p.Value.Changes), D.int .u64 p.Promises, D.int .u64 p.Accepts]] }, some { sz := 30, deep := false, rows := [[D.int .i64 c.F_, D.int .i64 c.Deciders, D.int .i64 c.Targets, D.int .i64 c.Routers, D.int .i64 c.Observers, D.sl false 1 (List.map (eInt .i64) c.Tiers), D.int .i64 c.Every, D.int .i64 c.Wait, D.int .i64 c.Rise, D.int .i64 c.Fall, D.int .i64 c.Fresh, D.int .i64 c.L_, D.int .i64 c.M_, D.int .i64 c.Dwell, D.int .i64 c.D_, D.int .i64 c.W_, D.int .i64 c.B_, D.int .i64 c.Hit, D.int .i64 c.Suppress, D.int .i64 c.Reuse, D.int .i64 c.Half, D.int .i64 c.First, D.int .i64 c.Step, D.int .i64 c.StepTime, D.int .i64 c.S_, D.int .i64 c.Cap, D.int .i64 c.Span, D.int .i64 c.Room, D.int .i64 c.Tries, D.int .i64 c.Retry]] }, some { sz := 26, deep := false, rows := [[D.int .i64 m.Kind, D.int .i64 m.From, D.int .i64 m.To, D.int .i64 m.Epoch, D.int .i64 m.Ballot, D.int .i64 m.Accepted, D.int .i64 m.Nonce, D.int .i64 m.Time, D.int .u64 m.Up, D.int .i64 m.Code, D.bool m.HasPlan, D.int .i64 m.Plan.Epoch, D.int .i64 m.Plan.Target, D.int .i64 m.Plan.Prev, D.int .i64 m.Plan.Spill, D.int .i64 m.Plan.Percent, D.int .i64 m.Plan.Stamp, D.int .i64 m.Plan.Since, D.int .i64 m.Plan.Ramped, D.int .u64 m.Plan.Up, D.int .u64 m.Plan.Sup, D.sl false 1 (List.map (eInt .i64) m.Plan.Pen), D.sl false 1 (List.map (eInt .i64) m.Plan.Changes), D.sl false 1 (List.map (eInt .i64) m.ID), D.sl false 1 (List.map (eInt .u8) m.Session), D.sl false 1 (List.map (eInt .u8) m.Payload)]] }, some { sz := 30, deep := false, rows := [[D.int .i64 a.Epoch, D.int .i64 a.Ballot, D.int .i64 a.Phase, D.int .i64 a.Own.Epoch, D.int .i64 a.Own.Target, D.int .i64 a.Own.Prev, D.int .i64 a.Own.Spill, D.int .i64 a.Own.Percent, D.int .i64 a.Own.Stamp, D.int .i64 a.Own.Since, D.int .i64 a.Own.Ramped, D.int .u64 a.Own.Up, D.int .u64 a.Own.Sup, D.sl false 1 (List.map (eInt .i64) a.Own.Pen), D.sl false 1 (List.map (eInt .i64) a.Own.Changes), D.int .i64 a.Best, D.int .i64 a.Value.Epoch, D.int .i64 a.Value.Target, D.int .i64 a.Value.Prev, D.int .i64 a.Value.Spill, D.int .i64 a.Value.Percent, D.int .i64 a.Value.Stamp, D.int .i64 a.Value.Since, D.int .i64 a.Value.Ramped, D.int .u64 a.Value.Up, D.int .u64 a.Value.Sup, D.sl false 1 (List.map (eInt .i64) a.Value.Pen), D.sl false 1 (List.map (eInt .i64) a.Value.Changes), D.int .u64 a.Promises, D.int .u64 a.Accepts]] }, some { sz := 30, deep := false, rows := [[D.int .i64 b.Epoch, D.int .i64 b.Ballot, D.int .i64 b.Phase, D.int .i64 b.Own.Epoch, D.int .i64 b.Own.Target, D.int .i64 b.Own.Prev, D.int .i64 b.Own.Spill, D.int .i64 b.Own.Percent, D.int .i64 b.Own.Stamp, D.int .i64 b.Own.Since, D.int .i64 b.Own.Ramped, D.int .u64 b.Own.Up, D.int .u64 b.Own.Sup, D.sl false 1 (List.map (eInt .i64) b.Own.Pen), D.sl false 1 (List.map (eInt .i64) b.Own.Changes), D.int .i64 b.Best, D.int .i64 b.Value.Epoch, D.int .i64 b.Value.Target, D.int .i64 b.Value.Prev, D.int .i64 b.Value.Spill, D.int .i64 b.Value.Percent, D.int .i64 b.Value.Stamp, D.int .i64 b.Value.Since, D.int .i64 b.Value.Ramped, D.int .u64 b.Value.Up, D.int .u64 b.Value.Sup, D.sl false 1 (List.map (eInt .i64) b.Value.Pen), D.sl false 1 (List.map (eInt .i64) b.Value.Changes), D.int .u64 b.Promises, D.int .u64 b.Accepts]] }] }
noncomputable def law16_ProposerOther_2 (up : Bool) (own : Bool) (p : GProp) (c : Config) (m : Msg) (a : GProp) (b : GProp) : Option Bool := (bif (!own) then ((ref16_Same a p).bind fun y2 => (bif (!y2) then (law16_ProposerOther_1 up true p c m a b) else ((ref16_Same b p).bind fun y4 => (law16_ProposerOther_1 up (!y4) p c m a b)))) else (law16_ProposerOther_1 up false p c m a b))
theorem law16_ProposerOther_2_ok {up : Bool} {own : Bool} {p : GProp} {c : Config} {m : Msg} {a : GProp} {b : GProp} {r : Bool} (h : law16_ProposerOther_2 up own p c m a b = some r) : FinQ E ⟨Try.f6, false, 0⟩ (QW (law16_ProposerOther_Q r)) (.go (law16_ProposerOther_2M up own p c m a b)) := by
  unfold law16_ProposerOther_2 at h
  refine adv_ok hm 7 _ ?_
  refine p_split h (by kernel_rfl) (fun h1 h => ?_) (fun h1 h => ?_)
  · -- true
    refine adv_ok hm 6 _ ?_
    have ok2 := fun (y : Bool) (hy : ref16_Same a p = some y) => ref16_Same_ok hy
    refine p_callE [] (args1 := [D.agg [D.int .i64 a.Epoch, D.int .i64 a.Ballot, D.int .i64 a.Phase, D.int .i64 a.Own.Epoch, D.int .i64 a.Own.Target, D.int .i64 a.Own.Prev, D.int .i64 a.Own.Spill, D.int .i64 a.Own.Percent, D.int .i64 a.Own.Stamp, D.int .i64 a.Own.Since, D.int .i64 a.Own.Ramped, D.int .u64 a.Own.Up, D.int .u64 a.Own.Sup, D.sl false 1 (List.map (eInt .i64) a.Own.Pen), D.sl false 1 (List.map (eInt .i64) a.Own.Changes), D.int .i64 a.Best, D.int .i64 a.Value.Epoch, D.int .i64 a.Value.Target, D.int .i64 a.Value.Prev, D.int .i64 a.Value.Spill, D.int .i64 a.Value.Percent, D.int .i64 a.Value.Stamp, D.int .i64 a.Value.Since, D.int .i64 a.Value.Ramped, D.int .u64 a.Value.Up, D.int .u64 a.Value.Sup, D.sl false 1 (List.map (eInt .i64) a.Value.Pen), D.sl false 1 (List.map (eInt .i64) a.Value.Changes), D.int .u64 a.Promises, D.int .u64 a.Accepts], D.agg [D.int .i64 p.Epoch, D.int .i64 p.Ballot, D.int .i64 p.Phase, D.int .i64 p.Own.Epoch, D.int .i64 p.Own.Target, D.int .i64 p.Own.Prev, D.int .i64 p.Own.Spill, D.int .i64 p.Own.Percent, D.int .i64 p.Own.Stamp, D.int .i64 p.Own.Since, D.int .i64 p.Own.Ramped, D.int .u64 p.Own.Up, D.int .u64 p.Own.Sup, D.sl false 1 (List.map (eInt .i64) p.Own.Pen), D.sl false 1 (List.map (eInt .i64) p.Own.Changes), D.int .i64 p.Best, D.int .i64 p.Value.Epoch, D.int .i64 p.Value.Target, D.int .i64 p.Value.Prev, D.int .i64 p.Value.Spill, D.int .i64 p.Value.Percent, D.int .i64 p.Value.Stamp, D.int .i64 p.Value.Since, D.int .i64 p.Value.Ramped, D.int .u64 p.Value.Up, D.int .u64 p.Value.Sup, D.sl false 1 (List.map (eInt .i64) p.Value.Pen), D.sl false 1 (List.map (eInt .i64) p.Value.Changes), D.int .u64 p.Promises, D.int .u64 p.Accepts]]) (args := [D.agg [D.int .i64 a.Epoch, D.int .i64 a.Ballot, D.int .i64 a.Phase, D.int .i64 a.Own.Epoch, D.int .i64 a.Own.Target, D.int .i64 a.Own.Prev, D.int .i64 a.Own.Spill, D.int .i64 a.Own.Percent, D.int .i64 a.Own.Stamp, D.int .i64 a.Own.Since, D.int .i64 a.Own.Ramped, D.int .u64 a.Own.Up, D.int .u64 a.Own.Sup, D.sl false 1 (List.map (eInt .i64) a.Own.Pen), D.sl false 1 (List.map (eInt .i64) a.Own.Changes), D.int .i64 a.Best, D.int .i64 a.Value.Epoch, D.int .i64 a.Value.Target, D.int .i64 a.Value.Prev, D.int .i64 a.Value.Spill, D.int .i64 a.Value.Percent, D.int .i64 a.Value.Stamp, D.int .i64 a.Value.Since, D.int .i64 a.Value.Ramped, D.int .u64 a.Value.Up, D.int .u64 a.Value.Sup, D.sl false 1 (List.map (eInt .i64) a.Value.Pen), D.sl false 1 (List.map (eInt .i64) a.Value.Changes), D.int .u64 a.Promises, D.int .u64 a.Accepts], D.agg [D.int .i64 p.Epoch, D.int .i64 p.Ballot, D.int .i64 p.Phase, D.int .i64 p.Own.Epoch, D.int .i64 p.Own.Target, D.int .i64 p.Own.Prev, D.int .i64 p.Own.Spill, D.int .i64 p.Own.Percent, D.int .i64 p.Own.Stamp, D.int .i64 p.Own.Since, D.int .i64 p.Own.Ramped, D.int .u64 p.Own.Up, D.int .u64 p.Own.Sup, D.sl false 1 (List.map (eInt .i64) p.Own.Pen), D.sl false 1 (List.map (eInt .i64) p.Own.Changes), D.int .i64 p.Best, D.int .i64 p.Value.Epoch, D.int .i64 p.Value.Target, D.int .i64 p.Value.Prev, D.int .i64 p.Value.Spill, D.int .i64 p.Value.Percent, D.int .i64 p.Value.Stamp, D.int .i64 p.Value.Since, D.int .i64 p.Value.Ramped, D.int .u64 p.Value.Up, D.int .u64 p.Value.Sup, D.sl false 1 (List.map (eInt .i64) p.Value.Pen), D.sl false 1 (List.map (eInt .i64) p.Value.Changes), D.int .u64 p.Promises, D.int .u64 p.Accepts]]) (fun y2 => D.bool y2) (fun y2 => []) h (by kernel_rfl) ⟨rfl, rfl⟩ ok2 (fun y2 h2 h => ?_)
    refine adv_ok hm 5 _ ?_
    refine p_split h (by kernel_rfl) (fun h3 h => ?_) (fun h3 h => ?_)
    · -- true
      refine adv_ok hm 12 _ ?_
      exact r_cut 4611686018427388856 [] (m' := (law16_ProposerOther_1M up true p c m a b)) (by kernel_rfl) (law16_ProposerOther_1_ok h)
    · -- false
      refine adv_ok hm 6 _ ?_
      have ok4 := fun (y : Bool) (hy : ref16_Same b p = some y) => ref16_Same_ok hy
      refine p_callE [] (args1 := [D.agg [D.int .i64 b.Epoch, D.int .i64 b.Ballot, D.int .i64 b.Phase, D.int .i64 b.Own.Epoch, D.int .i64 b.Own.Target, D.int .i64 b.Own.Prev, D.int .i64 b.Own.Spill, D.int .i64 b.Own.Percent, D.int .i64 b.Own.Stamp, D.int .i64 b.Own.Since, D.int .i64 b.Own.Ramped, D.int .u64 b.Own.Up, D.int .u64 b.Own.Sup, D.sl false 1 (List.map (eInt .i64) b.Own.Pen), D.sl false 1 (List.map (eInt .i64) b.Own.Changes), D.int .i64 b.Best, D.int .i64 b.Value.Epoch, D.int .i64 b.Value.Target, D.int .i64 b.Value.Prev, D.int .i64 b.Value.Spill, D.int .i64 b.Value.Percent, D.int .i64 b.Value.Stamp, D.int .i64 b.Value.Since, D.int .i64 b.Value.Ramped, D.int .u64 b.Value.Up, D.int .u64 b.Value.Sup, D.sl false 1 (List.map (eInt .i64) b.Value.Pen), D.sl false 1 (List.map (eInt .i64) b.Value.Changes), D.int .u64 b.Promises, D.int .u64 b.Accepts], D.agg [D.int .i64 p.Epoch, D.int .i64 p.Ballot, D.int .i64 p.Phase, D.int .i64 p.Own.Epoch, D.int .i64 p.Own.Target, D.int .i64 p.Own.Prev, D.int .i64 p.Own.Spill, D.int .i64 p.Own.Percent, D.int .i64 p.Own.Stamp, D.int .i64 p.Own.Since, D.int .i64 p.Own.Ramped, D.int .u64 p.Own.Up, D.int .u64 p.Own.Sup, D.sl false 1 (List.map (eInt .i64) p.Own.Pen), D.sl false 1 (List.map (eInt .i64) p.Own.Changes), D.int .i64 p.Best, D.int .i64 p.Value.Epoch, D.int .i64 p.Value.Target, D.int .i64 p.Value.Prev, D.int .i64 p.Value.Spill, D.int .i64 p.Value.Percent, D.int .i64 p.Value.Stamp, D.int .i64 p.Value.Since, D.int .i64 p.Value.Ramped, D.int .u64 p.Value.Up, D.int .u64 p.Value.Sup, D.sl false 1 (List.map (eInt .i64) p.Value.Pen), D.sl false 1 (List.map (eInt .i64) p.Value.Changes), D.int .u64 p.Promises, D.int .u64 p.Accepts]]) (args := [D.agg [D.int .i64 b.Epoch, D.int .i64 b.Ballot, D.int .i64 b.Phase, D.int .i64 b.Own.Epoch, D.int .i64 b.Own.Target, D.int .i64 b.Own.Prev, D.int .i64 b.Own.Spill, D.int .i64 b.Own.Percent, D.int .i64 b.Own.Stamp, D.int .i64 b.Own.Since, D.int .i64 b.Own.Ramped, D.int .u64 b.Own.Up, D.int .u64 b.Own.Sup, D.sl false 1 (List.map (eInt .i64) b.Own.Pen), D.sl false 1 (List.map (eInt .i64) b.Own.Changes), D.int .i64 b.Best, D.int .i64 b.Value.Epoch, D.int .i64 b.Value.Target, D.int .i64 b.Value.Prev, D.int .i64 b.Value.Spill, D.int .i64 b.Value.Percent, D.int .i64 b.Value.Stamp, D.int .i64 b.Value.Since, D.int .i64 b.Value.Ramped, D.int .u64 b.Value.Up, D.int .u64 b.Value.Sup, D.sl false 1 (List.map (eInt .i64) b.Value.Pen), D.sl false 1 (List.map (eInt .i64) b.Value.Changes), D.int .u64 b.Promises, D.int .u64 b.Accepts], D.agg [D.int .i64 p.Epoch, D.int .i64 p.Ballot, D.int .i64 p.Phase, D.int .i64 p.Own.Epoch, D.int .i64 p.Own.Target, D.int .i64 p.Own.Prev, D.int .i64 p.Own.Spill, D.int .i64 p.Own.Percent, D.int .i64 p.Own.Stamp, D.int .i64 p.Own.Since, D.int .i64 p.Own.Ramped, D.int .u64 p.Own.Up, D.int .u64 p.Own.Sup, D.sl false 1 (List.map (eInt .i64) p.Own.Pen), D.sl false 1 (List.map (eInt .i64) p.Own.Changes), D.int .i64 p.Best, D.int .i64 p.Value.Epoch, D.int .i64 p.Value.Target, D.int .i64 p.Value.Prev, D.int .i64 p.Value.Spill, D.int .i64 p.Value.Percent, D.int .i64 p.Value.Stamp, D.int .i64 p.Value.Since, D.int .i64 p.Value.Ramped, D.int .u64 p.Value.Up, D.int .u64 p.Value.Sup, D.sl false 1 (List.map (eInt .i64) p.Value.Pen), D.sl false 1 (List.map (eInt .i64) p.Value.Changes), D.int .u64 p.Promises, D.int .u64 p.Accepts]]) (fun y4 => D.bool y4) (fun y4 => []) h (by kernel_rfl) ⟨rfl, rfl⟩ ok4 (fun y4 h4 h => ?_)
      refine adv_ok hm 8 _ ?_
      exact r_cut 4611686018427388856 [] (m' := (law16_ProposerOther_1M up (!y4) p c m a b)) (by kernel_rfl) (law16_ProposerOther_1_ok h)
  · -- false
    refine adv_ok hm 17 _ ?_
    exact r_cut 4611686018427388856 [] (m' := (law16_ProposerOther_1M up false p c m a b)) (by kernel_rfl) (law16_ProposerOther_1_ok h)
noncomputable def law16_ProposerOther (p : GProp) (c : Config) (m : Msg) : Option Bool := ((law16_head ).bind fun y1 => ((proposer_Promise p c m).bind fun y2 => ((proposer_Accepted p c m).bind fun y3 => (bif ((m.Epoch : Int) == p.Epoch) then (bif ((m.Ballot : Int) == p.Ballot) then (bif (decide ((m.From : Int) ≥ 0)) then (law16_ProposerOther_2 y1 (decide ((m.From : Int) ≤ (IntKind.i64.wrap ((2 : Int) * (mnI (mxI c.F_ 0) 3))))) p c m y2 y3) else (law16_ProposerOther_2 y1 false p c m y2 y3)) else (law16_ProposerOther_2 y1 false p c m y2 y3)) else (law16_ProposerOther_2 y1 false p c m y2 y3)))))
theorem law16_ProposerOther_ok {p : GProp} {c : Config} {m : Msg} {r : Bool} (h : law16_ProposerOther p c m = some r) : Sound E 6 [D.agg [D.int .i64 p.Epoch, D.int .i64 p.Ballot, D.int .i64 p.Phase, D.int .i64 p.Own.Epoch, D.int .i64 p.Own.Target, D.int .i64 p.Own.Prev, D.int .i64 p.Own.Spill, D.int .i64 p.Own.Percent, D.int .i64 p.Own.Stamp, D.int .i64 p.Own.Since, D.int .i64 p.Own.Ramped, D.int .u64 p.Own.Up, D.int .u64 p.Own.Sup, D.sl false 1 (List.map (eInt .i64) p.Own.Pen), D.sl false 1 (List.map (eInt .i64) p.Own.Changes), D.int .i64 p.Best, D.int .i64 p.Value.Epoch, D.int .i64 p.Value.Target, D.int .i64 p.Value.Prev, D.int .i64 p.Value.Spill, D.int .i64 p.Value.Percent, D.int .i64 p.Value.Stamp, D.int .i64 p.Value.Since, D.int .i64 p.Value.Ramped, D.int .u64 p.Value.Up, D.int .u64 p.Value.Sup, D.sl false 1 (List.map (eInt .i64) p.Value.Pen), D.sl false 1 (List.map (eInt .i64) p.Value.Changes), D.int .u64 p.Promises, D.int .u64 p.Accepts], D.agg [D.int .i64 c.F_, D.int .i64 c.Deciders, D.int .i64 c.Targets, D.int .i64 c.Routers, D.int .i64 c.Observers, D.sl false 1 (List.map (eInt .i64) c.Tiers), D.int .i64 c.Every, D.int .i64 c.Wait, D.int .i64 c.Rise, D.int .i64 c.Fall, D.int .i64 c.Fresh, D.int .i64 c.L_, D.int .i64 c.M_, D.int .i64 c.Dwell, D.int .i64 c.D_, D.int .i64 c.W_, D.int .i64 c.B_, D.int .i64 c.Hit, D.int .i64 c.Suppress, D.int .i64 c.Reuse, D.int .i64 c.Half, D.int .i64 c.First, D.int .i64 c.Step, D.int .i64 c.StepTime, D.int .i64 c.S_, D.int .i64 c.Cap, D.int .i64 c.Span, D.int .i64 c.Room, D.int .i64 c.Tries, D.int .i64 c.Retry], D.agg [D.int .i64 m.Kind, D.int .i64 m.From, D.int .i64 m.To, D.int .i64 m.Epoch, D.int .i64 m.Ballot, D.int .i64 m.Accepted, D.int .i64 m.Nonce, D.int .i64 m.Time, D.int .u64 m.Up, D.int .i64 m.Code, D.bool m.HasPlan, D.int .i64 m.Plan.Epoch, D.int .i64 m.Plan.Target, D.int .i64 m.Plan.Prev, D.int .i64 m.Plan.Spill, D.int .i64 m.Plan.Percent, D.int .i64 m.Plan.Stamp, D.int .i64 m.Plan.Since, D.int .i64 m.Plan.Ramped, D.int .u64 m.Plan.Up, D.int .u64 m.Plan.Sup, D.sl false 1 (List.map (eInt .i64) m.Plan.Pen), D.sl false 1 (List.map (eInt .i64) m.Plan.Changes), D.sl false 1 (List.map (eInt .i64) m.ID), D.sl false 1 (List.map (eInt .u8) m.Session), D.sl false 1 (List.map (eInt .u8) m.Payload)]] [] (law16_ProposerOther_Q r) := by
  refine sound_ofW (m := ⟨[.code (bodyOf Try.f6)], [(0, D.agg [D.int .i64 p.Epoch, D.int .i64 p.Ballot, D.int .i64 p.Phase, D.int .i64 p.Own.Epoch, D.int .i64 p.Own.Target, D.int .i64 p.Own.Prev, D.int .i64 p.Own.Spill, D.int .i64 p.Own.Percent, D.int .i64 p.Own.Stamp, D.int .i64 p.Own.Since, D.int .i64 p.Own.Ramped, D.int .u64 p.Own.Up, D.int .u64 p.Own.Sup, D.sl false 1 (List.map (eInt .i64) p.Own.Pen), D.sl false 1 (List.map (eInt .i64) p.Own.Changes), D.int .i64 p.Best, D.int .i64 p.Value.Epoch, D.int .i64 p.Value.Target, D.int .i64 p.Value.Prev, D.int .i64 p.Value.Spill, D.int .i64 p.Value.Percent, D.int .i64 p.Value.Stamp, D.int .i64 p.Value.Since, D.int .i64 p.Value.Ramped, D.int .u64 p.Value.Up, D.int .u64 p.Value.Sup, D.sl false 1 (List.map (eInt .i64) p.Value.Pen), D.sl false 1 (List.map (eInt .i64) p.Value.Changes), D.int .u64 p.Promises, D.int .u64 p.Accepts]), (1, D.agg [D.int .i64 c.F_, D.int .i64 c.Deciders, D.int .i64 c.Targets, D.int .i64 c.Routers, D.int .i64 c.Observers, D.sl false 1 (List.map (eInt .i64) c.Tiers), D.int .i64 c.Every, D.int .i64 c.Wait, D.int .i64 c.Rise, D.int .i64 c.Fall, D.int .i64 c.Fresh, D.int .i64 c.L_, D.int .i64 c.M_, D.int .i64 c.Dwell, D.int .i64 c.D_, D.int .i64 c.W_, D.int .i64 c.B_, D.int .i64 c.Hit, D.int .i64 c.Suppress, D.int .i64 c.Reuse, D.int .i64 c.Half, D.int .i64 c.First, D.int .i64 c.Step, D.int .i64 c.StepTime, D.int .i64 c.S_, D.int .i64 c.Cap, D.int .i64 c.Span, D.int .i64 c.Room, D.int .i64 c.Tries, D.int .i64 c.Retry]), (2, D.agg [D.int .i64 m.Kind, D.int .i64 m.From, D.int .i64 m.To, D.int .i64 m.Epoch, D.int .i64 m.Ballot, D.int .i64 m.Accepted, D.int .i64 m.Nonce, D.int .i64 m.Time, D.int .u64 m.Up, D.int .i64 m.Code, D.bool m.HasPlan, D.int .i64 m.Plan.Epoch, D.int .i64 m.Plan.Target, D.int .i64 m.Plan.Prev, D.int .i64 m.Plan.Spill, D.int .i64 m.Plan.Percent, D.int .i64 m.Plan.Stamp, D.int .i64 m.Plan.Since, D.int .i64 m.Plan.Ramped, D.int .u64 m.Plan.Up, D.int .u64 m.Plan.Sup, D.sl false 1 (List.map (eInt .i64) m.Plan.Pen), D.sl false 1 (List.map (eInt .i64) m.Plan.Changes), D.sl false 1 (List.map (eInt .i64) m.ID), D.sl false 1 (List.map (eInt .u8) m.Session), D.sl false 1 (List.map (eInt .u8) m.Payload)])], []⟩) (fn := Try.f6) (by kernel_rfl) (by kernel_rfl) ?_
  show FinQ E ⟨Try.f6, false, 0⟩ (QW (law16_ProposerOther_Q r)) _
  unfold law16_ProposerOther at h
  refine adv_ok hm 10 _ ?_
  have ok1 := fun (y : Bool) (hy : law16_head  = some y) => law16_head_ok hy
  refine p_callE [] (args1 := []) (args := []) (fun y1 => D.bool y1) (fun y1 => []) h (by kernel_rfl) ⟨rfl, rfl⟩ ok1 (fun y1 h1 h => ?_)
  refine adv_ok hm 11 _ ?_
  have ok2 := fun (y : GProp) (hy : proposer_Promise p c m = some y) => proposer_Promise_ok hy
  refine p_callE [] (args1 := [D.agg [D.int .i64 p.Epoch, D.int .i64 p.Ballot, D.int .i64 p.Phase, D.int .i64 p.Own.Epoch, D.int .i64 p.Own.Target, D.int .i64 p.Own.Prev, D.int .i64 p.Own.Spill, D.int .i64 p.Own.Percent, D.int .i64 p.Own.Stamp, D.int .i64 p.Own.Since, D.int .i64 p.Own.Ramped, D.int .u64 p.Own.Up, D.int .u64 p.Own.Sup, D.sl false 1 (List.map (eInt .i64) p.Own.Pen), D.sl false 1 (List.map (eInt .i64) p.Own.Changes), D.int .i64 p.Best, D.int .i64 p.Value.Epoch, D.int .i64 p.Value.Target, D.int .i64 p.Value.Prev, D.int .i64 p.Value.Spill, D.int .i64 p.Value.Percent, D.int .i64 p.Value.Stamp, D.int .i64 p.Value.Since, D.int .i64 p.Value.Ramped, D.int .u64 p.Value.Up, D.int .u64 p.Value.Sup, D.sl false 1 (List.map (eInt .i64) p.Value.Pen), D.sl false 1 (List.map (eInt .i64) p.Value.Changes), D.int .u64 p.Promises, D.int .u64 p.Accepts], D.agg [D.int .i64 c.F_, D.int .i64 c.Deciders, D.int .i64 c.Targets, D.int .i64 c.Routers, D.int .i64 c.Observers, D.sl false 1 (List.map (eInt .i64) c.Tiers), D.int .i64 c.Every, D.int .i64 c.Wait, D.int .i64 c.Rise, D.int .i64 c.Fall, D.int .i64 c.Fresh, D.int .i64 c.L_, D.int .i64 c.M_, D.int .i64 c.Dwell, D.int .i64 c.D_, D.int .i64 c.W_, D.int .i64 c.B_, D.int .i64 c.Hit, D.int .i64 c.Suppress, D.int .i64 c.Reuse, D.int .i64 c.Half, D.int .i64 c.First, D.int .i64 c.Step, D.int .i64 c.StepTime, D.int .i64 c.S_, D.int .i64 c.Cap, D.int .i64 c.Span, D.int .i64 c.Room, D.int .i64 c.Tries, D.int .i64 c.Retry], D.agg [D.int .i64 m.Kind, D.int .i64 m.From, D.int .i64 m.To, D.int .i64 m.Epoch, D.int .i64 m.Ballot, D.int .i64 m.Accepted, D.int .i64 m.Nonce, D.int .i64 m.Time, D.int .u64 m.Up, D.int .i64 m.Code, D.bool m.HasPlan, D.int .i64 m.Plan.Epoch, D.int .i64 m.Plan.Target, D.int .i64 m.Plan.Prev, D.int .i64 m.Plan.Spill, D.int .i64 m.Plan.Percent, D.int .i64 m.Plan.Stamp, D.int .i64 m.Plan.Since, D.int .i64 m.Plan.Ramped, D.int .u64 m.Plan.Up, D.int .u64 m.Plan.Sup, D.sl false 1 (List.map (eInt .i64) m.Plan.Pen), D.sl false 1 (List.map (eInt .i64) m.Plan.Changes), D.sl false 1 (List.map (eInt .i64) m.ID), D.sl false 1 (List.map (eInt .u8) m.Session), D.sl false 1 (List.map (eInt .u8) m.Payload)]]) (args := [D.agg [D.int .i64 p.Epoch, D.int .i64 p.Ballot, D.int .i64 p.Phase, D.int .i64 p.Own.Epoch, D.int .i64 p.Own.Target, D.int .i64 p.Own.Prev, D.int .i64 p.Own.Spill, D.int .i64 p.Own.Percent, D.int .i64 p.Own.Stamp, D.int .i64 p.Own.Since, D.int .i64 p.Own.Ramped, D.int .u64 p.Own.Up, D.int .u64 p.Own.Sup, D.sl false 1 (List.map (eInt .i64) p.Own.Pen), D.sl false 1 (List.map (eInt .i64) p.Own.Changes), D.int .i64 p.Best, D.int .i64 p.Value.Epoch, D.int .i64 p.Value.Target, D.int .i64 p.Value.Prev, D.int .i64 p.Value.Spill, D.int .i64 p.Value.Percent, D.int .i64 p.Value.Stamp, D.int .i64 p.Value.Since, D.int .i64 p.Value.Ramped, D.int .u64 p.Value.Up, D.int .u64 p.Value.Sup, D.sl false 1 (List.map (eInt .i64) p.Value.Pen), D.sl false 1 (List.map (eInt .i64) p.Value.Changes), D.int .u64 p.Promises, D.int .u64 p.Accepts], D.agg [D.int .i64 c.F_, D.int .i64 c.Deciders, D.int .i64 c.Targets, D.int .i64 c.Routers, D.int .i64 c.Observers, D.sl false 1 (List.map (eInt .i64) c.Tiers), D.int .i64 c.Every, D.int .i64 c.Wait, D.int .i64 c.Rise, D.int .i64 c.Fall, D.int .i64 c.Fresh, D.int .i64 c.L_, D.int .i64 c.M_, D.int .i64 c.Dwell, D.int .i64 c.D_, D.int .i64 c.W_, D.int .i64 c.B_, D.int .i64 c.Hit, D.int .i64 c.Suppress, D.int .i64 c.Reuse, D.int .i64 c.Half, D.int .i64 c.First, D.int .i64 c.Step, D.int .i64 c.StepTime, D.int .i64 c.S_, D.int .i64 c.Cap, D.int .i64 c.Span, D.int .i64 c.Room, D.int .i64 c.Tries, D.int .i64 c.Retry], D.agg [D.int .i64 m.Kind, D.int .i64 m.From, D.int .i64 m.To, D.int .i64 m.Epoch, D.int .i64 m.Ballot, D.int .i64 m.Accepted, D.int .i64 m.Nonce, D.int .i64 m.Time, D.int .u64 m.Up, D.int .i64 m.Code, D.bool m.HasPlan, D.int .i64 m.Plan.Epoch, D.int .i64 m.Plan.Target, D.int .i64 m.Plan.Prev, D.int .i64 m.Plan.Spill, D.int .i64 m.Plan.Percent, D.int .i64 m.Plan.Stamp, D.int .i64 m.Plan.Since, D.int .i64 m.Plan.Ramped, D.int .u64 m.Plan.Up, D.int .u64 m.Plan.Sup, D.sl false 1 (List.map (eInt .i64) m.Plan.Pen), D.sl false 1 (List.map (eInt .i64) m.Plan.Changes), D.sl false 1 (List.map (eInt .i64) m.ID), D.sl false 1 (List.map (eInt .u8) m.Session), D.sl false 1 (List.map (eInt .u8) m.Payload)]]) (fun y2 => D.agg [D.int .i64 y2.Epoch, D.int .i64 y2.Ballot, D.int .i64 y2.Phase, D.int .i64 y2.Own.Epoch, D.int .i64 y2.Own.Target, D.int .i64 y2.Own.Prev, D.int .i64 y2.Own.Spill, D.int .i64 y2.Own.Percent, D.int .i64 y2.Own.Stamp, D.int .i64 y2.Own.Since, D.int .i64 y2.Own.Ramped, D.int .u64 y2.Own.Up, D.int .u64 y2.Own.Sup, D.sl false 1 (List.map (eInt .i64) y2.Own.Pen), D.sl false 1 (List.map (eInt .i64) y2.Own.Changes), D.int .i64 y2.Best, D.int .i64 y2.Value.Epoch, D.int .i64 y2.Value.Target, D.int .i64 y2.Value.Prev, D.int .i64 y2.Value.Spill, D.int .i64 y2.Value.Percent, D.int .i64 y2.Value.Stamp, D.int .i64 y2.Value.Since, D.int .i64 y2.Value.Ramped, D.int .u64 y2.Value.Up, D.int .u64 y2.Value.Sup, D.sl false 1 (List.map (eInt .i64) y2.Value.Pen), D.sl false 1 (List.map (eInt .i64) y2.Value.Changes), D.int .u64 y2.Promises, D.int .u64 y2.Accepts]) (fun y2 => []) h (by kernel_rfl) ⟨rfl, rfl⟩ ok2 (fun y2 h2 h => ?_)
  refine adv_ok hm 14 _ ?_
  have ok3 := fun (y : GProp) (hy : proposer_Accepted p c m = some y) => proposer_Accepted_ok hy
  refine p_callE [] (args1 := [D.agg [D.int .i64 p.Epoch, D.int .i64 p.Ballot, D.int .i64 p.Phase, D.int .i64 p.Own.Epoch, D.int .i64 p.Own.Target, D.int .i64 p.Own.Prev, D.int .i64 p.Own.Spill, D.int .i64 p.Own.Percent, D.int .i64 p.Own.Stamp, D.int .i64 p.Own.Since, D.int .i64 p.Own.Ramped, D.int .u64 p.Own.Up, D.int .u64 p.Own.Sup, D.sl false 1 (List.map (eInt .i64) p.Own.Pen), D.sl false 1 (List.map (eInt .i64) p.Own.Changes), D.int .i64 p.Best, D.int .i64 p.Value.Epoch, D.int .i64 p.Value.Target, D.int .i64 p.Value.Prev, D.int .i64 p.Value.Spill, D.int .i64 p.Value.Percent, D.int .i64 p.Value.Stamp, D.int .i64 p.Value.Since, D.int .i64 p.Value.Ramped, D.int .u64 p.Value.Up, D.int .u64 p.Value.Sup, D.sl false 1 (List.map (eInt .i64) p.Value.Pen), D.sl false 1 (List.map (eInt .i64) p.Value.Changes), D.int .u64 p.Promises, D.int .u64 p.Accepts], D.agg [D.int .i64 c.F_, D.int .i64 c.Deciders, D.int .i64 c.Targets, D.int .i64 c.Routers, D.int .i64 c.Observers, D.sl false 1 (List.map (eInt .i64) c.Tiers), D.int .i64 c.Every, D.int .i64 c.Wait, D.int .i64 c.Rise, D.int .i64 c.Fall, D.int .i64 c.Fresh, D.int .i64 c.L_, D.int .i64 c.M_, D.int .i64 c.Dwell, D.int .i64 c.D_, D.int .i64 c.W_, D.int .i64 c.B_, D.int .i64 c.Hit, D.int .i64 c.Suppress, D.int .i64 c.Reuse, D.int .i64 c.Half, D.int .i64 c.First, D.int .i64 c.Step, D.int .i64 c.StepTime, D.int .i64 c.S_, D.int .i64 c.Cap, D.int .i64 c.Span, D.int .i64 c.Room, D.int .i64 c.Tries, D.int .i64 c.Retry], D.agg [D.int .i64 m.Kind, D.int .i64 m.From, D.int .i64 m.To, D.int .i64 m.Epoch, D.int .i64 m.Ballot, D.int .i64 m.Accepted, D.int .i64 m.Nonce, D.int .i64 m.Time, D.int .u64 m.Up, D.int .i64 m.Code, D.bool m.HasPlan, D.int .i64 m.Plan.Epoch, D.int .i64 m.Plan.Target, D.int .i64 m.Plan.Prev, D.int .i64 m.Plan.Spill, D.int .i64 m.Plan.Percent, D.int .i64 m.Plan.Stamp, D.int .i64 m.Plan.Since, D.int .i64 m.Plan.Ramped, D.int .u64 m.Plan.Up, D.int .u64 m.Plan.Sup, D.sl false 1 (List.map (eInt .i64) m.Plan.Pen), D.sl false 1 (List.map (eInt .i64) m.Plan.Changes), D.sl false 1 (List.map (eInt .i64) m.ID), D.sl false 1 (List.map (eInt .u8) m.Session), D.sl false 1 (List.map (eInt .u8) m.Payload)]]) (args := [D.agg [D.int .i64 p.Epoch, D.int .i64 p.Ballot, D.int .i64 p.Phase, D.int .i64 p.Own.Epoch, D.int .i64 p.Own.Target, D.int .i64 p.Own.Prev, D.int .i64 p.Own.Spill, D.int .i64 p.Own.Percent, D.int .i64 p.Own.Stamp, D.int .i64 p.Own.Since, D.int .i64 p.Own.Ramped, D.int .u64 p.Own.Up, D.int .u64 p.Own.Sup, D.sl false 1 (List.map (eInt .i64) p.Own.Pen), D.sl false 1 (List.map (eInt .i64) p.Own.Changes), D.int .i64 p.Best, D.int .i64 p.Value.Epoch, D.int .i64 p.Value.Target, D.int .i64 p.Value.Prev, D.int .i64 p.Value.Spill, D.int .i64 p.Value.Percent, D.int .i64 p.Value.Stamp, D.int .i64 p.Value.Since, D.int .i64 p.Value.Ramped, D.int .u64 p.Value.Up, D.int .u64 p.Value.Sup, D.sl false 1 (List.map (eInt .i64) p.Value.Pen), D.sl false 1 (List.map (eInt .i64) p.Value.Changes), D.int .u64 p.Promises, D.int .u64 p.Accepts], D.agg [D.int .i64 c.F_, D.int .i64 c.Deciders, D.int .i64 c.Targets, D.int .i64 c.Routers, D.int .i64 c.Observers, D.sl false 1 (List.map (eInt .i64) c.Tiers), D.int .i64 c.Every, D.int .i64 c.Wait, D.int .i64 c.Rise, D.int .i64 c.Fall, D.int .i64 c.Fresh, D.int .i64 c.L_, D.int .i64 c.M_, D.int .i64 c.Dwell, D.int .i64 c.D_, D.int .i64 c.W_, D.int .i64 c.B_, D.int .i64 c.Hit, D.int .i64 c.Suppress, D.int .i64 c.Reuse, D.int .i64 c.Half, D.int .i64 c.First, D.int .i64 c.Step, D.int .i64 c.StepTime, D.int .i64 c.S_, D.int .i64 c.Cap, D.int .i64 c.Span, D.int .i64 c.Room, D.int .i64 c.Tries, D.int .i64 c.Retry], D.agg [D.int .i64 m.Kind, D.int .i64 m.From, D.int .i64 m.To, D.int .i64 m.Epoch, D.int .i64 m.Ballot, D.int .i64 m.Accepted, D.int .i64 m.Nonce, D.int .i64 m.Time, D.int .u64 m.Up, D.int .i64 m.Code, D.bool m.HasPlan, D.int .i64 m.Plan.Epoch, D.int .i64 m.Plan.Target, D.int .i64 m.Plan.Prev, D.int .i64 m.Plan.Spill, D.int .i64 m.Plan.Percent, D.int .i64 m.Plan.Stamp, D.int .i64 m.Plan.Since, D.int .i64 m.Plan.Ramped, D.int .u64 m.Plan.Up, D.int .u64 m.Plan.Sup, D.sl false 1 (List.map (eInt .i64) m.Plan.Pen), D.sl false 1 (List.map (eInt .i64) m.Plan.Changes), D.sl false 1 (List.map (eInt .i64) m.ID), D.sl false 1 (List.map (eInt .u8) m.Session), D.sl false 1 (List.map (eInt .u8) m.Payload)]]) (fun y3 => D.agg [D.int .i64 y3.Epoch, D.int .i64 y3.Ballot, D.int .i64 y3.Phase, D.int .i64 y3.Own.Epoch, D.int .i64 y3.Own.Target, D.int .i64 y3.Own.Prev, D.int .i64 y3.Own.Spill, D.int .i64 y3.Own.Percent, D.int .i64 y3.Own.Stamp, D.int .i64 y3.Own.Since, D.int .i64 y3.Own.Ramped, D.int .u64 y3.Own.Up, D.int .u64 y3.Own.Sup, D.sl false 1 (List.map (eInt .i64) y3.Own.Pen), D.sl false 1 (List.map (eInt .i64) y3.Own.Changes), D.int .i64 y3.Best, D.int .i64 y3.Value.Epoch, D.int .i64 y3.Value.Target, D.int .i64 y3.Value.Prev, D.int .i64 y3.Value.Spill, D.int .i64 y3.Value.Percent, D.int .i64 y3.Value.Stamp, D.int .i64 y3.Value.Since, D.int .i64 y3.Value.Ramped, D.int .u64 y3.Value.Up, D.int .u64 y3.Value.Sup, D.sl false 1 (List.map (eInt .i64) y3.Value.Pen), D.sl false 1 (List.map (eInt .i64) y3.Value.Changes), D.int .u64 y3.Promises, D.int .u64 y3.Accepts]) (fun y3 => []) h (by kernel_rfl) ⟨rfl, rfl⟩ ok3 (fun y3 h3 h => ?_)
  refine adv_ok hm 16 _ ?_
  refine p_split h (by kernel_rfl) (fun h4 h => ?_) (fun h4 h => ?_)
  · -- true
    refine adv_ok hm 14 _ ?_
    refine p_split h (by kernel_rfl) (fun h5 h => ?_) (fun h5 h => ?_)
    · -- true
      refine adv_ok hm 9 _ ?_
      refine p_split h (by kernel_rfl) (fun h6 h => ?_) (fun h6 h => ?_)
      · -- true
        refine adv_ok hm 20 _ ?_
        exact r_cut 1976 [] (m' := (law16_ProposerOther_2M y1 (decide ((m.From : Int) ≤ (IntKind.i64.wrap ((2 : Int) * (mnI (mxI c.F_ 0) 3))))) p c m y2 y3)) (by kernel_rfl) (law16_ProposerOther_2_ok h)
      · -- false
        refine adv_ok hm 18 _ ?_
        exact r_cut 1976 [] (m' := (law16_ProposerOther_2M y1 false p c m y2 y3)) (by kernel_rfl) (law16_ProposerOther_2_ok h)
    · -- false
      refine adv_ok hm 27 _ ?_
      exact r_cut 1976 [] (m' := (law16_ProposerOther_2M y1 false p c m y2 y3)) (by kernel_rfl) (law16_ProposerOther_2_ok h)
  · -- false
    refine adv_ok hm 40 _ ?_
    exact r_cut 1976 [] (m' := (law16_ProposerOther_2M y1 false p c m y2 y3)) (by kernel_rfl) (law16_ProposerOther_2_ok h)
end Go.RX.L

set_option linter.unusedSimpArgs false
set_option linter.unusedVariables false
set_option maxRecDepth 100000
namespace Go.RX.L
open Go Go.RX Go.Proofs
theorem law16_ProposerOther_of_t2 {n : Nat} {ds : List D} (h : wtF Try.prog (n + 1) 2 ds) : ∃ x : Int, ds = (eInt .i64) x ∧ inK .i64 x := by
  obtain ⟨m, rfl, o⟩ := wt_int (k := .i64) (by kernel_rfl) h
  exact ⟨m, rfl, o⟩
theorem law16_ProposerOther_of_t3 {n : Nat} {ds : List D} (h : wtF Try.prog (n + 1) 3 ds) : ∃ x : Int, ds = (eInt .i64) x ∧ inK .i64 x := by
  obtain ⟨m, rfl, o⟩ := wt_int (k := .i64) (by kernel_rfl) h
  exact ⟨m, rfl, o⟩
theorem law16_ProposerOther_of_t25 {n : Nat} {ds : List D} (h : wtF Try.prog (n + 1) 25 ds) : ∃ x : Int, ds = (eInt .u64) x ∧ inK .u64 x := by
  obtain ⟨m, rfl, o⟩ := wt_int (k := .u64) (by kernel_rfl) h
  exact ⟨m, rfl, o⟩
theorem law16_ProposerOther_of_t22 {n : Nat} {ds : List D} (h : wtF Try.prog (n + 2) 22 ds) : ∃ x : List Int, ds = (eSl 1 (eInt .i64)) x ∧ (x.length * 8 ≤ reachBytes ∧ ∀ y ∈ x, inK .i64 y) := by
  obtain ⟨rows, rfl, o, w⟩ := wt_slice (n := n + 1) (e := 3) (sz := 1) (by_ := 8) (by kernel_rfl) (by kernel_rfl) (by kernel_rfl) h
  obtain ⟨l, rfl, q⟩ := wt_rows (en := (eInt .i64)) (Ok := fun y => inK .i64 y) (fun r hr => law16_ProposerOther_of_t3 (n := n + 0) hr) rows w
  exact ⟨l, rfl, by simpa using o, q⟩
theorem law16_ProposerOther_of_t26 {n : Nat} {ds : List D} (h : wtF Try.prog (n + 2) 26 ds) : ∃ x : List Int, ds = (eSl 1 (eInt .i64)) x ∧ (x.length * 8 ≤ reachBytes ∧ ∀ y ∈ x, inK .i64 y) := by
  obtain ⟨rows, rfl, o, w⟩ := wt_slice (n := n + 1) (e := 2) (sz := 1) (by_ := 8) (by kernel_rfl) (by kernel_rfl) (by kernel_rfl) h
  obtain ⟨l, rfl, q⟩ := wt_rows (en := (eInt .i64)) (Ok := fun y => inK .i64 y) (fun r hr => law16_ProposerOther_of_t2 (n := n + 0) hr) rows w
  exact ⟨l, rfl, by simpa using o, q⟩
theorem law16_ProposerOther_of_t28 {n : Nat} {ds : List D} (h : wtF Try.prog (n + 3) 28 ds) : ∃ x : Plan, ds = Plan.enc x ∧ x.Ok := by
  have h0 := wt_struct (n := n + 2) (ts := [2, 3, 3, 3, 3, 2, 2, 2, 25, 25, 22, 26]) (by kernel_rfl) h
  obtain ⟨a0, b0, rfl, w0, h1⟩ := wtL_cons h0
  obtain ⟨x0, rfl, o0⟩ := law16_ProposerOther_of_t2 (n := n + 1) w0
  obtain ⟨a1, b1, rfl, w1, h2⟩ := wtL_cons h1
  obtain ⟨x1, rfl, o1⟩ := law16_ProposerOther_of_t3 (n := n + 1) w1
  obtain ⟨a2, b2, rfl, w2, h3⟩ := wtL_cons h2
  obtain ⟨x2, rfl, o2⟩ := law16_ProposerOther_of_t3 (n := n + 1) w2
  obtain ⟨a3, b3, rfl, w3, h4⟩ := wtL_cons h3
  obtain ⟨x3, rfl, o3⟩ := law16_ProposerOther_of_t3 (n := n + 1) w3
  obtain ⟨a4, b4, rfl, w4, h5⟩ := wtL_cons h4
  obtain ⟨x4, rfl, o4⟩ := law16_ProposerOther_of_t3 (n := n + 1) w4
  obtain ⟨a5, b5, rfl, w5, h6⟩ := wtL_cons h5
  obtain ⟨x5, rfl, o5⟩ := law16_ProposerOther_of_t2 (n := n + 1) w5
  obtain ⟨a6, b6, rfl, w6, h7⟩ := wtL_cons h6
  obtain ⟨x6, rfl, o6⟩ := law16_ProposerOther_of_t2 (n := n + 1) w6
  obtain ⟨a7, b7, rfl, w7, h8⟩ := wtL_cons h7
  obtain ⟨x7, rfl, o7⟩ := law16_ProposerOther_of_t2 (n := n + 1) w7
  obtain ⟨a8, b8, rfl, w8, h9⟩ := wtL_cons h8
  obtain ⟨x8, rfl, o8⟩ := law16_ProposerOther_of_t25 (n := n + 1) w8
  obtain ⟨a9, b9, rfl, w9, h10⟩ := wtL_cons h9
  obtain ⟨x9, rfl, o9⟩ := law16_ProposerOther_of_t25 (n := n + 1) w9
  obtain ⟨a10, b10, rfl, w10, h11⟩ := wtL_cons h10
  obtain ⟨x10, rfl, o10⟩ := law16_ProposerOther_of_t22 (n := n + 0) w10
  obtain ⟨a11, b11, rfl, w11, h12⟩ := wtL_cons h11
  obtain ⟨x11, rfl, o11⟩ := law16_ProposerOther_of_t26 (n := n + 0) w11
  obtain rfl := wtL_nil h12
  exact ⟨⟨x0, x1, x2, x3, x4, x5, x6, x7, x8, x9, x10, x11⟩, rfl, o0, o1, o2, o3, o4, o5, o6, o7, o8, o9, o10, o11⟩
theorem law16_ProposerOther_of_t32 {n : Nat} {ds : List D} (h : wtF Try.prog (n + 4) 32 ds) : ∃ x : GProp, ds = GProp.enc x ∧ x.Ok := by
  have h0 := wt_struct (n := n + 3) (ts := [2, 2, 3, 28, 2, 28, 25, 25]) (by kernel_rfl) h
  obtain ⟨a0, b0, rfl, w0, h1⟩ := wtL_cons h0
  obtain ⟨x0, rfl, o0⟩ := law16_ProposerOther_of_t2 (n := n + 2) w0
  obtain ⟨a1, b1, rfl, w1, h2⟩ := wtL_cons h1
  obtain ⟨x1, rfl, o1⟩ := law16_ProposerOther_of_t2 (n := n + 2) w1
  obtain ⟨a2, b2, rfl, w2, h3⟩ := wtL_cons h2
  obtain ⟨x2, rfl, o2⟩ := law16_ProposerOther_of_t3 (n := n + 2) w2
  obtain ⟨a3, b3, rfl, w3, h4⟩ := wtL_cons h3
  obtain ⟨x3, rfl, o3⟩ := law16_ProposerOther_of_t28 (n := n + 0) w3
  obtain ⟨a4, b4, rfl, w4, h5⟩ := wtL_cons h4
  obtain ⟨x4, rfl, o4⟩ := law16_ProposerOther_of_t2 (n := n + 2) w4
  obtain ⟨a5, b5, rfl, w5, h6⟩ := wtL_cons h5
  obtain ⟨x5, rfl, o5⟩ := law16_ProposerOther_of_t28 (n := n + 0) w5
  obtain ⟨a6, b6, rfl, w6, h7⟩ := wtL_cons h6
  obtain ⟨x6, rfl, o6⟩ := law16_ProposerOther_of_t25 (n := n + 2) w6
  obtain ⟨a7, b7, rfl, w7, h8⟩ := wtL_cons h7
  obtain ⟨x7, rfl, o7⟩ := law16_ProposerOther_of_t25 (n := n + 2) w7
  obtain rfl := wtL_nil h8
  exact ⟨⟨x0, x1, x2, x3, x4, x5, x6, x7⟩, rfl, o0, o1, o2, o3, o4, o5, o6, o7⟩
theorem law16_ProposerOther_of_t24 {n : Nat} {ds : List D} (h : wtF Try.prog (n + 3) 24 ds) : ∃ x : Config, ds = Config.enc x ∧ x.Ok := by
  have h0 := wt_struct (n := n + 2) (ts := [3, 3, 3, 3, 3, 22, 2, 2, 3, 3, 2, 2, 2, 2, 2, 2, 3, 3, 3, 3, 2, 3, 3, 2, 2, 3, 2, 3, 3, 2]) (by kernel_rfl) h
  obtain ⟨a0, b0, rfl, w0, h1⟩ := wtL_cons h0
  obtain ⟨x0, rfl, o0⟩ := law16_ProposerOther_of_t3 (n := n + 1) w0
  obtain ⟨a1, b1, rfl, w1, h2⟩ := wtL_cons h1
  obtain ⟨x1, rfl, o1⟩ := law16_ProposerOther_of_t3 (n := n + 1) w1
  obtain ⟨a2, b2, rfl, w2, h3⟩ := wtL_cons h2
  obtain ⟨x2, rfl, o2⟩ := law16_ProposerOther_of_t3 (n := n + 1) w2
  obtain ⟨a3, b3, rfl, w3, h4⟩ := wtL_cons h3
  obtain ⟨x3, rfl, o3⟩ := law16_ProposerOther_of_t3 (n := n + 1) w3
  obtain ⟨a4, b4, rfl, w4, h5⟩ := wtL_cons h4
  obtain ⟨x4, rfl, o4⟩ := law16_ProposerOther_of_t3 (n := n + 1) w4
  obtain ⟨a5, b5, rfl, w5, h6⟩ := wtL_cons h5
  obtain ⟨x5, rfl, o5⟩ := law16_ProposerOther_of_t22 (n := n + 0) w5
  obtain ⟨a6, b6, rfl, w6, h7⟩ := wtL_cons h6
  obtain ⟨x6, rfl, o6⟩ := law16_ProposerOther_of_t2 (n := n + 1) w6
  obtain ⟨a7, b7, rfl, w7, h8⟩ := wtL_cons h7
  obtain ⟨x7, rfl, o7⟩ := law16_ProposerOther_of_t2 (n := n + 1) w7
  obtain ⟨a8, b8, rfl, w8, h9⟩ := wtL_cons h8
  obtain ⟨x8, rfl, o8⟩ := law16_ProposerOther_of_t3 (n := n + 1) w8
  obtain ⟨a9, b9, rfl, w9, h10⟩ := wtL_cons h9
  obtain ⟨x9, rfl, o9⟩ := law16_ProposerOther_of_t3 (n := n + 1) w9
  obtain ⟨a10, b10, rfl, w10, h11⟩ := wtL_cons h10
  obtain ⟨x10, rfl, o10⟩ := law16_ProposerOther_of_t2 (n := n + 1) w10
  obtain ⟨a11, b11, rfl, w11, h12⟩ := wtL_cons h11
  obtain ⟨x11, rfl, o11⟩ := law16_ProposerOther_of_t2 (n := n + 1) w11
  obtain ⟨a12, b12, rfl, w12, h13⟩ := wtL_cons h12
  obtain ⟨x12, rfl, o12⟩ := law16_ProposerOther_of_t2 (n := n + 1) w12
  obtain ⟨a13, b13, rfl, w13, h14⟩ := wtL_cons h13
  obtain ⟨x13, rfl, o13⟩ := law16_ProposerOther_of_t2 (n := n + 1) w13
  obtain ⟨a14, b14, rfl, w14, h15⟩ := wtL_cons h14
  obtain ⟨x14, rfl, o14⟩ := law16_ProposerOther_of_t2 (n := n + 1) w14
  obtain ⟨a15, b15, rfl, w15, h16⟩ := wtL_cons h15
  obtain ⟨x15, rfl, o15⟩ := law16_ProposerOther_of_t2 (n := n + 1) w15
  obtain ⟨a16, b16, rfl, w16, h17⟩ := wtL_cons h16
  obtain ⟨x16, rfl, o16⟩ := law16_ProposerOther_of_t3 (n := n + 1) w16
  obtain ⟨a17, b17, rfl, w17, h18⟩ := wtL_cons h17
  obtain ⟨x17, rfl, o17⟩ := law16_ProposerOther_of_t3 (n := n + 1) w17
  obtain ⟨a18, b18, rfl, w18, h19⟩ := wtL_cons h18
  obtain ⟨x18, rfl, o18⟩ := law16_ProposerOther_of_t3 (n := n + 1) w18
  obtain ⟨a19, b19, rfl, w19, h20⟩ := wtL_cons h19
  obtain ⟨x19, rfl, o19⟩ := law16_ProposerOther_of_t3 (n := n + 1) w19
  obtain ⟨a20, b20, rfl, w20, h21⟩ := wtL_cons h20
  obtain ⟨x20, rfl, o20⟩ := law16_ProposerOther_of_t2 (n := n + 1) w20
  obtain ⟨a21, b21, rfl, w21, h22⟩ := wtL_cons h21
  obtain ⟨x21, rfl, o21⟩ := law16_ProposerOther_of_t3 (n := n + 1) w21
  obtain ⟨a22, b22, rfl, w22, h23⟩ := wtL_cons h22
  obtain ⟨x22, rfl, o22⟩ := law16_ProposerOther_of_t3 (n := n + 1) w22
  obtain ⟨a23, b23, rfl, w23, h24⟩ := wtL_cons h23
  obtain ⟨x23, rfl, o23⟩ := law16_ProposerOther_of_t2 (n := n + 1) w23
  obtain ⟨a24, b24, rfl, w24, h25⟩ := wtL_cons h24
  obtain ⟨x24, rfl, o24⟩ := law16_ProposerOther_of_t2 (n := n + 1) w24
  obtain ⟨a25, b25, rfl, w25, h26⟩ := wtL_cons h25
  obtain ⟨x25, rfl, o25⟩ := law16_ProposerOther_of_t3 (n := n + 1) w25
  obtain ⟨a26, b26, rfl, w26, h27⟩ := wtL_cons h26
  obtain ⟨x26, rfl, o26⟩ := law16_ProposerOther_of_t2 (n := n + 1) w26
  obtain ⟨a27, b27, rfl, w27, h28⟩ := wtL_cons h27
  obtain ⟨x27, rfl, o27⟩ := law16_ProposerOther_of_t3 (n := n + 1) w27
  obtain ⟨a28, b28, rfl, w28, h29⟩ := wtL_cons h28
  obtain ⟨x28, rfl, o28⟩ := law16_ProposerOther_of_t3 (n := n + 1) w28
  obtain ⟨a29, b29, rfl, w29, h30⟩ := wtL_cons h29
  obtain ⟨x29, rfl, o29⟩ := law16_ProposerOther_of_t2 (n := n + 1) w29
  obtain rfl := wtL_nil h30
  exact ⟨⟨x0, x1, x2, x3, x4, x5, x6, x7, x8, x9, x10, x11, x12, x13, x14, x15, x16, x17, x18, x19, x20, x21, x22, x23, x24, x25, x26, x27, x28, x29⟩, rfl, o0, o1, o2, o3, o4, o5, o6, o7, o8, o9, o10, o11, o12, o13, o14, o15, o16, o17, o18, o19, o20, o21, o22, o23, o24, o25, o26, o27, o28, o29⟩
theorem law16_ProposerOther_of_t34 {n : Nat} {ds : List D} (h : wtF Try.prog (n + 1) 34 ds) : ∃ x : Int, ds = (eInt .i64) x ∧ inK .i64 x := by
  obtain ⟨m, rfl, o⟩ := wt_int (k := .i64) (by kernel_rfl) h
  exact ⟨m, rfl, o⟩
theorem law16_ProposerOther_of_t4 {n : Nat} {ds : List D} (h : wtF Try.prog (n + 1) 4 ds) : ∃ x : Bool, ds = eBool x ∧ True := by
  obtain ⟨m, rfl⟩ := wt_bool (by kernel_rfl) h
  exact ⟨m, rfl, trivial⟩
theorem law16_ProposerOther_of_t5 {n : Nat} {ds : List D} (h : wtF Try.prog (n + 1) 5 ds) : ∃ x : Int, ds = (eInt .u8) x ∧ inK .u8 x := by
  obtain ⟨m, rfl, o⟩ := wt_int (k := .u8) (by kernel_rfl) h
  exact ⟨m, rfl, o⟩
theorem law16_ProposerOther_of_t35 {n : Nat} {ds : List D} (h : wtF Try.prog (n + 2) 35 ds) : ∃ x : List Int, ds = (eSl 1 (eInt .u8)) x ∧ (x.length * 1 ≤ reachBytes ∧ ∀ y ∈ x, inK .u8 y) := by
  obtain ⟨rows, rfl, o, w⟩ := wt_slice (n := n + 1) (e := 5) (sz := 1) (by_ := 1) (by kernel_rfl) (by kernel_rfl) (by kernel_rfl) h
  obtain ⟨l, rfl, q⟩ := wt_rows (en := (eInt .u8)) (Ok := fun y => inK .u8 y) (fun r hr => law16_ProposerOther_of_t5 (n := n + 0) hr) rows w
  exact ⟨l, rfl, by simpa using o, q⟩
theorem law16_ProposerOther_of_t37 {n : Nat} {ds : List D} (h : wtF Try.prog (n + 4) 37 ds) : ∃ x : Msg, ds = Msg.enc x ∧ x.Ok := by
  have h0 := wt_struct (n := n + 3) (ts := [34, 3, 3, 2, 2, 2, 2, 2, 25, 3, 4, 28, 26, 35, 35]) (by kernel_rfl) h
  obtain ⟨a0, b0, rfl, w0, h1⟩ := wtL_cons h0
  obtain ⟨x0, rfl, o0⟩ := law16_ProposerOther_of_t34 (n := n + 2) w0
  obtain ⟨a1, b1, rfl, w1, h2⟩ := wtL_cons h1
  obtain ⟨x1, rfl, o1⟩ := law16_ProposerOther_of_t3 (n := n + 2) w1
  obtain ⟨a2, b2, rfl, w2, h3⟩ := wtL_cons h2
  obtain ⟨x2, rfl, o2⟩ := law16_ProposerOther_of_t3 (n := n + 2) w2
  obtain ⟨a3, b3, rfl, w3, h4⟩ := wtL_cons h3
  obtain ⟨x3, rfl, o3⟩ := law16_ProposerOther_of_t2 (n := n + 2) w3
  obtain ⟨a4, b4, rfl, w4, h5⟩ := wtL_cons h4
  obtain ⟨x4, rfl, o4⟩ := law16_ProposerOther_of_t2 (n := n + 2) w4
  obtain ⟨a5, b5, rfl, w5, h6⟩ := wtL_cons h5
  obtain ⟨x5, rfl, o5⟩ := law16_ProposerOther_of_t2 (n := n + 2) w5
  obtain ⟨a6, b6, rfl, w6, h7⟩ := wtL_cons h6
  obtain ⟨x6, rfl, o6⟩ := law16_ProposerOther_of_t2 (n := n + 2) w6
  obtain ⟨a7, b7, rfl, w7, h8⟩ := wtL_cons h7
  obtain ⟨x7, rfl, o7⟩ := law16_ProposerOther_of_t2 (n := n + 2) w7
  obtain ⟨a8, b8, rfl, w8, h9⟩ := wtL_cons h8
  obtain ⟨x8, rfl, o8⟩ := law16_ProposerOther_of_t25 (n := n + 2) w8
  obtain ⟨a9, b9, rfl, w9, h10⟩ := wtL_cons h9
  obtain ⟨x9, rfl, o9⟩ := law16_ProposerOther_of_t3 (n := n + 2) w9
  obtain ⟨a10, b10, rfl, w10, h11⟩ := wtL_cons h10
  obtain ⟨x10, rfl, o10⟩ := law16_ProposerOther_of_t4 (n := n + 2) w10
  obtain ⟨a11, b11, rfl, w11, h12⟩ := wtL_cons h11
  obtain ⟨x11, rfl, o11⟩ := law16_ProposerOther_of_t28 (n := n + 0) w11
  obtain ⟨a12, b12, rfl, w12, h13⟩ := wtL_cons h12
  obtain ⟨x12, rfl, o12⟩ := law16_ProposerOther_of_t26 (n := n + 1) w12
  obtain ⟨a13, b13, rfl, w13, h14⟩ := wtL_cons h13
  obtain ⟨x13, rfl, o13⟩ := law16_ProposerOther_of_t35 (n := n + 1) w13
  obtain ⟨a14, b14, rfl, w14, h15⟩ := wtL_cons h14
  obtain ⟨x14, rfl, o14⟩ := law16_ProposerOther_of_t35 (n := n + 1) w14
  obtain rfl := wtL_nil h15
  exact ⟨⟨x0, x1, x2, x3, x4, x5, x6, x7, x8, x9, x10, x11, x12, x13, x14⟩, rfl, o0, o1, o2, o3, o4, o5, o6, o7, o8, o9, o10, o11, o12, o13, o14⟩
theorem law16_ProposerOther_sound (H : ∀ (p : GProp) (c : Config) (m : Msg), p.Ok → c.Ok → m.Ok → law16_ProposerOther p c m = some true) : ∀ xs, wtA Try.prog Try.f6.params.toList xs → Sound E 6 xs [] fun d _ => d = .bool true := by
  intro xs h
  have h0 : wtA Try.prog [32, 24, 37] xs := h
  obtain ⟨d0, r0, rfl, w0, h1⟩ := wtA_cons h0
  obtain ⟨c0, rfl, v0⟩ := wtP_agg (by kernel_rfl) w0
  obtain ⟨x0, rfl, o0⟩ := law16_ProposerOther_of_t32 (n := 2) v0
  obtain ⟨d1, r1, rfl, w1, h2⟩ := wtA_cons h1
  obtain ⟨c1, rfl, v1⟩ := wtP_agg (by kernel_rfl) w1
  obtain ⟨x1, rfl, o1⟩ := law16_ProposerOther_of_t24 (n := 3) v1
  obtain ⟨d2, r2, rfl, w2, h3⟩ := wtA_cons h2
  obtain ⟨c2, rfl, v2⟩ := wtP_agg (by kernel_rfl) w2
  obtain ⟨x2, rfl, o2⟩ := law16_ProposerOther_of_t37 (n := 2) v2
  obtain rfl := wtA_nil h3
  exact (law16_ProposerOther_ok (H x0 x1 x2 o0 o1 o2)).mono fun d s h => h.1
end Go.RX.L

set_option linter.unusedSimpArgs false
set_option linter.unusedVariables false
namespace Go.RX.L
open Go Go.RX

theorem or_again (g k : Nat) : (g ||| 2 ^ k) ||| 2 ^ k = g ||| 2 ^ k := by rw [Nat.or_assoc, Nat.or_self]
theorem orP_again (g : Int) (k : Nat) : orP (orP g k) k = orP g k := by
  unfold orP
  rw [Int.toNat_natCast, or_again]

theorem to_false {p : GProp} {c : Config} {m : Msg} {k f : Int} (h : ¬ (m.Epoch = p.Epoch ∧ m.Ballot = p.Ballot ∧ m.From ≥ 0 ∧ m.From ≤ 2 * (fN c : Int))) : toP p c m k f = false := by
  cases ht : toP p c m k f with
  | false => rfl
  | true =>
    simp only [toP, Bool.and_eq_true, decide_eq_true_eq] at ht
    exact absurd ⟨ht.2.2.1, ht.2.2.2.1, ht.2.2.2.2.1, ht.2.2.2.2.2⟩ h

theorem promise_other {p : GProp} {c : Config} {m : Msg} (h : ¬ (m.Epoch = p.Epoch ∧ m.Ballot = p.Ballot ∧ m.From ≥ 0 ∧ m.From ≤ 2 * (fN c : Int))) : promiseP p c m = p := by
  unfold promiseP; rw [to_false h]; rfl
theorem accepted_other {p : GProp} {c : Config} {m : Msg} (h : ¬ (m.Epoch = p.Epoch ∧ m.Ballot = p.Ballot ∧ m.From ≥ 0 ∧ m.From ≤ 2 * (fN c : Int))) : acceptedP p c m = p := by
  unfold acceptedP; rw [to_false h]; rfl

/-- What a promise does, told out. -/
theorem promise_cases (p : GProp) (c : Config) (m : Msg) : promiseP p c m = p ∨
    (p.Phase = 1 ∧ toP p c m 5 1 = true ∧ wellP p m = true ∧ ∃ b v, (m.HasPlan = true → m.Accepted ≤ b) ∧ ((mostP c (orP p.Promises m.From.toNat).toNat = false ∧ promiseP p c m = ⟨p.Epoch, p.Ballot, p.Phase, p.Own, b, v, orP p.Promises m.From.toNat, p.Accepts⟩) ∨
      (∃ v', promiseP p c m = ⟨p.Epoch, p.Ballot, 2, p.Own, b, v', orP p.Promises m.From.toNat, p.Accepts⟩))) := by
  cases hc : toP p c m 5 1 && wellP p m with
  | false => left; unfold promiseP; rw [hc]; rfl
  | true =>
    right
    have e : promiseP p c m = st3 (st2 (st1 p m) m) c := by unfold promiseP; rw [hc]; rfl
    rw [e]
    simp only [Bool.and_eq_true] at hc
    have h1 : p.Phase = 1 := by
      have := hc.1
      simp only [toP, Bool.and_eq_true, decide_eq_true_eq] at this
      exact this.1
    refine ⟨h1, hc.1, hc.2, ?_⟩
    obtain ⟨b, v, q1, q2⟩ : ∃ b v, (m.HasPlan = true → m.Accepted ≤ b) ∧ st2 (st1 p m) m = ⟨p.Epoch, p.Ballot, p.Phase, p.Own, b, v, orP p.Promises m.From.toNat, p.Accepts⟩ := by
      unfold st2
      cases hd : m.HasPlan && decide (m.Accepted > (st1 p m).Best) with
      | true => exact ⟨m.Accepted, m.Plan, fun _ => by omega, rfl⟩
      | false =>
        refine ⟨p.Best, p.Value, fun hh => ?_, rfl⟩
        rw [hh, Bool.true_and, decide_eq_false_iff_not] at hd
        have : (st1 p m).Best = p.Best := rfl
        omega
    refine ⟨b, v, q1, ?_⟩
    rw [q2]
    unfold st3
    show (mostP c (orP p.Promises m.From.toNat).toNat = false ∧ (bif mostP c (orP p.Promises m.From.toNat).toNat then _ else _) = _) ∨ ∃ v', (bif mostP c (orP p.Promises m.From.toNat).toNat then _ else _) = _
    cases hm : mostP c (orP p.Promises m.From.toNat).toNat with
    | false => exact .inl ⟨rfl, rfl⟩
    | true => exact .inr ⟨_, rfl⟩

theorem promise_again (p : GProp) (c : Config) (m : Msg) : promiseP (promiseP p c m) c m = promiseP p c m := by
  rcases promise_cases p c m with h | ⟨h1, h2, h3, b, v, h4, ⟨h5, h6⟩ | ⟨v', h6⟩⟩
  · rw [h, h]
  · rw [h6]
    have t1 : toP (⟨p.Epoch, p.Ballot, p.Phase, p.Own, b, v, orP p.Promises m.From.toNat, p.Accepts⟩ : GProp) c m 5 1 = true := h2
    have t2 : wellP (⟨p.Epoch, p.Ballot, p.Phase, p.Own, b, v, orP p.Promises m.From.toNat, p.Accepts⟩ : GProp) m = true := h3
    unfold promiseP
    rw [t1, t2]
    have e1 : st1 (⟨p.Epoch, p.Ballot, p.Phase, p.Own, b, v, orP p.Promises m.From.toNat, p.Accepts⟩ : GProp) m = ⟨p.Epoch, p.Ballot, p.Phase, p.Own, b, v, orP p.Promises m.From.toNat, p.Accepts⟩ := by
      unfold st1
      simp only [orP_again]
    rw [e1]
    have e2 : st2 (⟨p.Epoch, p.Ballot, p.Phase, p.Own, b, v, orP p.Promises m.From.toNat, p.Accepts⟩ : GProp) m = ⟨p.Epoch, p.Ballot, p.Phase, p.Own, b, v, orP p.Promises m.From.toNat, p.Accepts⟩ := by
      unfold st2
      cases hh : m.HasPlan with
      | false => rfl
      | true =>
        have := h4 hh
        rw [Bool.true_and, decide_eq_false (show ¬ m.Accepted > b by omega)]
        rfl
    rw [e2]
    unfold st3
    show (bif mostP c (orP p.Promises m.From.toNat).toNat then _ else _) = _
    rw [h5]
    rfl
  · rw [h6]
    unfold promiseP
    have : toP (⟨p.Epoch, p.Ballot, 2, p.Own, b, v', orP p.Promises m.From.toNat, p.Accepts⟩ : GProp) c m 5 1 = false := by simp [toP]
    rw [this]
    rfl

theorem accepted_again (p : GProp) (c : Config) (m : Msg) : acceptedP (acceptedP p c m) c m = acceptedP p c m := by
  cases ht : toP p c m 8 2 with
  | false =>
    have e : acceptedP p c m = p := by unfold acceptedP; rw [ht]; rfl
    rw [e, e]
  | true =>
    have e : acceptedP p c m = ⟨p.Epoch, p.Ballot, bif mostP c (orP p.Accepts m.From.toNat).toNat then 3 else p.Phase, p.Own, p.Best, p.Value, p.Promises, orP p.Accepts m.From.toNat⟩ := by unfold acceptedP; rw [ht]; rfl
    rw [e]
    cases hm : mostP c (orP p.Accepts m.From.toNat).toNat with
    | true =>
      unfold acceptedP
      rw [show toP (⟨p.Epoch, p.Ballot, bif true then 3 else p.Phase, p.Own, p.Best, p.Value, p.Promises, orP p.Accepts m.From.toNat⟩ : GProp) c m 8 2 = false by simp [toP]]
      rfl
    | false =>
      unfold acceptedP
      rw [show toP (⟨p.Epoch, p.Ballot, bif false then 3 else p.Phase, p.Own, p.Best, p.Value, p.Promises, orP p.Accepts m.From.toNat⟩ : GProp) c m 8 2 = true from ht]
      simp only [cond_true, orP_again, hm, cond_false]

theorem accepted_phase (p : GProp) (c : Config) (m : Msg) : p.Phase ≤ (acceptedP p c m).Phase ∧ (acceptedP p c m).Own = p.Own := by
  unfold acceptedP
  cases ht : toP p c m 8 2 with
  | false => exact ⟨by simp, rfl⟩
  | true =>
    have : p.Phase = 2 := by
      simp only [toP, Bool.and_eq_true, decide_eq_true_eq] at ht
      exact ht.1
    refine ⟨?_, rfl⟩
    show p.Phase ≤ (bif mostP c (orP p.Accepts m.From.toNat).toNat then 3 else p.Phase)
    cases mostP c (orP p.Accepts m.From.toNat).toNat <;> simp <;> omega
theorem promise_phase (p : GProp) (c : Config) (m : Msg) : p.Phase ≤ (promiseP p c m).Phase ∧ (promiseP p c m).Own = p.Own := by
  rcases promise_cases p c m with h | ⟨h1, h2, h3, b, v, h4, ⟨h5, h6⟩ | ⟨v', h6⟩⟩
  · rw [h]; exact ⟨by simp, rfl⟩
  · rw [h6]; exact ⟨by simp, rfl⟩
  · rw [h6]; exact ⟨by show p.Phase ≤ 2; omega, rfl⟩

theorem proposerOther (p : GProp) (c : Config) (m : Msg) (hp : p.Ok) (_ : c.Ok) (hm : m.Ok) : law16_ProposerOther p c m = some true := by
  obtain ⟨-, -, -, po, -, pv, pp, pa⟩ := hp
  obtain ⟨-, -, -, -, -, -, -, -, -, -, -, mp, -⟩ := hm
  have po := po.shrt
  have pv := pv.shrt
  have mp := mp.shrt
  obtain ⟨a1, a2⟩ := promise_shrt (c := c) po pv mp
  have hf := fN_le c
  have e2 : IntKind.i64.wrap ((2 : Int) * (fN c : Int)) = 2 * (fN c : Int) := wI64 (by omega) (by omega)
  have end1 : law16_ProposerOther_1 true false p c m (promiseP p c m) (acceptedP p c m) = some true := by
    unfold law16_ProposerOther_1
    rw [promise_ok _ c m (promise_u64 c m pp), accepted_ok _ c m (accepted_u64 c m pa), promise_again, accepted_again]
    simp only [Option.bind_some, cond_false, cond_true, beq_self_eq_true]
    rw [ref04_refl _ a2, (promise_phase p c m).2, ref04_refl _ po]
    have h1 : decide ((promiseP p c m).Phase ≥ p.Phase) = true := decide_eq_true (promise_phase p c m).1
    have h2 : decide ((acceptedP p c m).Phase ≥ p.Phase) = true := decide_eq_true (accepted_phase p c m).1
    simp only [Option.bind_some, cond_true, h1, h2]
  have yes : ∀ b, (b = false → ¬ (m.Epoch = p.Epoch ∧ m.Ballot = p.Ballot ∧ m.From ≥ 0 ∧ m.From ≤ 2 * (fN c : Int))) → law16_ProposerOther_2 true b p c m (promiseP p c m) (acceptedP p c m) = some true := fun b hb => by
    unfold law16_ProposerOther_2
    cases b with
    | true => exact end1
    | false =>
      have h := hb rfl
      have end1' := end1
      rw [promise_other h, accepted_other h] at end1' ⊢
      rw [rsame_ok p po pv]
      exact end1'
  unfold law16_ProposerOther
  rw [head_ok, promise_ok p c m pp, accepted_ok p c m pa, fN_eq, e2]
  simp only [Option.bind_some]
  by_cases h1 : m.Epoch = p.Epoch
  · by_cases h2 : m.Ballot = p.Ballot
    · by_cases h3 : m.From ≥ 0
      · simp only [h1, h2, beq_self_eq_true, decide_eq_true h3, cond_true]
        exact yes _ fun h => by
          simp only [decide_eq_false_iff_not] at h
          exact fun k => h k.2.2.2
      · simp only [h1, h2, beq_self_eq_true, decide_eq_false h3, cond_true, cond_false]
        exact yes _ fun _ k => h3 k.2.2.1
    · simp only [h1, beq_self_eq_true, cond_true, beq_eq_false_iff_ne.2 h2, cond_false]
      exact yes _ fun _ k => h2 k.2.1
  · simp only [beq_eq_false_iff_ne.2 h1, cond_false]
    exact yes _ fun _ k => h1 k.1
end Go.RX.L
